/- Fill. -/
import Derived.Test.YtgiokigokedakaaMemE
set_option linter.unusedVariables false
set_option linter.unusedSimpArgs false
namespace Go.Proofs.Ytgiokigokedakaa
open Go.RowKit
/-- n bytes of a pattern, over and over. -/
def rep (pat : List Int) (n : Nat) : List Int := (List.range n).map fun i => pat[i % pat.length]?.getD 0
@[simp] theorem length_rep (pat : List Int) (n : Nat) : (rep pat n).length = n := by simp [rep]
theorem U8s.rep {pat : List Int} (h : U8s pat) (n : Nat) : U8s (rep pat n) := fun z hz => by
  simp only [Go.Proofs.Ytgiokigokedakaa.rep, List.mem_map] at hz
  obtain ⟨i, _, rfl⟩ := hz
  exact h.get _
theorem rep_get (pat : List Int) (n i : Nat) (h : i < n) : (rep pat n)[i]? = some (pat[i % pat.length]?.getD 0) := by simp [rep, h]
/-- The next piece: at a multiple of the pattern's length, as much of it as there is room for. -/
theorem rep_chunk (pat : List Int) (n k m : Nat) (h0 : 0 < pat.length) (hk : k % pat.length = 0) (hm : m = Nat.min pat.length (n - k)) (hkn : k ≤ n) : (rep pat n).take (k + m) = (rep pat n).take k ++ pat.take m := by
  have hm1 : m ≤ pat.length ∧ m ≤ n - k := by
    rw [hm]; exact ⟨Nat.min_le_left _ _, Nat.min_le_right _ _⟩
  apply List.ext_getElem?
  intro i
  by_cases h1 : i < k
  · rw [List.getElem?_take_of_lt (by omega), List.getElem?_append_left (by simp; omega), List.getElem?_take_of_lt h1]
  · rw [List.getElem?_append_right (by simp; omega)]
    have e : ((rep pat n).take k).length = k := by simp; omega
    rw [e]
    by_cases h2 : i < k + m
    · rw [List.getElem?_take_of_lt h2, List.getElem?_take_of_lt (by omega), rep_get _ _ _ (by omega)]
      have e2 : i % pat.length = i - k := by
        obtain ⟨q, hq⟩ := Nat.dvd_of_mod_eq_zero hk
        have : i = (i - k) + pat.length * q := by omega
        rw [this, Nat.add_mul_mod_self_left, Nat.mod_eq_of_lt (by omega)]
        omega
      rw [e2, List.getElem?_eq_getElem (by omega)]
      rfl
    · rw [List.getElem?_eq_none (by simp; omega), List.getElem?_eq_none (by simp; omega)]
theorem splice_app {α : Type} (L : List α) (a k : Nat) (cs ds : List α) (hk : cs.length = k) (h : a + (cs.length + ds.length) ≤ L.length) : splice (splice L a cs) (a + k) ds = splice L a (cs ++ ds) := by
  subst hk
  have hl : (splice L a cs).length = L.length := length_splice L a cs (by omega)
  apply List.ext_getElem?
  intro i
  rw [splice_get _ _ _ (by omega), splice_get _ _ _ (by omega), splice_get _ _ _ (by simp; omega)]
  simp only [List.length_append]
  by_cases h1 : i < a
  · rw [if_pos (by omega), if_pos h1, if_pos h1]
  · rw [if_neg h1, if_neg h1]
    by_cases h2 : i < a + cs.length
    · rw [if_pos h2, if_pos h2, if_pos (by omega), List.getElem?_append_left (by omega)]
    · rw [if_neg h2, if_neg h2]
      by_cases h3 : i < a + (cs.length + ds.length)
      · rw [if_pos (by omega), if_pos h3, List.getElem?_append_right (by omega)]
        congr 1; omega
      · rw [if_neg (by omega), if_neg h3]
theorem fill_step {w w' : World} {p g : Nat} {zs pat : List Int} {a n k m : Nat} (h : MemB w p g (splice zs a ((rep pat n).take k))) (ho : a + n ≤ zs.length) (hp : U8s pat) (h0 : 0 < pat.length) (hk : k % pat.length = 0) (hm : m = Nat.min pat.length (n - k)) (hkn : k ≤ n)
    (hb : Blk w' g 5 (splice ((splice zs a ((rep pat n).take k)).map (Value.int .u8)) (a + k) ((pat.map (Value.int .u8)).take m)).toArray) (hkw : Kept [g] w w') : MemB w' p g (splice zs a ((rep pat n).take (k + m))) := by
  have hm1 : m ≤ pat.length ∧ m ≤ n - k := by
    rw [hm]; exact ⟨Nat.min_le_left _ _, Nat.min_le_right _ _⟩
  have e : ((rep pat n).take k).length = k := by simp; omega
  have e2 : (pat.take m).length = m := by simp; omega
  have hl : (splice zs a ((rep pat n).take k)).length = zs.length := length_splice _ _ _ (by omega)
  rw [rep_chunk pat n k m h0 hk hm hkn, ← splice_app zs a k _ _ e (by omega)]
  exact h.spliced (a + k) (pat.take m) (hp.take m) (by omega) (by rw [List.map_take]; exact hb) hkw
theorem slice_eq {A A' : Option Addr} {n n' c c' : Nat} (h : A = A') (hn : n = n') (hc : c = c') : Value.slice A n c = .slice A' n' c' := by rw [h, hn, hc]
set_option maxHeartbeats 2000000 in
theorem fill_in (w : World) (p g : Nat) (zs : List Int) (h : MemB w p g zs) (a n : Nat) (ho : a + n ≤ zs.length) (A : Option Addr) (l c : Nat) (pat : List Int) (hl : l = pat.length) (hr : ∀ w', Kept [g] w w' → RowX .u8 w' A pat) (hp : U8s pat) (h0 : 0 < pat.length) (hp3 : pat.length ≤ 9223372036854775807) :
    Calls Try.prog 24 #[.pointer (some ⟨p, 0, none⟩), .int .u64 a, .int .u64 n, .slice A l c] w fun e w' => e = .returned (.int .i64 0) ∧ MemB w' p g (splice zs a (rep pat n)) ∧ Kept [g] w w' := by
  subst hl
  have hz := h.2.2.1
  have HM := Lib.hid h
  have HR := Lib.hid hr
  have c1 := Lib.hid (in_in w p g zs h a n ho)
  have h0' : ((pat.length : Int) == 0) = false := beq_eq_false_iff_ne.2 (by omega)
  clear h hr
  go_enter Try.func24, Try.ntmps24
  go_wp2_with fail
  (with_reducible refine c1.out.mono ?_)
  rintro e w' ⟨rfl, rfl⟩
  go_wp2_with fail
  clear h0'
  go_loopw [9] (fun t wr => ∃ k o : Nat, k ≤ n ∧ t = .slice (some ⟨g, o, none⟩) (n - k) (zs.length - a - k) ∧ (k < n → o = a + k ∧ k % pat.length = 0) ∧ Hid (MemB wr p g (splice zs a ((rep pat n).take k))) ∧ Kept [g] w wr) (fun t _ => match t with | .slice _ m _ => m | _ => 0)
  case atStart => exact ⟨0, _, Nat.zero_le _, rfl, fun hn => ⟨offOf_lt ho hn, Nat.zero_mod _⟩, Lib.hid (by simpa [splice_nil] using HM.out), Kept.refl _ _⟩
  case round =>
    obtain ⟨k, o, hk, rfl, hko, hm, hkw⟩ := hrel
    by_cases hlt : k < n
    · obtain ⟨rfl, hkm⟩ := hko hlt
      have HK := Lib.hid hkm
      clear hko hkm
      have hlt' : 0 < n - k := by omega
      obtain ⟨m, hmm⟩ : ∃ m, m = Nat.min pat.length (n - k) := ⟨_, rfl⟩
      have hm1 : 0 < m ∧ m ≤ pat.length ∧ m ≤ n - k ∧ (m = pat.length ∨ m = n - k) := by
        rw [hmm]; simp only [Nat.min_def]; split <;> omega
      obtain ⟨hm0, hmp, hmn, hmo⟩ := hm1
      have HMM := Lib.hid hmm
      have HMO := Lib.hid hmo
      clear hmm hmo
      have hlz : (splice zs a ((rep pat n).take k)).length = zs.length := length_splice _ _ _ (by simp; omega)
      have HLZ := Lib.hid hlz
      clear hlz
      by_cases hcap : zs.length - a - k = m
      · have hkn : k + m = n := by omega
        go_wp2_with (refine copy_kept rfl (.tmp 26) (.tmp 27) 22 22 rfl 5 Try.underlying22 size_u8 (some ⟨g, a + k, none⟩) A _ _ _ _ rfl rfl g (a + k) ((splice zs a ((rep pat n).take k)).map (Value.int .u8)) 5 hm.out.2.1 ((pat.take m).map (Value.int .u8)) (by rw [List.length_map, List.length_take, ← HMM.out]; omega) (fun h0 => ?hpos) (by rw [List.length_map, List.length_map, List.length_take, HLZ.out]; omega) (one_vals _) ?_)
        case hpos =>
          obtain ⟨ad, rfl⟩ := row_some (HR.out _ hkw) (by omega)
          refine ⟨ad, rfl, fun j v hj => ?_⟩; exact (by
            have hjm : j < m := by
              rcases Nat.lt_or_ge j m with h1 | h1
              · exact h1
              · rw [List.getElem?_eq_none (by simp; omega)] at hj; cases hj
            rw [List.getElem?_take_of_lt hjm] at hj
            exact row_vals (HR.out _ hkw) j v hj)
        intro w2 hb2 hk2
        go_wp2
        go_roundw
        case rel => exact ⟨k + m, _, by omega, slice_eq rfl (by omega) (by omega), fun h => ⟨by omega, by rcases HMO.out with h1 | h1 <;> first | (rw [h1, Nat.add_mod_right]; exact HK.out) | (exfalso; omega)⟩, Lib.hid (fill_step hm.out ho hp h0 HK.out HMM.out hk hb2.out hk2), hk2.thenS hkw⟩
        case measure => (simp only []; omega)
      · go_wp2_with (refine copy_kept rfl (.tmp 26) (.tmp 27) 22 22 rfl 5 Try.underlying22 size_u8 (some ⟨g, a + k, none⟩) A _ _ _ _ rfl rfl g (a + k) ((splice zs a ((rep pat n).take k)).map (Value.int .u8)) 5 hm.out.2.1 ((pat.take m).map (Value.int .u8)) (by rw [List.length_map, List.length_take, ← HMM.out]; omega) (fun h0 => ?hpos) (by rw [List.length_map, List.length_map, List.length_take, HLZ.out]; omega) (one_vals _) ?_)
        case hpos =>
          obtain ⟨ad, rfl⟩ := row_some (HR.out _ hkw) (by omega)
          refine ⟨ad, rfl, fun j v hj => ?_⟩; exact (by
            have hjm : j < m := by
              rcases Nat.lt_or_ge j m with h1 | h1
              · exact h1
              · rw [List.getElem?_eq_none (by simp; omega)] at hj; cases hj
            rw [List.getElem?_take_of_lt hjm] at hj
            exact row_vals (HR.out _ hkw) j v hj)
        intro w2 hb2 hk2
        go_wp2
        go_roundw
        case rel => exact ⟨k + m, _, by omega, slice_eq rfl (by omega) (by omega), fun h => ⟨by omega, by rcases HMO.out with h1 | h1 <;> first | (rw [h1, Nat.add_mod_right]; exact HK.out) | (exfalso; omega)⟩, Lib.hid (fill_step hm.out ho hp h0 HK.out HMM.out hk hb2.out hk2), hk2.thenS hkw⟩
        case measure => (simp only []; omega)
    · obtain rfl : k = n := by omega
      have e0 : k - k = 0 := Nat.sub_self k
      go_wp2
      go_ret
      exact ⟨rfl, by have := hm.out; rwa [List.take_of_length_le (by simp)] at this, hkw⟩
theorem fill_out (w : World) (p g : Nat) (zs : List Int) (h : MemB w p g zs) (a n : Int) (A : Option Addr) (l c : Nat) (ha : 0 ≤ a) (hn : 0 ≤ n) (h0 : 0 < l) (hl : l ≤ 9223372036854775807) (ho : (zs.length : Int) < a ∨ (zs.length : Int) - a < n) :
    Calls Try.prog 24 #[.pointer (some ⟨p, 0, none⟩), .int .u64 a, .int .u64 n, .slice A l c] w fun e w' => e = .returned (.int .i64 3) ∧ w = w' := by
  have c1 := Lib.hid (in_out w p g zs h a n ha hn ho)
  have h0' : ((l : Int) == 0) = false := beq_eq_false_iff_ne.2 (by omega)
  clear h ho
  go_enter Try.func24, Try.ntmps24
  go_wp2_with fail
  (with_reducible refine c1.out.mono ?_)
  rintro e w' ⟨rfl, rfl⟩
  go_wp2_with fail
  go_loop [9] (fun t => t = .slice none 0 0) (fun _ => 0)
  case atStart => rfl
  case round =>
    subst hrel
    go_wp2
    go_ret
    exact ⟨rfl, rfl⟩
theorem fill_nil_out (w : World) (p g : Nat) (zs : List Int) (h : MemB w p g zs) (a n : Int) (A : Option Addr) (c : Nat) (ha : 0 ≤ a) (hn : 0 ≤ n) (ho : (zs.length : Int) < a ∨ (zs.length : Int) - a < n) :
    Calls Try.prog 24 #[.pointer (some ⟨p, 0, none⟩), .int .u64 a, .int .u64 n, .slice A 0 c] w fun e w' => e = .returned (.int .i64 3) ∧ Kept [] w w' := by
  have c1 := Lib.hid (in_out w p g zs h a n ha hn ho)
  clear h ho
  go_enter Try.func24, Try.ntmps24
  go_wp2_with fail
  (with_reducible refine c1.out.mono ?_)
  rintro e w' ⟨rfl, rfl⟩
  go_wp2_with fail
  go_loop [9] (fun t => t = .slice none 0 0) (fun _ => 0)
  case atStart => rfl
  case round =>
    subst hrel
    go_wp2
    go_ret
    exact ⟨rfl, by (repeat' (first | (with_reducible exact Kept.refl _ _) | (with_reducible assumption) | (with_reducible refine Kept.then_ (by with_reducible assumption) ?_) | (with_reducible refine Kept.thenS (by with_reducible assumption) ?_) | (with_reducible refine Kept.alloc ?_ _) | (with_reducible refine Kept.drew ?_) | (with_reducible refine Kept.drewN ?_ _) | (with_reducible refine Kept.setNew ?_ ?_ _) | ((try simp only [World.size_alloc, World.size_setCell, World.size_drew, size_drewN] at *); (try dsimp only); omega)))⟩
theorem min_one {x : Nat} (h : 0 < x) : 1 = Nat.min 1 x := by show 1 = min 1 x; omega
set_option maxHeartbeats 2000000 in
theorem fill_nil (w : World) (p g : Nat) (zs : List Int) (h : MemB w p g zs) (a n : Nat) (ho : a + n ≤ zs.length) (A : Option Addr) (c : Nat) :
    Calls Try.prog 24 #[.pointer (some ⟨p, 0, none⟩), .int .u64 a, .int .u64 n, .slice A 0 c] w fun e w' => e = .returned (.int .i64 0) ∧ MemB w' p g (splice zs a (rep [0] n)) ∧ Kept [g] w w' := by
  have hz := h.2.2.1
  have hz1 : U8s [0] := fun z hz => by simp at hz; omega
  have HM := Lib.hid h
  have c1 := Lib.hid (in_in w p g zs h a n ho)
  have hgl := h.2.1.lt
  clear h
  go_enter Try.func24, Try.ntmps24
  go_wp2_with fail
  (with_reducible refine c1.out.mono ?_)
  rintro e w' ⟨rfl, rfl⟩
  go_wp2_with fail
  have HW : Hid (Kept [] w (w.alloc (.cells #[.int .u8 0] 5))) := Lib.hid (by (repeat' (first | (with_reducible exact Kept.refl _ _) | (with_reducible assumption) | (with_reducible refine Kept.then_ (by with_reducible assumption) ?_) | (with_reducible refine Kept.thenS (by with_reducible assumption) ?_) | (with_reducible refine Kept.alloc ?_ _) | (with_reducible refine Kept.drew ?_) | (with_reducible refine Kept.drewN ?_ _) | (with_reducible refine Kept.setNew ?_ ?_ _) | ((try simp only [World.size_alloc, World.size_setCell, World.size_drew, size_drewN] at *); (try dsimp only); omega))))
  have HR : Hid (∀ w', Kept [g] (w.alloc (.cells #[.int .u8 0] 5)) w' → RowX .u8 w' (some ⟨w.heap.size, 0, none⟩) [0]) := Lib.hid (fun w' hk => RowX.of_blk ((Blk.new w 5 #[.int .u8 0]).keep hk (by simp; omega)) (fun i hi => by
    match i, hi with
    | 0, _ => rfl))
  have HM1 : Hid (MemB (w.alloc (.cells #[.int .u8 0] 5)) p g zs) := Lib.hid (HM.out.keep0 HW.out)
  go_loopw [9] (fun t wr => ∃ k o : Nat, k ≤ n ∧ t = .slice (some ⟨g, o, none⟩) (n - k) (zs.length - a - k) ∧ (k < n → o = a + k) ∧ Hid (MemB wr p g (splice zs a ((rep [0] n).take k))) ∧ Kept [g] (w.alloc (.cells #[.int .u8 0] 5)) wr) (fun t _ => match t with | .slice _ m _ => m | _ => 0)
  case atStart => exact ⟨0, _, Nat.zero_le _, rfl, fun hn => offOf_lt ho hn, Lib.hid (by simpa [splice_nil] using HM1.out), Kept.refl _ _⟩
  case round =>
    obtain ⟨k, o, hk, rfl, hko, hm, hkw⟩ := hrel
    by_cases hlt : k < n
    · obtain rfl := hko hlt
      clear hko
      have hlt' : 0 < n - k := by omega
      have hlz : (splice zs a ((rep [0] n).take k)).length = zs.length := length_splice _ _ _ (by simp; omega)
      have HLZ := Lib.hid hlz
      clear hlz
      by_cases hcap : zs.length - a - k = 1
      · have hkn : k + 1 = n := by omega
        go_wp2_with (refine copy_kept rfl (.tmp 26) (.tmp 27) 22 22 rfl 5 Try.underlying22 size_u8 (some ⟨g, a + k, none⟩) (some ⟨w.heap.size, 0, none⟩) _ _ _ _ rfl rfl g (a + k) ((splice zs a ((rep [0] n).take k)).map (Value.int .u8)) 5 hm.out.2.1 [Value.int .u8 0] (min_one hlt') (fun h0 => ?hpos) (by rw [List.length_map, HLZ.out]; simp; omega) (by simp [Value.oneCell']) ?_)
        case hpos =>
          have := row_vals (HR.out _ hkw)
          simpa only [Addr.add_lit, Nat.zero_add, List.map_cons, List.map_nil] using this
        intro w2 hb2 hk2
        go_wp2
        go_roundw
        case rel => exact ⟨k + 1, _, by omega, slice_eq rfl (by omega) (by omega), fun h => by omega, Lib.hid (fill_step (m := 1) hm.out ho hz1 (by simp) (Nat.mod_one k) (min_one hlt') hk hb2.out hk2), hk2.thenS hkw⟩
        case measure => (simp only []; omega)
      · go_wp2_with (refine copy_kept rfl (.tmp 26) (.tmp 27) 22 22 rfl 5 Try.underlying22 size_u8 (some ⟨g, a + k, none⟩) (some ⟨w.heap.size, 0, none⟩) _ _ _ _ rfl rfl g (a + k) ((splice zs a ((rep [0] n).take k)).map (Value.int .u8)) 5 hm.out.2.1 [Value.int .u8 0] (min_one hlt') (fun h0 => ?hpos) (by rw [List.length_map, HLZ.out]; simp; omega) (by simp [Value.oneCell']) ?_)
        case hpos =>
          have := row_vals (HR.out _ hkw)
          simpa only [Addr.add_lit, Nat.zero_add, List.map_cons, List.map_nil] using this
        intro w2 hb2 hk2
        go_wp2
        go_roundw
        case rel => exact ⟨k + 1, _, by omega, slice_eq rfl (by omega) (by omega), fun h => by omega, Lib.hid (fill_step (m := 1) hm.out ho hz1 (by simp) (Nat.mod_one k) (min_one hlt') hk hb2.out hk2), hk2.thenS hkw⟩
        case measure => (simp only []; omega)
    · obtain rfl : k = n := by omega
      have e0 : k - k = 0 := Nat.sub_self k
      go_wp2
      go_ret
      exact ⟨rfl, by have := hm.out; rwa [List.take_of_length_le (by simp)] at this, hkw.thenS (HW.out.mono (by simp))⟩
end Go.Proofs.Ytgiokigokedakaa
