/- A chain from a block on is the list of what hangs on it; of fewer than there are it doesn't end; a ring never does. No condition. -/
import Derived.Test.YtapolaefdbdnpaaListC
import Derived.Test.YtapolaefdbdnpaaAllBad
set_option linter.unusedVariables false
set_option linter.unusedSimpArgs false
namespace Go.Proofs.Ytapolaefdbdnpaa.ListChains
open Go.RowKit Go.ChangeShapes Go.WideShapes Go.ChangeAt Go.Joins
theorem chn_suffix {z : List Int} {L : List Nat} : ∀ {M : List Nat} {hd : Nat}, Chn z hd (M ++ L) → ∃ h, Chn z h L := by
  intro M
  induction M with
  | nil => intro hd h; exact ⟨hd, h⟩
  | cons x M ih => rintro hd ⟨_, _, _, hc⟩; exact ih hc
theorem chn_head {z : List Int} {L : List Nat} {hd : Nat} (h : Chn z hd L) (hl : L ≠ []) : hd ∈ L := by
  cases L with
  | nil => exact absurd rfl hl
  | cons x M => rw [h.1]; simp
theorem next_mem {z : List Int} {a : Nat} : ∀ {P : List Nat} {hd : Nat}, Chn z hd (P ++ [a]) → ∀ c, c ∈ P → lk z c ∈ P ++ [a] := by
  intro P
  induction P with
  | nil => intro hd _ c hc; cases hc
  | cons x P ih =>
    rintro hd ⟨rfl, _, _, hn⟩ c hc
    rcases List.mem_cons.1 hc with rfl | hc
    · have := chn_head hn (by simp)
      simp at this ⊢
      right; exact this
    · have := ih hn c hc
      simp at this ⊢
      right; exact this
theorem ring {z : List Int} {a h : Nat} {P : List Nat} (hz : z.length ≤ 1048576) (hc : Chn z h (P ++ [a])) (hap : Apart (P ++ [a])) : ∀ N, ∃ c, at_ (splice z a (bytesOf 8 (h : Int))) h N = some c ∧ c ∈ P ++ [a] := by
  have ha := hc.len a (by simp)
  have hl := len_splice8 z a (h : Int) ha.2
  intro N
  induction N with
  | zero => exact ⟨h, rfl, chn_head hc (by simp)⟩
  | succ N ih =>
    obtain ⟨c, h1, h2⟩ := ih
    have h3 := hc.len c h2
    refine ⟨_, at_succ h1 h3.1 (by rw [hl]; exact h3.2), ?_⟩
    rcases List.mem_append.1 h2 with h4 | h4
    · have h5 := (List.pairwise_append.1 hap).2.2 c h4 a (by simp)
      rw [lk_far z a c _ ha.2 (by omega)]
      exact next_mem hc c h4
    · simp at h4
      subst h4
      rw [lk_same z c h ha.2 (hc.hd64 hz)]
      exact chn_head hc (by simp)
theorem chain_chn (w : World) (p g : Nat) (z : List Int) (hM : MemB w p g z) (hd : Nat) (L : List Nat) (hc : Chn z hd L) (most : Int) (hm : -9223372036854775808 ≤ most ∧ most ≤ 9223372036854775807) (hL : L.length ≤ z.length) :
    Calls Try.prog 14 #[.pointer (some ⟨p, 0, none⟩), .int .u64 (hd : Int), .int .i64 most] w fun e w' => (((L = [] ∨ (L.length : Int) ≤ most) ∧ e = .returned (.tuple #[.agg #[.int .u64 (hd : Int), .int .i64 (L.length : Int)], .int .i64 0])) ∨ (¬ (L = [] ∨ (L.length : Int) ≤ most) ∧ e = .returned (.tuple #[.agg #[.int .u64 0, .int .i64 0], .int .i64 3]))) ∧ Kept [] w w' := by
  have hend := hc.at_end
  refine (chain_any w p g z hM hd (hc.hd64 hM.2.2.1) most _ rfl hm).mono ?_
  rintro e w' ⟨h1 | ⟨h1, h2⟩, hk⟩
  · obtain ⟨N, hN, hNm, rfl⟩ := h1
    have e1 : N = L.length := by
      rcases Nat.lt_trichotomy N L.length with h2 | h2 | h2
      · have := at_stop hN (.inl rfl) _ h2
        rw [this] at hend; cases hend
      · exact h2
      · have := at_stop hend (.inl rfl) _ h2
        rw [this] at hN; cases hN
    subst e1
    refine ⟨.inl ⟨?_, rfl⟩, hk⟩
    rcases hNm with h | h
    · left; exact List.length_eq_zero_iff.1 h
    · right; omega
  · refine ⟨.inr ⟨fun h => ?_, h2⟩, hk⟩
    apply h1 _ hend
    rcases h with rfl | h
    · left; rfl
    · right; omega
theorem chain_yes (w : World) (p g : Nat) (z : List Int) (hM : MemB w p g z) (hd q : Nat) (L : List Nat) (hc : Chn z hd L) (hq : L.length = q) (hL : q ≤ z.length) :
    Calls Try.prog 14 #[.pointer (some ⟨p, 0, none⟩), .int .u64 (hd : Int), .int .i64 (q : Int)] w fun e w' => e = .returned (.tuple #[.agg #[.int .u64 (hd : Int), .int .i64 (q : Int)], .int .i64 0]) ∧ Kept [] w w' := by
  subst hq
  have hz := hM.2.2.1
  refine (chain_chn w p g z hM hd L hc (L.length : Int) (by omega) hL).mono ?_
  rintro e w' ⟨⟨_, h⟩ | ⟨h, _⟩, hk⟩
  · exact ⟨h, hk⟩
  · exact absurd (.inr (Int.le_refl _)) h
theorem chain_no (w : World) (p g : Nat) (z : List Int) (hM : MemB w p g z) (hd q : Nat) (L : List Nat) (hc : Chn z hd L) (hq : L.length = q + 1) (hL : q + 1 ≤ z.length) :
    Calls Try.prog 14 #[.pointer (some ⟨p, 0, none⟩), .int .u64 (hd : Int), .int .i64 (q : Int)] w fun e w' => e = .returned (.tuple #[.agg #[.int .u64 0, .int .i64 0], .int .i64 3]) ∧ Kept [] w w' := by
  have hz := hM.2.2.1
  refine (chain_chn w p g z hM hd L hc (q : Int) (by omega) (by omega)).mono ?_
  rintro e w' ⟨⟨h, _⟩ | ⟨_, h⟩, hk⟩
  · rcases h with rfl | h
    · simp at hq
    · omega
  · exact ⟨h, hk⟩
set_option maxRecDepth 100000 in
set_option maxHeartbeats 8000000 in
theorem walk (a0 : Option Addr) (len0 cap0 : Nat) (z0 : List Int) (x1 : Int) (W : World) (w0 : IsRow .u8 W a0 len0 cap0 z0) (w1 : (Lit.int .u8 x1).wf = true) :
    Calls Try.prog 3 #[.slice a0 len0 cap0, .int .u8 x1] W fun e W' => e = .returned (.bool true) ∧ Below W.heap.size W W' := by
  have bx := bounds_u8 w1
  obtain ⟨ys, hl, hr, _, hwf, hlc, hcm⟩ := w0.seen
  unfold maxLen at hcm
  have hu : ∀ z, z ∈ ys → 0 ≤ z ∧ z ≤ 255 := fun z hz => bounds_u8 (hwf z hz)
  subst hl
  have HU := Lib.hid hu
  have HR := Lib.hid hr
  clear w0 hr hwf hu w1
  obtain ⟨zs, hzs⟩ : ∃ zs, zeros 2048 = zs := ⟨_, rfl⟩
  have HZL : Hid (zs.length = 2048) := Lib.hid (by rw [← hzs]; exact length_zeros _)
  have C1 : Hid (∀ w : World, Calls Try.prog 11 #[.int .u64 2048] w fun e w' => e = .returned (.tuple #[.pointer (some ⟨w.heap.size + 1, 0, none⟩), .int .i64 0]) ∧ MemB w' (w.heap.size + 1) w.heap.size zs ∧ Kept [] w w') := Lib.hid (by
    intro w; have := new_any w 2048 (by omega) (by omega) (by omega); rw [hzs] at this; exact this)
  clear hzs
  go_enter Try.func3, Try.ntmps3
  go_wp2_with fail
  (with_reducible refine (alive_any _).mono ?_)
  rintro e w1 ⟨rfl, hb1⟩
  have hs1 := hb1.size
  (try simp only [World.size_alloc, World.size_setCell, World.size_drew, size_drewN] at hs1)
  go_wp2_with fail
  (with_reducible refine (C1.out _).mono ?_)
  rintro e w2 ⟨rfl, hM2, hb2⟩
  have hs2 := hb2.size
  (try simp only [World.size_alloc, World.size_setCell, World.size_drew, size_drewN] at hs2)
  have M2 := Lib.hid hM2
  have hg2 := hM2.2.1.lt
  clear hM2
  (try simp only [size_drewN, World.size_drew] at M2 hg2)
  have hp2 := M2.out.1.lt
  go_wp2_with fail
  (with_reducible refine (blocks_any _ _ _ HU.out _ (HR.out.keep (hb1.trans0 hb2)) (by omega)).mono ?_)
  rintro e w3 ⟨⟨A, n, c, ns, rfl, hbl, rfl, hO3, hA3⟩, hb3⟩
  have hs3 := hb3.size
  (try simp only [World.size_alloc, World.size_setCell, World.size_drew, size_drewN] at hs3)
  have O3 := Lib.hid hO3
  clear hO3
  (try simp only [size_drewN, World.size_drew] at O3)
  have M3 := Lib.hid (M2.out.keep0 hb3)
  obtain ⟨xs, rfl, hv, hpw⟩ := hbl.nats
  rw [List.length_map]
  have hlen := hbl.len
  rw [List.length_map] at hlen
  have HV := Lib.hid hv
  have HAP : Hid (Apart xs) := Lib.hid hpw
  have K3 : Hid (Kept [] W w3) := Lib.hid (by (repeat' (first | (with_reducible exact Kept.refl _ _) | (with_reducible assumption) | (with_reducible refine Kept.then_ (by with_reducible assumption) ?_) | (with_reducible refine Kept.thenS (by with_reducible assumption) ?_) | (with_reducible refine Kept.thenG (by with_reducible assumption) ?_ ?_) | (with_reducible refine Kept.thenG2 (by with_reducible assumption) ?_ ?_ ?_) | (with_reducible refine Kept.alloc ?_ _) | (with_reducible refine Kept.drew ?_) | (with_reducible refine Kept.drewN ?_ _) | (with_reducible refine Kept.setNew ?_ ?_ _) | ((try simp only [World.size_alloc, World.size_setCell, World.size_drew, size_drewN] at *); (try dsimp only); omega))))
  clear hv hpw hbl
  have HI : Hid (∀ S w', Kept S (w3.alloc (.cells #[.int .u64 0, .int .i64 0] 32)) w' → (∀ s, s ∈ S → s < w2.heap.size + 1 ∨ w3.heap.size ≤ s) → RowX .u64 w' A (xs.map (fun (x : Nat) => (x : Int)))) := Lib.hid (fun S w' hk hS => by
    have hO := O3.out
    rw [List.length_map] at hO
    exact ((hO.kept ((Kept.refl [] w3).alloc _)).keepN hk (fun s hs => by
      rcases hS s hs with h | h
      · left; exact h
      · right; exact hO.new_ne h)).row)
  have D5 : Hid (Calls Try.prog 13 #[.pointer (some ⟨w3.heap.size, 0, none⟩), .pointer (some ⟨w1.heap.size + 1, 0, none⟩), .slice A xs.length c] (w3.alloc (.cells #[.int .u64 0, .int .i64 0] 32)) (PushIs (w3.alloc (.cells #[.int .u64 0, .int .i64 0] 32)) w3.heap.size (w1.heap.size + 1) w1.heap.size zs [] xs)) := Lib.hid (by
    refine push_chn _ _ _ _ _ 0 [] xs A _ c (M3.out.keep0 ((Kept.refl [] _).alloc _)) (Blk.new _ _ _) rfl (fun a ha => by have := HV.out a ha; have := HZL.out; omega) ?_ ?_ rfl (by simp; omega)
    · rw [List.append_nil]; exact HAP.out
    · intro w' hk
      exact HI.out _ w' hk (fun s hs => by simp at hs; omega))
  go_wp2_with fail
  (with_reducible refine D5.out.mono ?_)
  rintro e w5 ⟨rfl, z5, h5, hM5, hZ5, hC5, hL5, hb5⟩
  have hs5 := hb5.size
  simp only [World.size_alloc] at hs5
  have M5 := Lib.hid hM5
  have Z5 : Hid (z5.length = 2048) := Lib.hid (by rw [hZ5.1, HZL.out])
  have C5 : Hid (Chn z5 h5 xs.reverse) := Lib.hid (by rwa [List.append_nil] at hC5)
  have X5 : Hid (ListB w5 w3.heap.size (h5 : Int) (xs.length : Int)) := Lib.hid (by
    have e1 : (xs.reverse ++ []).length = xs.length := by simp
    rwa [e1] at hL5)
  have K5 : Hid (Kept [] W w5) := Lib.hid (hb5.thenL (K3.out.alloc _) (fun s hs => by have := K3.out.size; simp at hs; omega))
  clear hM5 hZ5 hC5 hL5 D5
  have D6 : Hid (Calls Try.prog 14 #[.pointer (some ⟨w1.heap.size + 1, 0, none⟩), .int .u64 0, .int .i64 0] w5 fun e w' => e = .returned (.tuple #[.agg #[.int .u64 0, .int .i64 0], .int .i64 0]) ∧ Kept [] w5 w') := Lib.hid (chain_yes w5 (w1.heap.size + 1) w1.heap.size z5 M5.out 0 0 [] rfl rfl (Nat.zero_le _))
  go_wp2_with fail
  (with_reducible refine D6.out.mono ?_)
  rintro e w6 ⟨rfl, hb6⟩
  have hs6 := hb6.size
  by_cases h0 : xs.length = 0
  · have hq : ((xs.length : Int) == 0) = true := by rw [beq_iff_eq]; omega
    go_wp2_with fail
    go_ret
    exact ⟨rfl, Kept.below ((hb6.then_ K5.out).alloc _)⟩
  · have hq : ((xs.length : Int) == 0) = false := by rw [beq_eq_false_iff_ne]; omega
    have hq2 : 0 < xs.length := by omega
    obtain ⟨k, hk⟩ : ∃ k : Nat, x1 % (xs.length : Int) = (k : Int) := ⟨(x1 % (xs.length : Int)).toNat, by have := Int.emod_nonneg x1 (b := (xs.length : Int)) (by omega); omega⟩
    have hkn : k < xs.length := by have := Int.emod_lt_of_pos x1 (b := (xs.length : Int)) (by omega); omega
    have q1 : (k : Int) < (xs.length : Int) := by omega
    have q2 : (0 : Int) ≤ (k : Int) := by omega
    have q3 : (1 : Int) ≤ (xs.length : Int) := by omega
    -- what hangs on the k-th
    have HSP : Hid (xs.reverse = (xs.drop (k + 1)).reverse ++ (xs.take (k + 1)).reverse) := Lib.hid (by rw [← List.reverse_append, List.take_append_drop])
    have HL1 : Hid ((xs.take (k + 1)).reverse.length = k + 1) := Lib.hid (by simp; omega)
    have HG0 : Hid ((xs.take (k + 1)).reverse[0]? = some xs[k]) := Lib.hid (by
      rw [List.getElem?_reverse (by simp; omega)]
      simp [List.getElem?_take, hkn, Nat.min_eq_left (show k + 1 ≤ xs.length by omega)])
    have HGK : Hid ((xs.take (k + 1)).reverse[k]? = some xs[0]) := Lib.hid (by
      rw [List.getElem?_reverse (by simp; omega)]
      simp [List.getElem?_take, Nat.min_eq_left (show k + 1 ≤ xs.length by omega)])
    have HXK : Hid (xs[k]? = some xs[k]) := Lib.hid (List.getElem?_eq_getElem hkn)
    have HX0 : Hid (xs[0]? = some xs[0]) := Lib.hid (List.getElem?_eq_getElem hq2)
    have HTL : Hid (xs.reverse = xs.tail.reverse ++ [xs[0]]) := Lib.hid (by
      cases xs with
      | nil => exact absurd rfl h0
      | cons b t => simp)
    generalize xs[k] = a at HG0 HXK
    generalize xs[0] = b at HGK HX0 HTL
    generalize hL1 : (xs.take (k + 1)).reverse = L1 at HSP HL1 HG0 HGK
    clear hL1
    have CL1 : Hid (Chn z5 a L1) := Lib.hid (by
      have h1 := C5.out
      rw [HSP.out] at h1
      obtain ⟨h, h2⟩ := chn_suffix h1
      cases L1 with
      | nil => have := HL1.out; simp at this
      | cons x t =>
        have h3 := HG0.out
        simp at h3
        subst h3
        have h4 := h2.1
        subst h4
        exact h2)
    have K67 : Hid (Kept [] w5 (w6.alloc (.cells #[.int .u64 0, .int .i64 0] 32))) := Lib.hid (hb6.alloc _)
    have HI7 : Hid (∀ w', Kept [] (w6.alloc (.cells #[.int .u64 0, .int .i64 0] 32)) w' → RowX .u64 w' A (xs.map (fun (x : Nat) => (x : Int)))) := Lib.hid (fun w' hk => HI.out [w3.heap.size, w1.heap.size] w' ((hb5.trans (K67.out.then_ (Kept.refl _ _)) (fun s hs _ => hs)).trans (hk.mono (T := [w3.heap.size, w1.heap.size]) (fun s hs _ => by cases hs)) (fun s hs _ => hs)) (fun s hs => by simp at hs; omega))
    obtain ⟨ad, rfl, hc⟩ := (HI7.out _ (Kept.refl _ _)).get (by simp; omega)
    have hcell : (w6.alloc (.cells #[.int .u64 0, .int .i64 0] 32)).cell? (ad.add k) = some (.int .u64 (a : Int)) := by
      have := hc (w6.alloc (.cells #[.int .u64 0, .int .i64 0] 32)) (Kept.refl _ _) k (by simp; omega)
      rwa [getD_map, HXK.out] at this
    have HC : Hid (∀ w', Kept [] (w6.alloc (.cells #[.int .u64 0, .int .i64 0] 32)) w' → w'.cell? (ad.add k) = some (.int .u64 (a : Int)) ∧ w'.cell? ad = some (.int .u64 (b : Int))) := Lib.hid (fun w' hk => ⟨by
      have := hc w' hk k (by simp; omega)
      rwa [getD_map, HXK.out] at this, by
      have := hc w' hk 0 (by simp; omega)
      rw [getD_map, HX0.out] at this
      exact this⟩)
    have hcellb : w6.cell? (ad.add k) = some (.int .u64 (a : Int)) := by
      have := (HI.out [w3.heap.size, w1.heap.size] w6 (hb5.trans hb6 (fun s hs _ => by cases hs)) (fun s hs => by simp at hs; omega)).get (by simp; omega)
      obtain ⟨ad', h1, h2⟩ := this
      cases h1
      have := h2 w6 (Kept.refl _ _) k (by simp; omega)
      rwa [getD_map, HXK.out] at this
    clear hc
    have D8 : Hid (Calls Try.prog 14 #[.pointer (some ⟨w1.heap.size + 1, 0, none⟩), .int .u64 (a : Int), .int .i64 ((k : Int) + 1)] (w6.alloc (.cells #[.int .u64 0, .int .i64 0] 32)) fun e w' => e = .returned (.tuple #[.agg #[.int .u64 (a : Int), .int .i64 ((k : Int) + 1)], .int .i64 0]) ∧ Kept [] (w6.alloc (.cells #[.int .u64 0, .int .i64 0] 32)) w') := Lib.hid (chain_yes (w6.alloc (.cells #[.int .u64 0, .int .i64 0] 32)) (w1.heap.size + 1) w1.heap.size z5 (M5.out.keep0 K67.out) a (k + 1) L1 CL1.out HL1.out (by have := Z5.out; omega))
    go_wp2_with fail
    (with_reducible refine D8.out.mono ?_)
    rintro e w8 ⟨rfl, hb8⟩
    have hs8 := hb8.size
    simp only [World.size_alloc] at hs8
    have K79 : Hid (Kept [] (w6.alloc (.cells #[.int .u64 0, .int .i64 0] 32)) (w8.alloc (.cells #[.int .u64 (a : Int), .int .i64 ((k : Int) + 1)] 32))) := Lib.hid (hb8.alloc _)
    have X9 : Hid (ListB (w8.alloc (.cells #[.int .u64 (a : Int), .int .i64 ((k : Int) + 1)] 32)) w8.heap.size (a : Int) ((k : Int) + 1)) := Lib.hid (Blk.new _ _ _)
    have hcell9 := (HC.out _ K79.out).1
    have D10 := Lib.hid (chain_no (w8.alloc (.cells #[.int .u64 (a : Int), .int .i64 ((k : Int) + 1)] 32)) (w1.heap.size + 1) w1.heap.size z5 (M5.out.keep0 (K67.out.trans0 K79.out)) a k L1 CL1.out HL1.out (by have := Z5.out; omega))
    go_wp2_with fail
    (with_reducible refine D10.out.mono ?_)
    rintro e w10 ⟨rfl, hb10⟩
    have hs10 := hb10.size
    simp only [World.size_alloc] at hs10
    have K710 : Hid (Kept [] (w6.alloc (.cells #[.int .u64 0, .int .i64 0] 32)) w10) := Lib.hid (hb10.then_ K79.out)
    have K10 : Hid (Kept [] w5 w10) := Lib.hid (K710.out.then_ K67.out)
    have X10 : Hid (ListB w10 w8.heap.size (a : Int) (L1.length : Int)) := Lib.hid (by
      have := X9.out.keep0 hb10
      rw [HL1.out]
      exact this)
    have D12 : Hid (Calls Try.prog 15 #[.pointer (some ⟨w8.heap.size, 0, none⟩), .pointer (some ⟨w1.heap.size + 1, 0, none⟩)] (w10.alloc (.cells #[.int .u64 0, .int .i64 0] 32)) fun e w' => (∃ x c, e = .returned (.tuple #[.slice (some x) (k + 1) c, .int .i64 0]) ∧ w'.cell? x = some (.int .u64 (a : Int)) ∧ w'.cell? (x.add k) = some (.int .u64 (b : Int))) ∧ Kept [] (w10.alloc (.cells #[.int .u64 0, .int .i64 0] 32)) w') := Lib.hid (by
      have := all_chn (w10.alloc (.cells #[.int .u64 0, .int .i64 0] 32)) w8.heap.size (w1.heap.size + 1) w1.heap.size z5 a L1 ((M5.out.keep0 K10.out).keep0 ((Kept.refl [] _).alloc _)) (X10.out.keep0 ((Kept.refl [] _).alloc _)) CL1.out (by have := HL1.out; have := Z5.out; omega)
      rw [HL1.out] at this
      refine this.mono ?_
      rintro e w' ⟨⟨A, c, h1, h2, _⟩, hk⟩
      obtain ⟨x, rfl, h3⟩ := h2.row.get (by have := HL1.out; rw [List.length_map]; omega)
      refine ⟨⟨x, c, h1, ?_, ?_⟩, hk⟩
      · have := h3 w' (Kept.refl _ _) 0 (by have := HL1.out; rw [List.length_map]; omega)
        rw [getD_map, HG0.out] at this
        exact this
      · have := h3 w' (Kept.refl _ _) k (by have := HL1.out; rw [List.length_map]; omega)
        rwa [getD_map, HGK.out] at this)
    have hcell10 : w10.cell? (ad.add k) = some (.int .u64 (a : Int)) := (HC.out _ K710.out).1
    go_wp2_with fail
    (with_reducible refine D12.out.mono ?_)
    rintro e w12 ⟨⟨x12, c12, rfl, hx0, hxk⟩, hb12⟩
    have hs12 := hb12.size
    simp only [World.size_alloc] at hs12
    have K712 : Hid (Kept [] (w6.alloc (.cells #[.int .u64 0, .int .i64 0] 32)) w12) := Lib.hid (hb12.then_ (K710.out.alloc _))
    have K12 : Hid (Kept [] w5 w12) := Lib.hid (K712.out.then_ K67.out)
    have hi0 := (HC.out _ K712.out).2
    have hik := (HC.out _ K712.out).1
    have li0 := cell_lt hi0
    have lx0 := cell_lt hx0
    have C12 := Lib.hid ((X9.out.keep0 hb10).keep0 ((Kept.refl [] _).alloc (.cells #[.int .u64 0, .int .i64 0] 32)) |>.keep0 hb12)
    have d1 := Blk.cell C12.out 1
    have l1 := Blk.lt C12.out
    have X12 := Lib.hid (X5.out.keep0 K12.out)
    have d2 := Blk.cell X12.out 0
    have l2 := Blk.lt X12.out
    have q4 : (k : Int) < (k : Int) + 1 := by omega
    have q5 : (0 : Int) < (k : Int) + 1 := by omega
    have q6 : (0 : Int) < (xs.length : Int) := by omega
    go_wp2_with fail
    go_quiet (fail)
    go_wp2_with fail
    have HB8 : Hid (b + 8 ≤ z5.length ∧ (h5 : Int) < 18446744073709551616) := Lib.hid (by
      have h1 := C5.out
      have h2 := h1.hd64 (by have := Z5.out; omega)
      rw [HTL.out] at h1
      exact ⟨(h1.len b (by simp)).2, h2⟩)
    have HRG : Hid (∀ N, at_ (splice z5 b (bytesOf 8 (h5 : Int))) h5 N ≠ some 0) := Lib.hid (fun N hN => by
      have h1 := C5.out
      have h3 : Apart xs.reverse := HAP.out.perm (List.reverse_perm _).symm
      rw [HTL.out] at h1 h3
      obtain ⟨c, h4, h5⟩ := ring (by have := Z5.out; omega) h1 h3 N
      rw [h4] at hN
      injection hN with hN
      exact (h1.len c h5).1 hN)
    have DS : Hid (∀ w', Kept [] w12 w' → Calls Try.prog 16 #[.pointer (some ⟨w1.heap.size + 1, 0, none⟩), .int .u64 (b : Int), .int .i64 8, .int .u64 (h5 : Int)] w' fun e w'' => e = .returned (.int .i64 0) ∧ MemB w'' (w1.heap.size + 1) w1.heap.size (splice z5 b (bytesOf 8 (h5 : Int))) ∧ Kept [w1.heap.size] w12 w'') := Lib.hid (fun w' hk => (store_8 w' (w1.heap.size + 1) w1.heap.size z5 ((M5.out.keep0 K12.out).keep0 hk) b h5 HB8.out.1 (by omega) (by rw [pow64]; exact HB8.out.2)).mono fun e w'' h => ⟨h.1, h.2.1, h.2.2.thenS (hk.mono (fun s hs _ => by cases hs))⟩)
    have HW13 : Hid (∀ w'', Kept [w1.heap.size] w12 w'' → w''.cell? ad = some (.int .u64 (b : Int)) ∧ ListB w'' w3.heap.size (h5 : Int) (xs.length : Int)) := Lib.hid (fun w'' hk => ⟨by
      have := (HI.out [w3.heap.size, w1.heap.size] w'' ((hb5.trans K12.out (fun s hs _ => by cases hs)).trans hk (fun s hs _ => by simp at hs ⊢; right; exact hs)) (fun s hs => by simp at hs; omega)).get (by simp; omega)
      obtain ⟨ad', h1, h2⟩ := this
      cases h1
      have := h2 w'' (Kept.refl _ _) 0 (by simp; omega)
      rw [getD_map, HX0.out] at this
      exact this, X12.out.keep hk (by simp; omega)⟩)
    go_region_held3 (fun w' => w'.cell? ad = some (.int .u64 (b : Int)) ∧ w'.cell? ⟨w3.heap.size, 0, none⟩ = some (.int .u64 (h5 : Int))) (first | go_keep | exact ⟨hi0, d2⟩ | exact ⟨(HW13.out _ hb13).1, Blk.cell (HW13.out _ hb13).2 0⟩) ((go_at_call 16; refine (DS.out _ (by (repeat' (first | (with_reducible exact Kept.refl _ _) | (with_reducible assumption) | (with_reducible refine Kept.then_ (by with_reducible assumption) ?_) | (with_reducible refine Kept.thenS (by with_reducible assumption) ?_) | (with_reducible refine Kept.alloc ?_ _) | (with_reducible refine Kept.drew ?_) | (with_reducible refine Kept.drewN ?_ _) | (with_reducible refine Kept.setNew ?_ ?_ _) | ((try simp only [World.size_alloc, World.size_setCell, World.size_drew, size_drewN] at *); (try dsimp only); omega))))).mono ?_; rintro e w13 ⟨rfl, hM13, hb13⟩))
    have hs13 := hb13.size
    obtain ⟨z6, hz6⟩ : ∃ z, splice z5 b (bytesOf 8 (h5 : Int)) = z := ⟨_, rfl⟩
    rw [hz6] at HRG
    have M13 : Hid (MemB w13 (w1.heap.size + 1) w1.heap.size z6) := Lib.hid (by rwa [hz6] at hM13)
    have X13 := Lib.hid (HW13.out _ hb13).2
    have e0 := Blk.cell X13.out 0
    have e1 := Blk.lt X13.out
    clear hM13 hz6
    have D14 : Hid (Calls Try.prog 14 #[.pointer (some ⟨w1.heap.size + 1, 0, none⟩), .int .u64 (h5 : Int), .int .i64 100000] w13 fun e w' => e = .returned (.tuple #[.agg #[.int .u64 0, .int .i64 0], .int .i64 3]) ∧ Kept [] w13 w') := Lib.hid ((chain_any w13 (w1.heap.size + 1) w1.heap.size z6 M13.out h5 HB8.out.2 100000 _ rfl (by omega)).mono (fun e w' h => by
      rcases h with ⟨⟨N, hN, _⟩ | ⟨_, h2⟩, hk⟩
      · exact absurd hN (HRG.out N)
      · exact ⟨h2, hk⟩))
    go_wp2_with fail
    (with_reducible refine D14.out.mono ?_)
    rintro e w14 ⟨rfl, hb14⟩
    have D15 := Lib.hid (all_not (w14.alloc (.cells #[.int .u64 0, .int .i64 0] 32)) w3.heap.size (w1.heap.size + 1) w1.heap.size z6 h5 (xs.length : Int) ((M13.out.keep0 hb14).keep0 ((Kept.refl [] _).alloc _)) ((X13.out.keep0 hb14).keep0 ((Kept.refl [] _).alloc _)) HB8.out.2 (by omega) (fun N hN _ => absurd hN (HRG.out N)))
    go_wp2_with fail
    (with_reducible refine D15.out.mono ?_)
    rintro e w15 ⟨rfl, hb15⟩
    go_wp2_with fail
    go_ret
    exact ⟨rfl, Kept.below (hb15.then_ ((hb14.then_ (hb13.thenG (K12.out.then_ K5.out) (by have := hb1.size; omega))).alloc _))⟩
theorem own : ownKnob Try.prog.godebug = none := by kernel_rfl
theorem laidOut : laidOutB Try.prog = true := by kernel_rfl
set_option maxRecDepth 100000 in
theorem lifted (os : Os) (started : os.Started) (H : Type) (enc : TypeId × Value → H) :
    ReturnsInHanded {} Try.checked os 3 .any (Rows.listChainsSpec.pre6 enc Try.prog Try.f3 Rows.listChainsRow.domain false) (Rows.listChainsSpec.post enc Try.prog Try.f3 false true false false) := by
  refine returnsInHanded_of_change (C := Try.checked) own started (by kernel_rfl) Try.func3
    (ChangeSpec.witness6 (enc := enc) (C := Try.checked) false ⟨#[], #[.slice none 0 0, .int .u8 0], []⟩ 8 (by kernel_rfl) (by kernel_rfl) (by kernel_rfl) (by kernel_rfl)) ?_
  intro W base args ds gs before hval0 hW hcnd _
  have hval : ∀ (j : Nat) t v, Try.f3.params[j]? = some t → args[j]? = some v → Value.okWide Try.prog W .any base t v := hval0
  have hW' := hW
  obtain ⟨p, q, hA0, hV, rfl, hfz, hnd⟩ := hW
  have hA : DataW.TrodAll enc Try.prog W 0 (fun _ => true) true Try.f3.params.toList args.toList ds p := hA0
  rw [Try.params3] at hA hval
  obtain ⟨v0, vs0, d0, ds0, p0, q0, hargs, rfl, rfl, h0, r0⟩ := trodAll_cons hA
  obtain ⟨v1, vs1, d1, ds1, p1, q1, rfl, rfl, rfl, h1, r1⟩ := trodAll_cons r0
  obtain ⟨rfl, rfl, rfl⟩ := trodAll_nil r1
  obtain rfl : args = #[v0, v1] := by cases args; simp_all
  obtain ⟨rfl, rfl⟩ := trodVars_none hV
  have k0 := h0
  have lt0 : ∀ x ∈ p0, x.block < W.heap.size := by obtain ⟨m, hm⟩ := k0; exact DataW.trod_lt m _ _ _ hm
  obtain ⟨a0, len0, cap0, rfl⟩ := okWide_slice Try.underlying22 (hval 0 22 v0 rfl rfl)
  obtain ⟨z0, w0⟩ := isRow_of Try.underlying22 Try.underlying5 (by kernel_rfl) h0
  obtain ⟨a1, rfl, rfl, rfl, w1⟩ := open_int Try.underlying5 (hval 1 5 v1 rfl rfl) h1
  clear hA0 hval0
  refine (walk a0 len0 cap0 z0 a1 W w0 w1).mono fun e W' ⟨he, bel⟩ => ?_
  subst he
  exact ⟨_, rfl, _, _, _, [], _, [], hW', trodAll_mk1 (shut_bool Try.underlying4 _), (trodAll_cons_mk (Below.trod laidOut (by kernel_rfl) (of_decide_eq_true (by kernel_rfl)) k0 bel lt0) (trodAll_cons_mk (shut_int Try.underlying5 w1) trodAll_mk0)), rfl, bel.frame _, fun h => by cases h⟩
theorem over : Rows.listChainsRow.holds Try.pinned (OpenSpec.ofChange Rows.listChainsSpec) :=
  OpenClaim.holds_of_wide 3 Try.f3 rfl rfl rfl rfl rfl rfl rfl ⟨rfl, rfl, rfl, rfl, rfl⟩ rfl rfl rfl rfl rfl (by kernel_rfl) Try.func3 (by kernel_rfl)
    (of_decide_eq_true (by kernel_rfl)) (by unfold Func.isWrapper; first | (rw [if_pos (by decide +kernel)]; kernel_rfl) | (rw [if_neg (by decide +kernel)]; exact ⟨rfl, rfl⟩))
    (fun os started H enc _ => lifted os started H enc)
theorem proved : Rows.ListChainsSaid := over
#print axioms proved
end Go.Proofs.Ytapolaefdbdnpaa.ListChains
