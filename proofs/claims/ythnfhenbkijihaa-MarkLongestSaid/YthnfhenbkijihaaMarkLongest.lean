/- A row as long as the longest one is taken, one that is longer isn't. No condition. -/
import Derived.Test.YthnfhenbkijihaaMarkG
import Derived.Test.YthnfhenbkijihaaActs
set_option linter.unusedVariables false
set_option linter.unusedSimpArgs false
namespace Go.Proofs.Ythnfhenbkijihaa.MarkLongest
open Go.RowKit Go.ChangeShapes Go.WideShapes Go.ChangeAt Go.Joins
theorem cntF_zero (bs : List Bool) (h : ∀ i, i < bs.length → bs[i]? = some true) : cntF bs = 0 := by
  unfold cntF
  rw [List.countP_eq_zero]
  intro b hb
  obtain ⟨j, hj, rfl⟩ := List.getElem_of_mem hb
  have := h j hj
  rw [List.getElem?_eq_getElem hj] at this
  injection this with this
  simp [this]
theorem unput {bs : List Bool} {a r b m : Nat} (ha : a + r ≤ bs.length) (h : FreeAt (put bs a r true) b m) : FreeAt bs b m := by
  have hl := length_put bs a r true ha
  refine ⟨by have := h.1; omega, fun i hi => ?_⟩
  have h2 := h.2 i hi
  rw [put_get bs a r true ha] at h2
  by_cases h3 : a ≤ b + i ∧ b + i < a + r
  · rw [if_pos h3] at h2; cases h2
  · rwa [if_neg h3] at h2
theorem long_put (bs : List Bool) (a r : Nat) (ha : a + r ≤ bs.length) : longV (put bs a r true) ≤ longV bs := by
  rcases Int.lt_or_le 0 (longV (put bs a r true)) with h | h
  · obtain ⟨n, b, e, h1, h2⟩ := long_is _ h
    have := long_ge h1 (unput ha h2)
    omega
  · have := long_nn bs; omega
def TakeSome (W : World) (p g : Nat) (bs : List Bool) (r : Nat) (e : Ending) (w' : World) : Prop := ∃ a : Nat, e = .returned (.tuple #[.int .i64 (a : Int), .int .i64 0]) ∧ FreeAt bs a r ∧ MarkB w' p g (put bs a r true) ∧ Kept [p, g] W w'
theorem take_some (w : World) (p g : Nat) (bs : List Bool) (h : MarkB w p g bs) (r b : Nat) (h1 : 1 ≤ r) (hf : FreeAt bs b r) :
    Calls Try.prog 11 #[.pointer (some ⟨p, 0, none⟩), .int .i64 r] w (TakeSome w p g bs r) :=
  (take_low w p g bs h r h1 (by have := hf.1; omega)).mono fun e w' hh => by
    rcases hh with ⟨a', he, hf', hno', hm, hk⟩ | ⟨he, hall, hk⟩
    · exact ⟨a', he, hf', hm, hk⟩
    · exact absurd hf (hall b)
set_option maxRecDepth 100000 in
set_option maxHeartbeats 2000000 in
theorem walk (a0 : Option Addr) (len0 cap0 : Nat) (z0 : List (Int × Int × Int)) (W : World) (w0 : IsActs W a0 len0 cap0 z0) :
    Calls Try.prog 5 #[.slice a0 len0 cap0] W fun e W' => e = .returned (.bool true) ∧ Below W.heap.size W W' := by
  have HA := Lib.hid w0
  clear w0
  have C1 : Hid (∀ w : World, Calls Try.prog 10 #[.int .i64 64] w fun e w' => e = .returned (.tuple #[.pointer (some ⟨w.heap.size + 1, 0, none⟩), .int .i64 0]) ∧ MarkB w' (w.heap.size + 1) w.heap.size (frees 64) ∧ Kept [] w w') := Lib.hid (fun w => new_any w 64 (by omega) (by omega))
  by_cases hlen : (len0 : Int) ≤ 100
  · go_enter Try.func5, Try.ntmps5
    go_wp2_with fail
    (with_reducible refine (alive_any _).mono ?_)
    rintro e w1 ⟨rfl, hb1⟩
    have hs1 := hb1.size
    (try simp only [World.size_alloc, World.size_setCell, World.size_drew, size_drewN] at hs1)
    go_wp2_with fail
    (with_reducible refine (C1.out _).mono ?_)
    rintro e w2 ⟨rfl, hM2, hb2⟩
    have hs2 := hb2.size
    (try simp only [World.size_alloc, World.size_setCell, World.size_drew, size_drewN] at hs2)
    have M2 := Lib.hid hM2
    have hg2 := hM2.2.1.lt
    clear hM2
    (try simp only [size_drewN, World.size_drew] at M2 hg2)
    have K2 : Hid (Kept [] W w2) := Lib.hid (by (repeat' (first | (with_reducible exact Kept.refl _ _) | (with_reducible assumption) | (with_reducible refine Kept.then_ (by with_reducible assumption) ?_) | (with_reducible refine Kept.thenS (by with_reducible assumption) ?_) | (with_reducible refine Kept.thenG (by with_reducible assumption) ?_ ?_) | (with_reducible refine Kept.thenG2 (by with_reducible assumption) ?_ ?_ ?_) | (with_reducible refine Kept.alloc ?_ _) | (with_reducible refine Kept.drew ?_) | (with_reducible refine Kept.drewN ?_ _) | (with_reducible refine Kept.setNew ?_ ?_ _) | ((try simp only [World.size_alloc, World.size_setCell, World.size_drew, size_drewN] at *); (try dsimp only); omega))))
    have hp2 := M2.out.ltp
    (try simp only [size_drewN, World.size_drew] at hp2)
    have F64 : Hid ((frees 64).length = 64) := Lib.hid (length_frees 64)
    go_wp2_with fail
    go_loopw [30] (fun i wr => ∃ (k : Nat) (bs : List Bool), k ≤ len0 ∧ i = .int .i64 k ∧ Hid (bs.length = 64) ∧ Hid (MarkB wr (w1.heap.size + 1) w1.heap.size bs) ∧ Kept [] W wr) (fun i _ => len0 - (intOf i).toNat)
    case atStart => exact ⟨0, _, Nat.zero_le _, rfl, F64, M2, K2.out⟩
    case round =>
      obtain ⟨k, bs, hk, rfl, hbl, hm, hkw⟩ := hrel
      by_cases hlt : k < len0
      · obtain ⟨ad, rfl, hcs⟩ := HA.out.get (by omega)
        obtain ⟨kk, pp, rr, _, wp, wq, hcc⟩ := hcs k hlt
        obtain ⟨c0, c1, c2⟩ := hcc wr hkw
        have b1 := bounds_i64 wp
        have b2 := bounds_i64 wq
        clear hcs hcc wp wq
        have hsr := hkw.size
        have hmg := hm.out.lt
        have hmp := hm.out.ltp
        go_wp2_with fail
        (with_reducible refine (mark_gen _ _ _ _ (hm.out.keep0 ((Kept.refl [] wr).alloc _)) _ _).mono ?_)
        rintro e w5 ⟨x5, bs5, rfl, hl5, hm5, hk5⟩
        have HM5 := Lib.hid hm5
        have HL5 : Hid (bs5.length = 64) := Lib.hid (by rw [hl5]; exact hbl.out)
        clear hm5 hl5
        go_wp2_with fail
        go_roundw
        case rel => exact ⟨k + 1, bs5, by omega, by go_num, HL5, HM5, hk5.thenG2 (hkw.alloc _) (by omega) (by omega)⟩
        case measure => simp [intOf]; omega
      · obtain rfl : k = len0 := by omega
        obtain ⟨m, hmv⟩ : ∃ m : Nat, longV bs = (m : Int) := ⟨(longV bs).toNat, by have := long_nn bs; omega⟩
        have hmv := Lib.hid hmv
        have DL : Hid (∀ w, MarkB w (w1.heap.size + 1) w1.heap.size bs → Calls Try.prog 13 #[.pointer (some ⟨w1.heap.size + 1, 0, none⟩)] w fun e w' => e = .returned (.int .i64 (m : Int)) ∧ Kept [] w w') := Lib.hid (fun w h => by
          have := longest_any w _ _ bs h
          rw [hmv.out] at this; exact this)
        have hno : ∀ b, ¬ FreeAt bs b (m + 1) := fun b hf => by
          have := long_ge (by omega) hf
          rw [hmv.out] at this; omega
        obtain ⟨L, hL⟩ : ∃ L : Int, (cntF bs : Int) = L := ⟨_, rfl⟩
        have HL := Lib.hid hL
        have DC : Hid (∀ w, MarkB w (w1.heap.size + 1) w1.heap.size bs → Calls Try.prog 12 #[.pointer (some ⟨w1.heap.size + 1, 0, none⟩)] w fun e w' => e = .returned (.int .i64 L) ∧ w = w') := Lib.hid (fun w h => by
          have := left_any w _ _ bs h
          rw [HL.out] at this; exact this)
        clear hL
        by_cases h64 : (m : Int) < 64
        · have DF : Hid (∀ w, MarkB w (w1.heap.size + 1) w1.heap.size bs → Calls Try.prog 11 #[.pointer (some ⟨w1.heap.size + 1, 0, none⟩), .int .i64 ((m : Int) + 1)] w fun e w' => e = .returned (.tuple #[.int .i64 0, .int .i64 4]) ∧ Kept [] w w') := Lib.hid (fun w h => by
            have := take_full w _ _ bs h (m + 1) (by omega) (by have := hbl.out; omega) hno
            rw [Int.natCast_add] at this; exact this)
          clear hno
          by_cases h0 : m = 0
          · have hz : L = 0 := by
              have := cntF_zero bs (long_zero bs (by rw [hmv.out, h0]; rfl))
              rw [← HL.out]; omega
            subst hz h0
            rw [show ((0 : Nat) : Int) = 0 from rfl] at DL DF
            rw [show (0 : Int) + 1 = 1 from rfl] at DF
            go_wp2_with fail
            (with_reducible refine (DL.out _ hm.out).mono ?_)
            rintro e w6 ⟨rfl, hb6⟩
            have hs6 := hb6.size
            (try simp only [World.size_alloc, World.size_setCell, World.size_drew, size_drewN] at hs6)
            have M6 := Lib.hid (hm.out.keep0 hb6)
            have K6 := Lib.hid (hkw.trans0 hb6)
            go_wp2_with fail
            (with_reducible refine (DF.out _ M6.out).mono ?_)
            rintro e w7 ⟨rfl, hb7⟩
            have hs7 := hb7.size
            (try simp only [World.size_alloc, World.size_setCell, World.size_drew, size_drewN] at hs7)
            have M7 := Lib.hid (M6.out.keep0 hb7)
            have K7 := Lib.hid (K6.out.trans0 hb7)
            go_wp2_with fail
            (with_reducible refine (DC.out _ M7.out).mono ?_)
            rintro e w8 ⟨rfl, rfl⟩
            go_wp2_with fail
            go_ret
            exact ⟨rfl, K7.out.below⟩
          · have h0' : ((m : Int) == 0) = false := by simp; omega
            have DT : Hid (∀ w, MarkB w (w1.heap.size + 1) w1.heap.size bs → Calls Try.prog 11 #[.pointer (some ⟨w1.heap.size + 1, 0, none⟩), .int .i64 m] w (TakeSome w _ _ bs m)) := Lib.hid (fun w h => by
              obtain ⟨n, b, e1, e2, e3⟩ := long_is bs (by rw [hmv.out]; omega)
              rw [hmv.out] at e1
              obtain rfl : m = n := by omega
              exact take_some w _ _ bs h m b e2 e3)
            go_wp2_with fail
            (with_reducible refine (DL.out _ hm.out).mono ?_)
            rintro e w6 ⟨rfl, hb6⟩
            have hs6 := hb6.size
            (try simp only [World.size_alloc, World.size_setCell, World.size_drew, size_drewN] at hs6)
            have M6 := Lib.hid (hm.out.keep0 hb6)
            have K6 := Lib.hid (hkw.trans0 hb6)
            go_wp2_with fail
            (with_reducible refine (DF.out _ M6.out).mono ?_)
            rintro e w7 ⟨rfl, hb7⟩
            have hs7 := hb7.size
            (try simp only [World.size_alloc, World.size_setCell, World.size_drew, size_drewN] at hs7)
            have M7 := Lib.hid (M6.out.keep0 hb7)
            have K7 := Lib.hid (K6.out.trans0 hb7)
            go_wp2_with fail
            (with_reducible refine (DC.out _ M7.out).mono ?_)
            rintro e w8 ⟨rfl, rfl⟩
            go_wp2_with fail
            (with_reducible refine (DT.out _ M7.out).mono ?_)
            rintro e w9 ⟨a, rfl, hfa, hM9, hb9⟩
            have hs9 := hb9.size
            (try simp only [World.size_alloc, World.size_setCell, World.size_drew, size_drewN] at hs9)
            have M9 := Lib.hid hM9
            have hg9 := hM9.2.1.lt
            clear hM9
            (try simp only [size_drewN, World.size_drew] at M9 hg9)
            have hct := cntF_took bs a m (by have := hfa.1; omega) hfa.2
            have DC2 : Hid (Calls Try.prog 12 #[.pointer (some ⟨w1.heap.size + 1, 0, none⟩)] w9 fun e w' => e = .returned (.int .i64 (L - (m : Int))) ∧ w9 = w') := Lib.hid (by
              have := left_any w9 _ _ _ M9.out
              rw [hct.1] at this
              rw [← HL.out]; exact this)
            have hlp := long_put bs a m (by have := hfa.1; omega)
            rw [hmv.out] at hlp
            have DL2 := Lib.hid (longest_any w9 _ _ _ M9.out)
            have hlb : 0 ≤ L ∧ (m : Int) ≤ L ∧ L ≤ 256 := by rw [← HL.out]; have := cntF_le bs; have := hbl.out; omega
            clear hct hfa
            generalize longV (put bs a m true) = q at DL2 hlp
            go_wp2_with fail
            (with_reducible refine (DC2.out).mono ?_)
            rintro e w10 ⟨rfl, rfl⟩
            go_wp2_with fail
            (with_reducible refine (DL2.out).mono ?_)
            rintro e w11 ⟨rfl, hb11⟩
            have hs11 := hb11.size
            (try simp only [World.size_alloc, World.size_setCell, World.size_drew, size_drewN] at hs11)
            go_wp2_with fail
            go_ret
            exact ⟨rfl, Kept.below ((hb9.thenG2 K7.out (by omega) (by omega)).trans0 hb11)⟩
        · clear hno
          have h0' : ((m : Int) == 0) = false := by simp; omega
          have DT : Hid (∀ w, MarkB w (w1.heap.size + 1) w1.heap.size bs → Calls Try.prog 11 #[.pointer (some ⟨w1.heap.size + 1, 0, none⟩), .int .i64 m] w (TakeSome w _ _ bs m)) := Lib.hid (fun w h => by
            obtain ⟨n, b, e1, e2, e3⟩ := long_is bs (by rw [hmv.out]; omega)
            rw [hmv.out] at e1
            obtain rfl : m = n := by omega
            exact take_some w _ _ bs h m b e2 e3)
          go_wp2_with fail
          (with_reducible refine (DL.out _ hm.out).mono ?_)
          rintro e w6 ⟨rfl, hb6⟩
          have hs6 := hb6.size
          (try simp only [World.size_alloc, World.size_setCell, World.size_drew, size_drewN] at hs6)
          have M6 := Lib.hid (hm.out.keep0 hb6)
          have K6 := Lib.hid (hkw.trans0 hb6)
          go_wp2_with fail
          (with_reducible refine (DC.out _ M6.out).mono ?_)
          rintro e w8 ⟨rfl, rfl⟩
          go_wp2_with fail
          (with_reducible refine (DT.out _ M6.out).mono ?_)
          rintro e w9 ⟨a, rfl, hfa, hM9, hb9⟩
          have hs9 := hb9.size
          (try simp only [World.size_alloc, World.size_setCell, World.size_drew, size_drewN] at hs9)
          have M9 := Lib.hid hM9
          have hg9 := hM9.2.1.lt
          clear hM9
          (try simp only [size_drewN, World.size_drew] at M9 hg9)
          have hct := cntF_took bs a m (by have := hfa.1; omega) hfa.2
          have DC2 : Hid (Calls Try.prog 12 #[.pointer (some ⟨w1.heap.size + 1, 0, none⟩)] w9 fun e w' => e = .returned (.int .i64 (L - (m : Int))) ∧ w9 = w') := Lib.hid (by
            have := left_any w9 _ _ _ M9.out
            rw [hct.1] at this
            rw [← HL.out]; exact this)
          have hlp := long_put bs a m (by have := hfa.1; omega)
          rw [hmv.out] at hlp
          have DL2 := Lib.hid (longest_any w9 _ _ _ M9.out)
          have hlb : 0 ≤ L ∧ (m : Int) ≤ L ∧ L ≤ 256 := by rw [← HL.out]; have := cntF_le bs; have := hbl.out; omega
          clear hct hfa
          generalize longV (put bs a m true) = q at DL2 hlp
          go_wp2_with fail
          (with_reducible refine (DC2.out).mono ?_)
          rintro e w10 ⟨rfl, rfl⟩
          go_wp2_with fail
          (with_reducible refine (DL2.out).mono ?_)
          rintro e w11 ⟨rfl, hb11⟩
          have hs11 := hb11.size
          (try simp only [World.size_alloc, World.size_setCell, World.size_drew, size_drewN] at hs11)
          go_wp2_with fail
          go_ret
          exact ⟨rfl, Kept.below ((hb9.thenG2 K6.out (by omega) (by omega)).trans0 hb11)⟩
  · have hlen' : decide (100 < (len0 : Int)) = true := by simp; omega
    go_enter Try.func5, Try.ntmps5
    go_wp2_with fail
    (with_reducible refine (alive_any _).mono ?_)
    rintro e w1 ⟨rfl, hb1⟩
    have hs1 := hb1.size
    (try simp only [World.size_alloc, World.size_setCell, World.size_drew, size_drewN] at hs1)
    go_wp2_with fail
    (with_reducible refine (C1.out _).mono ?_)
    rintro e w2 ⟨rfl, hM2, hb2⟩
    have hs2 := hb2.size
    (try simp only [World.size_alloc, World.size_setCell, World.size_drew, size_drewN] at hs2)
    have M2 := Lib.hid hM2
    have hg2 := hM2.2.1.lt
    clear hM2
    (try simp only [size_drewN, World.size_drew] at M2 hg2)
    go_wp2_with fail
    go_ret
    exact ⟨rfl, Kept.below (by (repeat' (first | (with_reducible exact Kept.refl _ _) | (with_reducible assumption) | (with_reducible refine Kept.then_ (by with_reducible assumption) ?_) | (with_reducible refine Kept.thenS (by with_reducible assumption) ?_) | (with_reducible refine Kept.thenG (by with_reducible assumption) ?_ ?_) | (with_reducible refine Kept.thenG2 (by with_reducible assumption) ?_ ?_ ?_) | (with_reducible refine Kept.alloc ?_ _) | (with_reducible refine Kept.drew ?_) | (with_reducible refine Kept.drewN ?_ _) | (with_reducible refine Kept.setNew ?_ ?_ _) | ((try simp only [World.size_alloc, World.size_setCell, World.size_drew, size_drewN] at *); (try dsimp only); omega))))⟩
theorem own : ownKnob Try.prog.godebug = none := by kernel_rfl
theorem laidOut : laidOutB Try.prog = true := by kernel_rfl
set_option maxRecDepth 100000 in
theorem lifted (os : Os) (started : os.Started) (H : Type) (enc : TypeId × Value → H) :
    ReturnsInHanded {} Try.checked os 5 .any (Rows.markLongestSpec.pre6 enc Try.prog Try.f5 Rows.markLongestRow.domain false) (Rows.markLongestSpec.post enc Try.prog Try.f5 false true false false) := by
  refine returnsInHanded_of_change (C := Try.checked) own started (by kernel_rfl) Try.func5
    (ChangeSpec.witness6 (enc := enc) (C := Try.checked) false ⟨#[], #[.slice none 0 0], []⟩ 8 (by kernel_rfl) (by kernel_rfl) (by kernel_rfl) (by kernel_rfl)) ?_
  intro W base args ds gs before hval0 hW hcnd _
  have hval : ∀ (j : Nat) t v, Try.f5.params[j]? = some t → args[j]? = some v → Value.okWide Try.prog W .any base t v := hval0
  have hW' := hW
  obtain ⟨p, q, hA0, hV, rfl, hfz, hnd⟩ := hW
  have hA : DataW.TrodAll enc Try.prog W 0 (fun _ => true) true Try.f5.params.toList args.toList ds p := hA0
  rw [Try.params5] at hA hval
  obtain ⟨v0, vs0, d0, ds0, p0, q0, hargs, rfl, rfl, h0, r0⟩ := trodAll_cons hA
  obtain ⟨rfl, rfl, rfl⟩ := trodAll_nil r0
  obtain rfl : args = #[v0] := by cases args; simp_all
  obtain ⟨rfl, rfl⟩ := trodVars_none hV
  have k0 := h0
  have lt0 : ∀ x ∈ p0, x.block < W.heap.size := by obtain ⟨m, hm⟩ := k0; exact DataW.trod_lt m _ _ _ hm
  obtain ⟨a0, len0, cap0, rfl⟩ := okWide_slice Try.underlying32 (hval 0 32 v0 rfl rfl)
  obtain ⟨z0, w0⟩ := isT32_of h0
  clear hA0 hval0
  refine (walk a0 len0 cap0 z0 W w0).mono fun e W' ⟨he, bel⟩ => ?_
  subst he
  exact ⟨_, rfl, _, _, _, [], _, [], hW', trodAll_mk1 (shut_bool Try.underlying4 _), (trodAll_cons_mk (Below.trod laidOut (by kernel_rfl) (of_decide_eq_true (by kernel_rfl)) k0 bel lt0) trodAll_mk0), rfl, bel.frame _, fun h => by cases h⟩
theorem over : Rows.markLongestRow.holds Try.pinned (OpenSpec.ofChange Rows.markLongestSpec) :=
  OpenClaim.holds_of_wide 5 Try.f5 rfl rfl rfl rfl rfl rfl rfl ⟨rfl, rfl, rfl, rfl, rfl⟩ rfl rfl rfl rfl rfl (by kernel_rfl) Try.func5 (by kernel_rfl)
    (of_decide_eq_true (by kernel_rfl)) (by unfold Func.isWrapper; first | (rw [if_pos (by decide +kernel)]; kernel_rfl) | (rw [if_neg (by decide +kernel)]; exact ⟨rfl, rfl⟩))
    (fun os started H enc _ => lifted os started H enc)
theorem proved : Rows.MarkLongestSaid := over
#print axioms proved
end Go.Proofs.Ythnfhenbkijihaa.MarkLongest
