/- Taken one by one, places rise, over all that are taken; given back one by one, all are free. No condition. -/
import Derived.Test.YthnfhenbkijihaaMarkC
set_option linter.unusedVariables false
set_option linter.unusedSimpArgs false
namespace Go.Proofs.Ythnfhenbkijihaa.MarkSingles
open Go.RowKit Go.ChangeShapes Go.WideShapes Go.ChangeAt Go.Joins
set_option maxRecDepth 100000 in
set_option maxHeartbeats 4000000 in
theorem walk (a0 : Option Addr) (len0 cap0 : Nat) (z0 : List (Int × Int × Int)) (W : World) (w0 : IsActs W a0 len0 cap0 z0) :
    Calls Try.prog 8 #[.slice a0 len0 cap0] W fun e W' => e = .returned (.bool true) ∧ Below W.heap.size W W' := by
  have HA := Lib.hid w0
  clear w0
  have C1 : Hid (∀ w : World, Calls Try.prog 10 #[.int .i64 64] w fun e w' => e = .returned (.tuple #[.pointer (some ⟨w.heap.size + 1, 0, none⟩), .int .i64 0]) ∧ MarkB w' (w.heap.size + 1) w.heap.size (frees 64) ∧ Kept [] w w') := Lib.hid (fun w => new_any w 64 (by omega) (by omega))
  by_cases hlen : (len0 : Int) ≤ 100
  · go_enter Try.func8, Try.ntmps8
    go_wp2_with fail
    (with_reducible refine (alive_any _).mono ?_)
    rintro e w1 ⟨rfl, hb1⟩
    have hs1 := hb1.size
    (try simp only [World.size_alloc, World.size_setCell, World.size_drew, size_drewN] at hs1)
    go_wp2_with fail
    (with_reducible refine (C1.out _).mono ?_)
    rintro e w2 ⟨rfl, hM2, hb2⟩
    have hs2 := hb2.size
    (try simp only [World.size_alloc, World.size_setCell, World.size_drew, size_drewN] at hs2)
    have M2 := Lib.hid hM2
    have hg2 := hM2.2.1.lt
    clear hM2
    (try simp only [size_drewN, World.size_drew] at M2 hg2)
    have K2 : Hid (Kept [] W w2) := Lib.hid (by (repeat' (first | (with_reducible exact Kept.refl _ _) | (with_reducible assumption) | (with_reducible refine Kept.then_ (by with_reducible assumption) ?_) | (with_reducible refine Kept.thenS (by with_reducible assumption) ?_) | (with_reducible refine Kept.thenG (by with_reducible assumption) ?_ ?_) | (with_reducible refine Kept.thenG2 (by with_reducible assumption) ?_ ?_ ?_) | (with_reducible refine Kept.alloc ?_ _) | (with_reducible refine Kept.drew ?_) | (with_reducible refine Kept.drewN ?_ _) | (with_reducible refine Kept.setNew ?_ ?_ _) | ((try simp only [World.size_alloc, World.size_setCell, World.size_drew, size_drewN] at *); (try dsimp only); omega))))
    have hp2 := M2.out.ltp
    (try simp only [size_drewN, World.size_drew] at hp2)
    have F64 : Hid ((frees 64).length = 64) := Lib.hid (length_frees 64)
    go_wp2_with fail
    go_loopw [29] (fun i wr => ∃ (kq : Nat) (bs : List Bool), kq ≤ len0 ∧ i = .int .i64 kq ∧ Hid (bs.length = 64) ∧ Hid (MarkB wr (w1.heap.size + 1) w1.heap.size bs) ∧ Kept [] W wr) (fun i _ => len0 - (intOf i).toNat)
    case atStart => exact ⟨0, _, Nat.zero_le _, rfl, F64, M2, K2.out⟩
    case round =>
      obtain ⟨kq, bs, hk, rfl, hbl, hm, hkw⟩ := hrel
      by_cases hlt : kq < len0
      · obtain ⟨ad, rfl, hcs⟩ := HA.out.get (by omega)
        obtain ⟨kk, pp, rr, _, wp, wq, hcc⟩ := hcs kq hlt
        obtain ⟨c0, c1, c2⟩ := hcc wr hkw
        have b1 := bounds_i64 wp
        have b2 := bounds_i64 wq
        clear hcs hcc wp wq
        have hsr := hkw.size
        have hmg := hm.out.lt
        have hmp := hm.out.ltp
        go_wp2_with fail
        (with_reducible refine (mark_gen _ _ _ _ (hm.out.keep0 ((Kept.refl [] wr).alloc _)) _ _).mono ?_)
        rintro e w5 ⟨x5, bs5, rfl, hl5, hm5, hk5⟩
        have HM5 := Lib.hid hm5
        have HL5 : Hid (bs5.length = 64) := Lib.hid (by rw [hl5]; exact hbl.out)
        clear hm5 hl5
        go_wp2_with fail
        go_roundw
        case rel => exact ⟨kq + 1, bs5, by omega, by go_num, HL5, HM5, hk5.thenG2 (hkw.alloc _) (by omega) (by omega)⟩
        case measure => simp [intOf]; omega
      · obtain rfl : kq = len0 := by omega
        obtain ⟨T, hT⟩ : ∃ T : Nat, cntF bs = T := ⟨_, rfl⟩
        have HT := Lib.hid hT
        have hTl : T ≤ 64 := by rw [← hT]; have := cntF_le bs; have := hbl.out; omega
        have DC : Hid (∀ w, MarkB w (w1.heap.size + 1) w1.heap.size bs → Calls Try.prog 12 #[.pointer (some ⟨w1.heap.size + 1, 0, none⟩)] w fun e w' => e = .returned (.int .i64 (T : Int)) ∧ w = w') := Lib.hid (fun w h => by
          have := left_any w _ _ bs h
          rw [HT.out] at this; exact this)
        clear hT
        go_wp2_with fail
        (with_reducible refine (DC.out _ hm.out).mono ?_)
        rintro e w6 ⟨rfl, rfl⟩
        obtain ⟨wo, rfl⟩ : ∃ wo : World, wo = wr := ⟨_, rfl⟩
        go_wp2_with fail
        go_loopw [8, 43] (fun c i w3 => ∃ (j : Nat) (la : Int) (bs' : List Bool), j ≤ T ∧ c = .int .i64 la ∧ i = .int .i64 j ∧ -1 ≤ la ∧ la < 64 ∧ Hid (bs'.length = 64) ∧ Hid (cntF bs' + j = T) ∧ Hid (∀ i : Nat, (i : Int) ≤ la → bs'[i]? = some true) ∧ Hid (MarkB w3 (w1.heap.size + 1) w1.heap.size bs') ∧ Kept [] W w3) (fun _ i _ => T - (intOf i).toNat)
        case atStart => exact ⟨0, -1, bs, Nat.zero_le _, rfl, rfl, by omega, by omega, hbl, Lib.hid (by have := HT.out; omega), Lib.hid (fun i hi => by omega), hm, hkw⟩
        case round =>
          obtain ⟨j, la, bs', hj, rfl, rfl, hla, hla2, hbl', hcn, hall, hm', hk3⟩ := hrel
          have hsr := hk3.size
          have hmp' := hm'.out.ltp
          have hmg' := hm'.out.lt
          by_cases hlt : j < T
          · go_wp2_with fail
            (with_reducible refine (take_one _ _ _ _ hm'.out (by have := hcn.out; omega)).mono ?_)
            rintro e w6 ⟨a, rfl, ha1, ha2, ha3, hm6, hk6⟩
            have hal : la < (a : Int) := by
              rcases Int.lt_or_le la (a : Int) with h | h
              · exact h
              · have := hall.out a h
                rw [ha2] at this; cases this
            have ha64 : a < 64 := by have := hbl'.out; omega
            have hl6 : Hid ((put bs' a 1 true).length = 64) := Lib.hid (by rw [length_put bs' a 1 true (by omega)]; exact hbl'.out)
            have hc6 : Hid (cntF (put bs' a 1 true) + (j + 1) = T) := Lib.hid (by
              have h1 := cntF_took bs' a 1 (by omega) (fun i hi => by rw [show a + i = a by omega]; exact ha2)
              have := hcn.out
              omega)
            have hall6 : Hid (∀ i : Nat, (i : Int) ≤ (a : Int) → (put bs' a 1 true)[i]? = some true) := Lib.hid (fun i hi => by
              rw [put_get bs' a 1 true (by omega)]
              by_cases h1 : a ≤ i ∧ i < a + 1
              · rw [if_pos h1]
              · rw [if_neg h1]; exact ha3 i (by omega))
            have M6 := Lib.hid hm6
            have hmp6 := hm6.ltp
            have hs6 := hk6.size
            clear ha1 ha2 ha3 hm6
            go_wp2_with fail
            (with_reducible refine (has_one _ _ _ _ _ _ (M6.out.keep0 ((Kept.refl [] w6).alloc _)) _ true (outB_in (hall6.out a (Int.le_refl _))) (Blk.new _ _ _)).mono ?_)
            rintro e w7 ⟨rfl, hb7⟩
            have M7 := Lib.hid (M6.out.keep0 (hb7.then_ ((Kept.refl [] w6).alloc _)))
            have K7 := Lib.hid (hb7.then_ ((hk6.thenG2 hk3 (by omega) (by omega)).alloc (.cells #[.int .i64 (a : Int)] 3)))
            go_wp2_with fail
            go_roundw
            case rel => exact ⟨j + 1, a, _, by omega, rfl, by go_num, by omega, by omega, hl6, hc6, hall6, M7, K7.out⟩
            case measure => simp [intOf]; omega
          · obtain rfl : j = T := by omega
            have hall0 := cntF_none (bs := bs') (by have := hcn.out; omega)
            have DC0 := Lib.hid (left_any wr _ _ bs' hm'.out)
            have DL0 := Lib.hid (longest_any wr _ _ bs' hm'.out)
            rw [show cntF bs' = 0 by have := hcn.out; omega, show ((0 : Nat) : Int) = 0 from rfl] at DC0
            rw [long_full hall0] at DL0
            have HA0 := Lib.hid hall0
            clear hall0
            go_wp2_with fail
            (with_reducible refine (DC0.out).mono ?_)
            rintro e w8 ⟨rfl, rfl⟩
            go_wp2_with fail
            (with_reducible refine (DL0.out).mono ?_)
            rintro e w9 ⟨rfl, hb9⟩
            have hs9 := hb9.size
            (try simp only [World.size_alloc, World.size_setCell, World.size_drew, size_drewN] at hs9)
            have M9 := Lib.hid (hm'.out.keep0 hb9)
            have K9 := Lib.hid (hk3.trans0 hb9)
            go_wp2_with fail
            go_loopw [74] (fun i w3 => ∃ (q : Nat) (bs2 : List Bool), q ≤ 64 ∧ i = .int .i64 q ∧ Hid (bs2.length = 64) ∧ Hid (∀ i, i < q → bs2[i]? = some false) ∧ Hid (∀ i, q ≤ i → i < 64 → bs2[i]? = some true) ∧ Hid (MarkB w3 (w1.heap.size + 1) w1.heap.size bs2) ∧ Kept [] W w3) (fun i _ => 64 - (intOf i).toNat)
            case atStart => exact ⟨0, bs', Nat.zero_le _, rfl, hbl', Lib.hid (fun i hi => by omega), Lib.hid (fun i _ hi => HA0.out i (by have := hbl'.out; omega)), M9, K9.out⟩
            case round =>
              obtain ⟨q, bs2, hq, rfl, hbl2, hf2, ht2, hm2, hk2⟩ := hrel
              have hsr2 := hk2.size
              have hmp2 := hm2.out.ltp
              have hmg2 := hm2.out.lt
              by_cases hlt : q < 64
              · have hqt := ht2.out q (Nat.le_refl _) hlt
                have HQ := Lib.hid hqt
                clear hqt
                go_wp2_with fail
                (with_reducible refine (has_one _ _ _ _ _ _ (hm2.out.keep0 ((Kept.refl [] wr).alloc _)) _ true (outB_in HQ.out) (Blk.new _ _ _)).mono ?_)
                rintro e w12 ⟨rfl, hb12⟩
                have M12 := Lib.hid (hm2.out.keep0 (hb12.then_ ((Kept.refl [] wr).alloc _)))
                have K12 := Lib.hid (hb12.then_ (hk2.alloc (.cells #[.int .i64 (q : Int)] 3)))
                have hs12 := K12.out.size
                have DF := Lib.hid (free_ok w12 _ _ bs2 M12.out q 1 (by omega) (by have := hbl2.out; omega) (fun i hi => by rw [show q + i = q by omega]; exact HQ.out))
                rw [show ((1 : Nat) : Int) = 1 from rfl] at DF
                go_wp2_with fail
                (with_reducible refine (DF.out).mono ?_)
                rintro e w13 ⟨rfl, hM13, hb13⟩
                have hs13 := hb13.size
                (try simp only [World.size_alloc, World.size_setCell, World.size_drew, size_drewN] at hs13)
                have M13 := Lib.hid hM13
                have hg13 := hM13.2.1.lt
                clear hM13
                (try simp only [size_drewN, World.size_drew] at M13 hg13)
                have hl3 : Hid ((put bs2 q 1 false).length = 64) := Lib.hid (by rw [length_put bs2 q 1 false (by have := hbl2.out; omega)]; exact hbl2.out)
                have hf3 : Hid (∀ i, i < q + 1 → (put bs2 q 1 false)[i]? = some false) := Lib.hid (fun i hi => by
                  rw [put_get bs2 q 1 false (by have := hbl2.out; omega)]
                  by_cases h1 : q ≤ i ∧ i < q + 1
                  · rw [if_pos h1]
                  · rw [if_neg h1]; exact hf2.out i (by omega))
                have ht3 : Hid (∀ i, q + 1 ≤ i → i < 64 → (put bs2 q 1 false)[i]? = some true) := Lib.hid (fun i hi h64 => by
                  rw [put_get bs2 q 1 false (by have := hbl2.out; omega), if_neg (by omega)]; exact ht2.out i (by omega) h64)
                go_wp2_with fail
                go_roundw
                case rel => exact ⟨q + 1, _, by omega, by go_num, hl3, hf3, ht3, M13, hb13.thenG2 K12.out (by omega) (by omega)⟩
                case measure => simp [intOf]; omega
              · obtain rfl : q = 64 := by omega
                have DCF := Lib.hid (left_any wr _ _ bs2 hm2.out)
                rw [cntF_all (bs := bs2) (fun i hi => hf2.out i (by have := hbl2.out; omega)), hbl2.out, show ((64 : Nat) : Int) = 64 from rfl] at DCF
                go_wp2_with fail
                (with_reducible refine DCF.out.mono ?_)
                rintro e w' ⟨rfl, rfl⟩
                go_wp2_with fail
                go_ret
                exact ⟨rfl, hk2.below⟩
  · have hlen' : decide (100 < (len0 : Int)) = true := by simp; omega
    go_enter Try.func8, Try.ntmps8
    go_wp2_with fail
    (with_reducible refine (alive_any _).mono ?_)
    rintro e w1 ⟨rfl, hb1⟩
    have hs1 := hb1.size
    (try simp only [World.size_alloc, World.size_setCell, World.size_drew, size_drewN] at hs1)
    go_wp2_with fail
    (with_reducible refine (C1.out _).mono ?_)
    rintro e w2 ⟨rfl, hM2, hb2⟩
    have hs2 := hb2.size
    (try simp only [World.size_alloc, World.size_setCell, World.size_drew, size_drewN] at hs2)
    have M2 := Lib.hid hM2
    have hg2 := hM2.2.1.lt
    clear hM2
    (try simp only [size_drewN, World.size_drew] at M2 hg2)
    go_wp2_with fail
    go_ret
    exact ⟨rfl, Kept.below (by (repeat' (first | (with_reducible exact Kept.refl _ _) | (with_reducible assumption) | (with_reducible refine Kept.then_ (by with_reducible assumption) ?_) | (with_reducible refine Kept.thenS (by with_reducible assumption) ?_) | (with_reducible refine Kept.thenG (by with_reducible assumption) ?_ ?_) | (with_reducible refine Kept.thenG2 (by with_reducible assumption) ?_ ?_ ?_) | (with_reducible refine Kept.alloc ?_ _) | (with_reducible refine Kept.drew ?_) | (with_reducible refine Kept.drewN ?_ _) | (with_reducible refine Kept.setNew ?_ ?_ _) | ((try simp only [World.size_alloc, World.size_setCell, World.size_drew, size_drewN] at *); (try dsimp only); omega))))⟩
theorem own : ownKnob Try.prog.godebug = none := by kernel_rfl
theorem laidOut : laidOutB Try.prog = true := by kernel_rfl
set_option maxRecDepth 100000 in
theorem lifted (os : Os) (started : os.Started) (H : Type) (enc : TypeId × Value → H) :
    ReturnsInHanded {} Try.checked os 8 .any (Rows.markSinglesSpec.pre6 enc Try.prog Try.f8 Rows.markSinglesRow.domain false) (Rows.markSinglesSpec.post enc Try.prog Try.f8 false true false false) := by
  refine returnsInHanded_of_change (C := Try.checked) own started (by kernel_rfl) Try.func8
    (ChangeSpec.witness6 (enc := enc) (C := Try.checked) false ⟨#[], #[.slice none 0 0], []⟩ 8 (by kernel_rfl) (by kernel_rfl) (by kernel_rfl) (by kernel_rfl)) ?_
  intro W base args ds gs before hval0 hW hcnd _
  have hval : ∀ (j : Nat) t v, Try.f8.params[j]? = some t → args[j]? = some v → Value.okWide Try.prog W .any base t v := hval0
  have hW' := hW
  obtain ⟨p, q, hA0, hV, rfl, hfz, hnd⟩ := hW
  have hA : DataW.TrodAll enc Try.prog W 0 (fun _ => true) true Try.f8.params.toList args.toList ds p := hA0
  rw [Try.params8] at hA hval
  obtain ⟨v0, vs0, d0, ds0, p0, q0, hargs, rfl, rfl, h0, r0⟩ := trodAll_cons hA
  obtain ⟨rfl, rfl, rfl⟩ := trodAll_nil r0
  obtain rfl : args = #[v0] := by cases args; simp_all
  obtain ⟨rfl, rfl⟩ := trodVars_none hV
  have k0 := h0
  have lt0 : ∀ x ∈ p0, x.block < W.heap.size := by obtain ⟨m, hm⟩ := k0; exact DataW.trod_lt m _ _ _ hm
  obtain ⟨a0, len0, cap0, rfl⟩ := okWide_slice Try.underlying32 (hval 0 32 v0 rfl rfl)
  obtain ⟨z0, w0⟩ := isT32_of h0
  clear hA0 hval0
  refine (walk a0 len0 cap0 z0 W w0).mono fun e W' ⟨he, bel⟩ => ?_
  subst he
  exact ⟨_, rfl, _, _, _, [], _, [], hW', trodAll_mk1 (shut_bool Try.underlying4 _), (trodAll_cons_mk (Below.trod laidOut (by kernel_rfl) (of_decide_eq_true (by kernel_rfl)) k0 bel lt0) trodAll_mk0), rfl, bel.frame _, fun h => by cases h⟩
theorem over : Rows.markSinglesRow.holds Try.pinned (OpenSpec.ofChange Rows.markSinglesSpec) :=
  OpenClaim.holds_of_wide 8 Try.f8 rfl rfl rfl rfl rfl rfl rfl ⟨rfl, rfl, rfl, rfl, rfl⟩ rfl rfl rfl rfl rfl (by kernel_rfl) Try.func8 (by kernel_rfl)
    (of_decide_eq_true (by kernel_rfl)) (by unfold Func.isWrapper; first | (rw [if_pos (by decide +kernel)]; kernel_rfl) | (rw [if_neg (by decide +kernel)]; exact ⟨rfl, rfl⟩))
    (fun os started H enc _ => lifted os started H enc)
theorem proved : Rows.MarkSinglesSaid := over
#print axioms proved
end Go.Proofs.Ythnfhenbkijihaa.MarkSingles
