/- Some are taken just if each of them is. No condition. -/
import Derived.Test.YthnfhenbkijihaaMarkC
set_option linter.unusedVariables false
set_option linter.unusedSimpArgs false
namespace Go.Proofs.Ythnfhenbkijihaa.MarkHas
open Go.RowKit Go.ChangeShapes Go.WideShapes Go.ChangeAt Go.Joins
theorem any_take (f : Int → Bool) (ys : List Int) (k : Nat) (hk : k < ys.length) : (ys.take (k + 1)).any f = ((ys.take k).any f || f (ys[k]?.getD 0)) := by
  rw [List.take_add_one, List.getElem?_eq_getElem hk, List.any_append]
  simp
set_option maxRecDepth 100000 in
set_option maxHeartbeats 4000000 in
theorem walk (a0 : Option Addr) (len0 cap0 : Nat) (z0 : List (Int × Int × Int)) (a1 : Option Addr) (len1 cap1 : Nat) (z1 : List Int) (W : World) (w0 : IsActs W a0 len0 cap0 z0) (w1 : IsRow .i64 W a1 len1 cap1 z1) :
    Calls Try.prog 7 #[.slice a0 len0 cap0, .slice a1 len1 cap1] W fun e W' => e = .returned (.bool true) ∧ Below W.heap.size W W' := by
  have HA := Lib.hid w0
  obtain ⟨ys, hl, hr, _, _, hlc, hcm⟩ := w1.seen
  unfold maxLen at hcm
  subst hl
  have HR := Lib.hid hr
  clear w0 w1 hr
  have C1 : Hid (∀ w : World, Calls Try.prog 10 #[.int .i64 64] w fun e w' => e = .returned (.tuple #[.pointer (some ⟨w.heap.size + 1, 0, none⟩), .int .i64 0]) ∧ MarkB w' (w.heap.size + 1) w.heap.size (frees 64) ∧ Kept [] w w') := Lib.hid (fun w => new_any w 64 (by omega) (by omega))
  by_cases hlen : (len0 : Int) ≤ 100
  · by_cases hlen1 : (ys.length : Int) ≤ 100
    · go_enter Try.func7, Try.ntmps7
      go_wp2_with fail
      (with_reducible refine (alive_any _).mono ?_)
      rintro e w1 ⟨rfl, hb1⟩
      have hs1 := hb1.size
      (try simp only [World.size_alloc, World.size_setCell, World.size_drew, size_drewN] at hs1)
      go_wp2_with fail
      (with_reducible refine (C1.out _).mono ?_)
      rintro e w2 ⟨rfl, hM2, hb2⟩
      have hs2 := hb2.size
      (try simp only [World.size_alloc, World.size_setCell, World.size_drew, size_drewN] at hs2)
      have M2 := Lib.hid hM2
      have hg2 := hM2.2.1.lt
      clear hM2
      (try simp only [size_drewN, World.size_drew] at M2 hg2)
      have K2 : Hid (Kept [] W w2) := Lib.hid (by (repeat' (first | (with_reducible exact Kept.refl _ _) | (with_reducible assumption) | (with_reducible refine Kept.then_ (by with_reducible assumption) ?_) | (with_reducible refine Kept.thenS (by with_reducible assumption) ?_) | (with_reducible refine Kept.thenG (by with_reducible assumption) ?_ ?_) | (with_reducible refine Kept.thenG2 (by with_reducible assumption) ?_ ?_ ?_) | (with_reducible refine Kept.alloc ?_ _) | (with_reducible refine Kept.drew ?_) | (with_reducible refine Kept.drewN ?_ _) | (with_reducible refine Kept.setNew ?_ ?_ _) | ((try simp only [World.size_alloc, World.size_setCell, World.size_drew, size_drewN] at *); (try dsimp only); omega))))
      have hp2 := M2.out.ltp
      (try simp only [size_drewN, World.size_drew] at hp2)
      have F64 : Hid ((frees 64).length = 64) := Lib.hid (length_frees 64)
      go_wp2_with fail
      go_loopw [34] (fun i wr => ∃ (kq : Nat) (bs : List Bool), kq ≤ len0 ∧ i = .int .i64 kq ∧ Hid (bs.length = 64) ∧ Hid (MarkB wr (w1.heap.size + 1) w1.heap.size bs) ∧ Kept [] W wr) (fun i _ => len0 - (intOf i).toNat)
      case atStart => exact ⟨0, _, Nat.zero_le _, rfl, F64, M2, K2.out⟩
      case round =>
        obtain ⟨kq, bs, hk, rfl, hbl, hm, hkw⟩ := hrel
        by_cases hlt : kq < len0
        · obtain ⟨ad, rfl, hcs⟩ := HA.out.get (by omega)
          obtain ⟨kk, pp, rr, _, wp, wq, hcc⟩ := hcs kq hlt
          obtain ⟨c0, c1, c2⟩ := hcc wr hkw
          have b1 := bounds_i64 wp
          have b2 := bounds_i64 wq
          clear hcs hcc wp wq
          have hsr := hkw.size
          have hmg := hm.out.lt
          have hmp := hm.out.ltp
          go_wp2_with fail
          (with_reducible refine (mark_gen _ _ _ _ (hm.out.keep0 ((Kept.refl [] wr).alloc _)) _ _).mono ?_)
          rintro e w5 ⟨x5, bs5, rfl, hl5, hm5, hk5⟩
          have HM5 := Lib.hid hm5
          have HL5 : Hid (bs5.length = 64) := Lib.hid (by rw [hl5]; exact hbl.out)
          clear hm5 hl5
          go_wp2_with fail
          go_roundw
          case rel => exact ⟨kq + 1, bs5, by omega, by go_num, HL5, HM5, hk5.thenG2 (hkw.alloc _) (by omega) (by omega)⟩
          case measure => simp [intOf]; omega
        · obtain rfl : kq = len0 := by omega
          obtain ⟨wo, rfl⟩ : ∃ wo : World, wo = wr := ⟨_, rfl⟩
          go_wp2_with fail
          go_loopw [9, 47] (fun c i w3 => ∃ (j : Nat) (b : Bool), j ≤ ys.length ∧ c = .bool b ∧ i = .int .i64 j ∧ Hid (b = !((ys.take j).any (outB bs))) ∧ Kept [] wo w3) (fun _ i _ => ys.length - (intOf i).toNat)
          case atStart => exact ⟨0, true, Nat.zero_le _, rfl, rfl, Lib.hid (by simp), Kept.refl _ _⟩
          case round =>
            obtain ⟨j, b, hj, rfl, rfl, hbv, hk3⟩ := hrel
            have M3 := Lib.hid (hm.out.keep0 hk3)
            by_cases hlt : j < ys.length
            · obtain ⟨ad, rfl, hcs⟩ := (HR.out.keep hkw).get (by omega)
              have hcell := hcs wr hk3 j hlt
              clear hcs
              have HX := Lib.hid (any_take (outB bs) ys j hlt)
              generalize ys[j]?.getD 0 = x at hcell HX
              cases b with
              | true =>
                obtain ⟨v, hv⟩ : ∃ v : Bool, outB bs x = !v := ⟨!(outB bs x), by simp⟩
                have HV := Lib.hid hv
                clear hv
                go_wp2_with fail
                (with_reducible refine (has_one _ _ _ _ _ _ (M3.out.keep0 ((Kept.refl [] wr).alloc _)) _ v HV.out (Blk.new _ _ _)).mono ?_)
                rintro e w6 ⟨rfl, hb6⟩
                go_wp2_with fail
                go_roundw
                case rel => exact ⟨j + 1, v, by omega, rfl, by go_num, Lib.hid (by rw [HX.out, HV.out]; have := hbv.out; revert this; cases (ys.take j).any (outB bs) <;> cases v <;> simp), hb6.then_ (hk3.alloc _)⟩
                case measure => simp [intOf]; omega
              | false =>
                go_wp2_with fail
                go_roundw
                case rel => exact ⟨j + 1, false, by omega, rfl, by go_num, Lib.hid (by rw [HX.out]; have := hbv.out; revert this; cases (ys.take j).any (outB bs) <;> simp), hk3⟩
                case measure => simp [intOf]; omega
            · obtain rfl : j = ys.length := by omega
              have HH := Lib.hid (has_any wr _ _ bs M3.out a1 ys.length cap1 ys rfl ((HR.out.keep hkw).keep hk3) (by omega) b (by have := hbv.out; rw [List.take_length] at this; exact this.symm))
              go_wp2_with fail
              (with_reducible refine HH.out.mono ?_)
              rintro e w6 ⟨rfl, hb6⟩
              go_wp2_with fail
              go_ret
              exact ⟨ret_bool (by cases b <;> rfl), Kept.below ((hkw.trans0 hk3).trans0 hb6)⟩
    · have hlen' : decide (100 < (ys.length : Int)) = true := by simp; omega
      go_enter Try.func7, Try.ntmps7
      go_wp2_with fail
      (with_reducible refine (alive_any _).mono ?_)
      rintro e w1 ⟨rfl, hb1⟩
      have hs1 := hb1.size
      (try simp only [World.size_alloc, World.size_setCell, World.size_drew, size_drewN] at hs1)
      go_wp2_with fail
      (with_reducible refine (C1.out _).mono ?_)
      rintro e w2 ⟨rfl, hM2, hb2⟩
      have hs2 := hb2.size
      (try simp only [World.size_alloc, World.size_setCell, World.size_drew, size_drewN] at hs2)
      have M2 := Lib.hid hM2
      have hg2 := hM2.2.1.lt
      clear hM2
      (try simp only [size_drewN, World.size_drew] at M2 hg2)
      go_wp2_with fail
      go_ret
      exact ⟨rfl, Kept.below (by (repeat' (first | (with_reducible exact Kept.refl _ _) | (with_reducible assumption) | (with_reducible refine Kept.then_ (by with_reducible assumption) ?_) | (with_reducible refine Kept.thenS (by with_reducible assumption) ?_) | (with_reducible refine Kept.thenG (by with_reducible assumption) ?_ ?_) | (with_reducible refine Kept.thenG2 (by with_reducible assumption) ?_ ?_ ?_) | (with_reducible refine Kept.alloc ?_ _) | (with_reducible refine Kept.drew ?_) | (with_reducible refine Kept.drewN ?_ _) | (with_reducible refine Kept.setNew ?_ ?_ _) | ((try simp only [World.size_alloc, World.size_setCell, World.size_drew, size_drewN] at *); (try dsimp only); omega))))⟩
  · have hlen' : decide (100 < (len0 : Int)) = true := by simp; omega
    go_enter Try.func7, Try.ntmps7
    go_wp2_with fail
    (with_reducible refine (alive_any _).mono ?_)
    rintro e w1 ⟨rfl, hb1⟩
    have hs1 := hb1.size
    (try simp only [World.size_alloc, World.size_setCell, World.size_drew, size_drewN] at hs1)
    go_wp2_with fail
    (with_reducible refine (C1.out _).mono ?_)
    rintro e w2 ⟨rfl, hM2, hb2⟩
    have hs2 := hb2.size
    (try simp only [World.size_alloc, World.size_setCell, World.size_drew, size_drewN] at hs2)
    have M2 := Lib.hid hM2
    have hg2 := hM2.2.1.lt
    clear hM2
    (try simp only [size_drewN, World.size_drew] at M2 hg2)
    go_wp2_with fail
    go_ret
    exact ⟨rfl, Kept.below (by (repeat' (first | (with_reducible exact Kept.refl _ _) | (with_reducible assumption) | (with_reducible refine Kept.then_ (by with_reducible assumption) ?_) | (with_reducible refine Kept.thenS (by with_reducible assumption) ?_) | (with_reducible refine Kept.thenG (by with_reducible assumption) ?_ ?_) | (with_reducible refine Kept.thenG2 (by with_reducible assumption) ?_ ?_ ?_) | (with_reducible refine Kept.alloc ?_ _) | (with_reducible refine Kept.drew ?_) | (with_reducible refine Kept.drewN ?_ _) | (with_reducible refine Kept.setNew ?_ ?_ _) | ((try simp only [World.size_alloc, World.size_setCell, World.size_drew, size_drewN] at *); (try dsimp only); omega))))⟩
theorem own : ownKnob Try.prog.godebug = none := by kernel_rfl
theorem laidOut : laidOutB Try.prog = true := by kernel_rfl
set_option maxRecDepth 100000 in
theorem lifted (os : Os) (started : os.Started) (H : Type) (enc : TypeId × Value → H) :
    ReturnsInHanded {} Try.checked os 7 .any (Rows.markHasSpec.pre6 enc Try.prog Try.f7 Rows.markHasRow.domain false) (Rows.markHasSpec.post enc Try.prog Try.f7 false true false false) := by
  refine returnsInHanded_of_change (C := Try.checked) own started (by kernel_rfl) Try.func7
    (ChangeSpec.witness6 (enc := enc) (C := Try.checked) false ⟨#[], #[.slice none 0 0, .slice none 0 0], []⟩ 8 (by kernel_rfl) (by kernel_rfl) (by kernel_rfl) (by kernel_rfl)) ?_
  intro W base args ds gs before hval0 hW hcnd _
  have hval : ∀ (j : Nat) t v, Try.f7.params[j]? = some t → args[j]? = some v → Value.okWide Try.prog W .any base t v := hval0
  have hW' := hW
  obtain ⟨p, q, hA0, hV, rfl, hfz, hnd⟩ := hW
  have hA : DataW.TrodAll enc Try.prog W 0 (fun _ => true) true Try.f7.params.toList args.toList ds p := hA0
  rw [Try.params7] at hA hval
  obtain ⟨v0, vs0, d0, ds0, p0, q0, hargs, rfl, rfl, h0, r0⟩ := trodAll_cons hA
  obtain ⟨v1, vs1, d1, ds1, p1, q1, rfl, rfl, rfl, h1, r1⟩ := trodAll_cons r0
  obtain ⟨rfl, rfl, rfl⟩ := trodAll_nil r1
  obtain rfl : args = #[v0, v1] := by cases args; simp_all
  obtain ⟨rfl, rfl⟩ := trodVars_none hV
  have k0 := h0
  have lt0 : ∀ x ∈ p0, x.block < W.heap.size := by obtain ⟨m, hm⟩ := k0; exact DataW.trod_lt m _ _ _ hm
  have k1 := h1
  have lt1 : ∀ x ∈ p1, x.block < W.heap.size := by obtain ⟨m, hm⟩ := k1; exact DataW.trod_lt m _ _ _ hm
  obtain ⟨a0, len0, cap0, rfl⟩ := okWide_slice Try.underlying32 (hval 0 32 v0 rfl rfl)
  obtain ⟨z0, w0⟩ := isT32_of h0
  obtain ⟨a1, len1, cap1, rfl⟩ := okWide_slice Try.underlying42 (hval 1 42 v1 rfl rfl)
  obtain ⟨z1, w1⟩ := isRow_of Try.underlying42 Try.underlying3 (by kernel_rfl) h1
  clear hA0 hval0
  refine (walk a0 len0 cap0 z0 a1 len1 cap1 z1 W w0 w1).mono fun e W' ⟨he, bel⟩ => ?_
  subst he
  exact ⟨_, rfl, _, _, _, [], _, [], hW', trodAll_mk1 (shut_bool Try.underlying4 _), (trodAll_cons_mk (Below.trod laidOut (by kernel_rfl) (of_decide_eq_true (by kernel_rfl)) k0 bel lt0) (trodAll_cons_mk (Below.trod laidOut (by kernel_rfl) (of_decide_eq_true (by kernel_rfl)) k1 bel lt1) trodAll_mk0)), rfl, bel.frame _, fun h => by cases h⟩
theorem over : Rows.markHasRow.holds Try.pinned (OpenSpec.ofChange Rows.markHasSpec) :=
  OpenClaim.holds_of_wide 7 Try.f7 rfl rfl rfl rfl rfl rfl rfl ⟨rfl, rfl, rfl, rfl, rfl⟩ rfl rfl rfl rfl rfl (by kernel_rfl) Try.func7 (by kernel_rfl)
    (of_decide_eq_true (by kernel_rfl)) (by unfold Func.isWrapper; first | (rw [if_pos (by decide +kernel)]; kernel_rfl) | (rw [if_neg (by decide +kernel)]; exact ⟨rfl, rfl⟩))
    (fun os started H enc _ => lifted os started H enc)
theorem proved : Rows.MarkHasSaid := over
#print axioms proved
end Go.Proofs.Ythnfhenbkijihaa.MarkHas
