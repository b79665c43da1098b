/- Of any numbers the sum, the product, the greatest and the least, or the error, are the document's. No condition. -/
import Derived.Test.YtnooelpdoeijbaaLongS
set_option linter.unusedVariables false
set_option linter.unusedSimpArgs false
namespace Go.Proofs.Ytnooelpdoeijbaa.CalcSums
open Go.RowKit Go.ChangeShapes Go.WideShapes Go.ChangeAt Go.Joins
set_option maxRecDepth 100000 in
set_option maxHeartbeats 2000000 in
theorem walk (a0 : Option Addr) (len0 cap0 : Nat) (z0 : List Int) (W : World) (w0 : IsRow .u64 W a0 len0 cap0 z0) :
    Calls Try.prog 11 #[.slice a0 len0 cap0] W fun e W' => e = .returned (.bool true) ∧ Below W.heap.size W W' := by
  obtain ⟨zs, hl, hr, _, hwf, hlc, hcm⟩ := w0.seen
  unfold maxLen at hcm
  have hz : U64s zs := fun z hz => bounds_u64 (hwf z hz)
  have hz' : ∀ z, z ∈ zs → 0 ≤ z ∧ z < 18446744073709551616 := fun z h => by have := hz z h; omega
  subst hl
  clear w0 hwf
  by_cases h300 : zs.length ≤ 300
  · have q : decide ((300 : Int) < (zs.length : Int)) = false := by simp; omega
    have H1 := Lib.hid (fun w hk => sum_any a0 cap0 zs hz w (hr.keep hk) (by omega))
    have H2 := Lib.hid (fun w hk => refsum_any a0 cap0 zs hz' w (hr.keep hk) h300)
    have H3 := Lib.hid (fun w hk => mul_any a0 cap0 zs hz w (hr.keep hk) (by omega))
    have H4 := Lib.hid (fun w hk => refmul_any a0 cap0 zs hz' w (hr.keep hk) h300)
    have H5 := Lib.hid (fun w hk => most_any a0 cap0 zs w (hr.keep hk) (by omega))
    have H6 := Lib.hid (fun w hk => least_any a0 cap0 zs w (hr.keep hk) (by omega))
    have H7 := Lib.hid (fun w hk => refends_any a0 cap0 zs w (hr.keep hk) h300)
    have es : bkV (su zs) = sumV zs ∧ bkE (su zs) = sumE zs := by
      unfold bkV bkE sumV sumE
      by_cases h : su zs ≤ 1099511627776
      · have h2 : ¬ 1099511627776 < su zs := by omega
        rw [if_neg h2, if_neg h2, if_pos h, if_pos h]; exact ⟨rfl, rfl⟩
      · have h2 : 1099511627776 < su zs := by omega
        rw [if_pos h2, if_pos h2, if_neg h, if_neg h]; exact ⟨rfl, rfl⟩
    rw [es.1, es.2] at H2
    clear hz hz' es hr
    generalize sumV zs = P1 at H1 H2
    generalize sumE zs = E1 at H1 H2
    generalize mulV zs = P2 at H3 H4
    generalize mulE zs = E2 at H3 H4
    generalize mxV zs = P3 at H5 H7
    generalize mnV zs = P4 at H6 H7
    generalize (if zs.length = 0 then (5 : Int) else 0) = E3 at H5 H6 H7
    go_enter Try.func11, Try.ntmps11
    go_wp2_with fail
    (with_reducible refine (alive_any _).mono ?_)
    rintro e w1 ⟨rfl, hb1⟩
    have hs1 := hb1.size
    (try simp only [World.size_alloc, World.size_setCell, World.size_drew, size_drewN] at hs1)
    go_wp2_with fail
    (with_reducible refine (H1.out _ (by (repeat' (first | (with_reducible exact Kept.refl _ _) | (with_reducible assumption) | (with_reducible refine Kept.then_ (by with_reducible assumption) ?_) | (with_reducible refine Kept.thenS (by with_reducible assumption) ?_) | (with_reducible refine Kept.alloc ?_ _) | (with_reducible refine Kept.drew ?_) | (with_reducible refine Kept.drewN ?_ _) | (with_reducible refine Kept.setNew ?_ ?_ _) | ((try simp only [World.size_alloc, World.size_setCell, World.size_drew, size_drewN] at *); (try dsimp only); omega))))).mono ?_)
    rintro e w2 ⟨rfl, hb2⟩
    have hs2 := hb2.size
    (try simp only [World.size_alloc, World.size_setCell, World.size_drew, size_drewN] at hs2)
    go_wp2_with fail
    (with_reducible refine (H2.out _ (by (repeat' (first | (with_reducible exact Kept.refl _ _) | (with_reducible assumption) | (with_reducible refine Kept.then_ (by with_reducible assumption) ?_) | (with_reducible refine Kept.thenS (by with_reducible assumption) ?_) | (with_reducible refine Kept.alloc ?_ _) | (with_reducible refine Kept.drew ?_) | (with_reducible refine Kept.drewN ?_ _) | (with_reducible refine Kept.setNew ?_ ?_ _) | ((try simp only [World.size_alloc, World.size_setCell, World.size_drew, size_drewN] at *); (try dsimp only); omega))))).mono ?_)
    rintro e w3 ⟨rfl, hb3⟩
    have hs3 := hb3.size
    (try simp only [World.size_alloc, World.size_setCell, World.size_drew, size_drewN] at hs3)
    go_wp2_with fail
    (with_reducible refine (H3.out _ (by (repeat' (first | (with_reducible exact Kept.refl _ _) | (with_reducible assumption) | (with_reducible refine Kept.then_ (by with_reducible assumption) ?_) | (with_reducible refine Kept.thenS (by with_reducible assumption) ?_) | (with_reducible refine Kept.alloc ?_ _) | (with_reducible refine Kept.drew ?_) | (with_reducible refine Kept.drewN ?_ _) | (with_reducible refine Kept.setNew ?_ ?_ _) | ((try simp only [World.size_alloc, World.size_setCell, World.size_drew, size_drewN] at *); (try dsimp only); omega))))).mono ?_)
    rintro e w4 ⟨rfl, hb4⟩
    have hs4 := hb4.size
    (try simp only [World.size_alloc, World.size_setCell, World.size_drew, size_drewN] at hs4)
    go_wp2_with fail
    (with_reducible refine (H4.out _ (by (repeat' (first | (with_reducible exact Kept.refl _ _) | (with_reducible assumption) | (with_reducible refine Kept.then_ (by with_reducible assumption) ?_) | (with_reducible refine Kept.thenS (by with_reducible assumption) ?_) | (with_reducible refine Kept.alloc ?_ _) | (with_reducible refine Kept.drew ?_) | (with_reducible refine Kept.drewN ?_ _) | (with_reducible refine Kept.setNew ?_ ?_ _) | ((try simp only [World.size_alloc, World.size_setCell, World.size_drew, size_drewN] at *); (try dsimp only); omega))))).mono ?_)
    rintro e w5 ⟨rfl, hb5⟩
    have hs5 := hb5.size
    (try simp only [World.size_alloc, World.size_setCell, World.size_drew, size_drewN] at hs5)
    go_wp2_with fail
    (with_reducible refine (H5.out _ (by (repeat' (first | (with_reducible exact Kept.refl _ _) | (with_reducible assumption) | (with_reducible refine Kept.then_ (by with_reducible assumption) ?_) | (with_reducible refine Kept.thenS (by with_reducible assumption) ?_) | (with_reducible refine Kept.alloc ?_ _) | (with_reducible refine Kept.drew ?_) | (with_reducible refine Kept.drewN ?_ _) | (with_reducible refine Kept.setNew ?_ ?_ _) | ((try simp only [World.size_alloc, World.size_setCell, World.size_drew, size_drewN] at *); (try dsimp only); omega))))).mono ?_)
    rintro e w6 ⟨rfl, hb6⟩
    have hs6 := hb6.size
    (try simp only [World.size_alloc, World.size_setCell, World.size_drew, size_drewN] at hs6)
    go_wp2_with fail
    (with_reducible refine (H6.out _ (by (repeat' (first | (with_reducible exact Kept.refl _ _) | (with_reducible assumption) | (with_reducible refine Kept.then_ (by with_reducible assumption) ?_) | (with_reducible refine Kept.thenS (by with_reducible assumption) ?_) | (with_reducible refine Kept.alloc ?_ _) | (with_reducible refine Kept.drew ?_) | (with_reducible refine Kept.drewN ?_ _) | (with_reducible refine Kept.setNew ?_ ?_ _) | ((try simp only [World.size_alloc, World.size_setCell, World.size_drew, size_drewN] at *); (try dsimp only); omega))))).mono ?_)
    rintro e w7 ⟨rfl, hb7⟩
    have hs7 := hb7.size
    (try simp only [World.size_alloc, World.size_setCell, World.size_drew, size_drewN] at hs7)
    go_wp2_with fail
    (with_reducible refine (H7.out _ (by (repeat' (first | (with_reducible exact Kept.refl _ _) | (with_reducible assumption) | (with_reducible refine Kept.then_ (by with_reducible assumption) ?_) | (with_reducible refine Kept.thenS (by with_reducible assumption) ?_) | (with_reducible refine Kept.alloc ?_ _) | (with_reducible refine Kept.drew ?_) | (with_reducible refine Kept.drewN ?_ _) | (with_reducible refine Kept.setNew ?_ ?_ _) | ((try simp only [World.size_alloc, World.size_setCell, World.size_drew, size_drewN] at *); (try dsimp only); omega))))).mono ?_)
    rintro e w8 ⟨rfl, hb8⟩
    have hs8 := hb8.size
    (try simp only [World.size_alloc, World.size_setCell, World.size_drew, size_drewN] at hs8)
    go_wp2_with fail
    go_ret
    exact ⟨ret_bool (by simp), Kept.below (by (repeat' (first | (with_reducible exact Kept.refl _ _) | (with_reducible assumption) | (with_reducible refine Kept.then_ (by with_reducible assumption) ?_) | (with_reducible refine Kept.thenS (by with_reducible assumption) ?_) | (with_reducible refine Kept.alloc ?_ _) | (with_reducible refine Kept.drew ?_) | (with_reducible refine Kept.drewN ?_ _) | (with_reducible refine Kept.setNew ?_ ?_ _) | ((try simp only [World.size_alloc, World.size_setCell, World.size_drew, size_drewN] at *); (try dsimp only); omega))))⟩
  · have q : (300 : Int) < (zs.length : Int) := by omega
    go_enter Try.func11, Try.ntmps11
    go_wp2_with fail
    (with_reducible refine (alive_any _).mono ?_)
    rintro e w1 ⟨rfl, hb1⟩
    have hs1 := hb1.size
    (try simp only [World.size_alloc, World.size_setCell, World.size_drew, size_drewN] at hs1)
    go_wp2_with fail
    go_ret
    exact ⟨rfl, Kept.below hb1⟩
theorem own : ownKnob Try.prog.godebug = none := by kernel_rfl
theorem laidOut : laidOutB Try.prog = true := by kernel_rfl
set_option maxRecDepth 100000 in
theorem lifted (os : Os) (started : os.Started) (H : Type) (enc : TypeId × Value → H) :
    ReturnsInHanded {} Try.checked os 11 .any (Rows.calcSumsSpec.pre6 enc Try.prog Try.f11 Rows.calcSumsRow.domain false) (Rows.calcSumsSpec.post enc Try.prog Try.f11 false true false false) := by
  refine returnsInHanded_of_change (C := Try.checked) own started (by kernel_rfl) Try.func11
    (ChangeSpec.witness6 (enc := enc) (C := Try.checked) false ⟨#[], #[.slice none 0 0], []⟩ 8 (by kernel_rfl) (by kernel_rfl) (by kernel_rfl) (by kernel_rfl)) ?_
  intro W base args ds gs before hval0 hW hcnd _
  have hval : ∀ (j : Nat) t v, Try.f11.params[j]? = some t → args[j]? = some v → Value.okWide Try.prog W .any base t v := hval0
  have hW' := hW
  obtain ⟨p, q, hA0, hV, rfl, hfz, hnd⟩ := hW
  have hA : DataW.TrodAll enc Try.prog W 0 (fun _ => true) true Try.f11.params.toList args.toList ds p := hA0
  rw [Try.params11] at hA hval
  obtain ⟨v0, vs0, d0, ds0, p0, q0, hargs, rfl, rfl, h0, r0⟩ := trodAll_cons hA
  obtain ⟨rfl, rfl, rfl⟩ := trodAll_nil r0
  obtain rfl : args = #[v0] := by cases args; simp_all
  obtain ⟨rfl, rfl⟩ := trodVars_none hV
  have k0 := h0
  have lt0 : ∀ x ∈ p0, x.block < W.heap.size := by obtain ⟨m, hm⟩ := k0; exact DataW.trod_lt m _ _ _ hm
  obtain ⟨a0, len0, cap0, rfl⟩ := okWide_slice Try.underlying22 (hval 0 22 v0 rfl rfl)
  obtain ⟨z0, w0⟩ := isRow_of Try.underlying22 Try.underlying24 (by kernel_rfl) h0
  clear hA0 hval0
  refine (walk a0 len0 cap0 z0 W w0).mono fun e W' ⟨he, bel⟩ => ?_
  subst he
  exact ⟨_, rfl, _, _, _, [], _, [], hW', trodAll_mk1 (shut_bool Try.underlying4 _), (trodAll_cons_mk (Below.trod laidOut (by kernel_rfl) (of_decide_eq_true (by kernel_rfl)) k0 bel lt0) trodAll_mk0), rfl, bel.frame _, fun h => by cases h⟩
theorem over : Rows.calcSumsRow.holds Try.pinned (OpenSpec.ofChange Rows.calcSumsSpec) :=
  OpenClaim.holds_of_wide 11 Try.f11 rfl rfl rfl rfl rfl rfl rfl ⟨rfl, rfl, rfl, rfl, rfl⟩ rfl rfl rfl rfl rfl (by kernel_rfl) Try.func11 (by kernel_rfl)
    (of_decide_eq_true (by kernel_rfl)) (by unfold Func.isWrapper; first | (rw [if_pos (by decide +kernel)]; kernel_rfl) | (rw [if_neg (by decide +kernel)]; exact ⟨rfl, rfl⟩))
    (fun os started H enc _ => lifted os started H enc)
theorem proved : Rows.CalcSumsSaid := over
#print axioms proved
end Go.Proofs.Ytnooelpdoeijbaa.CalcSums
