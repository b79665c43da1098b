/- Of any number and step the multiples next to it, or the error, are the document's, and so is whether it is a power of two. No condition. -/
import Derived.Test.YtnooelpdoeijbaaLongU
set_option linter.unusedVariables false
set_option linter.unusedSimpArgs false
namespace Go.Proofs.Ytnooelpdoeijbaa.CalcRounds
open Go.RowKit Go.ChangeShapes Go.WideShapes Go.ChangeAt Go.Joins
def Two (f g : Nat) (x a : Int) : Prop := ∃ P E : Int, (∀ w, Calls Try.prog f #[.int .u64 x, .int .u64 a] w fun e w' => e = .returned (.tuple #[.int .u64 P, .int .i64 E]) ∧ Kept [] w w') ∧ (∀ w, Calls Try.prog g #[.int .u64 x, .int .u64 a] w fun e w' => e = .returned (.tuple #[.int .u64 P, .int .i64 E]) ∧ Kept [] w w')
theorem two_up (x a : Int) (x0 : 0 ≤ x) (x1 : x < 18446744073709551616) (a0 : 0 ≤ a) (a1 : a < 18446744073709551616) : Two 14 15 x a := by
  by_cases ha : IsPow a
  · refine ⟨bkV (upV x a), bkE (upV x a), fun w => ?_, fun w => refup_yes x a x0 x1 ha w⟩
    by_cases hv : 1099511627776 < upV x a
    · have := up_out x a x0 x1 ha hv w
      unfold bkV bkE
      rwa [if_pos hv, if_pos hv]
    · have := up_in x a x0 x1 ha (by omega) w
      unfold bkV bkE
      rwa [if_neg hv, if_neg hv]
  · exact ⟨0, 2, fun w => up_bad x a a0 (by omega) ha w, fun w => refup_no x a a0 a1 ha w⟩
theorem two_down (x a : Int) (x0 : 0 ≤ x) (x1 : x < 18446744073709551616) (a0 : 0 ≤ a) (a1 : a < 18446744073709551616) : Two 16 17 x a := by
  by_cases ha : IsPow a
  · refine ⟨bkV (dnV x a), bkE (dnV x a), fun w => ?_, fun w => refdown_yes x a x0 x1 ha w⟩
    by_cases hv : 1099511627776 < dnV x a
    · have := down_out x a x0 x1 ha hv w
      unfold bkV bkE
      rwa [if_pos hv, if_pos hv]
    · have := down_in x a x0 x1 ha (by omega) w
      unfold bkV bkE
      rwa [if_neg hv, if_neg hv]
  · exact ⟨0, 2, fun w => down_bad x a a0 (by omega) ha w, fun w => refdown_no x a a0 a1 ha w⟩
set_option maxRecDepth 100000 in
set_option maxHeartbeats 2000000 in
theorem walk (x a : Int) (W : World) (w0 : (Lit.int .u64 x).wf = true) (w1 : (Lit.int .u64 a).wf = true) :
    Calls Try.prog 4 #[.int .u64 x, .int .u64 a] W fun e W' => e = .returned (.bool true) ∧ Below W.heap.size W W' := by
  have b0 := bounds_u64 w0
  have b1 := bounds_u64 w1
  obtain ⟨P, E, h1, h2⟩ := two_up x a (by omega) (by omega) (by omega) (by omega)
  obtain ⟨Q, F, h3, h4⟩ := two_down x a (by omega) (by omega) (by omega) (by omega)
  obtain ⟨t, h5, h6⟩ : ∃ t : Bool, (∀ w, Calls Try.prog 18 #[.int .u64 x] w fun e w' => e = .returned (.bool t) ∧ Kept [] w w') ∧ (∀ w, Calls Try.prog 19 #[.int .u64 x] w fun e w' => e = .returned (.bool t) ∧ Kept [] w w') :=
    ⟨_, fun w => pow2_any x (by omega) (by omega) w, fun w => refpow_any x (by omega) (by omega) w⟩
  have H1 := Lib.hid h1
  have H2 := Lib.hid h2
  have H3 := Lib.hid h3
  have H4 := Lib.hid h4
  have H5 := Lib.hid h5
  have H6 := Lib.hid h6
  clear h1 h2 h3 h4 h5 h6 w0 w1
  go_enter Try.func4, Try.ntmps4
  go_wp2_with fail
  (with_reducible refine (alive_any _).mono ?_)
  rintro e w1 ⟨rfl, hb1⟩
  have hs1 := hb1.size
  (try simp only [World.size_alloc, World.size_setCell, World.size_drew, size_drewN] at hs1)
  go_wp2_with fail
  (with_reducible refine (H1.out _).mono ?_)
  rintro e w2 ⟨rfl, hb2⟩
  have hs2 := hb2.size
  (try simp only [World.size_alloc, World.size_setCell, World.size_drew, size_drewN] at hs2)
  go_wp2_with fail
  (with_reducible refine (H2.out _).mono ?_)
  rintro e w3 ⟨rfl, hb3⟩
  have hs3 := hb3.size
  (try simp only [World.size_alloc, World.size_setCell, World.size_drew, size_drewN] at hs3)
  go_wp2_with fail
  (with_reducible refine (H3.out _).mono ?_)
  rintro e w4 ⟨rfl, hb4⟩
  have hs4 := hb4.size
  (try simp only [World.size_alloc, World.size_setCell, World.size_drew, size_drewN] at hs4)
  go_wp2_with fail
  (with_reducible refine (H4.out _).mono ?_)
  rintro e w5 ⟨rfl, hb5⟩
  have hs5 := hb5.size
  (try simp only [World.size_alloc, World.size_setCell, World.size_drew, size_drewN] at hs5)
  go_wp2_with fail
  (with_reducible refine (H5.out _).mono ?_)
  rintro e w6 ⟨rfl, hb6⟩
  have hs6 := hb6.size
  (try simp only [World.size_alloc, World.size_setCell, World.size_drew, size_drewN] at hs6)
  go_wp2_with fail
  (with_reducible refine (H6.out _).mono ?_)
  rintro e w7 ⟨rfl, hb7⟩
  have hs7 := hb7.size
  (try simp only [World.size_alloc, World.size_setCell, World.size_drew, size_drewN] at hs7)
  go_wp2_with fail
  go_ret
  exact ⟨ret_bool (by simp), Kept.below (by (repeat' (first | (with_reducible exact Kept.refl _ _) | (with_reducible assumption) | (with_reducible refine Kept.then_ (by with_reducible assumption) ?_) | (with_reducible refine Kept.thenS (by with_reducible assumption) ?_) | (with_reducible refine Kept.alloc ?_ _) | (with_reducible refine Kept.drew ?_) | (with_reducible refine Kept.drewN ?_ _) | (with_reducible refine Kept.setNew ?_ ?_ _) | ((try simp only [World.size_alloc, World.size_setCell, World.size_drew, size_drewN] at *); (try dsimp only); omega))))⟩
theorem own : ownKnob Try.prog.godebug = none := by kernel_rfl
theorem laidOut : laidOutB Try.prog = true := by kernel_rfl
set_option maxRecDepth 100000 in
theorem lifted (os : Os) (started : os.Started) (H : Type) (enc : TypeId × Value → H) :
    ReturnsInHanded {} Try.checked os 4 .any (Rows.calcRoundsSpec.pre6 enc Try.prog Try.f4 Rows.calcRoundsRow.domain false) (Rows.calcRoundsSpec.post enc Try.prog Try.f4 false true false false) := by
  refine returnsInHanded_of_change (C := Try.checked) own started (by kernel_rfl) Try.func4
    (ChangeSpec.witness6 (enc := enc) (C := Try.checked) false ⟨#[], #[.int .u64 0, .int .u64 0], []⟩ 8 (by kernel_rfl) (by kernel_rfl) (by kernel_rfl) (by kernel_rfl)) ?_
  intro W base args ds gs before hval0 hW hcnd _
  have hval : ∀ (j : Nat) t v, Try.f4.params[j]? = some t → args[j]? = some v → Value.okWide Try.prog W .any base t v := hval0
  have hW' := hW
  obtain ⟨p, q, hA0, hV, rfl, hfz, hnd⟩ := hW
  have hA : DataW.TrodAll enc Try.prog W 0 (fun _ => true) true Try.f4.params.toList args.toList ds p := hA0
  rw [Try.params4] at hA hval
  obtain ⟨v0, vs0, d0, ds0, p0, q0, hargs, rfl, rfl, h0, r0⟩ := trodAll_cons hA
  obtain ⟨v1, vs1, d1, ds1, p1, q1, rfl, rfl, rfl, h1, r1⟩ := trodAll_cons r0
  obtain ⟨rfl, rfl, rfl⟩ := trodAll_nil r1
  obtain rfl : args = #[v0, v1] := by cases args; simp_all
  obtain ⟨rfl, rfl⟩ := trodVars_none hV
  obtain ⟨a0, rfl, rfl, rfl, w0⟩ := open_int Try.underlying24 (hval 0 24 v0 rfl rfl) h0
  obtain ⟨a1, rfl, rfl, rfl, w1⟩ := open_int Try.underlying24 (hval 1 24 v1 rfl rfl) h1
  clear hA0 hval0
  refine (walk a0 a1 W w0 w1).mono fun e W' ⟨he, bel⟩ => ?_
  subst he
  exact ⟨_, rfl, _, _, _, [], _, [], hW', trodAll_mk1 (shut_bool Try.underlying4 _), (trodAll_cons_mk (shut_int Try.underlying24 w0) (trodAll_cons_mk (shut_int Try.underlying24 w1) trodAll_mk0)), rfl, bel.frame _, fun h => by cases h⟩
theorem over : Rows.calcRoundsRow.holds Try.pinned (OpenSpec.ofChange Rows.calcRoundsSpec) :=
  OpenClaim.holds_of_wide 4 Try.f4 rfl rfl rfl rfl rfl rfl rfl ⟨rfl, rfl, rfl, rfl, rfl⟩ rfl rfl rfl rfl rfl (by kernel_rfl) Try.func4 (by kernel_rfl)
    (of_decide_eq_true (by kernel_rfl)) (by unfold Func.isWrapper; first | (rw [if_pos (by decide +kernel)]; kernel_rfl) | (rw [if_neg (by decide +kernel)]; exact ⟨rfl, rfl⟩))
    (fun os started H enc _ => lifted os started H enc)
theorem proved : Rows.CalcRoundsSaid := over
#print axioms proved
end Go.Proofs.Ytnooelpdoeijbaa.CalcRounds
