/- What is rounded is a multiple, less than a step away; what is one stays. No condition. -/
import Derived.Test.YtnooelpdoeijbaaLawCalc
set_option linter.unusedVariables false
set_option linter.unusedSimpArgs false
namespace Go.Proofs.Ytnooelpdoeijbaa.CalcNext
open Go.RowKit Go.ChangeShapes Go.WideShapes Go.ChangeAt Go.Joins
set_option maxRecDepth 100000 in
set_option maxHeartbeats 1000000 in
theorem walk (a0 a1 : Int) (W : World) (w0 : (Lit.int .u64 a0).wf = true) (w1 : (Lit.int .u8 a1).wf = true) :
    Calls Try.prog 5 #[.int .u64 a0, .int .u8 a1] W fun e w' => e = .returned (.bool true) ∧ Below W.heap.size W w' := by
  have b0 := bounds_u64 w0
  have b1 := bounds_u8 w1
  clear w0 w1
  obtain ⟨al, k, hal, e1, k1, k2, hp⟩ := shl_of a1 41 b1.1 (by omega) (by omega)
  obtain ⟨n, hn, n0, n1⟩ : ∃ n, a0 % 1099511627776 = n ∧ 0 ≤ n ∧ n < 1099511627776 := ⟨_, rfl, by omega, by omega⟩
  obtain ⟨q, q1, hq⟩ := pow_le40 k (by omega)
  rw [← e1] at hq
  have al1 := pow_bd hp
  obtain ⟨u, eu, u1, u2⟩ := up_fact n al al1.1
  obtain ⟨d, ed, d1, d2⟩ := dn_fact n al al1.1
  have hu := up_mono (x := n) (y := al * q) al1.1 (by omega)
  rw [up_mult al1.1, ← hq] at hu
  have C1 := Lib.hid (up_in n al n0 (by omega) hp hu)
  have C2 := Lib.hid (down_in n al n0 (by omega) hp (by omega))
  have C3 := Lib.hid (up_in (al * u) al (by omega) (by omega) hp (by rw [up_mult al1.1]; omega))
  have C4 := Lib.hid (isPow_any al hp)
  have d0 : 0 ≤ al * d := Int.mul_nonneg (by omega) (mul_lt_le (q := 0) (a := al) al1.1 (by omega))
  have hz : (n % al = 0 ∧ al * u = al * d) ∨ (¬ n % al = 0 ∧ ¬ al * u = al * d) := by
    by_cases h : n % al = 0
    · left
      have h2 : dnV n al = n := by unfold dnV; omega
      have h3 : upV n al = n := by
        have e := up_mult (a := al) (q := d) al1.1
        rw [← ed, h2] at e; exact e
      exact ⟨h, by omega⟩
    · right
      refine ⟨h, fun h2 => h ?_⟩
      have h3 : n = al * u := by omega
      rw [h3, Int.mul_emod_right]
  have m1 : al * u % al = 0 := Int.mul_emod_right _ _
  have m2 : al * d % al = 0 := Int.mul_emod_right _ _
  rw [up_mult al1.1] at C3
  rw [eu] at C1 hu
  rw [ed] at C2
  clear eu ed hq e1 q1 k2 hp
  generalize al * u = U at *
  generalize al * d = D at *
  rcases hz with ⟨h1, rfl⟩ | ⟨h1, h2⟩
  · go_enter Try.func5, Try.ntmps5
    go_wp2_with fail
    (with_reducible refine (alive_any _).mono ?_)
    rintro e w1 ⟨rfl, hb1⟩
    have hs1 := hb1.size
    (try simp only [World.size_alloc, World.size_setCell, World.size_drew, size_drewN] at hs1)
    go_wp2_with fail
    (with_reducible refine (C1.out _).mono ?_)
    rintro e w2 ⟨rfl, hb2⟩
    have hs2 := hb2.size
    (try simp only [World.size_alloc, World.size_setCell, World.size_drew, size_drewN] at hs2)
    go_wp2_with fail
    (with_reducible refine (C2.out _).mono ?_)
    rintro e w3 ⟨rfl, hb3⟩
    have hs3 := hb3.size
    (try simp only [World.size_alloc, World.size_setCell, World.size_drew, size_drewN] at hs3)
    go_wp2_with fail
    (with_reducible refine (C3.out _).mono ?_)
    rintro e w4 ⟨rfl, hb4⟩
    have hs4 := hb4.size
    (try simp only [World.size_alloc, World.size_setCell, World.size_drew, size_drewN] at hs4)
    go_wp2_with fail
    (with_reducible refine (C4.out _).mono ?_)
    rintro e w5 ⟨rfl, hb5⟩
    have hs5 := hb5.size
    (try simp only [World.size_alloc, World.size_setCell, World.size_drew, size_drewN] at hs5)
    go_wp2_with fail
    go_ret
    exact ⟨rfl, Kept.below (by (repeat' (first | (with_reducible exact Kept.refl _ _) | (with_reducible assumption) | (with_reducible refine Kept.then_ (by with_reducible assumption) ?_) | (with_reducible refine Kept.thenS (by with_reducible assumption) ?_) | (with_reducible refine Kept.alloc ?_ _) | (with_reducible refine Kept.drew ?_) | (with_reducible refine Kept.drewN ?_ _) | (with_reducible refine Kept.setNew ?_ ?_ _) | ((try simp only [World.size_alloc, World.size_setCell, World.size_drew, size_drewN] at *); (try dsimp only); omega))))⟩
  · have q2 : (U == D) = false := by simpa using h2
    have q1 : (n % al == 0) = false := by simpa using h1
    clear h1 h2
    go_enter Try.func5, Try.ntmps5
    go_wp2_with fail
    (with_reducible refine (alive_any _).mono ?_)
    rintro e w1 ⟨rfl, hb1⟩
    have hs1 := hb1.size
    (try simp only [World.size_alloc, World.size_setCell, World.size_drew, size_drewN] at hs1)
    go_wp2_with fail
    (with_reducible refine (C1.out _).mono ?_)
    rintro e w2 ⟨rfl, hb2⟩
    have hs2 := hb2.size
    (try simp only [World.size_alloc, World.size_setCell, World.size_drew, size_drewN] at hs2)
    go_wp2_with fail
    (with_reducible refine (C2.out _).mono ?_)
    rintro e w3 ⟨rfl, hb3⟩
    have hs3 := hb3.size
    (try simp only [World.size_alloc, World.size_setCell, World.size_drew, size_drewN] at hs3)
    go_wp2_with fail
    (with_reducible refine (C3.out _).mono ?_)
    rintro e w4 ⟨rfl, hb4⟩
    have hs4 := hb4.size
    (try simp only [World.size_alloc, World.size_setCell, World.size_drew, size_drewN] at hs4)
    go_wp2_with fail
    (with_reducible refine (C4.out _).mono ?_)
    rintro e w5 ⟨rfl, hb5⟩
    have hs5 := hb5.size
    (try simp only [World.size_alloc, World.size_setCell, World.size_drew, size_drewN] at hs5)
    go_wp2_with fail
    go_ret
    exact ⟨rfl, Kept.below (by (repeat' (first | (with_reducible exact Kept.refl _ _) | (with_reducible assumption) | (with_reducible refine Kept.then_ (by with_reducible assumption) ?_) | (with_reducible refine Kept.thenS (by with_reducible assumption) ?_) | (with_reducible refine Kept.alloc ?_ _) | (with_reducible refine Kept.drew ?_) | (with_reducible refine Kept.drewN ?_ _) | (with_reducible refine Kept.setNew ?_ ?_ _) | ((try simp only [World.size_alloc, World.size_setCell, World.size_drew, size_drewN] at *); (try dsimp only); omega))))⟩
theorem own : ownKnob Try.prog.godebug = none := by kernel_rfl
theorem laidOut : laidOutB Try.prog = true := by kernel_rfl
set_option maxRecDepth 100000 in
theorem lifted (os : Os) (started : os.Started) (H : Type) (enc : TypeId × Value → H) :
    ReturnsInHanded {} Try.checked os 5 .any (Rows.calcNextSpec.pre6 enc Try.prog Try.f5 Rows.calcNextRow.domain false) (Rows.calcNextSpec.post enc Try.prog Try.f5 false true false false) := by
  refine returnsInHanded_of_change (C := Try.checked) own started (by kernel_rfl) Try.func5
    (ChangeSpec.witness6 (enc := enc) (C := Try.checked) false ⟨#[], #[.int .u64 0, .int .u8 0], []⟩ 8 (by kernel_rfl) (by kernel_rfl) (by kernel_rfl) (by kernel_rfl)) ?_
  intro W base args ds gs before hval0 hW hcnd _
  have hval : ∀ (j : Nat) t v, Try.f5.params[j]? = some t → args[j]? = some v → Value.okWide Try.prog W .any base t v := hval0
  have hW' := hW
  obtain ⟨p, q, hA0, hV, rfl, hfz, hnd⟩ := hW
  have hA : DataW.TrodAll enc Try.prog W 0 (fun _ => true) true Try.f5.params.toList args.toList ds p := hA0
  rw [Try.params5] at hA hval
  obtain ⟨v0, vs0, d0, ds0, p0, q0, hargs, rfl, rfl, h0, r0⟩ := trodAll_cons hA
  obtain ⟨v1, vs1, d1, ds1, p1, q1, rfl, rfl, rfl, h1, r1⟩ := trodAll_cons r0
  obtain ⟨rfl, rfl, rfl⟩ := trodAll_nil r1
  obtain rfl : args = #[v0, v1] := by cases args; simp_all
  obtain ⟨rfl, rfl⟩ := trodVars_none hV
  obtain ⟨a0, rfl, rfl, rfl, w0⟩ := open_int Try.underlying24 (hval 0 24 v0 rfl rfl) h0
  obtain ⟨a1, rfl, rfl, rfl, w1⟩ := open_int Try.underlying5 (hval 1 5 v1 rfl rfl) h1
  clear hA0 hval0
  refine (walk a0 a1 W w0 w1).mono fun e W' ⟨he, bel⟩ => ?_
  subst he
  exact ⟨_, rfl, _, _, _, [], _, [], hW', trodAll_mk1 (shut_bool Try.underlying4 _), (trodAll_cons_mk (shut_int Try.underlying24 w0) (trodAll_cons_mk (shut_int Try.underlying5 w1) trodAll_mk0)), rfl, bel.frame _, fun h => by cases h⟩
theorem over : Rows.calcNextRow.holds Try.pinned (OpenSpec.ofChange Rows.calcNextSpec) :=
  OpenClaim.holds_of_wide 5 Try.f5 rfl rfl rfl rfl rfl rfl rfl ⟨rfl, rfl, rfl, rfl, rfl⟩ rfl rfl rfl rfl rfl (by kernel_rfl) Try.func5 (by kernel_rfl)
    (of_decide_eq_true (by kernel_rfl)) (by unfold Func.isWrapper; first | (rw [if_pos (by decide +kernel)]; kernel_rfl) | (rw [if_neg (by decide +kernel)]; exact ⟨rfl, rfl⟩))
    (fun os started H enc _ => lifted os started H enc)
theorem proved : Rows.CalcNextSaid := over
#print axioms proved
end Go.Proofs.Ytnooelpdoeijbaa.CalcNext
