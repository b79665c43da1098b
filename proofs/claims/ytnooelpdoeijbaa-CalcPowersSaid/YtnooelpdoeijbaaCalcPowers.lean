/- Powers of two are those that one less has no bit in common with; a step that is none is refused. No condition. -/
import Derived.Test.YtnooelpdoeijbaaLawCalc
set_option linter.unusedVariables false
set_option linter.unusedSimpArgs false
namespace Go.Proofs.Ytnooelpdoeijbaa.CalcPowers
open Go.RowKit Go.ChangeShapes Go.WideShapes Go.ChangeAt Go.Joins
set_option maxRecDepth 100000 in
set_option maxHeartbeats 1000000 in
theorem walk (a0 a1 : Int) (W : World) (w0 : (Lit.int .u64 a0).wf = true) (w1 : (Lit.int .u64 a1).wf = true) :
    Calls Try.prog 6 #[.int .u64 a0, .int .u64 a1] W fun e w' => e = .returned (.bool true) ∧ Below W.heap.size W w' := by
  have b0 := bounds_u64 w0
  have b1 := bounds_u64 w1
  clear w0 w1
  obtain ⟨n, hn, n0, n1⟩ : ∃ n, a0 % 1099511627776 = n ∧ 0 ≤ n ∧ n < 1099511627776 := ⟨_, rfl, by omega, by omega⟩
  by_cases hp : IsPow a1
  · have al1 := pow_bd hp
    have ha := (and_pow a1 al1.1 b1.2).2 hp
    obtain ⟨u, eu, u1, u2⟩ := up_fact n a1 al1.1
    obtain ⟨d, ed, d1, d2⟩ := dn_fact n a1 al1.1
    have C2 := Lib.hid (down_in n a1 n0 (by omega) hp (by omega))
    have C3 := Lib.hid (isPow_any a1 hp)
    have h0 : (a1 != 0) = true := by simp; omega
    by_cases hle : a1 ≤ 1099511627776 ∨ n = 0
    · have hu : upV n a1 ≤ 1099511627776 := by
        rcases hle with hle | rfl
        · obtain ⟨k, hk, e1⟩ := hp
          obtain ⟨r, r1, hr⟩ := pow_le40 k (by
            rcases Nat.lt_or_ge 40 k with h | h
            · exfalso
              have : 2 ^ 41 ≤ 2 ^ k := Nat.pow_le_pow_right (by omega) h
              have e2 : ((2 ^ k : Nat) : Int) = (2 : Int) ^ k := by simp
              omega
            · exact h)
          rw [← e1] at hr
          have hu2 := up_mono (x := n) (y := a1 * r) al1.1 (by omega)
          rw [up_mult al1.1, ← hr] at hu2
          exact hu2
        · have := up_mult (a := a1) (q := 0) al1.1
          simp at this
          rw [this]; omega
      have C1 := Lib.hid (up_in n a1 n0 (by omega) hp hu)
      have q : (decide (a1 ≤ 1099511627776) || n == 0) = true := by
        rcases hle with hle | rfl
        · simp [hle]
        · simp
      have hle' : a1 ≤ 1099511627776 ∨ (1099511627776 < a1 ∧ n = 0) := by omega
      clear eu ed hp hle d1 d2 u1 u2 hu q
      generalize dnV n a1 = D at *
      generalize upV n a1 = U at *
      rcases hle' with h5 | ⟨h5, rfl⟩ <;>
      · go_enter Try.func6, Try.ntmps6
        go_wp2_with fail
        (with_reducible refine (alive_any _).mono ?_)
        rintro e w1 ⟨rfl, hb1⟩
        have hs1 := hb1.size
        (try simp only [World.size_alloc, World.size_setCell, World.size_drew, size_drewN] at hs1)
        go_wp2_with fail
        (with_reducible refine (C1.out _).mono ?_)
        rintro e w2 ⟨rfl, hb2⟩
        have hs2 := hb2.size
        (try simp only [World.size_alloc, World.size_setCell, World.size_drew, size_drewN] at hs2)
        go_wp2_with fail
        (with_reducible refine (C2.out _).mono ?_)
        rintro e w3 ⟨rfl, hb3⟩
        have hs3 := hb3.size
        (try simp only [World.size_alloc, World.size_setCell, World.size_drew, size_drewN] at hs3)
        go_wp2_with fail
        (with_reducible refine (C3.out _).mono ?_)
        rintro e w4 ⟨rfl, hb4⟩
        have hs4 := hb4.size
        (try simp only [World.size_alloc, World.size_setCell, World.size_drew, size_drewN] at hs4)
        go_wp2_with fail
        go_ret
        exact ⟨rfl, Kept.below (by (repeat' (first | (with_reducible exact Kept.refl _ _) | (with_reducible assumption) | (with_reducible refine Kept.then_ (by with_reducible assumption) ?_) | (with_reducible refine Kept.thenS (by with_reducible assumption) ?_) | (with_reducible refine Kept.alloc ?_ _) | (with_reducible refine Kept.drew ?_) | (with_reducible refine Kept.drewN ?_ _) | (with_reducible refine Kept.setNew ?_ ?_ _) | ((try simp only [World.size_alloc, World.size_setCell, World.size_drew, size_drewN] at *); (try dsimp only); omega))))⟩
    · have hx : 1099511627776 < a1 ∧ ¬ n = 0 := by omega
      have hu : 1099511627776 < upV n a1 := by
        have h3 := mul_lt_le (a := a1) (q := 1) (r := u) al1.1 (by
          have h4 := mul_lt_le (a := a1) (q := 0) (r := u) al1.1 (by omega)
          rcases Int.lt_or_le 0 u with h5 | h5
          · have := Int.mul_le_mul_of_nonneg_left (show 1 ≤ u by omega) (show 0 ≤ a1 by omega); omega
          · exfalso
            rw [show u = 0 by omega] at u1; simp at u1; omega)
        have := Int.mul_le_mul_of_nonneg_left h3 (show 0 ≤ a1 by omega)
        omega
      have C1 := Lib.hid (up_out n a1 n0 (by omega) hp hu)
      have q : (decide (a1 ≤ 1099511627776) || n == 0) = false := by simp; omega
      obtain ⟨hx1, hx2⟩ := hx
      clear eu ed hp hle d1 d2 u1 u2 hu
      generalize dnV n a1 = D at *
      generalize upV n a1 = U at *
      go_enter Try.func6, Try.ntmps6
      go_wp2_with fail
      (with_reducible refine (alive_any _).mono ?_)
      rintro e w1 ⟨rfl, hb1⟩
      have hs1 := hb1.size
      (try simp only [World.size_alloc, World.size_setCell, World.size_drew, size_drewN] at hs1)
      go_wp2_with fail
      (with_reducible refine (C1.out _).mono ?_)
      rintro e w2 ⟨rfl, hb2⟩
      have hs2 := hb2.size
      (try simp only [World.size_alloc, World.size_setCell, World.size_drew, size_drewN] at hs2)
      go_wp2_with fail
      (with_reducible refine (C2.out _).mono ?_)
      rintro e w3 ⟨rfl, hb3⟩
      have hs3 := hb3.size
      (try simp only [World.size_alloc, World.size_setCell, World.size_drew, size_drewN] at hs3)
      go_wp2_with fail
      (with_reducible refine (C3.out _).mono ?_)
      rintro e w4 ⟨rfl, hb4⟩
      have hs4 := hb4.size
      (try simp only [World.size_alloc, World.size_setCell, World.size_drew, size_drewN] at hs4)
      go_wp2_with fail
      go_ret
      exact ⟨rfl, Kept.below (by (repeat' (first | (with_reducible exact Kept.refl _ _) | (with_reducible assumption) | (with_reducible refine Kept.then_ (by with_reducible assumption) ?_) | (with_reducible refine Kept.thenS (by with_reducible assumption) ?_) | (with_reducible refine Kept.alloc ?_ _) | (with_reducible refine Kept.drew ?_) | (with_reducible refine Kept.drewN ?_ _) | (with_reducible refine Kept.setNew ?_ ?_ _) | ((try simp only [World.size_alloc, World.size_setCell, World.size_drew, size_drewN] at *); (try dsimp only); omega))))⟩
  · have C1 := Lib.hid (up_bad n a1 b1.1 b1.2 hp)
    have C2 := Lib.hid (down_bad n a1 b1.1 b1.2 hp)
    have C3 := Lib.hid (notPow_any a1 b1.1 b1.2 hp)
    by_cases h0 : a1 = 0
    · subst h0
      clear hp
      go_enter Try.func6, Try.ntmps6
      go_wp2_with fail
      (with_reducible refine (alive_any _).mono ?_)
      rintro e w1 ⟨rfl, hb1⟩
      have hs1 := hb1.size
      (try simp only [World.size_alloc, World.size_setCell, World.size_drew, size_drewN] at hs1)
      go_wp2_with fail
      (with_reducible refine (C1.out _).mono ?_)
      rintro e w2 ⟨rfl, hb2⟩
      have hs2 := hb2.size
      (try simp only [World.size_alloc, World.size_setCell, World.size_drew, size_drewN] at hs2)
      go_wp2_with fail
      (with_reducible refine (C2.out _).mono ?_)
      rintro e w3 ⟨rfl, hb3⟩
      have hs3 := hb3.size
      (try simp only [World.size_alloc, World.size_setCell, World.size_drew, size_drewN] at hs3)
      go_wp2_with fail
      (with_reducible refine (C3.out _).mono ?_)
      rintro e w4 ⟨rfl, hb4⟩
      have hs4 := hb4.size
      (try simp only [World.size_alloc, World.size_setCell, World.size_drew, size_drewN] at hs4)
      go_wp2_with fail
      go_ret
      exact ⟨rfl, Kept.below (by (repeat' (first | (with_reducible exact Kept.refl _ _) | (with_reducible assumption) | (with_reducible refine Kept.then_ (by with_reducible assumption) ?_) | (with_reducible refine Kept.thenS (by with_reducible assumption) ?_) | (with_reducible refine Kept.alloc ?_ _) | (with_reducible refine Kept.drew ?_) | (with_reducible refine Kept.drewN ?_ _) | (with_reducible refine Kept.setNew ?_ ?_ _) | ((try simp only [World.size_alloc, World.size_setCell, World.size_drew, size_drewN] at *); (try dsimp only); omega))))⟩
    · have h0' : (a1 != 0) = true := by simpa using h0
      have ha : ¬ bits .and .u64 a1 (a1 - 1) = 0 := fun h => hp ((and_pow a1 (by omega) b1.2).1 h)
      clear hp
      go_enter Try.func6, Try.ntmps6
      go_wp2_with fail
      (with_reducible refine (alive_any _).mono ?_)
      rintro e w1 ⟨rfl, hb1⟩
      have hs1 := hb1.size
      (try simp only [World.size_alloc, World.size_setCell, World.size_drew, size_drewN] at hs1)
      go_wp2_with fail
      (with_reducible refine (C1.out _).mono ?_)
      rintro e w2 ⟨rfl, hb2⟩
      have hs2 := hb2.size
      (try simp only [World.size_alloc, World.size_setCell, World.size_drew, size_drewN] at hs2)
      go_wp2_with fail
      (with_reducible refine (C2.out _).mono ?_)
      rintro e w3 ⟨rfl, hb3⟩
      have hs3 := hb3.size
      (try simp only [World.size_alloc, World.size_setCell, World.size_drew, size_drewN] at hs3)
      go_wp2_with fail
      (with_reducible refine (C3.out _).mono ?_)
      rintro e w4 ⟨rfl, hb4⟩
      have hs4 := hb4.size
      (try simp only [World.size_alloc, World.size_setCell, World.size_drew, size_drewN] at hs4)
      go_wp2_with fail
      go_ret
      exact ⟨rfl, Kept.below (by (repeat' (first | (with_reducible exact Kept.refl _ _) | (with_reducible assumption) | (with_reducible refine Kept.then_ (by with_reducible assumption) ?_) | (with_reducible refine Kept.thenS (by with_reducible assumption) ?_) | (with_reducible refine Kept.alloc ?_ _) | (with_reducible refine Kept.drew ?_) | (with_reducible refine Kept.drewN ?_ _) | (with_reducible refine Kept.setNew ?_ ?_ _) | ((try simp only [World.size_alloc, World.size_setCell, World.size_drew, size_drewN] at *); (try dsimp only); omega))))⟩
theorem own : ownKnob Try.prog.godebug = none := by kernel_rfl
theorem laidOut : laidOutB Try.prog = true := by kernel_rfl
set_option maxRecDepth 100000 in
theorem lifted (os : Os) (started : os.Started) (H : Type) (enc : TypeId × Value → H) :
    ReturnsInHanded {} Try.checked os 6 .any (Rows.calcPowersSpec.pre6 enc Try.prog Try.f6 Rows.calcPowersRow.domain false) (Rows.calcPowersSpec.post enc Try.prog Try.f6 false true false false) := by
  refine returnsInHanded_of_change (C := Try.checked) own started (by kernel_rfl) Try.func6
    (ChangeSpec.witness6 (enc := enc) (C := Try.checked) false ⟨#[], #[.int .u64 0, .int .u64 0], []⟩ 8 (by kernel_rfl) (by kernel_rfl) (by kernel_rfl) (by kernel_rfl)) ?_
  intro W base args ds gs before hval0 hW hcnd _
  have hval : ∀ (j : Nat) t v, Try.f6.params[j]? = some t → args[j]? = some v → Value.okWide Try.prog W .any base t v := hval0
  have hW' := hW
  obtain ⟨p, q, hA0, hV, rfl, hfz, hnd⟩ := hW
  have hA : DataW.TrodAll enc Try.prog W 0 (fun _ => true) true Try.f6.params.toList args.toList ds p := hA0
  rw [Try.params6] at hA hval
  obtain ⟨v0, vs0, d0, ds0, p0, q0, hargs, rfl, rfl, h0, r0⟩ := trodAll_cons hA
  obtain ⟨v1, vs1, d1, ds1, p1, q1, rfl, rfl, rfl, h1, r1⟩ := trodAll_cons r0
  obtain ⟨rfl, rfl, rfl⟩ := trodAll_nil r1
  obtain rfl : args = #[v0, v1] := by cases args; simp_all
  obtain ⟨rfl, rfl⟩ := trodVars_none hV
  obtain ⟨a0, rfl, rfl, rfl, w0⟩ := open_int Try.underlying24 (hval 0 24 v0 rfl rfl) h0
  obtain ⟨a1, rfl, rfl, rfl, w1⟩ := open_int Try.underlying24 (hval 1 24 v1 rfl rfl) h1
  clear hA0 hval0
  refine (walk a0 a1 W w0 w1).mono fun e W' ⟨he, bel⟩ => ?_
  subst he
  exact ⟨_, rfl, _, _, _, [], _, [], hW', trodAll_mk1 (shut_bool Try.underlying4 _), (trodAll_cons_mk (shut_int Try.underlying24 w0) (trodAll_cons_mk (shut_int Try.underlying24 w1) trodAll_mk0)), rfl, bel.frame _, fun h => by cases h⟩
theorem over : Rows.calcPowersRow.holds Try.pinned (OpenSpec.ofChange Rows.calcPowersSpec) :=
  OpenClaim.holds_of_wide 6 Try.f6 rfl rfl rfl rfl rfl rfl rfl ⟨rfl, rfl, rfl, rfl, rfl⟩ rfl rfl rfl rfl rfl (by kernel_rfl) Try.func6 (by kernel_rfl)
    (of_decide_eq_true (by kernel_rfl)) (by unfold Func.isWrapper; first | (rw [if_pos (by decide +kernel)]; kernel_rfl) | (rw [if_neg (by decide +kernel)]; exact ⟨rfl, rfl⟩))
    (fun os started H enc _ => lifted os started H enc)
theorem proved : Rows.CalcPowersSaid := over
#print axioms proved
end Go.Proofs.Ytnooelpdoeijbaa.CalcPowers
