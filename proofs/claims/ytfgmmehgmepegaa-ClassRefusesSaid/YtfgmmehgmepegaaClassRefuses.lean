/- What is too great, or at multiples of no power of two, or of too great a one, is refused. No condition. -/
import Derived.Test.YtfgmmehgmepegaaPlan
set_option linter.unusedVariables false
set_option linter.unusedSimpArgs false
namespace Go.Proofs.Ytfgmmehgmepegaa.ClassRefuses
open Go.RowKit Go.ChangeShapes Go.WideShapes Go.ChangeAt Go.Joins
theorem and_pow (a : Int) (h1 : 1 ≤ a) (h2 : a ≤ 18446744073709551615) : (bits .and .u64 a (a - 1) == 0) = decide (IsPow a) := by
  obtain ⟨n, rfl⟩ := Int.eq_ofNat_of_zero_le (show 0 ≤ a by omega)
  have e := u64_and_nat n (n - 1) (by omega) (by omega)
  rw [show ((n - 1 : Nat) : Int) = (n : Int) - 1 by omega] at e
  rw [e]
  have h3 := Nat.and_sub_one_eq_zero_iff_isPowerOfTwo (n := n) (by omega)
  rw [Bool.eq_iff_iff, beq_iff_eq, decide_eq_true_iff]
  constructor
  · intro h
    obtain ⟨k, hk⟩ := h3.1 (by omega)
    refine ⟨k, ?_, by rw [hk]; simp⟩
    rcases Nat.lt_or_ge k 64 with h4 | h4
    · exact h4
    · exfalso
      have : 2 ^ 64 ≤ 2 ^ k := Nat.pow_le_pow_right (by omega) h4
      omega
  · rintro ⟨k, hk, e2⟩
    have e3 : n = 2 ^ k := by
      have : ((2 ^ k : Nat) : Int) = 2 ^ k := by simp
      omega
    have := h3.2 ⟨k, e3⟩
    omega
set_option maxHeartbeats 1000000 in
theorem walk (a0 a1 : Int) (W : World) (w0 : (Lit.int .u64 a0).wf = true) (w1 : (Lit.int .u64 a1).wf = true) :
    Calls Try.prog 6 #[.int .u64 a0, .int .u64 a1] W fun e w' => e = .returned (.bool true) ∧ Below W.heap.size W w' := by
  have b0 := bounds_u64 w0
  have b1 := bounds_u64 w1
  clear w0 w1
  have hs := small_pow a1
  by_cases h0 : a1 = 0
  · subst h0
    have hno : ¬ (AlignOk 0 ∧ a0 ≤ 1048576) := by unfold AlignOk; omega
    have c := for_bad a0 0 b0.1 (by omega) (by omega) hno
    have C := Lib.hid c
    clear c hno hs
    go_enter Try.func6, Try.ntmps6
    go_wp2_with fail
    (with_reducible refine (alive_any _).mono ?_)
    rintro e w1 ⟨rfl, hb1⟩
    have hs1 := hb1.size
    (try simp only [World.size_alloc, World.size_setCell, World.size_drew, size_drewN] at hs1)
    go_wp2_with fail
    (with_reducible refine (C.out _).mono ?_)
    rintro e w2 ⟨rfl, hb2⟩
    have hs2 := hb2.size
    (try simp only [World.size_alloc, World.size_setCell, World.size_drew, size_drewN] at hs2)
    by_cases h1 : a0 ≤ 1048576 <;>
    · go_wp2_with fail
      go_ret
      exact ⟨rfl, Kept.below (by (repeat' (first | (with_reducible exact Kept.refl _ _) | (with_reducible assumption) | (with_reducible refine Kept.then_ (by with_reducible assumption) ?_) | (with_reducible refine Kept.thenS (by with_reducible assumption) ?_) | (with_reducible refine Kept.alloc ?_ _) | (with_reducible refine Kept.drew ?_) | (with_reducible refine Kept.drewN ?_ _) | (with_reducible refine Kept.setNew ?_ ?_ _) | ((try simp only [World.size_alloc, World.size_setCell, World.size_drew, size_drewN] at *); (try dsimp only); omega))))⟩
  · have ha := and_pow a1 (by omega) b1.2
    by_cases hok : AlignOk a1 ∧ a0 ≤ 1048576
    · obtain ⟨c, s, g, u, hp, _⟩ := planIs a0 a1 hok.2 hok.1
      have c := for_at a0 a1 b0.1 hok.2 hok.1 c s g u hp
      have C := Lib.hid c
      obtain ⟨h1, h2⟩ := hs.2 hok.1
      have q1 : decide (1048576 < a0) = false := decide_eq_false (by have := hok.2; omega)
      have q2 : decide (1024 < a1) = false := decide_eq_false (by omega)
      have ha' : bits .and .u64 a1 (a1 - 1) = 0 := by have := ha.trans (decide_eq_true h1); simpa using this
      have h0b : (a1 == 0) = false := by simpa using h0
      clear c hp hs hok ha
      go_enter Try.func6, Try.ntmps6
      go_wp2_with fail
      (with_reducible refine (alive_any _).mono ?_)
      rintro e w1 ⟨rfl, hb1⟩
      have hs1 := hb1.size
      (try simp only [World.size_alloc, World.size_setCell, World.size_drew, size_drewN] at hs1)
      go_wp2_with fail
      (with_reducible refine (C.out _).mono ?_)
      rintro e w2 ⟨rfl, hb2⟩
      have hs2 := hb2.size
      (try simp only [World.size_alloc, World.size_setCell, World.size_drew, size_drewN] at hs2)
      go_wp2_with fail
      go_ret
      exact ⟨rfl, Kept.below (by (repeat' (first | (with_reducible exact Kept.refl _ _) | (with_reducible assumption) | (with_reducible refine Kept.then_ (by with_reducible assumption) ?_) | (with_reducible refine Kept.thenS (by with_reducible assumption) ?_) | (with_reducible refine Kept.alloc ?_ _) | (with_reducible refine Kept.drew ?_) | (with_reducible refine Kept.drewN ?_ _) | (with_reducible refine Kept.setNew ?_ ?_ _) | ((try simp only [World.size_alloc, World.size_setCell, World.size_drew, size_drewN] at *); (try dsimp only); omega))))⟩
    · have c := for_bad a0 a1 b0.1 b1.1 b1.2 hok
      have C := Lib.hid c
      have h0b : (a1 == 0) = false := by simpa using h0
      by_cases h3 : a0 ≤ 1048576
      · by_cases h1 : IsPow a1
        · have h2 : ¬ a1 ≤ 1024 := fun h2 => hok ⟨hs.1 ⟨h1, h2⟩, h3⟩
          have ha' : bits .and .u64 a1 (a1 - 1) = 0 := by have := ha.trans (decide_eq_true h1); simpa using this
          clear c hs hok ha
          go_enter Try.func6, Try.ntmps6
          go_wp2_with fail
          (with_reducible refine (alive_any _).mono ?_)
          rintro e w1 ⟨rfl, hb1⟩
          have hs1 := hb1.size
          (try simp only [World.size_alloc, World.size_setCell, World.size_drew, size_drewN] at hs1)
          go_wp2_with fail
          (with_reducible refine (C.out _).mono ?_)
          rintro e w2 ⟨rfl, hb2⟩
          have hs2 := hb2.size
          (try simp only [World.size_alloc, World.size_setCell, World.size_drew, size_drewN] at hs2)
          go_wp2_with fail
          go_ret
          exact ⟨rfl, Kept.below (by (repeat' (first | (with_reducible exact Kept.refl _ _) | (with_reducible assumption) | (with_reducible refine Kept.then_ (by with_reducible assumption) ?_) | (with_reducible refine Kept.thenS (by with_reducible assumption) ?_) | (with_reducible refine Kept.alloc ?_ _) | (with_reducible refine Kept.drew ?_) | (with_reducible refine Kept.drewN ?_ _) | (with_reducible refine Kept.setNew ?_ ?_ _) | ((try simp only [World.size_alloc, World.size_setCell, World.size_drew, size_drewN] at *); (try dsimp only); omega))))⟩
        · have ha' : ¬ bits .and .u64 a1 (a1 - 1) = 0 := by have := ha.trans (decide_eq_false h1); simpa using this
          clear c hs hok ha
          go_enter Try.func6, Try.ntmps6
          go_wp2_with fail
          (with_reducible refine (alive_any _).mono ?_)
          rintro e w1 ⟨rfl, hb1⟩
          have hs1 := hb1.size
          (try simp only [World.size_alloc, World.size_setCell, World.size_drew, size_drewN] at hs1)
          go_wp2_with fail
          (with_reducible refine (C.out _).mono ?_)
          rintro e w2 ⟨rfl, hb2⟩
          have hs2 := hb2.size
          (try simp only [World.size_alloc, World.size_setCell, World.size_drew, size_drewN] at hs2)
          go_wp2_with fail
          go_ret
          exact ⟨rfl, Kept.below (by (repeat' (first | (with_reducible exact Kept.refl _ _) | (with_reducible assumption) | (with_reducible refine Kept.then_ (by with_reducible assumption) ?_) | (with_reducible refine Kept.thenS (by with_reducible assumption) ?_) | (with_reducible refine Kept.alloc ?_ _) | (with_reducible refine Kept.drew ?_) | (with_reducible refine Kept.drewN ?_ _) | (with_reducible refine Kept.setNew ?_ ?_ _) | ((try simp only [World.size_alloc, World.size_setCell, World.size_drew, size_drewN] at *); (try dsimp only); omega))))⟩
      · clear c hs hok ha
        go_enter Try.func6, Try.ntmps6
        go_wp2_with fail
        (with_reducible refine (alive_any _).mono ?_)
        rintro e w1 ⟨rfl, hb1⟩
        have hs1 := hb1.size
        (try simp only [World.size_alloc, World.size_setCell, World.size_drew, size_drewN] at hs1)
        go_wp2_with fail
        (with_reducible refine (C.out _).mono ?_)
        rintro e w2 ⟨rfl, hb2⟩
        have hs2 := hb2.size
        (try simp only [World.size_alloc, World.size_setCell, World.size_drew, size_drewN] at hs2)
        go_wp2_with fail
        go_ret
        exact ⟨rfl, Kept.below (by (repeat' (first | (with_reducible exact Kept.refl _ _) | (with_reducible assumption) | (with_reducible refine Kept.then_ (by with_reducible assumption) ?_) | (with_reducible refine Kept.thenS (by with_reducible assumption) ?_) | (with_reducible refine Kept.alloc ?_ _) | (with_reducible refine Kept.drew ?_) | (with_reducible refine Kept.drewN ?_ _) | (with_reducible refine Kept.setNew ?_ ?_ _) | ((try simp only [World.size_alloc, World.size_setCell, World.size_drew, size_drewN] at *); (try dsimp only); omega))))⟩
theorem own : ownKnob Try.prog.godebug = none := by kernel_rfl
theorem laidOut : laidOutB Try.prog = true := by kernel_rfl
set_option maxRecDepth 100000 in
theorem lifted (os : Os) (started : os.Started) (H : Type) (enc : TypeId × Value → H) :
    ReturnsInHanded {} Try.checked os 6 .any (Rows.classRefusesSpec.pre6 enc Try.prog Try.f6 Rows.classRefusesRow.domain false) (Rows.classRefusesSpec.post enc Try.prog Try.f6 false true false false) := by
  refine returnsInHanded_of_change (C := Try.checked) own started (by kernel_rfl) Try.func6
    (ChangeSpec.witness6 (enc := enc) (C := Try.checked) false ⟨#[], #[.int .u64 0, .int .u64 0], []⟩ 8 (by kernel_rfl) (by kernel_rfl) (by kernel_rfl) (by kernel_rfl)) ?_
  intro W base args ds gs before hval0 hW hcnd _
  have hval : ∀ (j : Nat) t v, Try.f6.params[j]? = some t → args[j]? = some v → Value.okWide Try.prog W .any base t v := hval0
  have hW' := hW
  obtain ⟨p, q, hA0, hV, rfl, hfz, hnd⟩ := hW
  have hA : DataW.TrodAll enc Try.prog W 0 (fun _ => true) true Try.f6.params.toList args.toList ds p := hA0
  rw [Try.params6] at hA hval
  obtain ⟨v0, vs0, d0, ds0, p0, q0, hargs, rfl, rfl, h0, r0⟩ := trodAll_cons hA
  obtain ⟨v1, vs1, d1, ds1, p1, q1, rfl, rfl, rfl, h1, r1⟩ := trodAll_cons r0
  obtain ⟨rfl, rfl, rfl⟩ := trodAll_nil r1
  obtain rfl : args = #[v0, v1] := by cases args; simp_all
  obtain ⟨rfl, rfl⟩ := trodVars_none hV
  obtain ⟨a0, rfl, rfl, rfl, w0⟩ := open_int Try.underlying22 (hval 0 22 v0 rfl rfl) h0
  obtain ⟨a1, rfl, rfl, rfl, w1⟩ := open_int Try.underlying22 (hval 1 22 v1 rfl rfl) h1
  clear hA0 hval0
  refine (walk a0 a1 W w0 w1).mono fun e W' ⟨he, bel⟩ => ?_
  subst he
  exact ⟨_, rfl, _, _, _, [], _, [], hW', trodAll_mk1 (shut_bool Try.underlying4 _), (trodAll_cons_mk (shut_int Try.underlying22 w0) (trodAll_cons_mk (shut_int Try.underlying22 w1) trodAll_mk0)), rfl, bel.frame _, fun h => by cases h⟩
theorem over : Rows.classRefusesRow.holds Try.pinned (OpenSpec.ofChange Rows.classRefusesSpec) :=
  OpenClaim.holds_of_wide 6 Try.f6 rfl rfl rfl rfl rfl rfl rfl ⟨rfl, rfl, rfl, rfl, rfl⟩ rfl rfl rfl rfl rfl (by kernel_rfl) Try.func6 (by kernel_rfl)
    (of_decide_eq_true (by kernel_rfl)) (by unfold Func.isWrapper; first | (rw [if_pos (by decide +kernel)]; kernel_rfl) | (rw [if_neg (by decide +kernel)]; exact ⟨rfl, rfl⟩))
    (fun os started H enc _ => lifted os started H enc)
theorem proved : Rows.ClassRefusesSaid := over
#print axioms proved
end Go.Proofs.Ytfgmmehgmepegaa.ClassRefuses
