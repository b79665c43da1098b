/- A page's blocks fit into it, one more wouldn't; a class's size is of its class, one more of the next. No condition. -/
import Derived.Test.YtfgmmehgmepegaaOf
set_option linter.unusedVariables false
set_option linter.unusedSimpArgs false
namespace Go.Proofs.Ytfgmmehgmepegaa.ClassFits
open Go.RowKit Go.ChangeShapes Go.WideShapes Go.ChangeAt Go.Joins
theorem fits_k (k : Nat) (h : k < 12) : sz k % 16 = 0 ∧ 1 ≤ bkS k ∧ bkS k ≤ 64 ∧ bkS k * sz k ≤ slS k * 1024 ∧ slS k * 1024 < (bkS k + 1) * sz k ∧ (bkS k + 1) * sz k < 100000 := by
  have : ∀ k, k < 12 → sz k % 16 = 0 ∧ 1 ≤ bkS k ∧ bkS k ≤ 64 ∧ bkS k * sz k ≤ slS k * 1024 ∧ slS k * 1024 < (bkS k + 1) * sz k ∧ (bkS k + 1) * sz k < 100000 := by decide +kernel
  exact this k h
theorem next_k (k : Nat) (h : k + 1 < 12) : sz k + 1 ≤ sz (k + 1) := by
  have : ∀ k, k < 11 → sz k + 1 ≤ sz (k + 1) := by decide +kernel
  exact this k (by omega)
set_option maxRecDepth 100000 in
set_option maxHeartbeats 1000000 in
theorem walk (a0 : Int) (W : World) (w0 : (Lit.int .u8 a0).wf = true) :
    Calls Try.prog 8 #[.int .u8 a0] W fun e w' => e = .returned (.bool true) ∧ Below W.heap.size W w' := by
  have b0 := bounds_u8 w0
  clear w0
  obtain ⟨k, hk, hm⟩ : ∃ k : Nat, k < 12 ∧ a0 % 12 = k := ⟨(a0 % 12).toNat, by omega, by omega⟩
  have hb := sz_bd k hk
  have hl := sl_bd k hk
  obtain ⟨f1, f2, f3, f4, f5, f6⟩ := fits_k k hk
  have ho := fun w => of_in (sz k) k (by omega) (by omega) hk (Int.le_refl _) (fun j hj => by
    have h1 := sz_mono (j + 1) k (by omega) hk
    have h2 := next_k j (by omega)
    omega) w
  have O := Lib.hid ho
  have z1 := Lib.hid (size_in k hk)
  have z2 := Lib.hid (slices_in k hk)
  have z3 := Lib.hid (blocks_in k hk)
  have HN : Hid (k + 1 < 12 → ∀ w, Calls Try.prog 16 #[.int .u64 (sz k + 1)] w fun e w' => e = .returned (.tuple #[.int .i64 (k + 1 : Nat), .int .i64 0]) ∧ Kept [] w w') := Lib.hid (fun h w => by
    have h1 := next_k k h
    have h3 := sz_bd (k + 1) h
    exact of_in (sz k + 1) (k + 1) (by omega) (by omega) h h1 (fun j hj => by
      have h2 := sz_mono j k (by omega) hk
      omega) w)
  have HL : Hid (k = 11 → sz k = 1024) := Lib.hid (by rintro rfl; exact sz_11)
  clear ho
  generalize hs : sz k = s at *
  generalize hl' : slS k = l at *
  generalize hb' : bkS k = b at *
  have q1 : decide (l * 1024 < b * s) = false := decide_eq_false (by omega)
  have q2 : decide ((b + 1) * s ≤ l * 1024) = false := decide_eq_false (by omega)
  have p0 : 0 ≤ b * s := Int.mul_nonneg (by omega) (by omega)
  have p1 : 0 ≤ (b + 1) * s := Int.mul_nonneg (by omega) (by omega)
  have e1 : IntKind.u64.wrap (b * s) = b * s := by refine IntWalk.u64_in ?_ ?_ <;> omega
  have e2 : IntKind.u64.wrap ((b + 1) * s) = (b + 1) * s := by refine IntWalk.u64_in ?_ ?_ <;> omega
  clear f4 f5 f6 p0 p1 hs hl' hb'
  by_cases hlt : k + 1 < 12
  · have N := Lib.hid (HN.out hlt)
    clear HN HL
    go_enter Try.func8, Try.ntmps8
    go_wp2_with fail
    (with_reducible refine (alive_any _).mono ?_)
    rintro e w1 ⟨rfl, hb1⟩
    have hs1 := hb1.size
    (try simp only [World.size_alloc, World.size_setCell, World.size_drew, size_drewN] at hs1)
    go_wp2_with fail
    (with_reducible refine (z1.out _).mono ?_)
    rintro e w2 ⟨rfl, hb2⟩
    have hs2 := hb2.size
    (try simp only [World.size_alloc, World.size_setCell, World.size_drew, size_drewN] at hs2)
    go_wp2_with fail
    (with_reducible refine (z3.out _).mono ?_)
    rintro e w3 ⟨rfl, hb3⟩
    have hs3 := hb3.size
    (try simp only [World.size_alloc, World.size_setCell, World.size_drew, size_drewN] at hs3)
    go_wp2_with fail
    (with_reducible refine (z2.out _).mono ?_)
    rintro e w4 ⟨rfl, hb4⟩
    have hs4 := hb4.size
    (try simp only [World.size_alloc, World.size_setCell, World.size_drew, size_drewN] at hs4)
    go_wp2_with fail
    (with_reducible refine (O.out _).mono ?_)
    rintro e w5 ⟨rfl, hb5⟩
    have hs5 := hb5.size
    (try simp only [World.size_alloc, World.size_setCell, World.size_drew, size_drewN] at hs5)
    go_wp2_with fail
    (with_reducible refine (N.out _).mono ?_)
    rintro e w6 ⟨rfl, hb6⟩
    have hs6 := hb6.size
    (try simp only [World.size_alloc, World.size_setCell, World.size_drew, size_drewN] at hs6)
    go_wp2_with fail
    go_ret
    exact ⟨rfl, Kept.below (by (repeat' (first | (with_reducible exact Kept.refl _ _) | (with_reducible assumption) | (with_reducible refine Kept.then_ (by with_reducible assumption) ?_) | (with_reducible refine Kept.thenS (by with_reducible assumption) ?_) | (with_reducible refine Kept.alloc ?_ _) | (with_reducible refine Kept.drew ?_) | (with_reducible refine Kept.drewN ?_ _) | (with_reducible refine Kept.setNew ?_ ?_ _) | ((try simp only [World.size_alloc, World.size_setCell, World.size_drew, size_drewN] at *); (try dsimp only); omega))))⟩
  · have N := Lib.hid (of_out (s + 1) (by have := HL.out (by omega); omega))
    clear HN HL
    go_enter Try.func8, Try.ntmps8
    go_wp2_with fail
    (with_reducible refine (alive_any _).mono ?_)
    rintro e w1 ⟨rfl, hb1⟩
    have hs1 := hb1.size
    (try simp only [World.size_alloc, World.size_setCell, World.size_drew, size_drewN] at hs1)
    go_wp2_with fail
    (with_reducible refine (z1.out _).mono ?_)
    rintro e w2 ⟨rfl, hb2⟩
    have hs2 := hb2.size
    (try simp only [World.size_alloc, World.size_setCell, World.size_drew, size_drewN] at hs2)
    go_wp2_with fail
    (with_reducible refine (z3.out _).mono ?_)
    rintro e w3 ⟨rfl, hb3⟩
    have hs3 := hb3.size
    (try simp only [World.size_alloc, World.size_setCell, World.size_drew, size_drewN] at hs3)
    go_wp2_with fail
    (with_reducible refine (z2.out _).mono ?_)
    rintro e w4 ⟨rfl, hb4⟩
    have hs4 := hb4.size
    (try simp only [World.size_alloc, World.size_setCell, World.size_drew, size_drewN] at hs4)
    go_wp2_with fail
    (with_reducible refine (O.out _).mono ?_)
    rintro e w5 ⟨rfl, hb5⟩
    have hs5 := hb5.size
    (try simp only [World.size_alloc, World.size_setCell, World.size_drew, size_drewN] at hs5)
    go_wp2_with fail
    (with_reducible refine (N.out _).mono ?_)
    rintro e w6 ⟨rfl, hb6⟩
    have hs6 := hb6.size
    (try simp only [World.size_alloc, World.size_setCell, World.size_drew, size_drewN] at hs6)
    go_wp2_with fail
    go_ret
    exact ⟨rfl, Kept.below (by (repeat' (first | (with_reducible exact Kept.refl _ _) | (with_reducible assumption) | (with_reducible refine Kept.then_ (by with_reducible assumption) ?_) | (with_reducible refine Kept.thenS (by with_reducible assumption) ?_) | (with_reducible refine Kept.alloc ?_ _) | (with_reducible refine Kept.drew ?_) | (with_reducible refine Kept.drewN ?_ _) | (with_reducible refine Kept.setNew ?_ ?_ _) | ((try simp only [World.size_alloc, World.size_setCell, World.size_drew, size_drewN] at *); (try dsimp only); omega))))⟩
theorem own : ownKnob Try.prog.godebug = none := by kernel_rfl
theorem laidOut : laidOutB Try.prog = true := by kernel_rfl
set_option maxRecDepth 100000 in
theorem lifted (os : Os) (started : os.Started) (H : Type) (enc : TypeId × Value → H) :
    ReturnsInHanded {} Try.checked os 8 .any (Rows.classFitsSpec.pre6 enc Try.prog Try.f8 Rows.classFitsRow.domain false) (Rows.classFitsSpec.post enc Try.prog Try.f8 false true false false) := by
  refine returnsInHanded_of_change (C := Try.checked) own started (by kernel_rfl) Try.func8
    (ChangeSpec.witness6 (enc := enc) (C := Try.checked) false ⟨#[], #[.int .u8 0], []⟩ 8 (by kernel_rfl) (by kernel_rfl) (by kernel_rfl) (by kernel_rfl)) ?_
  intro W base args ds gs before hval0 hW hcnd _
  have hval : ∀ (j : Nat) t v, Try.f8.params[j]? = some t → args[j]? = some v → Value.okWide Try.prog W .any base t v := hval0
  have hW' := hW
  obtain ⟨p, q, hA0, hV, rfl, hfz, hnd⟩ := hW
  have hA : DataW.TrodAll enc Try.prog W 0 (fun _ => true) true Try.f8.params.toList args.toList ds p := hA0
  rw [Try.params8] at hA hval
  obtain ⟨v0, vs0, d0, ds0, p0, q0, hargs, rfl, rfl, h0, r0⟩ := trodAll_cons hA
  obtain ⟨rfl, rfl, rfl⟩ := trodAll_nil r0
  obtain rfl : args = #[v0] := by cases args; simp_all
  obtain ⟨rfl, rfl⟩ := trodVars_none hV
  obtain ⟨a0, rfl, rfl, rfl, w0⟩ := open_int Try.underlying5 (hval 0 5 v0 rfl rfl) h0
  clear hA0 hval0
  refine (walk a0 W w0).mono fun e W' ⟨he, bel⟩ => ?_
  subst he
  exact ⟨_, rfl, _, _, _, [], _, [], hW', trodAll_mk1 (shut_bool Try.underlying4 _), (trodAll_cons_mk (shut_int Try.underlying5 w0) trodAll_mk0), rfl, bel.frame _, fun h => by cases h⟩
theorem over : Rows.classFitsRow.holds Try.pinned (OpenSpec.ofChange Rows.classFitsSpec) :=
  OpenClaim.holds_of_wide 8 Try.f8 rfl rfl rfl rfl rfl rfl rfl ⟨rfl, rfl, rfl, rfl, rfl⟩ rfl rfl rfl rfl rfl (by kernel_rfl) Try.func8 (by kernel_rfl)
    (of_decide_eq_true (by kernel_rfl)) (by unfold Func.isWrapper; first | (rw [if_pos (by decide +kernel)]; kernel_rfl) | (rw [if_neg (by decide +kernel)]; exact ⟨rfl, rfl⟩))
    (fun os started H enc _ => lifted os started H enc)
theorem proved : Rows.ClassFitsSaid := over
#print axioms proved
end Go.Proofs.Ytfgmmehgmepegaa.ClassFits
