/- Rounded up by a step, and then by a greater one, is rounded up by that; down, likewise. No condition. -/
import Derived.Test.YtnooelpdoeijbaaLawCalc
set_option linter.unusedVariables false
set_option linter.unusedSimpArgs false
namespace Go.Proofs.Ytnooelpdoeijbaa.CalcChains
open Go.RowKit Go.ChangeShapes Go.WideShapes Go.ChangeAt Go.Joins
theorem shl_at (c : Int) (k : Nat) (h : (k : Int) = c) (hk : k ≤ 40) : IntKind.u64.wrap (2 ^ c.toNat) = 2 ^ k := by
  have hp : IsPow (2 ^ k) := ⟨k, by omega, rfl⟩
  have hb := pow_bd hp
  rw [show c.toNat = k by omega]
  exact IntWalk.u64_in _ (by omega)
set_option maxRecDepth 100000 in
set_option maxHeartbeats 1000000 in
theorem walk (a0 a1 a2 : Int) (W : World) (w0 : (Lit.int .u64 a0).wf = true) (w1 : (Lit.int .u8 a1).wf = true) (w2 : (Lit.int .u8 a2).wf = true) :
    Calls Try.prog 7 #[.int .u64 a0, .int .u8 a1, .int .u8 a2] W fun e w' => e = .returned (.bool true) ∧ Below W.heap.size W w' := by
  have b0 := bounds_u64 w0
  have b1 := bounds_u8 w1
  have b2 := bounds_u8 w2
  clear w0 w1 w2
  obtain ⟨k, hk⟩ : ∃ k : Nat, (k : Int) = a1 % 20 := ⟨(a1 % 20).toNat, by omega⟩
  obtain ⟨m, hm⟩ : ∃ m : Nat, (m : Int) = a2 % 20 := ⟨(a2 % 20).toNat, by omega⟩
  have s1 := shl_at (a1 % 20) k hk (by omega)
  have s2 := shl_at (a1 % 20 + a2 % 20) (k + m) (by omega) (by omega)
  obtain ⟨n, hn, n0, n1⟩ : ∃ n, a0 % 549755813888 = n ∧ 0 ≤ n ∧ n < 549755813888 := ⟨_, rfl, by omega, by omega⟩
  obtain ⟨q, q1, hq⟩ := pow_dvd (a := 2 ^ k) (b := 2 ^ (k + m)) k (k + m) rfl rfl (by omega)
  have hp : IsPow (2 ^ k) := ⟨k, by omega, rfl⟩
  have hp2 : IsPow (2 ^ (k + m)) := ⟨k + m, by omega, rfl⟩
  obtain ⟨r, r1, hr⟩ := pow_le40 (k + m) (by omega)
  generalize ea : (2 : Int) ^ k = a at *
  generalize eb : (2 : Int) ^ (k + m) = b at *
  have al1 := pow_bd hp
  have bl1 := pow_bd hp2
  have hu2 := up_mono (x := n) (y := b * r) bl1.1 (by omega)
  rw [up_mult bl1.1, ← hr] at hu2
  have hu3 := up_up (x := n) al1.1 q1
  have hd3 := dn_dn (x := n) al1.1 q1
  rw [← hq] at hu3 hd3
  obtain ⟨u, eu, u1, u2⟩ := up_fact n a al1.1
  obtain ⟨u', eu', u1', u2'⟩ := up_fact (upV n a) b bl1.1
  obtain ⟨d, ed, d1, d2⟩ := dn_fact n a al1.1
  obtain ⟨d', ed', d1', d2'⟩ := dn_fact n b bl1.1
  have d0 := dn_nn al1.1 n0
  have hu : upV n a ≤ 1099511627776 := by omega
  have C1 := Lib.hid (up_in n a n0 (by omega) hp hu)
  have C2 := Lib.hid (up_in (upV n a) b (by omega) (by omega) hp2 (by omega))
  have C3 := Lib.hid (up_in n b n0 (by omega) hp2 hu2)
  have C4 := Lib.hid (down_in n a n0 (by omega) hp (by omega))
  have C5 := Lib.hid (down_in (dnV n a) b (by omega) (by omega) hp2 (by omega))
  have C6 := Lib.hid (down_in n b n0 (by omega) hp2 (by omega))
  rw [hu3] at C2
  rw [hd3] at C5
  clear hu3 hd3 eu eu' ed ed' u1 u2 u1' u2' d1 d2 d1' d2' hq hr ea eb hp hp2 hk hm hu hu2 d0
  generalize upV n b = U at *
  generalize dnV n b = D at *
  generalize upV n a = V at *
  generalize dnV n a = E at *
  go_enter Try.func7, Try.ntmps7
  go_wp2_with fail
  (with_reducible refine (alive_any _).mono ?_)
  rintro e w1 ⟨rfl, hb1⟩
  have hs1 := hb1.size
  (try simp only [World.size_alloc, World.size_setCell, World.size_drew, size_drewN] at hs1)
  go_wp2_with fail
  (with_reducible refine (C1.out _).mono ?_)
  rintro e w2 ⟨rfl, hb2⟩
  have hs2 := hb2.size
  (try simp only [World.size_alloc, World.size_setCell, World.size_drew, size_drewN] at hs2)
  go_wp2_with fail
  (with_reducible refine (C2.out _).mono ?_)
  rintro e w3 ⟨rfl, hb3⟩
  have hs3 := hb3.size
  (try simp only [World.size_alloc, World.size_setCell, World.size_drew, size_drewN] at hs3)
  go_wp2_with fail
  (with_reducible refine (C3.out _).mono ?_)
  rintro e w4 ⟨rfl, hb4⟩
  have hs4 := hb4.size
  (try simp only [World.size_alloc, World.size_setCell, World.size_drew, size_drewN] at hs4)
  go_wp2_with fail
  (with_reducible refine (C4.out _).mono ?_)
  rintro e w5 ⟨rfl, hb5⟩
  have hs5 := hb5.size
  (try simp only [World.size_alloc, World.size_setCell, World.size_drew, size_drewN] at hs5)
  go_wp2_with fail
  (with_reducible refine (C5.out _).mono ?_)
  rintro e w6 ⟨rfl, hb6⟩
  have hs6 := hb6.size
  (try simp only [World.size_alloc, World.size_setCell, World.size_drew, size_drewN] at hs6)
  go_wp2_with fail
  (with_reducible refine (C6.out _).mono ?_)
  rintro e w7 ⟨rfl, hb7⟩
  have hs7 := hb7.size
  (try simp only [World.size_alloc, World.size_setCell, World.size_drew, size_drewN] at hs7)
  go_wp2_with fail
  go_ret
  exact ⟨rfl, Kept.below (by (repeat' (first | (with_reducible exact Kept.refl _ _) | (with_reducible assumption) | (with_reducible refine Kept.then_ (by with_reducible assumption) ?_) | (with_reducible refine Kept.thenS (by with_reducible assumption) ?_) | (with_reducible refine Kept.alloc ?_ _) | (with_reducible refine Kept.drew ?_) | (with_reducible refine Kept.drewN ?_ _) | (with_reducible refine Kept.setNew ?_ ?_ _) | ((try simp only [World.size_alloc, World.size_setCell, World.size_drew, size_drewN] at *); (try dsimp only); omega))))⟩
theorem own : ownKnob Try.prog.godebug = none := by kernel_rfl
theorem laidOut : laidOutB Try.prog = true := by kernel_rfl
set_option maxRecDepth 100000 in
theorem lifted (os : Os) (started : os.Started) (H : Type) (enc : TypeId × Value → H) :
    ReturnsInHanded {} Try.checked os 7 .any (Rows.calcChainsSpec.pre6 enc Try.prog Try.f7 Rows.calcChainsRow.domain false) (Rows.calcChainsSpec.post enc Try.prog Try.f7 false true false false) := by
  refine returnsInHanded_of_change (C := Try.checked) own started (by kernel_rfl) Try.func7
    (ChangeSpec.witness6 (enc := enc) (C := Try.checked) false ⟨#[], #[.int .u64 0, .int .u8 0, .int .u8 0], []⟩ 8 (by kernel_rfl) (by kernel_rfl) (by kernel_rfl) (by kernel_rfl)) ?_
  intro W base args ds gs before hval0 hW hcnd _
  have hval : ∀ (j : Nat) t v, Try.f7.params[j]? = some t → args[j]? = some v → Value.okWide Try.prog W .any base t v := hval0
  have hW' := hW
  obtain ⟨p, q, hA0, hV, rfl, hfz, hnd⟩ := hW
  have hA : DataW.TrodAll enc Try.prog W 0 (fun _ => true) true Try.f7.params.toList args.toList ds p := hA0
  rw [Try.params7] at hA hval
  obtain ⟨v0, vs0, d0, ds0, p0, q0, hargs, rfl, rfl, h0, r0⟩ := trodAll_cons hA
  obtain ⟨v1, vs1, d1, ds1, p1, q1, rfl, rfl, rfl, h1, r1⟩ := trodAll_cons r0
  obtain ⟨v2, vs2, d2, ds2, p2, q2, rfl, rfl, rfl, h2, r2⟩ := trodAll_cons r1
  obtain ⟨rfl, rfl, rfl⟩ := trodAll_nil r2
  obtain rfl : args = #[v0, v1, v2] := by cases args; simp_all
  obtain ⟨rfl, rfl⟩ := trodVars_none hV
  obtain ⟨a0, rfl, rfl, rfl, w0⟩ := open_int Try.underlying24 (hval 0 24 v0 rfl rfl) h0
  obtain ⟨a1, rfl, rfl, rfl, w1⟩ := open_int Try.underlying5 (hval 1 5 v1 rfl rfl) h1
  obtain ⟨a2, rfl, rfl, rfl, w2⟩ := open_int Try.underlying5 (hval 2 5 v2 rfl rfl) h2
  clear hA0 hval0
  refine (walk a0 a1 a2 W w0 w1 w2).mono fun e W' ⟨he, bel⟩ => ?_
  subst he
  exact ⟨_, rfl, _, _, _, [], _, [], hW', trodAll_mk1 (shut_bool Try.underlying4 _), (trodAll_cons_mk (shut_int Try.underlying24 w0) (trodAll_cons_mk (shut_int Try.underlying5 w1) (trodAll_cons_mk (shut_int Try.underlying5 w2) trodAll_mk0))), rfl, bel.frame _, fun h => by cases h⟩
theorem over : Rows.calcChainsRow.holds Try.pinned (OpenSpec.ofChange Rows.calcChainsSpec) :=
  OpenClaim.holds_of_wide 7 Try.f7 rfl rfl rfl rfl rfl rfl rfl ⟨rfl, rfl, rfl, rfl, rfl⟩ rfl rfl rfl rfl rfl (by kernel_rfl) Try.func7 (by kernel_rfl)
    (of_decide_eq_true (by kernel_rfl)) (by unfold Func.isWrapper; first | (rw [if_pos (by decide +kernel)]; kernel_rfl) | (rw [if_neg (by decide +kernel)]; exact ⟨rfl, rfl⟩))
    (fun os started H enc _ => lifted os started H enc)
theorem proved : Rows.CalcChainsSaid := over
#print axioms proved
end Go.Proofs.Ytnooelpdoeijbaa.CalcChains
