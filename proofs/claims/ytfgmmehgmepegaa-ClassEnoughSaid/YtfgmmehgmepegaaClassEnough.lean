/- A plan has as many bytes as were asked for, at a multiple of the alignment, of one kind alone; no lesser one would do. No condition. -/
import Derived.Test.YtfgmmehgmepegaaPlan
set_option linter.unusedVariables false
set_option linter.unusedSimpArgs false
namespace Go.Proofs.Ytfgmmehgmepegaa.ClassEnough
open Go.RowKit Go.ChangeShapes Go.WideShapes Go.ChangeAt Go.Joins
theorem al_of (a : Int) (h : 0 ≤ a) : ∃ al, IntKind.u64.wrap (2 ^ (a % 11).toNat) = al ∧ AlignOk al := by
  have := align_of (a % 11).toNat (by omega)
  refine ⟨_, ?_, this⟩
  refine IntWalk.u64_in ?_ ?_ <;> unfold AlignOk at this <;> omega
theorem kinds {n a c s g u : Int} (n0 : 0 ≤ n) (n1 : n ≤ 1048576) (h : PlanIs n a c s g u) :
    (∃ k : Nat, k < 12 ∧ c = k ∧ s = slS k ∧ g = 0 ∧ u = sz k ∧ n ≤ u ∧ u % a = 0 ∧ ∀ j, j < k → n ≤ sz j → ¬ sz j % a = 0) ∨
    (c = -1 ∧ g = 0 ∧ u = s * 1024 ∧ 1 ≤ s ∧ s < 16 ∧ n ≤ s * 1024 ∧ s * 1024 < n + 1024 ∧ 1024 < n) ∨ (c = -1 ∧ s = 0 ∧ u = g * 16384 ∧ 1 ≤ g ∧ g < 100 ∧ n ≤ g * 16384 ∧ g * 16384 < n + 16384 ∧ 15360 < n) := by
  have e := h.enough n0
  cases h with
  | cls k hk h2 h3 hno => exact .inl ⟨k, hk, rfl, rfl, rfl, rfl, e.1, h3, fun j hj h hh => hno j hj ⟨by have := sz_bd j (by omega); omega, hh⟩⟩
  | slices s h0 h2 h3 => right; left; omega
  | segs s h0 h2 => right; right; omega
set_option maxRecDepth 100000 in
set_option maxHeartbeats 2000000 in
theorem walk (a0 a1 : Int) (W : World) (w0 : (Lit.int .u32 a0).wf = true) (w1 : (Lit.int .u8 a1).wf = true) :
    Calls Try.prog 4 #[.int .u32 a0, .int .u8 a1] W fun e w' => e = .returned (.bool true) ∧ Below W.heap.size W w' := by
  have b0 := bounds_u32 w0
  have b1 := bounds_u8 w1
  clear w0 w1
  obtain ⟨al, hal, hok⟩ := al_of a1 b1.1
  have al1 : 1 ≤ al := by unfold AlignOk at hok; omega
  obtain ⟨n, hn, n0, n1⟩ : ∃ n, a0 % 1048577 = n ∧ 0 ≤ n ∧ n ≤ 1048576 := ⟨_, rfl, by omega, by omega⟩
  obtain ⟨c1, s1, g1, u1, e1, p1⟩ := planIs n al n1 hok
  have C1 := Lib.hid (for_at n al n0 n1 hok _ _ _ _ e1)
  have hk := kinds n0 n1 p1
  clear e1 hok p1
  rcases hk with ⟨k, hk, rfl, rfl, rfl, rfl, hn1, hm, hno⟩ | ⟨rfl, rfl, rfl, h1, h2, h3, h4, h5⟩ | ⟨rfl, rfl, rfl, h1, h2, h3, h4, h5⟩
  · have hb := sz_bd k hk
    have h16 := sz_16 k hk
    have q1 : decide (sz k < n) = false := decide_eq_false (by omega)
    have q2 : (sz k == 0) = false := by simp; omega
    have Hno := Lib.hid hno
    clear hno
    go_enter Try.func4, Try.ntmps4
    go_wp2_with fail
    (with_reducible refine (alive_any _).mono ?_)
    rintro e w1 ⟨rfl, hb1⟩
    have hs1 := hb1.size
    (try simp only [World.size_alloc, World.size_setCell, World.size_drew, size_drewN] at hs1)
    go_wp2_with fail
    (with_reducible refine (C1.out _).mono ?_)
    rintro e w2 ⟨rfl, hb2⟩
    have hs2 := hb2.size
    (try simp only [World.size_alloc, World.size_setCell, World.size_drew, size_drewN] at hs2)
    go_wp2_with fail
    (with_reducible refine (size_in k hk _).mono ?_)
    rintro e w3 ⟨rfl, hb3⟩
    have hs3 := hb3.size
    (try simp only [World.size_alloc, World.size_setCell, World.size_drew, size_drewN] at hs3)
    have P : Blk w3 w2.heap.size 25 #[.int .i64 k, .int .i64 (slS k), .int .i64 0, .int .u64 (sz k)] := by ((with_reducible apply Blk.cast); (case h => (repeat' (first | (with_reducible assumption) | ((with_reducible apply Blk.keep0); (case hk => (with_reducible assumption))) | ((with_reducible apply Blk.new'); (case h => (first | (with_reducible rfl) | (simp only [World.size_alloc, World.size_setCell, World.size_drew, size_drewN]; done)))) | (with_reducible apply Blk.alloc) | (with_reducible apply Blk.set_) | ((with_reducible apply Blk.far); (case hp => (simp only []; omega))) | (with_reducible apply Blk.drew) | (with_reducible apply Blk.drewN)))); (case e => rfl))
    have P_c := P.cell
    have P_f := P.frozen
    have P_z := P.lt
    go_wp2_with fail
    simp only [hm]
    go_loopw [78] (fun c wr => ∃ j : Nat, j ≤ k ∧ c = .int .i64 j ∧ Kept [] W wr) (fun c _ => 12 - (intOf c).toNat)
    case atStart => exact ⟨0, by omega, rfl, by (repeat' (first | (with_reducible exact Kept.refl _ _) | (with_reducible assumption) | (with_reducible refine Kept.then_ (by with_reducible assumption) ?_) | (with_reducible refine Kept.thenS (by with_reducible assumption) ?_) | (with_reducible refine Kept.alloc ?_ _) | (with_reducible refine Kept.drew ?_) | (with_reducible refine Kept.drewN ?_ _) | (with_reducible refine Kept.setNew ?_ ?_ _) | ((try simp only [World.size_alloc, World.size_setCell, World.size_drew, size_drewN] at *); (try dsimp only); omega)))⟩
    case round =>
      obtain ⟨j, hj, rfl, hkr⟩ := hrel
      by_cases hlt : j < k
      · have hbj := sz_bd j (by omega)
        go_wp2_with fail
        (with_reducible refine (size_in j (by omega) _).mono ?_)
        rintro e w4 ⟨rfl, hb4⟩
        have hs4 := hb4.size
        (try simp only [World.size_alloc, World.size_setCell, World.size_drew, size_drewN] at hs4)
        by_cases h4 : n ≤ sz j
        · have h5 := Hno.out j hlt h4
          go_wp2_with fail
          go_roundw
          case rel => exact ⟨j + 1, by omega, by go_num, by (repeat' (first | (with_reducible exact Kept.refl _ _) | (with_reducible assumption) | (with_reducible refine Kept.then_ (by with_reducible assumption) ?_) | (with_reducible refine Kept.thenS (by with_reducible assumption) ?_) | (with_reducible refine Kept.alloc ?_ _) | (with_reducible refine Kept.drew ?_) | (with_reducible refine Kept.drewN ?_ _) | (with_reducible refine Kept.setNew ?_ ?_ _) | ((try simp only [World.size_alloc, World.size_setCell, World.size_drew, size_drewN] at *); (try dsimp only); omega)))⟩
          case measure => simp [intOf]; omega
        · go_wp2_with fail
          go_roundw
          case rel => exact ⟨j + 1, by omega, by go_num, by (repeat' (first | (with_reducible exact Kept.refl _ _) | (with_reducible assumption) | (with_reducible refine Kept.then_ (by with_reducible assumption) ?_) | (with_reducible refine Kept.thenS (by with_reducible assumption) ?_) | (with_reducible refine Kept.alloc ?_ _) | (with_reducible refine Kept.drew ?_) | (with_reducible refine Kept.drewN ?_ _) | (with_reducible refine Kept.setNew ?_ ?_ _) | ((try simp only [World.size_alloc, World.size_setCell, World.size_drew, size_drewN] at *); (try dsimp only); omega)))⟩
          case measure => simp [intOf]; omega
      · obtain rfl : j = k := by omega
        go_wp2_with fail
        go_ret
        exact ⟨rfl, Kept.below (by (repeat' (first | (with_reducible exact Kept.refl _ _) | (with_reducible assumption) | (with_reducible refine Kept.then_ (by with_reducible assumption) ?_) | (with_reducible refine Kept.thenS (by with_reducible assumption) ?_) | (with_reducible refine Kept.alloc ?_ _) | (with_reducible refine Kept.drew ?_) | (with_reducible refine Kept.drewN ?_ _) | (with_reducible refine Kept.setNew ?_ ?_ _) | ((try simp only [World.size_alloc, World.size_setCell, World.size_drew, size_drewN] at *); (try dsimp only); omega))))⟩
  · have q1 : decide (s1 * 1024 < n) = false := decide_eq_false (by omega)
    have q2 : (s1 * 1024 == 0) = false := by simp; omega
    have q3 : s1 * 1024 % 16 = 0 := by omega
    have q4 : decide (s1 * 1024 - n < 1024) = true := decide_eq_true (by omega)
    go_enter Try.func4, Try.ntmps4
    go_wp2_with fail
    (with_reducible refine (alive_any _).mono ?_)
    rintro e w1 ⟨rfl, hb1⟩
    have hs1 := hb1.size
    (try simp only [World.size_alloc, World.size_setCell, World.size_drew, size_drewN] at hs1)
    go_wp2_with fail
    (with_reducible refine (C1.out _).mono ?_)
    rintro e w2 ⟨rfl, hb2⟩
    have hs2 := hb2.size
    (try simp only [World.size_alloc, World.size_setCell, World.size_drew, size_drewN] at hs2)
    go_wp2_with fail
    go_ret
    exact ⟨rfl, Kept.below (by (repeat' (first | (with_reducible exact Kept.refl _ _) | (with_reducible assumption) | (with_reducible refine Kept.then_ (by with_reducible assumption) ?_) | (with_reducible refine Kept.thenS (by with_reducible assumption) ?_) | (with_reducible refine Kept.alloc ?_ _) | (with_reducible refine Kept.drew ?_) | (with_reducible refine Kept.drewN ?_ _) | (with_reducible refine Kept.setNew ?_ ?_ _) | ((try simp only [World.size_alloc, World.size_setCell, World.size_drew, size_drewN] at *); (try dsimp only); omega))))⟩
  · have q1 : decide (g1 * 16384 < n) = false := decide_eq_false (by omega)
    have q2 : (g1 * 16384 == 0) = false := by simp; omega
    have q3 : g1 * 16384 % 16 = 0 := by omega
    have q4 : decide (g1 * 16384 - n < 16384) = true := decide_eq_true (by omega)
    go_enter Try.func4, Try.ntmps4
    go_wp2_with fail
    (with_reducible refine (alive_any _).mono ?_)
    rintro e w1 ⟨rfl, hb1⟩
    have hs1 := hb1.size
    (try simp only [World.size_alloc, World.size_setCell, World.size_drew, size_drewN] at hs1)
    go_wp2_with fail
    (with_reducible refine (C1.out _).mono ?_)
    rintro e w2 ⟨rfl, hb2⟩
    have hs2 := hb2.size
    (try simp only [World.size_alloc, World.size_setCell, World.size_drew, size_drewN] at hs2)
    go_wp2_with fail
    go_ret
    exact ⟨rfl, Kept.below (by (repeat' (first | (with_reducible exact Kept.refl _ _) | (with_reducible assumption) | (with_reducible refine Kept.then_ (by with_reducible assumption) ?_) | (with_reducible refine Kept.thenS (by with_reducible assumption) ?_) | (with_reducible refine Kept.alloc ?_ _) | (with_reducible refine Kept.drew ?_) | (with_reducible refine Kept.drewN ?_ _) | (with_reducible refine Kept.setNew ?_ ?_ _) | ((try simp only [World.size_alloc, World.size_setCell, World.size_drew, size_drewN] at *); (try dsimp only); omega))))⟩
theorem own : ownKnob Try.prog.godebug = none := by kernel_rfl
theorem laidOut : laidOutB Try.prog = true := by kernel_rfl
set_option maxRecDepth 100000 in
theorem lifted (os : Os) (started : os.Started) (H : Type) (enc : TypeId × Value → H) :
    ReturnsInHanded {} Try.checked os 4 .any (Rows.classEnoughSpec.pre6 enc Try.prog Try.f4 Rows.classEnoughRow.domain false) (Rows.classEnoughSpec.post enc Try.prog Try.f4 false true false false) := by
  refine returnsInHanded_of_change (C := Try.checked) own started (by kernel_rfl) Try.func4
    (ChangeSpec.witness6 (enc := enc) (C := Try.checked) false ⟨#[], #[.int .u32 0, .int .u8 0], []⟩ 8 (by kernel_rfl) (by kernel_rfl) (by kernel_rfl) (by kernel_rfl)) ?_
  intro W base args ds gs before hval0 hW hcnd _
  have hval : ∀ (j : Nat) t v, Try.f4.params[j]? = some t → args[j]? = some v → Value.okWide Try.prog W .any base t v := hval0
  have hW' := hW
  obtain ⟨p, q, hA0, hV, rfl, hfz, hnd⟩ := hW
  have hA : DataW.TrodAll enc Try.prog W 0 (fun _ => true) true Try.f4.params.toList args.toList ds p := hA0
  rw [Try.params4] at hA hval
  obtain ⟨v0, vs0, d0, ds0, p0, q0, hargs, rfl, rfl, h0, r0⟩ := trodAll_cons hA
  obtain ⟨v1, vs1, d1, ds1, p1, q1, rfl, rfl, rfl, h1, r1⟩ := trodAll_cons r0
  obtain ⟨rfl, rfl, rfl⟩ := trodAll_nil r1
  obtain rfl : args = #[v0, v1] := by cases args; simp_all
  obtain ⟨rfl, rfl⟩ := trodVars_none hV
  obtain ⟨a0, rfl, rfl, rfl, w0⟩ := open_int Try.underlying33 (hval 0 33 v0 rfl rfl) h0
  obtain ⟨a1, rfl, rfl, rfl, w1⟩ := open_int Try.underlying5 (hval 1 5 v1 rfl rfl) h1
  clear hA0 hval0
  refine (walk a0 a1 W w0 w1).mono fun e W' ⟨he, bel⟩ => ?_
  subst he
  exact ⟨_, rfl, _, _, _, [], _, [], hW', trodAll_mk1 (shut_bool Try.underlying4 _), (trodAll_cons_mk (shut_int Try.underlying33 w0) (trodAll_cons_mk (shut_int Try.underlying5 w1) trodAll_mk0)), rfl, bel.frame _, fun h => by cases h⟩
theorem over : Rows.classEnoughRow.holds Try.pinned (OpenSpec.ofChange Rows.classEnoughSpec) :=
  OpenClaim.holds_of_wide 4 Try.f4 rfl rfl rfl rfl rfl rfl rfl ⟨rfl, rfl, rfl, rfl, rfl⟩ rfl rfl rfl rfl rfl (by kernel_rfl) Try.func4 (by kernel_rfl)
    (of_decide_eq_true (by kernel_rfl)) (by unfold Func.isWrapper; first | (rw [if_pos (by decide +kernel)]; kernel_rfl) | (rw [if_neg (by decide +kernel)]; exact ⟨rfl, rfl⟩))
    (fun os started H enc _ => lifted os started H enc)
theorem proved : Rows.ClassEnoughSaid := over
#print axioms proved
end Go.Proofs.Ytfgmmehgmepegaa.ClassEnough
