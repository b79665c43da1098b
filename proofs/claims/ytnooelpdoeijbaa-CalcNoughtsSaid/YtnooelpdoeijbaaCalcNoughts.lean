/- With a 0 a product is 0; of 1s it is 1; of one number it is that, if it isn't beyond. No condition. -/
import Derived.Test.YtnooelpdoeijbaaLawCalc
import Derived.Test.YtnooelpdoeijbaaApp
set_option linter.unusedVariables false
set_option linter.unusedSimpArgs false
namespace Go.Proofs.Ytnooelpdoeijbaa.CalcNoughts
open Go.RowKit Go.ChangeShapes Go.WideShapes Go.ChangeAt Go.Joins
theorem mul_at (A : Option Addr) (cap n : Nat) (zs : List Int) (V E : Int) (hn' : n = zs.length) (hz : U64s zs) (hV : mulV zs = V) (hE : mulE zs = E) (hn : zs.length ≤ 1000000) (w : World) (hr : RowX .u64 w A zs) :
    Calls Try.prog 13 #[.slice A n cap] w fun e w' => e = .returned (.tuple #[.int .u64 V, .int .i64 E]) ∧ Kept [] w w' := by
  subst hn' hV hE
  exact mul_any A cap zs hz w hr (by omega)
theorem sum_at (A : Option Addr) (cap n : Nat) (zs : List Int) (V E : Int) (hn' : n = zs.length) (hz : U64s zs) (hV : sumV zs = V) (hE : sumE zs = E) (hn : zs.length ≤ 1000000) (w : World) (hr : RowX .u64 w A zs) :
    Calls Try.prog 20 #[.slice A n cap] w fun e w' => e = .returned (.tuple #[.int .u64 V, .int .i64 E]) ∧ Kept [] w w' := by
  subst hn' hV hE
  exact sum_any A cap zs hz w hr (by omega)
theorem one_row {w : World} {b : Nat} {t : TypeId} {x : Int} (h : Blk w b t #[.int .u64 x]) : RowX .u64 w (some ⟨b, 0, none⟩) [x] :=
  RowX.of_blk h (fun i hi => by
    match i, hi with
    | 0, _ => rfl)
theorem two_row {w : World} {b : Nat} {t : TypeId} {x y : Int} (h : Blk w b t #[.int .u64 x, .int .u64 y]) : RowX .u64 w (some ⟨b, 0, none⟩) [x, y] :=
  RowX.of_blk h (fun i hi => by
    match i, hi with
    | 0, _ => rfl
    | 1, _ => rfl)
theorem u64s_one {x : Int} (h : 0 ≤ x ∧ x ≤ 18446744073709551615) : U64s [x] := fun y hy => by
  simp at hy; subst hy; exact h
theorem mulV_nought {zs : List Int} (h : (0 : Int) ∈ zs) : mulV zs = 0 := by unfold mulV; rw [if_pos h]
theorem mulE_nought {zs : List Int} (h : (0 : Int) ∈ zs) : mulE zs = 0 := by unfold mulE; rw [if_pos h]
theorem mulV_one {x : Int} (h : x ≤ 1099511627776) : mulV [x] = x := by
  unfold mulV
  by_cases h0 : (0 : Int) ∈ [x]
  · rw [if_pos h0]; simpa using h0
  · rw [if_neg h0, if_pos (by simpa [pr] using h)]; simp [pr]
theorem mulE_one {x : Int} (h : x ≤ 1099511627776) : mulE [x] = 0 := by
  unfold mulE
  by_cases h0 : (0 : Int) ∈ [x]
  · rw [if_pos h0]
  · rw [if_neg h0, if_pos (by simpa [pr] using h)]
theorem mulV_big {x : Int} (h : 1099511627776 < x) : mulV [x] = 0 := by
  unfold mulV
  rw [if_neg (by simp; omega), if_neg (by simp [pr]; omega)]
theorem mulE_big {x : Int} (h : 1099511627776 < x) : mulE [x] = 3 := by
  unfold mulE
  rw [if_neg (by simp; omega), if_neg (by simp [pr]; omega)]
theorem sumV_one {x : Int} (h : x ≤ 1099511627776) : sumV [x] = x := by unfold sumV; rw [if_pos (by simpa [su] using h)]; simp [su]
theorem sumE_one {x : Int} (h : x ≤ 1099511627776) : sumE [x] = 0 := by unfold sumE; rw [if_pos (by simpa [su] using h)]
theorem sumV_big {x : Int} (h : 1099511627776 < x) : sumV [x] = 0 := by unfold sumV; rw [if_neg (by simp [su]; omega)]
theorem sumE_big {x : Int} (h : 1099511627776 < x) : sumE [x] = 3 := by unfold sumE; rw [if_neg (by simp [su]; omega)]
theorem mulV_none : mulV [] = 1 := by unfold mulV; rw [if_neg (by simp), if_pos (by simp [pr])]; rfl
theorem mulE_none : mulE [] = 0 := by unfold mulE; rw [if_neg (by simp), if_pos (by simp [pr])]
set_option maxRecDepth 100000 in
set_option maxHeartbeats 1000000 in
theorem walk (a0 : Option Addr) (len0 cap0 : Nat) (z0 : List Int) (a1 : Int) (W : World) (w0 : IsRow .u64 W a0 len0 cap0 z0) (w1 : (Lit.int .u64 a1).wf = true) :
    Calls Try.prog 9 #[.slice a0 len0 cap0, .int .u64 a1] W fun e w' => e = .returned (.bool true) ∧ Below W.heap.size W w' := by
  have b1 := bounds_u64 w1
  clear w1
  obtain ⟨ys, hl, hr, hcap, hwf, hlc, hcm⟩ := w0.seen
  have hz : U64s ys := fun x hx => bounds_u64 (hwf x hx)
  unfold maxLen at hcm
  clear w0 hwf
  by_cases hlen : (len0 : Int) ≤ 300
  · have HR := Lib.hid hr
    have HZ := Lib.hid hz
    have HL := Lib.hid hl
    clear hr hz hl
    go_enter Try.func9, Try.ntmps9
    go_wp2_with fail
    (with_reducible refine (alive_any _).mono ?_)
    rintro e w1 ⟨rfl, hb1⟩
    have hs1 := hb1.size
    (try simp only [World.size_alloc, World.size_setCell, World.size_drew, size_drewN] at hs1)
    go_wp2_with (refine append_u64 rfl (.tmp 19) (.tmp 20) rfl W W.heap.size _ [] ys rfl (OwnI.made _ hs1) a0 _ _ HL.out.symm rfl hcap (HR.out.keep (by (repeat' (first | (with_reducible exact Kept.refl _ _) | (with_reducible assumption) | (with_reducible refine Kept.then_ (by with_reducible assumption) ?_) | (with_reducible refine Kept.thenS (by with_reducible assumption) ?_) | (with_reducible refine Kept.alloc ?_ _) | (with_reducible refine Kept.drew ?_) | (with_reducible refine Kept.drewN ?_ _) | (with_reducible refine Kept.setNew ?_ ?_ _) | ((try simp only [World.size_alloc, World.size_setCell, World.size_drew, size_drewN] at *); (try dsimp only); omega))))) (by (repeat' (first | (with_reducible exact Kept.refl _ _) | (with_reducible assumption) | (with_reducible refine Kept.then_ (by with_reducible assumption) ?_) | (with_reducible refine Kept.thenS (by with_reducible assumption) ?_) | (with_reducible refine Kept.alloc ?_ _) | (with_reducible refine Kept.drew ?_) | (with_reducible refine Kept.drewN ?_ _) | (with_reducible refine Kept.setNew ?_ ?_ _) | ((try simp only [World.size_alloc, World.size_setCell, World.size_drew, size_drewN] at *); (try dsimp only); omega)))) (Nat.le_refl _) (by simp only [World.size_alloc]; omega) (by have := HL.out; simp; omega) ?_)
    intro A1 n1 c1 w2 hn1 own1 hk2 hg2 hs2 hc1 hr1
    try simp only [List.nil_append] at own1 hr1 hn1
    clear hg2
    go_wp2_with (refine append_u64 rfl (.tmp 21) (.tmp 23) rfl W W.heap.size _ ys [0, a1] rfl (own1.kept (by (repeat' (first | (with_reducible exact Kept.refl _ _) | (with_reducible assumption) | (with_reducible refine Kept.then_ (by with_reducible assumption) ?_) | (with_reducible refine Kept.thenS (by with_reducible assumption) ?_) | (with_reducible refine Kept.alloc ?_ _) | (with_reducible refine Kept.drew ?_) | (with_reducible refine Kept.drewN ?_ _) | (with_reducible refine Kept.setNew ?_ ?_ _) | ((try simp only [World.size_alloc, World.size_setCell, World.size_drew, size_drewN] at *); (try dsimp only); omega))))) _ _ _ rfl rfl (fun h => by cases h) (two_row (Blk.new _ _ _)) (by (repeat' (first | (with_reducible exact Kept.refl _ _) | (with_reducible assumption) | (with_reducible refine Kept.then_ (by with_reducible assumption) ?_) | (with_reducible refine Kept.thenS (by with_reducible assumption) ?_) | (with_reducible refine Kept.alloc ?_ _) | (with_reducible refine Kept.drew ?_) | (with_reducible refine Kept.drewN ?_ _) | (with_reducible refine Kept.setNew ?_ ?_ _) | ((try simp only [World.size_alloc, World.size_setCell, World.size_drew, size_drewN] at *); (try dsimp only); omega)))) (Nat.le_refl _) (by simp only [World.size_alloc]; omega) (by have := HL.out; simp; omega) ?_)
    intro A2 n2 c2 w3 hn2 own2 hk3 hg3 hs3 hc2 hr2
    clear hg3 own1 own2 hr1 hn1
    have hz2 : U64s (ys ++ [0, a1]) := fun x hx => by
      simp at hx
      rcases hx with hx | rfl | rfl
      · exact HZ.out x hx
      · omega
      · exact b1
    have C1 := Lib.hid (mul_at A2 c2 n2 (ys ++ [0, a1]) 0 0 (by have := hn2.out; simp at this ⊢; omega) hz2 (mulV_nought (by simp)) (mulE_nought (by simp)) (by have := HL.out; simp; omega) w3 hr2)
    have C4 := Lib.hid (fun w => mul_at none 0 0 [] 1 0 rfl (fun x hx => by simp at hx) mulV_none mulE_none (by simp) w (RowX.nil _ _ _))
    clear hz2 hr2
    by_cases hx : a1 ≤ 1099511627776
    · have C2 := Lib.hid (fun b t w hB => mul_at (some ⟨b, 0, none⟩) 1 1 [a1] a1 0 rfl (u64s_one b1) (mulV_one hx) (mulE_one hx) (by simp) w (one_row (t := t) hB))
      have C3 := Lib.hid (fun b t w hB => sum_at (some ⟨b, 0, none⟩) 1 1 [a1] a1 0 rfl (u64s_one b1) (sumV_one hx) (sumE_one hx) (by simp) w (one_row (t := t) hB))
      go_wp2_with fail
      (with_reducible refine (C1.out).mono ?_)
      rintro e w4 ⟨rfl, hb4⟩
      have hs4 := hb4.size
      (try simp only [World.size_alloc, World.size_setCell, World.size_drew, size_drewN] at hs4)
      go_wp2_with fail
      (with_reducible refine (C2.out _ _ _ (Blk.new _ _ _)).mono ?_)
      rintro e w5 ⟨rfl, hb5⟩
      have hs5 := hb5.size
      (try simp only [World.size_alloc, World.size_setCell, World.size_drew, size_drewN] at hs5)
      go_wp2_with fail
      (with_reducible refine (C3.out _ _ _ (Blk.new _ _ _)).mono ?_)
      rintro e w6 ⟨rfl, hb6⟩
      have hs6 := hb6.size
      (try simp only [World.size_alloc, World.size_setCell, World.size_drew, size_drewN] at hs6)
      go_wp2_with fail
      (with_reducible refine (C4.out _).mono ?_)
      rintro e w7 ⟨rfl, hb7⟩
      have hs7 := hb7.size
      (try simp only [World.size_alloc, World.size_setCell, World.size_drew, size_drewN] at hs7)
      go_wp2_with fail
      go_ret
      exact ⟨rfl, Kept.below (by (repeat' (first | (with_reducible exact Kept.refl _ _) | (with_reducible assumption) | (with_reducible refine Kept.then_ (by with_reducible assumption) ?_) | (with_reducible refine Kept.thenS (by with_reducible assumption) ?_) | (with_reducible refine Kept.alloc ?_ _) | (with_reducible refine Kept.drew ?_) | (with_reducible refine Kept.drewN ?_ _) | (with_reducible refine Kept.setNew ?_ ?_ _) | ((try simp only [World.size_alloc, World.size_setCell, World.size_drew, size_drewN] at *); (try dsimp only); omega))))⟩
    · have hx' : 1099511627776 < a1 := by omega
      have C2 := Lib.hid (fun b t w hB => mul_at (some ⟨b, 0, none⟩) 1 1 [a1] 0 3 rfl (u64s_one b1) (mulV_big hx') (mulE_big hx') (by simp) w (one_row (t := t) hB))
      have C3 := Lib.hid (fun b t w hB => sum_at (some ⟨b, 0, none⟩) 1 1 [a1] 0 3 rfl (u64s_one b1) (sumV_big hx') (sumE_big hx') (by simp) w (one_row (t := t) hB))
      go_wp2_with fail
      (with_reducible refine (C1.out).mono ?_)
      rintro e w4 ⟨rfl, hb4⟩
      have hs4 := hb4.size
      (try simp only [World.size_alloc, World.size_setCell, World.size_drew, size_drewN] at hs4)
      go_wp2_with fail
      (with_reducible refine (C2.out _ _ _ (Blk.new _ _ _)).mono ?_)
      rintro e w5 ⟨rfl, hb5⟩
      have hs5 := hb5.size
      (try simp only [World.size_alloc, World.size_setCell, World.size_drew, size_drewN] at hs5)
      go_wp2_with fail
      (with_reducible refine (C3.out _ _ _ (Blk.new _ _ _)).mono ?_)
      rintro e w6 ⟨rfl, hb6⟩
      have hs6 := hb6.size
      (try simp only [World.size_alloc, World.size_setCell, World.size_drew, size_drewN] at hs6)
      go_wp2_with fail
      (with_reducible refine (C4.out _).mono ?_)
      rintro e w7 ⟨rfl, hb7⟩
      have hs7 := hb7.size
      (try simp only [World.size_alloc, World.size_setCell, World.size_drew, size_drewN] at hs7)
      go_wp2_with fail
      go_ret
      exact ⟨rfl, Kept.below (by (repeat' (first | (with_reducible exact Kept.refl _ _) | (with_reducible assumption) | (with_reducible refine Kept.then_ (by with_reducible assumption) ?_) | (with_reducible refine Kept.thenS (by with_reducible assumption) ?_) | (with_reducible refine Kept.alloc ?_ _) | (with_reducible refine Kept.drew ?_) | (with_reducible refine Kept.drewN ?_ _) | (with_reducible refine Kept.setNew ?_ ?_ _) | ((try simp only [World.size_alloc, World.size_setCell, World.size_drew, size_drewN] at *); (try dsimp only); omega))))⟩
  · go_enter Try.func9, Try.ntmps9
    go_wp2_with fail
    (with_reducible refine (alive_any _).mono ?_)
    rintro e w1 ⟨rfl, hb1⟩
    have hs1 := hb1.size
    (try simp only [World.size_alloc, World.size_setCell, World.size_drew, size_drewN] at hs1)
    go_wp2_with fail
    go_ret
    exact ⟨rfl, Kept.below (by (repeat' (first | (with_reducible exact Kept.refl _ _) | (with_reducible assumption) | (with_reducible refine Kept.then_ (by with_reducible assumption) ?_) | (with_reducible refine Kept.thenS (by with_reducible assumption) ?_) | (with_reducible refine Kept.alloc ?_ _) | (with_reducible refine Kept.drew ?_) | (with_reducible refine Kept.drewN ?_ _) | (with_reducible refine Kept.setNew ?_ ?_ _) | ((try simp only [World.size_alloc, World.size_setCell, World.size_drew, size_drewN] at *); (try dsimp only); omega))))⟩
theorem own : ownKnob Try.prog.godebug = none := by kernel_rfl
theorem laidOut : laidOutB Try.prog = true := by kernel_rfl
set_option maxRecDepth 100000 in
theorem lifted (os : Os) (started : os.Started) (H : Type) (enc : TypeId × Value → H) :
    ReturnsInHanded {} Try.checked os 9 .any (Rows.calcNoughtsSpec.pre6 enc Try.prog Try.f9 Rows.calcNoughtsRow.domain false) (Rows.calcNoughtsSpec.post enc Try.prog Try.f9 false true false false) := by
  refine returnsInHanded_of_change (C := Try.checked) own started (by kernel_rfl) Try.func9
    (ChangeSpec.witness6 (enc := enc) (C := Try.checked) false ⟨#[], #[.slice none 0 0, .int .u64 0], []⟩ 8 (by kernel_rfl) (by kernel_rfl) (by kernel_rfl) (by kernel_rfl)) ?_
  intro W base args ds gs before hval0 hW hcnd _
  have hval : ∀ (j : Nat) t v, Try.f9.params[j]? = some t → args[j]? = some v → Value.okWide Try.prog W .any base t v := hval0
  have hW' := hW
  obtain ⟨p, q, hA0, hV, rfl, hfz, hnd⟩ := hW
  have hA : DataW.TrodAll enc Try.prog W 0 (fun _ => true) true Try.f9.params.toList args.toList ds p := hA0
  rw [Try.params9] at hA hval
  obtain ⟨v0, vs0, d0, ds0, p0, q0, hargs, rfl, rfl, h0, r0⟩ := trodAll_cons hA
  obtain ⟨v1, vs1, d1, ds1, p1, q1, rfl, rfl, rfl, h1, r1⟩ := trodAll_cons r0
  obtain ⟨rfl, rfl, rfl⟩ := trodAll_nil r1
  obtain rfl : args = #[v0, v1] := by cases args; simp_all
  obtain ⟨rfl, rfl⟩ := trodVars_none hV
  have k0 := h0
  have lt0 : ∀ x ∈ p0, x.block < W.heap.size := by obtain ⟨m, hm⟩ := k0; exact DataW.trod_lt m _ _ _ hm
  obtain ⟨a0, len0, cap0, rfl⟩ := okWide_slice Try.underlying22 (hval 0 22 v0 rfl rfl)
  obtain ⟨z0, w0⟩ := isRow_of Try.underlying22 Try.underlying24 (by kernel_rfl) h0
  obtain ⟨a1, rfl, rfl, rfl, w1⟩ := open_int Try.underlying24 (hval 1 24 v1 rfl rfl) h1
  clear hA0 hval0
  refine (walk a0 len0 cap0 z0 a1 W w0 w1).mono fun e W' ⟨he, bel⟩ => ?_
  subst he
  exact ⟨_, rfl, _, _, _, [], _, [], hW', trodAll_mk1 (shut_bool Try.underlying4 _), (trodAll_cons_mk (Below.trod laidOut (by kernel_rfl) (of_decide_eq_true (by kernel_rfl)) k0 bel lt0) (trodAll_cons_mk (shut_int Try.underlying24 w1) trodAll_mk0)), rfl, bel.frame _, fun h => by cases h⟩
theorem over : Rows.calcNoughtsRow.holds Try.pinned (OpenSpec.ofChange Rows.calcNoughtsSpec) :=
  OpenClaim.holds_of_wide 9 Try.f9 rfl rfl rfl rfl rfl rfl rfl ⟨rfl, rfl, rfl, rfl, rfl⟩ rfl rfl rfl rfl rfl (by kernel_rfl) Try.func9 (by kernel_rfl)
    (of_decide_eq_true (by kernel_rfl)) (by unfold Func.isWrapper; first | (rw [if_pos (by decide +kernel)]; kernel_rfl) | (rw [if_neg (by decide +kernel)]; exact ⟨rfl, rfl⟩))
    (fun os started H enc _ => lifted os started H enc)
theorem proved : Rows.CalcNoughtsSaid := over
#print axioms proved
end Go.Proofs.Ytnooelpdoeijbaa.CalcNoughts
