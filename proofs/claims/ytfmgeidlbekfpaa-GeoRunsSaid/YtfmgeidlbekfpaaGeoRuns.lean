/- Of any run any block, any address's block, its end, or the error, are the document's. No condition. -/
import Derived.Test.YtfmgeidlbekfpaaIn
import Derived.Deep.RegionHeld3
set_option linter.unusedVariables false
set_option linter.unusedSimpArgs false
namespace Go.Proofs.Ytfmgeidlbekfpaa.GeoRuns
open Go.RowKit Go.ChangeShapes Go.WideShapes Go.ChangeAt Go.Joins
theorem in_one (f s n a : Int) (hs : 0 ≤ s) : (decide (MayP f s n) && !([a].any fun a => outB f s n a)) = decide (idxE f s n a = 0 ∨ idxE f s n a = 5) := by
  by_cases hm : MayP f s n
  · simp only [hm, decide_true, Bool.true_and, List.any_cons, List.any_nil, Bool.or_false]
    unfold outB endV
    rw [if_pos hm]
    by_cases h : a < f ∨ f + n * s ≤ a
    · have e := idx_out hm h
      rw [e.1]
      have : (decide (a < f) || decide (f + n * s ≤ a)) = true := by simpa using h
      rw [this]; rfl
    · have h2 : (decide (a < f) || decide (f + n * s ≤ a)) = false := by simp; omega
      rw [h2]
      unfold idxE
      rw [if_pos hm, if_neg h]
      by_cases h3 : 0 < (a - f) % s <;> simp [h3]
  · have e := idx_no (a := a) hm
    rw [e.1]
    simp [hm]
set_option maxHeartbeats 1000000 in
theorem walk (a0_0 a0_1 a0_2 a1 a2 : Int) (W : World) (w0_0 : (Lit.int .u64 a0_0).wf = true) (w0_1 : (Lit.int .u64 a0_1).wf = true) (w0_2 : (Lit.int .i64 a0_2).wf = true) (w1 : (Lit.int .i64 a1).wf = true) (w2 : (Lit.int .u64 a2).wf = true) :
    Calls Try.prog 5 #[.agg #[.int .u64 a0_0, .int .u64 a0_1, .int .i64 a0_2], .int .i64 a1, .int .u64 a2] W fun e w' => e = .returned (.bool true) ∧ Below W.heap.size W w' := by
  have h0 := (bounds_u64 w0_0).1
  have h1 := (bounds_u64 w0_1).1
  have h2 := (bounds_u64 w2).1
  clear w0_0 w0_1 w0_2 w1 w2
  have c := fun A cap (w : World) hr => in_any a0_0 a0_1 a0_2 A cap [a2] h0 h1 (by intro x hx; simp at hx; omega) w hr (by simp)
  have d := fun A cap (w : World) hr => in_any a0_0 a0_1 a0_2 A cap [] h0 h1 (by intro x hx; simp at hx) w hr (by simp)
  rw [in_one _ _ _ _ h1] at c
  simp only [List.any_nil, Bool.not_false, Bool.and_true] at d
  have c1 : ∀ (w : World) (b : Nat), Blk w b 22 #[.int .u64 a2] → Calls Try.prog 19 #[.agg #[.int .u64 a0_0, .int .u64 a0_1, .int .i64 a0_2], .slice (some ⟨b, 0, none⟩) 1 1] w fun e w' => e = .returned (.bool (decide (idxE a0_0 a0_1 a0_2 a2 = 0 ∨ idxE a0_0 a0_1 a0_2 a2 = 5))) ∧ Kept [] w w' :=
    fun w b hb => c _ 1 w (RowI.of_blk hb (by intro i hi; simp at hi; subst hi; rfl))
  have d1 : ∀ (w : World), Calls Try.prog 19 #[.agg #[.int .u64 a0_0, .int .u64 a0_1, .int .i64 a0_2], .slice none 0 0] w fun e w' => e = .returned (.bool (decide (MayP a0_0 a0_1 a0_2))) ∧ Kept [] w w' := fun w => d _ 0 w (RowI.nil _ _ _)
  have C := Lib.hid c1
  have D := Lib.hid d1
  clear c d c1 d1
  go_enter Try.func5, Try.ntmps5
  go_wp2_with fail
  (with_reducible refine (alive_any _).mono ?_)
  rintro e w1 ⟨rfl, hb1⟩
  have hs1 := hb1.size
  (try simp only [World.size_alloc, World.size_setCell, World.size_drew, size_drewN] at hs1)
  have B0 : Blk w1 W.heap.size 42 #[.int .u64 a0_0, .int .u64 a0_1, .int .i64 a0_2] := by (repeat' (first | (with_reducible assumption) | (with_reducible refine Blk.keep0 ?_ (by with_reducible assumption)) | (with_reducible refine Blk.new' _ _ _ ?_) | (with_reducible refine Blk.alloc ?_ _) | (with_reducible refine Blk.set' (by with_reducible assumption) ?_) | (with_reducible refine Blk.far ?_ (by simp only []; omega) _) | (with_reducible refine Blk.drew ?_) | (with_reducible refine Blk.drewN ?_ _) | (with_reducible rfl) | (simp only [World.size_alloc, World.size_setCell, World.size_drew, size_drewN]; done)))
  have B0_c := B0.cell
  have B0_f := B0.frozen
  have B0_z := B0.lt
  go_wp2_with fail
  (with_reducible refine (block_any _ _ _ _ (by omega) (by omega) _).mono ?_)
  rintro e w2 ⟨rfl, hb2⟩
  have hs2 := hb2.size
  (try simp only [World.size_alloc, World.size_setCell, World.size_drew, size_drewN] at hs2)
  clear B0_c B0_f B0_z
  replace B0 : Blk w2 W.heap.size 42 #[.int .u64 a0_0, .int .u64 a0_1, .int .i64 a0_2] := by (repeat' (first | (with_reducible assumption) | (with_reducible refine Blk.keep0 ?_ (by with_reducible assumption)) | (with_reducible refine Blk.new' _ _ _ ?_) | (with_reducible refine Blk.alloc ?_ _) | (with_reducible refine Blk.set' (by with_reducible assumption) ?_) | (with_reducible refine Blk.far ?_ (by simp only []; omega) _) | (with_reducible refine Blk.drew ?_) | (with_reducible refine Blk.drewN ?_ _) | (with_reducible rfl) | (simp only [World.size_alloc, World.size_setCell, World.size_drew, size_drewN]; done)))
  have B0_c := B0.cell
  have B0_f := B0.frozen
  have B0_z := B0.lt
  have B1 : Blk w2 w1.heap.size 43 #[.int .u64 a0_0, .int .u64 a0_1, .int .i64 a0_2] := by (repeat' (first | (with_reducible assumption) | (with_reducible refine Blk.keep0 ?_ (by with_reducible assumption)) | (with_reducible refine Blk.new' _ _ _ ?_) | (with_reducible refine Blk.alloc ?_ _) | (with_reducible refine Blk.set' (by with_reducible assumption) ?_) | (with_reducible refine Blk.far ?_ (by simp only []; omega) _) | (with_reducible refine Blk.drew ?_) | (with_reducible refine Blk.drewN ?_ _) | (with_reducible rfl) | (simp only [World.size_alloc, World.size_setCell, World.size_drew, size_drewN]; done)))
  have B1_c := B1.cell
  have B1_f := B1.frozen
  have B1_z := B1.lt
  go_wp2_with fail
  (with_reducible refine (refblock_any _ _ _ _ (by omega) (by omega) _).mono ?_)
  rintro e w3 ⟨rfl, hb3⟩
  have hs3 := hb3.size
  (try simp only [World.size_alloc, World.size_setCell, World.size_drew, size_drewN] at hs3)
  clear B0_c B0_f B0_z
  replace B0 : Blk w3 W.heap.size 42 #[.int .u64 a0_0, .int .u64 a0_1, .int .i64 a0_2] := by (repeat' (first | (with_reducible assumption) | (with_reducible refine Blk.keep0 ?_ (by with_reducible assumption)) | (with_reducible refine Blk.new' _ _ _ ?_) | (with_reducible refine Blk.alloc ?_ _) | (with_reducible refine Blk.set' (by with_reducible assumption) ?_) | (with_reducible refine Blk.far ?_ (by simp only []; omega) _) | (with_reducible refine Blk.drew ?_) | (with_reducible refine Blk.drewN ?_ _) | (with_reducible rfl) | (simp only [World.size_alloc, World.size_setCell, World.size_drew, size_drewN]; done)))
  have B0_c := B0.cell
  have B0_f := B0.frozen
  have B0_z := B0.lt
  clear B1_c B1_f B1_z
  replace B1 : Blk w3 w1.heap.size 43 #[.int .u64 a0_0, .int .u64 a0_1, .int .i64 a0_2] := by (repeat' (first | (with_reducible assumption) | (with_reducible refine Blk.keep0 ?_ (by with_reducible assumption)) | (with_reducible refine Blk.new' _ _ _ ?_) | (with_reducible refine Blk.alloc ?_ _) | (with_reducible refine Blk.set' (by with_reducible assumption) ?_) | (with_reducible refine Blk.far ?_ (by simp only []; omega) _) | (with_reducible refine Blk.drew ?_) | (with_reducible refine Blk.drewN ?_ _) | (with_reducible rfl) | (simp only [World.size_alloc, World.size_setCell, World.size_drew, size_drewN]; done)))
  have B1_c := B1.cell
  have B1_f := B1.frozen
  have B1_z := B1.lt
  go_wp2_with fail
  (with_reducible refine (index_any _ _ _ _ (by omega) (by omega) (by omega) _).mono ?_)
  rintro e w4 ⟨rfl, hb4⟩
  have hs4 := hb4.size
  (try simp only [World.size_alloc, World.size_setCell, World.size_drew, size_drewN] at hs4)
  clear B0_c B0_f B0_z
  replace B0 : Blk w4 W.heap.size 42 #[.int .u64 a0_0, .int .u64 a0_1, .int .i64 a0_2] := by (repeat' (first | (with_reducible assumption) | (with_reducible refine Blk.keep0 ?_ (by with_reducible assumption)) | (with_reducible refine Blk.new' _ _ _ ?_) | (with_reducible refine Blk.alloc ?_ _) | (with_reducible refine Blk.set' (by with_reducible assumption) ?_) | (with_reducible refine Blk.far ?_ (by simp only []; omega) _) | (with_reducible refine Blk.drew ?_) | (with_reducible refine Blk.drewN ?_ _) | (with_reducible rfl) | (simp only [World.size_alloc, World.size_setCell, World.size_drew, size_drewN]; done)))
  have B0_c := B0.cell
  have B0_f := B0.frozen
  have B0_z := B0.lt
  clear B1_c B1_f B1_z
  replace B1 : Blk w4 w1.heap.size 43 #[.int .u64 a0_0, .int .u64 a0_1, .int .i64 a0_2] := by (repeat' (first | (with_reducible assumption) | (with_reducible refine Blk.keep0 ?_ (by with_reducible assumption)) | (with_reducible refine Blk.new' _ _ _ ?_) | (with_reducible refine Blk.alloc ?_ _) | (with_reducible refine Blk.set' (by with_reducible assumption) ?_) | (with_reducible refine Blk.far ?_ (by simp only []; omega) _) | (with_reducible refine Blk.drew ?_) | (with_reducible refine Blk.drewN ?_ _) | (with_reducible rfl) | (simp only [World.size_alloc, World.size_setCell, World.size_drew, size_drewN]; done)))
  have B1_c := B1.cell
  have B1_f := B1.frozen
  have B1_z := B1.lt
  go_wp2_with fail
  (with_reducible refine (refindex_any _ _ _ _ (by omega) (by omega) (by omega) _).mono ?_)
  rintro e w5 ⟨rfl, hb5⟩
  have hs5 := hb5.size
  (try simp only [World.size_alloc, World.size_setCell, World.size_drew, size_drewN] at hs5)
  clear B0_c B0_f B0_z
  replace B0 : Blk w5 W.heap.size 42 #[.int .u64 a0_0, .int .u64 a0_1, .int .i64 a0_2] := by (repeat' (first | (with_reducible assumption) | (with_reducible refine Blk.keep0 ?_ (by with_reducible assumption)) | (with_reducible refine Blk.new' _ _ _ ?_) | (with_reducible refine Blk.alloc ?_ _) | (with_reducible refine Blk.set' (by with_reducible assumption) ?_) | (with_reducible refine Blk.far ?_ (by simp only []; omega) _) | (with_reducible refine Blk.drew ?_) | (with_reducible refine Blk.drewN ?_ _) | (with_reducible rfl) | (simp only [World.size_alloc, World.size_setCell, World.size_drew, size_drewN]; done)))
  have B0_c := B0.cell
  have B0_f := B0.frozen
  have B0_z := B0.lt
  clear B1_c B1_f B1_z
  replace B1 : Blk w5 w1.heap.size 43 #[.int .u64 a0_0, .int .u64 a0_1, .int .i64 a0_2] := by (repeat' (first | (with_reducible assumption) | (with_reducible refine Blk.keep0 ?_ (by with_reducible assumption)) | (with_reducible refine Blk.new' _ _ _ ?_) | (with_reducible refine Blk.alloc ?_ _) | (with_reducible refine Blk.set' (by with_reducible assumption) ?_) | (with_reducible refine Blk.far ?_ (by simp only []; omega) _) | (with_reducible refine Blk.drew ?_) | (with_reducible refine Blk.drewN ?_ _) | (with_reducible rfl) | (simp only [World.size_alloc, World.size_setCell, World.size_drew, size_drewN]; done)))
  have B1_c := B1.cell
  have B1_f := B1.frozen
  have B1_z := B1.lt
  go_wp2_with fail
  have hk5 : Kept [] W w5 := by (repeat' (first | (with_reducible exact Kept.refl _ _) | (with_reducible assumption) | (with_reducible refine Kept.then_ (by with_reducible assumption) ?_) | (with_reducible refine Kept.thenS (by with_reducible assumption) ?_) | (with_reducible refine Kept.alloc ?_ _) | (with_reducible refine Kept.drew ?_) | (with_reducible refine Kept.drewN ?_ _) | (with_reducible refine Kept.setNew ?_ ?_ _) | ((try simp only [World.size_alloc, World.size_setCell, World.size_drew, size_drewN] at *); (try dsimp only); omega)))
  have E0 : ∀ w, Calls Try.prog 21 #[.agg #[.int .u64 a0_0, .int .u64 a0_1, .int .i64 a0_2]] w fun e w' => e = .returned (.int .u64 (endV a0_0 a0_1 a0_2)) ∧ Kept [] w w' := end_any a0_0 a0_1 a0_2 h0 h1
  have HE := Lib.hid E0
  clear E0
  have mk : ∀ w', Blk w' W.heap.size 42 #[.int .u64 a0_0, .int .u64 a0_1, .int .i64 a0_2] → Blk w' w1.heap.size 43 #[.int .u64 a0_0, .int .u64 a0_1, .int .i64 a0_2] → Kept [] W w' → (w'.cell? ⟨W.heap.size, 0, none⟩ = some (.int .u64 a0_0) ∧ w'.cell? ⟨W.heap.size, 1, none⟩ = some (.int .u64 a0_1) ∧ w'.cell? ⟨W.heap.size, 2, none⟩ = some (.int .i64 a0_2) ∧ w'.cell? ⟨w1.heap.size, 0, none⟩ = some (.int .u64 a0_0) ∧ w'.cell? ⟨w1.heap.size, 1, none⟩ = some (.int .u64 a0_1) ∧ w'.cell? ⟨w1.heap.size, 2, none⟩ = some (.int .i64 a0_2)) ∧ Blk w' W.heap.size 42 #[.int .u64 a0_0, .int .u64 a0_1, .int .i64 a0_2] ∧ Blk w' w1.heap.size 43 #[.int .u64 a0_0, .int .u64 a0_1, .int .i64 a0_2] ∧ Kept [] W w' :=
    fun w' h h' hk => ⟨⟨h.cell 0, h.cell 1, h.cell 2, h'.cell 0, h'.cell 1, h'.cell 2⟩, h, h', hk⟩
  have MK := Lib.hid mk
  clear mk
  go_region_held3 (fun w' => (w'.cell? ⟨W.heap.size, 0, none⟩ = some (.int .u64 a0_0) ∧ w'.cell? ⟨W.heap.size, 1, none⟩ = some (.int .u64 a0_1) ∧ w'.cell? ⟨W.heap.size, 2, none⟩ = some (.int .i64 a0_2) ∧ w'.cell? ⟨w1.heap.size, 0, none⟩ = some (.int .u64 a0_0) ∧ w'.cell? ⟨w1.heap.size, 1, none⟩ = some (.int .u64 a0_1) ∧ w'.cell? ⟨w1.heap.size, 2, none⟩ = some (.int .i64 a0_2)) ∧ Blk w' W.heap.size 42 #[.int .u64 a0_0, .int .u64 a0_1, .int .i64 a0_2] ∧ Blk w' w1.heap.size 43 #[.int .u64 a0_0, .int .u64 a0_1, .int .i64 a0_2] ∧ Kept [] W w')
    (exact MK.out _ (by (repeat' (first | (with_reducible assumption) | (with_reducible refine Blk.keep0 ?_ (by with_reducible assumption)) | (with_reducible refine Blk.new' _ _ _ ?_) | (with_reducible refine Blk.alloc ?_ _) | (with_reducible refine Blk.set' (by with_reducible assumption) ?_) | (with_reducible refine Blk.far ?_ (by simp only []; omega) _) | (with_reducible refine Blk.drew ?_) | (with_reducible refine Blk.drewN ?_ _) | (with_reducible rfl) | (simp only [World.size_alloc, World.size_setCell, World.size_drew, size_drewN]; done)))) (by (repeat' (first | (with_reducible assumption) | (with_reducible refine Blk.keep0 ?_ (by with_reducible assumption)) | (with_reducible refine Blk.new' _ _ _ ?_) | (with_reducible refine Blk.alloc ?_ _) | (with_reducible refine Blk.set' (by with_reducible assumption) ?_) | (with_reducible refine Blk.far ?_ (by simp only []; omega) _) | (with_reducible refine Blk.drew ?_) | (with_reducible refine Blk.drewN ?_ _) | (with_reducible rfl) | (simp only [World.size_alloc, World.size_setCell, World.size_drew, size_drewN]; done)))) (by (repeat' (first | (with_reducible exact Kept.refl _ _) | (with_reducible assumption) | (with_reducible refine Kept.then_ (by with_reducible assumption) ?_) | (with_reducible refine Kept.thenS (by with_reducible assumption) ?_) | (with_reducible refine Kept.alloc ?_ _) | (with_reducible refine Kept.drew ?_) | (with_reducible refine Kept.drewN ?_ _) | (with_reducible refine Kept.setNew ?_ ?_ _) | ((try simp only [World.size_alloc, World.size_setCell, World.size_drew, size_drewN] at *); (try dsimp only); omega)))))
    (first | (go_at_call 21; (with_reducible refine (HE.out _).mono ?_); rintro e wx ⟨rfl, hbx⟩) | (go_at_call 22; (with_reducible refine (refend_any _ _ _ h0 h1 _).mono ?_); rintro e wx ⟨rfl, hbx⟩) | (go_at_call 23; (with_reducible refine (refmay_any _ _ _ h0 h1 _).mono ?_); rintro e wx ⟨rfl, hbx⟩) | (go_at_call 20; (with_reducible refine (refin_any _ _ _ _ h0 h1 h2 _).mono ?_); rintro e wx ⟨rfl, hbx⟩) | (go_at_call 19; (with_reducible refine (D.out _).mono ?_); rintro e wx ⟨rfl, hbx⟩) | (go_at_call 19; (with_reducible refine (C.out _ _ (by (repeat' (first | (with_reducible assumption) | (with_reducible refine Blk.keep0 ?_ (by with_reducible assumption)) | (with_reducible refine Blk.new' _ _ _ ?_) | (with_reducible refine Blk.alloc ?_ _) | (with_reducible refine Blk.set' (by with_reducible assumption) ?_) | (with_reducible refine Blk.far ?_ (by simp only []; omega) _) | (with_reducible refine Blk.drew ?_) | (with_reducible refine Blk.drewN ?_ _) | (with_reducible rfl) | (simp only [World.size_alloc, World.size_setCell, World.size_drew, size_drewN]; done))))).mono ?_); rintro e wx ⟨rfl, hbx⟩))
  all_goals
    go_wp2_with fail
    go_ret
    exact ⟨rfl, Kept.below (by (repeat' (first | (with_reducible exact Kept.refl _ _) | (with_reducible assumption) | (with_reducible refine Kept.then_ (by with_reducible assumption) ?_) | (with_reducible refine Kept.thenS (by with_reducible assumption) ?_) | (with_reducible refine Kept.alloc ?_ _) | (with_reducible refine Kept.drew ?_) | (with_reducible refine Kept.drewN ?_ _) | (with_reducible refine Kept.setNew ?_ ?_ _) | ((try simp only [World.size_alloc, World.size_setCell, World.size_drew, size_drewN] at *); (try dsimp only); omega))))⟩
theorem own : ownKnob Try.prog.godebug = none := by kernel_rfl
theorem laidOut : laidOutB Try.prog = true := by kernel_rfl
set_option maxRecDepth 100000 in
theorem lifted (os : Os) (started : os.Started) (H : Type) (enc : TypeId × Value → H) :
    ReturnsInHanded {} Try.checked os 5 .any (Rows.geoRunsSpec.pre6 enc Try.prog Try.f5 Rows.geoRunsRow.domain false) (Rows.geoRunsSpec.post enc Try.prog Try.f5 false true false false) := by
  refine returnsInHanded_of_change (C := Try.checked) own started (by kernel_rfl) Try.func5
    (ChangeSpec.witness6 (enc := enc) (C := Try.checked) false ⟨#[], #[.agg #[.int .u64 0, .int .u64 0, .int .i64 0], .int .i64 0, .int .u64 0], []⟩ 8 (by kernel_rfl) (by kernel_rfl) (by kernel_rfl) (by kernel_rfl)) ?_
  intro W base args ds gs before hval0 hW hcnd _
  have hval : ∀ (j : Nat) t v, Try.f5.params[j]? = some t → args[j]? = some v → Value.okWide Try.prog W .any base t v := hval0
  have hW' := hW
  obtain ⟨p, q, hA0, hV, rfl, hfz, hnd⟩ := hW
  have hA : DataW.TrodAll enc Try.prog W 0 (fun _ => true) true Try.f5.params.toList args.toList ds p := hA0
  rw [Try.params5] at hA hval
  obtain ⟨v0, vs0, d0, ds0, p0, q0, hargs, rfl, rfl, h0, r0⟩ := trodAll_cons hA
  obtain ⟨v1, vs1, d1, ds1, p1, q1, rfl, rfl, rfl, h1, r1⟩ := trodAll_cons r0
  obtain ⟨v2, vs2, d2, ds2, p2, q2, rfl, rfl, rfl, h2, r2⟩ := trodAll_cons r1
  obtain ⟨rfl, rfl, rfl⟩ := trodAll_nil r2
  obtain rfl : args = #[v0, v1, v2] := by cases args; simp_all
  obtain ⟨rfl, rfl⟩ := trodVars_none hV
  have k0 := h0
  have lt0 : ∀ x ∈ p0, x.block < W.heap.size := by obtain ⟨m, hm⟩ := k0; exact DataW.trod_lt m _ _ _ hm
  obtain ⟨c0_0, c0_1, c0_2, y0_0, y0_1, y0_2, n0, rfl, rfl, rfl, t0_0, t0_1, t0_2⟩ := open_agg3 Try.underlying42 (by kernel_rfl) (by kernel_rfl) (hval 0 42 v0 rfl rfl) h0
  obtain ⟨a0_0, e0_0, _, w0_0⟩ := DataW.trod_int Try.underlying22 t0_0
  simp only [List.cons.injEq, and_true] at e0_0
  subst e0_0
  obtain ⟨a0_1, e0_1, _, w0_1⟩ := DataW.trod_int Try.underlying22 t0_1
  simp only [List.cons.injEq, and_true] at e0_1
  subst e0_1
  obtain ⟨a0_2, e0_2, _, w0_2⟩ := DataW.trod_int Try.underlying3 t0_2
  simp only [List.cons.injEq, and_true] at e0_2
  subst e0_2
  obtain ⟨a1, rfl, rfl, rfl, w1⟩ := open_int Try.underlying3 (hval 1 3 v1 rfl rfl) h1
  obtain ⟨a2, rfl, rfl, rfl, w2⟩ := open_int Try.underlying22 (hval 2 22 v2 rfl rfl) h2
  clear hA0 hval0
  refine (walk a0_0 a0_1 a0_2 a1 a2 W w0_0 w0_1 w0_2 w1 w2).mono fun e W' ⟨he, bel⟩ => ?_
  subst he
  exact ⟨_, rfl, _, _, _, [], _, [], hW', trodAll_mk1 (shut_bool Try.underlying4 _), (trodAll_cons_mk (Below.trod laidOut (by kernel_rfl) (of_decide_eq_true (by kernel_rfl)) k0 bel lt0) (trodAll_cons_mk (shut_int Try.underlying3 w1) (trodAll_cons_mk (shut_int Try.underlying22 w2) trodAll_mk0))), rfl, bel.frame _, fun h => by cases h⟩
theorem over : Rows.geoRunsRow.holds Try.pinned (OpenSpec.ofChange Rows.geoRunsSpec) :=
  OpenClaim.holds_of_wide 5 Try.f5 rfl rfl rfl rfl rfl rfl rfl ⟨rfl, rfl, rfl, rfl, rfl⟩ rfl rfl rfl rfl rfl (by kernel_rfl) Try.func5 (by kernel_rfl)
    (of_decide_eq_true (by kernel_rfl)) (by unfold Func.isWrapper; first | (rw [if_pos (by decide +kernel)]; kernel_rfl) | (rw [if_neg (by decide +kernel)]; exact ⟨rfl, rfl⟩))
    (fun os started H enc _ => lifted os started H enc)
theorem proved : Rows.GeoRunsSaid := over
#print axioms proved
end Go.Proofs.Ytfmgeidlbekfpaa.GeoRuns
