/- What the document's functions of the layer of addresses answer; that the examples hold. -/
import Derived.Test.YtfmgeidlbekfpaaGeo
set_option linter.unusedVariables false
set_option linter.unusedSimpArgs false
namespace Go.Proofs.Ytfmgeidlbekfpaa
open Go.RowKit

theorem refat_hi (a : Int) (h : 1048576 ≤ a) (w : World) : Calls Try.prog 12 #[.int .u64 a] w fun e w' => e = .returned (.tuple #[.agg #[.int .i64 0, .int .i64 0, .int .u64 0], .int .i64 3]) ∧ Kept [] w w' := by
  go_enter Try.func12, Try.ntmps12
  go_wp2
  go_returns
  exact ⟨rfl, by (repeat' (first | (with_reducible exact Kept.refl _ _) | (with_reducible assumption) | (with_reducible refine Kept.then_ (by with_reducible assumption) ?_) | (with_reducible refine Kept.thenS (by with_reducible assumption) ?_) | (with_reducible refine Kept.alloc ?_ _) | (with_reducible refine Kept.drew ?_) | (with_reducible refine Kept.drewN ?_ _) | (with_reducible refine Kept.setNew ?_ ?_ _) | ((try simp only [World.size_alloc, World.size_setCell, World.size_drew, size_drewN] at *); (try dsimp only); omega)))⟩
theorem refat_lo (a : Int) (h0 : 0 ≤ a) (h : a < 1048576) (w : World) : Calls Try.prog 12 #[.int .u64 a] w fun e w' => e = .returned (.tuple #[.agg #[.int .i64 (a / 16384), .int .i64 (a / 1024 % 16), .int .u64 (a % 1024)], .int .i64 0]) ∧ Kept [] w w' := by
  have e : a / 1024 % 16 = a % 16384 / 1024 := by omega
  rw [e]
  clear e
  go_enter Try.func12, Try.ntmps12
  go_wp2
  go_returns
  exact ⟨rfl, by (repeat' (first | (with_reducible exact Kept.refl _ _) | (with_reducible assumption) | (with_reducible refine Kept.then_ (by with_reducible assumption) ?_) | (with_reducible refine Kept.thenS (by with_reducible assumption) ?_) | (with_reducible refine Kept.alloc ?_ _) | (with_reducible refine Kept.drew ?_) | (with_reducible refine Kept.drewN ?_ _) | (with_reducible refine Kept.setNew ?_ ?_ _) | ((try simp only [World.size_alloc, World.size_setCell, World.size_drew, size_drewN] at *); (try dsimp only); omega)))⟩
theorem refaddr_any (s l o : Int) (h0 : 0 ≤ o) (w : World) : Calls Try.prog 14 #[.agg #[.int .i64 s, .int .i64 l, .int .u64 o]] w fun e w' => e = .returned (.tuple #[.int .u64 (addrV s l o), .int .i64 (addrE s l o)]) ∧ Kept [] w w' := by
  go_enter Try.func14, Try.ntmps14
  go_wp2
  all_goals
    go_ret2
    refine ⟨?_, by (repeat' (first | (with_reducible exact Kept.refl _ _) | (with_reducible assumption) | (with_reducible refine Kept.then_ (by with_reducible assumption) ?_) | (with_reducible refine Kept.thenS (by with_reducible assumption) ?_) | (with_reducible refine Kept.alloc ?_ _) | (with_reducible refine Kept.drew ?_) | (with_reducible refine Kept.drewN ?_ _) | (with_reducible refine Kept.setNew ?_ ?_ _) | ((try simp only [World.size_alloc, World.size_setCell, World.size_drew, size_drewN] at *); (try dsimp only); omega)))⟩
    go_light
    unfold addrV addrE
    first | (rw [if_pos (by unfold addrP; omega), if_pos (by unfold addrP; omega)]; rfl) | (rw [if_neg (by unfold addrP; omega), if_neg (by unfold addrP; omega)]; rfl)
theorem refmay_any (f s n : Int) (hf: 0 ≤ f) (hs : 0 ≤ s) (w : World) : Calls Try.prog 23 #[.agg #[.int .u64 f, .int .u64 s, .int .i64 n]] w fun e w' => e = .returned (.bool (decide (MayP f s n))) ∧ Kept [] w w' := by
  have hb : 0 ≤ n → n ≤ 1024 → 1 ≤ s → s ≤ 1048576 → 0 ≤ n * s ∧ n * s ≤ 1073741824 := mul_bd n s
  go_enter Try.func23, Try.ntmps23
  go_wp2
  all_goals
    go_ret
    refine ⟨ret_bool ?_, by (repeat' (first | (with_reducible exact Kept.refl _ _) | (with_reducible assumption) | (with_reducible refine Kept.then_ (by with_reducible assumption) ?_) | (with_reducible refine Kept.thenS (by with_reducible assumption) ?_) | (with_reducible refine Kept.alloc ?_ _) | (with_reducible refine Kept.drew ?_) | (with_reducible refine Kept.drewN ?_ _) | (with_reducible refine Kept.setNew ?_ ?_ _) | ((try simp only [World.size_alloc, World.size_setCell, World.size_drew, size_drewN] at *); (try dsimp only); omega)))⟩
    go_light
    unfold MayP
    first | exact dec_f (by omega) | exact dec_iff (by omega)

theorem idx_a (w : World) : Calls Try.prog 17 #[.agg #[.int .u64 1024, .int .u64 16, .int .i64 64], .int .u64 1040] w fun e w' => e = .returned (.tuple #[.int .i64 1, .int .i64 0]) ∧ Kept [] w w' := by
  have h := index_any 1024 16 64 1040 (by omega) (by omega) (by omega) w
  rw [show idxV 1024 16 64 1040 = 1 by decide, show idxE 1024 16 64 1040 = 0 by decide] at h
  exact h
theorem idx_b (w : World) : Calls Try.prog 17 #[.agg #[.int .u64 1024, .int .u64 16, .int .i64 64], .int .u64 1041] w fun e w' => e = .returned (.tuple #[.int .i64 0, .int .i64 5]) ∧ Kept [] w w' := by
  have h := index_any 1024 16 64 1041 (by omega) (by omega) (by omega) w
  rw [show idxV 1024 16 64 1041 = 0 by decide, show idxE 1024 16 64 1041 = 5 by decide] at h
  exact h
theorem end_a (w : World) : Calls Try.prog 21 #[.agg #[.int .u64 1024, .int .u64 16, .int .i64 64]] w fun e w' => e = .returned (.int .u64 2048) ∧ Kept [] w w' := by
  have h := end_any 1024 16 64 (by omega) (by omega) w
  rw [if_pos (by decide)] at h
  exact h
theorem alive_any (w : World) : Calls Try.prog 10 #[] w fun e w' => e = .returned (.bool true) ∧ Kept [] w w' := by
  go_enter Try.func10, Try.ntmps10
  go_wp2_with fail
  (with_reducible refine (at_lo _ (by omega) (by omega) _).mono ?_)
  rintro e w1 ⟨rfl, hb1⟩
  have hs1 := hb1.size
  (try simp only [World.size_alloc, World.size_setCell, World.size_drew, size_drewN] at hs1)
  go_wp2_with fail
  (with_reducible refine (idx_a _).mono ?_)
  rintro e w2 ⟨rfl, hb2⟩
  have hs2 := hb2.size
  (try simp only [World.size_alloc, World.size_setCell, World.size_drew, size_drewN] at hs2)
  have Bp : Blk w2 w1.heap.size 26 #[.int .i64 1, .int .i64 1, .int .u64 92] := by ((with_reducible apply Blk.cast); (case h => (repeat' (first | (with_reducible assumption) | ((with_reducible apply Blk.keep0); (case hk => (with_reducible assumption))) | (with_reducible exact Blk.new _ _ _) | ((with_reducible apply Blk.new'); (case h => (first | (with_reducible rfl) | (simp only [World.size_alloc, World.size_setCell, World.size_drew, size_drewN]; done)))) | (with_reducible apply Blk.alloc) | (with_reducible apply Blk.set_) | ((with_reducible apply Blk.far); (case hp => (simp only []; omega))) | (with_reducible apply Blk.drew) | (with_reducible apply Blk.drewN)))); (case e => rfl))
  have Bp_c := Bp.cell
  have Bp_f := Bp.frozen
  have Bp_z := Bp.lt
  have Br : Blk w2 (w1.heap.size + 1) 43 #[.int .u64 1024, .int .u64 16, .int .i64 64] := by ((with_reducible apply Blk.cast); (case h => (repeat' (first | (with_reducible assumption) | ((with_reducible apply Blk.keep0); (case hk => (with_reducible assumption))) | (with_reducible exact Blk.new _ _ _) | ((with_reducible apply Blk.new'); (case h => (first | (with_reducible rfl) | (simp only [World.size_alloc, World.size_setCell, World.size_drew, size_drewN]; done)))) | (with_reducible apply Blk.alloc) | (with_reducible apply Blk.set_) | ((with_reducible apply Blk.far); (case hp => (simp only []; omega))) | (with_reducible apply Blk.drew) | (with_reducible apply Blk.drewN)))); (case e => rfl))
  have Br_c := Br.cell
  have Br_f := Br.frozen
  have Br_z := Br.lt
  go_wp2_with fail
  (with_reducible refine (idx_b _).mono ?_)
  rintro e w3 ⟨rfl, hb3⟩
  have hs3 := hb3.size
  (try simp only [World.size_alloc, World.size_setCell, World.size_drew, size_drewN] at hs3)
  clear Bp_c Bp_f Bp_z
  replace Bp : Blk w3 w1.heap.size 26 #[.int .i64 1, .int .i64 1, .int .u64 92] := by ((with_reducible apply Blk.cast); (case h => (repeat' (first | (with_reducible assumption) | ((with_reducible apply Blk.keep0); (case hk => (with_reducible assumption))) | (with_reducible exact Blk.new _ _ _) | ((with_reducible apply Blk.new'); (case h => (first | (with_reducible rfl) | (simp only [World.size_alloc, World.size_setCell, World.size_drew, size_drewN]; done)))) | (with_reducible apply Blk.alloc) | (with_reducible apply Blk.set_) | ((with_reducible apply Blk.far); (case hp => (simp only []; omega))) | (with_reducible apply Blk.drew) | (with_reducible apply Blk.drewN)))); (case e => rfl))
  have Bp_c := Bp.cell
  have Bp_f := Bp.frozen
  have Bp_z := Bp.lt
  clear Br_c Br_f Br_z
  replace Br : Blk w3 (w1.heap.size + 1) 43 #[.int .u64 1024, .int .u64 16, .int .i64 64] := by ((with_reducible apply Blk.cast); (case h => (repeat' (first | (with_reducible assumption) | ((with_reducible apply Blk.keep0); (case hk => (with_reducible assumption))) | (with_reducible exact Blk.new _ _ _) | ((with_reducible apply Blk.new'); (case h => (first | (with_reducible rfl) | (simp only [World.size_alloc, World.size_setCell, World.size_drew, size_drewN]; done)))) | (with_reducible apply Blk.alloc) | (with_reducible apply Blk.set_) | ((with_reducible apply Blk.far); (case hp => (simp only []; omega))) | (with_reducible apply Blk.drew) | (with_reducible apply Blk.drewN)))); (case e => rfl))
  have Br_c := Br.cell
  have Br_f := Br.frozen
  have Br_z := Br.lt
  go_wp2_with fail
  (with_reducible refine (end_a _).mono ?_)
  rintro e w4 ⟨rfl, hb4⟩
  have hs4 := hb4.size
  (try simp only [World.size_alloc, World.size_setCell, World.size_drew, size_drewN] at hs4)
  clear Bp_c Bp_f Bp_z
  replace Bp : Blk w4 w1.heap.size 26 #[.int .i64 1, .int .i64 1, .int .u64 92] := by ((with_reducible apply Blk.cast); (case h => (repeat' (first | (with_reducible assumption) | ((with_reducible apply Blk.keep0); (case hk => (with_reducible assumption))) | (with_reducible exact Blk.new _ _ _) | ((with_reducible apply Blk.new'); (case h => (first | (with_reducible rfl) | (simp only [World.size_alloc, World.size_setCell, World.size_drew, size_drewN]; done)))) | (with_reducible apply Blk.alloc) | (with_reducible apply Blk.set_) | ((with_reducible apply Blk.far); (case hp => (simp only []; omega))) | (with_reducible apply Blk.drew) | (with_reducible apply Blk.drewN)))); (case e => rfl))
  have Bp_c := Bp.cell
  have Bp_f := Bp.frozen
  have Bp_z := Bp.lt
  clear Br_c Br_f Br_z
  replace Br : Blk w4 (w1.heap.size + 1) 43 #[.int .u64 1024, .int .u64 16, .int .i64 64] := by ((with_reducible apply Blk.cast); (case h => (repeat' (first | (with_reducible assumption) | ((with_reducible apply Blk.keep0); (case hk => (with_reducible assumption))) | (with_reducible exact Blk.new _ _ _) | ((with_reducible apply Blk.new'); (case h => (first | (with_reducible rfl) | (simp only [World.size_alloc, World.size_setCell, World.size_drew, size_drewN]; done)))) | (with_reducible apply Blk.alloc) | (with_reducible apply Blk.set_) | ((with_reducible apply Blk.far); (case hp => (simp only []; omega))) | (with_reducible apply Blk.drew) | (with_reducible apply Blk.drewN)))); (case e => rfl))
  have Br_c := Br.cell
  have Br_f := Br.frozen
  have Br_z := Br.lt
  go_wp2_with fail
  go_ret
  exact ⟨rfl, by (repeat' (first | (with_reducible exact Kept.refl _ _) | (with_reducible assumption) | (with_reducible refine Kept.then_ (by with_reducible assumption) ?_) | (with_reducible refine Kept.thenS (by with_reducible assumption) ?_) | (with_reducible refine Kept.alloc ?_ _) | (with_reducible refine Kept.drew ?_) | (with_reducible refine Kept.drewN ?_ _) | (with_reducible refine Kept.setNew ?_ ?_ _) | ((try simp only [World.size_alloc, World.size_setCell, World.size_drew, size_drewN] at *); (try dsimp only); omega)))⟩
end Go.Proofs.Ytfmgeidlbekfpaa
