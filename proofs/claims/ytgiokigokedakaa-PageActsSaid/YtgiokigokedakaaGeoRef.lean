/- What the document's functions of the layer of addresses answer; that the examples hold. -/
import Derived.Test.YtgiokigokedakaaGeo
set_option linter.unusedVariables false
set_option linter.unusedSimpArgs false
namespace Go.Proofs.Ytgiokigokedakaa
open Go.RowKit

theorem refmay_any (f s n : Int) (hf: 0 ≤ f) (hs : 0 ≤ s) (w : World) : Calls Try.prog 54 #[.agg #[.int .u64 f, .int .u64 s, .int .i64 n]] w fun e w' => e = .returned (.bool (decide (MayP f s n))) ∧ Kept [] w w' := by
  have hb : 0 ≤ n → n ≤ 1024 → 1 ≤ s → s ≤ 1048576 → 0 ≤ n * s ∧ n * s ≤ 1073741824 := mul_bd n s
  go_enter Try.func54, Try.ntmps54
  go_wp2
  all_goals
    go_ret
    refine ⟨ret_bool ?_, by (repeat' (first | (with_reducible exact Kept.refl _ _) | (with_reducible assumption) | (with_reducible refine Kept.then_ (by with_reducible assumption) ?_) | (with_reducible refine Kept.thenS (by with_reducible assumption) ?_) | (with_reducible refine Kept.alloc ?_ _) | (with_reducible refine Kept.drew ?_) | (with_reducible refine Kept.drewN ?_ _) | (with_reducible refine Kept.setNew ?_ ?_ _) | ((try simp only [World.size_alloc, World.size_setCell, World.size_drew, size_drewN] at *); (try dsimp only); omega)))⟩
    go_light
    unfold MayP
    first | exact dec_f (by omega) | exact dec_iff (by omega)

theorem idx_a (w : World) : Calls Try.prog 14 #[.agg #[.int .u64 1024, .int .u64 16, .int .i64 64], .int .u64 1040] w fun e w' => e = .returned (.tuple #[.int .i64 1, .int .i64 0]) ∧ Kept [] w w' := by
  have h := index_any 1024 16 64 1040 (by omega) (by omega) (by omega) w
  rw [show idxV 1024 16 64 1040 = 1 by decide, show idxE 1024 16 64 1040 = 0 by decide] at h
  exact h
theorem idx_b (w : World) : Calls Try.prog 14 #[.agg #[.int .u64 1024, .int .u64 16, .int .i64 64], .int .u64 1041] w fun e w' => e = .returned (.tuple #[.int .i64 0, .int .i64 5]) ∧ Kept [] w w' := by
  have h := index_any 1024 16 64 1041 (by omega) (by omega) (by omega) w
  rw [show idxV 1024 16 64 1041 = 0 by decide, show idxE 1024 16 64 1041 = 5 by decide] at h
  exact h
theorem end_a (w : World) : Calls Try.prog 41 #[.agg #[.int .u64 1024, .int .u64 16, .int .i64 64]] w fun e w' => e = .returned (.int .u64 2048) ∧ Kept [] w w' := by
  have h := end_any 1024 16 64 (by omega) (by omega) w
  rw [if_pos (by decide)] at h
  exact h
end Go.Proofs.Ytgiokigokedakaa
