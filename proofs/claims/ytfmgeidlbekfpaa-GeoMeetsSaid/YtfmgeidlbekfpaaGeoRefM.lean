/- The document's Meet. -/
import Derived.Test.YtfmgeidlbekfpaaGeoMt
import Derived.Deep.RegionHeld3
import Derived.Deep.Slices
import Derived.Deep.Fields
import Derived.ChangeSame
set_option linter.unusedVariables false
set_option linter.unusedSimpArgs false
namespace Go.Proofs.Ytfmgeidlbekfpaa
open Go.RowKit
set_option maxHeartbeats 2000000 in
theorem refmeet_any (x y : RunT) (hx : 0 ≤ x.1 ∧ 0 ≤ x.2.1) (hy : 0 ≤ y.1 ∧ 0 ≤ y.2.1) (W : World) :
    Calls Try.prog 24 #[.agg #[.int .u64 x.1, .int .u64 x.2.1, .int .i64 x.2.2], .agg #[.int .u64 y.1, .int .u64 y.2.1, .int .i64 y.2.2]] W fun e w' => e = .returned (.bool (ov x y)) ∧ Kept [] W w' := by
  obtain ⟨a, b, c⟩ := x
  obtain ⟨d, e, f⟩ := y
  dsimp only at hx hy
  have hq : ov (a, b, c) (d, e, f) = (decide (MayP a b c) && decide (MayP d e f) && decide (0 < c) && decide (0 < f) && decide (a < endV d e f) && decide (d < endV a b c)) := by
    unfold ov dropP
    by_cases h1 : MayP a b c <;> by_cases h2 : MayP d e f <;> simp [h1, h2]
    unfold MayP at h1 h2
    have e1 : (decide (0 < c)) = !(c == 0) := by
      by_cases hc : c = 0
      · subst hc; rfl
      · rw [decide_eq_true (by omega)]; simp [hc]
    have e2 : (decide (0 < f)) = !(f == 0) := by
      by_cases hc : f = 0
      · subst hc; rfl
      · rw [decide_eq_true (by omega)]; simp [hc]
    rw [e1, e2]
  rw [hq]
  clear hq
  have D1 := Lib.hid (refmay_any a b c hx.1 hx.2)
  have D2 := Lib.hid (refmay_any d e f hy.1 hy.2)
  have E1 := Lib.hid (refend_any a b c hx.1 hx.2)
  have E2 := Lib.hid (refend_any d e f hy.1 hy.2)
  generalize decide (MayP a b c) = p1 at D1
  generalize decide (MayP d e f) = p2 at D2
  generalize endV a b c = v1 at E1
  generalize endV d e f = v2 at E2
  have B0 : Hid (Blk ((W.alloc (.cells #[.int .u64 a, .int .u64 b, .int .i64 c] 42)).alloc (.cells #[.int .u64 d, .int .u64 e, .int .i64 f] 42)) W.heap.size 42 #[.int .u64 a, .int .u64 b, .int .i64 c]) := Lib.hid ((Blk.new _ _ _).alloc _)
  have B1 : Hid (Blk ((W.alloc (.cells #[.int .u64 a, .int .u64 b, .int .i64 c] 42)).alloc (.cells #[.int .u64 d, .int .u64 e, .int .i64 f] 42)) (W.heap.size + 1) 42 #[.int .u64 d, .int .u64 e, .int .i64 f]) := Lib.hid (by rw [← World.size_alloc W (.cells #[.int .u64 a, .int .u64 b, .int .i64 c] 42)]; exact Blk.new _ _ _)
  go_enter Try.func24, Try.ntmps24
  go_wp2_with fail
  cases p1 <;> cases p2 <;> by_cases h1 : 0 < c <;> by_cases h2 : 0 < f <;> by_cases h3 : a < v2 <;> by_cases h4 : d < v1
  all_goals
    refine wp_region_kept (by kernel_rfl) (by kernel_rfl) ?_
    intro TT FF hne hFF hcl
    have q_r0 := fun x => (Blk.keep0 (B0.out) (hFF x)).cell
    have q_r1 := fun x => (Blk.keep0 (B1.out) (hFF x)).cell
    repeat (first | go_big_quiet_step ((first | (go_at_call 23; (with_reducible refine kept_call hcl (D1.out _))) | (go_at_call 23; (with_reducible refine kept_call hcl (D2.out _))) | (go_at_call 22; (with_reducible refine kept_call hcl (E1.out _))) | (go_at_call 22; (with_reducible refine kept_call hcl (E2.out _))))) | quiet_step ((first | (go_at_call 23; (with_reducible refine kept_call hcl (D1.out _))) | (go_at_call 23; (with_reducible refine kept_call hcl (D2.out _))) | (go_at_call 22; (with_reducible refine kept_call hcl (E1.out _))) | (go_at_call 22; (with_reducible refine kept_call hcl (E2.out _))))))
    refine wpQuiet_nil ?_
    rintro w1 ⟨x, hx⟩
    have hb1 := hFF x
    rw [← hx] at hb1
    clear hx x hne hFF hcl q_r0 q_r1
    have hs1 := hb1.size
    (try simp only [World.size_alloc, World.size_setCell, World.size_drew, size_drewN] at hs1)
    go_wp2_with fail
    go_ret
    exact ⟨ret_bool (by simp [h1, h2, h3, h4]), (hb1.then_ (((Kept.refl [] W).alloc _).alloc _))⟩
end Go.Proofs.Ytfmgeidlbekfpaa
