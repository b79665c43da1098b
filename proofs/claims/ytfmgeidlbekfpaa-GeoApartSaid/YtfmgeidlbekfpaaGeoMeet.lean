/- Meet: the rows sorted. -/
import Derived.Test.YtfmgeidlbekfpaaGeoDelF
import Derived.Test.YtfmgeidlbekfpaaGeoSort
set_option linter.unusedVariables false
set_option linter.unusedSimpArgs false
namespace Go.Proofs.Ytfmgeidlbekfpaa
open Go.RowKit Go.Shelf
def cmpF (x y : RunT) : Int := if x.1 < y.1 then -1 else if y.1 < x.1 then 1 else 0
theorem lt_cmpF (x y : RunT) : ltOf cmpF x y = decide (x.1 < y.1) := by
  unfold ltOf cmpF
  by_cases h1 : x.1 < y.1
  · simp [h1]
  · by_cases h2 : y.1 < x.1 <;> simp [h1, h2]
theorem swo_cmpF : Go.Sort.SWO (ltOf cmpF) where
  irrefl x := by rw [lt_cmpF]; simp
  trans x y z h1 h2 := by rw [lt_cmpF] at *; simp at *; omega
  ntrans x y z h1 h2 := by rw [lt_cmpF] at *; simp at *; omega
set_option maxHeartbeats 1000000 in
theorem compare_any (x y : Int) (w : World) : Calls Try.prog 34 #[.int .u64 x, .int .u64 y] w fun e w' => e = .returned (.int .i64 (if x < y then -1 else if y < x then 1 else 0)) ∧ w = w' := by
  rcases Int.lt_trichotomy x y with h | h | h
  · rw [if_pos h]
    go_enter Try.func34, Try.ntmps34
    go_wp2
    go_ret
    exact ⟨rfl, rfl⟩
  · subst h
    rw [if_neg (by omega), if_neg (by omega)]
    go_enter Try.func34, Try.ntmps34
    go_wp2
    go_ret
    exact ⟨rfl, rfl⟩
  · have h' : decide (x < y) = false := by simp; omega
    rw [if_neg (by omega), if_pos h]
    go_enter Try.func34, Try.ntmps34
    go_wp2
    go_ret
    exact ⟨rfl, rfl⟩
set_option maxHeartbeats 1000000 in
theorem meet2_any (x y : RunT) (W : World) : Calls Try.prog 33 #[.agg #[.int .u64 x.1, .int .u64 x.2.1, .int .i64 x.2.2], .agg #[.int .u64 y.1, .int .u64 y.2.1, .int .i64 y.2.2]] W fun e w' => e = .returned (.int .i64 (cmpF x y)) ∧ ∃ q os', w' = Go.Sort.grow (W.drewN q) os' := by
  obtain ⟨a, b, c⟩ := x
  obtain ⟨d, e, f⟩ := y
  have DC : Hid (∀ w, Calls Try.prog 34 #[.int .u64 a, .int .u64 d] w fun e' w' => e' = .returned (.int .i64 (cmpF (a, b, c) (d, e, f))) ∧ w = w') := Lib.hid (fun w => compare_any a d w)
  generalize cmpF (a, b, c) (d, e, f) = r at DC ⊢
  go_enter Try.func33, Try.ntmps33
  go_wp2_with fail
  (with_reducible refine (DC.out _).mono ?_)
  rintro e' w' ⟨rfl, rfl⟩
  go_wp2_with fail
  go_ret
  exact ⟨rfl, 0, _, by rw [Go.Sort.alloc_eq_grow, Go.Sort.alloc_eq_grow, Go.Sort.grow_grow]; rfl⟩
theorem cmpLays (blk off size : Nat) (w : World) : CmpLays Try.prog 33 #[] encR 3 cmpF blk off size w := fun _ _ _ _ x y => meet2_any x y _
theorem eg_meet2 (args : Array Value) (w : World) : (callFunc 33 args).run Try.prog w = .ok (.enter 33 args) w := enters_of Try.func33 (by kernel_rfl) rfl args w
end Go.Proofs.Ytfmgeidlbekfpaa
