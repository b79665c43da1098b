/- Same: the same blocks. -/
import Derived.Test.YtdallcepachhoaaLgHeld
set_option linter.unusedVariables false
set_option linter.unusedSimpArgs false
namespace Go.Proofs.Ytdallcepachhoaa
open Go.RowKit
set_option maxRecDepth 100000 in
set_option maxHeartbeats 1000000 in
theorem same_any (w : World) (Y Z : Nat → Prop) (A B : Option Addr) (c d : Nat) (ls : List BlkT) (n : Nat) (hn : n = ls.length) (hl : ls.length ≤ 1000) (hA : ListB Y w A ls) (hB : ListB Z w B ls) :
    Calls Try.prog 16 #[.slice A n c, .slice B n d] w fun e w' => e = .returned (.bool true) ∧ Kept [] w w' := by
  subst hn
  have HA := Lib.hid hA
  have HB := Lib.hid hB
  clear hA hB
  go_enter Try.func16, Try.ntmps16
  go_wp2_with fail
  go_loopw [13] (fun v wr => ∃ j : Nat, j ≤ ls.length ∧ v = .int .i64 j ∧ Hid (Kept [] w wr)) (fun v _ => (ls.length - intOf v).toNat)
  case atStart => exact ⟨0, Nat.zero_le _, rfl, Lib.hid (Kept.refl _ _)⟩
  case round =>
    obtain ⟨j, hj, rfl, hk⟩ := hrel
    by_cases hjl : j < ls.length
    · obtain ⟨g, _, rfl, hc⟩ := (HA.out.keep hk.out) (by omega)
      obtain ⟨g', _, rfl, hc'⟩ := (HB.out.keep hk.out) (by omega)
      obtain ⟨x0, x1, x2⟩ := hc.2 j hjl
      obtain ⟨y0, y1, y2⟩ := hc'.2 j hjl
      have l1 := hc.1
      have l2 := hc'.1
      have dj : decide (j < ls.length) = true := by simp; omega
      have dj2 : (j : Int) < (ls.length : Int) := by omega
      have dj0 : (0 : Int) ≤ (j : Int) := by omega
      clear hc hc'
      generalize rb ls j = r at *
      obtain ⟨ra, rn, rl⟩ := r
      dsimp only at x0 x1 x2 y0 y1 y2
      go_wp2_with fail
      go_region
      go_wp2_with fail
      go_roundw
      case rel => first | exact ⟨j + 1, by omega, by go_num, Lib.hid (by have := hk.out; (repeat' (first | (with_reducible exact Kept.refl _ _) | (with_reducible assumption) | (with_reducible refine Kept.then_ (by with_reducible assumption) ?_) | (with_reducible refine Kept.thenS (by with_reducible assumption) ?_) | (with_reducible refine Kept.alloc ?_ _) | (with_reducible refine Kept.drew ?_) | (with_reducible refine Kept.drewN ?_ _) | (with_reducible refine Kept.setNew ?_ ?_ _) | ((try simp only [World.size_alloc, World.size_setCell, World.size_drew, size_drewN] at *); (try dsimp only); omega))))⟩ | ((repeat apply Exists.intro); exact ⟨⟨j + 1, by omega, by go_num, Lib.hid (by have := hk.out; (repeat' (first | (with_reducible exact Kept.refl _ _) | (with_reducible assumption) | (with_reducible refine Kept.then_ (by with_reducible assumption) ?_) | (with_reducible refine Kept.thenS (by with_reducible assumption) ?_) | (with_reducible refine Kept.alloc ?_ _) | (with_reducible refine Kept.drew ?_) | (with_reducible refine Kept.drewN ?_ _) | (with_reducible refine Kept.setNew ?_ ?_ _) | ((try simp only [World.size_alloc, World.size_setCell, World.size_drew, size_drewN] at *); (try dsimp only); omega))))⟩, rfl⟩)
      case measure => simp [intOf]; omega
    · obtain rfl : j = ls.length := by omega
      go_wp2_with fail
      go_ret
      exact ⟨rfl, hk.out⟩
end Go.Proofs.Ytdallcepachhoaa
