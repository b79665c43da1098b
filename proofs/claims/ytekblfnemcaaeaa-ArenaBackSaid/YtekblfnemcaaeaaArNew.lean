/- New. -/
import Derived.Test.YtekblfnemcaaeaaArGive
set_option linter.unusedVariables false
set_option linter.unusedSimpArgs false
namespace Go.Proofs.Ytekblfnemcaaeaa
open Go.RowKit
/-- What New leaves: the arena's block, its marks. -/
def NewA (w : World) (n : Nat) (lim : Int) (e : Ending) (w' : World) : Prop := ∃ p : Nat, e = .returned (.tuple #[.pointer (some ⟨p, 0, none⟩), .int .i64 0]) ∧ w.heap.size + 2 ≤ p ∧ Blk w' p 62 #[.pointer (some ⟨w.heap.size + 1, 0, none⟩), .int .i64 n, .int .i64 lim, .slice none 0 0, .slice none 0 0, .int .i64 0] ∧ MarkB w' (w.heap.size + 1) w.heap.size (frees n)
set_option maxHeartbeats 1000000 in
theorem anew_any (n : Nat) (lim : Int) (w : World) (h1 : 1 ≤ n) (h2 : n ≤ 64) (hl : 0 ≤ lim ∧ lim ≤ n) :
    Calls Try.prog 10 #[.int .i64 n, .int .i64 lim] w fun e w' => NewA w n lim e w' ∧ Kept [] w w' := by
  have DN := Lib.hid (new_any w n (by omega) (by omega))
  have q1 : (1 : Int) ≤ (n : Int) := by omega
  have q2 : (n : Int) ≤ 64 := by omega
  go_enter Try.func10, Try.ntmps10
  go_wp2_with fail
  (with_reducible refine DN.out.mono ?_)
  rintro e w1 ⟨rfl, hm1, hb1⟩
  have M1 := Lib.hid hm1
  have hlt := hm1.ltp
  clear hm1
  go_wp2_with fail
  go_ret2
  exact ⟨⟨_, rfl, by omega, Blk.new _ _ _, M1.out.keep0 ((Kept.refl [] w1).alloc _)⟩, hb1.alloc _⟩
theorem anew_bad (n lim : Int) (w : World) (h : n < 1 ∨ 64 < n ∨ lim < 0 ∨ n < lim) :
    Calls Try.prog 10 #[.int .i64 n, .int .i64 lim] w fun e w' => e = .returned (.tuple #[.pointer none, .int .i64 2]) ∧ Kept [] w w' := by
  rcases Int.lt_or_le n 1 with a | a
  · go_enter Try.func10, Try.ntmps10
    go_wp2_with fail
    go_ret2
    exact ⟨rfl, by (repeat' (first | (with_reducible exact Kept.refl _ _) | (with_reducible assumption) | (with_reducible refine Kept.then_ (by with_reducible assumption) ?_) | (with_reducible refine Kept.thenS (by with_reducible assumption) ?_) | (with_reducible refine Kept.alloc ?_ _) | (with_reducible refine Kept.drew ?_) | (with_reducible refine Kept.drewN ?_ _) | (with_reducible refine Kept.setNew ?_ ?_ _) | ((try simp only [World.size_alloc, World.size_setCell, World.size_drew, size_drewN] at *); (try dsimp only); omega)))⟩
  · rcases Int.lt_or_le 64 n with b | b
    · go_enter Try.func10, Try.ntmps10
      go_wp2_with fail
      go_ret2
      exact ⟨rfl, by (repeat' (first | (with_reducible exact Kept.refl _ _) | (with_reducible assumption) | (with_reducible refine Kept.then_ (by with_reducible assumption) ?_) | (with_reducible refine Kept.thenS (by with_reducible assumption) ?_) | (with_reducible refine Kept.alloc ?_ _) | (with_reducible refine Kept.drew ?_) | (with_reducible refine Kept.drewN ?_ _) | (with_reducible refine Kept.setNew ?_ ?_ _) | ((try simp only [World.size_alloc, World.size_setCell, World.size_drew, size_drewN] at *); (try dsimp only); omega)))⟩
    · rcases Int.lt_or_le lim 0 with c | c
      · go_enter Try.func10, Try.ntmps10
        go_wp2_with fail
        go_ret2
        exact ⟨rfl, by (repeat' (first | (with_reducible exact Kept.refl _ _) | (with_reducible assumption) | (with_reducible refine Kept.then_ (by with_reducible assumption) ?_) | (with_reducible refine Kept.thenS (by with_reducible assumption) ?_) | (with_reducible refine Kept.alloc ?_ _) | (with_reducible refine Kept.drew ?_) | (with_reducible refine Kept.drewN ?_ _) | (with_reducible refine Kept.setNew ?_ ?_ _) | ((try simp only [World.size_alloc, World.size_setCell, World.size_drew, size_drewN] at *); (try dsimp only); omega)))⟩
      · have d : n < lim := by omega
        clear h
        go_enter Try.func10, Try.ntmps10
        go_wp2_with fail
        go_ret2
        exact ⟨rfl, by (repeat' (first | (with_reducible exact Kept.refl _ _) | (with_reducible assumption) | (with_reducible refine Kept.then_ (by with_reducible assumption) ?_) | (with_reducible refine Kept.thenS (by with_reducible assumption) ?_) | (with_reducible refine Kept.alloc ?_ _) | (with_reducible refine Kept.drew ?_) | (with_reducible refine Kept.drewN ?_ _) | (with_reducible refine Kept.setNew ?_ ?_ _) | ((try simp only [World.size_alloc, World.size_setCell, World.size_drew, size_drewN] at *); (try dsimp only); omega)))⟩
end Go.Proofs.Ytekblfnemcaaeaa
