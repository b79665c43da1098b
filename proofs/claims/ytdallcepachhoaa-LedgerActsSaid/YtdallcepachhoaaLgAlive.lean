/- The example. -/
import Derived.Test.YtdallcepachhoaaLgX
set_option linter.unusedVariables false
set_option linter.unusedSimpArgs false
namespace Go.Proofs.Ytdallcepachhoaa
open Go.RowKit
theorem pow16 : IsPow 16 := ⟨4, by omega, by decide⟩
theorem pow8 : IsPow 8 := ⟨3, by omega, by decide⟩
theorem may1 : May 32 16 16 := ⟨by omega, by omega, by decide, pow16, by omega, by decide⟩
theorem may2 : May 40 8 8 := ⟨by omega, by omega, by decide, pow8, by omega, by decide⟩
theorem free1 : FreeL [] 32 (mx 16) := .inr ⟨by decide, fun e he => (by cases he)⟩
theorem free2 : ¬ FreeL [(32, 16, 16, false)] 40 (mx 8) := by
  rintro (h | ⟨_, h⟩)
  · exact absurd h (by decide)
  · exact h (32, 16, 16, false) (by simp) (by decide)
theorem rowX_one {w : World} {g : Nat} {z : Int} (hb : Blk w g 29 #[.int .u64 z]) : RowX .u64 w (some ⟨g, 0, none⟩) [z] := RowX.of_blk hb (fun i hi => by
  have : i = 0 := by simpa using hi
  subst this
  rfl)
def Is1 (W : World) (ls' : List EntT) (er p : Int) (q : Nat) (X : List Nat) (w : World) (e : Ending) (w' : World) : Prop := e = .returned (.int .i64 er) ∧ LgX W X w' q ls' ∧ KeptX X w w'
set_option maxRecDepth 100000 in
set_option maxHeartbeats 1000000 in
theorem alive_any (W : World) : Calls Try.prog 9 #[] W fun e w' => e = .returned (.bool true) ∧ Kept [] W w' := by
  have hn := lg_new W W (Kept.refl _ _)
  have N0 := Lib.hid hn
  have C1 : Hid (∀ w p, LgX W [] w p [] → Calls Try.prog 15 #[.pointer (some ⟨p, 0, none⟩), .agg #[.int .u64 32, .int .u64 16, .int .u64 16]] w fun e w' => e = .returned (.int .i64 0) ∧ LgX W [] w' p [(32, 16, 16, false)]) := Lib.hid (fun w p h => (x_add h (by simp) 32 16 16 (by omega) (by omega) (by omega)).mono fun e w' ⟨er, ls', he, hR, hL, _⟩ => by
    rcases hR with ⟨h1, _⟩ | ⟨_, h1, _⟩ | ⟨_, _, rfl, j, hj, rfl⟩
    · exact absurd may1 h1
    · exact absurd free1 h1
    · refine ⟨he, ?_⟩
      have : j = 0 := by have := hj.1; simpa using this
      subst this
      exact hL)
  have C2 : Hid (∀ w p, LgX W [] w p [(32, 16, 16, false)] → Calls Try.prog 15 #[.pointer (some ⟨p, 0, none⟩), .agg #[.int .u64 40, .int .u64 8, .int .u64 8]] w fun e w' => e = .returned (.int .i64 6) ∧ LgX W [] w' p [(32, 16, 16, false)]) := Lib.hid (fun w p h => (x_add h (by simp) 40 8 8 (by omega) (by omega) (by omega)).mono fun e w' ⟨er, ls', he, hR, hL, _⟩ => by
    rcases hR with ⟨h1, _⟩ | ⟨_, _, rfl, rfl⟩ | ⟨_, h1, _⟩
    · exact absurd may2 h1
    · exact ⟨he, hL⟩
    · exact absurd h1 free2)
  have C3 : Hid (∀ w0 w p g, LgX W [] w0 p [(32, 16, 16, false)] → Kept [] w0 w → Blk w g 29 #[.int .u64 32] → w0.heap.size ≤ g → Calls Try.prog 23 #[.pointer (some ⟨p, 0, none⟩), .slice (some ⟨g, 0, none⟩) 1 1] w fun e w' => e = .returned (.int .i64 0) ∧ LgX W [] w' p [(32, 16, 16, true)]) := Lib.hid (fun w0 w p g h hk hb hg => (x_hold h hk (by simp) (some ⟨g, 0, none⟩) 1 1 [32] rfl (rowX_one hb) (fun _ x hx => .inr (by cases hx; exact hg)) (by simp)).mono fun e w' ⟨he, hL, _⟩ => ⟨he, hL⟩)
  have C4 : Hid (∀ w p, LgX W [] w p [(32, 16, 16, true)] → Calls Try.prog 20 #[.pointer (some ⟨p, 0, none⟩), .int .u64 32] w fun e w' => e = .returned (.tuple #[.agg #[.int .u64 0, .int .u64 0, .int .u64 0], .int .i64 7]) ∧ Kept [] w w') := Lib.hid (fun w p h => x_at h (by simp) 32 (0, 0, 0) 7 rfl)
  have C5 : Hid (∀ w p, LgX W [] w p [(32, 16, 16, true)] → Calls Try.prog 12 #[.pointer (some ⟨p, 0, none⟩)] w fun e w' => (∃ A c, e = .returned (.slice A 1 c)) ∧ Kept [] w w') := Lib.hid (fun w p h => (x_all h (by simp)).mono fun e w' ⟨⟨A, c, he, _⟩, hk⟩ => ⟨⟨A, c, he⟩, hk⟩)
  have C6 := Lib.hid (fun w => drop_none w none 0 0)
  clear hn
  go_enter Try.func9, Try.ntmps9
  go_wp2_with fail
  (refine (C1.out _ _ N0.out).mono ?_)
  rintro e w1 ⟨rfl, hL1⟩
  have L1 := Lib.hid hL1
  have l1 := hL1.ltp
  clear hL1
  go_wp2_with fail
  (refine (C2.out _ _ L1.out).mono ?_)
  rintro e w2 ⟨rfl, hL2⟩
  have L2 := Lib.hid hL2
  have l2 := hL2.ltp
  clear hL2
  go_wp2_with fail
  (refine (C3.out w2 _ _ _ L2.out ((Kept.refl [] w2).alloc _) (Blk.new _ _ _) (Nat.le_refl _)).mono ?_)
  rintro e w3 ⟨rfl, hL3⟩
  have L3 := Lib.hid hL3
  have l3 := hL3.ltp
  clear hL3
  go_wp2_with fail
  (refine (C4.out _ _ L3.out).mono ?_)
  rintro e w4 ⟨rfl, hb4⟩
  have L4 := Lib.hid (L3.out.keep0 hb4)
  have l4 := L4.out.ltp
  clear hb4
  go_wp2_with fail
  (refine (C5.out _ _ (L4.out.keep0 (by (repeat' (first | (with_reducible exact Kept.refl _ _) | (with_reducible assumption) | (with_reducible refine Kept.then_ (by with_reducible assumption) ?_) | (with_reducible refine Kept.thenS (by with_reducible assumption) ?_) | (with_reducible refine Kept.alloc ?_ _) | (with_reducible refine Kept.drew ?_) | (with_reducible refine Kept.drewN ?_ _) | (with_reducible refine Kept.setNew ?_ ?_ _) | ((try simp only [World.size_alloc, World.size_setCell, World.size_drew, size_drewN] at *); (try dsimp only); omega)))))).mono ?_)
  rintro e w5 ⟨⟨A5, c5, rfl⟩, hb5⟩
  have k5 : Kept [] w4 w5 := by (repeat' (first | (with_reducible exact Kept.refl _ _) | (with_reducible assumption) | (with_reducible refine Kept.then_ (by with_reducible assumption) ?_) | (with_reducible refine Kept.thenS (by with_reducible assumption) ?_) | (with_reducible refine Kept.alloc ?_ _) | (with_reducible refine Kept.drew ?_) | (with_reducible refine Kept.drewN ?_ _) | (with_reducible refine Kept.setNew ?_ ?_ _) | ((try simp only [World.size_alloc, World.size_setCell, World.size_drew, size_drewN] at *); (try dsimp only); omega)))
  have L5 := Lib.hid (L4.out.keep0 k5)
  clear hb5 k5
  go_wp2_with fail
  (refine (C6.out _).mono ?_)
  rintro e w6 ⟨rfl, hb6⟩
  have L6 := Lib.hid (L5.out.keep0 hb6)
  clear hb6
  go_wp2_with fail
  go_ret
  exact ⟨rfl, L6.out.kept⟩
end Go.Proofs.Ytdallcepachhoaa
