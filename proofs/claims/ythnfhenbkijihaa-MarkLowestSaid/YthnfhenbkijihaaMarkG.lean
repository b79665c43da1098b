/- The example. -/
import Derived.Test.YthnfhenbkijihaaMarkP
set_option linter.unusedVariables false
set_option linter.unusedSimpArgs false
namespace Go.Proofs.Ythnfhenbkijihaa
open Go.RowKit
instance (bs : List Bool) (a r : Nat) (v : Bool) : Decidable (AllAt bs a r v) := by unfold AllAt; infer_instance
instance (bs : List Bool) (a r : Nat) : Decidable (FreeAt bs a r) := by unfold FreeAt; infer_instance
theorem MarkB.keepG {w w' : World} {p g : Nat} {bs : List Bool} (h : MarkB w p g bs) (hk : Kept [] w w') : MarkB w' p g bs := h.keep0 hk
set_option maxRecDepth 100000 in
set_option maxHeartbeats 1000000 in
theorem alive_any (w : World) : Calls Try.prog 9 #[] w fun e w' => e = .returned (.bool true) ∧ Kept [] w w' := by
  have C1 : Hid (∀ w : World, Calls Try.prog 10 #[.int .i64 4] w fun e w' => e = .returned (.tuple #[.pointer (some ⟨w.heap.size + 1, 0, none⟩), .int .i64 0]) ∧ MarkB w' (w.heap.size + 1) w.heap.size [false, false, false, false] ∧ Kept [] w w') := Lib.hid (fun w => new_any w 4 (by omega) (by omega))
  have C2 : Hid (∀ (w : World) p g, MarkB w p g [false, false, false, false] → Calls Try.prog 11 #[.pointer (some ⟨p, 0, none⟩), .int .i64 2] w fun e w' => e = .returned (.tuple #[.int .i64 0, .int .i64 0]) ∧ MarkB w' p g [true, true, false, false] ∧ Kept [p, g] w w') := Lib.hid (fun w p g h => take_at w p g _ h 2 0 (by omega) (by decide) (by decide))
  have C3 : Hid (∀ (w : World) p g, MarkB w p g [true, true, false, false] → Calls Try.prog 11 #[.pointer (some ⟨p, 0, none⟩), .int .i64 1] w fun e w' => e = .returned (.tuple #[.int .i64 2, .int .i64 0]) ∧ MarkB w' p g [true, true, true, false] ∧ Kept [p, g] w w') := Lib.hid (fun w p g h => take_at w p g _ h 1 2 (by omega) (by decide) (by decide))
  have C4 : Hid (∀ (w : World) p g, MarkB w p g [true, true, true, false] → Calls Try.prog 14 #[.pointer (some ⟨p, 0, none⟩), .int .i64 0, .int .i64 2] w fun e w' => e = .returned (.int .i64 0) ∧ MarkB w' p g [false, false, true, false] ∧ Kept [p, g] w w') := Lib.hid (fun w p g h => free_ok w p g _ h 0 2 (by omega) (by decide) (by decide))
  have C5 : Hid (∀ (w : World) p g, MarkB w p g [false, false, true, false] → Calls Try.prog 11 #[.pointer (some ⟨p, 0, none⟩), .int .i64 1] w fun e w' => e = .returned (.tuple #[.int .i64 0, .int .i64 0]) ∧ MarkB w' p g [true, false, true, false] ∧ Kept [p, g] w w') := Lib.hid (fun w p g h => take_at w p g _ h 1 0 (by omega) (by decide) (by decide))
  have C6 : Hid (∀ (w : World) p g, MarkB w p g [true, false, true, false] → Calls Try.prog 13 #[.pointer (some ⟨p, 0, none⟩)] w fun e w' => e = .returned (.int .i64 1) ∧ Kept [] w w') := Lib.hid (fun w p g h => longest_any w p g _ h)
  have C7 : Hid (∀ (w : World) p g, MarkB w p g [true, false, true, false] → Calls Try.prog 12 #[.pointer (some ⟨p, 0, none⟩)] w fun e w' => e = .returned (.int .i64 2) ∧ w = w') := Lib.hid (fun w p g h => left_any w p g _ h)
  have C8 : Hid (∀ (w : World), Calls Try.prog 11 #[.pointer none, .int .i64 1] w fun e w' => e = .returned (.tuple #[.int .i64 0, .int .i64 1]) ∧ Kept [] w w') := Lib.hid (fun w => take_none w 1)
  go_enter Try.func9, Try.ntmps9
  go_wp2_with fail
  (with_reducible refine (C1.out _).mono ?_)
  rintro e w1 ⟨rfl, hM1, hb1⟩
  have hs1 := hb1.size
  (try simp only [World.size_alloc, World.size_setCell, World.size_drew, size_drewN] at hs1)
  have M1 := Lib.hid hM1
  have hg1 := hM1.2.1.lt
  clear hM1
  (try simp only [size_drewN, World.size_drew] at M1 hg1)
  go_wp2_with fail
  (with_reducible refine (C2.out _ _ _ M1.out).mono ?_)
  rintro e w2 ⟨rfl, hM2, hb2⟩
  have hs2 := hb2.size
  (try simp only [World.size_alloc, World.size_setCell, World.size_drew, size_drewN] at hs2)
  have M2 := Lib.hid hM2
  have hg2 := hM2.2.1.lt
  clear hM2
  (try simp only [size_drewN, World.size_drew] at M2 hg2)
  go_wp2_with fail
  (with_reducible refine (C3.out _ _ _ M2.out).mono ?_)
  rintro e w3 ⟨rfl, hM3, hb3⟩
  have hs3 := hb3.size
  (try simp only [World.size_alloc, World.size_setCell, World.size_drew, size_drewN] at hs3)
  have M3 := Lib.hid hM3
  have hg3 := hM3.2.1.lt
  clear hM3
  (try simp only [size_drewN, World.size_drew] at M3 hg3)
  go_wp2_with fail
  (with_reducible refine (C4.out _ _ _ M3.out).mono ?_)
  rintro e w4 ⟨rfl, hM4, hb4⟩
  have hs4 := hb4.size
  (try simp only [World.size_alloc, World.size_setCell, World.size_drew, size_drewN] at hs4)
  have M4 := Lib.hid hM4
  have hg4 := hM4.2.1.lt
  clear hM4
  (try simp only [size_drewN, World.size_drew] at M4 hg4)
  go_wp2_with fail
  (with_reducible refine (C5.out _ _ _ M4.out).mono ?_)
  rintro e w5 ⟨rfl, hM5, hb5⟩
  have hs5 := hb5.size
  (try simp only [World.size_alloc, World.size_setCell, World.size_drew, size_drewN] at hs5)
  have M5 := Lib.hid hM5
  have hg5 := hM5.2.1.lt
  clear hM5
  (try simp only [size_drewN, World.size_drew] at M5 hg5)
  go_wp2_with fail
  (with_reducible refine (C8.out _).mono ?_)
  rintro e w6 ⟨rfl, hb6⟩
  have hs6 := hb6.size
  (try simp only [World.size_alloc, World.size_setCell, World.size_drew, size_drewN] at hs6)
  go_wp2_with fail
  (with_reducible refine (C6.out _ _ _ (M5.out.keep0 hb6)).mono ?_)
  rintro e w7 ⟨rfl, hb7⟩
  have hs7 := hb7.size
  (try simp only [World.size_alloc, World.size_setCell, World.size_drew, size_drewN] at hs7)
  go_wp2_with fail
  (with_reducible refine (C7.out _ _ _ ((M5.out.keep0 hb6).keep0 hb7)).mono ?_)
  rintro e w8 ⟨rfl, rfl⟩
  go_wp2_with fail
  go_ret
  exact ⟨rfl, by (repeat' (first | (with_reducible exact Kept.refl _ _) | (with_reducible assumption) | (with_reducible refine Kept.then_ (by with_reducible assumption) ?_) | (with_reducible refine Kept.thenS (by with_reducible assumption) ?_) | (with_reducible refine Kept.thenG (by with_reducible assumption) ?_ ?_) | (with_reducible refine Kept.thenG2 (by with_reducible assumption) ?_ ?_ ?_) | (with_reducible refine Kept.alloc ?_ _) | (with_reducible refine Kept.drew ?_) | (with_reducible refine Kept.drewN ?_ _) | (with_reducible refine Kept.setNew ?_ ?_ _) | ((try simp only [World.size_alloc, World.size_setCell, World.size_drew, size_drewN] at *); (try dsimp only); omega)))⟩
end Go.Proofs.Ythnfhenbkijihaa
