/- An address's place is it, and the other way round; one more byte is one more, or the next slice, or segment. No condition. -/
import Derived.Test.YtfmgeidlbekfpaaGeoRef
set_option linter.unusedVariables false
set_option linter.unusedSimpArgs false
namespace Go.Proofs.Ytfmgeidlbekfpaa.GeoBack
open Go.RowKit Go.ChangeShapes Go.WideShapes Go.ChangeAt Go.Joins
theorem addr_place (a : Int) (h0 : 0 ≤ a) (h : a < 1048576) (w : World) : Calls Try.prog 13 #[.agg #[.int .i64 (a / 16384), .int .i64 (a / 1024 % 16), .int .u64 (a % 1024)]] w fun e w' => e = .returned (.tuple #[.int .u64 a, .int .i64 0]) ∧ Kept [] w w' := by
  have c := addr_any (a / 16384) (a / 1024 % 16) (a % 1024) (by omega) w
  have hp : addrP (a / 16384) (a / 1024 % 16) (a % 1024) := by unfold addrP; omega
  rw [show addrV (a / 16384) (a / 1024 % 16) (a % 1024) = a by unfold addrV; rw [if_pos hp]; omega, show addrE (a / 16384) (a / 1024 % 16) (a % 1024) = 0 by unfold addrE; rw [if_pos hp]] at c
  exact c
theorem addr_in (s l o : Int) (hs : 0 ≤ s ∧ s < 64) (hl : 0 ≤ l ∧ l < 16) (ho : 0 ≤ o ∧ o < 1024) (w : World) : Calls Try.prog 13 #[.agg #[.int .i64 s, .int .i64 l, .int .u64 o]] w fun e w' => e = .returned (.tuple #[.int .u64 (s * 16384 + l * 1024 + o), .int .i64 0]) ∧ Kept [] w w' := by
  have c := addr_any s l o (by omega) w
  have hp : addrP s l o := by unfold addrP; omega
  rw [show addrV s l o = s * 16384 + l * 1024 + o by unfold addrV; rw [if_pos hp], show addrE s l o = 0 by unfold addrE; rw [if_pos hp]] at c
  exact c
theorem at_place (s l o : Int) (hs : 0 ≤ s ∧ s < 64) (hl : 0 ≤ l ∧ l < 16) (ho : 0 ≤ o ∧ o < 1024) (w : World) : Calls Try.prog 11 #[.int .u64 (s * 16384 + l * 1024 + o)] w fun e w' => e = .returned (.tuple #[.agg #[.int .i64 s, .int .i64 l, .int .u64 o], .int .i64 0]) ∧ Kept [] w w' := by
  have c := at_lo (s * 16384 + l * 1024 + o) (by omega) (by omega) w
  rw [show (s * 16384 + l * 1024 + o) / 16384 = s by omega, show (s * 16384 + l * 1024 + o) / 1024 % 16 = l by omega, show (s * 16384 + l * 1024 + o) % 1024 = o by omega] at c
  exact c
theorem at_next1 (a : Int) (h0 : 0 ≤ a) (h : a + 1 < 1048576) (h1 : a % 1024 < 1023) (w : World) : Calls Try.prog 11 #[.int .u64 (a + 1)] w fun e w' => e = .returned (.tuple #[.agg #[.int .i64 (a / 16384), .int .i64 (a / 1024 % 16), .int .u64 (a % 1024 + 1)], .int .i64 0]) ∧ Kept [] w w' := by
  have c := at_lo (a + 1) (by omega) (by omega) w
  rw [show (a + 1) / 16384 = a / 16384 by omega, show (a + 1) / 1024 % 16 = a / 1024 % 16 by omega, show (a + 1) % 1024 = a % 1024 + 1 by omega] at c
  exact c
theorem at_next2 (a : Int) (h0 : 0 ≤ a) (h : a + 1 < 1048576) (h1 : ¬ a % 1024 < 1023) (h2 : a / 1024 % 16 < 15) (w : World) : Calls Try.prog 11 #[.int .u64 (a + 1)] w fun e w' => e = .returned (.tuple #[.agg #[.int .i64 (a / 16384), .int .i64 (a / 1024 % 16 + 1), .int .u64 0], .int .i64 0]) ∧ Kept [] w w' := by
  have c := at_lo (a + 1) (by omega) (by omega) w
  rw [show (a + 1) / 16384 = a / 16384 by omega, show (a + 1) / 1024 % 16 = a / 1024 % 16 + 1 by omega, show (a + 1) % 1024 = 0 by omega] at c
  exact c
theorem at_next3 (a : Int) (h0 : 0 ≤ a) (h : a + 1 < 1048576) (h1 : ¬ a % 1024 < 1023) (h2 : ¬ a / 1024 % 16 < 15) (w : World) : Calls Try.prog 11 #[.int .u64 (a + 1)] w fun e w' => e = .returned (.tuple #[.agg #[.int .i64 (a / 16384 + 1), .int .i64 0, .int .u64 0], .int .i64 0]) ∧ Kept [] w w' := by
  have c := at_lo (a + 1) (by omega) (by omega) w
  rw [show (a + 1) / 16384 = a / 16384 + 1 by omega, show (a + 1) / 1024 % 16 = 0 by omega, show (a + 1) % 1024 = 0 by omega] at c
  exact c
set_option maxHeartbeats 1000000 in
theorem walk0 (a0_0 a0_1 a0_2 a0_3 : Int) (W : World) (h0 : 0 ≤ a0_0 ∧ a0_0 ≤ 4294967295) (h1 : 0 ≤ a0_1 ∧ a0_1 ≤ 255) (h2 : 0 ≤ a0_2 ∧ a0_2 ≤ 255) (h3 : 0 ≤ a0_3 ∧ a0_3 ≤ 65535) (g : 1048576 ≤ a0_0 % 1048576 + 1) :
    Calls Try.prog 4 #[.agg #[.int .u32 a0_0, .int .u8 a0_1, .int .u8 a0_2, .int .u16 a0_3]] W fun e w' => e = .returned (.bool true) ∧ Below W.heap.size W w' := by
  go_enter Try.func4, Try.ntmps4
  go_wp2_with fail
  (with_reducible refine (alive_any _).mono ?_)
  rintro e w1 ⟨rfl, hb1⟩
  have hs1 := hb1.size
  (try simp only [World.size_alloc, World.size_setCell, World.size_drew, size_drewN] at hs1)
  have B0 : Blk w1 W.heap.size 39 #[.int .u32 a0_0, .int .u8 a0_1, .int .u8 a0_2, .int .u16 a0_3] := by (repeat' (first | (with_reducible assumption) | (with_reducible refine Blk.keep0 ?_ (by with_reducible assumption)) | (with_reducible refine Blk.new' _ _ _ ?_) | (with_reducible refine Blk.alloc ?_ _) | (with_reducible refine Blk.set' (by with_reducible assumption) ?_) | (with_reducible refine Blk.far ?_ (by simp only []; omega) _) | (with_reducible refine Blk.drew ?_) | (with_reducible refine Blk.drewN ?_ _) | (with_reducible rfl) | (simp only [World.size_alloc, World.size_setCell, World.size_drew, size_drewN]; done)))
  have B0_c := B0.cell
  have B0_f := B0.frozen
  have B0_z := B0.lt
  go_wp2_with fail
  go_quiet (fail)
  go_wp2_with fail
  have hA : 0 ≤ a0_0 % 1048576 ∧ a0_0 % 1048576 < 1048576 := by omega
  generalize a0_0 % 1048576 = A at *
  go_wp2_with fail
  (with_reducible refine (at_lo _ (by omega) (by omega) _).mono ?_)
  rintro e w2 ⟨rfl, hb2⟩
  have hs2 := hb2.size
  (try simp only [World.size_alloc, World.size_setCell, World.size_drew, size_drewN] at hs2)
  go_wp2_with fail
  (with_reducible refine (addr_place A (by omega) (by omega) _).mono ?_)
  rintro e w3 ⟨rfl, hb3⟩
  have hs3 := hb3.size
  (try simp only [World.size_alloc, World.size_setCell, World.size_drew, size_drewN] at hs3)
  have Bp : Blk w3 w2.heap.size 26 #[.int .i64 (A / 16384), .int .i64 (A / 1024 % 16), .int .u64 (A % 1024)] := by (repeat' (first | (with_reducible assumption) | (with_reducible refine Blk.keep0 ?_ (by with_reducible assumption)) | (with_reducible refine Blk.new' _ _ _ ?_) | (with_reducible refine Blk.alloc ?_ _) | (with_reducible refine Blk.set' (by with_reducible assumption) ?_) | (with_reducible refine Blk.far ?_ (by simp only []; omega) _) | (with_reducible refine Blk.drew ?_) | (with_reducible refine Blk.drewN ?_ _) | (with_reducible rfl) | (simp only [World.size_alloc, World.size_setCell, World.size_drew, size_drewN]; done)))
  have Bp_c := Bp.cell
  have Bp_f := Bp.frozen
  have Bp_z := Bp.lt
  go_wp2_with fail
  (with_reducible refine (addr_in _ _ _ (by omega) (by omega) (by omega) _).mono ?_)
  rintro e w4 ⟨rfl, hb4⟩
  have hs4 := hb4.size
  (try simp only [World.size_alloc, World.size_setCell, World.size_drew, size_drewN] at hs4)
  clear Bp_c Bp_f Bp_z
  replace Bp : Blk w4 w2.heap.size 26 #[.int .i64 (A / 16384), .int .i64 (A / 1024 % 16), .int .u64 (A % 1024)] := by (repeat' (first | (with_reducible assumption) | (with_reducible refine Blk.keep0 ?_ (by with_reducible assumption)) | (with_reducible refine Blk.new' _ _ _ ?_) | (with_reducible refine Blk.alloc ?_ _) | (with_reducible refine Blk.set' (by with_reducible assumption) ?_) | (with_reducible refine Blk.far ?_ (by simp only []; omega) _) | (with_reducible refine Blk.drew ?_) | (with_reducible refine Blk.drewN ?_ _) | (with_reducible rfl) | (simp only [World.size_alloc, World.size_setCell, World.size_drew, size_drewN]; done)))
  have Bp_c := Bp.cell
  have Bp_f := Bp.frozen
  have Bp_z := Bp.lt
  have Bo : Blk w4 w3.heap.size 26 #[.int .i64 (a0_1 % 64), .int .i64 (a0_2 % 16), .int .u64 (a0_3 % 1024)] := by (repeat' (first | (with_reducible assumption) | (with_reducible refine Blk.keep0 ?_ (by with_reducible assumption)) | (with_reducible refine Blk.new' _ _ _ ?_) | (with_reducible refine Blk.alloc ?_ _) | (with_reducible refine Blk.set' (by with_reducible assumption) ?_) | (with_reducible refine Blk.far ?_ (by simp only []; omega) _) | (with_reducible refine Blk.drew ?_) | (with_reducible refine Blk.drewN ?_ _) | (with_reducible rfl) | (simp only [World.size_alloc, World.size_setCell, World.size_drew, size_drewN]; done)))
  have Bo_c := Bo.cell
  have Bo_f := Bo.frozen
  have Bo_z := Bo.lt
  go_wp2_with fail
  (with_reducible refine (at_place _ _ _ (by omega) (by omega) (by omega) _).mono ?_)
  rintro e w5 ⟨rfl, hb5⟩
  have hs5 := hb5.size
  (try simp only [World.size_alloc, World.size_setCell, World.size_drew, size_drewN] at hs5)
  clear Bp_c Bp_f Bp_z
  replace Bp : Blk w5 w2.heap.size 26 #[.int .i64 (A / 16384), .int .i64 (A / 1024 % 16), .int .u64 (A % 1024)] := by (repeat' (first | (with_reducible assumption) | (with_reducible refine Blk.keep0 ?_ (by with_reducible assumption)) | (with_reducible refine Blk.new' _ _ _ ?_) | (with_reducible refine Blk.alloc ?_ _) | (with_reducible refine Blk.set' (by with_reducible assumption) ?_) | (with_reducible refine Blk.far ?_ (by simp only []; omega) _) | (with_reducible refine Blk.drew ?_) | (with_reducible refine Blk.drewN ?_ _) | (with_reducible rfl) | (simp only [World.size_alloc, World.size_setCell, World.size_drew, size_drewN]; done)))
  have Bp_c := Bp.cell
  have Bp_f := Bp.frozen
  have Bp_z := Bp.lt
  clear Bo_c Bo_f Bo_z
  replace Bo : Blk w5 w3.heap.size 26 #[.int .i64 (a0_1 % 64), .int .i64 (a0_2 % 16), .int .u64 (a0_3 % 1024)] := by (repeat' (first | (with_reducible assumption) | (with_reducible refine Blk.keep0 ?_ (by with_reducible assumption)) | (with_reducible refine Blk.new' _ _ _ ?_) | (with_reducible refine Blk.alloc ?_ _) | (with_reducible refine Blk.set' (by with_reducible assumption) ?_) | (with_reducible refine Blk.far ?_ (by simp only []; omega) _) | (with_reducible refine Blk.drew ?_) | (with_reducible refine Blk.drewN ?_ _) | (with_reducible rfl) | (simp only [World.size_alloc, World.size_setCell, World.size_drew, size_drewN]; done)))
  have Bo_c := Bo.cell
  have Bo_f := Bo.frozen
  have Bo_z := Bo.lt
  go_wp2_with fail
  (with_reducible refine (at_hi _ (by omega) _).mono ?_)
  rintro e w6 ⟨rfl, hb6⟩
  have hs6 := hb6.size
  (try simp only [World.size_alloc, World.size_setCell, World.size_drew, size_drewN] at hs6)
  clear Bp_c Bp_f Bp_z
  replace Bp : Blk w6 w2.heap.size 26 #[.int .i64 (A / 16384), .int .i64 (A / 1024 % 16), .int .u64 (A % 1024)] := by (repeat' (first | (with_reducible assumption) | (with_reducible refine Blk.keep0 ?_ (by with_reducible assumption)) | (with_reducible refine Blk.new' _ _ _ ?_) | (with_reducible refine Blk.alloc ?_ _) | (with_reducible refine Blk.set' (by with_reducible assumption) ?_) | (with_reducible refine Blk.far ?_ (by simp only []; omega) _) | (with_reducible refine Blk.drew ?_) | (with_reducible refine Blk.drewN ?_ _) | (with_reducible rfl) | (simp only [World.size_alloc, World.size_setCell, World.size_drew, size_drewN]; done)))
  have Bp_c := Bp.cell
  have Bp_f := Bp.frozen
  have Bp_z := Bp.lt
  go_wp2_with fail
  go_ret
  exact ⟨rfl, Kept.below (by (repeat' (first | (with_reducible exact Kept.refl _ _) | (with_reducible assumption) | (with_reducible refine Kept.then_ (by with_reducible assumption) ?_) | (with_reducible refine Kept.thenS (by with_reducible assumption) ?_) | (with_reducible refine Kept.alloc ?_ _) | (with_reducible refine Kept.drew ?_) | (with_reducible refine Kept.drewN ?_ _) | (with_reducible refine Kept.setNew ?_ ?_ _) | ((try simp only [World.size_alloc, World.size_setCell, World.size_drew, size_drewN] at *); (try dsimp only); omega))))⟩
set_option maxHeartbeats 1000000 in
theorem walk1 (a0_0 a0_1 a0_2 a0_3 : Int) (W : World) (h0 : 0 ≤ a0_0 ∧ a0_0 ≤ 4294967295) (h1 : 0 ≤ a0_1 ∧ a0_1 ≤ 255) (h2 : 0 ≤ a0_2 ∧ a0_2 ≤ 255) (h3 : 0 ≤ a0_3 ∧ a0_3 ≤ 65535) (g : a0_0 % 1048576 + 1 < 1048576) (g1 : a0_0 % 1048576 % 1024 < 1023) :
    Calls Try.prog 4 #[.agg #[.int .u32 a0_0, .int .u8 a0_1, .int .u8 a0_2, .int .u16 a0_3]] W fun e w' => e = .returned (.bool true) ∧ Below W.heap.size W w' := by
  go_enter Try.func4, Try.ntmps4
  go_wp2_with fail
  (with_reducible refine (alive_any _).mono ?_)
  rintro e w1 ⟨rfl, hb1⟩
  have hs1 := hb1.size
  (try simp only [World.size_alloc, World.size_setCell, World.size_drew, size_drewN] at hs1)
  have B0 : Blk w1 W.heap.size 39 #[.int .u32 a0_0, .int .u8 a0_1, .int .u8 a0_2, .int .u16 a0_3] := by (repeat' (first | (with_reducible assumption) | (with_reducible refine Blk.keep0 ?_ (by with_reducible assumption)) | (with_reducible refine Blk.new' _ _ _ ?_) | (with_reducible refine Blk.alloc ?_ _) | (with_reducible refine Blk.set' (by with_reducible assumption) ?_) | (with_reducible refine Blk.far ?_ (by simp only []; omega) _) | (with_reducible refine Blk.drew ?_) | (with_reducible refine Blk.drewN ?_ _) | (with_reducible rfl) | (simp only [World.size_alloc, World.size_setCell, World.size_drew, size_drewN]; done)))
  have B0_c := B0.cell
  have B0_f := B0.frozen
  have B0_z := B0.lt
  go_wp2_with fail
  go_quiet (fail)
  go_wp2_with fail
  have hA : 0 ≤ a0_0 % 1048576 ∧ a0_0 % 1048576 < 1048576 := by omega
  generalize a0_0 % 1048576 = A at *
  go_wp2_with fail
  (with_reducible refine (at_lo _ (by omega) (by omega) _).mono ?_)
  rintro e w2 ⟨rfl, hb2⟩
  have hs2 := hb2.size
  (try simp only [World.size_alloc, World.size_setCell, World.size_drew, size_drewN] at hs2)
  go_wp2_with fail
  (with_reducible refine (addr_place A (by omega) (by omega) _).mono ?_)
  rintro e w3 ⟨rfl, hb3⟩
  have hs3 := hb3.size
  (try simp only [World.size_alloc, World.size_setCell, World.size_drew, size_drewN] at hs3)
  have Bp : Blk w3 w2.heap.size 26 #[.int .i64 (A / 16384), .int .i64 (A / 1024 % 16), .int .u64 (A % 1024)] := by (repeat' (first | (with_reducible assumption) | (with_reducible refine Blk.keep0 ?_ (by with_reducible assumption)) | (with_reducible refine Blk.new' _ _ _ ?_) | (with_reducible refine Blk.alloc ?_ _) | (with_reducible refine Blk.set' (by with_reducible assumption) ?_) | (with_reducible refine Blk.far ?_ (by simp only []; omega) _) | (with_reducible refine Blk.drew ?_) | (with_reducible refine Blk.drewN ?_ _) | (with_reducible rfl) | (simp only [World.size_alloc, World.size_setCell, World.size_drew, size_drewN]; done)))
  have Bp_c := Bp.cell
  have Bp_f := Bp.frozen
  have Bp_z := Bp.lt
  go_wp2_with fail
  (with_reducible refine (addr_in _ _ _ (by omega) (by omega) (by omega) _).mono ?_)
  rintro e w4 ⟨rfl, hb4⟩
  have hs4 := hb4.size
  (try simp only [World.size_alloc, World.size_setCell, World.size_drew, size_drewN] at hs4)
  clear Bp_c Bp_f Bp_z
  replace Bp : Blk w4 w2.heap.size 26 #[.int .i64 (A / 16384), .int .i64 (A / 1024 % 16), .int .u64 (A % 1024)] := by (repeat' (first | (with_reducible assumption) | (with_reducible refine Blk.keep0 ?_ (by with_reducible assumption)) | (with_reducible refine Blk.new' _ _ _ ?_) | (with_reducible refine Blk.alloc ?_ _) | (with_reducible refine Blk.set' (by with_reducible assumption) ?_) | (with_reducible refine Blk.far ?_ (by simp only []; omega) _) | (with_reducible refine Blk.drew ?_) | (with_reducible refine Blk.drewN ?_ _) | (with_reducible rfl) | (simp only [World.size_alloc, World.size_setCell, World.size_drew, size_drewN]; done)))
  have Bp_c := Bp.cell
  have Bp_f := Bp.frozen
  have Bp_z := Bp.lt
  have Bo : Blk w4 w3.heap.size 26 #[.int .i64 (a0_1 % 64), .int .i64 (a0_2 % 16), .int .u64 (a0_3 % 1024)] := by (repeat' (first | (with_reducible assumption) | (with_reducible refine Blk.keep0 ?_ (by with_reducible assumption)) | (with_reducible refine Blk.new' _ _ _ ?_) | (with_reducible refine Blk.alloc ?_ _) | (with_reducible refine Blk.set' (by with_reducible assumption) ?_) | (with_reducible refine Blk.far ?_ (by simp only []; omega) _) | (with_reducible refine Blk.drew ?_) | (with_reducible refine Blk.drewN ?_ _) | (with_reducible rfl) | (simp only [World.size_alloc, World.size_setCell, World.size_drew, size_drewN]; done)))
  have Bo_c := Bo.cell
  have Bo_f := Bo.frozen
  have Bo_z := Bo.lt
  go_wp2_with fail
  (with_reducible refine (at_place _ _ _ (by omega) (by omega) (by omega) _).mono ?_)
  rintro e w5 ⟨rfl, hb5⟩
  have hs5 := hb5.size
  (try simp only [World.size_alloc, World.size_setCell, World.size_drew, size_drewN] at hs5)
  clear Bp_c Bp_f Bp_z
  replace Bp : Blk w5 w2.heap.size 26 #[.int .i64 (A / 16384), .int .i64 (A / 1024 % 16), .int .u64 (A % 1024)] := by (repeat' (first | (with_reducible assumption) | (with_reducible refine Blk.keep0 ?_ (by with_reducible assumption)) | (with_reducible refine Blk.new' _ _ _ ?_) | (with_reducible refine Blk.alloc ?_ _) | (with_reducible refine Blk.set' (by with_reducible assumption) ?_) | (with_reducible refine Blk.far ?_ (by simp only []; omega) _) | (with_reducible refine Blk.drew ?_) | (with_reducible refine Blk.drewN ?_ _) | (with_reducible rfl) | (simp only [World.size_alloc, World.size_setCell, World.size_drew, size_drewN]; done)))
  have Bp_c := Bp.cell
  have Bp_f := Bp.frozen
  have Bp_z := Bp.lt
  clear Bo_c Bo_f Bo_z
  replace Bo : Blk w5 w3.heap.size 26 #[.int .i64 (a0_1 % 64), .int .i64 (a0_2 % 16), .int .u64 (a0_3 % 1024)] := by (repeat' (first | (with_reducible assumption) | (with_reducible refine Blk.keep0 ?_ (by with_reducible assumption)) | (with_reducible refine Blk.new' _ _ _ ?_) | (with_reducible refine Blk.alloc ?_ _) | (with_reducible refine Blk.set' (by with_reducible assumption) ?_) | (with_reducible refine Blk.far ?_ (by simp only []; omega) _) | (with_reducible refine Blk.drew ?_) | (with_reducible refine Blk.drewN ?_ _) | (with_reducible rfl) | (simp only [World.size_alloc, World.size_setCell, World.size_drew, size_drewN]; done)))
  have Bo_c := Bo.cell
  have Bo_f := Bo.frozen
  have Bo_z := Bo.lt
  go_wp2_with fail
  (with_reducible refine (at_next1 _ (by omega) (by omega) (by omega) _).mono ?_)
  rintro e w6 ⟨rfl, hb6⟩
  have hs6 := hb6.size
  (try simp only [World.size_alloc, World.size_setCell, World.size_drew, size_drewN] at hs6)
  clear Bp_c Bp_f Bp_z
  replace Bp : Blk w6 w2.heap.size 26 #[.int .i64 (A / 16384), .int .i64 (A / 1024 % 16), .int .u64 (A % 1024)] := by (repeat' (first | (with_reducible assumption) | (with_reducible refine Blk.keep0 ?_ (by with_reducible assumption)) | (with_reducible refine Blk.new' _ _ _ ?_) | (with_reducible refine Blk.alloc ?_ _) | (with_reducible refine Blk.set' (by with_reducible assumption) ?_) | (with_reducible refine Blk.far ?_ (by simp only []; omega) _) | (with_reducible refine Blk.drew ?_) | (with_reducible refine Blk.drewN ?_ _) | (with_reducible rfl) | (simp only [World.size_alloc, World.size_setCell, World.size_drew, size_drewN]; done)))
  have Bp_c := Bp.cell
  have Bp_f := Bp.frozen
  have Bp_z := Bp.lt
  go_wp2_with fail
  go_ret
  exact ⟨rfl, Kept.below (by (repeat' (first | (with_reducible exact Kept.refl _ _) | (with_reducible assumption) | (with_reducible refine Kept.then_ (by with_reducible assumption) ?_) | (with_reducible refine Kept.thenS (by with_reducible assumption) ?_) | (with_reducible refine Kept.alloc ?_ _) | (with_reducible refine Kept.drew ?_) | (with_reducible refine Kept.drewN ?_ _) | (with_reducible refine Kept.setNew ?_ ?_ _) | ((try simp only [World.size_alloc, World.size_setCell, World.size_drew, size_drewN] at *); (try dsimp only); omega))))⟩
set_option maxHeartbeats 1000000 in
theorem walk2 (a0_0 a0_1 a0_2 a0_3 : Int) (W : World) (h0 : 0 ≤ a0_0 ∧ a0_0 ≤ 4294967295) (h1 : 0 ≤ a0_1 ∧ a0_1 ≤ 255) (h2 : 0 ≤ a0_2 ∧ a0_2 ≤ 255) (h3 : 0 ≤ a0_3 ∧ a0_3 ≤ 65535) (g : a0_0 % 1048576 + 1 < 1048576) (g1 : ¬ a0_0 % 1048576 % 1024 < 1023) (g2 : a0_0 % 1048576 / 1024 % 16 < 15) :
    Calls Try.prog 4 #[.agg #[.int .u32 a0_0, .int .u8 a0_1, .int .u8 a0_2, .int .u16 a0_3]] W fun e w' => e = .returned (.bool true) ∧ Below W.heap.size W w' := by
  go_enter Try.func4, Try.ntmps4
  go_wp2_with fail
  (with_reducible refine (alive_any _).mono ?_)
  rintro e w1 ⟨rfl, hb1⟩
  have hs1 := hb1.size
  (try simp only [World.size_alloc, World.size_setCell, World.size_drew, size_drewN] at hs1)
  have B0 : Blk w1 W.heap.size 39 #[.int .u32 a0_0, .int .u8 a0_1, .int .u8 a0_2, .int .u16 a0_3] := by (repeat' (first | (with_reducible assumption) | (with_reducible refine Blk.keep0 ?_ (by with_reducible assumption)) | (with_reducible refine Blk.new' _ _ _ ?_) | (with_reducible refine Blk.alloc ?_ _) | (with_reducible refine Blk.set' (by with_reducible assumption) ?_) | (with_reducible refine Blk.far ?_ (by simp only []; omega) _) | (with_reducible refine Blk.drew ?_) | (with_reducible refine Blk.drewN ?_ _) | (with_reducible rfl) | (simp only [World.size_alloc, World.size_setCell, World.size_drew, size_drewN]; done)))
  have B0_c := B0.cell
  have B0_f := B0.frozen
  have B0_z := B0.lt
  go_wp2_with fail
  go_quiet (fail)
  go_wp2_with fail
  have hA : 0 ≤ a0_0 % 1048576 ∧ a0_0 % 1048576 < 1048576 := by omega
  generalize a0_0 % 1048576 = A at *
  go_wp2_with fail
  (with_reducible refine (at_lo _ (by omega) (by omega) _).mono ?_)
  rintro e w2 ⟨rfl, hb2⟩
  have hs2 := hb2.size
  (try simp only [World.size_alloc, World.size_setCell, World.size_drew, size_drewN] at hs2)
  go_wp2_with fail
  (with_reducible refine (addr_place A (by omega) (by omega) _).mono ?_)
  rintro e w3 ⟨rfl, hb3⟩
  have hs3 := hb3.size
  (try simp only [World.size_alloc, World.size_setCell, World.size_drew, size_drewN] at hs3)
  have Bp : Blk w3 w2.heap.size 26 #[.int .i64 (A / 16384), .int .i64 (A / 1024 % 16), .int .u64 (A % 1024)] := by (repeat' (first | (with_reducible assumption) | (with_reducible refine Blk.keep0 ?_ (by with_reducible assumption)) | (with_reducible refine Blk.new' _ _ _ ?_) | (with_reducible refine Blk.alloc ?_ _) | (with_reducible refine Blk.set' (by with_reducible assumption) ?_) | (with_reducible refine Blk.far ?_ (by simp only []; omega) _) | (with_reducible refine Blk.drew ?_) | (with_reducible refine Blk.drewN ?_ _) | (with_reducible rfl) | (simp only [World.size_alloc, World.size_setCell, World.size_drew, size_drewN]; done)))
  have Bp_c := Bp.cell
  have Bp_f := Bp.frozen
  have Bp_z := Bp.lt
  go_wp2_with fail
  (with_reducible refine (addr_in _ _ _ (by omega) (by omega) (by omega) _).mono ?_)
  rintro e w4 ⟨rfl, hb4⟩
  have hs4 := hb4.size
  (try simp only [World.size_alloc, World.size_setCell, World.size_drew, size_drewN] at hs4)
  clear Bp_c Bp_f Bp_z
  replace Bp : Blk w4 w2.heap.size 26 #[.int .i64 (A / 16384), .int .i64 (A / 1024 % 16), .int .u64 (A % 1024)] := by (repeat' (first | (with_reducible assumption) | (with_reducible refine Blk.keep0 ?_ (by with_reducible assumption)) | (with_reducible refine Blk.new' _ _ _ ?_) | (with_reducible refine Blk.alloc ?_ _) | (with_reducible refine Blk.set' (by with_reducible assumption) ?_) | (with_reducible refine Blk.far ?_ (by simp only []; omega) _) | (with_reducible refine Blk.drew ?_) | (with_reducible refine Blk.drewN ?_ _) | (with_reducible rfl) | (simp only [World.size_alloc, World.size_setCell, World.size_drew, size_drewN]; done)))
  have Bp_c := Bp.cell
  have Bp_f := Bp.frozen
  have Bp_z := Bp.lt
  have Bo : Blk w4 w3.heap.size 26 #[.int .i64 (a0_1 % 64), .int .i64 (a0_2 % 16), .int .u64 (a0_3 % 1024)] := by (repeat' (first | (with_reducible assumption) | (with_reducible refine Blk.keep0 ?_ (by with_reducible assumption)) | (with_reducible refine Blk.new' _ _ _ ?_) | (with_reducible refine Blk.alloc ?_ _) | (with_reducible refine Blk.set' (by with_reducible assumption) ?_) | (with_reducible refine Blk.far ?_ (by simp only []; omega) _) | (with_reducible refine Blk.drew ?_) | (with_reducible refine Blk.drewN ?_ _) | (with_reducible rfl) | (simp only [World.size_alloc, World.size_setCell, World.size_drew, size_drewN]; done)))
  have Bo_c := Bo.cell
  have Bo_f := Bo.frozen
  have Bo_z := Bo.lt
  go_wp2_with fail
  (with_reducible refine (at_place _ _ _ (by omega) (by omega) (by omega) _).mono ?_)
  rintro e w5 ⟨rfl, hb5⟩
  have hs5 := hb5.size
  (try simp only [World.size_alloc, World.size_setCell, World.size_drew, size_drewN] at hs5)
  clear Bp_c Bp_f Bp_z
  replace Bp : Blk w5 w2.heap.size 26 #[.int .i64 (A / 16384), .int .i64 (A / 1024 % 16), .int .u64 (A % 1024)] := by (repeat' (first | (with_reducible assumption) | (with_reducible refine Blk.keep0 ?_ (by with_reducible assumption)) | (with_reducible refine Blk.new' _ _ _ ?_) | (with_reducible refine Blk.alloc ?_ _) | (with_reducible refine Blk.set' (by with_reducible assumption) ?_) | (with_reducible refine Blk.far ?_ (by simp only []; omega) _) | (with_reducible refine Blk.drew ?_) | (with_reducible refine Blk.drewN ?_ _) | (with_reducible rfl) | (simp only [World.size_alloc, World.size_setCell, World.size_drew, size_drewN]; done)))
  have Bp_c := Bp.cell
  have Bp_f := Bp.frozen
  have Bp_z := Bp.lt
  clear Bo_c Bo_f Bo_z
  replace Bo : Blk w5 w3.heap.size 26 #[.int .i64 (a0_1 % 64), .int .i64 (a0_2 % 16), .int .u64 (a0_3 % 1024)] := by (repeat' (first | (with_reducible assumption) | (with_reducible refine Blk.keep0 ?_ (by with_reducible assumption)) | (with_reducible refine Blk.new' _ _ _ ?_) | (with_reducible refine Blk.alloc ?_ _) | (with_reducible refine Blk.set' (by with_reducible assumption) ?_) | (with_reducible refine Blk.far ?_ (by simp only []; omega) _) | (with_reducible refine Blk.drew ?_) | (with_reducible refine Blk.drewN ?_ _) | (with_reducible rfl) | (simp only [World.size_alloc, World.size_setCell, World.size_drew, size_drewN]; done)))
  have Bo_c := Bo.cell
  have Bo_f := Bo.frozen
  have Bo_z := Bo.lt
  go_wp2_with fail
  (with_reducible refine (at_next2 _ (by omega) (by omega) (by omega) (by omega) _).mono ?_)
  rintro e w6 ⟨rfl, hb6⟩
  have hs6 := hb6.size
  (try simp only [World.size_alloc, World.size_setCell, World.size_drew, size_drewN] at hs6)
  clear Bp_c Bp_f Bp_z
  replace Bp : Blk w6 w2.heap.size 26 #[.int .i64 (A / 16384), .int .i64 (A / 1024 % 16), .int .u64 (A % 1024)] := by (repeat' (first | (with_reducible assumption) | (with_reducible refine Blk.keep0 ?_ (by with_reducible assumption)) | (with_reducible refine Blk.new' _ _ _ ?_) | (with_reducible refine Blk.alloc ?_ _) | (with_reducible refine Blk.set' (by with_reducible assumption) ?_) | (with_reducible refine Blk.far ?_ (by simp only []; omega) _) | (with_reducible refine Blk.drew ?_) | (with_reducible refine Blk.drewN ?_ _) | (with_reducible rfl) | (simp only [World.size_alloc, World.size_setCell, World.size_drew, size_drewN]; done)))
  have Bp_c := Bp.cell
  have Bp_f := Bp.frozen
  have Bp_z := Bp.lt
  go_wp2_with fail
  go_ret
  exact ⟨rfl, Kept.below (by (repeat' (first | (with_reducible exact Kept.refl _ _) | (with_reducible assumption) | (with_reducible refine Kept.then_ (by with_reducible assumption) ?_) | (with_reducible refine Kept.thenS (by with_reducible assumption) ?_) | (with_reducible refine Kept.alloc ?_ _) | (with_reducible refine Kept.drew ?_) | (with_reducible refine Kept.drewN ?_ _) | (with_reducible refine Kept.setNew ?_ ?_ _) | ((try simp only [World.size_alloc, World.size_setCell, World.size_drew, size_drewN] at *); (try dsimp only); omega))))⟩
set_option maxHeartbeats 1000000 in
theorem walk3 (a0_0 a0_1 a0_2 a0_3 : Int) (W : World) (h0 : 0 ≤ a0_0 ∧ a0_0 ≤ 4294967295) (h1 : 0 ≤ a0_1 ∧ a0_1 ≤ 255) (h2 : 0 ≤ a0_2 ∧ a0_2 ≤ 255) (h3 : 0 ≤ a0_3 ∧ a0_3 ≤ 65535) (g : a0_0 % 1048576 + 1 < 1048576) (g1 : ¬ a0_0 % 1048576 % 1024 < 1023) (g2 : ¬ a0_0 % 1048576 / 1024 % 16 < 15) :
    Calls Try.prog 4 #[.agg #[.int .u32 a0_0, .int .u8 a0_1, .int .u8 a0_2, .int .u16 a0_3]] W fun e w' => e = .returned (.bool true) ∧ Below W.heap.size W w' := by
  go_enter Try.func4, Try.ntmps4
  go_wp2_with fail
  (with_reducible refine (alive_any _).mono ?_)
  rintro e w1 ⟨rfl, hb1⟩
  have hs1 := hb1.size
  (try simp only [World.size_alloc, World.size_setCell, World.size_drew, size_drewN] at hs1)
  have B0 : Blk w1 W.heap.size 39 #[.int .u32 a0_0, .int .u8 a0_1, .int .u8 a0_2, .int .u16 a0_3] := by (repeat' (first | (with_reducible assumption) | (with_reducible refine Blk.keep0 ?_ (by with_reducible assumption)) | (with_reducible refine Blk.new' _ _ _ ?_) | (with_reducible refine Blk.alloc ?_ _) | (with_reducible refine Blk.set' (by with_reducible assumption) ?_) | (with_reducible refine Blk.far ?_ (by simp only []; omega) _) | (with_reducible refine Blk.drew ?_) | (with_reducible refine Blk.drewN ?_ _) | (with_reducible rfl) | (simp only [World.size_alloc, World.size_setCell, World.size_drew, size_drewN]; done)))
  have B0_c := B0.cell
  have B0_f := B0.frozen
  have B0_z := B0.lt
  go_wp2_with fail
  go_quiet (fail)
  go_wp2_with fail
  have hA : 0 ≤ a0_0 % 1048576 ∧ a0_0 % 1048576 < 1048576 := by omega
  generalize a0_0 % 1048576 = A at *
  go_wp2_with fail
  (with_reducible refine (at_lo _ (by omega) (by omega) _).mono ?_)
  rintro e w2 ⟨rfl, hb2⟩
  have hs2 := hb2.size
  (try simp only [World.size_alloc, World.size_setCell, World.size_drew, size_drewN] at hs2)
  go_wp2_with fail
  (with_reducible refine (addr_place A (by omega) (by omega) _).mono ?_)
  rintro e w3 ⟨rfl, hb3⟩
  have hs3 := hb3.size
  (try simp only [World.size_alloc, World.size_setCell, World.size_drew, size_drewN] at hs3)
  have Bp : Blk w3 w2.heap.size 26 #[.int .i64 (A / 16384), .int .i64 (A / 1024 % 16), .int .u64 (A % 1024)] := by (repeat' (first | (with_reducible assumption) | (with_reducible refine Blk.keep0 ?_ (by with_reducible assumption)) | (with_reducible refine Blk.new' _ _ _ ?_) | (with_reducible refine Blk.alloc ?_ _) | (with_reducible refine Blk.set' (by with_reducible assumption) ?_) | (with_reducible refine Blk.far ?_ (by simp only []; omega) _) | (with_reducible refine Blk.drew ?_) | (with_reducible refine Blk.drewN ?_ _) | (with_reducible rfl) | (simp only [World.size_alloc, World.size_setCell, World.size_drew, size_drewN]; done)))
  have Bp_c := Bp.cell
  have Bp_f := Bp.frozen
  have Bp_z := Bp.lt
  go_wp2_with fail
  (with_reducible refine (addr_in _ _ _ (by omega) (by omega) (by omega) _).mono ?_)
  rintro e w4 ⟨rfl, hb4⟩
  have hs4 := hb4.size
  (try simp only [World.size_alloc, World.size_setCell, World.size_drew, size_drewN] at hs4)
  clear Bp_c Bp_f Bp_z
  replace Bp : Blk w4 w2.heap.size 26 #[.int .i64 (A / 16384), .int .i64 (A / 1024 % 16), .int .u64 (A % 1024)] := by (repeat' (first | (with_reducible assumption) | (with_reducible refine Blk.keep0 ?_ (by with_reducible assumption)) | (with_reducible refine Blk.new' _ _ _ ?_) | (with_reducible refine Blk.alloc ?_ _) | (with_reducible refine Blk.set' (by with_reducible assumption) ?_) | (with_reducible refine Blk.far ?_ (by simp only []; omega) _) | (with_reducible refine Blk.drew ?_) | (with_reducible refine Blk.drewN ?_ _) | (with_reducible rfl) | (simp only [World.size_alloc, World.size_setCell, World.size_drew, size_drewN]; done)))
  have Bp_c := Bp.cell
  have Bp_f := Bp.frozen
  have Bp_z := Bp.lt
  have Bo : Blk w4 w3.heap.size 26 #[.int .i64 (a0_1 % 64), .int .i64 (a0_2 % 16), .int .u64 (a0_3 % 1024)] := by (repeat' (first | (with_reducible assumption) | (with_reducible refine Blk.keep0 ?_ (by with_reducible assumption)) | (with_reducible refine Blk.new' _ _ _ ?_) | (with_reducible refine Blk.alloc ?_ _) | (with_reducible refine Blk.set' (by with_reducible assumption) ?_) | (with_reducible refine Blk.far ?_ (by simp only []; omega) _) | (with_reducible refine Blk.drew ?_) | (with_reducible refine Blk.drewN ?_ _) | (with_reducible rfl) | (simp only [World.size_alloc, World.size_setCell, World.size_drew, size_drewN]; done)))
  have Bo_c := Bo.cell
  have Bo_f := Bo.frozen
  have Bo_z := Bo.lt
  go_wp2_with fail
  (with_reducible refine (at_place _ _ _ (by omega) (by omega) (by omega) _).mono ?_)
  rintro e w5 ⟨rfl, hb5⟩
  have hs5 := hb5.size
  (try simp only [World.size_alloc, World.size_setCell, World.size_drew, size_drewN] at hs5)
  clear Bp_c Bp_f Bp_z
  replace Bp : Blk w5 w2.heap.size 26 #[.int .i64 (A / 16384), .int .i64 (A / 1024 % 16), .int .u64 (A % 1024)] := by (repeat' (first | (with_reducible assumption) | (with_reducible refine Blk.keep0 ?_ (by with_reducible assumption)) | (with_reducible refine Blk.new' _ _ _ ?_) | (with_reducible refine Blk.alloc ?_ _) | (with_reducible refine Blk.set' (by with_reducible assumption) ?_) | (with_reducible refine Blk.far ?_ (by simp only []; omega) _) | (with_reducible refine Blk.drew ?_) | (with_reducible refine Blk.drewN ?_ _) | (with_reducible rfl) | (simp only [World.size_alloc, World.size_setCell, World.size_drew, size_drewN]; done)))
  have Bp_c := Bp.cell
  have Bp_f := Bp.frozen
  have Bp_z := Bp.lt
  clear Bo_c Bo_f Bo_z
  replace Bo : Blk w5 w3.heap.size 26 #[.int .i64 (a0_1 % 64), .int .i64 (a0_2 % 16), .int .u64 (a0_3 % 1024)] := by (repeat' (first | (with_reducible assumption) | (with_reducible refine Blk.keep0 ?_ (by with_reducible assumption)) | (with_reducible refine Blk.new' _ _ _ ?_) | (with_reducible refine Blk.alloc ?_ _) | (with_reducible refine Blk.set' (by with_reducible assumption) ?_) | (with_reducible refine Blk.far ?_ (by simp only []; omega) _) | (with_reducible refine Blk.drew ?_) | (with_reducible refine Blk.drewN ?_ _) | (with_reducible rfl) | (simp only [World.size_alloc, World.size_setCell, World.size_drew, size_drewN]; done)))
  have Bo_c := Bo.cell
  have Bo_f := Bo.frozen
  have Bo_z := Bo.lt
  go_wp2_with fail
  (with_reducible refine (at_next3 _ (by omega) (by omega) (by omega) (by omega) _).mono ?_)
  rintro e w6 ⟨rfl, hb6⟩
  have hs6 := hb6.size
  (try simp only [World.size_alloc, World.size_setCell, World.size_drew, size_drewN] at hs6)
  clear Bp_c Bp_f Bp_z
  replace Bp : Blk w6 w2.heap.size 26 #[.int .i64 (A / 16384), .int .i64 (A / 1024 % 16), .int .u64 (A % 1024)] := by (repeat' (first | (with_reducible assumption) | (with_reducible refine Blk.keep0 ?_ (by with_reducible assumption)) | (with_reducible refine Blk.new' _ _ _ ?_) | (with_reducible refine Blk.alloc ?_ _) | (with_reducible refine Blk.set' (by with_reducible assumption) ?_) | (with_reducible refine Blk.far ?_ (by simp only []; omega) _) | (with_reducible refine Blk.drew ?_) | (with_reducible refine Blk.drewN ?_ _) | (with_reducible rfl) | (simp only [World.size_alloc, World.size_setCell, World.size_drew, size_drewN]; done)))
  have Bp_c := Bp.cell
  have Bp_f := Bp.frozen
  have Bp_z := Bp.lt
  go_wp2_with fail
  go_ret
  exact ⟨rfl, Kept.below (by (repeat' (first | (with_reducible exact Kept.refl _ _) | (with_reducible assumption) | (with_reducible refine Kept.then_ (by with_reducible assumption) ?_) | (with_reducible refine Kept.thenS (by with_reducible assumption) ?_) | (with_reducible refine Kept.alloc ?_ _) | (with_reducible refine Kept.drew ?_) | (with_reducible refine Kept.drewN ?_ _) | (with_reducible refine Kept.setNew ?_ ?_ _) | ((try simp only [World.size_alloc, World.size_setCell, World.size_drew, size_drewN] at *); (try dsimp only); omega))))⟩
theorem walk (a0_0 a0_1 a0_2 a0_3 : Int) (W : World) (w0 : (Lit.int .u32 a0_0).wf = true) (w1 : (Lit.int .u8 a0_1).wf = true) (w2 : (Lit.int .u8 a0_2).wf = true) (w3 : (Lit.int .u16 a0_3).wf = true) :
    Calls Try.prog 4 #[.agg #[.int .u32 a0_0, .int .u8 a0_1, .int .u8 a0_2, .int .u16 a0_3]] W fun e w' => e = .returned (.bool true) ∧ Below W.heap.size W w' := by
  by_cases g : 1048576 ≤ a0_0 % 1048576 + 1
  · exact walk0 _ _ _ _ _ (bounds_u32 w0) (bounds_u8 w1) (bounds_u8 w2) (bounds_u16 w3) g
  · by_cases g1 : a0_0 % 1048576 % 1024 < 1023
    · exact walk1 _ _ _ _ _ (bounds_u32 w0) (bounds_u8 w1) (bounds_u8 w2) (bounds_u16 w3) (by omega) g1
    · by_cases g2 : a0_0 % 1048576 / 1024 % 16 < 15
      · exact walk2 _ _ _ _ _ (bounds_u32 w0) (bounds_u8 w1) (bounds_u8 w2) (bounds_u16 w3) (by omega) g1 g2
      · exact walk3 _ _ _ _ _ (bounds_u32 w0) (bounds_u8 w1) (bounds_u8 w2) (bounds_u16 w3) (by omega) g1 g2
theorem own : ownKnob Try.prog.godebug = none := by kernel_rfl
theorem laidOut : laidOutB Try.prog = true := by kernel_rfl
set_option maxRecDepth 100000 in
theorem lifted (os : Os) (started : os.Started) (H : Type) (enc : TypeId × Value → H) :
    ReturnsInHanded {} Try.checked os 4 .any (Rows.geoBackSpec.pre6 enc Try.prog Try.f4 Rows.geoBackRow.domain false) (Rows.geoBackSpec.post enc Try.prog Try.f4 false true false false) := by
  refine returnsInHanded_of_change (C := Try.checked) own started (by kernel_rfl) Try.func4
    (ChangeSpec.witness6 (enc := enc) (C := Try.checked) false ⟨#[], #[.agg #[.int .u32 0, .int .u8 0, .int .u8 0, .int .u16 0]], []⟩ 8 (by kernel_rfl) (by kernel_rfl) (by kernel_rfl) (by kernel_rfl)) ?_
  intro W base args ds gs before hval0 hW hcnd _
  have hval : ∀ (j : Nat) t v, Try.f4.params[j]? = some t → args[j]? = some v → Value.okWide Try.prog W .any base t v := hval0
  have hW' := hW
  obtain ⟨p, q, hA0, hV, rfl, hfz, hnd⟩ := hW
  have hA : DataW.TrodAll enc Try.prog W 0 (fun _ => true) true Try.f4.params.toList args.toList ds p := hA0
  rw [Try.params4] at hA hval
  obtain ⟨v0, vs0, d0, ds0, p0, q0, hargs, rfl, rfl, h0, r0⟩ := trodAll_cons hA
  obtain ⟨rfl, rfl, rfl⟩ := trodAll_nil r0
  obtain rfl : args = #[v0] := by cases args; simp_all
  obtain ⟨rfl, rfl⟩ := trodVars_none hV
  have k0 := h0
  have lt0 : ∀ x ∈ p0, x.block < W.heap.size := by obtain ⟨m, hm⟩ := k0; exact DataW.trod_lt m _ _ _ hm
  obtain ⟨c0_0, c0_1, c0_2, c0_3, y0_0, y0_1, y0_2, y0_3, n0, rfl, rfl, rfl, t0_0, t0_1, t0_2, t0_3⟩ := open_agg4 Try.underlying39 (by kernel_rfl) (by kernel_rfl) (hval 0 39 v0 rfl rfl) h0
  obtain ⟨a0_0, e0_0, _, w0_0⟩ := DataW.trod_int Try.underlying36 t0_0
  simp only [List.cons.injEq, and_true] at e0_0
  subst e0_0
  obtain ⟨a0_1, e0_1, _, w0_1⟩ := DataW.trod_int Try.underlying5 t0_1
  simp only [List.cons.injEq, and_true] at e0_1
  subst e0_1
  obtain ⟨a0_2, e0_2, _, w0_2⟩ := DataW.trod_int Try.underlying5 t0_2
  simp only [List.cons.injEq, and_true] at e0_2
  subst e0_2
  obtain ⟨a0_3, e0_3, _, w0_3⟩ := DataW.trod_int Try.underlying37 t0_3
  simp only [List.cons.injEq, and_true] at e0_3
  subst e0_3
  clear hA0 hval0
  refine (walk a0_0 a0_1 a0_2 a0_3 W w0_0 w0_1 w0_2 w0_3).mono fun e W' ⟨he, bel⟩ => ?_
  subst he
  exact ⟨_, rfl, _, _, _, [], _, [], hW', trodAll_mk1 (shut_bool Try.underlying4 _), (trodAll_cons_mk (Below.trod laidOut (by kernel_rfl) (of_decide_eq_true (by kernel_rfl)) k0 bel lt0) trodAll_mk0), rfl, bel.frame _, fun h => by cases h⟩
theorem over : Rows.geoBackRow.holds Try.pinned (OpenSpec.ofChange Rows.geoBackSpec) :=
  OpenClaim.holds_of_wide 4 Try.f4 rfl rfl rfl rfl rfl rfl rfl ⟨rfl, rfl, rfl, rfl, rfl⟩ rfl rfl rfl rfl rfl (by kernel_rfl) Try.func4 (by kernel_rfl)
    (of_decide_eq_true (by kernel_rfl)) (by unfold Func.isWrapper; first | (rw [if_pos (by decide +kernel)]; kernel_rfl) | (rw [if_neg (by decide +kernel)]; exact ⟨rfl, rfl⟩))
    (fun os started H enc _ => lifted os started H enc)
theorem proved : Rows.GeoBackSaid := over
#print axioms proved
end Go.Proofs.Ytfmgeidlbekfpaa.GeoBack
