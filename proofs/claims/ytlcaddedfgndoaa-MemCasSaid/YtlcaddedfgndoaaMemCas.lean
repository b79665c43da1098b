/- Of two that want to put a word over the same one just the first does. No condition. -/
import Derived.Test.YtlcaddedfgndoaaMemH
set_option linter.unusedVariables false
set_option linter.unusedSimpArgs false
namespace Go.Proofs.Ytlcaddedfgndoaa.MemCas
open Go.RowKit Go.ChangeShapes Go.WideShapes Go.ChangeAt Go.Joins
def In64 (x : Int) : Prop := 0 ≤ x ∧ x ≤ 18446744073709551615
/-- The word at 16 is v. -/
def MS (w : World) (p g : Nat) (v : Int) : Prop := ∃ z, MemB w p g z ∧ z.length = 1024 ∧ ldV z 16 8 = v
theorem MS.keep0 {w w' : World} {p g : Nat} {v : Int} (h : MS w p g v) (hk : Kept [] w w') : MS w' p g v := by
  obtain ⟨z, h1, h2⟩ := h
  exact ⟨z, h1.keep0 hk, h2⟩
theorem MS.lt {w : World} {p g : Nat} {v : Int} (h : MS w p g v) : g < w.heap.size := by
  obtain ⟨z, h1, _⟩ := h
  exact h1.2.1.lt
theorem MS.stored {w : World} {p g : Nat} {z : List Int} {x : Int} (hx : In64 x) (hl : z.length = 1024) (h : MemB w p g (splice z 16 (bytesOf 8 x))) : MS w p g x :=
  ⟨_, h, by rw [length_splice _ _ _ (by simp; omega)]; exact hl, ldV_same z 16 8 x (by omega) hx.1 (by have := hx.2; omega)⟩
theorem new_k (w : World) : Calls Try.prog 10 #[.int .u64 1024] w fun e w' => e = .returned (.tuple #[.pointer (some ⟨w.heap.size + 1, 0, none⟩), .int .i64 0]) ∧ MemB w' (w.heap.size + 1) w.heap.size (zeros 1024) ∧ Kept [] w w' :=
  new_any w 1024 (by omega) (by omega) (by omega)
theorem st_new (w : World) (p g : Nat) (x : Int) (hx : In64 x) (h : MemB w p g (zeros 1024)) : Calls Try.prog 16 #[.pointer (some ⟨p, 0, none⟩), .int .u64 16, .int .i64 8, .int .u64 x] w fun e w' => e = .returned (.int .i64 0) ∧ MS w' p g x ∧ Kept [g] w w' :=
  (store_8 w p g _ h 16 x (by rw [length_zeros]; omega) hx.1 (by have := hx.2; omega)).mono fun e w' hh => ⟨hh.1, MS.stored hx (length_zeros _) hh.2.1, hh.2.2⟩
theorem st_k (w : World) (p g : Nat) (v x : Int) (hx : In64 x) (h : MS w p g v) : Calls Try.prog 16 #[.pointer (some ⟨p, 0, none⟩), .int .u64 16, .int .i64 8, .int .u64 x] w fun e w' => e = .returned (.int .i64 0) ∧ MS w' p g x ∧ Kept [g] w w' := by
  obtain ⟨z, h1, h2, h3⟩ := h
  exact (store_8 w p g _ h1 16 x (by omega) hx.1 (by have := hx.2; omega)).mono fun e w' hh => ⟨hh.1, MS.stored hx h2 hh.2.1, hh.2.2⟩
theorem cas_t (w : World) (p g : Nat) (v x : Int) (hx : In64 x) (h : MS w p g v) : Calls Try.prog 18 #[.pointer (some ⟨p, 0, none⟩), .int .u64 16, .int .u64 v, .int .u64 x] w fun e w' => e = .returned (.tuple #[.bool true, .int .i64 0]) ∧ MS w' p g x ∧ Kept [g] w w' := by
  obtain ⟨z, h1, h2, h3⟩ := h
  exact (cas_same w p g _ h1 16 v x (by omega) hx.1 (by have := hx.2; omega) h3).mono fun e w' hh => ⟨hh.1, MS.stored hx h2 hh.2.1, hh.2.2⟩
theorem cas_f (w : World) (p g : Nat) (v o x : Int) (hn : v ≠ o) (h : MS w p g v) : Calls Try.prog 18 #[.pointer (some ⟨p, 0, none⟩), .int .u64 16, .int .u64 o, .int .u64 x] w fun e w' => e = .returned (.tuple #[.bool false, .int .i64 0]) ∧ MS w' p g v ∧ Kept [] w w' := by
  obtain ⟨z, h1, h2, h3⟩ := h
  exact (cas_other w p g _ h1 16 o x (by omega) (by rw [h3]; exact hn)).mono fun e w' hh => ⟨hh.1, ⟨z, h1.keep0 hh.2, h2, h3⟩, hh.2⟩
theorem ld_k (w : World) (p g : Nat) (v : Int) (h : MS w p g v) : Calls Try.prog 17 #[.pointer (some ⟨p, 0, none⟩), .int .u64 16, .int .i64 8] w fun e w' => e = .returned (.tuple #[.int .u64 v, .int .i64 0]) ∧ Kept [] w w' := by
  obtain ⟨z, h1, h2, h3⟩ := h
  have := load_8 w p g z h1 16 (by omega)
  rw [h3] at this
  exact this
set_option maxRecDepth 100000 in
set_option maxHeartbeats 2000000 in
theorem walk_0 (old y : Int) (W : World) (b0 : In64 old) (b2 : In64 y) :
    Calls Try.prog 7 #[.agg #[.int .u64 old, .int .u64 old, .int .u64 y, .int .u64 old]] W fun e W' => e = .returned (.bool true) ∧ Below W.heap.size W W' := by
  go_enter Try.func7, Try.ntmps7
  go_wp2_with fail
  (with_reducible refine (alive_any _).mono ?_)
  rintro e w1 ⟨rfl, hb1⟩
  have hs1 := hb1.size
  (try simp only [World.size_alloc, World.size_setCell, World.size_drew, size_drewN] at hs1)
  have B0 : Blk w1 W.heap.size 50 #[.int .u64 old, .int .u64 old, .int .u64 y, .int .u64 old] := by ((with_reducible apply Blk.cast); (case h => (repeat' (first | (with_reducible assumption) | ((with_reducible apply Blk.keep0); (case hk => (with_reducible assumption))) | (with_reducible exact Blk.new _ _ _) | ((with_reducible apply Blk.new'); (case h => (first | (with_reducible rfl) | (simp only [World.size_alloc, World.size_setCell, World.size_drew, size_drewN]; done)))) | (with_reducible apply Blk.alloc) | (with_reducible apply Blk.set_) | ((with_reducible apply Blk.far); (case hp => (simp only []; omega))) | (with_reducible apply Blk.drew) | (with_reducible apply Blk.drewN)))); (case e => rfl))
  have B0_c := B0.cell
  have B0_f := B0.frozen
  have B0_z := B0.lt
  go_wp2_with fail
  go_quiet (fail)
  go_wp2_with fail
  (with_reducible refine (new_k _).mono ?_)
  rintro e w2 ⟨rfl, hM2, hb2⟩
  have hs2 := hb2.size
  (try simp only [World.size_alloc, World.size_setCell, World.size_drew, size_drewN] at hs2)
  have M2 := Lib.hid hM2
  have hg2 := hM2.2.1.lt
  clear hM2
  (try simp only [size_drewN, World.size_drew] at M2 hg2)
  go_wp2_with fail
  (with_reducible refine (st_new _ _ _ old b0 M2.out).mono ?_)
  rintro e w3 ⟨rfl, hS3, hb3⟩
  have hs3 := hb3.size
  (try simp only [World.size_alloc, World.size_setCell, World.size_drew, size_drewN] at hs3)
  have S3 := Lib.hid hS3
  have hg3 := hS3.lt
  clear hS3
  (try simp only [size_drewN, World.size_drew] at S3 hg3)
  clear M2
  go_wp2_with fail
  (with_reducible refine (cas_t _ _ _ _ _ b2 S3.out).mono ?_)
  rintro e w4 ⟨rfl, hS4, hb4⟩
  have hs4 := hb4.size
  (try simp only [World.size_alloc, World.size_setCell, World.size_drew, size_drewN] at hs4)
  have S4 := Lib.hid hS4
  have hg4 := hS4.lt
  clear hS4
  (try simp only [size_drewN, World.size_drew] at S4 hg4)
  go_wp2_with fail
  (with_reducible refine (st_k _ _ _ _ old b0 S4.out).mono ?_)
  rintro e w5 ⟨rfl, hS5, hb5⟩
  have hs5 := hb5.size
  (try simp only [World.size_alloc, World.size_setCell, World.size_drew, size_drewN] at hs5)
  have S5 := Lib.hid hS5
  have hg5 := hS5.lt
  clear hS5
  (try simp only [size_drewN, World.size_drew] at S5 hg5)
  go_wp2_with fail
  (with_reducible refine (cas_t _ _ _ _ _ b0 S5.out).mono ?_)
  rintro e w6 ⟨rfl, hS6, hb6⟩
  have hs6 := hb6.size
  (try simp only [World.size_alloc, World.size_setCell, World.size_drew, size_drewN] at hs6)
  have S6 := Lib.hid hS6
  have hg6 := hS6.lt
  clear hS6
  (try simp only [size_drewN, World.size_drew] at S6 hg6)
  go_wp2_with fail
  (with_reducible refine (cas_t _ _ _ _ _ b2 S6.out).mono ?_)
  rintro e w7 ⟨rfl, hS7, hb7⟩
  have hs7 := hb7.size
  (try simp only [World.size_alloc, World.size_setCell, World.size_drew, size_drewN] at hs7)
  have S7 := Lib.hid hS7
  have hg7 := hS7.lt
  clear hS7
  (try simp only [size_drewN, World.size_drew] at S7 hg7)
  go_wp2_with fail
  (with_reducible refine (ld_k _ _ _ _ S7.out).mono ?_)
  rintro e w8 ⟨rfl, hb8⟩
  have hs8 := hb8.size
  (try simp only [World.size_alloc, World.size_setCell, World.size_drew, size_drewN] at hs8)
  go_wp2_with fail
  go_ret
  exact ⟨rfl, Kept.below (by (repeat' (first | (with_reducible exact Kept.refl _ _) | (with_reducible assumption) | (with_reducible refine Kept.then_ (by with_reducible assumption) ?_) | (with_reducible refine Kept.thenS (by with_reducible assumption) ?_) | (with_reducible refine Kept.thenG (by with_reducible assumption) ?_ ?_) | (with_reducible refine Kept.alloc ?_ _) | (with_reducible refine Kept.drew ?_) | (with_reducible refine Kept.drewN ?_ _) | (with_reducible refine Kept.setNew ?_ ?_ _) | ((try simp only [World.size_alloc, World.size_setCell, World.size_drew, size_drewN] at *); (try dsimp only); omega))))⟩
set_option maxRecDepth 100000 in
set_option maxHeartbeats 2000000 in
theorem walk_1 (old x y : Int) (W : World) (b0 : In64 old) (b1 : In64 x) (b2 : In64 y) (n2 : x ≠ old) :
    Calls Try.prog 7 #[.agg #[.int .u64 old, .int .u64 x, .int .u64 y, .int .u64 old]] W fun e W' => e = .returned (.bool true) ∧ Below W.heap.size W W' := by
  have N2 := Lib.hid n2
  have e2 : (x == old) = false := by simp; omega
  clear n2
  go_enter Try.func7, Try.ntmps7
  go_wp2_with fail
  (with_reducible refine (alive_any _).mono ?_)
  rintro e w1 ⟨rfl, hb1⟩
  have hs1 := hb1.size
  (try simp only [World.size_alloc, World.size_setCell, World.size_drew, size_drewN] at hs1)
  have B0 : Blk w1 W.heap.size 50 #[.int .u64 old, .int .u64 x, .int .u64 y, .int .u64 old] := by ((with_reducible apply Blk.cast); (case h => (repeat' (first | (with_reducible assumption) | ((with_reducible apply Blk.keep0); (case hk => (with_reducible assumption))) | (with_reducible exact Blk.new _ _ _) | ((with_reducible apply Blk.new'); (case h => (first | (with_reducible rfl) | (simp only [World.size_alloc, World.size_setCell, World.size_drew, size_drewN]; done)))) | (with_reducible apply Blk.alloc) | (with_reducible apply Blk.set_) | ((with_reducible apply Blk.far); (case hp => (simp only []; omega))) | (with_reducible apply Blk.drew) | (with_reducible apply Blk.drewN)))); (case e => rfl))
  have B0_c := B0.cell
  have B0_f := B0.frozen
  have B0_z := B0.lt
  go_wp2_with fail
  go_quiet (fail)
  go_wp2_with fail
  (with_reducible refine (new_k _).mono ?_)
  rintro e w2 ⟨rfl, hM2, hb2⟩
  have hs2 := hb2.size
  (try simp only [World.size_alloc, World.size_setCell, World.size_drew, size_drewN] at hs2)
  have M2 := Lib.hid hM2
  have hg2 := hM2.2.1.lt
  clear hM2
  (try simp only [size_drewN, World.size_drew] at M2 hg2)
  go_wp2_with fail
  (with_reducible refine (st_new _ _ _ old b0 M2.out).mono ?_)
  rintro e w3 ⟨rfl, hS3, hb3⟩
  have hs3 := hb3.size
  (try simp only [World.size_alloc, World.size_setCell, World.size_drew, size_drewN] at hs3)
  have S3 := Lib.hid hS3
  have hg3 := hS3.lt
  clear hS3
  (try simp only [size_drewN, World.size_drew] at S3 hg3)
  clear M2
  go_wp2_with fail
  (with_reducible refine (cas_t _ _ _ _ _ b2 S3.out).mono ?_)
  rintro e w4 ⟨rfl, hS4, hb4⟩
  have hs4 := hb4.size
  (try simp only [World.size_alloc, World.size_setCell, World.size_drew, size_drewN] at hs4)
  have S4 := Lib.hid hS4
  have hg4 := hS4.lt
  clear hS4
  (try simp only [size_drewN, World.size_drew] at S4 hg4)
  go_wp2_with fail
  (with_reducible refine (st_k _ _ _ _ old b0 S4.out).mono ?_)
  rintro e w5 ⟨rfl, hS5, hb5⟩
  have hs5 := hb5.size
  (try simp only [World.size_alloc, World.size_setCell, World.size_drew, size_drewN] at hs5)
  have S5 := Lib.hid hS5
  have hg5 := hS5.lt
  clear hS5
  (try simp only [size_drewN, World.size_drew] at S5 hg5)
  go_wp2_with fail
  (with_reducible refine (cas_t _ _ _ _ _ b1 S5.out).mono ?_)
  rintro e w6 ⟨rfl, hS6, hb6⟩
  have hs6 := hb6.size
  (try simp only [World.size_alloc, World.size_setCell, World.size_drew, size_drewN] at hs6)
  have S6 := Lib.hid hS6
  have hg6 := hS6.lt
  clear hS6
  (try simp only [size_drewN, World.size_drew] at S6 hg6)
  go_wp2_with fail
  (with_reducible refine (cas_f _ _ _ _ _ _ N2.out S6.out).mono ?_)
  rintro e w7 ⟨rfl, hS7, hb7⟩
  have hs7 := hb7.size
  (try simp only [World.size_alloc, World.size_setCell, World.size_drew, size_drewN] at hs7)
  have S7 := Lib.hid hS7
  have hg7 := hS7.lt
  clear hS7
  (try simp only [size_drewN, World.size_drew] at S7 hg7)
  go_wp2_with fail
  (with_reducible refine (ld_k _ _ _ _ S7.out).mono ?_)
  rintro e w8 ⟨rfl, hb8⟩
  have hs8 := hb8.size
  (try simp only [World.size_alloc, World.size_setCell, World.size_drew, size_drewN] at hs8)
  go_wp2_with fail
  go_ret
  exact ⟨rfl, Kept.below (by (repeat' (first | (with_reducible exact Kept.refl _ _) | (with_reducible assumption) | (with_reducible refine Kept.then_ (by with_reducible assumption) ?_) | (with_reducible refine Kept.thenS (by with_reducible assumption) ?_) | (with_reducible refine Kept.thenG (by with_reducible assumption) ?_ ?_) | (with_reducible refine Kept.alloc ?_ _) | (with_reducible refine Kept.drew ?_) | (with_reducible refine Kept.drewN ?_ _) | (with_reducible refine Kept.setNew ?_ ?_ _) | ((try simp only [World.size_alloc, World.size_setCell, World.size_drew, size_drewN] at *); (try dsimp only); omega))))⟩
set_option maxRecDepth 100000 in
set_option maxHeartbeats 2000000 in
theorem walk_2 (old y other : Int) (W : World) (b0 : In64 old) (b2 : In64 y) (n1 : old ≠ other) :
    Calls Try.prog 7 #[.agg #[.int .u64 old, .int .u64 old, .int .u64 y, .int .u64 other]] W fun e W' => e = .returned (.bool true) ∧ Below W.heap.size W W' := by
  have N1 := Lib.hid n1
  have e1 : (other == old) = false := by simp; omega
  clear n1
  go_enter Try.func7, Try.ntmps7
  go_wp2_with fail
  (with_reducible refine (alive_any _).mono ?_)
  rintro e w1 ⟨rfl, hb1⟩
  have hs1 := hb1.size
  (try simp only [World.size_alloc, World.size_setCell, World.size_drew, size_drewN] at hs1)
  have B0 : Blk w1 W.heap.size 50 #[.int .u64 old, .int .u64 old, .int .u64 y, .int .u64 other] := by ((with_reducible apply Blk.cast); (case h => (repeat' (first | (with_reducible assumption) | ((with_reducible apply Blk.keep0); (case hk => (with_reducible assumption))) | (with_reducible exact Blk.new _ _ _) | ((with_reducible apply Blk.new'); (case h => (first | (with_reducible rfl) | (simp only [World.size_alloc, World.size_setCell, World.size_drew, size_drewN]; done)))) | (with_reducible apply Blk.alloc) | (with_reducible apply Blk.set_) | ((with_reducible apply Blk.far); (case hp => (simp only []; omega))) | (with_reducible apply Blk.drew) | (with_reducible apply Blk.drewN)))); (case e => rfl))
  have B0_c := B0.cell
  have B0_f := B0.frozen
  have B0_z := B0.lt
  go_wp2_with fail
  go_quiet (fail)
  go_wp2_with fail
  (with_reducible refine (new_k _).mono ?_)
  rintro e w2 ⟨rfl, hM2, hb2⟩
  have hs2 := hb2.size
  (try simp only [World.size_alloc, World.size_setCell, World.size_drew, size_drewN] at hs2)
  have M2 := Lib.hid hM2
  have hg2 := hM2.2.1.lt
  clear hM2
  (try simp only [size_drewN, World.size_drew] at M2 hg2)
  go_wp2_with fail
  (with_reducible refine (st_new _ _ _ old b0 M2.out).mono ?_)
  rintro e w3 ⟨rfl, hS3, hb3⟩
  have hs3 := hb3.size
  (try simp only [World.size_alloc, World.size_setCell, World.size_drew, size_drewN] at hs3)
  have S3 := Lib.hid hS3
  have hg3 := hS3.lt
  clear hS3
  (try simp only [size_drewN, World.size_drew] at S3 hg3)
  clear M2
  go_wp2_with fail
  (with_reducible refine (cas_f _ _ _ _ _ _ N1.out S3.out).mono ?_)
  rintro e w4 ⟨rfl, hS4, hb4⟩
  have hs4 := hb4.size
  (try simp only [World.size_alloc, World.size_setCell, World.size_drew, size_drewN] at hs4)
  have S4 := Lib.hid hS4
  have hg4 := hS4.lt
  clear hS4
  (try simp only [size_drewN, World.size_drew] at S4 hg4)
  go_wp2_with fail
  (with_reducible refine (cas_t _ _ _ _ _ b0 S4.out).mono ?_)
  rintro e w5 ⟨rfl, hS5, hb5⟩
  have hs5 := hb5.size
  (try simp only [World.size_alloc, World.size_setCell, World.size_drew, size_drewN] at hs5)
  have S5 := Lib.hid hS5
  have hg5 := hS5.lt
  clear hS5
  (try simp only [size_drewN, World.size_drew] at S5 hg5)
  go_wp2_with fail
  (with_reducible refine (cas_t _ _ _ _ _ b2 S5.out).mono ?_)
  rintro e w6 ⟨rfl, hS6, hb6⟩
  have hs6 := hb6.size
  (try simp only [World.size_alloc, World.size_setCell, World.size_drew, size_drewN] at hs6)
  have S6 := Lib.hid hS6
  have hg6 := hS6.lt
  clear hS6
  (try simp only [size_drewN, World.size_drew] at S6 hg6)
  go_wp2_with fail
  (with_reducible refine (ld_k _ _ _ _ S6.out).mono ?_)
  rintro e w7 ⟨rfl, hb7⟩
  have hs7 := hb7.size
  (try simp only [World.size_alloc, World.size_setCell, World.size_drew, size_drewN] at hs7)
  go_wp2_with fail
  go_ret
  exact ⟨rfl, Kept.below (by (repeat' (first | (with_reducible exact Kept.refl _ _) | (with_reducible assumption) | (with_reducible refine Kept.then_ (by with_reducible assumption) ?_) | (with_reducible refine Kept.thenS (by with_reducible assumption) ?_) | (with_reducible refine Kept.thenG (by with_reducible assumption) ?_ ?_) | (with_reducible refine Kept.alloc ?_ _) | (with_reducible refine Kept.drew ?_) | (with_reducible refine Kept.drewN ?_ _) | (with_reducible refine Kept.setNew ?_ ?_ _) | ((try simp only [World.size_alloc, World.size_setCell, World.size_drew, size_drewN] at *); (try dsimp only); omega))))⟩
set_option maxRecDepth 100000 in
set_option maxHeartbeats 2000000 in
theorem walk_3 (old x y other : Int) (W : World) (b0 : In64 old) (b1 : In64 x) (b2 : In64 y) (n1 : old ≠ other) (n2 : x ≠ old) :
    Calls Try.prog 7 #[.agg #[.int .u64 old, .int .u64 x, .int .u64 y, .int .u64 other]] W fun e W' => e = .returned (.bool true) ∧ Below W.heap.size W W' := by
  have N1 := Lib.hid n1
  have e1 : (other == old) = false := by simp; omega
  clear n1
  have N2 := Lib.hid n2
  have e2 : (x == old) = false := by simp; omega
  clear n2
  go_enter Try.func7, Try.ntmps7
  go_wp2_with fail
  (with_reducible refine (alive_any _).mono ?_)
  rintro e w1 ⟨rfl, hb1⟩
  have hs1 := hb1.size
  (try simp only [World.size_alloc, World.size_setCell, World.size_drew, size_drewN] at hs1)
  have B0 : Blk w1 W.heap.size 50 #[.int .u64 old, .int .u64 x, .int .u64 y, .int .u64 other] := by ((with_reducible apply Blk.cast); (case h => (repeat' (first | (with_reducible assumption) | ((with_reducible apply Blk.keep0); (case hk => (with_reducible assumption))) | (with_reducible exact Blk.new _ _ _) | ((with_reducible apply Blk.new'); (case h => (first | (with_reducible rfl) | (simp only [World.size_alloc, World.size_setCell, World.size_drew, size_drewN]; done)))) | (with_reducible apply Blk.alloc) | (with_reducible apply Blk.set_) | ((with_reducible apply Blk.far); (case hp => (simp only []; omega))) | (with_reducible apply Blk.drew) | (with_reducible apply Blk.drewN)))); (case e => rfl))
  have B0_c := B0.cell
  have B0_f := B0.frozen
  have B0_z := B0.lt
  go_wp2_with fail
  go_quiet (fail)
  go_wp2_with fail
  (with_reducible refine (new_k _).mono ?_)
  rintro e w2 ⟨rfl, hM2, hb2⟩
  have hs2 := hb2.size
  (try simp only [World.size_alloc, World.size_setCell, World.size_drew, size_drewN] at hs2)
  have M2 := Lib.hid hM2
  have hg2 := hM2.2.1.lt
  clear hM2
  (try simp only [size_drewN, World.size_drew] at M2 hg2)
  go_wp2_with fail
  (with_reducible refine (st_new _ _ _ old b0 M2.out).mono ?_)
  rintro e w3 ⟨rfl, hS3, hb3⟩
  have hs3 := hb3.size
  (try simp only [World.size_alloc, World.size_setCell, World.size_drew, size_drewN] at hs3)
  have S3 := Lib.hid hS3
  have hg3 := hS3.lt
  clear hS3
  (try simp only [size_drewN, World.size_drew] at S3 hg3)
  clear M2
  go_wp2_with fail
  (with_reducible refine (cas_f _ _ _ _ _ _ N1.out S3.out).mono ?_)
  rintro e w4 ⟨rfl, hS4, hb4⟩
  have hs4 := hb4.size
  (try simp only [World.size_alloc, World.size_setCell, World.size_drew, size_drewN] at hs4)
  have S4 := Lib.hid hS4
  have hg4 := hS4.lt
  clear hS4
  (try simp only [size_drewN, World.size_drew] at S4 hg4)
  go_wp2_with fail
  (with_reducible refine (cas_t _ _ _ _ _ b1 S4.out).mono ?_)
  rintro e w5 ⟨rfl, hS5, hb5⟩
  have hs5 := hb5.size
  (try simp only [World.size_alloc, World.size_setCell, World.size_drew, size_drewN] at hs5)
  have S5 := Lib.hid hS5
  have hg5 := hS5.lt
  clear hS5
  (try simp only [size_drewN, World.size_drew] at S5 hg5)
  go_wp2_with fail
  (with_reducible refine (cas_f _ _ _ _ _ _ N2.out S5.out).mono ?_)
  rintro e w6 ⟨rfl, hS6, hb6⟩
  have hs6 := hb6.size
  (try simp only [World.size_alloc, World.size_setCell, World.size_drew, size_drewN] at hs6)
  have S6 := Lib.hid hS6
  have hg6 := hS6.lt
  clear hS6
  (try simp only [size_drewN, World.size_drew] at S6 hg6)
  go_wp2_with fail
  (with_reducible refine (ld_k _ _ _ _ S6.out).mono ?_)
  rintro e w7 ⟨rfl, hb7⟩
  have hs7 := hb7.size
  (try simp only [World.size_alloc, World.size_setCell, World.size_drew, size_drewN] at hs7)
  go_wp2_with fail
  go_ret
  exact ⟨rfl, Kept.below (by (repeat' (first | (with_reducible exact Kept.refl _ _) | (with_reducible assumption) | (with_reducible refine Kept.then_ (by with_reducible assumption) ?_) | (with_reducible refine Kept.thenS (by with_reducible assumption) ?_) | (with_reducible refine Kept.thenG (by with_reducible assumption) ?_ ?_) | (with_reducible refine Kept.alloc ?_ _) | (with_reducible refine Kept.drew ?_) | (with_reducible refine Kept.drewN ?_ _) | (with_reducible refine Kept.setNew ?_ ?_ _) | ((try simp only [World.size_alloc, World.size_setCell, World.size_drew, size_drewN] at *); (try dsimp only); omega))))⟩
theorem walk (a0_0 a0_1 a0_2 a0_3 : Int) (W : World) (w0_0 : (Lit.int .u64 a0_0).wf = true) (w0_1 : (Lit.int .u64 a0_1).wf = true) (w0_2 : (Lit.int .u64 a0_2).wf = true) (w0_3 : (Lit.int .u64 a0_3).wf = true) :
    Calls Try.prog 7 #[.agg #[.int .u64 a0_0, .int .u64 a0_1, .int .u64 a0_2, .int .u64 a0_3]] W fun e W' => e = .returned (.bool true) ∧ Below W.heap.size W W' := by
  have b0 : In64 a0_0 := bounds_u64 w0_0
  have b1 : In64 a0_1 := bounds_u64 w0_1
  have b2 : In64 a0_2 := bounds_u64 w0_2
  by_cases h1 : a0_0 = a0_3
  · subst h1
    by_cases h2 : a0_1 = a0_0
    · subst h2; exact walk_0 _ _ W b0 b2
    · exact walk_1 _ _ _ W b0 b1 b2 h2
  · by_cases h2 : a0_1 = a0_0
    · subst h2; exact walk_2 _ _ _ W b0 b2 h1
    · exact walk_3 _ _ _ _ W b0 b1 b2 h1 h2
theorem own : ownKnob Try.prog.godebug = none := by kernel_rfl
theorem laidOut : laidOutB Try.prog = true := by kernel_rfl
set_option maxRecDepth 100000 in
theorem lifted (os : Os) (started : os.Started) (H : Type) (enc : TypeId × Value → H) :
    ReturnsInHanded {} Try.checked os 7 .any (Rows.memCasSpec.pre6 enc Try.prog Try.f7 Rows.memCasRow.domain false) (Rows.memCasSpec.post enc Try.prog Try.f7 false true false false) := by
  refine returnsInHanded_of_change (C := Try.checked) own started (by kernel_rfl) Try.func7
    (ChangeSpec.witness6 (enc := enc) (C := Try.checked) false ⟨#[], #[.agg #[.int .u64 0, .int .u64 0, .int .u64 0, .int .u64 0]], []⟩ 8 (by kernel_rfl) (by kernel_rfl) (by kernel_rfl) (by kernel_rfl)) ?_
  intro W base args ds gs before hval0 hW hcnd _
  have hval : ∀ (j : Nat) t v, Try.f7.params[j]? = some t → args[j]? = some v → Value.okWide Try.prog W .any base t v := hval0
  have hW' := hW
  obtain ⟨p, q, hA0, hV, rfl, hfz, hnd⟩ := hW
  have hA : DataW.TrodAll enc Try.prog W 0 (fun _ => true) true Try.f7.params.toList args.toList ds p := hA0
  rw [Try.params7] at hA hval
  obtain ⟨v0, vs0, d0, ds0, p0, q0, hargs, rfl, rfl, h0, r0⟩ := trodAll_cons hA
  obtain ⟨rfl, rfl, rfl⟩ := trodAll_nil r0
  obtain rfl : args = #[v0] := by cases args; simp_all
  obtain ⟨rfl, rfl⟩ := trodVars_none hV
  have k0 := h0
  have lt0 : ∀ x ∈ p0, x.block < W.heap.size := by obtain ⟨m, hm⟩ := k0; exact DataW.trod_lt m _ _ _ hm
  obtain ⟨c0_0, c0_1, c0_2, c0_3, y0_0, y0_1, y0_2, y0_3, n0, rfl, rfl, rfl, t0_0, t0_1, t0_2, t0_3⟩ := open_agg4 Try.underlying50 (by kernel_rfl) (by kernel_rfl) (hval 0 50 v0 rfl rfl) h0
  obtain ⟨a0_0, e0_0, _, w0_0⟩ := DataW.trod_int Try.underlying28 t0_0
  simp only [List.cons.injEq, and_true] at e0_0
  subst e0_0
  obtain ⟨a0_1, e0_1, _, w0_1⟩ := DataW.trod_int Try.underlying28 t0_1
  simp only [List.cons.injEq, and_true] at e0_1
  subst e0_1
  obtain ⟨a0_2, e0_2, _, w0_2⟩ := DataW.trod_int Try.underlying28 t0_2
  simp only [List.cons.injEq, and_true] at e0_2
  subst e0_2
  obtain ⟨a0_3, e0_3, _, w0_3⟩ := DataW.trod_int Try.underlying28 t0_3
  simp only [List.cons.injEq, and_true] at e0_3
  subst e0_3
  clear hA0 hval0
  refine (walk a0_0 a0_1 a0_2 a0_3 W w0_0 w0_1 w0_2 w0_3).mono fun e W' ⟨he, bel⟩ => ?_
  subst he
  exact ⟨_, rfl, _, _, _, [], _, [], hW', trodAll_mk1 (shut_bool Try.underlying4 _), (trodAll_cons_mk (Below.trod laidOut (by kernel_rfl) (of_decide_eq_true (by kernel_rfl)) k0 bel lt0) trodAll_mk0), rfl, bel.frame _, fun h => by cases h⟩
theorem over : Rows.memCasRow.holds Try.pinned (OpenSpec.ofChange Rows.memCasSpec) :=
  OpenClaim.holds_of_wide 7 Try.f7 rfl rfl rfl rfl rfl rfl rfl ⟨rfl, rfl, rfl, rfl, rfl⟩ rfl rfl rfl rfl rfl (by kernel_rfl) Try.func7 (by kernel_rfl)
    (of_decide_eq_true (by kernel_rfl)) (by unfold Func.isWrapper; first | (rw [if_pos (by decide +kernel)]; kernel_rfl) | (rw [if_neg (by decide +kernel)]; exact ⟨rfl, rfl⟩))
    (fun os started H enc _ => lifted os started H enc)
theorem proved : Rows.MemCasSaid := over
#print axioms proved
end Go.Proofs.Ytlcaddedfgndoaa.MemCas
