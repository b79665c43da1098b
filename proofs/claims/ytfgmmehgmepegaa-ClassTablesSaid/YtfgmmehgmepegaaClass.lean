/- The classes' sizes, pages, blocks; the plan of any size and alignment. -/
import Derived.Test.YtfgmmehgmepegaaOnes
set_option linter.unusedVariables false
set_option linter.unusedSimpArgs false
namespace Go.Proofs.Ytfgmmehgmepegaa
open Go.RowKit
def szL : List Int := [16, 32, 48, 64, 96, 128, 192, 256, 384, 512, 768, 1024]
def sz (k : Nat) : Int := szL[k]?.getD 0
def szA : Array Value := #[.int .u64 16, .int .u64 32, .int .u64 48, .int .u64 64, .int .u64 96, .int .u64 128, .int .u64 192, .int .u64 256, .int .u64 384, .int .u64 512, .int .u64 768, .int .u64 1024]
theorem szA_at (k : Nat) (h : k < 12) : szA[k]? = some (.int .u64 (sz k)) := by
  have : ∀ k : Nat, k < 12 → k = 0 ∨ k = 1 ∨ k = 2 ∨ k = 3 ∨ k = 4 ∨ k = 5 ∨ k = 6 ∨ k = 7 ∨ k = 8 ∨ k = 9 ∨ k = 10 ∨ k = 11 := by omega
  rcases this k h with rfl | rfl | rfl | rfl | rfl | rfl | rfl | rfl | rfl | rfl | rfl | rfl <;> rfl
theorem sz_bd (k : Nat) (h : k < 12) : 16 ≤ sz k ∧ sz k ≤ 1024 := by
  have : ∀ k : Nat, k < 12 → 16 ≤ sz k ∧ sz k ≤ 1024 := by decide +kernel
  exact this k h
theorem sizes_any (w : World) : Calls Try.prog 23 #[] w fun e w' => e = .returned (.agg #[.int .u64 16, .int .u64 32, .int .u64 48, .int .u64 64, .int .u64 96, .int .u64 128, .int .u64 192, .int .u64 256, .int .u64 384, .int .u64 512, .int .u64 768, .int .u64 1024]) ∧ Kept [] w w' := by
  go_enter Try.func23, Try.ntmps23
  go_wp2
  go_returns
  exact ⟨rfl, by (repeat' (first | (with_reducible exact Kept.refl _ _) | (with_reducible assumption) | (with_reducible refine Kept.then_ (by with_reducible assumption) ?_) | (with_reducible refine Kept.thenS (by with_reducible assumption) ?_) | (with_reducible refine Kept.alloc ?_ _) | (with_reducible refine Kept.drew ?_) | (with_reducible refine Kept.drewN ?_ _) | (with_reducible refine Kept.setNew ?_ ?_ _) | ((try simp only [World.size_alloc, World.size_setCell, World.size_drew, size_drewN] at *); (try dsimp only); omega)))⟩
theorem size_in (k : Nat) (h : k < 12) (w : World) : Calls Try.prog 13 #[.int .i64 k] w fun e w' => e = .returned (.tuple #[.int .u64 (sz k), .int .i64 0]) ∧ Kept [] w w' := by
  go_enter Try.func13, Try.ntmps13
  go_wp2_with fail
  (with_reducible refine (sizes_any _).mono ?_)
  rintro e w1 ⟨rfl, hb1⟩
  have hs1 := hb1.size
  (try simp only [World.size_alloc, World.size_setCell, World.size_drew, size_drewN] at hs1)
  have hs : ∀ o : Nat → Nat, (w1.alloc (.cells #[.int .u64 16, .int .u64 32, .int .u64 48, .int .u64 64, .int .u64 96, .int .u64 128, .int .u64 192, .int .u64 256, .int .u64 384, .int .u64 512, .int .u64 768, .int .u64 1024] 52)).cell? ⟨w1.heap.size, k, none⟩ = some (.int .u64 (sz k)) := fun _ => by
    rw [World.cell?_alloc_new]; exact szA_at k h
  have hs1 := hs id
  clear hs
  go_wp2_with fail
  go_ret2
  exact ⟨rfl, by (repeat' (first | (with_reducible exact Kept.refl _ _) | (with_reducible assumption) | (with_reducible refine Kept.then_ (by with_reducible assumption) ?_) | (with_reducible refine Kept.thenS (by with_reducible assumption) ?_) | (with_reducible refine Kept.alloc ?_ _) | (with_reducible refine Kept.drew ?_) | (with_reducible refine Kept.drewN ?_ _) | (with_reducible refine Kept.setNew ?_ ?_ _) | ((try simp only [World.size_alloc, World.size_setCell, World.size_drew, size_drewN] at *); (try dsimp only); omega)))⟩
theorem size_out (c : Int) (h : c < 0 ∨ 12 ≤ c) (w : World) : Calls Try.prog 13 #[.int .i64 c] w fun e w' => e = .returned (.tuple #[.int .u64 0, .int .i64 2]) ∧ Kept [] w w' := by
  by_cases h1 : c < 0
  · go_enter Try.func13, Try.ntmps13
    go_wp2_with fail
    (with_reducible refine (sizes_any _).mono ?_)
    rintro e w1 ⟨rfl, hb1⟩
    have hs1 := hb1.size
    (try simp only [World.size_alloc, World.size_setCell, World.size_drew, size_drewN] at hs1)
    go_wp2_with fail
    go_ret2
    exact ⟨rfl, by (repeat' (first | (with_reducible exact Kept.refl _ _) | (with_reducible assumption) | (with_reducible refine Kept.then_ (by with_reducible assumption) ?_) | (with_reducible refine Kept.thenS (by with_reducible assumption) ?_) | (with_reducible refine Kept.alloc ?_ _) | (with_reducible refine Kept.drew ?_) | (with_reducible refine Kept.drewN ?_ _) | (with_reducible refine Kept.setNew ?_ ?_ _) | ((try simp only [World.size_alloc, World.size_setCell, World.size_drew, size_drewN] at *); (try dsimp only); omega)))⟩
  · go_enter Try.func13, Try.ntmps13
    go_wp2_with fail
    (with_reducible refine (sizes_any _).mono ?_)
    rintro e w1 ⟨rfl, hb1⟩
    have hs1 := hb1.size
    (try simp only [World.size_alloc, World.size_setCell, World.size_drew, size_drewN] at hs1)
    go_wp2_with fail
    go_ret2
    exact ⟨rfl, by (repeat' (first | (with_reducible exact Kept.refl _ _) | (with_reducible assumption) | (with_reducible refine Kept.then_ (by with_reducible assumption) ?_) | (with_reducible refine Kept.thenS (by with_reducible assumption) ?_) | (with_reducible refine Kept.alloc ?_ _) | (with_reducible refine Kept.drew ?_) | (with_reducible refine Kept.drewN ?_ _) | (with_reducible refine Kept.setNew ?_ ?_ _) | ((try simp only [World.size_alloc, World.size_setCell, World.size_drew, size_drewN] at *); (try dsimp only); omega)))⟩
def slS (k : Nat) : Int := if sz k ≤ 256 then 1 else if sz k ≤ 512 then 2 else 4
theorem slices_in (k : Nat) (h : k < 12) (w : World) : Calls Try.prog 15 #[.int .i64 k] w fun e w' => e = .returned (.tuple #[.int .i64 (slS k), .int .i64 0]) ∧ Kept [] w w' := by
  have hb := sz_bd k h
  unfold slS
  by_cases h1 : sz k ≤ 256
  · rw [if_pos h1]
    go_enter Try.func15, Try.ntmps15
    go_wp2_with fail
    (with_reducible refine (size_in k h _).mono ?_)
    rintro e w1 ⟨rfl, hb1⟩
    have hs1 := hb1.size
    (try simp only [World.size_alloc, World.size_setCell, World.size_drew, size_drewN] at hs1)
    go_wp2_with fail
    go_ret2
    exact ⟨rfl, by (repeat' (first | (with_reducible exact Kept.refl _ _) | (with_reducible assumption) | (with_reducible refine Kept.then_ (by with_reducible assumption) ?_) | (with_reducible refine Kept.thenS (by with_reducible assumption) ?_) | (with_reducible refine Kept.alloc ?_ _) | (with_reducible refine Kept.drew ?_) | (with_reducible refine Kept.drewN ?_ _) | (with_reducible refine Kept.setNew ?_ ?_ _) | ((try simp only [World.size_alloc, World.size_setCell, World.size_drew, size_drewN] at *); (try dsimp only); omega)))⟩
  · rw [if_neg h1]
    by_cases h2 : sz k ≤ 512
    · rw [if_pos h2]
      go_enter Try.func15, Try.ntmps15
      go_wp2_with fail
      (with_reducible refine (size_in k h _).mono ?_)
      rintro e w1 ⟨rfl, hb1⟩
      have hs1 := hb1.size
      (try simp only [World.size_alloc, World.size_setCell, World.size_drew, size_drewN] at hs1)
      go_wp2_with fail
      go_ret2
      exact ⟨rfl, by (repeat' (first | (with_reducible exact Kept.refl _ _) | (with_reducible assumption) | (with_reducible refine Kept.then_ (by with_reducible assumption) ?_) | (with_reducible refine Kept.thenS (by with_reducible assumption) ?_) | (with_reducible refine Kept.alloc ?_ _) | (with_reducible refine Kept.drew ?_) | (with_reducible refine Kept.drewN ?_ _) | (with_reducible refine Kept.setNew ?_ ?_ _) | ((try simp only [World.size_alloc, World.size_setCell, World.size_drew, size_drewN] at *); (try dsimp only); omega)))⟩
    · rw [if_neg h2]
      go_enter Try.func15, Try.ntmps15
      go_wp2_with fail
      (with_reducible refine (size_in k h _).mono ?_)
      rintro e w1 ⟨rfl, hb1⟩
      have hs1 := hb1.size
      (try simp only [World.size_alloc, World.size_setCell, World.size_drew, size_drewN] at hs1)
      go_wp2_with fail
      go_ret2
      exact ⟨rfl, by (repeat' (first | (with_reducible exact Kept.refl _ _) | (with_reducible assumption) | (with_reducible refine Kept.then_ (by with_reducible assumption) ?_) | (with_reducible refine Kept.thenS (by with_reducible assumption) ?_) | (with_reducible refine Kept.alloc ?_ _) | (with_reducible refine Kept.drew ?_) | (with_reducible refine Kept.drewN ?_ _) | (with_reducible refine Kept.setNew ?_ ?_ _) | ((try simp only [World.size_alloc, World.size_setCell, World.size_drew, size_drewN] at *); (try dsimp only); omega)))⟩
theorem slices_out (c : Int) (h : c < 0 ∨ 12 ≤ c) (w : World) : Calls Try.prog 15 #[.int .i64 c] w fun e w' => e = .returned (.tuple #[.int .i64 0, .int .i64 2]) ∧ Kept [] w w' := by
  go_enter Try.func15, Try.ntmps15
  go_wp2_with fail
  (with_reducible refine (size_out c h _).mono ?_)
  rintro e w1 ⟨rfl, hb1⟩
  have hs1 := hb1.size
  (try simp only [World.size_alloc, World.size_setCell, World.size_drew, size_drewN] at hs1)
  go_wp2_with fail
  go_ret2
  exact ⟨rfl, by (repeat' (first | (with_reducible exact Kept.refl _ _) | (with_reducible assumption) | (with_reducible refine Kept.then_ (by with_reducible assumption) ?_) | (with_reducible refine Kept.thenS (by with_reducible assumption) ?_) | (with_reducible refine Kept.alloc ?_ _) | (with_reducible refine Kept.drew ?_) | (with_reducible refine Kept.drewN ?_ _) | (with_reducible refine Kept.setNew ?_ ?_ _) | ((try simp only [World.size_alloc, World.size_setCell, World.size_drew, size_drewN] at *); (try dsimp only); omega)))⟩
theorem sl_bd (k : Nat) (h : k < 12) : 1 ≤ slS k ∧ slS k ≤ 4 := by
  have : ∀ k : Nat, k < 12 → 1 ≤ slS k ∧ slS k ≤ 4 := by decide +kernel
  exact this k h
def bkS (k : Nat) : Int := slS k * 1024 / sz k
theorem blocks_in (k : Nat) (h : k < 12) (w : World) : Calls Try.prog 14 #[.int .i64 k] w fun e w' => e = .returned (.tuple #[.int .i64 (bkS k), .int .i64 0]) ∧ Kept [] w w' := by
  have hb := sz_bd k h
  have hs := sl_bd k h
  have hd : slS k * 1024 / sz k ≤ slS k * 1024 := Int.ediv_le_self _ (by omega)
  have hd0 : 0 ≤ slS k * 1024 / sz k := Int.ediv_nonneg (by omega) (by omega)
  unfold bkS
  go_enter Try.func14, Try.ntmps14
  go_wp2_with fail
  (with_reducible refine (size_in k h _).mono ?_)
  rintro e w1 ⟨rfl, hb1⟩
  have hs1 := hb1.size
  (try simp only [World.size_alloc, World.size_setCell, World.size_drew, size_drewN] at hs1)
  go_wp2_with fail
  (with_reducible refine (slices_in k h _).mono ?_)
  rintro e w2 ⟨rfl, hb2⟩
  have hs2 := hb2.size
  (try simp only [World.size_alloc, World.size_setCell, World.size_drew, size_drewN] at hs2)
  go_wp2_with fail
  go_ret2
  exact ⟨rfl, by (repeat' (first | (with_reducible exact Kept.refl _ _) | (with_reducible assumption) | (with_reducible refine Kept.then_ (by with_reducible assumption) ?_) | (with_reducible refine Kept.thenS (by with_reducible assumption) ?_) | (with_reducible refine Kept.alloc ?_ _) | (with_reducible refine Kept.drew ?_) | (with_reducible refine Kept.drewN ?_ _) | (with_reducible refine Kept.setNew ?_ ?_ _) | ((try simp only [World.size_alloc, World.size_setCell, World.size_drew, size_drewN] at *); (try dsimp only); omega)))⟩
theorem blocks_out (c : Int) (h : c < 0 ∨ 12 ≤ c) (w : World) : Calls Try.prog 14 #[.int .i64 c] w fun e w' => e = .returned (.tuple #[.int .i64 0, .int .i64 2]) ∧ Kept [] w w' := by
  go_enter Try.func14, Try.ntmps14
  go_wp2_with fail
  (with_reducible refine (size_out c h _).mono ?_)
  rintro e w1 ⟨rfl, hb1⟩
  have hs1 := hb1.size
  (try simp only [World.size_alloc, World.size_setCell, World.size_drew, size_drewN] at hs1)
  go_wp2_with fail
  go_ret2
  exact ⟨rfl, by (repeat' (first | (with_reducible exact Kept.refl _ _) | (with_reducible assumption) | (with_reducible refine Kept.then_ (by with_reducible assumption) ?_) | (with_reducible refine Kept.thenS (by with_reducible assumption) ?_) | (with_reducible refine Kept.alloc ?_ _) | (with_reducible refine Kept.drew ?_) | (with_reducible refine Kept.drewN ?_ _) | (with_reducible refine Kept.setNew ?_ ?_ _) | ((try simp only [World.size_alloc, World.size_setCell, World.size_drew, size_drewN] at *); (try dsimp only); omega)))⟩
theorem units_any (n u : Int) (h0 : 1 ≤ n) (h1 : n ≤ 1048576) (u0 : 1 ≤ u) (u1 : u ≤ 16384) (w : World) : Calls Try.prog 24 #[.int .u64 n, .int .u64 u] w fun e w' => e = .returned (.tuple #[.int .i64 ((n + u - 1) / u), .int .u64 ((n + u - 1) / u * u)]) ∧ Kept [] w w' := by
  have hd0 : 0 ≤ (n + u - 1) / u := Int.ediv_nonneg (by omega) (by omega)
  have hd : (n + u - 1) / u ≤ n + u - 1 := Int.ediv_le_self _ (by omega)
  have hm : (n + u - 1) / u * u ≤ n + u - 1 := Int.ediv_mul_le _ (by omega)
  have hm0 : 0 ≤ (n + u - 1) / u * u := Int.mul_nonneg hd0 (by omega)
  go_enter Try.func24, Try.ntmps24
  go_wp2
  go_ret2
  exact ⟨rfl, Kept.refl _ _⟩
/-- Does the k-th class serve so many bytes, at multiples of a? -/
def fits (n a : Int) (k : Nat) : Bool := decide (n ≤ sz k) && decide (sz k % a = 0)
def AlignOk (a : Int) : Prop := a = 1 ∨ a = 2 ∨ a = 4 ∨ a = 8 ∨ a = 16 ∨ a = 32 ∨ a = 64 ∨ a = 128 ∨ a = 256 ∨ a = 512 ∨ a = 1024
theorem and_fits (a : Int) (ha : AlignOk a) (k : Nat) (h : k < 12) : (bits .and .u64 (sz k) (a - 1) == 0) = decide (sz k % a = 0) := by
  have : ∀ b : Nat, b < 11 → ∀ k : Nat, k < 12 → (bits .and .u64 (sz k) ((2 : Int) ^ b - 1) == 0) = decide (sz k % (2 : Int) ^ b = 0) := by decide +kernel
  rcases ha with rfl | rfl | rfl | rfl | rfl | rfl | rfl | rfl | rfl | rfl | rfl
  · exact this 0 (by omega) k h
  · exact this 1 (by omega) k h
  · exact this 2 (by omega) k h
  · exact this 3 (by omega) k h
  · exact this 4 (by omega) k h
  · exact this 5 (by omega) k h
  · exact this 6 (by omega) k h
  · exact this 7 (by omega) k h
  · exact this 8 (by omega) k h
  · exact this 9 (by omega) k h
  · exact this 10 (by omega) k h
theorem index_0 (w : World) : (Instr.index 52 (.agg #[.int .u64 16, .int .u64 32, .int .u64 48, .int .u64 64, .int .u64 96, .int .u64 128, .int .u64 192, .int .u64 256, .int .u64 384, .int .u64 512, .int .u64 768, .int .u64 1024]) (.int .i64 0)).run Try.prog w = .ok (.int .u64 16) w := by kernel_rfl
theorem index_1 (w : World) : (Instr.index 52 (.agg #[.int .u64 16, .int .u64 32, .int .u64 48, .int .u64 64, .int .u64 96, .int .u64 128, .int .u64 192, .int .u64 256, .int .u64 384, .int .u64 512, .int .u64 768, .int .u64 1024]) (.int .i64 1)).run Try.prog w = .ok (.int .u64 32) w := by kernel_rfl
theorem index_2 (w : World) : (Instr.index 52 (.agg #[.int .u64 16, .int .u64 32, .int .u64 48, .int .u64 64, .int .u64 96, .int .u64 128, .int .u64 192, .int .u64 256, .int .u64 384, .int .u64 512, .int .u64 768, .int .u64 1024]) (.int .i64 2)).run Try.prog w = .ok (.int .u64 48) w := by kernel_rfl
theorem index_3 (w : World) : (Instr.index 52 (.agg #[.int .u64 16, .int .u64 32, .int .u64 48, .int .u64 64, .int .u64 96, .int .u64 128, .int .u64 192, .int .u64 256, .int .u64 384, .int .u64 512, .int .u64 768, .int .u64 1024]) (.int .i64 3)).run Try.prog w = .ok (.int .u64 64) w := by kernel_rfl
theorem index_4 (w : World) : (Instr.index 52 (.agg #[.int .u64 16, .int .u64 32, .int .u64 48, .int .u64 64, .int .u64 96, .int .u64 128, .int .u64 192, .int .u64 256, .int .u64 384, .int .u64 512, .int .u64 768, .int .u64 1024]) (.int .i64 4)).run Try.prog w = .ok (.int .u64 96) w := by kernel_rfl
theorem index_5 (w : World) : (Instr.index 52 (.agg #[.int .u64 16, .int .u64 32, .int .u64 48, .int .u64 64, .int .u64 96, .int .u64 128, .int .u64 192, .int .u64 256, .int .u64 384, .int .u64 512, .int .u64 768, .int .u64 1024]) (.int .i64 5)).run Try.prog w = .ok (.int .u64 128) w := by kernel_rfl
theorem index_6 (w : World) : (Instr.index 52 (.agg #[.int .u64 16, .int .u64 32, .int .u64 48, .int .u64 64, .int .u64 96, .int .u64 128, .int .u64 192, .int .u64 256, .int .u64 384, .int .u64 512, .int .u64 768, .int .u64 1024]) (.int .i64 6)).run Try.prog w = .ok (.int .u64 192) w := by kernel_rfl
theorem index_7 (w : World) : (Instr.index 52 (.agg #[.int .u64 16, .int .u64 32, .int .u64 48, .int .u64 64, .int .u64 96, .int .u64 128, .int .u64 192, .int .u64 256, .int .u64 384, .int .u64 512, .int .u64 768, .int .u64 1024]) (.int .i64 7)).run Try.prog w = .ok (.int .u64 256) w := by kernel_rfl
theorem index_8 (w : World) : (Instr.index 52 (.agg #[.int .u64 16, .int .u64 32, .int .u64 48, .int .u64 64, .int .u64 96, .int .u64 128, .int .u64 192, .int .u64 256, .int .u64 384, .int .u64 512, .int .u64 768, .int .u64 1024]) (.int .i64 8)).run Try.prog w = .ok (.int .u64 384) w := by kernel_rfl
theorem index_9 (w : World) : (Instr.index 52 (.agg #[.int .u64 16, .int .u64 32, .int .u64 48, .int .u64 64, .int .u64 96, .int .u64 128, .int .u64 192, .int .u64 256, .int .u64 384, .int .u64 512, .int .u64 768, .int .u64 1024]) (.int .i64 9)).run Try.prog w = .ok (.int .u64 512) w := by kernel_rfl
theorem index_10 (w : World) : (Instr.index 52 (.agg #[.int .u64 16, .int .u64 32, .int .u64 48, .int .u64 64, .int .u64 96, .int .u64 128, .int .u64 192, .int .u64 256, .int .u64 384, .int .u64 512, .int .u64 768, .int .u64 1024]) (.int .i64 10)).run Try.prog w = .ok (.int .u64 768) w := by kernel_rfl
theorem index_11 (w : World) : (Instr.index 52 (.agg #[.int .u64 16, .int .u64 32, .int .u64 48, .int .u64 64, .int .u64 96, .int .u64 128, .int .u64 192, .int .u64 256, .int .u64 384, .int .u64 512, .int .u64 768, .int .u64 1024]) (.int .i64 11)).run Try.prog w = .ok (.int .u64 1024) w := by kernel_rfl
theorem index_at (k : Nat) (h : k < 12) (w : World) : (Instr.index 52 (.agg #[.int .u64 16, .int .u64 32, .int .u64 48, .int .u64 64, .int .u64 96, .int .u64 128, .int .u64 192, .int .u64 256, .int .u64 384, .int .u64 512, .int .u64 768, .int .u64 1024]) (.int .i64 (k : Int))).run Try.prog w = .ok (.int .u64 (sz k)) w := by
  have : ∀ k : Nat, k < 12 → k = 0 ∨ k = 1 ∨ k = 2 ∨ k = 3 ∨ k = 4 ∨ k = 5 ∨ k = 6 ∨ k = 7 ∨ k = 8 ∨ k = 9 ∨ k = 10 ∨ k = 11 := by omega
  rcases this k h with rfl | rfl | rfl | rfl | rfl | rfl | rfl | rfl | rfl | rfl | rfl | rfl
  · exact index_0 w
  · exact index_1 w
  · exact index_2 w
  · exact index_3 w
  · exact index_4 w
  · exact index_5 w
  · exact index_6 w
  · exact index_7 w
  · exact index_8 w
  · exact index_9 w
  · exact index_10 w
  · exact index_11 w
theorem for_bad (n a : Int) (n0 : 0 ≤ n) (a0 : 0 ≤ a) (a1 : a ≤ 18446744073709551615) (h : ¬ (AlignOk a ∧ n ≤ 1048576)) (w : World) :
    Calls Try.prog 11 #[.int .u64 n, .int .u64 a] w fun e w' => e = .returned (.tuple #[.agg #[.int .i64 0, .int .i64 0, .int .i64 0, .int .u64 0], .int .i64 2]) ∧ Kept [] w w' := by
  have hs := small_pow a
  by_cases hp : IsPow a
  · by_cases h2 : a ≤ 1024
    · have h3 : ¬ n ≤ 1048576 := fun h3 => h ⟨hs.1 ⟨hp, h2⟩, h3⟩
      clear hs h
      go_enter Try.func11, Try.ntmps11
      go_wp2_with fail
      (with_reducible refine (pow2_any _ (by omega) (by omega) _).mono ?_)
      rintro e w1 ⟨rfl, hb1⟩
      have hs1 := hb1.size
      (try simp only [World.size_alloc, World.size_setCell, World.size_drew, size_drewN] at hs1)
      have R : Blk w1 w.heap.size 25 #[.int .i64 0, .int .i64 0, .int .i64 0, .int .u64 0] := by ((with_reducible apply Blk.cast); (case h => (repeat' (first | (with_reducible assumption) | ((with_reducible apply Blk.keep0); (case hk => (with_reducible assumption))) | (with_reducible exact Blk.new _ _ _) | ((with_reducible apply Blk.new'); (case h => (first | (with_reducible rfl) | (simp only [World.size_alloc, World.size_setCell, World.size_drew, size_drewN]; done)))) | (with_reducible apply Blk.alloc) | (with_reducible apply Blk.set_) | ((with_reducible apply Blk.far); (case hp => (simp only []; omega))) | (with_reducible apply Blk.drew) | (with_reducible apply Blk.drewN)))); (case e => rfl))
      have R_c := R.cell
      have R_f := R.frozen
      have R_z := R.lt
      go_wp2_with fail
      (refine bodyPost_ret (by simp [results, Try.results11, go_sem, R_c, R_f]; try rfl) rfl ?_)
      exact ⟨rfl, by (repeat' (first | (with_reducible exact Kept.refl _ _) | (with_reducible assumption) | (with_reducible refine Kept.then_ (by with_reducible assumption) ?_) | (with_reducible refine Kept.thenS (by with_reducible assumption) ?_) | (with_reducible refine Kept.alloc ?_ _) | (with_reducible refine Kept.drew ?_) | (with_reducible refine Kept.drewN ?_ _) | (with_reducible refine Kept.setNew ?_ ?_ _) | ((try simp only [World.size_alloc, World.size_setCell, World.size_drew, size_drewN] at *); (try dsimp only); omega)))⟩
    · clear hs h
      go_enter Try.func11, Try.ntmps11
      go_wp2_with fail
      (with_reducible refine (pow2_any _ (by omega) (by omega) _).mono ?_)
      rintro e w1 ⟨rfl, hb1⟩
      have hs1 := hb1.size
      (try simp only [World.size_alloc, World.size_setCell, World.size_drew, size_drewN] at hs1)
      have R : Blk w1 w.heap.size 25 #[.int .i64 0, .int .i64 0, .int .i64 0, .int .u64 0] := by ((with_reducible apply Blk.cast); (case h => (repeat' (first | (with_reducible assumption) | ((with_reducible apply Blk.keep0); (case hk => (with_reducible assumption))) | (with_reducible exact Blk.new _ _ _) | ((with_reducible apply Blk.new'); (case h => (first | (with_reducible rfl) | (simp only [World.size_alloc, World.size_setCell, World.size_drew, size_drewN]; done)))) | (with_reducible apply Blk.alloc) | (with_reducible apply Blk.set_) | ((with_reducible apply Blk.far); (case hp => (simp only []; omega))) | (with_reducible apply Blk.drew) | (with_reducible apply Blk.drewN)))); (case e => rfl))
      have R_c := R.cell
      have R_f := R.frozen
      have R_z := R.lt
      go_wp2_with fail
      (refine bodyPost_ret (by simp [results, Try.results11, go_sem, R_c, R_f]; try rfl) rfl ?_)
      exact ⟨rfl, by (repeat' (first | (with_reducible exact Kept.refl _ _) | (with_reducible assumption) | (with_reducible refine Kept.then_ (by with_reducible assumption) ?_) | (with_reducible refine Kept.thenS (by with_reducible assumption) ?_) | (with_reducible refine Kept.alloc ?_ _) | (with_reducible refine Kept.drew ?_) | (with_reducible refine Kept.drewN ?_ _) | (with_reducible refine Kept.setNew ?_ ?_ _) | ((try simp only [World.size_alloc, World.size_setCell, World.size_drew, size_drewN] at *); (try dsimp only); omega)))⟩
  · clear hs h
    go_enter Try.func11, Try.ntmps11
    go_wp2_with fail
    (with_reducible refine (pow2_any _ (by omega) (by omega) _).mono ?_)
    rintro e w1 ⟨rfl, hb1⟩
    have hs1 := hb1.size
    (try simp only [World.size_alloc, World.size_setCell, World.size_drew, size_drewN] at hs1)
    have R : Blk w1 w.heap.size 25 #[.int .i64 0, .int .i64 0, .int .i64 0, .int .u64 0] := by ((with_reducible apply Blk.cast); (case h => (repeat' (first | (with_reducible assumption) | ((with_reducible apply Blk.keep0); (case hk => (with_reducible assumption))) | (with_reducible exact Blk.new _ _ _) | ((with_reducible apply Blk.new'); (case h => (first | (with_reducible rfl) | (simp only [World.size_alloc, World.size_setCell, World.size_drew, size_drewN]; done)))) | (with_reducible apply Blk.alloc) | (with_reducible apply Blk.set_) | ((with_reducible apply Blk.far); (case hp => (simp only []; omega))) | (with_reducible apply Blk.drew) | (with_reducible apply Blk.drewN)))); (case e => rfl))
    have R_c := R.cell
    have R_f := R.frozen
    have R_z := R.lt
    go_wp2_with fail
    (refine bodyPost_ret (by simp [results, Try.results11, go_sem, R_c, R_f]; try rfl) rfl ?_)
    exact ⟨rfl, by (repeat' (first | (with_reducible exact Kept.refl _ _) | (with_reducible assumption) | (with_reducible refine Kept.then_ (by with_reducible assumption) ?_) | (with_reducible refine Kept.thenS (by with_reducible assumption) ?_) | (with_reducible refine Kept.alloc ?_ _) | (with_reducible refine Kept.drew ?_) | (with_reducible refine Kept.drewN ?_ _) | (with_reducible refine Kept.setNew ?_ ?_ _) | ((try simp only [World.size_alloc, World.size_setCell, World.size_drew, size_drewN] at *); (try dsimp only); omega)))⟩
end Go.Proofs.Ytfgmmehgmepegaa
