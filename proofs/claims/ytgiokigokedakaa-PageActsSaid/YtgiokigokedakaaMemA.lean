/- Bytes by their addresses: what a memory is, in blocks; a range of it; what is made. -/
import Derived.Test.YtgiokigokedakaaRow
import Derived.Laws.OwnMore
import Derived.Laws.CopyOwn
set_option linter.unusedVariables false
set_option linter.unusedSimpArgs false
namespace Go.Proofs.Ytgiokigokedakaa
open Go.RowKit
/-- What bytes are. -/
def U8s (zs : List Int) : Prop := ∀ z, z ∈ zs → 0 ≤ z ∧ z < 256
def cellsOf (zs : List Int) : Array Value := (zs.map (Value.int .u8)).toArray
theorem cellsOf_get (zs : List Int) (i : Nat) : (cellsOf zs)[i]? = zs[i]?.map (Value.int .u8) := by simp [cellsOf]
theorem cellsOf_lt {zs : List Int} {i : Nat} (h : i < zs.length) : (cellsOf zs)[i]? = some (.int .u8 (zs[i]?.getD 0)) := by rw [cellsOf_get, List.getElem?_eq_getElem h]; rfl
/-- The memory at block p: its bytes zs lie in block g. -/
def MemB (w : World) (p g : Nat) (zs : List Int) : Prop :=
  Blk w p 111 #[.slice (some ⟨g, 0, none⟩) zs.length zs.length] ∧ Blk w g 5 (cellsOf zs) ∧ zs.length ≤ 1048576 ∧ U8s zs
namespace MemB
variable {w w' : World} {p g : Nat} {zs : List Int}
theorem keep {S : List Nat} (h : MemB w p g zs) (hk : Kept S w w') (hp : p ∉ S) (hg : g ∉ S) : MemB w' p g zs := ⟨h.1.keep hk hp, h.2.1.keep hk hg, h.2.2⟩
theorem keep0 (h : MemB w p g zs) (hk : Kept [] w w') : MemB w' p g zs := h.keep hk (by simp) (by simp)
theorem ne (h : MemB w p g zs) : p ≠ g := h.1.ne_ h.2.1 (by decide)
end MemB
theorem size_none (w : World) : Calls Try.prog 53 #[.pointer none] w fun e w' => e = .returned (.int .u64 0) ∧ w = w' := by
  go_enter Try.func53, Try.ntmps53
  go_wp2
  go_ret
  exact ⟨rfl, rfl⟩
theorem size_any (w : World) (p g : Nat) (zs : List Int) (h : MemB w p g zs) : Calls Try.prog 53 #[.pointer (some ⟨p, 0, none⟩)] w fun e w' => e = .returned (.int .u64 zs.length) ∧ w = w' := by
  have h1 := h.1.cell
  have h2 := h.2.2.1
  go_enter Try.func53, Try.ntmps53
  go_wp2
  go_ret
  exact ⟨rfl, rfl⟩
theorem in_none (w : World) (a n : Int) : Calls Try.prog 48 #[.pointer none, .int .u64 a, .int .u64 n] w fun e w' => e = .returned (.tuple #[.slice none 0 0, .int .i64 1]) ∧ w = w' := by
  go_enter Try.func48, Try.ntmps48
  go_wp2_with (go_at_call 53; refine (size_none _).mono ?_; rintro e w' ⟨rfl, rfl⟩)
  go_ret2
  exact ⟨rfl, rfl⟩
theorem in_out (w : World) (p g : Nat) (zs : List Int) (h : MemB w p g zs) (a n : Int) (ha : 0 ≤ a) (hn : 0 ≤ n) (ho : (zs.length : Int) < a ∨ (zs.length : Int) - a < n) :
    Calls Try.prog 48 #[.pointer (some ⟨p, 0, none⟩), .int .u64 a, .int .u64 n] w fun e w' => e = .returned (.tuple #[.slice none 0 0, .int .i64 3]) ∧ w = w' := by
  have h2 := h.2.2.1
  by_cases h1 : (zs.length : Int) < a
  · go_enter Try.func48, Try.ntmps48
    go_wp2_with (go_at_call 53; refine (size_any _ _ _ _ h).mono ?_; rintro e w' ⟨rfl, rfl⟩)
    go_ret2
    exact ⟨rfl, rfl⟩
  · have h3 : (zs.length : Int) - a < n := by omega
    clear ho
    go_enter Try.func48, Try.ntmps48
    go_wp2_with (go_at_call 53; refine (size_any _ _ _ _ h).mono ?_; rintro e w' ⟨rfl, rfl⟩)
    go_ret2
    exact ⟨rfl, rfl⟩
/-- Where a piece of a row of k cells begins: at k the model keeps the old place. -/
def offOf (k a : Nat) : Nat := if k = a then 0 else a
theorem offOf_lt {k a n : Nat} (h : a + n ≤ k) (hn : 0 < n) : offOf k a = a := by unfold offOf; rw [if_neg (by omega)]
theorem ret_sli {A : Option Addr} {n n' c c' : Nat} {v : Value} (hn : n = n') (hc : c = c') : Ending.returned (.tuple #[.slice A n c, v]) = .returned (.tuple #[.slice A n' c', v]) := by rw [hn, hc]
theorem in_in (w : World) (p g : Nat) (zs : List Int) (h : MemB w p g zs) (a n : Nat) (ho : a + n ≤ zs.length) :
    Calls Try.prog 48 #[.pointer (some ⟨p, 0, none⟩), .int .u64 a, .int .u64 n] w fun e w' => e = .returned (.tuple #[.slice (some ⟨g, offOf zs.length a, none⟩) n (zs.length - a), .int .i64 0]) ∧ w = w' := by
  have h1 := h.1.cell
  have h2 := h.2.2.1
  by_cases he : zs.length = a
  · obtain rfl : n = 0 := by omega
    unfold offOf
    rw [if_pos he]
    subst he
    go_enter Try.func48, Try.ntmps48
    go_wp2_with (go_at_call 53; refine (size_any _ _ _ _ h).mono ?_; rintro e w' ⟨rfl, rfl⟩)
    go_ret2
    exact ⟨ret_sli (by omega) (by omega), rfl⟩
  · unfold offOf
    rw [if_neg he]
    go_enter Try.func48, Try.ntmps48
    go_wp2_with (go_at_call 53; refine (size_any _ _ _ _ h).mono ?_; rintro e w' ⟨rfl, rfl⟩)
    go_ret2
    exact ⟨ret_sli (by omega) (by omega), rfl⟩
theorem bits_may (n : Int) (h0 : 0 < n) (h8 : n ≤ 8) : bits .and .i64 n (n - 1) = 0 ↔ n = 1 ∨ n = 2 ∨ n = 4 ∨ n = 8 := by
  have : n = 1 ∨ n = 2 ∨ n = 3 ∨ n = 4 ∨ n = 5 ∨ n = 6 ∨ n = 7 ∨ n = 8 := by omega
  rcases this with rfl | rfl | rfl | rfl | rfl | rfl | rfl | rfl <;> decide +kernel
def MayN (n : Int) : Prop := n = 1 ∨ n = 2 ∨ n = 4 ∨ n = 8
theorem may_t (w : World) (n : Int) (h : MayN n) : Calls Try.prog 47 #[.int .i64 n] w fun e w' => e = .returned (.bool true) ∧ w = w' := by
  have h0 : 0 < n ∧ n ≤ 8 := by unfold MayN at h; omega
  have hb := (bits_may n h0.1 h0.2).2 h
  clear h
  obtain ⟨h1, h2⟩ := h0
  go_enter Try.func47, Try.ntmps47
  go_wp2
  go_ret
  exact ⟨rfl, rfl⟩
theorem may_f (w : World) (n : Int) (h : ¬ MayN n) : Calls Try.prog 47 #[.int .i64 n] w fun e w' => e = .returned (.bool false) ∧ w = w' := by
  by_cases h1 : 0 < n
  · by_cases h2 : n ≤ 8
    · have hb : (bits .and .i64 n (n - 1) == 0) = false := by simp [bits_may n h1 h2]; unfold MayN at h; omega
      clear h
      go_enter Try.func47, Try.ntmps47
      go_wp2
      go_ret
      exact ⟨rfl, rfl⟩
    · have h3 : decide (n ≤ 8) = false := by simp; omega
      clear h
      go_enter Try.func47, Try.ntmps47
      go_wp2
      go_ret
      exact ⟨rfl, rfl⟩
  · have h3 : decide (0 < n) = false := by simp; omega
    clear h
    go_enter Try.func47, Try.ntmps47
    go_wp2
    go_ret
    exact ⟨rfl, rfl⟩
theorem info_u8 : (Try.prog.info? 5).map (fun i => (i.zero, i.size, i.bytes)) = some (some (.int .u8 0), 1, 1) := by kernel_rfl
def zeros (n : Nat) : List Int := List.replicate n 0
theorem made_zeros (n : Nat) : madeCells (Value.int .u8 0).cells (n * 1) = cellsOf (zeros n) := by
  apply Array.ext
  · simp [size_madeCells, cellsOf, zeros]
  · intro i h1 h2
    simp [madeCells, cellsOf, zeros, Value.cells, Nat.mod_one]
theorem new_any (w : World) (n : Nat) (h0 : 0 < n) (h1 : n ≤ 1048576) (h2 : n % 1024 = 0) :
    Calls Try.prog 27 #[.int .u64 n] w fun e w' => e = .returned (.tuple #[.pointer (some ⟨w.heap.size + 1, 0, none⟩), .int .i64 0]) ∧ MemB w' (w.heap.size + 1) w.heap.size (zeros n) ∧ Kept [] w w' := by
  obtain ⟨i0, hi, hz0, hz1, hz2⟩ := info_parts info_u8
  have hmk := fun (w : World) => run_make (P := Try.prog) w 22 5 i0 (.int .u8 0) Try.underlying22 hi hz0 .u64 .u64 n n (by omega) (Int.le_refl _) (by rw [hz2]; omega) (by omega)
  simp only [Int.toNat_natCast, hz1, made_zeros] at hmk
  have h3 : (n : Int) % 1024 = 0 := by omega
  have h4 : ((n : Int) == 0) = false := by simp; omega
  have h5 : decide (1048576 < (n : Int)) = false := by simp; omega
  go_enter Try.func27, Try.ntmps27
  go_wp2
  go_ret2
  refine ⟨rfl, ⟨?_, ?_, by simp [zeros]; exact h1, fun z hz => ?_⟩, by (repeat' (first | (with_reducible exact Kept.refl _ _) | (with_reducible assumption) | (with_reducible refine Kept.then_ (by with_reducible assumption) ?_) | (with_reducible refine Kept.thenS (by with_reducible assumption) ?_) | (with_reducible refine Kept.alloc ?_ _) | (with_reducible refine Kept.drew ?_) | (with_reducible refine Kept.drewN ?_ _) | (with_reducible refine Kept.setNew ?_ ?_ _) | ((try simp only [World.size_alloc, World.size_setCell, World.size_drew, size_drewN] at *); (try dsimp only); omega)))⟩
  · simp only [zeros, List.length_replicate]
    exact Blk.new' _ _ _ (by simp)
  · exact (Blk.new _ _ _).alloc _
  · simp [zeros] at hz; omega
theorem new_bad (w : World) (n : Int) (h0 : 0 ≤ n) (hb : n = 0 ∨ 1048576 < n ∨ n % 1024 ≠ 0) :
    Calls Try.prog 27 #[.int .u64 n] w fun e w' => e = .returned (.tuple #[.pointer none, .int .i64 2]) ∧ w = w' := by
  by_cases h1 : n = 0
  · subst h1
    go_enter Try.func27, Try.ntmps27
    go_wp2
    go_ret2
    exact ⟨rfl, rfl⟩
  · by_cases h2 : 1048576 < n
    · go_enter Try.func27, Try.ntmps27
      go_wp2
      go_ret2
      exact ⟨rfl, rfl⟩
    · have h3 : 0 < n % 1024 := by omega
      clear hb
      go_enter Try.func27, Try.ntmps27
      go_wp2
      go_ret2
      exact ⟨rfl, rfl⟩
end Go.Proofs.Ytgiokigokedakaa
