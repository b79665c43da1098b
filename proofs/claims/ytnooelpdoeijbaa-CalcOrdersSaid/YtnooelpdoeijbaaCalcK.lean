/- Small words for sums and products. -/
import Derived.Test.YtnooelpdoeijbaaLawCalc
import Derived.Test.YtnooelpdoeijbaaApp
import Derived.Deep.RegionHeld3
import Derived.Deep.DrawnRows
set_option linter.unusedVariables false
set_option linter.unusedSimpArgs false
namespace Go.Proofs.Ytnooelpdoeijbaa
open Go.RowKit
theorem mul_at (A : Option Addr) (cap n : Nat) (zs : List Int) (V E : Int) (hn' : n = zs.length) (hz : U64s zs) (hV : mulV zs = V) (hE : mulE zs = E) (hn : zs.length ≤ 1000000) (w : World) (hr : RowX .u64 w A zs) :
    Calls Try.prog 13 #[.slice A n cap] w fun e w' => e = .returned (.tuple #[.int .u64 V, .int .i64 E]) ∧ Kept [] w w' := by
  subst hn' hV hE
  exact mul_any A cap zs hz w hr (by omega)
theorem two_row {w : World} {b : Nat} {t : TypeId} {x y : Int} (h : Blk w b t #[.int .u64 x, .int .u64 y]) : RowX .u64 w (some ⟨b, 0, none⟩) [x, y] :=
  RowX.of_blk h (fun i hi => by
    match i, hi with
    | 0, _ => rfl
    | 1, _ => rfl)
theorem one_row {w : World} {b : Nat} {t : TypeId} {x : Int} (h : Blk w b t #[.int .u64 x]) : RowX .u64 w (some ⟨b, 0, none⟩) [x] :=
  RowX.of_blk h (fun i hi => by
    match i, hi with
    | 0, _ => rfl)
/-- A product, in three kinds. -/
theorem mul_kinds (zs : List Int) (hz : U64s zs) : ((0 : Int) ∈ zs ∧ mulV zs = 0 ∧ mulE zs = 0) ∨ ((0 : Int) ∉ zs ∧ 1 ≤ pr zs ∧ pr zs ≤ 1099511627776 ∧ mulV zs = pr zs ∧ mulE zs = 0) ∨ ((0 : Int) ∉ zs ∧ 1099511627776 < pr zs ∧ mulV zs = 0 ∧ mulE zs = 3) := by
  unfold mulV mulE
  by_cases h0 : (0 : Int) ∈ zs
  · left; simp [h0]
  · have hp := pr_pos zs (fun x hx => by
      have := hz x hx
      rcases Int.lt_or_le 0 x with h | h
      · omega
      · exact absurd (by rw [show (0 : Int) = x by omega]; exact hx) h0)
    by_cases h1 : pr zs ≤ 1099511627776
    · right; left; simp [h0, h1]; omega
    · right; right; simp [h0, h1]; omega
theorem RowX.take {k : IntKind} {w : World} {A : Option Addr} {zs : List Int} (h : RowX k w A zs) (n : Nat) : RowX k w A (zs.take n) := fun h0 => by
  have hl : zs.take n ≠ [] := by intro h; rw [h] at h0; simp at h0
  obtain ⟨x, rfl, hb, hc⟩ := h (by simp at h0; omega)
  refine ⟨x, rfl, hb, fun i hi => ?_⟩
  simp at hi
  rw [hc i (by omega), List.getElem?_take_of_lt (by omega)]
theorem RowX.drop {k : IntKind} {w : World} {x : Addr} {zs : List Int} (h : RowX k w (some x) zs) (n : Nat) : RowX k w (some (x.add n)) (zs.drop n) := fun h0 => by
  simp at h0
  obtain ⟨y, hy, hb, hc⟩ := h (by omega)
  cases hy
  refine ⟨_, rfl, by rw [add_block]; exact hb, fun i hi => ?_⟩
  simp at hi
  rw [Addr.add_add, hc (n + i) (by omega), List.getElem?_drop]
theorem OwnI.row {B : Nat} {k : IntKind} {e : TypeId} {w : World} {A : Option Addr} {n c : Nat} {zs : List Int} (h : OwnI B k e w (.slice A n c) zs) : RowX k w A zs := by
  obtain ⟨A', c', h1, _, h2, _⟩ := h.slice
  cases h1
  exact h2
theorem sum_at (A : Option Addr) (cap n : Nat) (zs : List Int) (V E : Int) (hn' : n = zs.length) (hz : U64s zs) (hV : sumV zs = V) (hE : sumE zs = E) (hn : zs.length ≤ 1000000) (w : World) (hr : RowX .u64 w A zs) :
    Calls Try.prog 20 #[.slice A n cap] w fun e w' => e = .returned (.tuple #[.int .u64 V, .int .i64 E]) ∧ Kept [] w w' := by
  subst hn' hV hE
  exact sum_any A cap zs hz w hr (by omega)
theorem su_turn (ys : List Int) (k : Nat) (l : List Int) (hl : su l = 0) : su (ys.drop k ++ ys.take k ++ l) = su ys := by
  rw [su_app, su_app, hl]
  have := su_app (ys.take k) (ys.drop k)
  rw [List.take_append_drop] at this
  omega
theorem sum_turn (ys : List Int) (k : Nat) : sumV (ys.drop k ++ ys.take k ++ [0, 0]) = sumV ys ∧ sumE (ys.drop k ++ ys.take k ++ [0, 0]) = sumE ys := by
  unfold sumV sumE
  rw [su_turn ys k [0, 0] rfl]
  exact ⟨rfl, rfl⟩
theorem mul_turn (ys : List Int) (k : Nat) : mulV (ys.drop k ++ ys.take k ++ [1, 1]) = mulV ys ∧ mulE (ys.drop k ++ ys.take k ++ [1, 1]) = mulE ys := by
  have hm : (0 : Int) ∈ ys.drop k ++ ys.take k ++ [1, 1] ↔ (0 : Int) ∈ ys := by
    have e : ((0 : Int) ∈ ys) ↔ (0 : Int) ∈ ys.take k ++ ys.drop k := by rw [List.take_append_drop]
    rw [e]
    simp only [List.mem_append]
    constructor
    · rintro ((h | h) | h)
      · exact .inr h
      · exact .inl h
      · simp at h
    · rintro (h | h)
      · exact .inl (.inr h)
      · exact .inl (.inl h)
  have hp : pr (ys.drop k ++ ys.take k ++ [1, 1]) = pr ys := by
    have := pr_app (ys.take k) (ys.drop k)
    rw [List.take_append_drop] at this
    rw [this, pr_app, pr_app]
    simp [pr, Int.mul_comm]
  unfold mulV mulE
  simp only [hm, hp]
  exact ⟨trivial, trivial⟩
/-- A sum, and those of its parts. -/
theorem sum_parts (ys : List Int) (hz : U64s ys) (k : Nat) :
    (sumE ys = 0 ∧ sumE (ys.take k) = 0 ∧ sumE (ys.drop k) = 0 ∧ sumV (ys.take k) + sumV (ys.drop k) = sumV ys ∧ 0 ≤ sumV (ys.take k) ∧ 0 ≤ sumV (ys.drop k) ∧ sumV ys ≤ 1099511627776) ∨ (sumE ys = 3 ∧ sumE (ys.take k) = 3) ∨ (sumE ys = 3 ∧ sumE (ys.take k) = 0 ∧ sumE (ys.drop k) = 3) ∨
      (sumE ys = 3 ∧ sumE (ys.take k) = 0 ∧ sumE (ys.drop k) = 0 ∧ 1099511627776 < sumV (ys.take k) + sumV (ys.drop k) ∧ 0 ≤ sumV (ys.take k) ∧ 0 ≤ sumV (ys.drop k) ∧ sumV (ys.take k) ≤ 1099511627776 ∧ sumV (ys.drop k) ≤ 1099511627776) := by
  have h1 := su_nn (ys.take k) (fun x hx => (hz x (List.mem_of_mem_take hx)).1)
  have h2 := su_nn (ys.drop k) (fun x hx => (hz x (List.mem_of_mem_drop hx)).1)
  have h3 := su_app (ys.take k) (ys.drop k)
  rw [List.take_append_drop] at h3
  unfold sumV sumE
  split <;> split <;> split <;> omega
end Go.Proofs.Ytnooelpdoeijbaa
