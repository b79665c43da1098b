/- A slice's integers, wherever the slice starts. -/
import Derived.Test.YtgiokigokedakaaBase
set_option linter.unusedVariables false
set_option linter.unusedSimpArgs false
namespace Go.Proofs.Ytgiokigokedakaa
open Go.RowKit
def RowX (k : IntKind) (w : World) (A : Option Addr) (zs : List Int) : Prop :=
  0 < zs.length → ∃ x : Addr, A = some x ∧ x.block < w.heap.size ∧ ∀ i, i < zs.length → w.cell? (x.add i) = some (.int k (zs[i]?.getD 0))
theorem RowX.nil (k : IntKind) (w : World) (A : Option Addr) : RowX k w A [] := fun h => by simp at h
theorem add_block (x : Addr) (i : Nat) : (x.add i).block = x.block := by unfold Addr.add; split <;> rfl
theorem RowX.keep {k : IntKind} {w w' : World} {A : Option Addr} {zs : List Int} (h : RowX k w A zs) (hk : Kept [] w w') : RowX k w' A zs := fun h0 => by
  obtain ⟨x, rfl, hb, hc⟩ := h h0
  exact ⟨x, rfl, Nat.lt_of_lt_of_le hb hk.size, fun i hi => (World.cell?_of_block (by rw [add_block]; exact hk.block x.block hb (by simp))).trans (hc i hi)⟩
theorem RowX.get {k : IntKind} {w : World} {A : Option Addr} {zs : List Int} (h : RowX k w A zs) (h0 : 0 < zs.length) :
    ∃ x : Addr, A = some x ∧ ∀ w', Kept [] w w' → ∀ i, i < zs.length → w'.cell? (x.add i) = some (.int k (zs[i]?.getD 0)) := by
  obtain ⟨x, rfl, hb, hc⟩ := h h0
  exact ⟨x, rfl, fun w' hk i hi => (World.cell?_of_block (by rw [add_block]; exact hk.block x.block hb (by simp))).trans (hc i hi)⟩
theorem RowX.of_blk {k : IntKind} {w : World} {b : Nat} {t : TypeId} {zs : List Int} {cs : Array Value} (h : Blk w b t cs) (hc : ∀ i, i < zs.length → cs[i]? = some (.int k (zs[i]?.getD 0))) : RowX k w (some ⟨b, 0, none⟩) zs := fun _ =>
  ⟨⟨b, 0, none⟩, rfl, h.lt, fun i hi => by rw [Addr.add_lit, Nat.zero_add, h.cell]; exact hc i hi⟩
theorem RowX.of_cells {k : IntKind} {w : World} {x : Addr} {n : Nat} {zs : List Int} (hn : n ≤ zs.length) (hb : x.block < w.heap.size) (hc : ∀ i, i < zs.length → w.cell? (x.add i) = some (.int k (zs.getD i 0))) : RowX k w (some x) (zs.take n) := fun _ =>
  ⟨x, rfl, hb, fun i hi => by
    have hi' : i < n := by simpa [hn] using hi
    rw [hc i (by omega), List.getElem?_take_of_lt hi']; rfl⟩
theorem cell_lt {w : World} {a : Addr} {v : Value} (h : w.cell? a = some v) : a.block < w.heap.size := by
  rcases Nat.lt_or_ge a.block w.heap.size with h1 | h1
  · exact h1
  · unfold World.cell? at h
    rw [Array.getElem?_eq_none h1] at h
    cases h
/-- An argument's slice: the numbers that are seen. -/
theorem IsRow.seen {k : IntKind} {w : World} {a : Option Addr} {len cap : Nat} {zs : List Int} (h : IsRow k w a len cap zs) :
    ∃ ys : List Int, ys.length = len ∧ RowX k w a ys ∧ (a = none → cap = 0) ∧ (∀ n, n ∈ ys → (Lit.int k n).wf = true) ∧ len ≤ cap ∧ cap ≤ maxLen := by
  rcases h with ⟨rfl, rfl, rfl, rfl⟩ | ⟨x, rfl, h1, h2, h3, h4, h5⟩
  · exact ⟨[], rfl, RowX.nil _ _ _, fun _ => rfl, by simp, Nat.le_refl _, by unfold maxLen; omega⟩
  · refine ⟨zs.take len, by simp; omega, ?_, (fun h => by cases h), fun n hn => h5 n (List.mem_of_mem_take hn), h1, h2⟩
    rcases Nat.eq_zero_or_pos zs.length with h0 | h0
    · intro hh
      simp at hh; omega
    · have := cell_lt (h4 0 h0)
      rw [add_block] at this
      exact RowX.of_cells (by omega) this h4
end Go.Proofs.Ytgiokigokedakaa
