/- Put, Copy, Cas. -/
import Derived.Test.YtgiokigokedakaaMemD
import Derived.Test.YtgiokigokedakaaCopy
set_option linter.unusedVariables false
set_option linter.unusedSimpArgs false
namespace Go.Proofs.Ytgiokigokedakaa
open Go.RowKit
theorem size_u8 : (Try.prog.info? 5).map (·.size) = some 1 := by kernel_rfl
theorem row_vals {w : World} {ad : Addr} {ys : List Int} (h : RowX .u8 w (some ad) ys) : ∀ j v, (ys.map (Value.int .u8))[j]? = some v → w.cell? (ad.add j) = some v := by
  intro j u hu
  rw [List.getElem?_map] at hu
  have hj : j < ys.length := by
    rcases Nat.lt_or_ge j ys.length with h1 | h1
    · exact h1
    · rw [List.getElem?_eq_none h1] at hu; cases hu
  obtain ⟨x, h1, _, h2⟩ := h (by omega)
  cases h1
  have := h2 j hj
  rw [List.getElem?_eq_getElem hj] at hu this
  simp at hu this
  rw [this, hu]
theorem one_vals (ys : List Int) : ∀ u ∈ ys.map (Value.int .u8), u.oneCell' = true := by
  intro u hu
  obtain ⟨z, _, rfl⟩ := List.mem_map.1 hu
  rfl
theorem MemB.spliced {w w' : World} {p g : Nat} {zs : List Int} (h : MemB w p g zs) (a : Nat) (ys : List Int) (hy : U8s ys) (ha : a + ys.length ≤ zs.length)
    (hb : Blk w' g 5 (splice (zs.map (Value.int .u8)) a (ys.map (Value.int .u8))).toArray) (hk : Kept [g] w w') : MemB w' p g (splice zs a ys) := by
  refine ⟨?_, ?_, ?_, h.2.2.2.splice hy a⟩
  · rw [length_splice _ _ _ ha]; exact h.1.keep hk (by simpa using h.ne)
  · unfold cellsOf; rw [map_splice]; exact hb
  · rw [length_splice _ _ _ ha]; exact h.2.2.1
theorem row_some {k : IntKind} {w : World} {A : Option Addr} {ys : List Int} (h : RowX k w A ys) (h0 : 0 < ys.length) : ∃ ad, A = some ad := by
  obtain ⟨x, h1, _⟩ := h h0
  exact ⟨x, h1⟩
end Go.Proofs.Ytgiokigokedakaa
