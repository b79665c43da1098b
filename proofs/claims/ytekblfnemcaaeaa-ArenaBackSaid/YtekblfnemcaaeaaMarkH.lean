/- Whether each of some places is taken. -/
import Derived.Test.YtekblfnemcaaeaaMarkT
set_option linter.unusedVariables false
set_option linter.unusedSimpArgs false
namespace Go.Proofs.Ytekblfnemcaaeaa
open Go.RowKit Go.Shelf
/-- slices.IndexFunc at []int, a predicate that only makes new memory. -/
def firstAt (p : Int → Bool) (zs : List Int) : Int := match zs.findIdx? p with | some i => i | none => -1
theorem find_none (p : Int → Bool) (zs : List Int) (h : ∀ j, j < zs.length → p (zs[j]?.getD 0) = false) : zs.findIdx? p = none := by
  rw [List.findIdx?_eq_none_iff]
  intro x hx
  obtain ⟨j, hj, rfl⟩ := List.getElem_of_mem hx
  have := h j hj
  simpa [hj] using this
theorem find_some (p : Int → Bool) (zs : List Int) (i : Nat) (hi : i < zs.length) (h : ∀ j, j < i → p (zs[j]?.getD 0) = false) (hp : p (zs[i]?.getD 0) = true) : zs.findIdx? p = some i := by
  rw [List.findIdx?_eq_some_iff_getElem]
  refine ⟨hi, by simpa [hi] using hp, fun j hj => ?_⟩
  have := h j hj
  simpa [show j < zs.length by omega] using this
theorem firstAt_any (p : Int → Bool) (zs : List Int) : decide (0 ≤ firstAt p zs) = zs.any p := by
  unfold firstAt
  cases h : zs.findIdx? p with
  | none =>
    rw [List.findIdx?_eq_none_iff] at h
    have : zs.any p = false := by rw [List.any_eq_false]; intro x hx; simp [h x hx]
    rw [this]; rfl
  | some i =>
    rw [List.findIdx?_eq_some_iff_getElem] at h
    obtain ⟨hi, hp, _⟩ := h
    have : zs.any p = true := by rw [List.any_eq_true]; exact ⟨_, List.getElem_mem hi, hp⟩
    rw [this]; exact decide_eq_true (Int.natCast_nonneg i)
/-- Is it no place, or free? -/
def outB (bs : List Bool) (i : Int) : Bool := decide (i < 0) || decide ((bs.length : Int) ≤ i) || !(bs[i.toNat]?.getD false)
end Go.Proofs.Ytekblfnemcaaeaa
