/- A slice of bools that came in. -/
import Derived.Test.YtgiokigokedakaaRow
import Derived.Deep.Grids
set_option linter.unusedVariables false
set_option linter.unusedSimpArgs false
namespace Go.Proofs.Ytgiokigokedakaa
open Go.RowKit
def IsBools (w : World) (a : Option Addr) (len cap : Nat) (B : Nat → Bool) : Prop :=
  (a = none ∧ len = 0 ∧ cap = 0) ∨ ∃ x : Addr, a = some x ∧ len ≤ cap ∧ cap ≤ maxLen ∧ ∀ i, i < cap → w.cell? (x.add i) = some (.bool (B i))
section
open Go.ChangeShapes Go.WideShapes Go.Deep
variable {H : Type} {enc : TypeId × Value → H} {w : World} {base : Nat} {held : Bool}
theorem isT43_trod {fuel : Nat} {v : Value} {x : DataW H × List MemPlace} (h : DataW.trod enc Try.prog w base (fun _ => true) held fuel 43 [v] = some x) : ∃ a len cap zs, [v] = [.slice a len cap] ∧ IsBools w a len cap zs := by
  rcases open_bools Try.underlying43 Try.underlying4 (by kernel_rfl) h with ⟨hcs, _⟩ | ⟨a, len, cap, B, hcs, hb, hl, hm, _, hc⟩
  · exact ⟨none, 0, 0, fun _ => false, hcs, .inl ⟨rfl, rfl, rfl⟩⟩
  · exact ⟨some a, len, cap, B, hcs, .inr ⟨a, rfl, hl, hm, hc⟩⟩
theorem isT43_of {a : Option Addr} {len cap : Nat} {d : DataW H} {p : List MemPlace} (h : DataW.Trod enc Try.prog w base (fun _ => true) held 43 (.slice a len cap) d p) : ∃ zs, IsBools w a len cap zs := by
  obtain ⟨fuel, hf⟩ := h
  obtain ⟨a', l', c', zs, he, hr⟩ := isT43_trod (v := .slice a len cap) (by simpa [Value.cells] using hf)
  simp only [List.cons.injEq, Value.slice.injEq, and_true] at he
  obtain ⟨rfl, rfl, rfl⟩ := he
  exact ⟨zs, hr⟩
end
theorem IsBools.get {w : World} {a : Option Addr} {len cap : Nat} {B : Nat → Bool} (h : IsBools w a len cap B) {i : Nat} (hi : i < len) : ∃ x : Addr, a = some x ∧ x.block < w.heap.size ∧ ∀ w', Kept [] w w' → w'.cell? (x.add i) = some (.bool (B i)) := by
  rcases h with ⟨rfl, rfl, rfl⟩ | ⟨x, rfl, h1, h2, h3⟩
  · omega
  · have hc := h3 i (by omega)
    have hl : x.block < w.heap.size := by have := cell_lt hc; rwa [add_block] at this
    exact ⟨x, rfl, hl, fun w' hk => (World.cell?_of_block (by rw [add_block]; exact hk.block x.block hl (by simp))).trans hc⟩
end Go.Proofs.Ytgiokigokedakaa
