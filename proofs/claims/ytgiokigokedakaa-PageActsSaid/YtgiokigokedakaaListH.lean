/- Small words for the laws of lists. -/
import Derived.Test.YtgiokigokedakaaListG
set_option linter.unusedVariables false
set_option linter.unusedSimpArgs false
namespace Go.Proofs.Ytgiokigokedakaa
open Go.RowKit
theorem OwnI.keepN {S : List Nat} {B : Nat} {k : IntKind} {e : TypeId} {w w' : World} {v : Value} {zs : List Int} (h : OwnI B k e w v zs) (hk : Kept S w w') (hS : ∀ s, s ∈ S → s < B ∨ some s ≠ v.ownBlock) : OwnI B k e w' v zs := by
  rcases h.2 with ⟨h1, h2⟩ | ⟨g, cap, cur, h1, hb, hg, hn, hm, hs, ht⟩
  · exact ⟨h.1, .inl ⟨h1, h2⟩⟩
  · refine ⟨h.1, .inr ⟨g, cap, cur, h1, hb, (hk.block g (Array.getElem?_eq_some_iff.1 hg).1 (fun hx => ?_)).trans hg, hn, hm, hs, ht⟩⟩
    rcases hS g hx with h3 | h3
    · omega
    · rw [h1] at h3
      exact h3 rfl
theorem OwnI.new_ne {B : Nat} {k : IntKind} {e : TypeId} {w : World} {v : Value} {zs : List Int} (h : OwnI B k e w v zs) {b : Nat} (hb : w.heap.size ≤ b) : some b ≠ v.ownBlock := fun hh => by
  have := World.ownsRow.lt h b hh.symm
  omega
theorem OwnI.made' {B b : Nat} {k : IntKind} {e : TypeId} (w : World) (hb : b = w.heap.size) (hB : B ≤ b) : OwnI B k e (w.alloc (.cells #[] e)) (.slice (some ⟨b, 0, none⟩) 0 0) [] := by
  subst hb
  exact OwnI.made w hB
theorem length_zeros (n : Nat) : (zeros n).length = n := by unfold zeros; exact List.length_replicate
/-- The blocks pushed, one by one, onto a list that has none. -/
theorem push_all (zs : List Int) (hz : zs.length = 2048) (xs : List Nat) (hv : ∀ a, a ∈ xs → a ≠ 0 ∧ a + 8 ≤ 2048) (hp : xs.Pairwise (fun a b => a + 8 ≤ b ∨ b + 8 ≤ a)) :
    ∃ z2 hd2, pushG zs 0 xs = (z2, hd2) ∧ z2.length = 2048 ∧ Chn z2 hd2 xs.reverse := by
  refine ⟨_, _, rfl, ?_, ?_⟩
  · rw [pushG_len xs zs 0 (fun a ha => by have := (hv a ha).2; omega), hz]
  · have := Chn.pushG (len := 2048) (by omega) xs (zs := zs) (hd := 0) (l := []) hz rfl hv hp (fun a _ x hx => by cases hx) (by decide)
    rwa [List.append_nil] at this
theorem Chn.len {zs : List Int} : ∀ {l : List Nat} {hd : Nat}, Chn zs hd l → ∀ a, a ∈ l → a ≠ 0 ∧ a + 8 ≤ zs.length := by
  intro l
  induction l with
  | nil => intro hd _ a ha; cases ha
  | cons x l ih =>
    rintro hd ⟨rfl, h0, h8, hc⟩ a ha
    rcases List.mem_cons.1 ha with rfl | ha
    · exact ⟨h0, h8⟩
    · exact ih hc a ha
end Go.Proofs.Ytgiokigokedakaa
