/- What Reserve and Release do to an arena's parts: Take, Free, Insert, Delete over its state. -/
import Derived.Test.YtekblfnemcaaeaaArRef
set_option linter.unusedVariables false
set_option linter.unusedSimpArgs false
namespace Go.Proofs.Ytekblfnemcaaeaa
open Go.RowKit
theorem Kept.grow {S S1 : List Nat} {w w1 w2 : World} (h : Kept S w w1) (hg : Grew S S1 w) (h2 : Kept S1 w1 w2) : Kept S w w2 :=
  h.trans h2 (fun x hx hl => by
    rcases hg x hx with h | h
    · exact h
    · omega)
/-- An arena behind a call, seen from the world W ahead of it. -/
def LeftA (S : List Nat) (W : World) (p : Nat) (a' : Ar) (w' : World) : Prop := ∃ S', ArS S' w' p a' ∧ Grew S S' W ∧ Kept S W w'
theorem LeftA.of {S : List Nat} {W : World} {p : Nat} {a : Ar} (h : ArS S W p a) : LeftA S W p a W := ⟨S, h, Grew.refl _ _, Kept.refl _ _⟩
theorem LeftA.then_ {S S1 : List Nat} {W w1 w2 : World} {p : Nat} {a : Ar} (hg : Grew S S1 W) (hk : Kept S W w1) (h : LeftA S1 w1 p a w2) : LeftA S W p a w2 := by
  obtain ⟨S2, h1, h2, h3⟩ := h
  exact ⟨S2, h1, hg.trans h2 hk.size, hk.grow hg h3⟩
theorem LeftA.keep0 {S : List Nat} {W w1 w2 : World} {p : Nat} {a : Ar} (h : LeftA S W p a w1) (hk : Kept [] w1 w2) : LeftA S W p a w2 := by
  obtain ⟨S2, h1, h2, h3⟩ := h
  exact ⟨S2, h1.keep0 hk, h2, hk.then_ h3⟩
theorem ArS.lim {S : List Nat} {w : World} {p : Nat} {a : Ar} (h : ArS S w p a) : w.cell? ⟨p, 2, none⟩ = some (.int .i64 a.lim) := by
  obtain ⟨mp, mg, v, tv, rfl, h1, h2, hb, hm, ho, ht⟩ := h
  exact hb.cell 2
theorem ArS.nn {S : List Nat} {w : World} {p : Nat} {a : Ar} (h : ArS S w p a) : w.cell? ⟨p, 1, none⟩ = some (.int .i64 a.n) := by
  obtain ⟨mp, mg, v, tv, rfl, h1, h2, hb, hm, ho, ht⟩ := h
  exact hb.cell 1
theorem ArS.marks {S : List Nat} {w : World} {p : Nat} {a : Ar} (h : ArS S w p a) : ∃ mp mg, w.cell? ⟨p, 0, none⟩ = some (.pointer (some ⟨mp, 0, none⟩)) ∧ MarkB w mp mg a.bs ∧ (∀ w' bs', Kept [mp, mg] w w' → MarkB w' mp mg bs' → ArS S w' p { a with bs := bs' } ∧ Kept S w w') := by
  obtain ⟨mp, mg, v, tv, rfl, h1, h2, hb, hm, ho, ht⟩ := h
  refine ⟨mp, mg, hb.cell 0, hm, fun w' bs' hk hm' => ⟨⟨mp, mg, v, tv, rfl, h1, h2, hb.keep hk (by simp; omega), hm', ho.keepS hk (fun s hs => .inl (by simp at hs; omega)), ht.keepS hk (fun s hs => .inl (by simp at hs; omega))⟩, hk.mono (fun x hx _ => by simp at hx; rcases hx with rfl | rfl <;> simp)⟩⟩
theorem ArS.refusing {S : List Nat} {w : World} {p : Nat} {a : Ar} (h : ArS S w p a) (r : Int) : w.cell? ⟨p, 5, none⟩ = some (.int .i64 a.ref) ∧ w.frozen? ⟨p, 5, none⟩ = false ∧ ArS S (w.setCell ⟨p, 5, none⟩ (.int .i64 r)) p { a with ref := r } ∧ Kept S w (w.setCell ⟨p, 5, none⟩ (.int .i64 r)) := by
  obtain ⟨mp, mg, v, tv, rfl, h1, h2, hb, hm, ho, ht⟩ := h
  have hk : Kept [p] w (w.setCell ⟨p, 5, none⟩ (.int .i64 r)) := (Kept.refl [p] w).setIn (by simp) _
  exact ⟨hb.cell 5, hb.frozen 5, ⟨mp, mg, v, tv, rfl, h1, h2, hb.set' rfl, hm.keepS hk (by simp; omega) (by simp; omega), ho.keepS hk (fun s hs => .inl (by simp at hs; omega)), ht.keepS hk (fun s hs => .inl (by simp at hs; omega))⟩, hk.mono (fun x hx _ => by simp at hx; simp [hx])⟩
/-- New regions are laid into an arena. -/
theorem ArS.laid {S : List Nat} {w : World} {p : Nat} {a : Ar} (h : ArS S w p a) : ∃ v, w.cell? ⟨p, 3, none⟩ = some v ∧ OwnS (p + 1) 39 2 encG w v a.ls ∧ (∀ q, q ∈ own v → q ∈ S) ∧
    ∀ w0 w' v' ls', Kept [] w w0 → Kept (own v) w0 w' → OwnS (p + 1) 39 2 encG w' v' ls' → (∀ g, g ∈ own v' → g ∈ own v ∨ w0.heap.size ≤ g) →
      w'.cell? ⟨p, 3, none⟩ = some v ∧ p < w'.heap.size ∧ w'.frozen? ⟨p, 3, none⟩ = false ∧ LeftA S w p { a with ls := ls' } (w'.setCell ⟨p, 3, none⟩ v') := by
  obtain ⟨mp, mg, v, tv, rfl, h1, h2, hb, hm, ho, ht⟩ := h
  refine ⟨v, hb.cell 3, ho, fun q hq => by simp [hq], fun w0 w' v' ls' hk0 hk ho' hg => ?_⟩
  have hB : ∀ q, q ∈ own v → p + 1 ≤ q := fun q hq => (ho.own_ty q hq).1
  have hpS : ∀ q, q < p + 1 → q ∉ own v := fun q hq hq' => by have := hB q hq'; omega
  have hb' := (hb.keep0 hk0).keep hk (hpS p (by omega))
  have hne := told_ne (S := []) (p := p) ho ht
  have hk2 : Kept [p] w' (w'.setCell ⟨p, 3, none⟩ v') := (Kept.refl [p] w').setIn (by simp) _
  have hk1 : Kept (own v) w w' := (hk0.mono (T := own v) (fun x hx _ => by cases hx)).trans hk (fun x hx _ => hx)
  refine ⟨hb'.cell 3, hb'.lt, hb'.frozen 3, _, ⟨mp, mg, v', tv, rfl, h1, h2, hb'.set' rfl, (hm.keepS hk1 (hpS _ (by omega)) (hpS _ (by omega))).keepS hk2 (by simp; omega) (by simp; omega), ho'.keepS hk2 (fun s hs => .inl (by simp at hs; omega)), (ht.keepS hk1 (fun s hs => .inr (hne s hs))).keepS hk2 (fun s hs => .inl (by simp at hs; omega))⟩, fun q hq => ?_, ?_⟩
  · simp only [List.mem_cons, List.mem_append] at hq ⊢
    rcases hq with h | h | h | h | h
    · simp [h]
    · simp [h]
    · simp [h]
    · rcases hg q h with h | h
      · simp [h]
      · right; have := hk0.size; omega
    · simp [h]
  · exact (hk1.mono (T := p :: mp :: mg :: (own v ++ own tv)) (fun x hx _ => by simp [hx])).trans hk2 (fun x hx _ => by simp at hx; simp [hx])
end Go.Proofs.Ytekblfnemcaaeaa
