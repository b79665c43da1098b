/- What was told: a slice of bools whose start moves; append to it. -/
import Derived.Test.YtekblfnemcaaeaaArIns3
import Derived.Deep.AppendSrc
set_option linter.unusedVariables false
set_option linter.unusedSimpArgs false
namespace Go.Proofs.Ytekblfnemcaaeaa
open Go.RowKit
/-- A slice of bools of the call's own, wherever it starts in its block. -/
def ToldS (B : Nat) (w : World) (v : Value) (ts : List Bool) : Prop :=
  (v = .slice none 0 0 ∧ ts = []) ∨ ∃ g off c cur, v = .slice (some ⟨g, off, none⟩) ts.length c ∧ B ≤ g ∧ Blk w g 4 cur ∧ ts.length ≤ c ∧ c ≤ maxLen ∧ off + c ≤ cur.size ∧ ∀ i, i < ts.length → cur[off + i]? = some (.bool (ts[i]?.getD false))
theorem ToldS.keepS {S : List Nat} {B : Nat} {w w' : World} {v : Value} {ts : List Bool} (h : ToldS B w v ts) (hk : Kept S w w') (hS : ∀ s, s ∈ S → s < B ∨ s ∉ own v) : ToldS B w' v ts := by
  rcases h with ⟨h1, h2⟩ | ⟨g, off, c, cur, rfl, hb, hg, rest⟩
  · exact .inl ⟨h1, h2⟩
  · refine .inr ⟨g, off, c, cur, rfl, hb, hg.keep hk (fun hx => ?_), rest⟩
    rcases hS g hx with h1 | h1
    · omega
    · exact h1 (by simp [own, Value.ownBlock])
theorem ToldS.len {B : Nat} {w : World} {v : Value} {ts : List Bool} (h : ToldS B w v ts) : ∃ A c, v = .slice A ts.length c := by
  rcases h with ⟨rfl, rfl⟩ | ⟨g, off, c, cur, rfl, _⟩
  · exact ⟨_, _, rfl⟩
  · exact ⟨_, _, rfl⟩
theorem ToldS.own_ty {B : Nat} {w : World} {v : Value} {ts : List Bool} (h : ToldS B w v ts) : ∀ g, g ∈ own v → B ≤ g ∧ ∃ cur, Blk w g 4 cur := by
  intro q hq
  rcases h with ⟨rfl, rfl⟩ | ⟨g, off, c, cur, rfl, hb, hg, _⟩
  · simp [own, Value.ownBlock] at hq
  · simp [own, Value.ownBlock] at hq
    subst hq
    exact ⟨hb, cur, hg⟩
theorem OwnS.own_ty {α : Type} {enc : α → List Value} {K : Nat} {E : TypeId} {B : Nat} {w : World} {v : Value} {xs : List α} (h : OwnS B E K enc w v xs) : ∀ g, g ∈ own v → B ≤ g ∧ ∃ cur, Blk w g E cur := by
  intro q hq
  rcases h.2 with ⟨rfl, h0⟩ | ⟨g, cap, cur, rfl, hb, hg, _⟩
  · simp [own, Value.ownBlock] at hq
  · simp [own, Value.ownBlock] at hq
    subst hq
    exact ⟨hb, cur, hg⟩
theorem info_bool : (Try.prog.info? 4).map (fun i => (i.zero, i.size, i.bytes)) = some (some (.bool false), 1, 1) := by kernel_rfl
theorem bools_get (ts : List Bool) (i : Nat) (h : i < ts.length) : (ts.map Value.bool)[i]? = some (.bool (ts[i]?.getD false)) := by
  rw [List.getElem?_map, List.getElem?_eq_getElem h]; rfl
/-- append to what was told. -/
theorem run_app_told (B : Nat) (v : Value) (ts ys : List Bool) (A : Option Addr) (c : Nat) (w : World) (ho : ToldS B w v ts) (hB : B ≤ w.heap.size) (hr : RowB w A ys) (hc : A = none → c = 0) (hl : ts.length + ys.length ≤ 1000000) (ty : TypeId) :
    ∃ v' w', (Builtin.append_ #[32, 32] ty #[v, .slice A ys.length c]).run Try.prog w = .ok v' w' ∧ ToldS B w' v' (ts ++ ys) ∧ Kept (own v) w w' ∧ (∀ g, g ∈ own v' → g ∈ own v ∨ w.heap.size ≤ g) := by
  obtain ⟨i0, hi, hz0, hz1, hz2⟩ := info_parts info_bool
  have h1 : ∀ u ∈ ys.map Value.bool, u.oneCell' = true := by
    intro u hu
    obtain ⟨b, _, rfl⟩ := List.mem_map.1 hu
    rfl
  have hsrc : Go.Src Try.prog i0.size 32 (.slice A ys.length c) ys.length (ys.map Value.bool) w := by
    cases A with
    | none =>
      have : ys = [] := by
        cases ys with
        | nil => rfl
        | cons y l => obtain ⟨x, hx, _⟩ := hr (by simp); cases hx
      subst this
      exact Src.ofNil w Try.underlying32 c
    | some ad =>
      refine Src.ofSlice w Try.underlying32 ad _ c _ (by rw [hz1]; simp) (fun j u hj => ?_) h1
      have hj' : j < ys.length := by
        have := (List.getElem?_eq_some_iff.1 hj).1
        simpa using this
      obtain ⟨x, hx, hcs⟩ := hr (by omega)
      cases hx
      rw [hcs j hj', ← hj, bools_get ys j hj']
  rcases ho with ⟨rfl, rfl⟩ | ⟨g, off, cap, cur, rfl, hb, hg, hn, hm, hs, ht⟩
  · rcases Nat.eq_zero_or_pos ys.length with h0 | h0
    · obtain rfl := List.length_eq_zero_iff.1 h0
      have hcs0 := hsrc.cells
      simp only [List.length_nil, List.map_nil] at hcs0
      have hrun : (Builtin.append_ #[32, 32] ty #[.slice none 0 0, .slice A 0 c]).run Try.prog w = .ok (.slice none 0 0) w := by
        rcases hsrc.kind with ⟨e', hk⟩ | hk <;> simp [Builtin.append_, run_underlying Try.underlying32, sizeOf, typeInfo, hi, Builtin.lenOf, hcs0]
      exact ⟨_, _, hrun, .inl ⟨rfl, rfl⟩, Kept.refl _ _, fun g hg => .inl hg⟩
    · have hrun := run_append_grow_src w 32 32 ty 4 i0 (.bool false) Try.underlying32 hi hz0 none 0 0 [] (run_firstCells_none w.drew i0.size 0 0 0) _ ys.length (ys.map Value.bool) hsrc (by omega) (by omega) (by rw [hz2]; exact growslice_fits (by omega) (by simp at hl ⊢; omega))
      have hG := grownCap_ge w (0 + ys.length) 0 4
      have hGm := grownCap_le_maxLen w (0 + ys.length) 0 4 (by unfold maxLen; simp at hl; omega)
      generalize grownCap w (0 + ys.length) 0 4 = G at hrun hG hGm
      refine ⟨_, _, hrun, .inr ⟨w.heap.size, 0, G, _, by simp, hB, Blk.new w.drew _ _, by simpa using hG, hGm, ?_, fun i hi' => ?_⟩, ((Kept.refl _ w).drew).alloc _, fun q hq => .inr ?_⟩
      · simp only [Array.size_append, List.size_toArray, List.nil_append, List.length_map, size_zeroCells, Value.cells]
        simp only [List.length_cons, List.length_nil]
        omega
      · simp only [List.nil_append, Nat.zero_add] at hi' ⊢
        rw [Array.getElem?_append_left (by simpa using hi'), List.getElem?_toArray]
        exact bools_get ys i hi'
      · simp [own, Value.ownBlock] at hq
        omega
  · rcases Nat.lt_or_ge cap (ts.length + ys.length) with hroom | hroom
    · have hold : (Builtin.firstCells i0.size ts.length (.slice (some ⟨g, off, none⟩) ts.length cap)).run Try.prog w.drew = .ok (ts.map Value.bool).toArray w.drew := by
        refine run_firstCells_some w.drew i0.size ts.length ⟨g, off, none⟩ ts.length cap _ (by rw [hz1]; simp) (fun j u hj => ?_)
        have hj' : j < ts.length := by
          have := (List.getElem?_eq_some_iff.1 hj).1
          simpa using this
        rw [Addr.add_lit]
        show w.cell? ⟨g, off + j, none⟩ = some u
        rw [hg.cell, ht j hj', ← hj, bools_get ts j hj']
      have hrun := run_append_grow_src w 32 32 ty 4 i0 (.bool false) Try.underlying32 hi hz0 (some ⟨g, off, none⟩) ts.length cap _ hold _ ys.length (ys.map Value.bool) hsrc hroom (by omega) (by rw [hz2]; exact growslice_fits hroom (by omega))
      have hG := grownCap_ge w (ts.length + ys.length) cap 4
      have hGm := grownCap_le_maxLen w (ts.length + ys.length) cap 4 (by unfold maxLen; omega)
      generalize grownCap w (ts.length + ys.length) cap 4 = G at hrun hG hGm
      refine ⟨_, _, hrun, .inr ⟨w.heap.size, 0, G, _, by simp, hB, Blk.new w.drew _ _, by simpa using hG, hGm, ?_, fun i hi' => ?_⟩, ((Kept.refl _ w).drew).alloc _, fun q hq => .inr ?_⟩
      · simp only [Array.size_append, List.size_toArray, List.length_append, List.length_map, size_zeroCells, Value.cells]
        simp only [List.length_cons, List.length_nil]
        omega
      · rw [Nat.zero_add, ← List.map_append, Array.getElem?_append_left (by simpa using hi'), List.getElem?_toArray]
        exact bools_get (ts ++ ys) i hi'
      · simp [own, Value.ownBlock] at hq
        omega
    · have hst := run_storeCells_at Try.prog g (off + ts.length) 4 (ys.map Value.bool) 0 cur w hg (by simp; omega) h1
      simp only [Nat.add_zero, List.length_map] at hst
      have hcs := hsrc.cells
      rw [hz1] at hcs
      have hrun : (Builtin.append_ #[32, 32] ty #[.slice (some ⟨g, off, none⟩) ts.length cap, .slice A ys.length c]).run Try.prog w = .ok (.slice (some ⟨g, off, none⟩) (ts.length + ys.length) cap) (w.setRow g (cur.toList.take (off + ts.length) ++ ys.map Value.bool ++ cur.toList.drop (off + ts.length + ys.length)).toArray) := by
        rcases hsrc.kind with ⟨e', hk⟩ | hk <;> simp [Builtin.append_, run_underlying Try.underlying32, run_underlying hk, sizeOf, typeInfo, hi, hz1, Builtin.lenOf, hroom, hcs, Addr.add_lit, hst]
      refine ⟨_, _, hrun, .inr ⟨g, off, cap, _, by simp, hb, setRow_heap w g cur _ 4 (0, 0) hg, by simpa using hroom, hm, ?_, fun i hi' => ?_⟩, ⟨rfl, rfl, rfl, by simp [World.setRow], fun j hj hn => setRow_other w g j _ (fun e => hn (by rw [e]; simp [own, Value.ownBlock]))⟩, fun q hq => .inl hq⟩
      · simp; omega
      · rw [List.getElem?_toArray]
        simp only [List.length_append] at hi'
        rcases Nat.lt_or_ge i ts.length with h2 | h2
        · rw [List.append_assoc, List.getElem?_append_left (by simp; omega), List.getElem?_take_of_lt (by omega), Array.getElem?_toList, ht i h2, List.getElem?_append_left h2]
        · have e3 : (cur.toList.take (off + ts.length)).length = off + ts.length := by simp; omega
          rw [List.append_assoc, List.getElem?_append_right (by omega), e3, List.getElem?_append_left (by simp; omega), List.getElem?_append_right h2, show off + i - (off + ts.length) = i - ts.length by omega]
          exact bools_get ys (i - ts.length) (by omega)
end Go.Proofs.Ytekblfnemcaaeaa
