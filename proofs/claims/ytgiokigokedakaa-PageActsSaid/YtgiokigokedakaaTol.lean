/- A slice whose start moves: what it holds, its tail, append to it. -/
import Derived.Test.YtgiokigokedakaaCutS
import Derived.Deep.AppendSrc
set_option linter.unusedVariables false
set_option linter.unusedSimpArgs false
namespace Go.Proofs.Ytgiokigokedakaa
open Go.RowKit
/-- A slice of one-cell values of the call's own, wherever it starts in its block. -/
def TolV (E : TypeId) (B : Nat) (w : World) (v : Value) (vs : List Value) : Prop :=
  (v = .slice none 0 0 ∧ vs = []) ∨ ∃ g off c cur, v = .slice (some ⟨g, off, none⟩) vs.length c ∧ B ≤ g ∧ Blk w g E cur ∧ vs.length ≤ c ∧ c ≤ maxLen ∧ off + c ≤ cur.size ∧ ∀ i, i < vs.length → cur[off + i]? = vs[i]?
namespace TolV
variable {E : TypeId} {B : Nat} {w w' : World} {v : Value} {vs : List Value}
theorem keepS {S : List Nat} (h : TolV E B w v vs) (hk : Kept S w w') (hS : ∀ s, s ∈ S → s < B ∨ s ∉ own v) : TolV E B w' v vs := by
  rcases h with ⟨h1, h2⟩ | ⟨g, off, c, cur, rfl, hb, hg, rest⟩
  · exact .inl ⟨h1, h2⟩
  · refine .inr ⟨g, off, c, cur, rfl, hb, hg.keep hk (fun hx => ?_), rest⟩
    rcases hS g hx with h1 | h1
    · omega
    · exact h1 (by simp [own, Value.ownBlock])
theorem keep0 (h : TolV E B w v vs) (hk : Kept [] w w') : TolV E B w' v vs := h.keepS hk (fun s hs => by cases hs)
theorem len (h : TolV E B w v vs) : ∃ A c, v = .slice A vs.length c ∧ (A = none → c = 0) := by
  rcases h with ⟨rfl, rfl⟩ | ⟨g, off, c, cur, rfl, _⟩
  · exact ⟨_, _, rfl, fun _ => rfl⟩
  · exact ⟨_, _, rfl, fun h => by cases h⟩
theorem own_ty (h : TolV E B w v vs) : ∀ g, g ∈ own v → B ≤ g ∧ ∃ cur, Blk w g E cur := by
  intro q hq
  rcases h with ⟨rfl, rfl⟩ | ⟨g, off, c, cur, rfl, hb, hg, _⟩
  · simp [own, Value.ownBlock] at hq
  · simp [own, Value.ownBlock] at hq
    subst hq
    exact ⟨hb, cur, hg⟩
theorem lt (h : TolV E B w v vs) : ∀ g, g ∈ own v → B ≤ g ∧ g < w.heap.size := fun g hg => by
  obtain ⟨h1, cur, h2⟩ := h.own_ty g hg
  exact ⟨h1, h2.lt⟩
/-- Blocks of other types are others. -/
theorem ne (h : TolV E B w v vs) {b : Nat} {t : TypeId} {cs : Array Value} (hb : Blk w b t cs) (ht : t ≠ E) : b ∉ own v := fun hx => by
  obtain ⟨_, cur, h2⟩ := h.own_ty b hx
  exact hb.ne_ h2 ht rfl
theorem nil (E : TypeId) (B : Nat) (w : World) : TolV E B w (.slice none 0 0) [] := .inl ⟨rfl, rfl⟩
/-- Its first one. -/
theorem first {u : Value} {us : List Value} (h : TolV E B w v (u :: us)) : ∃ g off c, v = .slice (some ⟨g, off, none⟩) (us.length + 1) c ∧ B ≤ g ∧ g < w.heap.size ∧ us.length + 1 ≤ c ∧ c ≤ maxLen ∧ w.cell? ⟨g, off, none⟩ = some u := by
  rcases h with ⟨_, h⟩ | ⟨g, off, c, cur, rfl, hb, hg, hn, hm, hs, ht⟩
  · cases h
  · refine ⟨g, off, c, rfl, hb, hg.lt, hn, hm, ?_⟩
    have := ht 0 (by simp)
    rw [hg.cell]
    simpa using this
theorem cell (h : TolV E B w v vs) (i : Nat) (hi : i < vs.length) : ∃ g off c, v = .slice (some ⟨g, off, none⟩) vs.length c ∧ g < w.heap.size ∧ w.cell? ⟨g, off + i, none⟩ = vs[i]? := by
  rcases h with ⟨_, rfl⟩ | ⟨g, off, c, cur, rfl, hb, hg, hn, hm, hs, ht⟩
  · simp at hi
  · exact ⟨g, off, c, rfl, hg.lt, by rw [hg.cell]; exact ht i hi⟩
theorem ofOwn {zs : List Value} {n : Nat} (h : w.ownsRow B E 1 v n zs) (h1 : zs.length = n) : TolV E B w v zs := by
  rcases h.2 with ⟨rfl, rfl⟩ | ⟨g, cap, cur, rfl, hb, hg, hn, hm, hs, ht⟩
  · exact .inl ⟨rfl, List.length_eq_zero_iff.1 h1⟩
  · refine .inr ⟨g, 0, cap, cur, by rw [h1], hb, hg, by omega, hm, by omega, fun i hi => ?_⟩
    rw [Nat.zero_add, ← ht, List.getElem?_take_of_lt (by omega), Array.getElem?_toList]
/-- The rest of it, as Go cuts it. -/
theorem tail {T : TypeId} (hT : Try.prog.underlying T = some (.slice E)) (hc : ∀ w, (sizeOf E).run Try.prog w = .ok 1 w) {u : Value} {us : List Value} (h : TolV E B w v (u :: us)) :
    ∃ v', TolV E B w v' us ∧ own v' = own v ∧ ∀ w, (Instr.slice T v (some (.int .i64 1)) none none).run Try.prog w = .ok v' w := by
  rcases h with ⟨_, h⟩ | ⟨g, off, c, cur, rfl, hb, hg, hn, hm, hs, ht⟩
  · cases h
  · by_cases hck : c = 1
    · subst hck
      have hu : us = [] := by simpa using hn
      subst hu
      refine ⟨.slice (some ⟨g, off, none⟩) 0 0, .inr ⟨g, off, 0, cur, rfl, hb, hg, Nat.le_refl _, by unfold maxLen; omega, by omega, fun i hi => by simp at hi⟩, by simp [own, Value.ownBlock], fun w => ?_⟩
      simp [run_slice_l, hT, go_sem, hc]
    · refine ⟨.slice (some ⟨g, off + 1, none⟩) us.length (c - 1), .inr ⟨g, off + 1, c - 1, cur, rfl, hb, hg, by simp at hn; omega, by omega, by simp at hn; omega, fun i hi => ?_⟩, by simp [own, Value.ownBlock], fun w => ?_⟩
      · have := ht (i + 1) (by simp; omega)
        rw [show off + 1 + i = off + (i + 1) by omega, this]
        simp
      · simp [run_slice_l, hT, go_sem, hc, hck]
        simp at hn
        omega
end TolV
/-- append to it. -/
theorem run_app_tol {P : Program} (T E : TypeId) (z : Value) (bytes : Nat) (hT : P.underlying T = some (.slice E)) (hinfo : (P.info? E).map (fun i => (i.zero, i.size, i.bytes)) = some (some z, 1, bytes)) (hb8 : bytes ≤ 8) (hzc : z.cells.size = 1)
    (B : Nat) (v : Value) (ts ys : List Value) (A : Option Addr) (c : Nat) (w : World) (ho : TolV E B w v ts) (hB : B ≤ w.heap.size) (hr : 0 < ys.length → ∃ x, A = some x ∧ ∀ i, i < ys.length → w.cell? (x.add i) = ys[i]?) (hone : ∀ u ∈ ys, u.oneCell' = true) (hl : ts.length + ys.length ≤ 1000000) (ty : TypeId) :
    ∃ v' w', (Builtin.append_ #[T, T] ty #[v, .slice A ys.length c]).run P w = .ok v' w' ∧ TolV E B w' v' (ts ++ ys) ∧ Kept (own v) w w' ∧ (∀ g, g ∈ own v' → g ∈ own v ∨ w.heap.size ≤ g) := by
  obtain ⟨i0, hi, hz0, hz1, hz2⟩ := info_parts hinfo
  have hsrc : Go.Src P i0.size T (.slice A ys.length c) ys.length ys w := by
    cases A with
    | none =>
      have : ys = [] := by
        cases ys with
        | nil => rfl
        | cons y l => obtain ⟨x, hx, _⟩ := hr (by simp); cases hx
      subst this
      exact Src.ofNil w hT c
    | some ad =>
      refine Src.ofSlice w hT ad _ c _ (by rw [hz1]; simp) (fun j u hj => ?_) hone
      have hj' : j < ys.length := (List.getElem?_eq_some_iff.1 hj).1
      obtain ⟨x, hx, hcs⟩ := hr (by omega)
      cases hx
      rw [hcs j hj', ← hj]
  rcases ho with ⟨rfl, rfl⟩ | ⟨g, off, cap, cur, rfl, hb, hg, hn, hm, hs, ht⟩
  · rcases Nat.eq_zero_or_pos ys.length with h0 | h0
    · obtain rfl := List.length_eq_zero_iff.1 h0
      have hcs0 := hsrc.cells
      simp only [List.length_nil] at hcs0
      have hrun : (Builtin.append_ #[T, T] ty #[.slice none 0 0, .slice A 0 c]).run P w = .ok (.slice none 0 0) w := by
        rcases hsrc.kind with ⟨e', hk⟩ | hk <;> simp [Builtin.append_, run_underlying hT, sizeOf, typeInfo, hi, Builtin.lenOf, hcs0]
      exact ⟨_, _, hrun, .inl ⟨rfl, rfl⟩, Kept.refl _ _, fun g hg => .inl hg⟩
    · have hbb : (0 + ys.length) * bytes ≤ 8000000 := by
        have := Nat.mul_le_mul (show 0 + ys.length ≤ 1000000 by simpa using hl) hb8
        omega
      have hrun := run_append_grow_src w T T ty E i0 z hT hi hz0 none 0 0 [] (run_firstCells_none w.drew i0.size 0 0 0) _ ys.length ys hsrc (by omega) (by omega) (by rw [hz2]; exact growslice_fits (by omega) (by omega))
      have hG := grownCap_ge w (0 + ys.length) 0 E
      have hGm := grownCap_le_maxLen w (0 + ys.length) 0 E (by unfold maxLen; simp at hl; omega)
      generalize grownCap w (0 + ys.length) 0 E = G at hrun hG hGm
      refine ⟨_, _, hrun, .inr ⟨w.heap.size, 0, G, _, by simp, hB, Blk.new w.drew _ _, by simpa using hG, hGm, ?_, fun i hi' => ?_⟩, ((Kept.refl _ w).drew).alloc _, fun q hq => .inr ?_⟩
      · simp only [Array.size_append, List.size_toArray, List.nil_append, size_zeroCells, hzc]
        omega
      · simp only [List.nil_append, Nat.zero_add] at hi' ⊢
        rw [Array.getElem?_append_left (by simpa using hi'), List.getElem?_toArray]
      · simp [own, Value.ownBlock] at hq
        omega
  · have hbb : (ts.length + ys.length) * bytes ≤ 8000000 := by
      have := Nat.mul_le_mul hl hb8
      omega
    rcases Nat.lt_or_ge cap (ts.length + ys.length) with hroom | hroom
    · have hold : (Builtin.firstCells i0.size ts.length (.slice (some ⟨g, off, none⟩) ts.length cap)).run P w.drew = .ok ts.toArray w.drew := by
        refine run_firstCells_some w.drew i0.size ts.length ⟨g, off, none⟩ ts.length cap _ (by rw [hz1]; simp) (fun j u hj => ?_)
        have hj' : j < ts.length := (List.getElem?_eq_some_iff.1 hj).1
        rw [Addr.add_lit]
        show w.cell? ⟨g, off + j, none⟩ = some u
        rw [hg.cell, ht j hj', ← hj]
      have hrun := run_append_grow_src w T T ty E i0 z hT hi hz0 (some ⟨g, off, none⟩) ts.length cap _ hold _ ys.length ys hsrc hroom (by omega) (by rw [hz2]; exact growslice_fits hroom (by omega))
      have hG := grownCap_ge w (ts.length + ys.length) cap E
      have hGm := grownCap_le_maxLen w (ts.length + ys.length) cap E (by unfold maxLen; omega)
      generalize grownCap w (ts.length + ys.length) cap E = G at hrun hG hGm
      refine ⟨_, _, hrun, .inr ⟨w.heap.size, 0, G, _, by simp, hB, Blk.new w.drew _ _, by simpa using hG, hGm, ?_, fun i hi' => ?_⟩, ((Kept.refl _ w).drew).alloc _, fun q hq => .inr ?_⟩
      · simp only [Array.size_append, List.size_toArray, List.length_append, size_zeroCells, hzc]
        omega
      · rw [Nat.zero_add, Array.getElem?_append_left (by simpa using hi'), List.getElem?_toArray]
      · simp [own, Value.ownBlock] at hq
        omega
    · have hst := run_storeCells_at P g (off + ts.length) E ys 0 cur w hg (by simp; omega) hone
      simp only [Nat.add_zero] at hst
      have hcs := hsrc.cells
      rw [hz1] at hcs
      have hrun : (Builtin.append_ #[T, T] ty #[.slice (some ⟨g, off, none⟩) ts.length cap, .slice A ys.length c]).run P w = .ok (.slice (some ⟨g, off, none⟩) (ts.length + ys.length) cap) (w.setRow g (cur.toList.take (off + ts.length) ++ ys ++ cur.toList.drop (off + ts.length + ys.length)).toArray) := by
        rcases hsrc.kind with ⟨e', hk⟩ | hk <;> simp [Builtin.append_, run_underlying hT, run_underlying hk, sizeOf, typeInfo, hi, hz1, Builtin.lenOf, hroom, hcs, Addr.add_lit, hst]
      refine ⟨_, _, hrun, .inr ⟨g, off, cap, _, by simp, hb, setRow_heap w g cur _ E (0, 0) hg, by simpa using hroom, hm, ?_, fun i hi' => ?_⟩, ⟨rfl, rfl, rfl, by simp [World.setRow], fun j hj hn => setRow_other w g j _ (fun e => hn (by rw [e]; simp [own, Value.ownBlock]))⟩, fun q hq => .inl hq⟩
      · simp; omega
      · rw [List.getElem?_toArray]
        simp only [List.length_append] at hi'
        rcases Nat.lt_or_ge i ts.length with h2 | h2
        · rw [List.append_assoc, List.getElem?_append_left (by simp; omega), List.getElem?_take_of_lt (by omega), Array.getElem?_toList, ht i h2, List.getElem?_append_left h2]
        · have e3 : (cur.toList.take (off + ts.length)).length = off + ts.length := by simp; omega
          rw [List.append_assoc, List.getElem?_append_right (by omega), e3, List.getElem?_append_left (by omega), List.getElem?_append_right h2, show off + i - (off + ts.length) = i - ts.length by omega]
theorem app_tol {P : Program} {w : World} {ops : Array Oper} {rest : List Oper} {o : Oper} {a : Act} {Q : Exit → Act → World → Prop} (T E : TypeId) (z : Value) (bytes : Nat) (hT : P.underlying T = some (.slice E))
    (hinfo : (P.info? E).map (fun i => (i.zero, i.size, i.bytes)) = some (some z, 1, bytes)) (hb8 : bytes ≤ 8) (hzc : z.cells.size = 1) (hgd : o.guard = none) (s x : Operand)
    (ho : o.op = .call { callee := .builtin .append, args := #[s, x], argTypes := #[T, T] })
    (B : Nat) (v : Value) (ts ys : List Value) (hs : a.eval s = v) (hown : TolV E B w v ts) (A : Option Addr) (n c : Nat) (hn : n = ys.length) (hx : a.eval x = .slice A n c)
    (hB : B ≤ w.heap.size) (hr : 0 < ys.length → ∃ x, A = some x ∧ ∀ i, i < ys.length → w.cell? (x.add i) = ys[i]?) (hone : ∀ u ∈ ys, u.oneCell' = true) (hl : ts.length + ys.length ≤ 1000000)
    (h : ∀ v' w', TolV E B w' v' (ts ++ ys) → Kept (own v) w w' → (∀ g, g ∈ own v' → g ∈ own v ∨ w.heap.size ≤ g) → wpList P ops Q rest (a.put o.dst v') w') : wpList P ops Q (o :: rest) a w :=
  wpList_plain hgd fun K hK => by
    subst hn
    obtain ⟨v', w', hrun, h1, h2, h3⟩ := run_app_tol T E z bytes hT hinfo hb8 hzc B v ts ys A c w hown hB hr hone hl o.type
    unfold Oper.wp execOp
    simp only [ho, resolve, invoke, builtin, Sem.run_bind, Sem.run_pure, Result.andThen_ok, List.map_toArray, List.map_cons, List.map_nil, hs, hx, hrun]
    exact hK _ _ (h v' w' h1 h2 h3)
end Go.Proofs.Ytgiokigokedakaa
