/- append at []uint64, a slice of the call's own. -/
import Derived.Test.YtnooelpdoeijbaaOwn
set_option linter.unusedVariables false
set_option linter.unusedSimpArgs false
namespace Go.Proofs.Ytnooelpdoeijbaa
open Go.RowKit
theorem append_u64 {w : World} {ops : Array Oper} {rest : List Oper} {o : Oper} {a : Act} {Q : Exit → Act → World → Prop} (hgd : o.guard = none) (s x : Operand)
    (ho : o.op = .call { callee := .builtin .append, args := #[s, x], argTypes := #[22, 22] })
    (W : World) (B : Nat) (v : Value) (zs ys : List Int) (hs : a.eval s = v) (hown : OwnI B .u64 24 w v zs) (A : Option Addr) (n c : Nat) (hn : n = ys.length) (hx : a.eval x = .slice A n c) (hc : A = none → c = 0)
    (hr : RowX .u64 w A ys) (hkw : Kept [] W w) (hWB : W.heap.size ≤ B) (hBw : B ≤ w.heap.size) (hlen : zs.length + ys.length ≤ 1000000)
    (h : ∀ A' n' c' w', Hid (n' = (zs ++ ys).length) → OwnI B .u64 24 w' (.slice A' n' c') (zs ++ ys) → Kept [] W w' → w.grownBy w' v.ownBlock → w.heap.size ≤ w'.heap.size → (A' = none → c' = 0) → RowX .u64 w' A' (zs ++ ys) →
      wpList Try.prog ops Q rest (a.put o.dst (.slice A' n' c')) w') : wpList Try.prog ops Q (o :: rest) a w := by
  have hinfo : (Try.prog.info? 24).map (fun i => (i.zero, i.size, i.bytes)) = some (some (.int .u64 0), 1, 8) := by kernel_rfl
  obtain ⟨i0, hi, hz0, hz1, hz2⟩ := info_parts hinfo
  subst hn
  have fin : ∀ v' w', w'.ownsRow B 24 1 v' (zs.length + ys.length) (zs.map (Value.int .u64) ++ ys.map (Value.int .u64)) → w.grownBy w' v.ownBlock → wpList Try.prog ops Q rest (a.put o.dst v') w' := by
    intro v' w' h1 h2
    rw [← List.length_append, ← List.map_append] at h1
    obtain ⟨A', c', rfl, k1, k2, _⟩ := OwnI.slice h1
    refine h A' _ c' w' (Lib.hid rfl) h1 (hkw.grown h2 fun k hk => ?_) h2 h2.size k1 k2
    have := World.ownsRow.lt hown k hk
    left; omega
  cases A with
  | none =>
    have hy : ys = [] := by
      cases ys with
      | nil => rfl
      | cons y l => obtain ⟨x, h1, _⟩ := hr (by simp); cases h1
    subst hy
    obtain rfl := hc rfl
    refine wpList_append_own_none hgd s x _ ho B 24 i0 1 Try.underlying22 hi v zs.length (zs.map (Value.int .u64)) hs hown hx ?_
    have := fin v w (by simpa [OwnI] using hown) ⟨rfl, rfl, rfl, Nat.le_refl _, fun _ _ _ => rfl⟩
    exact this
  | some ad =>
    refine wpList_append_own w hgd s x _ ho B 24 i0 (.int .u64 0) 1 8 Try.underlying22 hi hz0 hz1 hz2 rfl (by decide) v zs.length (zs.map (Value.int .u64)) hs hown ad ys.length c (ys.map (Value.int .u64)) hx (by simp) ?_ ?_ (by unfold maxLen; omega) (by omega) hBw ?_
    · intro j u hu
      rw [List.getElem?_map] at hu
      have hj : j < ys.length := by
        rcases Nat.lt_or_ge j ys.length with h1 | h1
        · exact h1
        · rw [List.getElem?_eq_none h1] at hu; cases hu
      obtain ⟨x, h1, _, h2⟩ := hr (by omega)
      cases h1
      have := h2 j hj
      rw [List.getElem?_eq_getElem hj] at hu this
      simp at hu this
      rw [this, hu]
    · intro u hu
      obtain ⟨z, _, rfl⟩ := List.mem_map.1 hu
      rfl
    · intro v' w' h1 h2 _
      exact fin v' w' h1 h2
theorem info_u64 : (Try.prog.info? 24).map (fun i => (i.zero, i.size, i.bytes)) = some (some (.int .u64 0), 1, 8) := by kernel_rfl
end Go.Proofs.Ytnooelpdoeijbaa
