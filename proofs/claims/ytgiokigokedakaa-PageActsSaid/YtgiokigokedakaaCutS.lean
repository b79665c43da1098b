/- A piece of a slice of one's own: its head, its tail. -/
import Derived.Test.YtgiokigokedakaaRowS
import Derived.Test.YtgiokigokedakaaIns
set_option linter.unusedVariables false
set_option linter.unusedSimpArgs false
namespace Go.Proofs.Ytgiokigokedakaa
open Go.RowKit
section
variable {α : Type} {enc : α → List Value} {K : Nat}
theorem OwnS.drew {B : Nat} {E : TypeId} {w : World} {v : Value} {xs : List α} (h : OwnS B E K enc w v xs) : OwnS B E K enc w.drew v xs := h
theorem RowS.takeK (hk : EncK enc K) {w : World} {A : Option Addr} {xs : List α} (h : RowS enc w A xs) (k : Nat) (hkl : k ≤ xs.length) : RowS enc w A (xs.take k) := fun h0 => by
  obtain ⟨x, hA, hb, hc⟩ := h (by simp at h0; omega)
  refine ⟨x, hA, hb, fun j u hu => hc j u ?_⟩
  rw [← take_flat hk _ _ hkl, List.getElem?_take] at hu
  split at hu
  · exact hu
  · cases hu
theorem RowS.dropK (hk : EncK enc K) {w : World} {g : Nat} {xs : List α} (h : RowS enc w (some ⟨g, 0, none⟩) xs) (k : Nat) (hkl : k ≤ xs.length) : RowS enc w (some ⟨g, k * K, none⟩) (xs.drop k) := fun h0 => by
  obtain ⟨x, hA, hb, hc⟩ := h (by simp at h0; omega)
  cases hA
  refine ⟨_, rfl, hb, fun j u hu => ?_⟩
  rw [← drop_flat hk _ _ hkl, List.getElem?_drop] at hu
  have := hc _ u hu
  rw [Addr.add_lit, Nat.zero_add] at this
  rw [Addr.add_lit]
  exact this
/-- The pieces of a slice. -/
theorem own_cuts (hk : EncK enc K) (T E : TypeId) (hT : Try.prog.underlying T = some (.slice E)) (hc : ∀ w, (sizeOf E).run Try.prog w = .ok K w) {B : Nat} {w : World} {A : Option Addr} {n c : Nat} {xs : List α} (h : OwnS B E K enc w (.slice A n c) xs) (k : Nat) (hkl : k ≤ xs.length) :
    (RowS enc w A (xs.take k) ∧ (A = none → c = 0) ∧ ∀ w, (Instr.slice T (.slice A n c) none (some (.int .i64 (k : Int))) none).run Try.prog w = .ok (.slice A k c) w) ∧
    ∃ (A2 : Option Addr) (c2 : Nat), RowS enc w A2 (xs.drop k) ∧ (A2 = none → c2 = 0) ∧ ∀ w, (Instr.slice T (.slice A n c) (some (.int .i64 (k : Int))) none none).run Try.prog w = .ok (.slice A2 (n - k) c2) w := by
  obtain ⟨A', c', e, h1, h2, h3, h4, h5⟩ := h.slice
  injection e with e1 e2 e3
  subst e1 e2 e3
  refine ⟨⟨h4.takeK hk k hkl, h1, fun w => ?_⟩, ?_⟩
  · simp [run_slice_l, hT, go_sem, hc]
    omega
  · cases A with
    | none =>
      have := h1 rfl
      have e3 : xs = [] := List.length_eq_zero_iff.1 (by omega)
      subst this e3
      have hk0 : k = 0 := by simpa using hkl
      subst hk0
      exact ⟨none, 0, RowS.nil _ _, fun _ => rfl, fun w => by simp [run_slice_l, hT, go_sem, hc]⟩
    | some x =>
      obtain ⟨_, h6, h7⟩ := h5 x rfl
      obtain ⟨g, o, s⟩ := x
      dsimp only at h6 h7
      subst h6 h7
      refine ⟨if c = k then some ⟨g, 0, none⟩ else some ⟨g, k * K, none⟩, c - k, ?_, (fun h => by split at h <;> cases h), fun w => ?_⟩
      · split
        · rw [List.drop_eq_nil_of_le (by omega)]; exact RowS.nil _ _
        · exact h4.dropK hk k hkl
      · by_cases hck : c = k
        · subst hck
          simp [run_slice_l, hT, go_sem, hc]
          omega
        · simp [run_slice_l, hT, go_sem, hck, hc]
          omega
theorem step_app_S {P : Program} {w : World} {ops : Array Oper} {o : Oper} {a : Act} {C : Act → World → Prop} {Q : Exit → Act → World → Prop} {Z : Prop} (hk : EncK enc K) (T E : TypeId) (i0 : TypeInfo) (z : Value) (bytes : Nat) (hT : P.underlying T = some (.slice E))
    (hi : P.info? E = some i0) (hz0 : i0.zero = some z) (hz1 : i0.size = K) (hz2 : i0.bytes = bytes) (hzc : z.cells.size = K) (hb8 : bytes ≤ 64) (hgd : o.guard = none) (s x : Operand)
    (ho : o.op = .call { callee := .builtin .append, args := #[s, x], argTypes := #[T, T] })
    (W : World) (B : Nat) (v : Value) (xs ys : List α) (hs : a.eval s = v) (hown : OwnS B E K enc w v xs) (A : Option Addr) (n c : Nat) (hn : n = ys.length) (hx : a.eval x = .slice A n c) (hc : A = none → c = 0)
    (hr : RowS enc w A ys) (hkw : Kept [] W w) (hWB : W.heap.size ≤ B) (hBw : B ≤ w.heap.size) (hlen : xs.length + ys.length ≤ 1000000000)
    (h : ∀ A' n' c' w', Hid (n' = (xs ++ ys).length) → OwnS B E K enc w' (.slice A' n' c') (xs ++ ys) → Kept [] W w' → Kept (own v) w w' → w.heap.size ≤ w'.heap.size → C (a.put o.dst (.slice A' n' c')) w') : if Region.wanted o (yielded ops a.tmps) = true then Oper.wp P o a w C Q else Z := by
  have hw : Region.wanted o (yielded ops a.tmps) = true := by simp [Region.wanted, hgd]
  rw [if_pos hw]
  refine wp_appS hk T E i0 z bytes hT hi hz0 hz1 hz2 hzc hb8 s x ho W B v xs ys hs hown A n c hn hx hc hr hkw hWB hBw hlen (fun v' w' h1 h2 h3 h4 => ?_)
  obtain ⟨A', c', rfl, _⟩ := h1.slice
  exact h A' _ c' w' (Lib.hid rfl) h1 h2 (kept_own h3) h4
end
end Go.Proofs.Ytgiokigokedakaa
