/- Slices of structs: what they read as; append; clear. At any struct of K cells. -/
import Derived.Test.YtgiokigokedakaaOwn
import Derived.Laws.OwnMore
import Derived.Laws.CopyRow
set_option linter.unusedVariables false
set_option linter.unusedSimpArgs false
namespace Go.Proofs.Ytgiokigokedakaa
open Go.RowKit
/-- Elements of K cells. -/
def EncK {α : Type} (enc : α → List Value) (K : Nat) : Prop := 0 < K ∧ (∀ x, (enc x).length = K) ∧ ∀ x v, v ∈ enc x → v.oneCell' = true
section
variable {α : Type} {enc : α → List Value} {K : Nat}
theorem EncK.flat_len (hk : EncK enc K) (xs : List α) : (xs.flatMap enc).length = xs.length * K := by
  induction xs with
  | nil => simp
  | cons x xs ih => rw [List.flatMap_cons, List.length_append, hk.2.1, ih, List.length_cons, Nat.add_mul]; omega
theorem EncK.flat_get (hk : EncK enc K) : ∀ (xs : List α) (i j : Nat), j < K → (xs.flatMap enc)[i * K + j]? = xs[i]?.bind (fun x => (enc x)[j]?) := by
  intro xs
  induction xs with
  | nil => intro i j _; simp
  | cons x xs ih =>
    intro i j hj
    rw [List.flatMap_cons]
    cases i with
    | zero => rw [Nat.zero_mul, Nat.zero_add, List.getElem?_append_left (by rw [hk.2.1]; exact hj)]; rfl
    | succ i =>
      rw [List.getElem?_append_right (by rw [hk.2.1, Nat.add_mul]; omega), hk.2.1, show (i + 1) * K + j - K = i * K + j by rw [Nat.add_mul]; omega, ih i j hj]
      rfl
theorem EncK.flat_one (hk : EncK enc K) (xs : List α) : ∀ u, u ∈ xs.flatMap enc → u.oneCell' = true := fun u hu => by
  obtain ⟨x, _, h⟩ := List.mem_flatMap.1 hu
  exact hk.2.2 x u h
/-- A slice that reads as the elements xs. -/
def RowS (enc : α → List Value) (w : World) (A : Option Addr) (xs : List α) : Prop :=
  0 < xs.length → ∃ x : Addr, A = some x ∧ x.block < w.heap.size ∧ ∀ j u, (xs.flatMap enc)[j]? = some u → w.cell? (x.add j) = some u
theorem RowS.nil (w : World) (A : Option Addr) : RowS enc w A [] := fun h => by simp at h
theorem RowS.keepS {S : List Nat} {w w' : World} {A : Option Addr} {xs : List α} (h : RowS enc w A xs) (hk : Kept S w w') (hS : ∀ s, s ∈ S → ∀ x : Addr, A = some x → x.block ≠ s) : RowS enc w' A xs := fun h0 => by
  obtain ⟨x, rfl, hb, hc⟩ := h h0
  exact ⟨x, rfl, Nat.lt_of_lt_of_le hb hk.size, fun j u hu => (World.cell?_of_block (by rw [add_block]; exact hk.block x.block hb (fun hm => hS _ hm x rfl rfl))).trans (hc j u hu)⟩
theorem RowS.keep {w w' : World} {A : Option Addr} {xs : List α} (h : RowS enc w A xs) (hk : Kept [] w w') : RowS enc w' A xs := h.keepS hk (fun s hs => by cases hs)
/-- A slice of the call's own. -/
def OwnS (B : Nat) (E : TypeId) (K : Nat) (enc : α → List Value) (w : World) (v : Value) (xs : List α) : Prop := w.ownsRow B E K v xs.length (xs.flatMap enc)
theorem OwnS.nil (B : Nat) (E : TypeId) (w : World) : OwnS B E K enc w (.slice none 0 0) [] := World.ownsRow_nil w B E K
theorem OwnS.slice {B : Nat} {E : TypeId} {w : World} {v : Value} {xs : List α} (h : OwnS B E K enc w v xs) :
    ∃ A c, v = .slice A xs.length c ∧ (A = none → c = 0) ∧ xs.length ≤ c ∧ c ≤ maxLen ∧ RowS enc w A xs ∧ (∀ x, A = some x → B ≤ x.block ∧ x.off = 0 ∧ x.spot = none) := by
  rcases h.2 with ⟨rfl, h0⟩ | ⟨g, cap, cur, rfl, hb, hg, hn, hm, hs, ht⟩
  · exact ⟨none, 0, by rw [h0], fun _ => rfl, by omega, by unfold maxLen; omega, fun h1 => by omega, fun x h => by cases h⟩
  · refine ⟨some ⟨g, 0, none⟩, cap, rfl, (fun h => by cases h), hn, hm, fun h0 => ⟨⟨g, 0, none⟩, rfl, (Array.getElem?_eq_some_iff.1 hg).1, fun j u hu => h.cells (g := g) rfl j u hu⟩, fun x h => by cases h; exact ⟨hb, rfl, rfl⟩⟩
theorem OwnS.keepS {S : List Nat} {B : Nat} {E : TypeId} {w w' : World} {v : Value} {xs : List α} (h : OwnS B E K enc w v xs) (hk : Kept S w w') (hS : ∀ s, s ∈ S → s < B ∨ some s ≠ v.ownBlock) : OwnS B E K enc w' v xs := by
  rcases h.2 with ⟨h1, h2⟩ | ⟨g, cap, cur, h1, hb, hg, hn, hm, hs, ht⟩
  · exact ⟨h.1, .inl ⟨h1, h2⟩⟩
  · refine ⟨h.1, .inr ⟨g, cap, cur, h1, hb, (hk.block g (Array.getElem?_eq_some_iff.1 hg).1 (fun hx => ?_)).trans hg, hn, hm, hs, ht⟩⟩
    rcases hS g hx with h3 | h3
    · omega
    · rw [h1] at h3; exact h3 rfl
theorem OwnS.keep {B : Nat} {E : TypeId} {w w' : World} {v : Value} {xs : List α} (h : OwnS B E K enc w v xs) (hk : Kept [] w w') : OwnS B E K enc w' v xs := h.keepS hk (fun s hs => by cases hs)
theorem OwnS.made {B b : Nat} {E : TypeId} (w : World) (hb : b = w.heap.size) (hB : B ≤ b) : OwnS B E K enc (w.alloc (.cells #[] E)) (.slice (some ⟨b, 0, none⟩) 0 0) [] := by
  subst hb
  exact World.ownsRow_made w #[] 0 hB (by omega) (by simp)
theorem OwnS.less {B B' : Nat} {E : TypeId} {w : World} {v : Value} {xs : List α} (h : OwnS B E K enc w v xs) (hB : B' ≤ B) : OwnS B' E K enc w v xs := by
  rcases h.2 with ⟨h1, h2⟩ | ⟨g, cap, cur, h1, hb, rest⟩
  · exact ⟨h.1, .inl ⟨h1, h2⟩⟩
  · exact ⟨h.1, .inr ⟨g, cap, cur, h1, by omega, rest⟩⟩
theorem wp_appS {P : Program} {w : World} {o : Oper} {a : Act} {C : Act → World → Prop} {Q : Exit → Act → World → Prop} (hk : EncK enc K) (T E : TypeId) (i0 : TypeInfo) (z : Value) (bytes : Nat) (hT : P.underlying T = some (.slice E))
    (hi : P.info? E = some i0) (hz0 : i0.zero = some z) (hz1 : i0.size = K) (hz2 : i0.bytes = bytes) (hzc : z.cells.size = K) (hb8 : bytes ≤ 64) (s x : Operand)
    (ho : o.op = .call { callee := .builtin .append, args := #[s, x], argTypes := #[T, T] })
    (W : World) (B : Nat) (v : Value) (xs ys : List α) (hs : a.eval s = v) (hown : OwnS B E K enc w v xs) (A : Option Addr) (n c : Nat) (hn : n = ys.length) (hx : a.eval x = .slice A n c) (hc : A = none → c = 0)
    (hr : RowS enc w A ys) (hkw : Kept [] W w) (hWB : W.heap.size ≤ B) (hBw : B ≤ w.heap.size) (hlen : xs.length + ys.length ≤ 1000000000)
    (h : ∀ v' w', OwnS B E K enc w' v' (xs ++ ys) → Kept [] W w' → w.grownBy w' v.ownBlock → w.heap.size ≤ w'.heap.size → C (a.put o.dst v') w') : Oper.wp P o a w C Q := by
  subst hn
  have fin : ∀ v' w', w'.ownsRow B E K v' (xs.length + ys.length) (xs.flatMap enc ++ ys.flatMap enc) → w.grownBy w' v.ownBlock → C (a.put o.dst v') w' := by
    intro v' w' h1 h2
    rw [← List.length_append, ← List.flatMap_append] at h1
    refine h v' w' h1 (hkw.grown h2 fun k hk => ?_) h2 h2.size
    have := World.ownsRow.lt hown k hk
    left; omega
  cases A with
  | none =>
    have hy : ys = [] := by
      cases ys with
      | nil => rfl
      | cons y l => obtain ⟨x, h1, _⟩ := hr (by simp); cases h1
    subst hy
    obtain rfl := hc rfl
    have hrun := run_append_owned_none (P := P) (w := w) B T o.type E i0 K hT hi v xs.length (xs.flatMap enc) hown
    unfold Oper.wp
    simp only [execOp, ho, resolve, invoke, builtin, Sem.run_bind, Sem.run_pure, Result.andThen_ok, List.map_toArray, List.map_cons, List.map_nil, hs, hx, List.length_nil, hrun]
    exact fin v w (by simpa [OwnS] using hown) ⟨rfl, rfl, rfl, Nat.le_refl _, fun _ _ _ => rfl⟩
  | some ad =>
    have hnews : ∀ j u, (ys.flatMap enc)[j]? = some u → w.cell? (ad.add j) = some u := by
      intro j u hu
      have h0 : 0 < ys.length := by
        cases ys with
        | nil => simp at hu
        | cons y l => simp
      obtain ⟨x, h1, _, h2⟩ := hr h0
      cases h1
      exact h2 j u hu
    have hbb : (xs.length + ys.length) * bytes ≤ 140737488355328 := by
      have := Nat.mul_le_mul hlen hb8
      omega
    obtain ⟨v', w', hrun, h2, h3, _⟩ := run_append_own (P := P) w B T o.type E i0 z K bytes hT hi hz0 hz1 hz2 hzc hk.1 v xs.length (xs.flatMap enc) hown ad ys.length c (ys.flatMap enc) (hk.flat_len ys) hnews (hk.flat_one ys) (by unfold maxLen; omega) hbb hBw
    unfold Oper.wp execOp
    simp only [ho, resolve, invoke, builtin, Sem.run_bind, Sem.run_pure, Result.andThen_ok, List.map_toArray, List.map_cons, List.map_nil, hs, hx, hrun]
    exact fin v' w' h2 h3
theorem app_S {P : Program} {w : World} {ops : Array Oper} {rest : List Oper} {o : Oper} {a : Act} {Q : Exit → Act → World → Prop} (hk : EncK enc K) (T E : TypeId) (i0 : TypeInfo) (z : Value) (bytes : Nat) (hT : P.underlying T = some (.slice E))
    (hi : P.info? E = some i0) (hz0 : i0.zero = some z) (hz1 : i0.size = K) (hz2 : i0.bytes = bytes) (hzc : z.cells.size = K) (hb8 : bytes ≤ 64) (hw : Region.wanted o (yielded ops a.tmps) = true) (s x : Operand)
    (ho : o.op = .call { callee := .builtin .append, args := #[s, x], argTypes := #[T, T] })
    (W : World) (B : Nat) (v : Value) (xs ys : List α) (hs : a.eval s = v) (hown : OwnS B E K enc w v xs) (A : Option Addr) (n c : Nat) (hn : n = ys.length) (hx : a.eval x = .slice A n c) (hc : A = none → c = 0)
    (hr : RowS enc w A ys) (hkw : Kept [] W w) (hWB : W.heap.size ≤ B) (hBw : B ≤ w.heap.size) (hlen : xs.length + ys.length ≤ 1000000000)
    (h : ∀ v' w', OwnS B E K enc w' v' (xs ++ ys) → Kept [] W w' → w.grownBy w' v.ownBlock → w.heap.size ≤ w'.heap.size → wpList P ops Q rest (a.put o.dst v') w') : wpList P ops Q (o :: rest) a w :=
  wpList_step fun C hC => by
    rw [if_pos hw]
    exact wp_appS hk T E i0 z bytes hT hi hz0 hz1 hz2 hzc hb8 s x ho W B v xs ys hs hown A n c hn hx hc hr hkw hWB hBw hlen (fun v' w' h1 h2 h3 h4 => hC _ _ (h v' w' h1 h2 h3 h4))
end
end Go.Proofs.Ytgiokigokedakaa
