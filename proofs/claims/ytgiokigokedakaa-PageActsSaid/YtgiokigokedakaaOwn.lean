/- Slices of the call's own; append, at any kind of integers. -/
import Derived.Test.YtgiokigokedakaaRow
import Derived.Laws.AppendOwnNone
set_option linter.unusedVariables false
set_option linter.unusedSimpArgs false
namespace Go.Proofs.Ytgiokigokedakaa
open Go.RowKit
def OwnI (B : Nat) (k : IntKind) (e : TypeId) (w : World) (v : Value) (zs : List Int) : Prop := w.ownsRow B e 1 v zs.length (zs.map (Value.int k))
theorem OwnI.nil (B : Nat) (k : IntKind) (e : TypeId) (w : World) : OwnI B k e w (.slice none 0 0) [] := World.ownsRow_nil w B e 1
theorem OwnI.slice {B : Nat} {k : IntKind} {e : TypeId} {w : World} {v : Value} {zs : List Int} (h : OwnI B k e w v zs) :
    ∃ A c, v = .slice A zs.length c ∧ (A = none → c = 0) ∧ RowX k w A zs ∧ (∀ b off x, A = some ⟨b, off, x⟩ → B ≤ b) := by
  rcases h.2 with ⟨rfl, h0⟩ | ⟨g, cap, cur, rfl, hb, hg, hn, hm, hs, ht⟩
  · exact ⟨none, 0, by rw [h0], fun _ => rfl, fun h1 => by omega, fun b off x h => by cases h⟩
  · refine ⟨some ⟨g, 0, none⟩, cap, rfl, (fun h => by cases h), fun h0 => ⟨⟨g, 0, none⟩, rfl, (Array.getElem?_eq_some_iff.1 hg).1, fun i hi => ?_⟩, fun b off x h => by cases h; exact hb⟩
    have := h.cells (g := g) rfl i (.int k (zs[i]?.getD 0)) (by rw [List.getElem?_map, List.getElem?_eq_getElem hi]; rfl)
    exact this
theorem OwnI.kept {B : Nat} {k : IntKind} {e : TypeId} {w w' : World} {v : Value} {zs : List Int} (h : OwnI B k e w v zs) (hk : Kept [] w w') : OwnI B k e w' v zs :=
  World.ownsRow.kept (row := none) h ⟨hk.os, hk.tape, hk.output, hk.size, fun b hb _ => hk.block b hb (by simp)⟩ (by cases v.ownBlock <;> simp)
theorem OwnI.made {B : Nat} {k : IntKind} {e : TypeId} (w : World) (hB : B ≤ w.heap.size) : OwnI B k e (w.alloc (.cells #[] e)) (.slice (some ⟨w.heap.size, 0, none⟩) 0 0) [] :=
  World.ownsRow_made w #[] 0 hB (by omega) (by simp)
/-- append, with the old slice's numbers kept; at any program, any kind of integers. -/
theorem run_app {P : Program} (w : World) (B : Nat) (t ty e : TypeId) (i : TypeInfo) (z : Value) (bytes : Nat) (ht : P.underlying t = some (.slice e)) (hi : P.info? e = some i) (hz : i.zero = some z)
    (hsize : i.size = 1) (hby : i.bytes = bytes) (hzs : z.cells.size = 1) (v : Value) (n : Nat) (xs : List Value) (hown : w.ownsRow B e 1 v n xs)
    (a : Addr) (m c : Nat) (news : List Value) (hl : news.length = m * 1) (hnews : ∀ j u, news[j]? = some u → w.cell? (a.add j) = some u) (h1 : ∀ u ∈ news, u.oneCell' = true)
    (h63 : n + m ≤ maxLen) (hbytes : (n + m) * bytes ≤ 140737488355328) (hbase : B ≤ w.heap.size) :
    ∃ v' w', (Builtin.append_ #[t, t] ty #[v, .slice (some a) m c]).run P w = .ok v' w' ∧ w'.ownsRow B e 1 v' (n + m) (xs ++ news) ∧ w.grownBy w' v.ownBlock ∧ w'.ownsRow B e 1 v n xs := by
  obtain ⟨v', w', hr, h2, h3, _⟩ := run_append_own (P := P) w B t ty e i z 1 bytes ht hi hz hsize hby hzs (by omega) v n xs hown a m c news hl hnews h1 h63 hbytes hbase
  refine ⟨v', w', hr, h2, h3, ?_⟩
  rcases hown.2 with ⟨rfl, rfl⟩ | ⟨g, cap, cur, rfl, hbg, hg, hnc, hcm, hcs, htake⟩
  · exact ⟨hown.1, .inl ⟨rfl, rfl⟩⟩
  · by_cases hroom : n + m ≤ cap
    · have hr2 := run_append_room (P := P) w t ty e i ht hi g n cap cur hg a m c news (by rw [hsize]; exact hl) hnews h1 hroom (by rw [hsize, hl, hcs]; omega)
      rw [hr] at hr2
      injection hr2 with _ hw
      subst hw
      refine ⟨hown.1, .inr ⟨g, cap, _, rfl, hbg, setRow_heap w g cur _ e _ hg, hnc, hcm, ?_, ?_⟩⟩
      · simp only [List.size_toArray, List.length_append, List.length_take, List.length_drop, Array.length_toList, hsize]
        omega
      · have hx := hown.1
        simp only [hsize, Nat.mul_one] at htake hx ⊢
        rw [htake, List.append_assoc, ← hx]
        exact List.take_left
    · have holds : ∀ j u, xs[j]? = some u → w.cell? ((⟨g, 0, none⟩ : Addr).add j) = some u := hown.cells (g := g) rfl
      have hr2 := run_append_grow (P := P) w t ty e i z ht hi hz ⟨g, 0, none⟩ n cap xs (by rw [hsize]; exact hown.1) holds a m c news (by rw [hsize]; exact hl) hnews (by omega) (by unfold maxLen at h63; omega) (growslice_fits (by omega) (by rw [hby]; exact hbytes))
      rw [hr] at hr2
      injection hr2 with _ hw
      subst hw
      exact World.ownsRow.kept (row := none) hown ⟨rfl, rfl, rfl, by simp, fun k hk _ => Below.heap_alloc w.drew _ k hk⟩ (by simp [Value.ownBlock])
theorem wp_app {P : Program} {w : World} {o : Oper} {a : Act} {K : Act → World → Prop} {Q : Exit → Act → World → Prop} (k : IntKind) (T E : TypeId) (bytes : Nat) (hT : P.underlying T = some (.slice E))
    (hinfo : (P.info? E).map (fun i => (i.zero, i.size, i.bytes)) = some (some (.int k 0), 1, bytes)) (hb8 : bytes ≤ 8) (s x : Operand)
    (ho : o.op = .call { callee := .builtin .append, args := #[s, x], argTypes := #[T, T] })
    (W : World) (B : Nat) (v : Value) (zs ys : List Int) (hs : a.eval s = v) (hown : OwnI B k E w v zs) (A : Option Addr) (n c : Nat) (hn : n = ys.length) (hx : a.eval x = .slice A n c) (hc : A = none → c = 0)
    (hr : RowX k w A ys) (hkw : Kept [] W w) (hWB : W.heap.size ≤ B) (hBw : B ≤ w.heap.size) (hlen : zs.length + ys.length ≤ 1000000000)
    (h : ∀ A' n' c' w', Hid (n' = (zs ++ ys).length) → OwnI B k E w' (.slice A' n' c') (zs ++ ys) → OwnI B k E w' v zs → Kept [] W w' → w.grownBy w' v.ownBlock → w.heap.size ≤ w'.heap.size → (A' = none → c' = 0) → RowX k w' A' (zs ++ ys) →
      K (a.put o.dst (.slice A' n' c')) w') : Oper.wp P o a w K Q := by
  obtain ⟨i0, hi, hz0, hz1, hz2⟩ := info_parts hinfo
  subst hn
  have fin : ∀ v' w', w'.ownsRow B E 1 v' (zs.length + ys.length) (zs.map (Value.int k) ++ ys.map (Value.int k)) → w.grownBy w' v.ownBlock → w'.ownsRow B E 1 v zs.length (zs.map (Value.int k)) → K (a.put o.dst v') w' := by
    intro v' w' h1 h2 h3
    rw [← List.length_append, ← List.map_append] at h1
    obtain ⟨A', c', rfl, k1, k2, _⟩ := OwnI.slice h1
    refine h A' _ c' w' (Lib.hid rfl) h1 h3 (hkw.grown h2 fun k hk => ?_) h2 h2.size k1 k2
    have := World.ownsRow.lt hown k hk
    left; omega
  cases A with
  | none =>
    have hy : ys = [] := by
      cases ys with
      | nil => rfl
      | cons y l => obtain ⟨x, h1, _⟩ := hr (by simp); cases h1
    subst hy
    obtain rfl := hc rfl
    have hrun := run_append_owned_none (P := P) (w := w) B T o.type E i0 1 hT hi v zs.length (zs.map (Value.int k)) hown
    unfold Oper.wp
    simp only [execOp, ho, resolve, invoke, builtin, Sem.run_bind, Sem.run_pure, Result.andThen_ok, List.map_toArray, List.map_cons, List.map_nil, hs, hx, List.length_nil, hrun]
    exact fin v w (by simpa [OwnI] using hown) ⟨rfl, rfl, rfl, Nat.le_refl _, fun _ _ _ => rfl⟩ hown
  | some ad =>
    have hnews : ∀ j u, (ys.map (Value.int k))[j]? = some u → w.cell? (ad.add j) = some u := by
      intro j u hu
      rw [List.getElem?_map] at hu
      have hj : j < ys.length := by
        rcases Nat.lt_or_ge j ys.length with h1 | h1
        · exact h1
        · rw [List.getElem?_eq_none h1] at hu; cases hu
      obtain ⟨x, h1, _, h2⟩ := hr (by omega)
      cases h1
      have := h2 j hj
      rw [List.getElem?_eq_getElem hj] at hu this
      simp at hu this
      rw [this, hu]
    have hone : ∀ u ∈ ys.map (Value.int k), u.oneCell' = true := by
      intro u hu
      obtain ⟨z, _, rfl⟩ := List.mem_map.1 hu
      rfl
    have hbb : (zs.length + ys.length) * bytes ≤ 140737488355328 := by
      have := Nat.mul_le_mul hlen hb8
      omega
    obtain ⟨v', w', hrun, h2, h3, h4⟩ := run_app (P := P) w B T o.type E i0 (.int k 0) bytes hT hi hz0 hz1 hz2 rfl v zs.length (zs.map (Value.int k)) hown ad ys.length c (ys.map (Value.int k)) (by simp) hnews hone (by unfold maxLen; omega) hbb hBw
    unfold Oper.wp execOp
    simp only [ho, resolve, invoke, builtin, Sem.run_bind, Sem.run_pure, Result.andThen_ok, List.map_toArray, List.map_cons, List.map_nil, hs, hx, hrun]
    exact fin v' w' h2 h3 h4
theorem app_gen {P : Program} {w : World} {ops : Array Oper} {rest : List Oper} {o : Oper} {a : Act} {Q : Exit → Act → World → Prop} (k : IntKind) (T E : TypeId) (bytes : Nat) (hT : P.underlying T = some (.slice E))
    (hinfo : (P.info? E).map (fun i => (i.zero, i.size, i.bytes)) = some (some (.int k 0), 1, bytes)) (hb8 : bytes ≤ 8) (hgd : o.guard = none) (s x : Operand)
    (ho : o.op = .call { callee := .builtin .append, args := #[s, x], argTypes := #[T, T] })
    (W : World) (B : Nat) (v : Value) (zs ys : List Int) (hs : a.eval s = v) (hown : OwnI B k E w v zs) (A : Option Addr) (n c : Nat) (hn : n = ys.length) (hx : a.eval x = .slice A n c) (hc : A = none → c = 0)
    (hr : RowX k w A ys) (hkw : Kept [] W w) (hWB : W.heap.size ≤ B) (hBw : B ≤ w.heap.size) (hlen : zs.length + ys.length ≤ 1000000000)
    (h : ∀ A' n' c' w', Hid (n' = (zs ++ ys).length) → OwnI B k E w' (.slice A' n' c') (zs ++ ys) → OwnI B k E w' v zs → Kept [] W w' → w.grownBy w' v.ownBlock → w.heap.size ≤ w'.heap.size → (A' = none → c' = 0) → RowX k w' A' (zs ++ ys) →
      wpList P ops Q rest (a.put o.dst (.slice A' n' c')) w') : wpList P ops Q (o :: rest) a w :=
  wpList_plain hgd fun K hK => wp_app k T E bytes hT hinfo hb8 s x ho W B v zs ys hs hown A n c hn hx hc hr hkw hWB hBw hlen
    (fun A' n' c' w' h1 h2 h3 h4 h5 h6 h7 h8 => hK _ _ (h A' n' c' w' h1 h2 h3 h4 h5 h6 h7 h8))
/-- append at a step of a region that draws its order. -/
theorem step_app {P : Program} {w : World} {ops : Array Oper} {o : Oper} {a : Act} {K : Act → World → Prop} {Q : Exit → Act → World → Prop} {Z : Prop} (k : IntKind) (T E : TypeId) (bytes : Nat) (hT : P.underlying T = some (.slice E))
    (hinfo : (P.info? E).map (fun i => (i.zero, i.size, i.bytes)) = some (some (.int k 0), 1, bytes)) (hb8 : bytes ≤ 8) (hgd : o.guard = none) (s x : Operand)
    (ho : o.op = .call { callee := .builtin .append, args := #[s, x], argTypes := #[T, T] })
    (W : World) (B : Nat) (v : Value) (zs ys : List Int) (hs : a.eval s = v) (hown : OwnI B k E w v zs) (A : Option Addr) (n c : Nat) (hx : a.eval x = .slice A n c) (hn : n = ys.length) (hc : A = none → c = 0)
    (hr : RowX k w A ys) (hkw : Kept [] W w) (hWB : W.heap.size ≤ B) (hBw : B ≤ w.heap.size) (hlen : zs.length + ys.length ≤ 1000000000)
    (h : ∀ A' n' c' w', Hid (n' = (zs ++ ys).length) → OwnI B k E w' (.slice A' n' c') (zs ++ ys) → OwnI B k E w' v zs → Kept [] W w' → w.heap.size ≤ w'.heap.size → (A' = none → c' = 0) → RowX k w' A' (zs ++ ys) →
      K (a.put o.dst (.slice A' n' c')) w') : if Region.wanted o (yielded ops a.tmps) = true then Oper.wp P o a w K Q else Z := by
  have hw : Region.wanted o (yielded ops a.tmps) = true := by simp [Region.wanted, hgd]
  rw [if_pos hw]
  exact wp_app k T E bytes hT hinfo hb8 s x ho W B v zs ys hs hown A n c hn hx hc hr hkw hWB hBw hlen (fun A' n' c' w' h1 h2 h3 h4 _ h6 h7 h8 => h A' n' c' w' h1 h2 h3 h4 h6 h7 h8)
theorem OwnI.drew {B : Nat} {k : IntKind} {e : TypeId} {w : World} {v : Value} {zs : List Int} (h : OwnI B k e w v zs) : OwnI B k e w.drew v zs := h
theorem OwnI.drewN {B : Nat} {k : IntKind} {e : TypeId} {w : World} {v : Value} {zs : List Int} (h : OwnI B k e w v zs) (n : Nat) : OwnI B k e (w.drewN n) v zs := h
theorem OwnI.keepS {S : List Nat} {B : Nat} {k : IntKind} {e : TypeId} {w w' : World} {v : Value} {zs : List Int} (h : OwnI B k e w v zs) (hk : Kept S w w') (hS : ∀ s, s ∈ S → s < B) : OwnI B k e w' v zs := by
  rcases h.2 with ⟨h1, h2⟩ | ⟨g, cap, cur, h1, hb, hg, hn, hm, hs, ht⟩
  · exact ⟨h.1, .inl ⟨h1, h2⟩⟩
  · exact ⟨h.1, .inr ⟨g, cap, cur, h1, hb, (hk.block g (Array.getElem?_eq_some_iff.1 hg).1 (fun hx => by have := hS g hx; omega)).trans hg, hn, hm, hs, ht⟩⟩
theorem OwnI.less {B B' : Nat} {k : IntKind} {e : TypeId} {w : World} {v : Value} {zs : List Int} (h : OwnI B k e w v zs) (hB : B' ≤ B) : OwnI B' k e w v zs := by
  rcases h.2 with ⟨h1, h2⟩ | ⟨g, cap, cur, h1, hb, hg, hn, hm, hs, ht⟩
  · exact ⟨h.1, .inl ⟨h1, h2⟩⟩
  · exact ⟨h.1, .inr ⟨g, cap, cur, h1, by omega, hg, hn, hm, hs, ht⟩⟩
theorem Kept.thenG {S : List Nat} {g : Nat} {a b c : World} (k : Kept [g] b c) (h : Kept S a b) (hg : a.heap.size ≤ g) : Kept S a c := h.trans k (fun x hx hl => by simp at hx; omega)
theorem Kept.thenG2 {S : List Nat} {p g : Nat} {a b c : World} (k : Kept [p, g] b c) (h : Kept S a b) (hp : a.heap.size ≤ p) (hg : a.heap.size ≤ g) : Kept S a c := h.trans k (fun x hx hl => by simp at hx; omega)
theorem Kept.trans0 {a b c : World} (h : Kept [] a b) (h' : Kept [] b c) : Kept [] a c := h'.then_ h
end Go.Proofs.Ytgiokigokedakaa
