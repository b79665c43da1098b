/- A slice of acts that came in: rows of three numbers. -/
import Derived.Test.YthnfhenbkijihaaRow
import Derived.Deep.Slices
import Derived.Deep.Fields
import Derived.ChangeSame
set_option linter.unusedVariables false
set_option linter.unusedSimpArgs false
namespace Go.Proofs.Ythnfhenbkijihaa
open Go.RowKit
section
open Go.ChangeShapes Go.WideShapes Go.Deep
variable {H : Type} {enc : TypeId × Value → H} {P : Program} {w : World} {base : Nat} {spare : Nat → Bool} {held : Bool}
theorem open_slice_fields {t e : TypeId} {fs : Array Field} {fuel : Nat} {cs : List Value} {x : DataW H × List MemPlace} (ht : P.underlying t = some (.slice e)) (he : P.underlying e = some (.struct fs))
    (hone : oneCellFields P fs = true) (hC : P.cellsOf e = fs.size) (h : DataW.trod enc P w base spare held fuel t cs = some x) :
    (cs = [.slice none 0 0] ∧ x = (.nil, [])) ∨
    ∃ (a : Addr) (len cap m : Nat) (D : Nat → DataW H) (Pl : Nat → List MemPlace), cs = [.slice (some a) len cap] ∧ base ≤ a.block ∧ len ≤ cap ∧ cap ≤ maxLen ∧ m = (if spare a.block then cap else len) ∧
      x = (.slice ((List.range len).map D) ((List.range (m - len)).map fun j => D (len + j)), MemPlace.row a (m * fs.size) ++ (List.range m).flatMap Pl) ∧
      ∀ i, i < m → ∃ (ys : List (DataW H × List MemPlace)) (n : Nat), D i = .agg (ys.map (·.1)) ∧ Pl i = ys.flatMap (·.2) ∧ ys.length = fs.size ∧
        ∀ (j : Nat) (f : Field), fs[j]? = some f → ∃ (v : Value) (y : DataW H × List MemPlace), w.cell? (a.add (i * fs.size + j)) = some v ∧ ys[j]? = some y ∧ DataW.trod enc P w base spare held n f.type [v] = some y := by
  rcases open_slice ht h with h0 | ⟨a, len, cap, m, n, D, Pl, hcs, hb, hl, hm, hmm, hx, hi⟩
  · exact .inl h0
  · refine .inr ⟨a, len, cap, m, D, Pl, hcs, hb, hl, hm, hmm, by rw [hC] at hx; exact hx, fun i him => ?_⟩
    obtain ⟨cs', hc, ht'⟩ := hi i him
    rw [hC] at hc
    obtain ⟨ys, n', hn', hy, hlen, hyl, hf⟩ := DataW.trod_struct he ht'
    obtain ⟨_, hcl, hat⟩ := World.cells?_some hc
    simp only [Prod.mk.injEq] at hy
    refine ⟨ys, n', hy.1, hy.2, hyl, fun j f hj => ?_⟩
    obtain ⟨ho, hk⟩ := hone_of hone j f hj
    have hjl : j < fs.size := (Array.getElem?_eq_some_iff.1 hj).1
    have hcell := hat j hjl
    have hv : cs'[j]? = some (cs'[j]'(by omega)) := List.getElem?_eq_getElem (by omega)
    have h1 := hf j f hj
    rw [ho, hk] at h1
    have hone' : (cs'.drop j).take 1 = [cs'[j]'(by omega)] := by
      rw [List.drop_eq_getElem_cons (by omega)]
      rfl
    rw [hone'] at h1
    have hys : ys[j]? = some (ys[j]'(by omega)) := List.getElem?_eq_getElem (by omega)
    refine ⟨_, _, ?_, hys, h1.trans hys⟩
    rw [← Go.Deep.add_add, hcell, hv]
end
/-- Acts that came in: nil, or rows of three numbers. -/
def IsActs (w : World) (a : Option Addr) (len cap : Nat) (zs : List (Int × Int × Int)) : Prop :=
  (a = none ∧ len = 0 ∧ cap = 0 ∧ zs = []) ∨
  ∃ x : Addr, a = some x ∧ len ≤ cap ∧ cap ≤ maxLen ∧ zs.length = len ∧ ∀ i, i < len → ∃ k p r : Int, zs[i]? = some (k, p, r) ∧ w.cell? (x.add (i * 3)) = some (.int .i64 k) ∧ w.cell? (x.add (i * 3 + 1)) = some (.int .i64 p) ∧ w.cell? (x.add (i * 3 + 2)) = some (.int .i64 r) ∧ (Lit.int .i64 p).wf = true ∧ (Lit.int .i64 r).wf = true
section
open Go.ChangeShapes Go.WideShapes Go.Deep
variable {H : Type} {enc : TypeId × Value → H} {w : World} {base : Nat} {held : Bool}
theorem isT32_trod {fuel : Nat} {v : Value} {x : DataW H × List MemPlace} (h : DataW.trod enc Try.prog w base (fun _ => true) held fuel 32 [v] = some x) : ∃ a len cap zs, [v] = [.slice a len cap] ∧ IsActs w a len cap zs := by
  rcases open_slice_fields Try.underlying32 Try.underlying36 (by kernel_rfl) (by kernel_rfl) h with ⟨hcs, _⟩ | ⟨a, len, cap, m, D, Pl, hcs, hb, hl, hm, hmm, hx, hi⟩
  · exact ⟨none, 0, 0, [], hcs, .inl ⟨rfl, rfl, rfl, rfl⟩⟩
  · simp only [if_true] at hmm
    have hk : ∀ i, i < cap → ∃ k p r : Int, w.cell? (a.add (i * 3)) = some (.int .i64 k) ∧ w.cell? (a.add (i * 3 + 1)) = some (.int .i64 p) ∧ w.cell? (a.add (i * 3 + 2)) = some (.int .i64 r) ∧ (Lit.int .i64 p).wf = true ∧ (Lit.int .i64 r).wf = true := by
      intro i hlt
      obtain ⟨ys, n, _, _, _, hf⟩ := hi i (by omega)
      obtain ⟨v0, y0, c0, _, t0⟩ := hf 0 _ rfl
      obtain ⟨v1, y1, c1, _, t1⟩ := hf 1 _ rfl
      obtain ⟨v2, y2, c2, _, t2⟩ := hf 2 _ rfl
      obtain ⟨k, e0, _, _⟩ := DataW.trod_int Try.underlying3 t0
      obtain ⟨p, e1, _, w1⟩ := DataW.trod_int Try.underlying3 t1
      obtain ⟨r, e2, _, w2⟩ := DataW.trod_int Try.underlying3 t2
      simp only [List.cons.injEq, and_true] at e0 e1 e2
      subst e0 e1 e2
      exact ⟨k, p, r, c0, c1, c2, w1, w2⟩
    obtain ⟨zs, hzl, hzs⟩ : ∃ zs : List (Int × Int × Int), zs.length = len ∧ ∀ i, i < len → ∃ k p r : Int, zs[i]? = some (k, p, r) ∧ w.cell? (a.add (i * 3)) = some (.int .i64 k) ∧ w.cell? (a.add (i * 3 + 1)) = some (.int .i64 p) ∧ w.cell? (a.add (i * 3 + 2)) = some (.int .i64 r) ∧ (Lit.int .i64 p).wf = true ∧ (Lit.int .i64 r).wf = true := by
      have hk' : ∀ i, i < len → ∃ z : Int × Int × Int, w.cell? (a.add (i * 3)) = some (.int .i64 z.1) ∧ w.cell? (a.add (i * 3 + 1)) = some (.int .i64 z.2.1) ∧ w.cell? (a.add (i * 3 + 2)) = some (.int .i64 z.2.2) ∧ (Lit.int .i64 z.2.1).wf = true ∧ (Lit.int .i64 z.2.2).wf = true := fun i hlt => by
        obtain ⟨k, p, r, h⟩ := hk i (by omega)
        exact ⟨(k, p, r), h⟩
      clear hk hi
      have hgen : ∀ n, n ≤ len → ∃ zs : List (Int × Int × Int), zs.length = n ∧ ∀ i, i < n → ∃ k p r : Int, zs[i]? = some (k, p, r) ∧ w.cell? (a.add (i * 3)) = some (.int .i64 k) ∧ w.cell? (a.add (i * 3 + 1)) = some (.int .i64 p) ∧ w.cell? (a.add (i * 3 + 2)) = some (.int .i64 r) ∧ (Lit.int .i64 p).wf = true ∧ (Lit.int .i64 r).wf = true := by
        intro n
        induction n with
        | zero => exact fun _ => ⟨[], rfl, fun i hi => by omega⟩
        | succ n ih =>
          intro hn
          obtain ⟨zs, hl, hz⟩ := ih (by omega)
          obtain ⟨⟨k, p, r⟩, hh⟩ := hk' n (by omega)
          refine ⟨zs ++ [(k, p, r)], by simp [hl], fun i hi => ?_⟩
          rcases Nat.lt_or_ge i n with h1 | h1
          · obtain ⟨k', p', r', h2, h3⟩ := hz i h1
            exact ⟨k', p', r', by rw [List.getElem?_append_left (by omega)]; exact h2, h3⟩
          · obtain rfl : i = n := by omega
            exact ⟨k, p, r, by rw [List.getElem?_append_right (by omega)]; simp [hl], hh⟩
      exact hgen len (Nat.le_refl _)
    exact ⟨some a, len, cap, zs, hcs, .inr ⟨a, rfl, hl, hm, hzl, hzs⟩⟩
theorem isT32_of {a : Option Addr} {len cap : Nat} {d : DataW H} {p : List MemPlace} (h : DataW.Trod enc Try.prog w base (fun _ => true) held 32 (.slice a len cap) d p) : ∃ zs, IsActs w a len cap zs := by
  obtain ⟨fuel, hf⟩ := h
  obtain ⟨a', l', c', zs, he, hr⟩ := isT32_trod (v := .slice a len cap) (by simpa [Value.cells] using hf)
  simp only [List.cons.injEq, Value.slice.injEq, and_true] at he
  obtain ⟨rfl, rfl, rfl⟩ := he
  exact ⟨zs, hr⟩
end
theorem add_off (x : Addr) (i j : Nat) (hj : 0 < j) : (⟨(x.add i).block, (x.add i).off + j, none⟩ : Addr) = x.add (i + j) := by
  unfold Addr.add
  by_cases hi : i = 0
  · subst hi; simp; intro h; omega
  · simp [hi, Nat.add_assoc]
/-- The i-th act, in any world that keeps what there was. -/
theorem IsActs.get {w : World} {a : Option Addr} {len cap : Nat} {zs : List (Int × Int × Int)} (h : IsActs w a len cap zs) (h0 : 0 < len) :
    ∃ x : Addr, a = some x ∧ ∀ i, i < len → ∃ k p r : Int, zs[i]? = some (k, p, r) ∧ (Lit.int .i64 p).wf = true ∧ (Lit.int .i64 r).wf = true ∧ ∀ w', Kept [] w w' → w'.cell? (x.add (i * 3)) = some (.int .i64 k) ∧ w'.cell? ⟨(x.add (i * 3)).block, (x.add (i * 3)).off + 1, none⟩ = some (.int .i64 p) ∧ w'.cell? ⟨(x.add (i * 3)).block, (x.add (i * 3)).off + 2, none⟩ = some (.int .i64 r) := by
  rcases h with ⟨rfl, rfl, _⟩ | ⟨x, rfl, _, _, _, hc⟩
  · omega
  · refine ⟨x, rfl, fun i hi => ?_⟩
    obtain ⟨k, p, r, hz, c0, c1, c2, w1, w2⟩ := hc i hi
    have kp : ∀ (j : Nat) (v : Value) (w' : World), w.cell? (x.add j) = some v → Kept [] w w' → w'.cell? (x.add j) = some v := fun j v w' hv hk =>
      (World.cell?_of_block (by rw [add_block]; exact hk.block x.block (by have := cell_lt hv; rwa [add_block] at this) (by simp))).trans hv
    exact ⟨k, p, r, hz, w1, w2, fun w' hk => ⟨kp _ _ w' c0 hk, by rw [add_off _ _ _ (by omega)]; exact kp _ _ w' c1 hk, by rw [add_off _ _ _ (by omega)]; exact kp _ _ w' c2 hk⟩⟩
end Go.Proofs.Ythnfhenbkijihaa
