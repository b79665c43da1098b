/- Acts of three numbers that came in. -/
import Derived.Test.YtgiokigokedakaaOwn
import Derived.Deep.Slices
import Derived.Deep.Fields
set_option linter.unusedVariables false
set_option linter.unusedSimpArgs false
namespace Go.Proofs.Ytgiokigokedakaa
open Go.RowKit
section
open Go.ChangeShapes Go.WideShapes Go.Deep
variable {H : Type} {enc : TypeId × Value → H} {P : Program} {w : World} {base : Nat} {spare : Nat → Bool} {held : Bool}
theorem open_slice_fields3 {t e : TypeId} {fs : Array Field} {fuel : Nat} {cs : List Value} {x : DataW H × List MemPlace} (ht : P.underlying t = some (.slice e)) (he : P.underlying e = some (.struct fs))
    (hone : oneCellFields P fs = true) (hC : P.cellsOf e = fs.size) (h : DataW.trod enc P w base spare held fuel t cs = some x) :
    (cs = [.slice none 0 0] ∧ x = (.nil, [])) ∨
    ∃ (a : Addr) (len cap m : Nat) (D : Nat → DataW H) (Pl : Nat → List MemPlace), cs = [.slice (some a) len cap] ∧ base ≤ a.block ∧ len ≤ cap ∧ cap ≤ maxLen ∧ m = (if spare a.block then cap else len) ∧
      x = (.slice ((List.range len).map D) ((List.range (m - len)).map fun j => D (len + j)), MemPlace.row a (m * fs.size) ++ (List.range m).flatMap Pl) ∧
      ∀ i, i < m → ∃ (ys : List (DataW H × List MemPlace)) (n : Nat), D i = .agg (ys.map (·.1)) ∧ Pl i = ys.flatMap (·.2) ∧ ys.length = fs.size ∧
        ∀ (j : Nat) (f : Field), fs[j]? = some f → ∃ (v : Value) (y : DataW H × List MemPlace), w.cell? (a.add (i * fs.size + j)) = some v ∧ ys[j]? = some y ∧ DataW.trod enc P w base spare held n f.type [v] = some y := by
  rcases open_slice ht h with h0 | ⟨a, len, cap, m, n, D, Pl, hcs, hb, hl, hm, hmm, hx, hi⟩
  · exact .inl h0
  · refine .inr ⟨a, len, cap, m, D, Pl, hcs, hb, hl, hm, hmm, by rw [hC] at hx; exact hx, fun i him => ?_⟩
    obtain ⟨cs', hc, ht'⟩ := hi i him
    rw [hC] at hc
    obtain ⟨ys, n', hn', hy, hlen, hyl, hf⟩ := DataW.trod_struct he ht'
    obtain ⟨_, hcl, hat⟩ := World.cells?_some hc
    simp only [Prod.mk.injEq] at hy
    refine ⟨ys, n', hy.1, hy.2, hyl, fun j f hj => ?_⟩
    obtain ⟨ho, hk⟩ := hone_of hone j f hj
    have hjl : j < fs.size := (Array.getElem?_eq_some_iff.1 hj).1
    have hcell := hat j hjl
    have hv : cs'[j]? = some (cs'[j]'(by omega)) := List.getElem?_eq_getElem (by omega)
    have h1 := hf j f hj
    rw [ho, hk] at h1
    have hone' : (cs'.drop j).take 1 = [cs'[j]'(by omega)] := by
      rw [List.drop_eq_getElem_cons (by omega)]
      rfl
    rw [hone'] at h1
    have hys : ys[j]? = some (ys[j]'(by omega)) := List.getElem?_eq_getElem (by omega)
    refine ⟨_, _, ?_, hys, h1.trans hys⟩
    rw [← Go.Deep.add_add, hcell, hv]
end
structure Act3 where
  k : Int
  n : Int
  a : Int
def Act3.In (w : World) (x : Addr) (i : Nat) (z : Act3) : Prop :=
  w.cell? (x.add (i * 3)) = some (.int .i64 z.k) ∧ w.cell? (x.add (i * 3 + 1)) = some (.int .i64 z.n) ∧ w.cell? (x.add (i * 3 + 2)) = some (.int .u64 z.a) ∧ (Lit.int .i64 z.k).wf = true ∧ (Lit.int .i64 z.n).wf = true ∧ (Lit.int .u64 z.a).wf = true
def IsActs (w : World) (a : Option Addr) (len cap : Nat) (Z : Nat → Act3) : Prop :=
  (a = none ∧ len = 0 ∧ cap = 0) ∨ ∃ x : Addr, a = some x ∧ len ≤ cap ∧ cap ≤ maxLen ∧ ∀ i, i < len → (Z i).In w x i
theorem add_off (x : Addr) (m j : Nat) (h : 0 < j) : (⟨(x.add m).block, (x.add m).off + j, none⟩ : Addr) = x.add (m + j) := by
  obtain ⟨b, o, s⟩ := x
  unfold Addr.add
  split <;> split <;> simp_all <;> omega
theorem IsActs.get {w : World} {a : Option Addr} {len cap : Nat} {Z : Nat → Act3} (h : IsActs w a len cap Z) {i : Nat} (hi : i < len) :
    ∃ x : Addr, a = some x ∧ x.block < w.heap.size ∧ (∀ w', Kept [] w w' → w'.cell? (x.add (i * 3)) = some (.int .i64 (Z i).k) ∧ w'.cell? ⟨(x.add (i * 3)).block, (x.add (i * 3)).off + 1, none⟩ = some (.int .i64 (Z i).n) ∧ w'.cell? ⟨(x.add (i * 3)).block, (x.add (i * 3)).off + 2, none⟩ = some (.int .u64 (Z i).a)) ∧ (Lit.int .i64 (Z i).k).wf = true ∧ (Lit.int .i64 (Z i).n).wf = true ∧ (Lit.int .u64 (Z i).a).wf = true := by
  rcases h with ⟨rfl, rfl, rfl⟩ | ⟨x, rfl, h1, h2, h3⟩
  · omega
  · obtain ⟨c0, c1, c2, w0, w1, w2⟩ := h3 i hi
    have hl : x.block < w.heap.size := by have := cell_lt c0; rwa [add_block] at this
    have e : ∀ w', Kept [] w w' → ∀ j v, w.cell? (x.add j) = some v → w'.cell? (x.add j) = some v := fun w' hk j v hc => (World.cell?_of_block (by rw [add_block]; exact hk.block x.block hl (by simp))).trans hc
    exact ⟨x, rfl, hl, fun w' hk => ⟨e w' hk _ _ c0, by rw [add_off _ _ _ (by omega)]; exact e w' hk _ _ c1, by rw [add_off _ _ _ (by omega)]; exact e w' hk _ _ c2⟩, w0, w1, w2⟩
theorem IsActs.cap {w : World} {a : Option Addr} {len cap : Nat} {Z : Nat → Act3} (h : IsActs w a len cap Z) : len ≤ cap ∧ cap ≤ maxLen := by
  rcases h with ⟨rfl, rfl, rfl⟩ | ⟨x, rfl, h1, h2, h3⟩
  · exact ⟨Nat.le_refl _, Nat.zero_le _⟩
  · exact ⟨h1, h2⟩
section
open Go.ChangeShapes Go.WideShapes Go.Deep
variable {H : Type} {enc : TypeId × Value → H} {w : World} {base : Nat} {held : Bool}
theorem isT59_trod {fuel : Nat} {v : Value} {x : DataW H × List MemPlace} (h : DataW.trod enc Try.prog w base (fun _ => true) held fuel 59 [v] = some x) : ∃ a len cap Z, [v] = [.slice a len cap] ∧ IsActs w a len cap Z := by
  rcases open_slice_fields3 Try.underlying59 Try.underlying62 (by kernel_rfl) (by kernel_rfl) h with ⟨hcs, _⟩ | ⟨a, len, cap, m, D, Pl, hcs, hb, hl, hm, hmm, hx, hi⟩
  · exact ⟨none, 0, 0, fun _ => ⟨0, 0, 0⟩, hcs, .inl ⟨rfl, rfl, rfl⟩⟩
  · simp only [if_true] at hmm
    have hk' : ∀ i, ∃ z : Act3, i < len → z.In w a i := by
      intro i
      by_cases hlt : i < len
      · obtain ⟨ys, n, _, _, _, hf⟩ := hi i (by omega)
        obtain ⟨v0, y0, c0, _, t0⟩ := hf 0 _ rfl
        obtain ⟨v1, y1, c1, _, t1⟩ := hf 1 _ rfl
        obtain ⟨v2, y2, c2, _, t2⟩ := hf 2 _ rfl
        obtain ⟨k, e0, _, w0⟩ := DataW.trod_int Try.underlying3 t0
        obtain ⟨p, e1, _, w1⟩ := DataW.trod_int Try.underlying3 t1
        obtain ⟨r, e2, _, w2⟩ := DataW.trod_int Try.underlying26 t2
        simp only [List.cons.injEq, and_true] at e0 e1 e2
        subst e0 e1 e2
        exact ⟨⟨k, p, r⟩, fun _ => ⟨c0, c1, c2, w0, w1, w2⟩⟩
      · exact ⟨⟨0, 0, 0⟩, fun h => absurd h hlt⟩
    obtain ⟨Z, hZ⟩ := Classical.axiomOfChoice hk'
    exact ⟨some a, len, cap, Z, hcs, .inr ⟨a, rfl, hl, hm, hZ⟩⟩
theorem isT59_of {a : Option Addr} {len cap : Nat} {d : DataW H} {p : List MemPlace} (h : DataW.Trod enc Try.prog w base (fun _ => true) held 59 (.slice a len cap) d p) : ∃ Z, IsActs w a len cap Z := by
  obtain ⟨fuel, hf⟩ := h
  obtain ⟨a', l', c', Z, he, hr⟩ := isT59_trod (v := .slice a len cap) (by simpa [Value.cells] using hf)
  simp only [List.cons.injEq, Value.slice.injEq, and_true] at he
  obtain ⟨rfl, rfl, rfl⟩ := he
  exact ⟨Z, hr⟩
end
section T10
open Go.ChangeShapes Go.WideShapes Go.Deep
variable {H : Type} {enc : TypeId × Value → H} {w : World} {base : Nat} {held : Bool}
end T10
end Go.Proofs.Ytgiokigokedakaa
