/- Acts that came in, each with a slice of bools: what they read as; how long they are. -/
import Derived.Test.YtekblfnemcaaeaaBools
import Derived.Test.YtekblfnemcaaeaaMark
import Derived.Deep.Slices
import Derived.Deep.Fields
import Derived.SizedLaws
set_option linter.unusedVariables false
set_option linter.unusedSimpArgs false
namespace Go.Proofs.Ytekblfnemcaaeaa
open Go.RowKit
section
open Go.ChangeShapes Go.WideShapes Go.Deep
variable {H : Type} {enc : TypeId × Value → H} {P : Program} {w : World} {base : Nat} {spare : Nat → Bool} {held : Bool}
theorem open_slice_flds {t e : TypeId} {fs : Array Field} {fuel : Nat} {cs : List Value} {x : DataW H × List MemPlace} (ht : P.underlying t = some (.slice e)) (he : P.underlying e = some (.struct fs))
    (hone : oneCellFields P fs = true) (hC : P.cellsOf e = fs.size) (h : DataW.trod enc P w base spare held fuel t cs = some x) :
    (cs = [.slice none 0 0] ∧ x = (.nil, [])) ∨
    ∃ (a : Addr) (len cap m : Nat) (D : Nat → DataW H) (Pl : Nat → List MemPlace), cs = [.slice (some a) len cap] ∧ base ≤ a.block ∧ len ≤ cap ∧ cap ≤ maxLen ∧ m = (if spare a.block then cap else len) ∧
      x = (.slice ((List.range len).map D) ((List.range (m - len)).map fun j => D (len + j)), MemPlace.row a (m * fs.size) ++ (List.range m).flatMap Pl) ∧
      ∀ i, i < m → ∃ (ys : List (DataW H × List MemPlace)) (n : Nat), D i = .agg (ys.map (·.1)) ∧ ys.length = fs.size ∧
        ∀ (j : Nat) (f : Field), fs[j]? = some f → ∃ (v : Value) (y : DataW H × List MemPlace), w.cell? (a.add (i * fs.size + j)) = some v ∧ ys[j]? = some y ∧ DataW.trod enc P w base spare held n f.type [v] = some y := by
  rcases open_slice ht h with h0 | ⟨a, len, cap, m, n, D, Pl, hcs, hb, hl, hm, hmm, hx, hi⟩
  · exact .inl h0
  · refine .inr ⟨a, len, cap, m, D, Pl, hcs, hb, hl, hm, hmm, by rw [hC] at hx; exact hx, fun i him => ?_⟩
    obtain ⟨cs', hc, ht'⟩ := hi i him
    rw [hC] at hc
    obtain ⟨ys, n', hn', hy, hlen, hyl, hf⟩ := DataW.trod_struct he ht'
    obtain ⟨_, hcl, hat⟩ := World.cells?_some hc
    simp only [Prod.mk.injEq] at hy
    refine ⟨ys, n', hy.1, hyl, fun j f hj => ?_⟩
    obtain ⟨ho, hk⟩ := hone_of hone j f hj
    have hjl : j < fs.size := (Array.getElem?_eq_some_iff.1 hj).1
    have hcell := hat j hjl
    have hv : cs'[j]? = some (cs'[j]'(by omega)) := List.getElem?_eq_getElem (by omega)
    have h1 := hf j f hj
    rw [ho, hk] at h1
    have hone' : (cs'.drop j).take 1 = [cs'[j]'(by omega)] := by
      rw [List.drop_eq_getElem_cons (by omega)]
      rfl
    rw [hone'] at h1
    have hys : ys[j]? = some (ys[j]'(by omega)) := List.getElem?_eq_getElem (by omega)
    refine ⟨_, _, ?_, hys, h1.trans hys⟩
    rw [← Go.Deep.add_add, hcell, hv]
theorem weights_all {e : TypeId} {l : List (DataW H)} {d : DataW H} (hd : d ∈ l) {n : Nat} (hn : n ∈ d.weights P e) : n ∈ DataW.weightsAll P e l := by
  induction l with
  | nil => cases hd
  | cons x l ih =>
    simp only [DataW.weightsAll, List.mem_append]
    rcases List.mem_cons.1 hd with rfl | hd
    · exact .inl hn
    · exact .inr (ih hd)
end
/-- An act. -/
structure ActL where
  k : Int
  n : Int
  A : Option Addr
  l : Nat
  c : Nat
  B : Nat → Bool
def ActL.In (w : World) (x : Addr) (i : Nat) (z : ActL) : Prop :=
  w.cell? (x.add (i * 3)) = some (.int .i64 z.k) ∧ w.cell? (x.add (i * 3 + 1)) = some (.int .i64 z.n) ∧ w.cell? (x.add (i * 3 + 2)) = some (.slice z.A z.l z.c) ∧ IsBools w z.A z.l z.c z.B ∧ z.l ≤ 140737488351232 ∧ (Lit.int .i64 z.k).wf = true ∧ (Lit.int .i64 z.n).wf = true
def IsActL (w : World) (a : Option Addr) (len cap : Nat) (_ : Unit) : Prop :=
  (a = none ∧ len = 0 ∧ cap = 0) ∨ ∃ x : Addr, a = some x ∧ len ≤ cap ∧ cap ≤ maxLen ∧ ∀ i, i < len → ∃ z : ActL, z.In w x i
section
open Go.ChangeShapes Go.WideShapes Go.Deep
variable {H : Type} {enc : TypeId × Value → H} {w : World} {base : Nat} {held : Bool}
theorem bools_sized {fuel : Nat} {v : Value} {y : DataW H × List MemPlace} (h : DataW.trod enc Try.prog w base (fun _ => true) held fuel 32 [v] = some y) (hsz : ∀ n, n ∈ y.1.weights Try.prog 32 → n ≤ reachBytes) : ∃ a len cap B, v = .slice a len cap ∧ IsBools w a len cap B ∧ len ≤ 140737488351232 := by
  obtain ⟨a, len, cap, B, he, hB⟩ := isT32_trod h
  simp only [List.cons.injEq, and_true] at he
  subst he
  refine ⟨a, len, cap, B, rfl, hB, ?_⟩
  rcases open_slice Try.underlying32 h with ⟨hcs, _⟩ | ⟨a', len', cap', m, n, D, Pl, hcs, hb, hl, hm, hmm, hx, hi⟩
  · simp only [List.cons.injEq, Value.slice.injEq, and_true] at hcs
    obtain ⟨_, rfl, _⟩ := hcs
    omega
  · simp only [List.cons.injEq, Value.slice.injEq, and_true] at hcs
    obtain ⟨_, rfl, _⟩ := hcs
    have h1 := hsz ((((List.range len).map D).length + ((List.range (m - len)).map fun j => D (len + j)).length) * Try.prog.bytesOf 4) (by
      rw [hx]
      simp [DataW.weights, Try.underlying32])
    have hby : Try.prog.bytesOf 4 = 1 := by kernel_rfl
    rw [hby] at h1
    simp only [List.length_map, List.length_range, reachBytes] at h1
    omega
theorem isT43_of {a : Option Addr} {len cap : Nat} {d : DataW H} {p : List MemPlace} (h : DataW.Trod enc Try.prog w base (fun _ => true) held 43 (.slice a len cap) d p) (hsz : ∀ n, n ∈ d.weights Try.prog 43 → n ≤ reachBytes) : ∃ zs, IsActL w a len cap zs := by
  obtain ⟨fuel, hf⟩ := h
  have hf' : DataW.trod enc Try.prog w base (fun _ => true) held fuel 43 [.slice a len cap] = some (d, p) := by simpa [Value.cells] using hf
  refine ⟨(), ?_⟩
  rcases open_slice_flds Try.underlying43 Try.underlying45 (by kernel_rfl) (by kernel_rfl) hf' with ⟨hcs, _⟩ | ⟨a', len', cap', m, D, Pl, hcs, hb, hl, hm, hmm, hx, hi⟩
  · simp only [List.cons.injEq, Value.slice.injEq, and_true] at hcs
    obtain ⟨rfl, rfl, rfl⟩ := hcs
    exact .inl ⟨rfl, rfl, rfl⟩
  · simp only [List.cons.injEq, Value.slice.injEq, and_true] at hcs
    obtain ⟨rfl, rfl, rfl⟩ := hcs
    simp only [if_true] at hmm
    subst hmm
    simp only [Prod.mk.injEq] at hx
    obtain ⟨rfl, _⟩ := hx
    refine .inr ⟨a', rfl, hl, hm, fun i hlt => ?_⟩
    obtain ⟨ys, n, hD, _, hfl⟩ := hi i (by omega)
    obtain ⟨v0, y0, c0, q0, t0⟩ := hfl 0 _ rfl
    obtain ⟨v1, y1, c1, q1, t1⟩ := hfl 1 _ rfl
    obtain ⟨v2, y2, c2, q2, t2⟩ := hfl 2 _ rfl
    obtain ⟨k, e0, _, w0⟩ := DataW.trod_int Try.underlying3 t0
    obtain ⟨p1, e1, _, w1⟩ := DataW.trod_int Try.underlying3 t1
    simp only [List.cons.injEq, and_true] at e0 e1
    subst e0 e1
    obtain ⟨A, l, c, B, rfl, hB, hl2⟩ := bools_sized t2 (fun n hn => hsz n (by
      have hm2 : D i ∈ (List.range len).map D := List.mem_map.2 ⟨i, List.mem_range.2 hlt, rfl⟩
      have h2 : n ∈ (D i).weights Try.prog 45 := by
        rw [hD]
        have hq : (ys.map (·.1))[2]? = some y2.1 := by rw [List.getElem?_map, q2]; rfl
        have h3 := DataW.weights_mem_each (P := Try.prog) (ts := [3, 3, 32]) (j := 2) (t := 32) rfl hq n hn
        simpa [DataW.weights, Try.underlying45] using h3
      simp only [DataW.weights, Try.underlying43, List.mem_cons, List.mem_append]
      exact .inr (.inl (weights_all hm2 h2))))
    exact ⟨⟨k, p1, A, l, c, B⟩, c0, c1, c2, hB, hl2, w0, w1⟩
end
theorem add_off (x : Addr) (i j : Nat) (hj : 0 < j) : (⟨(x.add i).block, (x.add i).off + j, none⟩ : Addr) = x.add (i + j) := by
  unfold Addr.add
  by_cases hi : i = 0
  · subst hi; simp; intro h; omega
  · simp [hi, Nat.add_assoc]
theorem IsActL.get {w : World} {a : Option Addr} {len cap : Nat} {u : Unit} (h : IsActL w a len cap u) {i : Nat} (hi : i < len) :
    ∃ (x : Addr) (z : ActL), a = some x ∧ x.block < w.heap.size ∧ IsBools w z.A z.l z.c z.B ∧ z.l ≤ 140737488351232 ∧ (Lit.int .i64 z.k).wf = true ∧ (Lit.int .i64 z.n).wf = true ∧
      ∀ w', Kept [] w w' → w'.cell? (x.add (i * 3)) = some (.int .i64 z.k) ∧ w'.cell? ⟨(x.add (i * 3)).block, (x.add (i * 3)).off + 1, none⟩ = some (.int .i64 z.n) ∧ w'.cell? ⟨(x.add (i * 3)).block, (x.add (i * 3)).off + 2, none⟩ = some (.slice z.A z.l z.c) := by
  rcases h with ⟨rfl, rfl, rfl⟩ | ⟨x, rfl, h1, h2, h3⟩
  · omega
  · obtain ⟨z, c0, c1, c2, hB, hl, w0, w1⟩ := h3 i hi
    have hlt : x.block < w.heap.size := by have := cell_lt c0; rwa [add_block] at this
    have hb : ∀ w', Kept [] w w' → w'.heap[x.block]? = w.heap[x.block]? := fun w' hk => hk.block x.block hlt (by simp)
    exact ⟨x, z, rfl, hlt, hB, hl, w0, w1, fun w' hk => ⟨(World.cell?_of_block (by rw [add_block]; exact hb w' hk)).trans c0, by rw [add_off _ _ _ (by omega)]; exact (World.cell?_of_block (by rw [add_block]; exact hb w' hk)).trans c1, by rw [add_off _ _ _ (by omega)]; exact (World.cell?_of_block (by rw [add_block]; exact hb w' hk)).trans c2⟩⟩
end Go.Proofs.Ytekblfnemcaaeaa
