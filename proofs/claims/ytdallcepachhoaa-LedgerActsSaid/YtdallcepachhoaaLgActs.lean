/- Acts that came in, each with a block and a slice of addresses; great, filled. -/
import Derived.Test.YtdallcepachhoaaLgAlive
import Derived.Deep.Slices
import Derived.Deep.Fields
import Derived.SizedLaws
set_option linter.unusedVariables false
set_option linter.unusedSimpArgs false
namespace Go.Proofs.Ytdallcepachhoaa
open Go.RowKit
/-- An act. -/
structure ActZ where
  k : Int
  a : Int
  n : Int
  l : Int
  A : Option Addr
  len : Nat
  cap : Nat
  zs : List Int
def ActZ.In (w : World) (x : Addr) (i : Nat) (z : ActZ) : Prop :=
  (w.cell? (x.add (i * 5)) = some (.int .i64 z.k) ∧ w.cell? (x.add (i * 5 + 1)) = some (.int .u64 z.a) ∧ w.cell? (x.add (i * 5 + 2)) = some (.int .u64 z.n) ∧ w.cell? (x.add (i * 5 + 3)) = some (.int .u64 z.l) ∧ w.cell? (x.add (i * 5 + 4)) = some (.slice z.A z.len z.cap)) ∧
  IsRow .u64 w z.A z.len z.cap z.zs ∧ (Lit.int .i64 z.k).wf = true ∧ (Lit.int .u64 z.a).wf = true ∧ (Lit.int .u64 z.n).wf = true ∧ (Lit.int .u64 z.l).wf = true
def IsActZ (w : World) (a : Option Addr) (len cap : Nat) (_ : Unit) : Prop :=
  (a = none ∧ len = 0 ∧ cap = 0) ∨ ∃ x : Addr, a = some x ∧ len ≤ cap ∧ cap ≤ maxLen ∧ ∀ i, i < len → ∃ z : ActZ, z.In w x i
section
open Go.ChangeShapes Go.WideShapes Go.Deep
variable {H : Type} {enc : TypeId × Value → H} {w : World} {base : Nat} {held : Bool}
theorem isT22_of {a : Option Addr} {len cap : Nat} {d : DataW H} {p : List MemPlace} (h : DataW.Trod enc Try.prog w base (fun _ => true) held 22 (.slice a len cap) d p) (hsz : ∀ n, n ∈ d.weights Try.prog 22 → n ≤ reachBytes) : ∃ zs, IsActZ w a len cap zs := by
  obtain ⟨fuel, hf⟩ := h
  have hf' : DataW.trod enc Try.prog w base (fun _ => true) held fuel 22 [.slice a len cap] = some (d, p) := by simpa [Value.cells] using hf
  refine ⟨(), ?_⟩
  rcases open_slice Try.underlying22 hf' with ⟨hcs, _⟩ | ⟨a', len', cap', m, n, D, Pl, hcs, hb, hl, hm, hmm, hx, hi⟩
  · simp only [List.cons.injEq, Value.slice.injEq, and_true] at hcs
    obtain ⟨rfl, rfl, rfl⟩ := hcs
    exact .inl ⟨rfl, rfl, rfl⟩
  · simp only [List.cons.injEq, Value.slice.injEq, and_true] at hcs
    obtain ⟨rfl, rfl, rfl⟩ := hcs
    simp only [if_true] at hmm
    subst hmm
    refine .inr ⟨a', rfl, hl, hm, fun i hlt => ?_⟩
    obtain ⟨cs', hc, ht'⟩ := hi i (by omega)
    have hC : Try.prog.cellsOf 56 = 5 := by kernel_rfl
    rw [hC] at hc
    obtain ⟨ys, n', hn', hy, hlen, hyl, hfl⟩ := DataW.trod_struct Try.underlying56 ht'
    obtain ⟨_, hcl, hat⟩ := World.cells?_some hc
    have h0 := hfl 0 _ rfl
    have h1 := hfl 1 _ rfl
    have h2 := hfl 2 _ rfl
    have q0 : ys[0]? = some (ys[0]'(by simp [hyl])) := List.getElem?_eq_getElem _
    have q1 : ys[1]? = some (ys[1]'(by simp [hyl])) := List.getElem?_eq_getElem _
    have q2 : ys[2]? = some (ys[2]'(by simp [hyl])) := List.getElem?_eq_getElem _
    rw [q0] at h0
    rw [q1] at h1
    rw [q2] at h2
    have hone : Try.prog.cellsOf 3 = 1 := by kernel_rfl
    have hblk : Try.prog.cellsOf 33 = 3 := by kernel_rfl
    have hsl : Try.prog.cellsOf 54 = 1 := by kernel_rfl
    have hu : Try.prog.cellsOf 29 = 1 := by kernel_rfl
    obtain ⟨v0, v1, v2, v3, v4, rfl⟩ : ∃ v0 v1 v2 v3 v4, cs' = [v0, v1, v2, v3, v4] := by
      match cs', hcl with
      | [v0, v1, v2, v3, v4], _ => exact ⟨_, _, _, _, _, rfl⟩
    have h0 : DataW.trod enc Try.prog w base (fun _ => true) held n' 3 (List.take (Try.prog.cellsOf 3) [v0, v1, v2, v3, v4]) = _ := h0
    have h1 : DataW.trod enc Try.prog w base (fun _ => true) held n' 33 (List.take (Try.prog.cellsOf 33) [v1, v2, v3, v4]) = _ := h1
    have h2 : DataW.trod enc Try.prog w base (fun _ => true) held n' 54 (List.take (Try.prog.cellsOf 54) [v4]) = _ := h2
    rw [hone] at h0
    rw [hblk] at h1
    rw [hsl] at h2
    simp only [List.take] at h0 h1 h2
    obtain ⟨k, e0, _, w0⟩ := DataW.trod_int Try.underlying3 h0
    obtain ⟨zs, m', hm', _, _, hzl, hg⟩ := DataW.trod_struct Try.underlying33 h1
    have g0 := hg 0 _ rfl
    have g1 := hg 1 _ rfl
    have g2 := hg 2 _ rfl
    have r0 : zs[0]? = some (zs[0]'(by simp [hzl])) := List.getElem?_eq_getElem _
    have r1 : zs[1]? = some (zs[1]'(by simp [hzl])) := List.getElem?_eq_getElem _
    have r2 : zs[2]? = some (zs[2]'(by simp [hzl])) := List.getElem?_eq_getElem _
    rw [r0] at g0
    rw [r1] at g1
    rw [r2] at g2
    have g0 : DataW.trod enc Try.prog w base (fun _ => true) held m' 29 (List.take (Try.prog.cellsOf 29) [v1, v2, v3]) = _ := g0
    have g1 : DataW.trod enc Try.prog w base (fun _ => true) held m' 29 (List.take (Try.prog.cellsOf 29) [v2, v3]) = _ := g1
    have g2 : DataW.trod enc Try.prog w base (fun _ => true) held m' 29 (List.take (Try.prog.cellsOf 29) [v3]) = _ := g2
    rw [hu] at g0 g1 g2
    simp only [List.take] at g0 g1 g2
    obtain ⟨a0, e1, _, w1⟩ := DataW.trod_int Try.underlying29 g0
    obtain ⟨a1, e2, _, w2⟩ := DataW.trod_int Try.underlying29 g1
    obtain ⟨a2, e3, _, w3⟩ := DataW.trod_int Try.underlying29 g2
    obtain ⟨A, l, c, us, e4, hR⟩ := isRow_trod Try.underlying54 Try.underlying29 (by kernel_rfl) h2
    simp only [List.cons.injEq, and_true] at e0 e1 e2 e3 e4
    subst e0 e1 e2 e3 e4
    have t0 := hat 0 (by omega)
    have t1 := hat 1 (by omega)
    have t2 := hat 2 (by omega)
    have t3 := hat 3 (by omega)
    have t4 := hat 4 (by omega)
    simp only [Go.Deep.add_add, Nat.add_zero] at t0 t1 t2 t3 t4
    exact ⟨⟨k, a0, a1, a2, A, l, c, us⟩, ⟨t0, t1, t2, t3, t4⟩, hR, w0, w1, w2, w3⟩
end
theorem add_off (x : Addr) (i j : Nat) (hj : 0 < j) : (⟨(x.add i).block, (x.add i).off + j, none⟩ : Addr) = x.add (i + j) := by
  unfold Addr.add
  by_cases hi : i = 0
  · subst hi; simp; intro h; omega
  · simp [hi, Nat.add_assoc]
theorem IsActZ.get {w : World} {a : Option Addr} {len cap : Nat} {u : Unit} (h : IsActZ w a len cap u) {i : Nat} (hi : i < len) :
    ∃ (x : Addr) (z : ActZ), a = some x ∧ x.block < w.heap.size ∧ IsRow .u64 w z.A z.len z.cap z.zs ∧ (Lit.int .i64 z.k).wf = true ∧ (Lit.int .u64 z.a).wf = true ∧ (Lit.int .u64 z.n).wf = true ∧ (Lit.int .u64 z.l).wf = true ∧
      ∀ w', Kept [] w w' → w'.cell? (x.add (i * 5)) = some (.int .i64 z.k) ∧ w'.cell? ⟨(x.add (i * 5)).block, (x.add (i * 5)).off + 1, none⟩ = some (.int .u64 z.a) ∧ w'.cell? ⟨(x.add (i * 5)).block, (x.add (i * 5)).off + 2, none⟩ = some (.int .u64 z.n) ∧ w'.cell? ⟨(x.add (i * 5)).block, (x.add (i * 5)).off + 3, none⟩ = some (.int .u64 z.l) ∧ w'.cell? ⟨(x.add (i * 5)).block, (x.add (i * 5)).off + 4, none⟩ = some (.slice z.A z.len z.cap) := by
  rcases h with ⟨rfl, rfl, rfl⟩ | ⟨x, rfl, h1, h2, h3⟩
  · omega
  · obtain ⟨z, ⟨c0, c1, c2, c3, c4⟩, hB, w0, w1, w2, w3⟩ := h3 i hi
    have hlt : x.block < w.heap.size := by have := cell_lt c0; rwa [add_block] at this
    have hb : ∀ w', Kept [] w w' → w'.heap[x.block]? = w.heap[x.block]? := fun w' hk => hk.block x.block hlt (by simp)
    exact ⟨x, z, rfl, hlt, hB, w0, w1, w2, w3, fun w' hk => ⟨(World.cell?_of_block (by rw [add_block]; exact hb w' hk)).trans c0, by rw [add_off _ _ _ (by omega)]; exact (World.cell?_of_block (by rw [add_block]; exact hb w' hk)).trans c1, by rw [add_off _ _ _ (by omega)]; exact (World.cell?_of_block (by rw [add_block]; exact hb w' hk)).trans c2, by rw [add_off _ _ _ (by omega)]; exact (World.cell?_of_block (by rw [add_block]; exact hb w' hk)).trans c3, by rw [add_off _ _ _ (by omega)]; exact (World.cell?_of_block (by rw [add_block]; exact hb w' hk)).trans c4⟩⟩
end Go.Proofs.Ytdallcepachhoaa
