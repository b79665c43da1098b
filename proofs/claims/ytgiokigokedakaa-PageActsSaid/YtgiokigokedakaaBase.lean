/- Small words for the walks of this seat: results, blocks known whole, what a call keeps, slices that came in. -/
import Derived.Test.YtgiokigokedakaaRows
import Derived.ChangeOld
import Derived.OpenShut
import Derived.ShutString
import Derived.Lib.SmallJoins
import Derived.Handy
import Derived.WalkSpells
import Derived.WalkLawsBesides
import Derived.Deep.Light
import Derived.Lib.Hide
import Derived.BigQuiet
import Derived.Deep.QuietTactic
import Derived.Deep.LoopGhost
set_option linter.unusedVariables false
set_option linter.unusedSimpArgs false
namespace Go.Proofs.Ytgiokigokedakaa
open Go.RowKit

theorem ret_bool {a b : Bool} (h : a = b) : Ending.returned (.bool a) = .returned (.bool b) := by rw [h]
theorem ret_int {k : IntKind} {a b : Int} (h : a = b) : Ending.returned (.int k a) = .returned (.int k b) := by rw [h]
theorem ret_two {k k' : IntKind} {a b c d : Int} (h : a = c) (h' : b = d) : Ending.returned (.tuple #[.int k a, .int k' b]) = .returned (.tuple #[.int k c, .int k' d]) := by rw [h, h']
theorem dec_f {P : Prop} [Decidable P] (h : ¬ P) : false = decide P := (decide_eq_false h).symm
theorem dec_t {P : Prop} [Decidable P] (h : P) : true = decide P := (decide_eq_true h).symm
theorem dec_iff {P Q : Prop} [Decidable P] [Decidable Q] (h : P ↔ Q) : decide P = decide Q := by simp [h]
theorem size_drewN (w : World) (n : Nat) : (w.drewN n).heap.size = w.heap.size := rfl
theorem lt_s1 (k n : Nat) (h : k < n) : k < n + 1 := Nat.lt_succ_of_lt h
theorem cell_s_lt (w : World) (b i c j : Nat) (v : Value) (h : b < c) : (w.setCell ⟨c, j, none⟩ v).cell? ⟨b, i, none⟩ = w.cell? ⟨b, i, none⟩ := World.cell?_setCell_other w _ _ v (by intro e; cases e; omega)
theorem cell_s_gt (w : World) (b i c j : Nat) (v : Value) (h : c < b) : (w.setCell ⟨c, j, none⟩ v).cell? ⟨b, i, none⟩ = w.cell? ⟨b, i, none⟩ := World.cell?_setCell_other w _ _ v (by intro e; cases e; omega)
attribute [go_sem] lt_s1 cell_s_lt cell_s_gt

/-- What a call keeps: the blocks that were there, but for those in S; nothing goes. -/
structure Kept (S : List Nat) (w w' : World) : Prop where
  os : w'.os = w.os
  tape : w'.tape = w.tape
  output : w'.output = w.output
  size : w.heap.size ≤ w'.heap.size
  block : ∀ k, k < w.heap.size → k ∉ S → w'.heap[k]? = w.heap[k]?
namespace Kept
variable {S T : List Nat} {a w w' : World}
theorem refl (S : List Nat) (w : World) : Kept S w w := ⟨rfl, rfl, rfl, Nat.le_refl _, fun _ _ _ => rfl⟩
theorem trans {b c : World} (h : Kept S a b) (k : Kept T b c) (hT : ∀ x, x ∈ T → x < a.heap.size → x ∈ S) : Kept S a c :=
  ⟨k.os.trans h.os, k.tape.trans h.tape, k.output.trans h.output, Nat.le_trans h.size k.size, fun i hi hn => (k.block i (Nat.lt_of_lt_of_le hi h.size) (fun hx => hn (hT i hx hi))).trans (h.block i hi hn)⟩
theorem then_ {b c : World} (k : Kept [] b c) (h : Kept S a b) : Kept S a c := h.trans k (fun _ hx => by cases hx)
theorem thenS {b c : World} (k : Kept S b c) (h : Kept S a b) : Kept S a c := h.trans k (fun _ hx _ => hx)
theorem mono (h : Kept S a w) (hS : ∀ x, x ∈ S → x < a.heap.size → x ∈ T) : Kept T a w := ⟨h.os, h.tape, h.output, h.size, fun k hk hn => h.block k hk (fun hx => hn (hS k hx hk))⟩
theorem drew (h : Kept S a w) : Kept S a w.drew := ⟨h.os, h.tape, h.output, h.size, h.block⟩
theorem drewN (h : Kept S a w) (n : Nat) : Kept S a (w.drewN n) := ⟨h.os, h.tape, h.output, h.size, h.block⟩
theorem alloc (h : Kept S a w) (o : Obj) : Kept S a (w.alloc o) :=
  ⟨h.os, h.tape, h.output, by have := h.size; simp; omega, fun k hk hn => (Below.heap_alloc w o k (Nat.lt_of_lt_of_le hk h.size)).trans (h.block k hk hn)⟩
theorem setNew (h : Kept S a w) {p : Addr} (hp : a.heap.size ≤ p.block) (v : Value) : Kept S a (w.setCell p v) :=
  ⟨h.os, h.tape, h.output, by have := h.size; simpa [World.setCell] using this, fun k hk hn => (Below.heap_setCell w p v k (by omega)).trans (h.block k hk hn)⟩
theorem setIn (h : Kept S a w) {p : Addr} (hp : p.block ∈ S) (v : Value) : Kept S a (w.setCell p v) :=
  ⟨h.os, h.tape, h.output, by have := h.size; simpa [World.setCell] using this, fun k hk hn => (Below.heap_setCell w p v k (by rintro rfl; exact hn hp)).trans (h.block k hk hn)⟩
theorem below (h : Kept [] w w') : Below w.heap.size w w' := ⟨h.os, h.tape, h.output, h.size, fun k hk => h.block k hk (by simp)⟩
theorem of_below (h : Below w.heap.size w w') : Kept [] w w' := ⟨h.os, h.tape, h.output, h.size, fun k hk _ => h.block k hk⟩
theorem grown {row : Option Nat} (h : Kept S a w) (hg : w.grownBy w' row) (hr : ∀ k, row = some k → a.heap.size ≤ k ∨ k ∈ S) : Kept S a w' :=
  ⟨hg.os.trans h.os, hg.tape.trans h.tape, hg.output.trans h.output, Nat.le_trans h.size hg.size, fun k hk hn => (hg.block k (Nat.lt_of_lt_of_le hk h.size) (fun e => by
    rcases hr k e.symm with h1 | h1
    · omega
    · exact hn h1)).trans (h.block k hk hn)⟩
end Kept

/-- Block g is just the cells cs of element type t, none frozen. -/
def Blk (w : World) (g : Nat) (t : TypeId) (cs : Array Value) : Prop := w.heap[g]? = some (.cells cs t (0, 0))
namespace Blk
variable {w w' : World} {g : Nat} {t : TypeId} {cs : Array Value}
theorem lt (h : Blk w g t cs) : g < w.heap.size := by
  rcases Nat.lt_or_ge g w.heap.size with hlt | hge
  · exact hlt
  · unfold Blk at h; rw [Array.getElem?_eq_none hge] at h; cases h
theorem cell (h : Blk w g t cs) (i : Nat) : w.cell? ⟨g, i, none⟩ = cs[i]? := cell_of_row w g i cs t (0, 0) h
theorem frozen (h : Blk w g t cs) (i : Nat) : w.frozen? ⟨g, i, none⟩ = false := by
  unfold Blk at h
  simp [World.frozen?, h]
theorem cast {cs' : Array Value} (h : Blk w g t cs) (e : cs = cs') : Blk w g t cs' := e ▸ h
theorem new (w : World) (t : TypeId) (cs : Array Value) : Blk (w.alloc (.cells cs t)) w.heap.size t cs := heap_alloc_new w _
theorem new' (w : World) (t : TypeId) (cs : Array Value) {b : Nat} (h : b = w.heap.size) : Blk (w.alloc (.cells cs t)) b t cs := h ▸ heap_alloc_new w _
theorem drew (h : Blk w g t cs) : Blk w.drew g t cs := h
theorem drewN (h : Blk w g t cs) (n : Nat) : Blk (w.drewN n) g t cs := h
theorem alloc (h : Blk w g t cs) (o : Obj) : Blk (w.alloc o) g t cs := (Below.heap_alloc w o g h.lt).trans h
theorem set_ (h : Blk w g t cs) (i : Nat) (u : Value) : Blk (w.setCell ⟨g, i, none⟩ u) g t (cs.setIfInBounds i u) := by
  unfold Blk at h ⊢
  simp [World.setCell, Array.getElem?_modify, h]
theorem set' {cs' : Array Value} {i : Nat} {u : Value} (h : Blk w g t cs) (e : cs.setIfInBounds i u = cs') : Blk (w.setCell ⟨g, i, none⟩ u) g t cs' := e ▸ h.set_ i u
theorem far (h : Blk w g t cs) {p : Addr} (hp : g ≠ p.block) (u : Value) : Blk (w.setCell p u) g t cs := (Below.heap_setCell w p u g hp).trans h
theorem keep {S : List Nat} (h : Blk w g t cs) (hk : Kept S w w') (hg : g ∉ S) : Blk w' g t cs := (hk.block g h.lt hg).trans h
theorem keep0 (h : Blk w g t cs) (hk : Kept [] w w') : Blk w' g t cs := h.keep hk (by simp)
theorem ne_ {g' : Nat} {t' : TypeId} {cs' : Array Value} (h : Blk w g t cs) (h' : Blk w g' t' cs') (hne : t ≠ t') : g ≠ g' := by
  rintro rfl
  unfold Blk at h h'
  rw [h] at h'
  injection h' with h'
  injection h' with _ ht
  exact hne ht
end Blk

theorem ret_ct {P : Program} {fn : Func} {p u : Tmp} {ty : TypeId} (h : fn.results = #[.cell p ty, .tmp u]) (tmps : Array Value) (w : World) (g : Nat) (t : TypeId) (cs : Array Value) (d : TypeDesc)
    (hp : tmps.getD p undef = .pointer (some ⟨g, 0, none⟩)) (hg : Blk w g t cs) (hu : P.underlying ty = some d) (hd : (match d with | .struct _ | .array _ _ => true | _ => false) = true) (hi : (P.info? ty).map (·.size) = some cs.size) :
    (results fn tmps).run P w = .ok (.tuple #[.agg cs, tmps.getD u undef]) w := by
  have hp' : tmps[p]?.getD undef = .pointer (some ⟨g, 0, none⟩) := by simpa using hp
  simp [results, h, hp', asAddr, run_loadVar_row w g t ty cs (0, 0) d hg hu hd hi]
theorem ret_c {P : Program} {fn : Func} {p : Tmp} {ty : TypeId} (h : fn.results = #[.cell p ty]) (tmps : Array Value) (w : World) (g : Nat) (t : TypeId) (cs : Array Value) (d : TypeDesc)
    (hp : tmps.getD p undef = .pointer (some ⟨g, 0, none⟩)) (hg : Blk w g t cs) (hu : P.underlying ty = some d) (hd : (match d with | .struct _ | .array _ _ => true | _ => false) = true) (hi : (P.info? ty).map (·.size) = some cs.size) :
    (results fn tmps).run P w = .ok (.agg cs) w := by
  have hp' : tmps[p]?.getD undef = .pointer (some ⟨g, 0, none⟩) := by simpa using hp
  simp [results, h, hp', asAddr, run_loadVar_row w g t ty cs (0, 0) d hg hu hd hi]

/-- A region that draws its order, whose operations read and whose callees keep all that was there: one walk, in the text's order, serves every order. -/
theorem wp_region_kept {P : Program} {id : Nat} {Q : Exit → Act → World → Prop} {a : Act} {w : World} {l : List Oper} (hm : P.follows .mixedOrders = true) (hB : Region.lexB .any l.toArray = true)
    (h : ∀ (T : Type) (F : T → World), Nonempty T → (∀ x, Kept [] w (F x)) → (∀ x w'', Kept [] (F x) w'' → ∃ y, w'' = F y) → wpQuiet P l.toArray (fun w' => ∃ x, w' = F x) (fun a' => ∀ w', (∃ x, w' = F x) → Q .normal a' w') l a) :
    (Code.region id l.toArray true).wp P Q a w := by
  have hw : Kept [] w w.drew := (Kept.refl [] w).drew
  refine wp_region_quiet (C := fun w' => ∃ x : {w' : World // Kept [] w w'}, w' = x.1) hm hB ⟨⟨w.drew, hw⟩, rfl⟩ ?_
  have := h {w' : World // Kept [] w w'} (fun x => x.1) ⟨⟨w, Kept.refl _ _⟩⟩ (fun x => x.2) (fun x w'' hk => ⟨⟨w'', hk.then_ x.2⟩, rfl⟩)
  simpa using this
theorem kept_call {P : Program} {f : FuncId} {args : Array Value} {v : Value} {T : Type} {F : T → World} {x : T} (hcl : ∀ x w'', Kept [] (F x) w'' → ∃ y, w'' = F y)
    (c : Calls P f args (F x) fun e w' => e = .returned v ∧ Kept [] (F x) w') : Calls P f args (F x) fun e w'' => e = .returned v ∧ ∃ y, w'' = F y :=
  c.mono fun _ _ ⟨he, hk⟩ => ⟨he, hcl _ _ hk⟩

/-- A slice of integers that came in: nil, or a row of 'cap' cells, the numbers 'zs'. -/
def IsRow (k : IntKind) (w : World) (a : Option Addr) (len cap : Nat) (zs : List Int) : Prop :=
  (a = none ∧ len = 0 ∧ cap = 0 ∧ zs = []) ∨
  ∃ x, a = some x ∧ len ≤ cap ∧ cap ≤ maxLen ∧ zs.length = cap ∧ (∀ i, i < zs.length → w.cell? (x.add i) = some (.int k (zs.getD i 0))) ∧ ∀ n ∈ zs, (Lit.int k n).wf = true
section
open Go.ChangeShapes Go.WideShapes
variable {H : Type} {enc : TypeId × Value → H} {P : Program} {w : World} {base : Nat} {held : Bool}
theorem isRow_trod {t e : TypeId} {k : IntKind} {fuel : Nat} {v : Value} {x : DataW H × List MemPlace} (ht : P.underlying t = some (.slice e)) (he : P.underlying e = some (.int k)) (hc : P.cellsOf e = 1)
    (h : DataW.trod enc P w base (fun _ => true) held fuel t [v] = some x) : ∃ a len cap zs, [v] = [.slice a len cap] ∧ IsRow k w a len cap zs := by
  rcases open_ints ht he hc h with ⟨hcs, _⟩ | ⟨a, l, c, zs, hcs, _, hl, hm, hz, _, hcell, hwz⟩
  · exact ⟨none, 0, 0, [], hcs, .inl ⟨rfl, rfl, rfl, rfl⟩⟩
  · exact ⟨some a, l, c, zs, hcs, .inr ⟨_, rfl, hl, hm, by simpa using hz, hcell, hwz⟩⟩
theorem isRow_of {t e : TypeId} {k : IntKind} {a : Option Addr} {len cap : Nat} {d : DataW H} {p : List MemPlace} (ht : P.underlying t = some (.slice e)) (he : P.underlying e = some (.int k)) (hc : P.cellsOf e = 1)
    (h : DataW.Trod enc P w base (fun _ => true) held t (.slice a len cap) d p) : ∃ zs, IsRow k w a len cap zs := by
  obtain ⟨fuel, hf⟩ := h
  obtain ⟨a', l', c', zs, he, hr⟩ := isRow_trod ht he hc (v := .slice a len cap) (by simpa [Value.cells] using hf)
  simp only [List.cons.injEq, Value.slice.injEq, and_true] at he
  obtain ⟨rfl, rfl, rfl⟩ := he
  exact ⟨zs, hr⟩
end

/-- A slice value reads as the integers zs in the world w. -/
def RowI (k : IntKind) (w : World) (A : Option Addr) (zs : List Int) : Prop :=
  0 < zs.length → ∃ b off, A = some ⟨b, off, none⟩ ∧ b < w.heap.size ∧ ∀ i, i < zs.length → w.cell? ⟨b, off + i, none⟩ = some (.int k (zs[i]?.getD 0))
theorem RowI.nil (k : IntKind) (w : World) (A : Option Addr) : RowI k w A [] := fun h => by simp at h
theorem RowI.keep {k : IntKind} {w w' : World} {A : Option Addr} {zs : List Int} (h : RowI k w A zs) (hk : Kept [] w w') : RowI k w' A zs := fun h0 => by
  obtain ⟨b, off, rfl, hb, hc⟩ := h h0
  exact ⟨b, off, rfl, Nat.lt_of_lt_of_le hb hk.size, fun i hi => (World.cell?_of_block (hk.block b hb (by simp))).trans (hc i hi)⟩
theorem RowI.of_blk {k : IntKind} {w : World} {b : Nat} {t : TypeId} {zs : List Int} {cs : Array Value} (h : Blk w b t cs) (hc : ∀ i, i < zs.length → cs[i]? = some (.int k (zs[i]?.getD 0))) : RowI k w (some ⟨b, 0, none⟩) zs := fun _ =>
  ⟨b, 0, rfl, h.lt, fun i hi => by rw [Nat.zero_add, h.cell]; exact hc i hi⟩
end Go.Proofs.Ytgiokigokedakaa
