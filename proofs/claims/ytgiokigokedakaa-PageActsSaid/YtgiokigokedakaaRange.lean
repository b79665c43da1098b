/- A range over a function whose iterator turns variables of its own between two rounds: a law for the walk, over the kit's wpIn_rangeFunc. -/
import Derived.Test.YtgiokigokedakaaMemL
set_option linter.unusedVariables false
set_option linter.unusedSimpArgs false
namespace Go.Proofs.Ytgiokigokedakaa
open Go.RowKit
/-- The blocks Bs are as they were. -/
def Same (Bs : List Nat) (A B : World) : Prop := A.heap.size ≤ B.heap.size ∧ ∀ b, b ∈ Bs → b < A.heap.size → B.heap[b]? = A.heap[b]?
namespace Same
variable {Bs : List Nat} {A B C : World}
theorem refl (Bs : List Nat) (A : World) : Same Bs A A := ⟨Nat.le_refl _, fun _ _ _ => rfl⟩
theorem trans (h : Same Bs A B) (k : Same Bs B C) : Same Bs A C := ⟨Nat.le_trans h.1 k.1, fun b hb hl => (k.2 b hb (Nat.lt_of_lt_of_le hl h.1)).trans (h.2 b hb hl)⟩
theorem kept {T : List Nat} (h : Kept T A B) (hT : ∀ b, b ∈ Bs → b ∉ T) : Same Bs A B := ⟨h.size, fun b hb hl => h.block b hl (hT b hb)⟩
theorem blk {g : Nat} {t : TypeId} {cs : Array Value} (h : Same Bs A B) (hb : Blk A g t cs) (hg : g ∈ Bs) : Blk B g t cs := (h.2 g hg hb.lt).trans hb
theorem putObj {l : Nat} (hl : l ∉ Bs) (W : World) (o' : Obj) (hs : l < W.heap.size) : Same Bs W (W.putObj l o') := ⟨by simp [World.putObj], fun b hb _ => World.putObj_heap_other (fun e => hl (e ▸ hb))⟩
end Same
/-- An iterator: what comes next (Nx), when it is over (S); of what lay there it turns the blocks Rs alone; a round that goes on keeps the blocks Bs. -/
def SeqOwn {α : Type} (F : Fence) (n : Nat) (P : Program) (g : Nat) (lb : Array Value) (encs : α → Array Value) (Rs Bs : List Nat) (Nx : List α → α → Prop) (S : List α → Prop) (w : World) : Prop :=
  ∀ (l : Nat) (J Jx : List α → World → Prop) (M : Nat), (∀ pre A B, J pre A → Kept Rs A B → J pre B) → (∀ pre A, J pre A → pre.length ≤ M) →
    (∀ pre x W1, J pre W1 → Nx pre x → YieldAt F (n - 1) P l (encs x) W1 fun e W' =>
      (e = .returned (.bool true) ∧ J (pre ++ [x]) W' ∧ Same Bs W1 W') ∨ (e = .returned (.bool false) ∧ Jx (pre ++ [x]) W')) →
    ∀ W, Same Bs w W → J [] W → CallsIn F n P g (#[.func (.yield l) #[] #[]] ++ lb) W fun e W' => (∃ v, e = .returned v) ∧ ((∃ xs, S xs ∧ J xs W') ∨ (∃ pre, Jx pre W'))
theorem range_own {F : Fence} {n : Nat} {P : Program} {α : Type} {g : Operand} {ps : Array Tmp} {assign body : Code} {Q : Exit → Act → World → Prop} {a : Act} {w : World}
    (hro : F.round = none) (h1 : 1 ≤ n) {gf : Nat} {lb : Array Value} (hg : a.eval g = .func (.func gf) #[] lb) (hFg : F.fn gf) (eg : ∀ args w, (callFunc gf args).run P w = .ok (.enter gf args) w)
    {encs : α → Array Value} {Rs Bs : List Nat} {Nx : List α → α → Prop} {S : List α → Prop} (hseq : SeqOwn F (n - 1) P gf lb encs Rs Bs Nx S w) (hRs : ∀ r, r ∈ Rs → r < w.heap.size) (hBs : ∀ b, b ∈ Bs → b < w.heap.size) (hps : ∀ x, (encs x).size = ps.size) (M : Nat)
    (I : List α → World → Prop) (Ix : Code → List α → World → Prop) (hI : OwnFrom w.heap.size I) (hIx : ∀ c, OwnFrom w.heap.size (Ix c)) (hIR : ∀ pre A B, I pre A → Kept Rs A B → I pre B) (hIM : ∀ pre A, I pre A → pre.length ≤ M) (h0 : I [] w) (a₁ : α → Act)
    (hassign : ∀ (l : Nat) (x : α) (W : World) (K : Act → World → Prop), K (a₁ x) W →
      assign.wpIn (F.inRound l) (n - 1 - 1) P (Exit.then K (fun _ _ _ => False)) { tmps := (ps.zip (encs x)).foldl (fun t (p, v) => t.setIfInBounds p v) a.tmps, defers := [] } W)
    (hbody : ∀ (l : Nat) (pre : List α) (x : α) (W : World), I pre W → Nx pre x → body.wpIn (F.inRound l) (n - 1 - 1) P (ownPostG w.heap.size (Same Bs) I Ix (pre ++ [x]) W) (a₁ x) W)
    (hdone : ∀ (D : Nat) (xs : List α) (W : World), w.heap.size ≤ D → S xs → I xs W → W.heap[D]? = some (.deferred (some [])) → Q .normal { a with defers := { target := .collected D, args := #[] } :: a.defers } W)
    (hstop : ∀ (D : Nat) (c : Code) (pre : List α) (W : World), w.heap.size ≤ D → Ix c pre W → W.heap[D]? = some (.deferred (some [])) → c.wpIn F n P Q { a with defers := { target := .collected D, args := #[] } :: a.defers } W) :
    (Code.rangeFunc g ps assign body).wpIn F n P Q a w := by
  refine wpIn_rangeFunc ?_
  intro fn hfn
  rw [hro]
  -- the record of the loop, in the block behind that of the rounds' deferred calls
  obtain ⟨R, hR⟩ : ∃ R : LoopState → Option Code → Obj, R = fun st pe => .loop { state := st, pending := pe, fn, tmps := a.tmps, params := ps, assign, body, defers := w.heap.size } := ⟨_, rfl⟩
  have hRc : ∀ st pe, (R st pe).isCells = false := fun st pe => by rw [hR]; rfl
  obtain ⟨V, hV⟩ : ∃ V, (w.alloc (.deferred (some []))).alloc (R .ready none) = V := ⟨_, rfl⟩
  have vD : V.heap[w.heap.size]? = some (.deferred (some [])) := by rw [← hV]; exact (Below.heap_alloc _ _ _ (by simp)).trans (World.alloc_heap_new w _)
  have vL : V.heap[w.heap.size + 1]? = some (R .ready none) := by
    rw [← hV]
    have := World.alloc_heap_new (w.alloc (.deferred (some []))) (R .ready none)
    rwa [World.size_alloc] at this
  have vI : I [] V := by rw [← hV]; exact hI.alloc _ (hI.alloc _ h0)
  have vS : Same Bs w V := by rw [← hV]; exact Same.kept (((Kept.refl [] w).alloc _).alloc _) (fun _ _ h => by cases h)
  have hLB : w.heap.size + 1 ∉ Bs := fun h => by have := hBs _ h; omega
  have hLR : ∀ k, w.heap.size ≤ k → k ∉ Rs := fun k hk h => by have := hRs _ h; omega
  refine ⟨w.heap.size + 1, [{ target := .collected w.heap.size, args := #[] }], V, { target := .fn (.func gf) lb, args := #[.func (.yield (w.heap.size + 1)) #[] #[]] }, V, gf, #[.func (.yield (w.heap.size + 1)) #[] #[]] ++ lb, V, ?_, ?_, ?_, ?_, fun _ => h1, ?_⟩
  · rw [← hV, hR]; exact run_enterLoop_outer _ _ _ _ _
  · simp only [resolve, hg]
    simp [go_sem]
  · intro f' hf'
    simp [Target.leads] at hf'
    subst hf'
    exact hFg
  · simp [invoke, go_sem, eg]
  · -- the iterator, at what the caller carries and the two blocks beside it
    refine (hseq (w.heap.size + 1) (fun pre W => I pre W ∧ W.heap[w.heap.size + 1]? = some (R .ready none) ∧ W.heap[w.heap.size]? = some (.deferred (some [])))
      (fun pre W => ∃ c, Ix c pre W ∧ W.heap[w.heap.size + 1]? = some (R .done (some c)) ∧ W.heap[w.heap.size]? = some (.deferred (some []))) M ?_ (fun pre A h => hIM pre A h.1) ?_ V vS ⟨vI, vL, vD⟩).mono ?_
    · rintro pre A B ⟨i, l, d⟩ hk
      exact ⟨hIR pre A B i hk, (hk.block _ (Array.getElem?_eq_some_iff.1 l).1 (hLR _ (by omega))).trans l, (hk.block _ (Array.getElem?_eq_some_iff.1 d).1 (hLR _ (Nat.le_refl _))).trans d⟩
    · -- a round
      rintro pre x W ⟨i, l, d⟩ hx
      have hsz : w.heap.size + 1 < W.heap.size := (Array.getElem?_eq_some_iff.1 l).1
      have hy := run_yield (P := P) (args := encs x) (by rw [hR] at l; exact l) (by exact hps x)
      refine ⟨fn, _, assign, body, hy, roundIn_of_wpIn hfn (hassign _ x W _ ⟨_, run_beginRound (by rw [hR] at l; exact l) rfl, ?_⟩)⟩
      obtain ⟨U, hU⟩ : ∃ U, W.putObj (w.heap.size + 1) (R .busy none) = U := ⟨_, rfl⟩
      have hU' := hU
      rw [hR] at hU'
      rw [hU']
      have uL : U.heap[w.heap.size + 1]? = some (R .busy none) := by rw [← hU]; exact World.putObj_heap_same hsz
      have uD : U.heap[w.heap.size]? = some (.deferred (some [])) := by rw [← hU]; exact (World.putObj_heap_other (by omega)).trans d
      have uI : I pre U := by rw [← hU]; exact hI.putObj _ i (by omega) l (hRc _ _)
      have uS : Same Bs W U := by rw [← hU]; exact Same.putObj hLB W _ hsz
      refine wpIn_mono (hbody _ pre x U uI hx) ?_
      -- what a round's end does, whatever way it is left
      have fin : ∀ (jump : Option Code) (X : World), KeepsFrom w.heap.size U X → X.heap[w.heap.size + 1]? = some (R .busy none) ∧
          (Instr.endRound (w.heap.size + 1) jump).run P X = .ok (.bool jump.isNone) (X.putObj (w.heap.size + 1) (R (if jump.isNone then .ready else .done) jump)) ∧
          (X.putObj (w.heap.size + 1) (R (if jump.isNone then .ready else .done) jump)).heap[w.heap.size + 1]? = some (R (if jump.isNone then .ready else .done) jump) ∧
          (X.putObj (w.heap.size + 1) (R (if jump.isNone then .ready else .done) jump)).heap[w.heap.size]? = some (.deferred (some [])) := fun jump X hX => by
        have xL := hX.same _ _ (by omega) uL (hRc _ _)
        have xr := xL
        rw [hR] at xr
        have := run_endRound (P := P) jump xr
        refine ⟨xL, ?_, World.putObj_heap_same (Array.getElem?_eq_some_iff.1 xL).1, (World.putObj_heap_other (by omega)).trans (hX.same _ _ (Nat.le_refl _) uD rfl)⟩
        rw [hR]
        exact this
      rintro e b X hp
      cases e with
      | normal =>
        obtain ⟨hX, hS, xI⟩ := hp
        obtain ⟨xL, hr, xL2, xD⟩ := fin none X hX
        exact ⟨_, _, hr, .inl ⟨rfl, ⟨hI.putObj _ xI (by omega) xL (hRc _ _), xL2, xD⟩, (uS.trans hS).trans (Same.putObj hLB X _ (Array.getElem?_eq_some_iff.1 xL).1)⟩⟩
      | ret =>
        obtain ⟨hX, xI⟩ := hp
        obtain ⟨xL, hr, xL2, xD⟩ := fin (some .ret) X hX
        exact ⟨_, _, hr, .inr ⟨rfl, .ret, (hIx _).putObj _ xI (by omega) xL (hRc _ _), xL2, xD⟩⟩
      | exit id =>
        obtain ⟨hX, xI⟩ := hp
        obtain ⟨xL, hr, xL2, xD⟩ := fin (some (.exit id)) X hX
        exact ⟨_, _, hr, .inr ⟨rfl, .exit id, (hIx _).putObj _ xI (by omega) xL (hRc _ _), xL2, xD⟩⟩
      | goto t =>
        obtain ⟨hX, xI⟩ := hp
        obtain ⟨xL, hr, xL2, xD⟩ := fin (some (.goto t)) X hX
        exact ⟨_, _, hr, .inr ⟨rfl, .goto t, (hIx _).putObj _ xI (by omega) xL (hRc _ _), xL2, xD⟩⟩
      | panic ch => exact hp.elim
      | outgrown => exact hp.elim
    · -- behind it
      rintro e X ⟨⟨v, rfl⟩, (⟨xs, hS, xI, xL, xD⟩ | ⟨pre, c, xI, xL, xD⟩)⟩
      · have xr := xL
        rw [hR] at xr
        exact ⟨none, _, run_endLoop (P := P) xr (by simp), hdone _ xs _ (Nat.le_refl _) hS (hI.putObj _ xI (by omega) xL (hRc _ _)) ((World.putObj_heap_other (by omega)).trans xD)⟩
      · have xr := xL
        rw [hR] at xr
        exact ⟨some c, _, run_endLoop (P := P) xr (by simp), hstop _ c pre _ (Nat.le_refl _) ((hIx c).putObj _ xI (by omega) xL (hRc _ _)) ((World.putObj_heap_other (by omega)).trans xD)⟩
end Go.Proofs.Ytgiokigokedakaa
