/- A region that draws its order, whose first operations wait for one another, and whose others are quiet: its head is walked as it stands, then one walk serves every order of the rest. -/
import Derived.Test.YtekblfnemcaaeaaBase
import Derived.StillTailTactics
set_option linter.unusedVariables false
set_option linter.unusedSimpArgs false
namespace Go.Proofs.Ytekblfnemcaaeaa
open Go.RowKit
/-- Q, but N behind the operations. -/
def HeadQ (Q : Exit → Act → World → Prop) (N : Act → World → Prop) : Exit → Act → World → Prop
  | .normal, a, w => N a w
  | e, a, w => Q e a w
def headFrom (md : Region.Mode) (ops : Array Oper) (r : Nat) : Nat → Nat → Array Bool → Bool
  | 0, k, listed => Region.lexFrom md ops r k listed
  | n + 1, k, listed => (Region.ready md ops listed == [k]) && headFrom md ops r n (k + 1) (listed.setIfInBounds k true)
def headB (md : Region.Mode) (ops : Array Oper) (n : Nat) : Bool := Region.noSelect ops && decide (n ≤ ops.size) && headFrom md ops (ops.size - n) n 0 (Array.replicate ops.size false)
section
variable {P : Program} {ops : Array Oper} {md : Region.Mode} {Q : Exit → Act → World → Prop}
theorem wp_headQ {o : Oper} {a : Act} {w : World} {K : Act → World → Prop} {N : Act → World → Prop} (h : o.wp P a w K (HeadQ Q N)) : o.wp P a w K Q := by
  unfold Oper.wp at *
  generalize (execOp a.eval o).run P w = r at *
  cases r with
  | ok n w' =>
    cases n <;> simp only [Oper.upon] at h ⊢ <;>
      first
        | exact h
        | exact Calls.mono h (fun e w'' he => by cases e <;> first | exact he | exact he)
  | halt x w' => cases x <;> simp only [Oper.upon] at h ⊢ <;> exact h
/-- What is asked of the rest. -/
def RestQ (P : Program) (ops : Array Oper) (Q : Exit → Act → World → Prop) (rest : List Oper) (a : Act) (w : World) : Prop :=
  ∃ C : World → Prop, C w ∧ wpQuiet P ops C (fun a' => ∀ w', C w' → Q .normal a' w') rest a
theorem wpAny_head (hs : Region.noSelect ops = true) (rest : List Oper) : ∀ (l : List Oper) (k : Nat) (listed : Array Bool) (a : Act) (w : World), (∀ j, (l ++ rest)[j]? = ops[k + j]?) →
    headFrom md ops rest.length l.length k listed = true → wpList P ops (HeadQ Q (RestQ P ops Q rest)) l a w → wpAny P md ops Q (l.length + rest.length) listed a w
  | [], k, listed, a, w, hl, hB, h => by
    obtain ⟨C, hC, hq⟩ := h
    have := wpAnyQ_lex (P := P) (C := C) hs rest k listed a (by simpa using hl) hB hq
    have h2 := wpAny_of_quiet (Q' := Q) (fun _ w' hw' h => h w' hw') rest.length listed a w hC this
    simpa using h2
  | o :: l, k, listed, a, w, hl, hB, h => by
    have h0 : ops[k]? = some o := by simpa using (hl 0).symm
    simp only [headFrom, List.length_cons, Bool.and_eq_true, beq_iff_eq] at hB
    obtain ⟨hr, hB'⟩ := hB
    rw [List.length_cons, Nat.add_right_comm]
    refine wpAny_all hr (by simp) (fun i hi => ?_)
    simp only [List.mem_singleton] at hi
    subst hi
    have ih : ∀ a' w', wpList P ops (HeadQ Q (RestQ P ops Q rest)) l a' w' → wpAny P md ops Q (l.length + rest.length) (listed.setIfInBounds i true) a' w' := fun a' w' h' =>
      wpAny_head hs rest l (i + 1) _ a' w' (fun j => by have := hl (j + 1); simpa [Nat.add_assoc, Nat.add_comm 1 j] using this) hB' h'
    unfold wpOp
    simp only [h0]
    unfold wpList at h
    by_cases hw : Region.wanted o (yielded ops a.tmps) = true
    · rw [if_pos hw] at h ⊢
      rcases h with h | ⟨h1, h2⟩
      · exact .inl (Oper.wp_mono ih (wp_headQ h))
      · exact .inr ⟨h1, h2⟩
    · rw [if_neg hw] at h ⊢
      exact ih _ _ h
theorem wp_region_head {id : Nat} {a : Act} {w : World} {l : List Oper} (n : Nat) (hm : P.follows .mixedOrders = true) (hB : headB .any l.toArray n = true)
    (h : wpList P l.toArray (HeadQ Q (RestQ P l.toArray Q (l.drop n))) (l.take n) a w.drew) : (Code.region id l.toArray true).wp P Q a w := by
  simp only [headB, Bool.and_eq_true, decide_eq_true_eq] at hB
  obtain ⟨⟨hs, hn⟩, hh⟩ := hB
  have hn' : n ≤ l.length := by simpa using hn
  refine wp_region_any hm ?_
  have htl : (l.take n).length = n := by simp; omega
  have hdl : (l.drop n).length = l.toArray.size - n := by simp
  have := wpAny_head (P := P) (md := .any) (Q := Q) hs (l.drop n) (l.take n) 0 (Array.replicate l.toArray.size false) a w.drew (by simp) (by rw [htl, hdl]; exact hh) h
  rw [htl, hdl, show n + (l.toArray.size - n) = l.toArray.size by simp; omega] at this
  exact this
/-- The rest, where its operations read and its callees keep all that was there. -/
theorem rest_kept {rest : List Oper} {a : Act} {w : World}
    (h : ∀ (T : Type) (F : T → World), Nonempty T → (∀ x, Kept [] w (F x)) → (∀ x w'', Kept [] (F x) w'' → ∃ y, w'' = F y) → wpQuiet P ops (fun w' => ∃ x, w' = F x) (fun a' => ∀ w', (∃ x, w' = F x) → Q .normal a' w') rest a) :
    HeadQ Q (RestQ P ops Q rest) .normal a w := by
  refine ⟨fun w' => ∃ x : {w' : World // Kept [] w w'}, w' = x.1, ⟨⟨w, Kept.refl _ _⟩, rfl⟩, ?_⟩
  exact h {w' : World // Kept [] w w'} (fun x => x.1) ⟨⟨w, Kept.refl _ _⟩⟩ (fun x => x.2) (fun x w'' hk => ⟨⟨w'', hk.then_ x.2⟩, rfl⟩)
end
end Go.Proofs.Ytekblfnemcaaeaa
