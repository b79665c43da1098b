/- Maps from numbers to bools, that the call made: what they say. -/
import Derived.Test.YtgiokigokedakaaOwn
import Derived.Maps.OwnSet
import Derived.Maps.OwnOps
import Derived.Maps.Views
set_option linter.unusedVariables false
set_option linter.unusedSimpArgs false
namespace Go.Proofs.Ytgiokigokedakaa
open Go.RowKit Go.Maps
def boolElem (v : Value) : Option (DataW Unit × List MemPlace) := match v with | .bool x => some (.lit (.bool x), []) | _ => none
theorem boolElem_inv {v : Value} {z : DataW Unit × List MemPlace} (h : boolElem v = some z) : ∃ x, v = .bool x ∧ z = (.lit (.bool x), []) := by
  unfold boolElem at h
  split at h
  · cases h; exact ⟨_, rfl, rfl⟩
  · cases h
/-- Block b is a map that says S. -/
def SetI (P : Program) (kt : TypeId) (q : IntKind) (w : World) (b n : Nat) (S : Int → Bool) : Prop :=
  ∃ D : DataW Unit, w.ownsMap P kt boolElem b n D ∧ IsMap D ∧ ∀ x, (Lit.int q x).wf = true → D.atKey (.int q x) (.lit (.bool false)) = .lit (.bool (S x))
theorem SetI.made (P : Program) (kt : TypeId) (q : IntKind) (w : World) : SetI P kt q (w.alloc (.map #[] 0)) w.heap.size 0 (fun _ => false) :=
  ⟨_, World.ownsMap_made w P kt boolElem, isMap_empty, fun x _ => by rfl⟩
theorem SetI.grown {P : Program} {kt : TypeId} {q : IntKind} {w w' : World} {b n : Nat} {S : Int → Bool} {row : Option Nat} (h : SetI P kt q w b n S) (hg : w.grownBy w' row) (hne : some b ≠ row) : SetI P kt q w' b n S := by
  obtain ⟨D, h1, h2⟩ := h
  exact ⟨D, h1.kept hg hne, h2⟩
theorem SetI.lt {P : Program} {kt : TypeId} {q : IntKind} {w : World} {b n : Nat} {S : Int → Bool} (h : SetI P kt q w b n S) : b < w.heap.size := by
  obtain ⟨D, h1, _⟩ := h
  exact h1.lt
theorem SetI.keep {T : List Nat} {P : Program} {kt : TypeId} {q : IntKind} {w w' : World} {b n : Nat} {S : Int → Bool} (h : SetI P kt q w b n S) (hk : Kept T w w') (hb : b ∉ T) : SetI P kt q w' b n S := by
  have hl := h.lt
  obtain ⟨D, ⟨es, clock, h1, h3⟩, h2⟩ := h
  exact ⟨D, ⟨es, clock, (hk.block b hl hb).trans h1, h3⟩, h2⟩
theorem SetI.mono {P : Program} {kt : TypeId} {q : IntKind} {w : World} {b n n' : Nat} {S : Int → Bool} (h : SetI P kt q w b n S) (hn : n ≤ n') : SetI P kt q w b n' S := by
  obtain ⟨D, h1, h2⟩ := h
  exact ⟨D, h1.mono hn, h2⟩
theorem SetI.look {P : Program} {t kt et : TypeId} {q : IntKind} {w : World} {b n : Nat} {S : Int → Bool} (h : SetI P kt q w b n S) (hk : P.underlying kt = some (.int q)) (ht : P.underlying t = some (.map kt et)) (hz : (zeroValue et).run P w = .ok (.bool false) w)
    (x : Int) (hx : (Lit.int q x).wf = true) : (Instr.lookup t (.map (some b)) (.int q x) false).run P w = .ok (.bool (S x)) w := by
  obtain ⟨D, h1, h2, h3⟩ := h
  obtain ⟨v, ps, hrun, hv⟩ := h1.lookup (int_keyed hk) ht hz (show boolElem (.bool false) = some (.lit (.bool false), []) from rfl) (keyOf_int_mk hk hx)
  obtain ⟨y, rfl, hy⟩ := boolElem_inv hv
  simp only [Prod.mk.injEq] at hy
  have := h3 x hx
  rw [hy.1] at this
  injection this with this
  injection this with this
  rw [hrun, this]
theorem SetI.put {P : Program} {t kt et : TypeId} {q : IntKind} {w : World} {b n : Nat} {S : Int → Bool} (h : SetI P kt q w b n S) (hk : P.underlying kt = some (.int q)) (ht : P.underlying t = some (.map kt et)) (hn : n < maxLen)
    (x : Int) (hx : (Lit.int q x).wf = true) (v : Bool) : ∃ w', (Instr.mapUpdate t (.map (some b)) (.int q x) (.bool v)).run P w = .ok () w' ∧ SetI P kt q w' b (n + 1) (fun y => if y = x then v else S y) ∧ Kept [b] w w' := by
  obtain ⟨D, h1, h2, h3⟩ := h
  obtain ⟨w', hrun, h4, h5⟩ := h1.update (int_keyed hk) ht hn (keyOf_int_mk hk hx) (show boolElem (.bool v) = some (.lit (.bool v), []) from rfl)
  refine ⟨w', hrun, ⟨_, h4, h2.put _ _, fun y hy => ?_⟩, (Kept.refl [b] w).grown h5 (fun k hk => by cases hk; right; simp)⟩
  by_cases hyx : y = x
  · subst hyx
    show _ = DataW.lit (.bool (if y = y then v else S y))
    rw [if_pos rfl]
    exact atKey_put_same h2 (by trivial) _ _
  · show _ = DataW.lit (.bool (if y = x then v else S y))
    rw [if_neg hyx, atKey_put_other (fun e => hyx (by injection e))]
    exact h3 y hy
theorem set_look {P : Program} {w : World} {ops : Array Oper} {rest : List Oper} {o : Oper} {a : Act} {Q : Exit → Act → World → Prop} (hg : o.guard = none) (m x : Operand) (t kt et : TypeId) (hop : o.op = Op.lookup t m x false)
    (q : IntKind) (hk : P.underlying kt = some (.int q)) (ht : P.underlying t = some (.map kt et)) (hz : ∀ w, (zeroValue et).run P w = .ok (.bool false) w) (b n : Nat) (S : Int → Bool) (y : Int)
    (hm : a.eval m = .map (some b)) (h : SetI P kt q w b n S) (hx : a.eval x = .int q y) (hy : (Lit.int q y).wf = true) (v : Bool) (hv : S y = v) (hK : wpList P ops Q rest (a.put o.dst (.bool v)) w) : wpList P ops Q (o :: rest) a w := by
  refine wpList_plain hg fun K' hK' => ?_
  have hrun := h.look hk ht (hz w) y hy
  unfold Oper.wp
  simp [execOp, hop, hm, hx, hrun, Result.andThen]
  rw [hv]
  exact hK' _ _ hK
theorem set_put {P : Program} {w : World} {ops : Array Oper} {rest : List Oper} {o : Oper} {a : Act} {Q : Exit → Act → World → Prop} (hg : o.guard = none) (m x v : Operand) (t kt et : TypeId) (hop : o.op = Op.mapUpdate t m x v)
    (q : IntKind) (hk : P.underlying kt = some (.int q)) (ht : P.underlying t = some (.map kt et)) (b n : Nat) (S : Int → Bool) (y : Int) (u : Bool)
    (hm : a.eval m = .map (some b)) (h : SetI P kt q w b n S) (hx : a.eval x = .int q y) (hy : (Lit.int q y).wf = true) (hv : a.eval v = .bool u) (hn : n < maxLen)
    (hK : ∀ w', SetI P kt q w' b (n + 1) (fun z => if z = y then u else S z) → Kept [b] w w' → wpList P ops Q rest (a.put o.dst undef) w') : wpList P ops Q (o :: rest) a w := by
  refine wpList_plain hg fun K' hK' => ?_
  obtain ⟨w', hrun, h1, h2⟩ := h.put hk ht hn y hy u
  unfold Oper.wp
  simp [execOp, hop, hm, hx, hv, hrun, Result.andThen]
  exact hK' _ _ (hK w' h1 h2)
/-- As many as are apart, below a bound. -/
theorem nodup_le : ∀ (n : Nat) (l : List Nat), l.Nodup → (∀ x, x ∈ l → x < n) → l.length ≤ n := by
  intro n
  induction n with
  | zero =>
    intro l _ h
    cases l with
    | nil => simp
    | cons a l => exact absurd (h a (by simp)) (by omega)
  | succ n ih =>
    intro l hd h
    by_cases hn : n ∈ l
    · have h1 := ih (l.erase n) (hd.erase n) (fun x hx => by
        have := h x (List.mem_of_mem_erase hx)
        have hne := (List.Nodup.mem_erase_iff hd).1 hx
        omega)
      rw [List.length_erase_of_mem hn] at h1
      omega
    · have := ih l hd (fun x hx => by
        have h2 := h x hx
        have : x ≠ n := fun e => hn (e ▸ hx)
        omega)
      omega
end Go.Proofs.Ytgiokigokedakaa
