/- Maps from numbers to bytes, that the call made: what they say; ranged over. -/
import Derived.Test.YtgiokigokedakaaOwn
import Derived.Maps.OwnSet
import Derived.Maps.OwnOps
import Derived.Maps.Views
import Derived.Maps.RangeWalk
set_option linter.unusedVariables false
set_option linter.unusedSimpArgs false
namespace Go.Proofs.Ytgiokigokedakaa
open Go.RowKit Go.Maps
def ViewU (D : DataW Unit) (f : Int → Option Int) : Prop := IsMap D ∧ ∀ x, (Lit.int .u64 x).wf = true → Maps.has D (.int .u64 x) = (f x).isSome ∧ ∀ c, f x = some c → ∀ z, D.atKey (.int .u64 x) z = .lit (.int .u8 c)
/-- Block b is a map that says f. -/
def MapU (w : World) (b n : Nat) (f : Int → Option Int) : Prop := ∃ D : DataW Unit, w.ownsMap Try.prog 26 (plainElem Try.prog 5) b n D ∧ ViewU D f
/-- It is being ranged over, by block r. -/
def RngU (w : World) (b r n : Nat) (f : Int → Option Int) : Prop := ∃ (D : DataW Unit) (left : Lit → Bool) (cnt : Nat), w.ranges Try.prog 26 (plainElem Try.prog 5) b r n D left cnt ∧ ViewU D f
theorem lawU : Keyed Try.prog 26 := int_keyed Try.underlying26
theorem Kept.grownB {S : List Nat} {w w' : World} (h : Kept S w w') : ∀ k, k < w.heap.size → k ∉ S → w'.heap[k]? = w.heap[k]? := h.block
theorem kept_grown {w w' : World} {b : Nat} (h : w.grownBy w' (some b)) : Kept [b] w w' := (Kept.refl [b] w).grown h (fun k hk => by cases hk; right; simp)
namespace MapU
variable {w w' : World} {b n : Nat} {f : Int → Option Int}
theorem made (w : World) : MapU (w.alloc (.map #[] 0)) w.heap.size 0 (fun _ => none) :=
  ⟨_, World.ownsMap_made w Try.prog 26 (plainElem Try.prog 5), isMap_empty, fun x _ => ⟨rfl, fun c h => by cases h⟩⟩
theorem lt (h : MapU w b n f) : b < w.heap.size := by
  obtain ⟨D, h1, _⟩ := h
  exact h1.lt
theorem keep {T : List Nat} (h : MapU w b n f) (hk : Kept T w w') (hb : b ∉ T) : MapU w' b n f := by
  have hl := h.lt
  obtain ⟨D, ⟨es, clock, h1, h3⟩, h2⟩ := h
  exact ⟨D, ⟨es, clock, (hk.block b hl hb).trans h1, h3⟩, h2⟩
theorem mono (h : MapU w b n f) {m : Nat} (hn : n ≤ m) : MapU w b m f := by
  obtain ⟨D, h1, h2⟩ := h
  exact ⟨D, h1.mono hn, h2⟩
end MapU
theorem ViewU.put {D : DataW Unit} {f : Int → Option Int} (h : ViewU D f) (x c : Int) : ViewU (D.put (.int .u64 x) (.lit (.int .u8 c))) (fun y => if y = x then some c else f y) := by
  refine ⟨h.1.put _ _, fun y hy => ?_⟩
  dsimp only
  by_cases hyx : y = x
  · subst hyx
    rw [if_pos rfl]
    exact ⟨has_put_same h.1 (by trivial) _, fun c' hc z => by injection hc with hc; rw [← hc]; exact atKey_put_same h.1 (by trivial) _ _⟩
  · rw [if_neg hyx]
    have hne : (Lit.int .u64 y) ≠ .int .u64 x := fun e => hyx (by injection e)
    refine ⟨by rw [has_put_other hne]; exact (h.2 y hy).1, fun c' hc z => ?_⟩
    rw [atKey_put_other hne]
    exact (h.2 y hy).2 c' hc z
theorem ViewU.del {D : DataW Unit} {f : Int → Option Int} (h : ViewU D f) (x : Int) : ViewU (D.del (.int .u64 x)) (fun y => if y = x then none else f y) := by
  refine ⟨h.1.del _, fun y hy => ?_⟩
  dsimp only
  by_cases hyx : y = x
  · subst hyx
    rw [if_pos rfl]
    exact ⟨has_del_same, fun c' hc => by cases hc⟩
  · rw [if_neg hyx]
    have hne : (Lit.int .u64 y) ≠ .int .u64 x := fun e => hyx (by injection e)
    refine ⟨by rw [has_del_other hne]; exact (h.2 y hy).1, fun c' hc z => ?_⟩
    rw [atKey_del_other hne]
    exact (h.2 y hy).2 c' hc z
section
variable {w : World} {ops : Array Oper} {rest : List Oper} {o : Oper} {a : Act} {Q : Exit → Act → World → Prop}
theorem zero_u8 (w : World) : (zeroValue 5).run Try.prog w = .ok (.int .u8 0) w := by kernel_rfl
theorem mapU_no (hg : o.guard = none) (m x : Operand) (hop : o.op = Op.lookup 60 m x true) (b n : Nat) (f : Int → Option Int) (hm : a.eval m = .map (some b)) (h : MapU w b n f) (y : Int) (hx : a.eval x = .int .u64 y) (hy : (Lit.int .u64 y).wf = true) (hf : f y = none)
    (hK : ∀ c : Int, wpList Try.prog ops Q rest (a.put o.dst (.tuple #[.int .u8 c, .bool false])) w) : wpList Try.prog ops Q (o :: rest) a w := by
  obtain ⟨D, h1, h2, h3⟩ := h
  refine wpList_lookup_own_ok_int w hg m x _ hop 26 5 .u8 lawU Try.underlying60 Try.underlying5 (zero_u8 w) b n D hm h1 _ (.int .u64 y) hx (keyOf_int_mk Try.underlying26 hy) (fun c _ _ => ?_)
  rw [(h3 y hy).1, hf]
  exact hK c
theorem mapU_put (hg : o.guard = none) (m x v : Operand) (hop : o.op = Op.mapUpdate 60 m x v) (b n : Nat) (f : Int → Option Int) (hm : a.eval m = .map (some b)) (h : MapU w b n f) (hn : n ≤ 1000000) (y c : Int) (hx : a.eval x = .int .u64 y) (hy : (Lit.int .u64 y).wf = true) (hv : a.eval v = .int .u8 c) (hc : (Lit.int .u8 c).wf = true)
    (hK : ∀ w', MapU w' b (n + 1) (fun z => if z = y then some c else f z) → Kept [b] w w' → wpList Try.prog ops Q rest (a.put o.dst undef) w') : wpList Try.prog ops Q (o :: rest) a w := by
  obtain ⟨D, h1, h2⟩ := h
  refine wpList_mapUpdate_own w hg m x v _ hop 26 5 lawU Try.underlying60 _ b n D hm h1 (by unfold maxLen; omega) _ _ (.int .u64 y) hx hv (keyOf_int_mk Try.underlying26 hy) _ [] (plainElem_int Try.underlying5 hc) (fun w' h3 h4 => ?_)
  exact hK w' ⟨_, h3, h2.put y c⟩ (kept_grown h4)
theorem mapU_del (hg : o.guard = none) (m x : Operand) (hop : o.op = Op.call { callee := Callee.builtin Builtin.delete, args := #[m, x], argTypes := #[60, 26] }) (b n : Nat) (f : Int → Option Int) (hm : a.eval m = .map (some b)) (h : MapU w b n f) (y : Int) (hx : a.eval x = .int .u64 y) (hy : (Lit.int .u64 y).wf = true)
    (hK : ∀ w', MapU w' b n (fun z => if z = y then none else f z) → Kept [b] w w' → wpList Try.prog ops Q rest (a.put o.dst (.tuple #[])) w') : wpList Try.prog ops Q (o :: rest) a w := by
  obtain ⟨D, h1, h2⟩ := h
  refine wpList_delete_own w hg m x _ _ hop 5 lawU Try.underlying60 _ b n D hm h1 _ (.int .u64 y) hx (keyOf_int_mk Try.underlying26 hy) (fun w' h3 h4 => ?_)
  exact hK w' ⟨_, h3, h2.del y⟩ (kept_grown h4.grown)
theorem mapU_range (hg : o.guard = none) (m : Operand) (hop : o.op = Op.range 60 m) (b n : Nat) (f : Int → Option Int) (hm : a.eval m = .map (some b)) (h : MapU w b n f)
    (hK : ∀ w', RngU w' b w.heap.size n f → Kept [] w w' → w.heap.size < w'.heap.size → wpList Try.prog ops Q rest (a.put o.dst (.pointer (some ⟨w.heap.size, 0, none⟩))) w') : wpList Try.prog ops Q (o :: rest) a w := by
  obtain ⟨D, h1, h2⟩ := h
  refine wpList_range_own w hg m _ hop 26 5 lawU Try.underlying60 _ b n D hm h1 (fun w' h3 h4 h5 => ?_)
  exact hK w' ⟨D, _, _, h3, h2⟩ ((Kept.refl [] w).grown h4 (fun k hk => by cases hk)) (by omega)
theorem mapU_next (hg : o.guard = none) (it : Operand) (hop : o.op = Op.next it false) (b r n : Nat) (f : Int → Option Int) (hit : a.eval it = .pointer (some ⟨r, 0, none⟩)) (h : RngU w b r n f)
    (hDone : MapU w b n f → wpList Try.prog ops Q rest (a.put o.dst (.tuple #[.bool false])) w)
    (hMore : ∀ (x c : Int) (w' : World), (Lit.int .u64 x).wf = true → (Lit.int .u8 c).wf = true → f x = some c → RngU w' b r n f → w'.rangeLeft b r < w.rangeLeft b r → Kept [r] w w' → (Instr.entry (.pointer (some ⟨r, 0, none⟩))).run Try.prog w' = .ok (.tuple #[.int .u64 x, .int .u8 c]) w' → wpList Try.prog ops Q rest (a.put o.dst (.tuple #[.bool true, .int .u64 x, .int .u8 c])) w') :
    wpList Try.prog ops Q (o :: rest) a w := by
  obtain ⟨D, left, cnt, h1, h2⟩ := h
  refine wpList_next_ranges_ii w hg it hop 26 5 .u64 .u8 lawU Try.underlying26 Try.underlying5 b r n D left cnt hit h1 (fun _ _ => hDone ⟨D, h1.owns, h2⟩) (fun x c w' cnt' hx hc hl hat hrg hlt hg2 hsz hen => ?_)
  obtain ⟨h3, h4⟩ := h2.2 x hx
  have hh : Maps.has D (.int .u64 x) = true := has_true_of_atKey hat
  rw [hh] at h3
  obtain ⟨c', hc'⟩ := Option.isSome_iff_exists.1 h3.symm
  have e := h4 c' hc' (.lit (.int .u8 0))
  rw [hat] at e
  injection e with e
  injection e with _ e
  subst e
  exact hMore x c w' hx hc hc' ⟨D, _, cnt', hrg, h2⟩ (by rw [hrg.left_eq, h1.left_eq]; exact hlt) (kept_grown hg2) hen
end
theorem RngU.keep {w w' : World} {T : List Nat} {b r n : Nat} {f : Int → Option Int} (h : RngU w b r n f) (hk : Kept T w w') (hb : b ∉ T) (hr : r ∉ T) : RngU w' b r n f ∧ w'.rangeLeft b r = w.rangeLeft b r := by
  obtain ⟨D, left, cnt, h1, h2⟩ := h
  have hbl := h1.owns.lt
  have hrl := h1.lt
  have e1 := hk.block b hbl hb
  have e2 := hk.block r hrl hr
  obtain ⟨es, clock, since, seen, c0, k1, k2, k3, k4, k5, rest⟩ := h1
  exact ⟨⟨D, left, cnt, ⟨es, clock, since, seen, c0, e1.trans k1, k2, k3, k4, e2.trans k5, rest⟩, h2⟩, by unfold World.rangeLeft; rw [e1, e2]⟩
theorem RngU.lt {w : World} {b r n : Nat} {f : Int → Option Int} (h : RngU w b r n f) : b < w.heap.size ∧ r < w.heap.size ∧ r ≠ b := by
  obtain ⟨D, left, cnt, h1, h2⟩ := h
  exact ⟨h1.owns.lt, h1.lt, h1.ne⟩
end Go.Proofs.Ytgiokigokedakaa
