/- copy at elements of K cells; append of zeros, then a row is laid into it: what slices.Insert does, in rows. -/
import Derived.Test.YtgiokigokedakaaRowS
import Derived.Lib.SliceRun
import Derived.Lib.AppendZerosOnto
import Derived.Lib.Overlaps
import Derived.Shelf.Abstract
set_option linter.unusedVariables false
set_option linter.unusedSimpArgs false
namespace Go.Proofs.Ytgiokigokedakaa
open Go.RowKit
theorem run_copy_rowK {P : Program} (w : World) (dT sT ty elem : TypeId) (K g o dLen dCap : Nat) (a : Addr) (sLen sCap n : Nat) (cur : Array Value) (t : TypeId) (cs : List Value)
    (hu : P.underlying dT = some (.slice elem)) (hs : (P.info? elem).map (·.size) = some K)
    (hg : w.heap[g]? = some (.cells cur t (0, 0))) (hn : n = Nat.min sLen dLen) (hl : cs.length = n * K)
    (hsrc : ∀ j v, cs[j]? = some v → w.cell? (a.add j) = some v) (hfit : o + cs.length ≤ cur.size) (h1 : ∀ v ∈ cs, v.oneCell' = true) :
    (Builtin.copy_ #[dT, sT] ty #[.slice (some ⟨g, o, none⟩) dLen dCap, .slice (some a) sLen sCap]).run P w =
      .ok (goInt n) (w.setRow g (cur.toList.take o ++ cs ++ cur.toList.drop (o + cs.length)).toArray) := by
  have hld := run_loadCells_list (P := P) w a cs hsrc
  have hst := run_storeCells_at P g o t cs 0 cur w hg (by simpa using hfit) h1
  cases hq : P.info? elem with
  | none => simp [hq] at hs
  | some i =>
    have hi : i.size = K := by simpa [hq] using hs
    simp [Builtin.copy_, run_underlying hu, Builtin.lenOf, Builtin.firstCells, sizeOf, typeInfo, hq, hi, ← hn, ← hl, hld, hst]
theorem wpList_copy_run {P : Program} {w : World} {ops : Array Oper} {rest : List Oper} {o : Oper} {a : Act} {Q : Exit → Act → World → Prop} (hw : Region.wanted o (yielded ops a.tmps) = true) (d s : Operand) (t t' : TypeId)
    (ho : o.op = .call { callee := .builtin .copy, args := #[d, s], argTypes := #[t, t'] }) (v u : Value) (hd : a.eval d = v) (hs : a.eval s = u) {v' : Value} {w' : World}
    (hr : (Builtin.copy_ #[t, t'] o.type #[v, u]).run P w = .ok v' w') (h : wpList P ops Q rest (a.put o.dst v') w') : wpList P ops Q (o :: rest) a w :=
  wpList_step fun C hC => by
    rw [if_pos hw]
    unfold Oper.wp execOp
    simp only [ho, resolve, invoke, builtin, Sem.run_bind, Sem.run_pure, Result.andThen_ok, List.map_toArray, List.map_cons, List.map_nil, hd, hs, hr]
    exact hC _ _ h
theorem wpList_append_run2 {P : Program} {w : World} {ops : Array Oper} {rest : List Oper} {o : Oper} {a : Act} {Q : Exit → Act → World → Prop} (hw : Region.wanted o (yielded ops a.tmps) = true) (s x : Operand) (t t' : TypeId)
    (ho : o.op = .call { callee := .builtin .append, args := #[s, x], argTypes := #[t, t'] }) (v u : Value) (hs : a.eval s = v) (hx : a.eval x = u) {v' : Value} {w' : World}
    (hr : (Builtin.append_ #[t, t'] o.type #[v, u]).run P w = .ok v' w') (h : wpList P ops Q rest (a.put o.dst v') w') : wpList P ops Q (o :: rest) a w :=
  wpList_step fun C hC => by
    rw [if_pos hw]
    unfold Oper.wp execOp
    simp only [ho, resolve, invoke, builtin, Sem.run_bind, Sem.run_pure, Result.andThen_ok, List.map_toArray, List.map_cons, List.map_nil, hs, hx, hr]
    exact hC _ _ h
section
variable {α : Type} {enc : α → List Value} {K : Nat}
/-- Whichever of the two copies comes first: the row's cells, made of three pieces. -/
theorem seg3 {α : Type} (A B C D : List α) (cur : List α) (a b : Nat) (hA : cur.take a = A) (ha : A.length = a) (hB : B.length = b) (hD : cur.drop (a + b + C.length) = D) (hle : a + b + C.length ≤ cur.length) :
    (cur.take a ++ B ++ cur.drop (a + b)).take (a + b) ++ C ++ (cur.take a ++ B ++ cur.drop (a + b)).drop (a + b + C.length) = A ++ B ++ C ++ D := by
  have h1 : (A ++ B).length = a + b := by rw [List.length_append, hB, ha]
  rw [hA]
  have e1 : ((A ++ B) ++ cur.drop (a + b)).take (a + b) = A ++ B := by rw [← h1, List.take_left]
  have e2 : ((A ++ B) ++ cur.drop (a + b)).drop (a + b + C.length) = D := by
    rw [← List.drop_drop]
    have e3 : ((A ++ B) ++ cur.drop (a + b)).drop (a + b) = cur.drop (a + b) := by
      conv => lhs; arg 1; rw [← h1]
      rw [List.drop_left]
    rw [e3, List.drop_drop, hD]
  rw [e1, e2]
theorem seg3' {α : Type} (A B C D : List α) (cur : List α) (a b : Nat) (hA : cur.take a = A) (hB : B.length = b) (hD : cur.drop (a + b + C.length) = D) (hle : a + b + C.length ≤ cur.length) :
    (cur.take (a + b) ++ C ++ cur.drop (a + b + C.length)).take a ++ B ++ (cur.take (a + b) ++ C ++ cur.drop (a + b + C.length)).drop (a + b) = A ++ B ++ C ++ D := by
  have h1 : (cur.take (a + b)).length = a + b := by rw [List.length_take]; omega
  rw [hD, List.append_assoc (cur.take (a + b)), List.take_append_of_le_length (by omega), List.take_take, Nat.min_eq_left (by omega), hA]
  have h2 : (cur.take (a + b) ++ (C ++ D)).drop (a + b) = C ++ D := by
    conv => lhs; arg 1; rw [← h1]
    rw [List.drop_left]
  rw [h2]
  simp
theorem take_flat (hk : EncK enc K) (ls : List α) (k : Nat) (h : k ≤ ls.length) : (ls.flatMap enc).take (k * K) = (ls.take k).flatMap enc := by
  have e : ls.flatMap enc = (ls.take k).flatMap enc ++ (ls.drop k).flatMap enc := by rw [← List.flatMap_append, List.take_append_drop]
  have hl : ((ls.take k).flatMap enc).length = k * K := by rw [hk.flat_len, List.length_take, Nat.min_eq_left h]
  rw [e, ← hl, List.take_left]
theorem drop_flat (hk : EncK enc K) (ls : List α) (k : Nat) (h : k ≤ ls.length) : (ls.flatMap enc).drop (k * K) = (ls.drop k).flatMap enc := by
  have e : ls.flatMap enc = (ls.take k).flatMap enc ++ (ls.drop k).flatMap enc := by rw [← List.flatMap_append, List.take_append_drop]
  have hl : ((ls.take k).flatMap enc).length = k * K := by rw [hk.flat_len, List.length_take, Nat.min_eq_left h]
  rw [e, ← hl, List.drop_left]
/-- x, put in ahead of place k. -/
def ins (ls : List α) (k : Nat) (x : α) : List α := ls.take k ++ x :: ls.drop k
theorem ins_flat (ls : List α) (x : α) (k : Nat) : (ins ls k x).flatMap enc = (ls.take k).flatMap enc ++ enc x ++ (ls.drop k).flatMap enc := by
  unfold ins
  rw [List.flatMap_append, List.flatMap_cons, List.append_assoc]
theorem ins_len (ls : List α) (x : α) (k : Nat) (h : k ≤ ls.length) : (ins ls k x).length = ls.length + 1 := by
  unfold ins; simp; omega
theorem ins_end (ls : List α) (x : α) : ins ls ls.length x = ls ++ [x] := by unfold ins; simp
/-- The block that a slice of the call's own lies in. -/
def own (v : Value) : List Nat := v.ownBlock.toList
theorem kept_own {v : Value} {w w' : World} (h : w.grownBy w' v.ownBlock) : Kept (own v) w w' :=
  ⟨h.os, h.tape, h.output, h.size, fun k hk hn => h.block k hk (fun e => hn (by unfold own; rw [← e]; simp))⟩
/-- append to a slice of structs of the call's own: what it gives, and where that lies. -/
theorem run_app_S {P : Program} (hk : EncK enc K) (T E : TypeId) (i0 : TypeInfo) (z : Value) (bytes : Nat) (hT : P.underlying T = some (.slice E))
    (hi : P.info? E = some i0) (hz0 : i0.zero = some z) (hz1 : i0.size = K) (hz2 : i0.bytes = bytes) (hzc : z.cells.size = K) (hb8 : bytes ≤ 64)
    (w : World) (B : Nat) (v : Value) (xs ys : List α) (hown : OwnS B E K enc w v xs) (ad : Addr) (c : Nat) (hnews : ∀ j u, (ys.flatMap enc)[j]? = some u → w.cell? (ad.add j) = some u) (hB : B ≤ w.heap.size) (hlen : xs.length + ys.length ≤ 1000000000) (ty : TypeId) :
    ∃ v' w', (Builtin.append_ #[T, T] ty #[v, .slice (some ad) ys.length c]).run P w = .ok v' w' ∧ OwnS B E K enc w' v' (xs ++ ys) ∧ Kept (own v) w w' ∧ (∀ g, g ∈ own v' → g ∈ own v ∨ w.heap.size ≤ g) := by
  have hbb : (xs.length + ys.length) * bytes ≤ 140737488355328 := by
    have := Nat.mul_le_mul hlen hb8
    omega
  have gen : ∀ B', B' ≤ w.heap.size → OwnS B' E K enc w v xs → ∃ v' w', (Builtin.append_ #[T, T] ty #[v, .slice (some ad) ys.length c]).run P w = .ok v' w' ∧ OwnS B' E K enc w' v' (xs ++ ys) ∧ Kept (own v) w w' := fun B' hB' ho' => by
    obtain ⟨v', w', hrun, h2, h3, _⟩ := run_append_own (P := P) w B' T ty E i0 z K bytes hT hi hz0 hz1 hz2 hzc hk.1 v xs.length (xs.flatMap enc) ho' ad ys.length c (ys.flatMap enc) (hk.flat_len ys) hnews (hk.flat_one ys) (by unfold maxLen; omega) hbb hB'
    refine ⟨v', w', hrun, ?_, kept_own h3⟩
    unfold OwnS
    rw [List.length_append, List.flatMap_append]
    exact h2
  obtain ⟨v', w', hrun, h2, h3⟩ := gen B hB hown
  refine ⟨v', w', hrun, h2, h3, ?_⟩
  rcases hown.2 with ⟨rfl, h0⟩ | ⟨g, cap, cur, rfl, hbg, hg, hnc, hcm, hcs, htake⟩
  · have hx := List.length_eq_zero_iff.1 h0
    subst hx
    obtain ⟨v2, w2, hrun2, h4, _⟩ := gen w.heap.size (Nat.le_refl _) (OwnS.nil _ _ _)
    rw [hrun] at hrun2
    injection hrun2 with e1 e2
    subst e1 e2
    intro q hq
    obtain ⟨A, c', rfl, _, _, _, _, hA⟩ := h4.slice
    cases A with
    | none => simp [own, Value.ownBlock] at hq
    | some x =>
      simp [own, Value.ownBlock] at hq
      subst hq
      exact .inr (hA x rfl).1
  · by_cases hroom : xs.length + ys.length ≤ cap
    · have hr2 := run_append_room (P := P) w T ty E i0 hT hi g xs.length cap cur hg ad ys.length c (ys.flatMap enc) (by rw [hz1]; exact hk.flat_len ys) hnews (hk.flat_one ys) hroom (by rw [hz1, hk.flat_len, hcs, ← Nat.add_mul]; exact Nat.mul_le_mul_right _ hroom)
      rw [hrun] at hr2
      injection hr2 with e1 _
      subst e1
      intro q hq
      exact .inl hq
    · have holds : ∀ j u, (xs.flatMap enc)[j]? = some u → w.cell? ((⟨g, 0, none⟩ : Addr).add j) = some u := by
        intro j u hu
        have h9 := World.ownsRow.cells (g := g) hown rfl j u hu
        exact h9
      have hr2 := run_append_grow (P := P) w T ty E i0 z hT hi hz0 ⟨g, 0, none⟩ xs.length cap (xs.flatMap enc) (by rw [hz1]; exact hk.flat_len xs) holds ad ys.length c (ys.flatMap enc) (by rw [hz1]; exact hk.flat_len ys) hnews (by omega) (by omega) (growslice_fits (by omega) (by rw [hz2]; exact hbb))
      rw [hrun] at hr2
      injection hr2 with e1 _
      subst e1
      intro q hq
      simp [own, Value.ownBlock] at hq
      exact .inr (by omega)
end
end Go.Proofs.Ytgiokigokedakaa
