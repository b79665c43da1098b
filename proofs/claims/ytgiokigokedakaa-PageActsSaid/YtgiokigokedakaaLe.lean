/- Numbers as bytes, the lowest first; rows of which a piece is laid anew. Plain. -/
import Derived.Test.YtgiokigokedakaaMemLd
import Derived.Laws.BitsAllLaws
set_option linter.unusedVariables false
set_option linter.unusedSimpArgs false
namespace Go.Proofs.Ytgiokigokedakaa
open Go.RowKit
def le : List Int → Int | [] => 0 | x :: l => x + 256 * le l
theorem U8s.tail {x : Int} {l : List Int} (h : U8s (x :: l)) : U8s l := fun z hz => h z (by simp [hz])
theorem U8s.take {l : List Int} (h : U8s l) (n : Nat) : U8s (l.take n) := fun z hz => h z (List.mem_of_mem_take hz)
theorem U8s.drop {l : List Int} (h : U8s l) (n : Nat) : U8s (l.drop n) := fun z hz => h z (List.mem_of_mem_drop hz)
theorem U8s.append {a b : List Int} (h : U8s a) (k : U8s b) : U8s (a ++ b) := fun z hz => by
  rcases List.mem_append.1 hz with h1 | h1
  · exact h z h1
  · exact k z h1
theorem U8s.nil : U8s [] := fun z hz => by simp at hz
theorem U8s.zeros (n : Nat) : U8s (zeros n) := fun z hz => by simp [Go.Proofs.Ytgiokigokedakaa.zeros] at hz; omega
theorem U8s.get {l : List Int} (h : U8s l) (i : Nat) : 0 ≤ l[i]?.getD 0 ∧ l[i]?.getD 0 < 256 := by
  rcases Nat.lt_or_ge i l.length with h1 | h1
  · rw [List.getElem?_eq_getElem h1]; exact h _ (List.getElem_mem h1)
  · rw [List.getElem?_eq_none h1]; simp
theorem le_nn {l : List Int} (h : U8s l) : 0 ≤ le l := by
  induction l with
  | nil => simp [le]
  | cons x l ih => have := ih h.tail; have := h x (by simp); simp only [le]; omega
theorem le_lt {l : List Int} (h : U8s l) : le l < 256 ^ l.length := by
  induction l with
  | nil => simp [le]
  | cons x l ih =>
    have h1 := ih h.tail
    have h2 := h x (by simp)
    simp only [le, List.length_cons, Int.pow_succ]
    omega
theorem pow_mono256 {m n : Nat} (h : m ≤ n) : (256 : Int) ^ m ≤ 256 ^ n := by
  have h1 : 256 ^ m ≤ 256 ^ n := Nat.pow_le_pow_right (by omega) h
  have e1 : ((256 ^ m : Nat) : Int) = 256 ^ m := by simp
  have e2 : ((256 ^ n : Nat) : Int) = 256 ^ n := by simp
  omega
theorem or_add (m n : Nat) (h : m < 72057594037927936) (hn : n < 256) : bits .or .u64 (((m * 256 : Nat)) : Int) (n : Int) = ((m * 256 + n : Nat) : Int) := by
  have e3 := u64_or_nat (m * 256) n (by omega) (by omega)
  have e4 : m * 256 + n = m * 256 ||| n := by
    have := Nat.shiftLeft_add_eq_or_of_lt (b := n) (i := 8) (by omega) m
    simpa [Nat.shiftLeft_eq] using this
  rw [← e4] at e3
  exact e3
theorem ldStep_eq (acc x i : Int) (h0 : 0 ≤ acc) (h1 : acc < 72057594037927936) (x0 : 0 ≤ x) (x1 : x < 256) : ldStep acc (i, x) = x + 256 * acc := by
  have e1 : IntKind.u64.wrap (acc * 256) = acc * 256 := by rw [IntKind.wrap_u64]; omega
  have e2 : IntKind.u64.wrap x = x := by rw [IntKind.wrap_u64]; omega
  have e0 : ldStep acc (i, x) = bits .or .u64 (IntKind.u64.wrap (acc * 256)) (IntKind.u64.wrap x) := rfl
  rw [e0, e1, e2]
  have e3 := or_add acc.toNat x.toNat (by omega) (by omega)
  rw [show ((acc.toNat * 256 : Nat) : Int) = acc * 256 by omega, show (x.toNat : Int) = x by omega] at e3
  rw [e3]
  omega
theorem ld_eq (ys : List Int) (h : U8s ys) (h8 : ys.length ≤ 8) : ∀ k, k ≤ ys.length → ldFold (upto (bw ys.length ys) k) = le (ys.drop (ys.length - k)) := by
  intro k
  induction k with
  | zero => intro _; simp [upto, ldFold, le]
  | succ k ih =>
    intro hk
    have hlt : ys.length - 1 - k < ys.length := by omega
    rw [upto_succ, ldFold_snoc, ih (by omega)]
    have e1 : ys.drop (ys.length - (k + 1)) = ys[ys.length - 1 - k]?.getD 0 :: ys.drop (ys.length - k) := by
      rw [show ys.length - (k + 1) = ys.length - 1 - k by omega, List.drop_eq_getElem_cons hlt, List.getElem?_eq_getElem hlt, show ys.length - 1 - k + 1 = ys.length - k by omega]
      rfl
    rw [e1]
    have hb := h.get (ys.length - 1 - k)
    have hl : le (ys.drop (ys.length - k)) < 256 ^ 7 := by
      have := le_lt (h.drop (ys.length - k))
      have h3 := pow_mono256 (show (ys.drop (ys.length - k)).length ≤ 7 by simp; omega)
      omega
    unfold bw
    rw [ldStep_eq _ _ _ (le_nn (h.drop _)) (by omega) hb.1 hb.2]
    rfl
theorem ld_all (ys : List Int) (h : U8s ys) (h8 : ys.length ≤ 8) : ldFold (upto (bw ys.length ys) ys.length) = le ys := by
  rw [ld_eq ys h h8 _ (Nat.le_refl _)]; simp
/-- A number's n lowest bytes. -/
def bytesOf : Nat → Int → List Int | 0, _ => [] | n + 1, x => x % 256 :: bytesOf n (x / 256)
@[simp] theorem length_bytesOf (n : Nat) (x : Int) : (bytesOf n x).length = n := by
  induction n generalizing x with
  | zero => rfl
  | succ n ih => simp [bytesOf, ih]
theorem U8s.bytesOf (n : Nat) (x : Int) : U8s (bytesOf n x) := by
  induction n generalizing x with
  | zero => exact U8s.nil
  | succ n ih =>
    intro z hz
    simp only [Go.Proofs.Ytgiokigokedakaa.bytesOf, List.mem_cons] at hz
    rcases hz with rfl | hz
    · omega
    · exact ih _ z hz
theorem le_bytesOf (n : Nat) (x : Int) (h0 : 0 ≤ x) (h : x < 256 ^ n) : le (bytesOf n x) = x := by
  induction n generalizing x with
  | zero => simp at h; simp [bytesOf, le]; omega
  | succ n ih =>
    simp only [bytesOf, le]
    rw [ih (x / 256) (by omega) (by rw [Int.pow_succ] at h; omega)]
    omega
theorem bytesOf_le (l : List Int) (h : U8s l) : bytesOf l.length (le l) = l := by
  induction l with
  | nil => rfl
  | cons x l ih =>
    have h1 := h x (by simp)
    simp only [List.length_cons, bytesOf, le]
    rw [show (x + 256 * le l) % 256 = x by omega, show (x + 256 * le l) / 256 = le l by omega, ih h.tail]
theorem bytesOf_get (n : Nat) (x : Int) (i : Nat) (h : i < n) : (bytesOf n x)[i]? = some (x / 256 ^ i % 256) := by
  induction n generalizing x i with
  | zero => omega
  | succ n ih =>
    cases i with
    | zero => simp [bytesOf]
    | succ i =>
      simp only [bytesOf, List.getElem?_cons_succ]
      rw [ih _ _ (by omega), Int.pow_succ, Int.mul_comm, Int.ediv_ediv_of_nonneg (by omega)]
theorem le_take (l : List Int) (h : U8s l) (n : Nat) : le (l.take n) = le l % 256 ^ n := by
  induction n generalizing l with
  | zero => simp [le, Int.emod_one]
  | succ n ih =>
    cases l with
    | nil => simp [le]
    | cons x l =>
      have h1 := h x (by simp)
      simp only [List.take_succ_cons, le]
      rw [ih l h.tail, Int.pow_succ]
      have hp : (0 : Int) < 256 ^ n := Int.pow_pos (by omega)
      have h2 := Int.emod_nonneg (le l) (show (256 : Int) ^ n ≠ 0 by omega)
      have h3 := Int.emod_lt_of_pos (le l) hp
      have e : x + 256 * le l = (x + 256 * (le l % 256 ^ n)) + (256 ^ n * 256) * (le l / 256 ^ n) := by
        have h4 := Int.emod_add_mul_ediv (le l) (256 ^ n)
        have h5 : 256 ^ n * 256 * (le l / 256 ^ n) = 256 * (256 ^ n * (le l / 256 ^ n)) := by rw [Int.mul_comm (256 ^ n) 256, Int.mul_assoc]
        rw [h5]
        omega
      rw [e, Int.add_mul_emod_self_left]
      rw [Int.emod_eq_of_lt (a := x + 256 * (le l % 256 ^ n)) (by omega) (by omega)]
/-- splice, by its places. -/
theorem splice_get {α : Type} (L : List α) (a : Nat) (cs : List α) (h : a + cs.length ≤ L.length) (i : Nat) :
    (splice L a cs)[i]? = if i < a then L[i]? else if i < a + cs.length then cs[i - a]? else L[i]? := by
  unfold splice
  by_cases h1 : i < a
  · rw [if_pos h1, List.getElem?_append_left (by simp; omega), List.getElem?_take_of_lt h1]
  · rw [if_neg h1, List.getElem?_append_right (by simp; omega)]
    have e : (L.take a).length = a := by simp; omega
    rw [e]
    by_cases h2 : i < a + cs.length
    · rw [if_pos h2, List.getElem?_append_left (by omega)]
    · rw [if_neg h2, List.getElem?_append_right (by omega), List.getElem?_drop]
      congr 1; omega
theorem U8s.splice {L cs : List Int} (h : U8s L) (k : U8s cs) (a : Nat) : U8s (Go.splice L a cs) := (h.take a).append (k.append (h.drop _))
theorem splice_nil {α : Type} (L : List α) (a : Nat) : splice L a [] = L := by simp [splice]
theorem map_splice {α β : Type} (f : α → β) (L : List α) (a : Nat) (cs : List α) : (splice L a cs).map f = splice (L.map f) a (cs.map f) := by simp [splice, List.map_take, List.map_drop]
theorem splice_mid {α : Type} (L : List α) (a : Nat) (cs : List α) (h : a + cs.length ≤ L.length) : ((splice L a cs).drop a).take cs.length = cs := by
  apply List.ext_getElem?
  intro i
  by_cases hi : i < cs.length
  · rw [List.getElem?_take_of_lt hi, List.getElem?_drop, splice_get L a cs h, if_neg (by omega), if_pos (by omega)]
    congr 1; omega
  · rw [List.getElem?_eq_none (by rw [List.length_take]; omega), List.getElem?_eq_none (by omega)]
theorem splice_far {α : Type} (L : List α) (a : Nat) (cs : List α) (h : a + cs.length ≤ L.length) (b n : Nat) (hf : b + n ≤ a ∨ a + cs.length ≤ b) : ((splice L a cs).drop b).take n = (L.drop b).take n := by
  apply List.ext_getElem?
  intro i
  by_cases hi : i < n
  · rw [List.getElem?_take_of_lt hi, List.getElem?_take_of_lt hi, List.getElem?_drop, List.getElem?_drop, splice_get L a cs h]
    rcases hf with h1 | h1
    · rw [if_pos (by omega)]
    · rw [if_neg (by omega), if_neg (by omega)]
  · rw [List.getElem?_eq_none (by rw [List.length_take]; omega), List.getElem?_eq_none (by rw [List.length_take]; omega)]
/-- One more cell of a piece. -/
theorem splice_snoc {α : Type} (L : List α) (a : Nat) (cs : List α) (x : α) (h : a + cs.length < L.length) : (splice L a cs).set (a + cs.length) x = splice L a (cs ++ [x]) := by
  apply List.ext_getElem?
  intro i
  rw [List.getElem?_set, splice_get L a cs (by omega), splice_get L a (cs ++ [x]) (by simp; omega)]
  have hl : (splice L a cs).length = L.length := length_splice L a cs (by omega)
  rw [hl]
  simp only [List.length_append, List.length_cons, List.length_nil]
  by_cases h1 : i < a
  · rw [if_pos h1, if_pos h1, if_neg (by omega)]
  · rw [if_neg h1, if_neg h1]
    by_cases h2 : a + cs.length = i
    · rw [if_pos h2, if_pos (by omega), if_pos (by omega), List.getElem?_append_right (by omega)]
      simp [← h2]
    · rw [if_neg h2]
      by_cases h3 : i < a + cs.length
      · rw [if_pos h3, if_pos (by omega), List.getElem?_append_left (by omega)]
      · rw [if_neg h3, if_neg (by omega)]
theorem cells_set (zs : List Int) (i : Nat) (v : Int) : (cellsOf zs).setIfInBounds i (.int .u8 v) = cellsOf (zs.set i v) := by
  simp [cellsOf, List.map_set]
end Go.Proofs.Ytgiokigokedakaa
