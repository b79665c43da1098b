/- Numbers as digits by 10000, the lowest first: what they come to. Plain. -/
import Derived.Test.YtnooelpdoeijbaaBase
set_option linter.unusedVariables false
set_option linter.unusedSimpArgs false
namespace Go.Proofs.Ytnooelpdoeijbaa
def dv : List Int → Int | [] => 0 | d :: l => d + 10000 * dv l
def P4 (n : Nat) : Int := 10000 ^ n
theorem P4_succ (n : Nat) : P4 (n + 1) = 10000 * P4 n := by unfold P4; rw [Int.pow_succ]; omega
theorem P4_pos (n : Nat) : 1 ≤ P4 n := by
  induction n with
  | zero => unfold P4; simp
  | succ n ih => rw [P4_succ]; omega
theorem P4_mono {m n : Nat} (h : m ≤ n) : P4 m ≤ P4 n := by
  induction n with
  | zero => obtain rfl : m = 0 := by omega
            omega
  | succ n ih =>
    rcases Nat.lt_or_ge m (n + 1) with h1 | h1
    · have := ih (by omega); have := P4_pos n; rw [P4_succ]; omega
    · obtain rfl : m = n + 1 := by omega
      omega
def Dig (l : List Int) : Prop := ∀ d, d ∈ l → 0 ≤ d ∧ d < 10000
theorem Dig.nil : Dig [] := fun d h => by cases h
theorem Dig.tail {d : Int} {l : List Int} (h : Dig (d :: l)) : Dig l := fun x hx => h x (by simp [hx])
theorem Dig.head {d : Int} {l : List Int} (h : Dig (d :: l)) : 0 ≤ d ∧ d < 10000 := h d (by simp)
theorem Dig.app {a b : List Int} (h : Dig a) (k : Dig b) : Dig (a ++ b) := fun d hd => by
  rcases List.mem_append.1 hd with h1 | h1
  · exact h d h1
  · exact k d h1
theorem Dig.take {l : List Int} (h : Dig l) (n : Nat) : Dig (l.take n) := fun d hd => h d (List.mem_of_mem_take hd)
theorem Dig.drop {l : List Int} (h : Dig l) (n : Nat) : Dig (l.drop n) := fun d hd => h d (List.mem_of_mem_drop hd)
theorem Dig.get {l : List Int} (h : Dig l) (i : Nat) : 0 ≤ l[i]?.getD 0 ∧ l[i]?.getD 0 < 10000 := by
  rcases Nat.lt_or_ge i l.length with h1 | h1
  · rw [List.getElem?_eq_getElem h1]; exact h _ (List.getElem_mem h1)
  · rw [List.getElem?_eq_none h1]; simp
theorem dv_app (a b : List Int) : dv (a ++ b) = dv a + P4 a.length * dv b := by
  induction a with
  | nil => simp [dv, P4]
  | cons d a ih =>
    rw [List.cons_append, dv, ih, dv, List.length_cons, P4_succ, Int.mul_add, Int.mul_assoc]
    omega
theorem dv_snoc (a : List Int) (d : Int) : dv (a ++ [d]) = dv a + P4 a.length * d := by
  rw [dv_app]; simp [dv]
theorem dv_nn {l : List Int} (h : ∀ d, d ∈ l → 0 ≤ d) : 0 ≤ dv l := by
  induction l with
  | nil => simp [dv]
  | cons d l ih => have := ih (fun x hx => h x (by simp [hx])); have := h d (by simp); simp only [dv]; omega
theorem Dig.nn {l : List Int} (h : Dig l) : 0 ≤ dv l := dv_nn (fun d hd => (h d hd).1)
theorem Dig.lt {l : List Int} (h : Dig l) : dv l < P4 l.length := by
  induction l with
  | nil => simp [dv, P4]
  | cons d l ih =>
    have := ih h.tail
    have := h.head
    simp only [dv, List.length_cons]; rw [P4_succ]; omega
theorem dv_split (l : List Int) (n : Nat) (h : n ≤ l.length) : dv l = dv (l.take n) + P4 n * dv (l.drop n) := by
  have := dv_app (l.take n) (l.drop n)
  rw [List.take_append_drop, List.length_take, Nat.min_eq_left h] at this
  exact this
theorem dv_zeros (n : Nat) : dv (List.replicate n 0) = 0 := by
  induction n with
  | zero => rfl
  | succ n ih => simp [List.replicate_succ, dv, ih]
theorem dv_set (l : List Int) (i : Nat) (v : Int) (h : i < l.length) : dv (l.set i v) = dv l + P4 i * (v - l[i]?.getD 0) := by
  induction l generalizing i with
  | nil => simp at h
  | cons d l ih =>
    cases i with
    | zero => simp [dv, P4]; omega
    | succ i =>
      have := ih i (by simpa using h)
      simp only [List.set_cons_succ, dv, List.getElem?_cons_succ]
      rw [this, P4_succ, Int.mul_add, Int.mul_assoc]
      omega
/-- Digits, without noughts at the end. -/
def Canon (l : List Int) : Prop := Dig l ∧ ∀ d, l.getLast? = some d → d ≠ 0
theorem Canon.nil : Canon [] := ⟨Dig.nil, fun d h => by cases h⟩
theorem Canon.low {l : List Int} (h : Canon l) (h0 : 0 < l.length) : P4 (l.length - 1) ≤ dv l := by
  rcases List.eq_nil_or_concat l with rfl | ⟨a, d, rfl⟩
  · simp at h0
  · rw [List.concat_eq_append] at *
    have h1 := h.2 d (by simp)
    have h2 := h.1 d (by simp)
    have h3 := Dig.nn (l := a) (fun x hx => h.1 x (by simp [hx]))
    rw [dv_snoc]
    simp only [List.length_append, List.length_cons, List.length_nil, Nat.add_sub_cancel]
    have h4 := P4_pos a.length
    have h5 : P4 a.length * 1 ≤ P4 a.length * d := Int.mul_le_mul_of_nonneg_left (by omega) (by omega)
    rw [Int.mul_one] at h5
    omega
theorem Canon.len {l : List Int} (h : Canon l) {n : Nat} (hn : dv l < P4 n) : l.length ≤ n := by
  rcases Nat.lt_or_ge n l.length with h1 | h1
  · have := h.low (by omega)
    have := P4_mono (show n ≤ l.length - 1 by omega)
    omega
  · exact h1
theorem Canon.zero {l : List Int} (h : Canon l) : dv l = 0 ↔ l = [] := by
  constructor
  · intro h0
    have := h.len (n := 0) (by rw [h0]; unfold P4; simp)
    exact List.length_eq_zero_iff.1 (by omega)
  · rintro rfl; rfl
theorem Canon.drop {l : List Int} (h : Canon l) (n : Nat) (hn : n < l.length) : Canon (l.drop n) := ⟨h.1.drop n, fun d hd => by
  rw [List.getLast?_drop, if_neg (by omega)] at hd
  exact h.2 d hd⟩
theorem dv_drop {l : List Int} (h : Dig l) (n : Nat) (hn : n ≤ l.length) : dv (l.drop n) = dv l / P4 n := by
  have h1 := dv_split l n hn
  have h2 := (h.take n).nn
  have h3 := (h.take n).lt
  rw [List.length_take, Nat.min_eq_left hn] at h3
  have h4 := P4_pos n
  rw [h1, Int.add_mul_ediv_left _ _ (by omega), Int.ediv_eq_zero_of_lt h2 h3, Int.zero_add]
theorem drop_get (l : List Int) (j : Nat) (h : j < l.length) : l.drop j = l[j]?.getD 0 :: l.drop (j + 1) := by
  rw [List.drop_eq_getElem_cons h, List.getElem?_eq_getElem h]; rfl
theorem dv_at (l : List Int) (j : Nat) (h : j < l.length) : dv l = dv (l.take j) + P4 j * (l[j]?.getD 0 + 10000 * dv (l.drop (j + 1))) := by
  rw [dv_split l j (by omega), drop_get l j h]; rfl
theorem cmp_at {a b : List Int} (ha : Dig a) (hb : Dig b) {j : Nat} (hja : j < a.length) (hjb : j < b.length) (he : a.drop (j + 1) = b.drop (j + 1)) (hlt : a[j]?.getD 0 < b[j]?.getD 0) : dv a < dv b := by
  rw [dv_at a j hja, dv_at b j hjb, he]
  have h1 := (ha.take j).lt
  rw [List.length_take, Nat.min_eq_left (by omega)] at h1
  have h2 := (hb.take j).nn
  have h4 := P4_pos j
  generalize dv (b.drop (j + 1)) = R
  generalize a[j]?.getD 0 = x at *
  generalize b[j]?.getD 0 = y at *
  have h5 : P4 j * (x + 1 + 10000 * R) ≤ P4 j * (y + 10000 * R) := Int.mul_le_mul_of_nonneg_left (by omega) (by omega)
  have h6 : P4 j * (x + 1 + 10000 * R) = P4 j * (x + 10000 * R) + P4 j := by rw [show x + 1 + 10000 * R = (x + 10000 * R) + 1 by omega, Int.mul_add, Int.mul_one]
  omega
theorem len_lt {a b : List Int} (ha : Dig a) (hb : Canon b) (h : a.length < b.length) : dv a < dv b := by
  have h1 := ha.lt
  have h2 := hb.low (by omega)
  have h3 := P4_mono (show a.length ≤ b.length - 1 by omega)
  omega
theorem get_set (l : List Int) (i j : Nat) (v : Int) (h : i < l.length) : (l.set i v)[j]?.getD 0 = if i = j then v else l[j]?.getD 0 := by
  rw [List.getElem?_set]
  by_cases e : i = j
  · rw [if_pos e, if_pos e, if_pos h]; rfl
  · rw [if_neg e, if_neg e]
theorem carry {l : List Int} {j : Nat} (h : j + 1 < l.length) (v : Int) : dv (((l.set j v).set (j + 1) (l[j + 1]?.getD 0 + v / 10000)).set j (v % 10000)) = dv l + P4 j * (v - l[j]?.getD 0) := by
  rw [dv_set _ j _ (by simp; omega), dv_set _ (j + 1) _ (by simp; omega), dv_set l j v (by omega)]
  rw [get_set _ (j + 1) j _ (by simp; omega), if_neg (by omega), get_set l j j _ (by omega), if_pos rfl, get_set l j (j + 1) _ (by omega), if_neg (by omega), P4_succ]
  have e1 : l[j + 1]?.getD 0 + v / 10000 - l[j + 1]?.getD 0 = v / 10000 := by omega
  have e2 : v % 10000 - v = - (10000 * (v / 10000)) := by omega
  rw [e1, e2, Int.mul_neg, Int.mul_comm 10000 (P4 j), Int.mul_assoc]
  omega
theorem carry2 {l : List Int} {j : Nat} (h : j + 1 < l.length) : dv ((l.set (j + 1) (l[j + 1]?.getD 0 + l[j]?.getD 0 / 10000)).set j (l[j]?.getD 0 % 10000)) = dv l := by
  rw [dv_set _ j _ (by simp; omega), dv_set _ (j + 1) _ (by omega), get_set l (j + 1) j _ (by omega), if_neg (by omega), P4_succ]
  generalize l[j]?.getD 0 = v
  have e1 : l[j + 1]?.getD 0 + v / 10000 - l[j + 1]?.getD 0 = v / 10000 := by omega
  have e2 : v % 10000 - v = - (10000 * (v / 10000)) := by omega
  rw [e1, e2, Int.mul_neg, Int.mul_comm 10000 (P4 j), Int.mul_assoc]
  omega
end Go.Proofs.Ytnooelpdoeijbaa
