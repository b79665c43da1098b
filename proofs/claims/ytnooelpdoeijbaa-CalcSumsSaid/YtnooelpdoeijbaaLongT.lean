/- The product of two long numbers, step by step. Plain. -/
import Derived.Test.YtnooelpdoeijbaaLongP
set_option linter.unusedVariables false
set_option linter.unusedSimpArgs false
namespace Go.Proofs.Ytnooelpdoeijbaa
/-- What holds in the i-th row, behind k rounds. -/
structure TimesInv (L : Nat) (a b : List Int) (i k : Nat) (ds : List Int) : Prop where
  len : ds.length = L
  sum : dv ds = dv (a.take i) * dv b + P4 i * (a[i]?.getD 0 * dv (b.take k))
  nn : ∀ j : Nat, 0 ≤ ds[j]?.getD 0
  bd : ∀ j : Nat, ds[j]?.getD 0 ≤ 20001
  bd1 : ∀ j : Nat, j ≠ i + k ∨ k = b.length ∨ k = 0 → ds[j]?.getD 0 ≤ 10000
  zero : ∀ j : Nat, i + b.length < j → ds[j]?.getD 0 = 0
  zero1 : k = 0 ∨ k < b.length → ds[i + b.length]?.getD 0 = 0
theorem TimesInv.start (a b : List Int) (L : Nat) : TimesInv L a b 0 0 (List.replicate L 0) := by
  have hg : ∀ j : Nat, (List.replicate L (0 : Int))[j]?.getD 0 = 0 := fun j => by
    rw [List.getElem?_replicate]; split <;> rfl
  refine ⟨by simp, ?_, fun j => ?_, fun j => ?_, fun j _ => ?_, fun j _ => hg j, fun _ => hg _⟩
  · rw [dv_zeros]; simp [dv]
  · rw [hg]; decide
  · rw [hg]; decide
  · rw [hg]; decide
theorem dv_take_s (b : List Int) (k : Nat) (h : k < b.length) : dv (b.take (k + 1)) = dv (b.take k) + P4 k * b[k]?.getD 0 := by
  have e : b.take (k + 1) = b.take k ++ [b[k]?.getD 0] := by rw [List.take_add_one, List.getElem?_eq_getElem h]; rfl
  rw [e, dv_snoc, List.length_take, Nat.min_eq_left (by omega)]
theorem P4_add (m n : Nat) : P4 (m + n) = P4 m * P4 n := by unfold P4; exact Int.pow_add 10000 m n
theorem TimesInv.row {L : Nat} {a b : List Int} {i : Nat} {ds : List Int} (h : TimesInv L a b i b.length ds) (hi : i < a.length) : TimesInv L a b (i + 1) 0 ds := by
  refine ⟨h.len, ?_, h.nn, h.bd, fun j _ => h.bd1 j (.inr (.inl rfl)), fun j hj => h.zero j (by omega), fun _ => h.zero _ (by omega)⟩
  rw [h.sum, dv_take_s a i hi, List.take_of_length_le (Nat.le_refl _)]
  simp only [List.take_zero, dv, Int.mul_zero, Int.add_zero]
  rw [Int.add_mul, Int.mul_assoc]
theorem mul_bd {x y : Int} (hx : 0 ≤ x ∧ x < 10000) (hy : 0 ≤ y ∧ y < 10000) : 0 ≤ x * y ∧ x * y ≤ 99980001 := by
  have h1 : 0 ≤ x * y := Int.mul_nonneg hx.1 hy.1
  have h2 : x * y ≤ 9999 * y := Int.mul_le_mul_of_nonneg_right (by omega) hy.1
  omega
theorem TimesInv.step {L : Nat} {a b : List Int} {i k : Nat} {ds : List Int} (h : TimesInv L a b i k ds) (ha : Dig a) (hb : Dig b) (hL : L = a.length + b.length + 1) (hi : i < a.length) (hk : k < b.length) (v : Int) (hv : v = ds[i + k]?.getD 0 + a[i]?.getD 0 * b[k]?.getD 0) :
    TimesInv L a b i (k + 1) (((ds.set (i + k) v).set (i + k + 1) (ds[i + k + 1]?.getD 0 + v / 10000)).set (i + k) (v % 10000)) := by
  have hm := mul_bd (ha.get i) (hb.get k)
  have hlen := h.len
  have hn1 := h.nn (i + k)
  have hn2 := h.bd (i + k)
  have g : ∀ j : Nat, (((ds.set (i + k) v).set (i + k + 1) (ds[i + k + 1]?.getD 0 + v / 10000)).set (i + k) (v % 10000))[j]?.getD 0 = if j = i + k then v % 10000 else if j = i + k + 1 then ds[i + k + 1]?.getD 0 + v / 10000 else ds[j]?.getD 0 := fun j => by
    rw [get_set _ (i + k) j _ (by simp; omega), get_set _ (i + k + 1) j _ (by simp; omega), get_set _ (i + k) j _ (by omega)]
    by_cases e1 : j = i + k
    · rw [if_pos e1.symm, if_pos e1]
    · rw [if_neg (fun e => e1 e.symm), if_neg e1]
      by_cases e2 : j = i + k + 1
      · rw [if_pos e2.symm, if_pos e2]
      · rw [if_neg (fun e => e2 e.symm), if_neg e2, if_neg (fun e => e1 e.symm)]
  have hd : v / 10000 ≤ 10000 := by omega
  have hd0 : 0 ≤ v / 10000 := by omega
  have hr0 : 0 ≤ v % 10000 ∧ v % 10000 < 10000 := by omega
  have hq := h.nn (i + k + 1)
  have hq1 := h.bd1 (i + k + 1) (.inl (by omega))
  refine ⟨by simp [hlen], ?_, fun j => ?_, fun j => ?_, fun j hj => ?_, fun j hj => ?_, fun hj => ?_⟩
  · rw [carry (by omega), h.sum, dv_take_s b k hk, hv]
    generalize ds[i + k]?.getD 0 = o
    generalize a[i]?.getD 0 = x
    generalize b[k]?.getD 0 = y
    rw [show o + x * y - o = x * y by omega, P4_add, Int.mul_add x, Int.mul_add (P4 i), Int.add_assoc]
    congr 2
    rw [Int.mul_assoc, Int.mul_left_comm (P4 k) x y]
  · rw [g]; split
    · omega
    · split
      · omega
      · exact h.nn j
  · rw [g]; split
    · omega
    · split
      · omega
      · exact h.bd j
  · rw [g]; split
    · omega
    · rename_i h1
      split
      · rename_i h2
        have h3 : k + 1 = b.length := by omega
        have h4 := h.zero1 (.inr hk)
        rw [show i + k + 1 = i + b.length by omega, h4]
        omega
      · exact h.bd1 j (.inl h1)
  · rw [g, if_neg (by omega), if_neg (by omega)]
    exact h.zero j hj
  · rw [g, if_neg (by omega), if_neg (by omega)]
    exact h.zero1 (.inr hk)
/-- What holds behind i rounds of the carrying. -/
structure CarryInv (L : Nat) (T : Int) (i : Nat) (ds : List Int) : Prop where
  len : ds.length = L
  sum : dv ds = T
  low : ∀ j : Nat, j < i → 0 ≤ ds[j]?.getD 0 ∧ ds[j]?.getD 0 < 10000
  high : ∀ j : Nat, i ≤ j → 0 ≤ ds[j]?.getD 0 ∧ ds[j]?.getD 0 ≤ 10001
  high1 : ∀ j : Nat, i < j → ds[j]?.getD 0 ≤ 10000
  top : i + 1 < L → ds[L - 1]?.getD 0 = 0
  last : i + 1 = L → ds[L - 1]?.getD 0 ≤ 1
theorem TimesInv.carried {L : Nat} {a b : List Int} {ds : List Int} (h : TimesInv L a b a.length 0 ds) (hL : L = a.length + b.length + 1) : CarryInv L (dv a * dv b) 0 ds := by
  have h0 := h.zero1 (.inl rfl)
  refine ⟨h.len, ?_, fun j hj => by omega, fun j _ => ?_, fun j hj => ?_, fun _ => ?_, fun _ => ?_⟩
  · rw [h.sum, List.take_of_length_le (Nat.le_refl _)]
    simp [dv]
  · have h1 := h.nn j
    have h2 := h.bd1 j (.inr (.inr rfl))
    omega
  · exact h.bd1 j (.inr (.inr rfl))
  · rw [show L - 1 = a.length + b.length by omega, h0]
  · rw [show L - 1 = a.length + b.length by omega, h0]; decide
theorem CarryInv.step {L : Nat} {T : Int} {i : Nat} {ds : List Int} (h : CarryInv L T i ds) (hi : i + 1 < L) :
    CarryInv L T (i + 1) ((ds.set (i + 1) (ds[i + 1]?.getD 0 + ds[i]?.getD 0 / 10000)).set i (ds[i]?.getD 0 % 10000)) := by
  have hlen := h.len
  have h1 := h.high i (Nat.le_refl _)
  have h2 := h.high (i + 1) (by omega)
  have h3 := h.high1 (i + 1) (by omega)
  have g : ∀ j : Nat, ((ds.set (i + 1) (ds[i + 1]?.getD 0 + ds[i]?.getD 0 / 10000)).set i (ds[i]?.getD 0 % 10000))[j]?.getD 0 = if j = i then ds[i]?.getD 0 % 10000 else if j = i + 1 then ds[i + 1]?.getD 0 + ds[i]?.getD 0 / 10000 else ds[j]?.getD 0 := fun j => by
    rw [get_set _ i j _ (by simp; omega), get_set _ (i + 1) j _ (by omega)]
    by_cases e1 : j = i
    · rw [if_pos e1.symm, if_pos e1]
    · rw [if_neg (fun e => e1 e.symm), if_neg e1]
      by_cases e2 : j = i + 1
      · rw [if_pos e2.symm, if_pos e2]
      · rw [if_neg (fun e => e2 e.symm), if_neg e2]
  refine ⟨by simp [hlen], ?_, fun j hj => ?_, fun j hj => ?_, fun j hj => ?_, fun hj => ?_, fun hj => ?_⟩
  · rw [carry2 (by omega), h.sum]
  · rw [g]; split
    · omega
    · rw [if_neg (by omega)]; exact h.low j (by omega)
  · rw [g, if_neg (by omega)]; split
    · omega
    · exact h.high j (by omega)
  · rw [g, if_neg (by omega), if_neg (by omega)]
    exact h.high1 j (by omega)
  · rw [g, if_neg (by omega), if_neg (by omega)]
    exact h.top hi
  · rw [g, if_neg (by omega), if_pos (by omega)]
    have := h.top hi
    rw [show L - 1 = i + 1 by omega] at this
    omega
theorem CarryInv.done {L : Nat} {T : Int} {i : Nat} {ds : List Int} (h : CarryInv L T i ds) (hi : i + 1 = L) : Dig ds ∧ dv ds = T := by
  refine ⟨fun d hd => ?_, h.sum⟩
  obtain ⟨j, hj, rfl⟩ := List.getElem_of_mem hd
  have hl := h.len
  rcases Nat.lt_or_ge j i with h1 | h1
  · have := h.low j h1
    rwa [List.getElem?_eq_getElem hj] at this
  · have h2 := h.last hi
    have h3 := (h.high j h1).1
    rw [show L - 1 = j by omega] at h2
    rw [List.getElem?_eq_getElem hj] at h2 h3
    have e : (some ds[j]).getD 0 = ds[j] := rfl
    rw [e] at h2 h3
    omega
end Go.Proofs.Ytnooelpdoeijbaa
