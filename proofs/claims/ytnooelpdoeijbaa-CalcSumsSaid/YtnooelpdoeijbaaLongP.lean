/- The sum of two long numbers, step by step. Plain. -/
import Derived.Test.YtnooelpdoeijbaaLong
set_option linter.unusedVariables false
set_option linter.unusedSimpArgs false
namespace Go.Proofs.Ytnooelpdoeijbaa
/-- What holds behind i rounds. -/
structure PlusInv (L : Nat) (b : List Int) (T : Int) (i : Nat) (ds : List Int) : Prop where
  len : ds.length = L
  sum : dv ds + P4 i * dv (b.drop i) = T
  low : ∀ j, j < i → 0 ≤ ds[j]?.getD 0 ∧ ds[j]?.getD 0 < 10000
  cur : 0 ≤ ds[i]?.getD 0 ∧ ds[i]?.getD 0 ≤ 10000
  high : ∀ j, i < j → 0 ≤ ds[j]?.getD 0 ∧ ds[j]?.getD 0 < 10000
  top : i + 1 < L → ds[L - 1]?.getD 0 = 0
  last : i + 1 = L → ds[L - 1]?.getD 0 ≤ 1
  blen : b.length < L
theorem PlusInv.start {a b : List Int} {L : Nat} (ha : Dig a) (hL : L = max a.length b.length + 1) : PlusInv L b (dv a + dv b) 0 (a ++ List.replicate (L - a.length) 0) := by
  have hg : ∀ j : Nat, (a ++ List.replicate (L - a.length) 0)[j]?.getD 0 = a[j]?.getD 0 := fun j => by
    rcases Nat.lt_or_ge j a.length with h | h
    · rw [List.getElem?_append_left h]
    · rw [List.getElem?_append_right h, List.getElem?_eq_none h, List.getElem?_replicate]
      split <;> rfl
  refine ⟨by simp; omega, ?_, fun j hj => by omega, ?_, fun j hj => ?_, fun h => ?_, fun h => ?_, by omega⟩
  · rw [dv_app, dv_zeros]; simp [P4]
  · rw [hg]; have := ha.get 0; omega
  · rw [hg]; exact ha.get j
  · rw [hg, List.getElem?_eq_none (by omega)]; rfl
  · rw [hg, List.getElem?_eq_none (by omega)]; decide
theorem PlusInv.step {L : Nat} {b : List Int} {T : Int} {i : Nat} {ds : List Int} (h : PlusInv L b T i ds) (hb : Dig b) (hi : i < L) (v : Int) (hv : v = ds[i]?.getD 0 + b[i]?.getD 0) :
    (v < 10000 → PlusInv L b T (i + 1) (ds.set i v)) ∧ (10000 ≤ v → i + 1 < L ∧ v < 20000 ∧ PlusInv L b T (i + 1) (((ds.set i v).set i (v - 10000)).set (i + 1) (ds[i + 1]?.getD 0 + 1))) := by
  have hbd := hb.get i
  have hcur := h.cur
  have hlen := h.len
  have hS : P4 i * dv (b.drop i) = P4 i * b[i]?.getD 0 + P4 (i + 1) * dv (b.drop (i + 1)) := by
    rcases Nat.lt_or_ge i b.length with h1 | h1
    · rw [drop_get b i h1, dv, P4_succ, Int.mul_add, Int.mul_comm 10000 (P4 i), Int.mul_assoc]
    · rw [List.drop_eq_nil_of_le h1, List.drop_eq_nil_of_le (by omega), List.getElem?_eq_none h1]
      simp [dv]
  have hsum := h.sum
  rw [hS] at hsum
  have htop : i + 1 = L → b[i]?.getD 0 = 0 := fun e => by
    rw [List.getElem?_eq_none (by have := h.blen; omega)]; rfl
  refine ⟨fun hlt => ?_, fun hge => ?_⟩
  · refine ⟨by simp [hlen], ?_, fun j hj => ?_, ?_, fun j hj => ?_, fun e => ?_, fun e => ?_, h.blen⟩
    · rw [dv_set ds i v (by omega), ← hsum, hv]
      rw [show ds[i]?.getD 0 + b[i]?.getD 0 - ds[i]?.getD 0 = b[i]?.getD 0 by omega]
      omega
    · rw [get_set _ _ _ _ (by omega)]
      split
      · omega
      · exact h.low j (by omega)
    · rw [get_set _ _ _ _ (by omega), if_neg (by omega)]
      have := h.high (i + 1) (by omega)
      omega
    · rw [get_set _ _ _ _ (by omega), if_neg (by omega)]
      exact h.high j (by omega)
    · rw [get_set _ _ _ _ (by omega), if_neg (by omega)]
      exact h.top (by omega)
    · rw [get_set _ _ _ _ (by omega), if_neg (by omega)]
      have := h.top (by omega)
      omega
  · have hi1 : i + 1 < L := by
      rcases Nat.lt_or_ge (i + 1) L with h1 | h1
      · exact h1
      · have e : i + 1 = L := by omega
        have h2 := h.last e
        have h3 := htop e
        rw [show L - 1 = i by omega] at h2
        omega
    refine ⟨hi1, by omega, by simp [hlen], ?_, fun j hj => ?_, ?_, fun j hj => ?_, fun e => ?_, fun e => ?_, h.blen⟩
    · rw [dv_set _ (i + 1) _ (by simp; omega), dv_set _ i _ (by simp; omega), dv_set ds i v (by omega)]
      rw [get_set _ i (i + 1) _ (by simp; omega), if_neg (by omega), get_set ds i (i + 1) _ (by omega), if_neg (by omega), get_set ds i i _ (by omega), if_pos rfl, ← hsum, hv, P4_succ]
      generalize ds[i]?.getD 0 = o
      generalize b[i]?.getD 0 = y
      generalize ds[i + 1]?.getD 0 = z
      generalize dv (b.drop (i + 1)) = R
      rw [show z + 1 - z = 1 by omega, show o + y - 10000 - (o + y) = -10000 by omega, show o + y - o = y by omega, Int.mul_one, Int.mul_neg, Int.mul_comm (P4 i) 10000]
      omega
    · rw [get_set _ (i + 1) j _ (by simp; omega), if_neg (by omega), get_set _ i j _ (by simp; omega)]
      split
      · omega
      · rw [get_set _ i j _ (by omega), if_neg (by omega)]
        exact h.low j (by omega)
    · rw [get_set _ (i + 1) (i + 1) _ (by simp; omega), if_pos rfl]
      have := h.high (i + 1) (by omega)
      omega
    · rw [get_set _ (i + 1) j _ (by simp; omega), if_neg (by omega), get_set _ i j _ (by simp; omega), if_neg (by omega), get_set _ i j _ (by omega), if_neg (by omega)]
      exact h.high j (by omega)
    · rw [get_set _ (i + 1) _ _ (by simp; omega), if_neg (by omega), get_set _ i _ _ (by simp; omega), if_neg (by omega), get_set _ i _ _ (by omega), if_neg (by omega)]
      exact h.top (by omega)
    · rw [get_set _ (i + 1) _ _ (by simp; omega), if_pos (by omega)]
      have := h.top (by omega)
      rw [show L - 1 = i + 1 by omega] at this
      omega
theorem PlusInv.done {L : Nat} {b : List Int} {T : Int} {ds : List Int} (h : PlusInv L b T L ds) : Dig ds ∧ dv ds = T := by
  refine ⟨fun d hd => ?_, ?_⟩
  · obtain ⟨j, hj, rfl⟩ := List.getElem_of_mem hd
    have := h.low j (by rw [← h.len]; exact hj)
    rwa [List.getElem?_eq_getElem hj] at this
  · have := h.sum
    rw [List.drop_eq_nil_of_le (by have := h.blen; omega)] at this
    simpa [dv] using this
end Go.Proofs.Ytnooelpdoeijbaa
