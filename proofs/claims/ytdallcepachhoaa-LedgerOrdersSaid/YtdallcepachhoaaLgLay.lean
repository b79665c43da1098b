/- The blocks that LedgerOrders lays: each may be, rising, apart. Plain. -/
import Derived.Test.YtdallcepachhoaaLgAlive
set_option linter.unusedVariables false
set_option linter.unusedSimpArgs false
namespace Go.Proofs.Ytdallcepachhoaa
open Go.RowKit
def lay : Int → List Int → List BlkT
  | _, [] => []
  | t, n :: ns => (t, n, 16) :: lay (t + (mx n + 15) / 16 * 16) ns
theorem lay_len : ∀ (t : Int) (ns : List Int), (lay t ns).length = ns.length
  | _, [] => rfl
  | t, n :: ns => by simp [lay, lay_len]
theorem lay_ok : ∀ (t : Int) (ns : List Int), 0 ≤ t → t % 16 = 0 → (∀ n, n ∈ ns → 0 ≤ n ∧ n ≤ 255) → t + 256 * (ns.length : Int) ≤ 1048576 →
    (∀ b, b ∈ lay t ns → t ≤ b.1 ∧ 0 ≤ b.2.1 ∧ b.2.1 ≤ 255 ∧ b.2.2 = 16 ∧ May b.1 b.2.1 b.2.2) ∧ (lay t ns).Pairwise (fun x y => x.1 + mx x.2.1 ≤ y.1)
  | _, [], _, _, _, _ => ⟨fun b hb => (by simp [lay] at hb), List.Pairwise.nil⟩
  | t, n :: ns, h0, h1, h2, h3 => by
    have hn := h2 n (by simp)
    have hm := mx_pos hn.1
    simp only [List.length_cons] at h3
    obtain ⟨k1, k2⟩ := lay_ok (t + (mx n + 15) / 16 * 16) ns (by omega) (by omega) (fun m hm => h2 m (by simp [hm])) (by omega)
    refine ⟨fun b hb => ?_, List.pairwise_cons.2 ⟨fun b hb => ?_, k2⟩⟩
    · rcases List.mem_cons.1 hb with rfl | hb
      · exact ⟨Int.le_refl _, hn.1, hn.2, rfl, by show n ≤ 1048576; omega, by show t ≤ 1048576; omega, by show t + mx n ≤ 1048576; omega, pow16, by show (16 : Int) ≤ 1024; omega, h1⟩
      · have := k1 b hb
        exact ⟨by omega, this.2⟩
    · have := (k1 b hb).1
      show t + mx n ≤ b.1
      omega
theorem ins_split {ls : List EntT} {l1 l2 : List BlkT} (h : ls.map bk = l1 ++ l2) (b : BlkT) : (ins ls l1.length (b.1, b.2.1, b.2.2, false)).map bk = l1 ++ b :: l2 := by
  unfold ins
  rw [List.map_append, List.map_cons, List.map_take, List.map_drop, h]
  simp [bk]
theorem free_split {ls : List EntT} {l1 l2 : List BlkT} (h : ls.map bk = l1 ++ l2) (b : BlkT) (h1 : ∀ x, x ∈ l1 → x.1 + mx x.2.1 ≤ b.1) (h2 : ∀ x, x ∈ l2 → b.1 + mx b.2.1 ≤ x.1) (hb : b.1 + mx b.2.1 ≤ 1048576) : FreeL ls b.1 (mx b.2.1) := by
  refine .inr ⟨by omega, fun e he ⟨h3, h4⟩ => ?_⟩
  have hm : bk e ∈ l1 ++ l2 := by rw [← h]; exact List.mem_map.2 ⟨e, he, rfl⟩
  rcases List.mem_append.1 hm with hm | hm
  · have h5 : e.1 + mx e.2.1 ≤ b.1 := h1 _ hm
    omega
  · have h5 : b.1 + mx b.2.1 ≤ e.1 := h2 _ hm
    omega
/-- Where the next one begins. -/
def layEnd : Int → List Int → Int
  | t, [] => t
  | t, n :: ns => layEnd (t + (mx n + 15) / 16 * 16) ns
theorem lay_snoc : ∀ (t : Int) (ns : List Int) (n : Int), lay t (ns ++ [n]) = lay t ns ++ [(layEnd t ns, n, 16)]
  | _, [], _ => rfl
  | t, m :: ns, n => by simp [lay, layEnd, lay_snoc]
theorem layEnd_snoc : ∀ (t : Int) (ns : List Int) (n : Int), layEnd t (ns ++ [n]) = layEnd t ns + (mx n + 15) / 16 * 16
  | _, [], _ => rfl
  | t, m :: ns, n => by simp [layEnd, layEnd_snoc]
theorem layEnd_bd : ∀ (t : Int) (ns : List Int), (∀ n, n ∈ ns → 0 ≤ n ∧ n ≤ 255) → t ≤ layEnd t ns ∧ layEnd t ns ≤ t + 256 * (ns.length : Int)
  | t, [], _ => by simp [layEnd]
  | t, n :: ns, h => by
    have hn := h n (by simp)
    have hm := mx_pos hn.1
    have := layEnd_bd (t + (mx n + 15) / 16 * 16) ns (fun m hm => h m (by simp [hm]))
    simp only [layEnd, List.length_cons]
    omega
theorem at_split {ls : List EntT} {l1 l2 : List BlkT} (h : ls.map bk = l1 ++ l2) (t : Int) (h1 : ∀ x, x ∈ l1 → x.1 < t) (h2 : ∀ x, x ∈ l2 → t ≤ x.1) : AtG ls t l1.length := by
  have hl : ls.length = l1.length + l2.length := by have := congrArg List.length h; simpa using this
  have key : ∀ i, i < ls.length → (l1 ++ l2)[i]? = some (bk (re ls i)) := fun i hi => by
    rw [← h, List.getElem?_map, re_some hi]; rfl
  refine ⟨by omega, fun i hi => ?_, fun i hi hl' => ?_⟩
  · have := key i (by omega)
    rw [List.getElem?_append_left hi] at this
    exact h1 _ (List.mem_iff_getElem?.2 ⟨i, this⟩)
  · have := key i hl'
    rw [List.getElem?_append_right hi] at this
    exact h2 _ (List.mem_iff_getElem?.2 ⟨_, this⟩)
/-- The laid blocks, known by what they are good for. -/
structure Laid (xs : List BlkT) : Prop where
  may : ∀ b, b ∈ xs → 0 ≤ b.1 ∧ 0 ≤ b.2.1 ∧ b.2.1 ≤ 255 ∧ b.2.2 = 16 ∧ May b.1 b.2.1 b.2.2
  ap : ∀ i j, i < j → j < xs.length → (rb xs i).1 + mx (rb xs i).2.1 ≤ (rb xs j).1
theorem rb_mem {xs : List BlkT} {i : Nat} (h : i < xs.length) : rb xs i ∈ xs := List.mem_iff_getElem?.2 ⟨i, rb_some h⟩
theorem lay_laid (ns : List Int) (h : ∀ n, n ∈ ns → 0 ≤ n ∧ n ≤ 255) (hl : ns.length ≤ 60) : Laid (lay 16 ns) := by
  obtain ⟨h1, h2⟩ := lay_ok 16 ns (by omega) (by decide) h (by omega)
  refine ⟨fun b hb => by have := h1 b hb; exact ⟨by omega, this.2⟩, fun i j hij hj => ?_⟩
  rw [List.pairwise_iff_getElem] at h2
  have h3 := h2 i j (by omega) hj hij
  have e1 := rb_some (show i < (lay 16 ns).length by omega)
  have e2 := rb_some hj
  rw [List.getElem?_eq_getElem (by omega)] at e1 e2
  injection e1 with e1
  injection e2 with e2
  rw [e1, e2] at h3
  exact h3
namespace Laid
variable {xs : List BlkT}
theorem ap1 (h : Laid xs) {i j : Nat} (hij : i < j) (hj : j < xs.length) : (rb xs i).1 < (rb xs j).1 := by
  have := h.ap i j hij hj
  have := mx_pos (h.may _ (rb_mem (show i < xs.length by omega))).2.1
  omega
theorem of_take (h : Laid xs) {a m : Nat} {x : BlkT} (hx : x ∈ (xs.drop a).take m) : ∃ i, a ≤ i ∧ i < a + m ∧ i < xs.length ∧ x = rb xs i := by
  obtain ⟨i, hi⟩ := List.mem_iff_getElem?.1 hx
  rw [List.getElem?_take] at hi
  split at hi
  · rename_i him
    rw [List.getElem?_drop] at hi
    have hl := (List.getElem?_eq_some_iff.1 hi).1
    rw [rb_some hl] at hi
    injection hi with hi
    exact ⟨a + i, by omega, by omega, hl, hi.symm⟩
  · cases hi
/-- One more is added: the k-th and those behind it first, then those ahead. -/
theorem step (h : Laid xs) {k i : Nat} (hk : k ≤ xs.length) (hi : i < xs.length) {ms : List EntT} (hm : ms.map bk = xs.take (i - (xs.length - k)) ++ (xs.drop k).take i) {b : BlkT} (hb : b = rb (xs.drop k ++ xs.take k) i) :
    FreeL ms b.1 (mx b.2.1) ∧ b ∈ xs ∧ ∃ j, AtG ms b.1 j ∧ (ins ms j (b.1, b.2.1, b.2.2, false)).map bk = xs.take (i + 1 - (xs.length - k)) ++ (xs.drop k).take (i + 1) := by
  rcases Nat.lt_or_ge i (xs.length - k) with hlt | hge
  · have e0 : i - (xs.length - k) = 0 := by omega
    have e1 : i + 1 - (xs.length - k) = 0 := by omega
    have eb : b = rb xs (k + i) := by
      rw [hb]
      unfold rb
      rw [List.getElem?_append_left (by simp; omega), List.getElem?_drop]
    rw [e0] at hm
    simp only [List.take_zero, List.nil_append] at hm
    rw [e1]
    simp only [List.take_zero, List.nil_append]
    have hm' : ms.map bk = (xs.drop k).take i ++ [] := by rw [List.append_nil]; exact hm
    have hlow : ∀ x, x ∈ (xs.drop k).take i → x.1 + mx x.2.1 ≤ b.1 ∧ x.1 < b.1 := fun x hx => by
      obtain ⟨q, q1, q2, q3, rfl⟩ := h.of_take hx
      rw [eb]
      exact ⟨h.ap q (k + i) (by omega) (by omega), h.ap1 (by omega) (by omega)⟩
    have hbm := rb_mem (show k + i < xs.length by omega)
    have hbe := (h.may _ hbm).2.2.2.2.2.2.1
    rw [← eb] at hbm hbe
    refine ⟨free_split hm' b (fun x hx => (hlow x hx).1) (fun x hx => by cases hx) hbe, hbm, _, at_split hm' b.1 (fun x hx => (hlow x hx).2) (fun x hx => by cases hx), ?_⟩
    rw [ins_split hm' b, eb, List.take_add_one, List.getElem?_drop, rb_some (show k + i < xs.length by omega)]
    rfl
  · obtain ⟨j, rfl⟩ : ∃ j, i = j + (xs.length - k) := ⟨i - (xs.length - k), by omega⟩
    have hj : j < k := by omega
    have e0 : j + (xs.length - k) - (xs.length - k) = j := by omega
    have e1 : j + (xs.length - k) + 1 - (xs.length - k) = j + 1 := by omega
    have eb : b = rb xs j := by
      rw [hb]
      unfold rb
      rw [List.getElem?_append_right (by simp), List.length_drop, e0, List.getElem?_take_of_lt hj]
    have t1 : (xs.drop k).take (j + (xs.length - k)) = xs.drop k := List.take_of_length_le (by simp)
    have t2 : (xs.drop k).take (j + (xs.length - k) + 1) = xs.drop k := List.take_of_length_le (by simp; omega)
    rw [e0, t1] at hm
    rw [e1, t2]
    have hlow : ∀ x, x ∈ xs.take j → x.1 + mx x.2.1 ≤ b.1 ∧ x.1 < b.1 := fun x hx => by
      have hx' : x ∈ (xs.drop 0).take j := by simpa using hx
      obtain ⟨q, q1, q2, q3, rfl⟩ := h.of_take hx'
      rw [eb]
      exact ⟨h.ap q j (by omega) (by omega), h.ap1 (by omega) (by omega)⟩
    have hhi : ∀ x, x ∈ xs.drop k → b.1 + mx b.2.1 ≤ x.1 ∧ b.1 ≤ x.1 := fun x hx => by
      have hx' : x ∈ (xs.drop k).take xs.length := by rw [List.take_of_length_le (by simp)]; exact hx
      obtain ⟨q, q1, q2, q3, rfl⟩ := h.of_take hx'
      rw [eb]
      have := h.ap1 (show j < q by omega) q3
      exact ⟨h.ap j q (by omega) q3, by omega⟩
    have hbm := rb_mem (show j < xs.length by omega)
    have hbe := (h.may _ hbm).2.2.2.2.2.2.1
    rw [← eb] at hbm hbe
    refine ⟨free_split hm b (fun x hx => (hlow x hx).1) (fun x hx => (hhi x hx).1) hbe, hbm, _, at_split hm b.1 (fun x hx => (hlow x hx).2) (fun x hx => (hhi x hx).2), ?_⟩
    rw [ins_split hm b, eb, List.take_add_one, rb_some (show j < xs.length by omega)]
    simp
/-- The first one is dropped. -/
theorem drop1 (h : Laid xs) {i : Nat} (hi : i < xs.length) {ls : List EntT} (hm : ls.map bk = xs.drop i) {z : Int} (hz : z = (rb xs i).1) : ∃ ls', eachP dropStep ls [z] = (0, ls') ∧ ls'.map bk = xs.drop (i + 1) := by
  have e1 : xs.drop i = rb xs i :: xs.drop (i + 1) := by
    have := rb_some hi
    rw [List.getElem?_eq_getElem hi] at this
    injection this with this
    rw [List.drop_eq_getElem_cons hi, this]
  cases ls with
  | nil => rw [e1] at hm; simp at hm
  | cons e l =>
    rw [e1, List.map_cons] at hm
    injection hm with h1 h2
    have h3 : e.1 = z := by rw [hz, ← h1]; rfl
    refine ⟨l, ?_, h2⟩
    have h4 : idxL (e :: l) z = some 0 := by
      unfold idxL
      rw [List.findIdx?_cons]
      simp [h3]
    unfold eachP
    rw [h4]
    simp [dropStep, eachP]
end Laid
theorem bytes_bk : ∀ {ls ms : List EntT}, ls.map bk = ms.map bk → bytesL ls = bytesL ms
  | [], [], _ => rfl
  | [], _ :: _, h => by simp at h
  | _ :: _, [], h => by simp at h
  | e :: ls, f :: ms, h => by
    simp only [List.map_cons, List.cons.injEq] at h
    have h1 : e.2.1 = f.2.1 := congrArg (fun x : BlkT => x.2.1) h.1
    simp only [bytesL, h1, bytes_bk h.2]
end Go.Proofs.Ytdallcepachhoaa
