/- Small words for the laws of places. -/
import Derived.Test.YthnfhenbkijihaaMarkG
import Derived.Test.YthnfhenbkijihaaActs
set_option linter.unusedVariables false
set_option linter.unusedSimpArgs false
namespace Go.Proofs.Ythnfhenbkijihaa
open Go.RowKit
theorem row_1i {w : World} {b : Nat} {t : TypeId} {x : Int} (h : Blk w b t #[.int .i64 x]) : RowX .i64 w (some ⟨b, 0, none⟩) [x] :=
  RowX.of_blk h (fun i hi => by
    match i, hi with
    | 0, _ => rfl)
theorem row_2i {w : World} {b : Nat} {t : TypeId} {x y : Int} (h : Blk w b t #[.int .i64 x, .int .i64 y]) : RowX .i64 w (some ⟨b, 0, none⟩) [x, y] :=
  RowX.of_blk h (fun i hi => by
    match i, hi with
    | 0, _ => rfl
    | 1, _ => rfl)
theorem outB_in {bs : List Bool} {a : Nat} (h : bs[a]? = some true) : outB bs (a : Int) = false := by
  have hl : a < bs.length := by
    rcases Nat.lt_or_ge a bs.length with h1 | h1
    · exact h1
    · rw [List.getElem?_eq_none h1] at h; cases h
  unfold outB
  simp [h]
  omega
theorem outB_free {bs : List Bool} {a : Nat} (h : bs[a]? = some false) : outB bs (a : Int) = true := by
  unfold outB
  simp [h]
theorem has_one (w : World) (p g b : Nat) (t : TypeId) (bs : List Bool) (h : MarkB w p g bs) (x : Int) (v : Bool) (hv : outB bs x = !v) (hB : Blk w b t #[.int .i64 x]) :
    Calls Try.prog 17 #[.pointer (some ⟨p, 0, none⟩), .slice (some ⟨b, 0, none⟩) 1 1] w fun e w' => e = .returned (.bool v) ∧ Kept [] w w' :=
  has_any w p g bs h _ 1 1 [x] rfl (row_1i hB) (by simp) v (by simp [hv])
theorem cntF_pos {bs : List Bool} (h : 0 < cntF bs) : ∃ i, i < bs.length ∧ bs[i]? = some false := by
  unfold cntF at h
  obtain ⟨b, hb, hp⟩ := List.countP_pos_iff.1 h
  obtain ⟨j, hj, rfl⟩ := List.getElem_of_mem hb
  refine ⟨j, hj, ?_⟩
  rw [List.getElem?_eq_getElem hj]
  simp at hp
  rw [hp]
theorem cntF_none {bs : List Bool} (h : cntF bs = 0) : ∀ i, i < bs.length → bs[i]? = some true := by
  intro i hi
  unfold cntF at h
  rw [List.countP_eq_zero] at h
  have := h _ (List.getElem_mem hi)
  rw [List.getElem?_eq_getElem hi]
  simp at this
  rw [this]
theorem cntF_all {bs : List Bool} (h : ∀ i, i < bs.length → bs[i]? = some false) : cntF bs = bs.length := by
  unfold cntF
  rw [List.countP_eq_length]
  intro b hb
  obtain ⟨j, hj, rfl⟩ := List.getElem_of_mem hb
  have := h j hj
  rw [List.getElem?_eq_getElem hj] at this
  injection this with this
  simp [this]
theorem long_full {bs : List Bool} (h : ∀ i, i < bs.length → bs[i]? = some true) : longV bs = 0 := by
  rcases Int.lt_or_le 0 (longV bs) with h1 | h1
  · obtain ⟨n, b, e, h2, h3⟩ := long_is bs h1
    have h4 := h3.2 0 (by omega)
    rw [Nat.add_zero, h b (by have := h3.1; omega)] at h4
    cases h4
  · have := long_nn bs; omega
/-- What Take of one answers where one is free. -/
def TakeOne (W : World) (p g : Nat) (bs : List Bool) (e : Ending) (w' : World) : Prop :=
  ∃ a : Nat, e = .returned (.tuple #[.int .i64 (a : Int), .int .i64 0]) ∧ a < bs.length ∧ bs[a]? = some false ∧ (∀ b, b < a → bs[b]? = some true) ∧ MarkB w' p g (put bs a 1 true) ∧ Kept [p, g] W w'
theorem take_one (w : World) (p g : Nat) (bs : List Bool) (h : MarkB w p g bs) (hc : 0 < cntF bs) :
    Calls Try.prog 11 #[.pointer (some ⟨p, 0, none⟩), .int .i64 1] w (TakeOne w p g bs) := by
  obtain ⟨i, hi, hf⟩ := cntF_pos hc
  have hfa : FreeAt bs i 1 := ⟨by omega, fun j hj => by rw [show i + j = i by omega]; exact hf⟩
  refine (take_low w p g bs h 1 (by omega) (by omega)).mono fun e w' hh => ?_
  rcases hh with ⟨a, he, hfr, hno, hm, hk⟩ | ⟨he, hall, hk⟩
  · refine ⟨a, he, by have := hfr.1; omega, hfr.2 0 (by omega), fun b hb => ?_, hm, hk⟩
    have hbl : b < bs.length := by have := hfr.1; omega
    rcases hbv : bs[b]? with _ | v
    · rw [List.getElem?_eq_getElem hbl] at hbv; cases hbv
    · cases v with
      | true => rfl
      | false => exact absurd ⟨by omega, fun j hj => by rw [show b + j = b by omega]; exact hbv⟩ (hno b hb)
  · exact absurd hfa (hall i)
end Go.Proofs.Ythnfhenbkijihaa
