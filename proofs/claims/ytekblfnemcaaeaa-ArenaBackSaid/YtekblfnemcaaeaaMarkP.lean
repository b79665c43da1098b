/- Rows of free places: plain. -/
import Derived.Test.YtekblfnemcaaeaaMarkH
set_option linter.unusedVariables false
set_option linter.unusedSimpArgs false
namespace Go.Proofs.Ytekblfnemcaaeaa
open Go.RowKit
theorem rowsG_apart (bs : List Bool) : ∀ (l : List Bool) (at_ n : Nat), l = bs.drop (at_ + n) → at_ + n ≤ bs.length → AllAt bs at_ n false → (rowsG at_ n l).Pairwise (fun x y => x.1 + x.2 < y.1) := by
  intro l
  induction l with
  | nil =>
    intro at_ n hl hn ha
    simp only [rowsG]
    split <;> simp
  | cons b l ih =>
    intro at_ n hl hn ha
    have hlt : at_ + n < bs.length := by
      rcases Nat.lt_or_ge (at_ + n) bs.length with h | h
      · exact h
      · rw [List.drop_eq_nil_of_le h] at hl; cases hl
    rw [List.drop_eq_getElem_cons hlt] at hl
    injection hl with hb hl
    cases b with
    | true =>
      have hrest := ih (at_ + n + 1) 0 (by simpa using hl) (by omega) (fun i hi => by omega)
      have hf := rowsG_free bs l (at_ + n + 1) 0 (by simpa using hl) (by omega) (fun i hi => by omega)
      simp only [rowsG]
      split
      · rw [List.singleton_append, List.pairwise_cons]
        exact ⟨fun y hy => by have := (hf y hy).1; simp; omega, hrest⟩
      · simpa using hrest
    | false =>
      simp only [rowsG]
      exact ih at_ (n + 1) (by rw [hl, Nat.add_assoc]) (by omega) (fun i hi => by
        rcases Nat.lt_or_ge i n with h | h
        · exact ha i h
        · rw [show i = n by omega, List.getElem?_eq_getElem hlt, ← hb])
theorem rowsG_all (bs : List Bool) (b r : Nat) (hr : 1 ≤ r) (hf : FreeAt bs b r) : ∀ (l : List Bool) (at_ n : Nat), l = bs.drop (at_ + n) → at_ + n ≤ bs.length → at_ ≤ b →
    ∃ x, x ∈ rowsG at_ n l ∧ x.1 ≤ b ∧ b + r ≤ x.1 + x.2 := by
  intro l
  induction l with
  | nil =>
    intro at_ n hl hn hab
    have h1 := congrArg List.length hl
    simp at h1
    have := hf.1
    refine ⟨(at_, n), ?_, hab, by simp; omega⟩
    simp only [rowsG]
    rw [if_pos (by omega)]
    simp
  | cons c l ih =>
    intro at_ n hl hn hab
    have hlt : at_ + n < bs.length := by
      rcases Nat.lt_or_ge (at_ + n) bs.length with h | h
      · exact h
      · rw [List.drop_eq_nil_of_le h] at hl; cases hl
    rw [List.drop_eq_getElem_cons hlt] at hl
    injection hl with hb hl
    cases c with
    | true =>
      simp only [rowsG]
      by_cases h1 : b + r ≤ at_ + n
      · refine ⟨(at_, n), ?_, hab, h1⟩
        rw [if_pos (by omega)]
        simp
      · by_cases h2 : b ≤ at_ + n
        · exfalso
          have h3 := hf.2 (at_ + n - b) (by omega)
          rw [show b + (at_ + n - b) = at_ + n by omega, List.getElem?_eq_getElem hlt, ← hb] at h3
          cases h3
        · obtain ⟨x, hx, h4⟩ := ih (at_ + n + 1) 0 (by simpa using hl) (by omega) (by omega)
          exact ⟨x, by simp [hx], h4⟩
    | false =>
      simp only [rowsG]
      exact ih at_ (n + 1) (by rw [hl, Nat.add_assoc]) (by omega) hab
theorem rowsL_all {bs : List Bool} {b r : Nat} (hr : 1 ≤ r) (hf : FreeAt bs b r) : ∃ x, x ∈ rowsL bs ∧ x.1 ≤ b ∧ b + r ≤ x.1 + x.2 := rowsG_all bs b r hr hf bs 0 0 (by simp) (by omega) (by omega)
theorem rowsL_apart (bs : List Bool) : (rowsL bs).Pairwise (fun x y => x.1 + x.2 < y.1) := rowsG_apart bs bs 0 0 (by simp) (by omega) (fun i hi => by omega)
/-- What Take answers, by places: the lowest free row; or there is none. -/
def TakeLow (W : World) (p g : Nat) (bs : List Bool) (r : Nat) (e : Ending) (w' : World) : Prop :=
  (∃ a : Nat, e = .returned (.tuple #[.int .i64 (a : Int), .int .i64 0]) ∧ FreeAt bs a r ∧ (∀ b, b < a → ¬ FreeAt bs b r) ∧ MarkB w' p g (put bs a r true) ∧ Kept [p, g] W w') ∨
  (e = .returned (.tuple #[.int .i64 0, .int .i64 4]) ∧ (∀ b, ¬ FreeAt bs b r) ∧ Kept [] W w')
theorem TakeIs.low {W : World} {p g : Nat} {bs : List Bool} {r : Nat} {e : Ending} {w' : World} (hr : 1 ≤ r) (h : TakeIs W p g bs r e w') : TakeLow W p g bs r e w' := by
  rcases h with ⟨ini, x, t, he, hL, hini, hx, hm, hk⟩ | ⟨he, hall, hk⟩
  · have hmem : x ∈ rowsL bs := by rw [hL]; simp
    refine .inl ⟨x.1, he, (rowsL_free hmem).2.less hx, fun b hb hf => ?_, hm, hk⟩
    obtain ⟨y, hy, h1, h2⟩ := rowsL_all hr hf
    rw [hL] at hy
    have hap := rowsL_apart bs
    rw [hL, List.pairwise_append, List.pairwise_cons] at hap
    rcases List.mem_append.1 hy with hy | hy
    · have := hini y hy
      omega
    · rcases List.mem_cons.1 hy with rfl | hy
      · omega
      · have := hap.2.1.1 y hy
        omega
  · refine .inr ⟨he, fun b hf => ?_, hk⟩
    obtain ⟨y, hy, h1, h2⟩ := rowsL_all hr hf
    have := hall y hy
    omega
theorem take_low (w : World) (p g : Nat) (bs : List Bool) (h : MarkB w p g bs) (r : Nat) (h1 : 1 ≤ r) (h2 : r ≤ bs.length) :
    Calls Try.prog 28 #[.pointer (some ⟨p, 0, none⟩), .int .i64 r] w (TakeLow w p g bs r) := (take_any w p g bs h r h1 h2).mono fun _ _ hh => hh.low h1
theorem take_at (w : World) (p g : Nat) (bs : List Bool) (h : MarkB w p g bs) (r a : Nat) (h1 : 1 ≤ r) (hf : FreeAt bs a r) (hno : ∀ b, b < a → ¬ FreeAt bs b r) :
    Calls Try.prog 28 #[.pointer (some ⟨p, 0, none⟩), .int .i64 r] w fun e w' => e = .returned (.tuple #[.int .i64 (a : Int), .int .i64 0]) ∧ MarkB w' p g (put bs a r true) ∧ Kept [p, g] w w' :=
  (take_low w p g bs h r h1 (by have := hf.1; omega)).mono fun e w' hh => by
    rcases hh with ⟨a', he, hf', hno', hm, hk⟩ | ⟨he, hall, hk⟩
    · have : a' = a := by
        rcases Nat.lt_trichotomy a' a with h3 | h3 | h3
        · exact absurd hf' (hno a' h3)
        · exact h3
        · exact absurd hf (hno' a h3)
      subst this
      exact ⟨he, hm, hk⟩
    · exact absurd hf (hall a)
theorem take_full (w : World) (p g : Nat) (bs : List Bool) (h : MarkB w p g bs) (r : Nat) (h1 : 1 ≤ r) (h2 : r ≤ bs.length) (hno : ∀ b, ¬ FreeAt bs b r) :
    Calls Try.prog 28 #[.pointer (some ⟨p, 0, none⟩), .int .i64 r] w fun e w' => e = .returned (.tuple #[.int .i64 0, .int .i64 4]) ∧ Kept [] w w' :=
  (take_low w p g bs h r h1 h2).mono fun e w' hh => by
    rcases hh with ⟨a', he, hf', _⟩ | ⟨he, hall, hk⟩
    · exact absurd hf' (hno a')
    · exact ⟨he, hk⟩
theorem foldl_max (l : List (Nat × Nat)) (a : Int) : (∀ x, x ∈ l → (x.2 : Int) ≤ l.foldl (fun a x => max a (x.2 : Int)) a) ∧ a ≤ l.foldl (fun a x => max a (x.2 : Int)) a ∧ (l.foldl (fun a x => max a (x.2 : Int)) a = a ∨ ∃ x, x ∈ l ∧ l.foldl (fun a x => max a (x.2 : Int)) a = (x.2 : Int)) := by
  induction l generalizing a with
  | nil => simp
  | cons y l ih =>
    obtain ⟨h1, h2, h3⟩ := ih (max a (y.2 : Int))
    simp only [List.foldl_cons]
    refine ⟨fun x hx => ?_, by omega, ?_⟩
    · rcases List.mem_cons.1 hx with rfl | hx
      · omega
      · exact h1 x hx
    · rcases h3 with h3 | ⟨x, hx, h3⟩
      · rcases Int.le_total a (y.2 : Int) with h4 | h4
        · exact .inr ⟨y, by simp, by omega⟩
        · exact .inl (by omega)
      · exact .inr ⟨x, by simp [hx], h3⟩
theorem long_nn (bs : List Bool) : 0 ≤ longV bs := (foldl_max (rowsL bs) 0).2.1
theorem long_ge {bs : List Bool} {b r : Nat} (hr : 1 ≤ r) (hf : FreeAt bs b r) : (r : Int) ≤ longV bs := by
  obtain ⟨x, hx, h1, h2⟩ := rowsL_all hr hf
  have := (foldl_max (rowsL bs) 0).1 x hx
  have e : longV bs = (rowsL bs).foldl (fun a x => max a (x.2 : Int)) 0 := rfl
  rw [e]
  omega
theorem long_is (bs : List Bool) (h : 0 < longV bs) : ∃ (n b : Nat), longV bs = (n : Int) ∧ 1 ≤ n ∧ FreeAt bs b n := by
  rcases (foldl_max (rowsL bs) 0).2.2 with h3 | ⟨x, hx, h3⟩
  · exfalso
    have e : longV bs = 0 := h3
    omega
  · have := rowsL_free hx
    exact ⟨x.2, x.1, h3, this.1, this.2⟩
theorem long_zero (bs : List Bool) (h : longV bs = 0) : ∀ i, i < bs.length → bs[i]? = some true := by
  intro i hi
  rcases hb : bs[i]? with _ | b
  · rw [List.getElem?_eq_getElem hi] at hb; cases hb
  · cases b with
    | true => rfl
    | false =>
      exfalso
      have hf : FreeAt bs i 1 := ⟨by omega, fun j hj => by rw [show i + j = i by omega]; exact hb⟩
      have := long_ge (Nat.le_refl 1) hf
      omega
theorem long_eq {bs : List Bool} {n b : Nat} (hf : 1 ≤ n → FreeAt bs b n) (hno : ∀ a, ¬ FreeAt bs a (n + 1)) : longV bs = (n : Int) := by
  have h0 := long_nn bs
  rcases Nat.lt_or_ge 0 n with h1 | h1
  · have h2 := long_ge h1 (hf h1)
    obtain ⟨m, c, e, h3, h4⟩ := long_is bs (by omega)
    rcases Nat.lt_or_ge n m with h5 | h5
    · exact absurd (h4.less (by omega)) (hno c)
    · omega
  · rcases Int.lt_or_le 0 (longV bs) with h2 | h2
    · obtain ⟨m, c, e, h3, h4⟩ := long_is bs h2
      exact absurd (h4.less (by omega)) (hno c)
    · omega
end Go.Proofs.Ytekblfnemcaaeaa
