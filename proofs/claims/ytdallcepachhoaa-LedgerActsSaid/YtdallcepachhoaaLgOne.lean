/- One address: what Drop, Hold, Let, At and In of one entry's address answer. Plain. -/
import Derived.Test.YtdallcepachhoaaLgIn
set_option linter.unusedVariables false
set_option linter.unusedSimpArgs false
namespace Go.Proofs.Ytdallcepachhoaa
open Go.RowKit
theorem at_self {ls : List EntT} (hi : LInv ls) {j : Nat} (hj : j < ls.length) : AtG ls (re ls j).1 j :=
  ⟨by omega, fun i h => by have := re_ap hi h hj; have := re_bd hi (show i < ls.length by omega); omega, fun i h h2 => by
    rcases Nat.lt_or_ge j i with h3 | h3
    · have := re_ap hi h3 h2; have := re_bd hi hj; omega
    · rw [show i = j by omega]; exact Int.le_refl _⟩
theorem idx_self {ls : List EntT} (hi : LInv ls) {j : Nat} (hj : j < ls.length) : idxL ls (re ls j).1 = some j :=
  (idx_hit hi (at_self hi hj) (by unfold hitG; simp [hj])).1
theorem eachP_one {step : List EntT → Nat → Int × List EntT} {ls : List EntT} {z : Int} {j : Nat} (h : idxL ls z = some j) : eachP step ls [z] = step ls j := by
  simp only [eachP, h]
  split
  · rename_i h0; rw [← h0]
  · rfl
theorem eachP_no {step : List EntT → Nat → Int × List EntT} {ls : List EntT} {z : Int} (h : idxL ls z = none) : eachP step ls [z] = (5, ls) := by
  simp only [eachP, h]
theorem map_set_bk {ls : List EntT} {k : Nat} (hk : k < ls.length) (x : EntT) (hx : bk x = bk (re ls k)) : (ls.set k x).map bk = ls.map bk := by
  apply List.ext_getElem?
  intro i
  rw [List.getElem?_map, List.getElem?_map, List.getElem?_set]
  by_cases e : k = i
  · subst e
    rw [if_pos rfl, if_pos hk, re_some hk]
    simp [hx]
  · rw [if_neg e]
theorem turn_bk {ls : List EntT} {j : Nat} (hj : j < ls.length) (h : Bool) (no : Int) : (turnStep h no ls j).2.map bk = ls.map bk ∧ (re (turnStep h no ls j).2 j).2.2.2 = h ∧ (turnStep h no ls j).2.length = ls.length := by
  unfold turnStep
  split
  · rename_i h0
    exact ⟨rfl, h0, rfl⟩
  · refine ⟨map_set_bk hj _ rfl, ?_, by simp⟩
    rw [re_set hj, if_pos rfl]
    rfl
theorem bk_re {ls ls' : List EntT} (h : ls'.map bk = ls.map bk) (i : Nat) (hi : i < ls.length) : bk (re ls' i) = bk (re ls i) := by
  have hl : ls'.length = ls.length := by have := congrArg List.length h; simpa using this
  rw [← rb_map hi, ← rb_map (ls := ls') (by omega), h]
theorem len_bk {ls ls' : List EntT} (h : ls'.map bk = ls.map bk) : ls'.length = ls.length := by have := congrArg List.length h; simpa using this
/-- In within an entry that isn't held. -/
theorem in_within {ls : List EntT} {j : Nat} (hj : j < ls.length) (hh : (re ls j).2.2.2 = false) (z : Int) (h1 : (re ls j).1 ≤ z) (h2 : z < (re ls j).1 + mx (re ls j).2.1) : InR ls z (bk (re ls j), 0) :=
  .inl ⟨j, ⟨hj, h1, h2⟩, by unfold oneP; rw [hh]; rfl⟩
theorem at_within {ls : List EntT} (hi : LInv ls) {j : Nat} (hj : j < ls.length) (hh : (re ls j).2.2.2 = false) (z : Int) (h1 : (re ls j).1 ≤ z) (h2 : z < (re ls j).1 + mx (re ls j).2.1) : atP ls z = if z = (re ls j).1 then (bk (re ls j), 0) else ((0, 0, 0), 5) := by
  unfold atP
  split
  · rename_i hn
    split
    · rename_i e
      rw [e, idx_self hi hj] at hn
      cases hn
    · rfl
  · rename_i k hk
    have hk' := hk
    unfold idxL at hk'
    rw [List.findIdx?_eq_some_iff_getElem] at hk'
    obtain ⟨hl, he, _⟩ := hk'
    have e1 := re_some hl
    rw [List.getElem?_eq_getElem hl] at e1
    injection e1 with e1
    rw [e1] at he
    simp at he
    have hb := re_bd hi hl
    have hkj : k = j := takes_one hi (z := z) ⟨hl, by omega, by omega⟩ ⟨hj, h1, h2⟩
    subst hkj
    rw [if_pos he.symm]
    unfold oneP
    rw [hh]
    rfl
/-- In just behind an entry. -/
theorem in_behind {ls : List EntT} (hi : LInv ls) {j : Nat} (hj : j < ls.length) (b : BlkT) (er : Int) (h : InR ls ((re ls j).1 + mx (re ls j).2.1) (b, er)) (h0 : er = 0) : b.1 = (re ls j).1 + mx (re ls j).2.1 := by
  rcases h with ⟨i, ⟨h1, h2, h3⟩, h4⟩ | ⟨_, h4⟩
  · have hij : j < i := by
      rcases Nat.lt_trichotomy i j with h | h | h
      · have := re_ap hi h hj; have := re_bd hi hj; omega
      · subst h; omega
      · exact h
    have h5 := re_ap hi hij h1
    unfold oneP at h4
    split at h4
    · injection h4 with _ h4
      omega
    · injection h4 with h4 _
      rw [← h4]
      show (re ls i).1 = _
      omega
  · injection h4 with _ h4
    omega
theorem CellsB.keepX {X : List Nat} {w w' : World} {g : Nat} {ls : List BlkT} (h : CellsB w g ls) (hk : KeptX X w w') (hg : g ∈ X) : CellsB w' g ls := by
  have hb := hk.2 g hg
  exact ⟨Nat.lt_of_lt_of_le h.1 hk.1, fun i hi => by
    obtain ⟨h1, h2, h3⟩ := h.2 i hi
    exact ⟨(World.cell?_of_block hb).trans h1, (World.cell?_of_block hb).trans h2, (World.cell?_of_block hb).trans h3⟩⟩
end Go.Proofs.Ytdallcepachhoaa
