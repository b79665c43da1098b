/- What was given, and is taken back, is given again, at the same place; what isn't a region's beginning isn't taken back. No condition. -/
import Derived.Test.YtekblfnemcaaeaaArBack1
set_option linter.unusedVariables false
set_option linter.unusedSimpArgs false
namespace Go.Proofs.Ytekblfnemcaaeaa.ArenaBack
open Go.RowKit Go.ChangeShapes Go.WideShapes Go.ChangeAt Go.Joins Go.Proofs.Ytekblfnemcaaeaa.ArenaLowest
/-- An arena of 64 with these regions, apart from the blocks X. -/
def ArB (W : World) (X : List Nat) (p : Nat) (ls : List RegT) (w : World) : Prop := ∃ a, Inv a ∧ a.n = 64 ∧ a.lim = 64 ∧ a.ts = [] ∧ a.ls = ls ∧ (0 ≤ a.ref ∧ a.ref ≤ 1000) ∧ UpX W X w p a
theorem ArB.keep0 {W w w' : World} {X : List Nat} {p : Nat} {ls : List RegT} (h : ArB W X p ls w) (hk : Kept [] w w') : ArB W X p ls w' := by
  obtain ⟨a, h1, h2, h3, h4, h5, h6, h7⟩ := h
  exact ⟨a, h1, h2, h3, h4, h5, h6, h7.keep0 hk⟩
theorem ArB.kept {W w : World} {X : List Nat} {p : Nat} {ls : List RegT} (h : ArB W X p ls w) : Kept [] W w := by
  obtain ⟨a, h1, h2, h3, h4, h5, h6, h7⟩ := h
  exact h7.2.1
theorem ArB.kx {W w w' : World} {X : List Nat} {p : Nat} {ls : List RegT} (h : ArB W X p ls w) (hk : Kept [] w w') : KeptX X w w' := by
  obtain ⟨a, h1, h2, h3, h4, h5, h6, h7⟩ := h
  exact h7.kx hk
theorem ArB.ltp {W w : World} {X : List Nat} {p : Nat} {ls : List RegT} (h : ArB W X p ls w) : p < w.heap.size := by
  obtain ⟨a, h1, h2, h3, h4, h5, h6, h7⟩ := h
  exact h7.up.ltp
theorem b_none {W w : World} {X : List Nat} {p : Nat} {ls : List RegT} (h : ArB W X p ls w) (t : Int) (ht : ∀ r, r ∈ ls → r.1 ≠ t) :
    Calls Try.prog 12 #[.pointer (some ⟨p, 0, none⟩), .int .i64 t] w fun e w' => e = .returned (.int .i64 5) ∧ ArB W X p ls w' ∧ KeptX X w w' := by
  obtain ⟨a, h1, h2, h3, h4, rfl, h6, h7⟩ := h
  refine (x_rel W X w p a h7 h1 t).mono fun e w' ⟨er, a', he, hR, hU, hK⟩ => ?_
  rcases hR with ⟨_, rfl, rfl⟩ | ⟨at_, k, j, rfl, _, hj, hr, _⟩
  · exact ⟨he, ⟨a', h1, h2, h3, h4, rfl, h6, hU⟩, hK⟩
  · exact absurd (by rw [hr]) (ht _ (rg_mem hj))
theorem starts_ne {n : Nat} {ls : List RegT} (hg : Good n ls) {i j : Nat} (hi : i < ls.length) (hj : j < ls.length) (he : (rg ls i).1 = (rg ls j).1) : i = j := by
  have key : ∀ i j : Nat, i < j → ∀ (hj : j < ls.length), (rg ls i).1 < (rg ls j).1 := fun i j hij hj => by
    have hi : i < ls.length := by omega
    have hp := hg.2
    rw [List.pairwise_iff_getElem] at hp
    have h3 := hp i j hi hj hij
    have e1 := rg_some hi
    have e2 := rg_some hj
    rw [List.getElem?_eq_getElem hi] at e1
    rw [List.getElem?_eq_getElem hj] at e2
    injection e1 with e1
    injection e2 with e2
    rw [e1, e2] at h3
    have := hg.1 _ (rg_mem hi)
    omega
  rcases Nat.lt_trichotomy i j with h | h | h
  · have := key i j h hj; omega
  · exact h
  · have := key j i h hi; omega
theorem b_back {W w : World} {X : List Nat} {p : Nat} {ls : List RegT} (h : ArB W X p ls w) (i : Nat) (hi : i < ls.length) :
    Calls Try.prog 12 #[.pointer (some ⟨p, 0, none⟩), .int .i64 (rg ls i).1] w fun e w' => e = .returned (.int .i64 0) ∧ ArB W X p (ls.eraseIdx i) w' ∧ KeptX X w w' := by
  obtain ⟨a, h1, h2, h3, h4, rfl, h6, h7⟩ := h
  refine (x_rel W X w p a h7 h1 _).mono fun e w' ⟨er, a', he, hR, hU, hK⟩ => ?_
  have hinv := hR.inv h1
  rcases hR with ⟨h0, rfl, rfl⟩ | ⟨at_, k, j, ht, _, hj, hr, rfl, rfl⟩
  · exact absurd rfl (h0 _ (rg_mem hi))
  · have : i = j := starts_ne h1.good hi hj (by rw [hr]; exact ht)
    subst this
    exact ⟨he, ⟨_, hinv, h2, h3, h4, rfl, h6, hU⟩, hK⟩
theorem b_given {W w : World} {X : List Nat} {p : Nat} {ls : List RegT} (h : ArB W X p ls w) (g : Int) (hg : total ls = g) :
    Calls Try.prog 13 #[.pointer (some ⟨p, 0, none⟩)] w fun e w' => e = .returned (.int .i64 g) ∧ Kept [] w w' := by
  obtain ⟨a, h1, h2, h3, h4, rfl, h6, h7⟩ := h
  exact up_given W w p a h7.up h1 g hg
def RegsB (N : Nat) (e : Ending) (w' : World) : Prop := ∃ (A : Option Addr) (c : Nat), e = .returned (.slice A N c)
theorem b_regs {W w : World} {X : List Nat} {p : Nat} {ls : List RegT} (h : ArB W X p ls w) :
    Calls Try.prog 16 #[.pointer (some ⟨p, 0, none⟩)] w fun e w' => RegsB ls.length e w' ∧ Kept [] w w' := by
  obtain ⟨a, h1, h2, h3, h4, rfl, h6, h7⟩ := h
  exact (x_regs W X w p a h7 h1.few).mono fun e w' ⟨A, c, Y, he, _, _, hk⟩ => ⟨⟨A, c, he⟩, hk⟩
/-- The regions, and a slice of them that is put apart. -/
def RegsB2 (W : World) (p : Nat) (e : Ending) (w' : World) : Prop := ∃ (ls : List RegT) (A : Option Addr) (c : Nat) (X : List Nat), e = .returned (.slice A ls.length c) ∧ Good 64 ls ∧ ls.length ≤ 64 ∧ total ls ≤ 64 ∧ ListX X w' A ls ∧ ArB W X p ls w'
theorem b_regs2 {W w : World} {p : Nat} (h : ∃ ls, ArB W [] p ls w) : Calls Try.prog 16 #[.pointer (some ⟨p, 0, none⟩)] w (RegsB2 W p) := by
  obtain ⟨ls, a, h1, h2, h3, h4, rfl, h6, h7⟩ := h
  refine (x_regs W [] w p a h7 h1.few).mono fun e w' ⟨A, c, Y, he, hL, hX, hk⟩ => ⟨a.ls, A, c, Y ++ [], he, by rw [← h2]; exact h1.good, h1.few, by have := h1.le; omega, hL.mono (fun x hx => by simpa using hx), a, h1, h2, h3, h4, rfl, h6, hX⟩
theorem b_any {W w : World} {p i : Nat} (h : ∃ a, St i a ∧ UpK W w p a) (hi : i ≤ 500) (k : Int) : Calls Try.prog 11 #[.pointer (some ⟨p, 0, none⟩), .int .i64 k] w fun e w' => (∃ x y : Int, e = .returned (.tuple #[.int .i64 x, .int .i64 y])) ∧ StK W p (i + 1) w' := by
  obtain ⟨a, ⟨h1, h2, h3, h4, h5, h6⟩, hu⟩ := h
  refine (up_res W w p a hu h1 (by rw [h4]; simp) (by omega) k).mono fun e w' ⟨x, er, a', he, hR, hU⟩ => ⟨⟨x, er, he⟩, a', ⟨hR.inv h1, ?_⟩, hU⟩
  have ht : a.ts.tail = [] := by rw [h4]; rfl
  rcases hR with ⟨_, _, _, rfl⟩ | ⟨_, _, _, _, rfl⟩ | ⟨at_, m', j, _, _, _, _, _, _, _, _, _, _, rfl⟩
  · exact ⟨h2, h3, h4, h5, by omega⟩
  · exact ⟨h2, h3, ht, by show 0 ≤ a.ref + 1; omega, by show a.ref + 1 ≤ _; omega⟩
  · exact ⟨h2, h3, ht, h5, by show a.ref ≤ _; omega⟩
/-- Without a region its row is free; rows that meet another meet one that is left. -/
theorem meets_erase {ls : List RegT} (hg : Good 64 ls) {i : Nat} (hi : i < ls.length) (q : Int) : meets (ls.eraseIdx i) q (rg ls i).2 = meetsO ls (rg ls i) q := by
  rw [Bool.eq_iff_iff]
  unfold meets meetsO
  rw [List.any_eq_true, List.any_eq_true]
  constructor
  · rintro ⟨r, hr, h⟩
    simp only [Bool.and_eq_true, decide_eq_true_eq] at h
    obtain ⟨j, hj⟩ := List.mem_iff_getElem?.1 hr
    rw [List.getElem?_eraseIdx] at hj
    have hne : r ≠ rg ls i := by
      intro e
      split at hj
      · rename_i hji
        have hjl := (List.getElem?_eq_some_iff.1 hj).1
        have := rg_some hjl
        rw [hj] at this
        injection this with this
        have := starts_ne hg hjl hi (by rw [← this, e])
        omega
      · rename_i hji
        have hjl := (List.getElem?_eq_some_iff.1 hj).1
        have := rg_some hjl
        rw [hj] at this
        injection this with this
        have := starts_ne hg hjl hi (by rw [← this, e])
        omega
    refine ⟨r, List.mem_of_mem_eraseIdx hr, ?_⟩
    simp [hne, h]
  · rintro ⟨r, hr, h⟩
    simp only [Bool.and_eq_true, Bool.not_eq_true', decide_eq_false_iff_not, decide_eq_true_eq] at h
    obtain ⟨⟨h1, h2⟩, h3⟩ := h
    have her := erase_rg hi
    rw [her] at hr
    rcases mem_ins.1 hr with rfl | hr
    · exact absurd rfl h1
    · exact ⟨r, hr, by simp [h2, h3]⟩
theorem own_free {ls : List RegT} (hg : Good 64 ls) {i : Nat} (hi : i < ls.length) : meetsO ls (rg ls i) (rg ls i).1 = false := by
  unfold meetsO
  rw [List.any_eq_false]
  intro r hr
  by_cases hne : r = rg ls i
  · simp [hne]
  · obtain ⟨j, hj⟩ := List.mem_iff_getElem?.1 hr
    have hjl := (List.getElem?_eq_some_iff.1 hj).1
    have e0 := rg_some hjl
    rw [hj] at e0
    injection e0 with e0
    have hp := hg.2
    rw [List.pairwise_iff_getElem] at hp
    have e1 := rg_some hi
    have e2 := rg_some hjl
    rw [List.getElem?_eq_getElem hi] at e1
    rw [List.getElem?_eq_getElem hjl] at e2
    injection e1 with e1
    injection e2 with e2
    have h1 := hg.1 _ (rg_mem hi)
    have h2 := hg.1 _ (rg_mem hjl)
    simp only [hne, decide_false, Bool.not_false, Bool.true_and, Bool.and_eq_true, decide_eq_true_eq]
    rw [e0]
    rcases Nat.lt_trichotomy i j with h | h | h
    · have := hp i j hi hjl h
      rw [e1, e2] at this
      omega
    · subst h; exact absurd e0 hne
    · have := hp j i hjl hi h
      rw [e1, e2] at this
      omega
theorem b_again {W w : World} {X : List Nat} {p : Nat} {ls : List RegT} {i : Nat} (h : ArB W X p (ls.eraseIdx i) w) (hg : Good 64 ls) (hi : i < ls.length) (Q : Nat) (hq1 : meetsO ls (rg ls i) Q = false) (hq2 : ∀ b : Nat, b < Q → meetsO ls (rg ls i) b = true) :
    Calls Try.prog 11 #[.pointer (some ⟨p, 0, none⟩), .int .i64 (rg ls i).2] w fun e w' => e = .returned (.tuple #[.int .i64 Q, .int .i64 0]) ∧ KeptX X w w' ∧ Kept [] W w' := by
  obtain ⟨a, h1, h2, h3, h4, h5, h6, h7⟩ := h
  have hr := hg.1 _ (rg_mem hi)
  obtain ⟨m, hm⟩ := Int.eq_ofNat_of_zero_le (show 0 ≤ (rg ls i).2 by omega)
  have hm9 : 1 ≤ m ∧ m ≤ 64 := by omega
  refine (x_res W X w p a h7 h1 (by rw [h4]; simp) (by omega) _).mono fun e w' ⟨x, er, a', he, hR, hU, hK⟩ => ?_
  have hfree := own_free hg hi
  have hQ : (Q : Int) ≤ (rg ls i).1 := by
    obtain ⟨b, hb⟩ := Int.eq_ofNat_of_zero_le hr.1
    rcases Int.lt_or_le (rg ls i).1 Q with h | h
    · have := hq2 b (by omega)
      rw [← hb, hfree] at this
      cases this
    · exact h
  have e1 : ∀ b : Nat, b + m ≤ 64 → (FreeAt a.bs b m ↔ meetsO ls (rg ls i) b = false) := fun b hb => by
    rw [meets_free h1 b m hm9.1 (by omega), h5, ← hm, meets_erase hg hi]
  have hf : FreeAt a.bs Q m := (e1 Q (by omega)).2 hq1
  have hlim : total a.ls + m ≤ a.lim := by
    have hput : Q + m ≤ a.bs.length := by rw [h1.len]; omega
    have hc := cntF_took a.bs Q m hput hf.2
    have hs := h1.sum
    unfold Ar.given at hs
    omega
  obtain ⟨rfl, rfl, j, hj, rfl⟩ := hR.ok h1 m Q hm hm9.1 (by omega) (by rw [h4]; rfl) hlim hf (fun b hb hf' => by
    have := (e1 b (by omega)).1 hf'
    rw [hq2 b hb] at this
    cases this)
  exact ⟨he, hK, hU.2.1⟩
theorem low_exists {ls : List RegT} (hg : Good 64 ls) {i : Nat} (hi : i < ls.length) : ∃ Q : Nat, (Q : Int) ≤ (rg ls i).1 ∧ Q ≤ 64 ∧ meetsO ls (rg ls i) Q = false ∧ ∀ b : Nat, b < Q → meetsO ls (rg ls i) b = true := by
  have hr := hg.1 _ (rg_mem hi)
  obtain ⟨b, hb⟩ := Int.eq_ofNat_of_zero_le hr.1
  have hfree := own_free hg hi
  rw [hb] at hfree
  rcases low_ex (fun q => meetsO ls (rg ls i) (q : Int) = false) (b + 1) with ⟨Q, h1, h2, h3⟩ | h
  · exact ⟨Q, by omega, by omega, h2, fun c hc => by
      have := h3 c hc
      cases hm : meetsO ls (rg ls i) (c : Int) with
      | true => rfl
      | false => exact absurd hm this⟩
  · exact absurd hfree (h b (by omega))
theorem total_erase {ls : List RegT} {i : Nat} (hi : i < ls.length) : total (ls.eraseIdx i) = total ls - (rg ls i).2 := by
  have her := erase_rg hi
  have ht := total_ins (ls.eraseIdx i) i (rg ls i)
  rw [← her] at ht
  omega
end Go.Proofs.Ytekblfnemcaaeaa.ArenaBack
