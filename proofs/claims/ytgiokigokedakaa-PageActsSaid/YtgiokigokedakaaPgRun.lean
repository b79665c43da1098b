/- A page's blocks, one after the other; those that come again. Plain. -/
import Derived.Test.YtgiokigokedakaaPgAlive
set_option linter.unusedVariables false
set_option linter.unusedSimpArgs false
namespace Go.Proofs.Ytgiokigokedakaa
open Go.RowKit
/-- The first i blocks of a fresh page are out, in order. -/
structure Fsh (F Z N : Nat) (a : PgA) (i : Nat) : Prop where
  h1 : a.F = F
  h2 : a.Z = Z
  h3 : a.N = N
  lo : a.lo = []
  po : a.po = []
  i1 : i ≤ a.made
  i2 : a.made ≤ N
  fr : a.fr = (List.range' i (a.made - i)).map (fun k => F + k * Z)
  us : a.us = ((List.range i).map (fun k => F + k * Z)).reverse
theorem Fsh.new (F Z N : Nat) : Fsh F Z N (PgA.new F Z N) 0 := ⟨rfl, rfl, rfl, rfl, rfl, Nat.le_refl _, Nat.zero_le _, rfl, rfl⟩
theorem PgA.bl_eq {a : PgA} {F Z : Nat} (h1 : a.F = F) (h2 : a.Z = Z) : a.bl = fun k => F + k * Z := by
  funext k
  unfold PgA.bl
  rw [h1, h2]
theorem Fsh.step {F Z N : Nat} {a : PgA} {i : Nat} (h : Fsh F Z N a i) (hi : i < N) : ∃ r, a.ready.fr = (F + i * Z) :: r ∧ Fsh F Z N (a.ready.taken (F + i * Z) r) (i + 1) := by
  have hus : ((List.range (i + 1)).map (fun k => F + k * Z)).reverse = (F + i * Z) :: a.us := by
    rw [List.range_succ, List.map_append, List.reverse_append, h.us]; rfl
  have hbl := PgA.bl_eq h.h1 h.h2
  rcases Nat.lt_or_ge i a.made with hlt | hge
  · have e : a.fr = (F + i * Z) :: (List.range' (i + 1) (a.made - (i + 1))).map (fun k => F + k * Z) := by
      rw [h.fr, show a.made - i = (a.made - (i + 1)) + 1 by omega, List.range'_succ]; rfl
    have e1 : a.swap = a := by unfold PgA.swap; rw [if_neg (by rw [e]; simp)]
    have e2 : a.ready = a := by unfold PgA.ready; rw [e1, if_neg (by rw [e]; simp)]
    rw [e2]
    exact ⟨_, e, ⟨h.h1, h.h2, h.h3, h.lo, h.po, hlt, h.i2, rfl, hus.symm⟩⟩
  · have him : a.made = i := by have := h.i1; omega
    have hf : a.fr = [] := by rw [h.fr, show a.made - i = 0 by omega]; rfl
    have es : a.swap = a := by
      have hl := h.lo
      unfold PgA.swap
      rw [if_pos hf]
      cases a
      simp only at hf hl ⊢
      rw [hf, hl]
    have e2 : a.ready = a.more := by unfold PgA.ready; rw [es, if_pos hf]
    have hm : a.moreN = min 4 (N - i) := by unfold PgA.moreN; rw [h.h3, him]
    obtain ⟨q, hq⟩ : ∃ q, a.moreN = q + 1 := ⟨a.moreN - 1, by omega⟩
    have hqN : i + (q + 1) ≤ N := by omega
    have e : a.more.fr = (F + i * Z) :: (List.range' (i + 1) q).map (fun k => F + k * Z) := by
      show a.some_ 0 a.moreN = _
      unfold PgA.some_
      rw [hbl, him, hq, show q + 1 - 0 = q + 1 by omega, List.range'_succ]; rfl
    rw [e2]
    refine ⟨_, e, ⟨h.h1, h.h2, h.h3, h.lo, h.po, ?_, ?_, ?_, hus.symm⟩⟩
    · show i + 1 ≤ a.made + a.moreN
      omega
    · show a.made + a.moreN ≤ N
      omega
    · show (List.range' (i + 1) q).map _ = (List.range' (i + 1) (a.made + a.moreN - (i + 1))).map _
      rw [show a.made + a.moreN - (i + 1) = q by omega]
/-- l comes next, and then none; all are made. -/
def Next (a : PgA) (l : List Nat) : Prop := a.made = a.N ∧ ((a.fr = l ∧ a.lo = []) ∨ (a.fr = [] ∧ a.lo = l))
theorem Next.step {a : PgA} {x : Nat} {l : List Nat} (h : Next a (x :: l)) : a.ready.fr = x :: l ∧ Next (a.ready.taken x l) l ∧ a.ready.us = a.us ∧ a.ready.po = a.po := by
  obtain ⟨hm, ⟨hf, hl⟩ | ⟨hf, hl⟩⟩ := h
  · have e1 : a.swap = a := by unfold PgA.swap; rw [if_neg (by rw [hf]; simp)]
    have e2 : a.ready = a := by unfold PgA.ready; rw [e1, if_neg (by rw [hf]; simp)]
    rw [e2]
    exact ⟨hf, ⟨hm, .inl ⟨rfl, hl⟩⟩, rfl, rfl⟩
  · have e1 : a.swap = { a with fr := a.lo, lo := [] } := by unfold PgA.swap; rw [if_pos hf]
    have e2 : a.ready = { a with fr := a.lo, lo := [] } := by unfold PgA.ready; rw [e1, if_neg (by show ¬ a.lo = []; rw [hl]; simp)]
    rw [e2]
    exact ⟨hl, ⟨hm, .inl ⟨rfl, rfl⟩⟩, rfl, rfl⟩
theorem Next.none {a : PgA} (h : Next a []) : a.ready.fr = [] ∧ a.ready.made = a.made ∧ a.ready.us = a.us := by
  have hfl : a.fr = [] ∧ a.lo = [] := by rcases h.2 with ⟨h1, h2⟩ | ⟨h1, h2⟩ <;> exact ⟨h1, h2⟩
  have es : a.swap = a := by
    obtain ⟨hf, hl⟩ := hfl
    unfold PgA.swap
    rw [if_pos hf]
    cases a
    simp only at hf hl ⊢
    rw [hf, hl]
  have hn : a.moreN = 0 := by unfold PgA.moreN; rw [h.1]; simp
  have e2 : a.ready = a.more := by unfold PgA.ready; rw [es, if_pos hfl.1]
  rw [e2]
  refine ⟨?_, ?_, rfl⟩
  · show a.some_ 0 a.moreN = []
    rw [hn]; rfl
  · show a.made + a.moreN = a.made
    omega
theorem Fsh.all {F Z N : Nat} {a : PgA} (h : Fsh F Z N a N) : Next a [] := by
  have hm : a.made = N := by have := h.i1; have := h.i2; omega
  refine ⟨by rw [hm, h.h3], .inl ⟨?_, h.lo⟩⟩
  rw [h.fr, hm, Nat.sub_self]; rfl
end Go.Proofs.Ytgiokigokedakaa
