/- What users wrote into used blocks, plain. -/
import Derived.Test.YtgiokigokedakaaPgZ
set_option linter.unusedVariables false
set_option linter.unusedSimpArgs false
namespace Go.Proofs.Ytgiokigokedakaa.PageLasts
open Go.RowKit
def Has (zs : List Int) (x Z : Nat) (c : Int) : Prop := ∀ i, i < Z → zs[x + i]? = some c
theorem Has.rest {zs z : List Int} {x Z : Nat} {c : Int} {ts : List Nat} (h : Has zs x Z c) (hr : Rest ts zs z) (hf : ∀ t, t ∈ ts → t + 8 ≤ x ∨ x + Z ≤ t) : Has z x Z c := fun i hi => (hr.2 (x + i) (fun t ht => by have := hf t ht; omega)).trans (h i hi)
theorem cons_erase_perm {l : List Nat} {q : Nat} (hq : q < l.length) : (l[q] :: l.eraseIdx q).Perm l := by
  have e : l = l.take q ++ l[q] :: l.drop (q + 1) := by rw [← List.drop_eq_getElem_cons hq, List.take_append_drop]
  rw [List.eraseIdx_eq_take_drop_succ]
  conv => rhs; rw [e]
  exact List.perm_middle.symm
structure Sl (Z k : Nat) (a : PgA) (U : List Nat) (f : Int → Option Int) (zs : List Int) : Prop where
  eF : a.F = 1024
  eZ : a.Z = Z
  eN : a.N = 31
  tg : a.tag ≤ k
  ak : a.ask ≤ 2 * k
  us : U.Perm a.us
  f1 : ∀ x, x ∈ U → ∃ c : Int, (0 ≤ c ∧ c < 256) ∧ f (x : Int) = some c ∧ Has zs x Z c
  f2 : ∀ y c, f y = some c → ∃ x, x ∈ U ∧ y = (x : Int)
namespace Sl
variable {Z k x : Nat} {a : PgA} {U r : List Nat} {f : Int → Option Int} {zs z : List Int}
theorem new (Z : Nat) (zs : List Int) : Sl Z 0 (PgA.new 1024 Z 31) [] (fun _ => none) zs := ⟨rfl, rfl, rfl, Nat.le_refl _, Nat.le_refl _, List.Perm.refl _, (fun x hx => by cases hx), (fun y c hc => by cases hc)⟩
theorem more (h : Sl Z k a U f zs) : Sl Z (k + 1) a U f zs := ⟨h.eF, h.eZ, h.eN, by have := h.tg; omega, by have := h.ak; omega, h.us, h.f1, h.f2⟩
theorem mem (h : Sl Z k a U f zs) (hx : x ∈ U) : x ∈ a.us := h.us.mem_iff.1 hx
theorem gath (h : Sl Z k a U f zs) (hok : PgOk a zs.length) (hr : Rest a.po zs z) : Sl Z (k + 1) a.gath U f z := by
  have hrun := hok.run
  refine ⟨h.eF, h.eZ, h.eN, by have := h.tg; show a.tag + 1 ≤ k + 1; omega, by have := h.ak; show a.ask + 1 ≤ 2 * (k + 1); omega, h.us, fun x hx => ?_, h.f2⟩
  obtain ⟨c, h1, h2, h3⟩ := h.f1 x hx
  refine ⟨c, h1, h2, h3.rest hr (fun t ht => ?_)⟩
  have := hok.sepU (h.mem hx) (t := t) (by simp [ht])
  rw [h.eZ] at this hrun
  omega
theorem full (h : Sl Z k a U f zs) (hok : PgOk a zs.length) (hr : Rest (a.some_ 0 a.moreN) zs z) : Sl Z (k + 1) a.ready U f z := by
  have hrun := hok.run
  obtain ⟨h1, h2, h3, h4, h5, h6, h7⟩ := ready_all a
  refine ⟨h1.trans h.eF, h2.trans h.eZ, h3.trans h.eN, by rw [h4]; have := h.tg; omega, by rw [h5]; have := h.ak; omega, by rw [h7]; exact h.us, fun x hx => ?_, h.f2⟩
  obtain ⟨c, k1, k2, k3⟩ := h.f1 x hx
  refine ⟨c, k1, k2, k3.rest hr (fun t ht => ?_)⟩
  have := hok.sepN (h.mem hx) ht
  rw [h.eZ] at this hrun
  omega
theorem nodup (h : Sl Z k a U f zs) (hok : PgOk a zs.length) : U.Nodup := h.us.nodup_iff.2 hok.nodup_us
theorem fresh (h : Sl Z k a U f zs) (hok : PgOk a zs.length) (hr : a.ready.fr = x :: r) : x ∉ U := fun hx => by
  have h1 := hok.ready.nodup
  rw [hr] at h1
  have h2 := (List.nodup_cons.1 h1).1
  obtain ⟨_, _, _, _, _, _, h7⟩ := ready_all a
  exact h2 (by rw [h7]; have := h.mem hx; simp [this])
theorem none_ (h : Sl Z k a U f zs) (hok : PgOk a zs.length) (hr : a.ready.fr = x :: r) : f (x : Int) = none := by
  cases hf : f (x : Int) with
  | none => rfl
  | some c =>
    obtain ⟨y, hy, e⟩ := h.f2 _ c hf
    have : y = x := by omega
    subst this
    exact absurd hy (h.fresh hok hr)
theorem alloc (h : Sl Z k a U f zs) (hok : PgOk a zs.length) (hr : a.ready.fr = x :: r) {z1 z2 : List Int} (hr1 : Rest (a.some_ 0 a.moreN) zs z1) (hok1 : PgOk (a.ready.taken x r) z1.length) (v : Int) (hv : 0 ≤ v ∧ v < 256) (hr2 : Rest (words x Z) z1 z2) (hh : ∀ i, i < Z → z2[x + i]? = some v) :
    Sl Z (k + 1) (a.ready.taken x r) (U ++ [x]) (fun y => if y = (x : Int) then some v else f y) z2 := by
  have hF := h.fresh hok hr
  obtain ⟨h1, h2, h3, h4, h5, h6, h7, h8⟩ := h.full hok hr1
  have hrun := hok1.run
  have hZ : (a.ready.taken x r).Z = Z := h2
  refine ⟨h1, h2, h3, h4, h5, ?_, fun y hy => ?_, fun y c hc => ?_⟩
  · show (U ++ [x]).Perm (x :: a.ready.us)
    exact List.perm_append_comm.trans (List.Perm.cons x h6)
  · rcases List.mem_append.1 hy with hy | hy
    · obtain ⟨c, k1, k2, k3⟩ := h7 y hy
      have hne : y ≠ x := fun e => hF (e ▸ hy)
      refine ⟨c, k1, by rw [if_neg (by omega)]; exact k2, k3.rest hr2 (fun t ht => ?_)⟩
      have hw := words_mem ht
      have := hok1.sepV (x := y) (t := x) (by show y ∈ x :: a.ready.us; simp [h6.mem_iff.1 hy]) (by show x ∈ x :: a.ready.us; simp) (fun e => hne e.symm)
      rw [hZ] at this
      omega
    · have hy' : y = x := by simpa using hy
      subst hy'
      exact ⟨v, hv, by rw [if_pos rfl], hh⟩
  · by_cases hyx : y = (x : Int)
    · exact ⟨x, by simp, hyx⟩
    · simp only [if_neg hyx] at hc
      obtain ⟨u, hu, e⟩ := h8 y c hc
      exact ⟨u, by simp [hu], e⟩
theorem gone (h : Sl Z k a U f zs) (hok : PgOk a zs.length) {q : Nat} (hq : q < U.length) (hx : U[q]?.getD 0 = x) (hr : Rest [x] zs z) :
    (U.eraseIdx q).Perm (a.us.erase x) ∧ (∀ y, y ∈ U.eraseIdx q → ∃ c : Int, (0 ≤ c ∧ c < 256) ∧ (fun y => if y = (x : Int) then none else f y) (y : Int) = some c ∧ Has z y Z c) ∧ (∀ y c, (fun y => if y = (x : Int) then none else f y) y = some c → ∃ u, u ∈ U.eraseIdx q ∧ y = (u : Int)) := by
  have hrun := hok.run
  have hnd := h.nodup hok
  have hxq : U[q] = x := by rw [List.getElem?_eq_getElem hq] at hx; exact hx
  have hp : (x :: U.eraseIdx q).Perm U := by rw [← hxq]; exact cons_erase_perm hq
  have hxU : x ∈ U := hp.mem_iff.1 (by simp)
  refine ⟨?_, fun y hy => ?_, fun y c hc => ?_⟩
  · exact List.Perm.cons_inv (hp.trans (h.us.trans (List.perm_cons_erase (h.mem hxU))))
  · obtain ⟨hyU, hyx⟩ := mem_eraseIdx_ne hnd hq hy
    rw [hx] at hyx
    obtain ⟨c, k1, k2, k3⟩ := h.f1 y hyU
    refine ⟨c, k1, by show (if (y : Int) = (x : Int) then none else f y) = _; rw [if_neg (by omega)]; exact k2, k3.rest hr (fun t ht => ?_)⟩
    have ht' : t = x := by simpa using ht
    subst ht'
    have := hok.sepV (h.mem hyU) (h.mem hxU) (fun e => hyx e.symm)
    rw [h.eZ] at this hrun
    omega
  · by_cases hyx : y = (x : Int)
    · simp [hyx] at hc
    · simp only [if_neg hyx] at hc
      obtain ⟨u, hu, e⟩ := h.f2 y c hc
      refine ⟨u, ?_, e⟩
      rcases List.mem_cons.1 (hp.mem_iff.2 hu) with h1 | h1
      · exact absurd (by rw [e, h1]) hyx
      · exact h1
theorem free (h : Sl Z k a U f zs) (hok : PgOk a zs.length) {q : Nat} (hq : q < U.length) (hx : U[q]?.getD 0 = x) (hr : Rest [x] zs z) : Sl Z (k + 1) (a.free1 x) (U.eraseIdx q) (fun y => if y = (x : Int) then none else f y) z := by
  obtain ⟨h1, h2, h3⟩ := h.gone hok hq hx hr
  exact ⟨h.eF, h.eZ, h.eN, by have := h.tg; show a.tag ≤ k + 1; omega, by have := h.ak; show a.ask ≤ 2 * (k + 1); omega, h1, h2, h3⟩
theorem post (h : Sl Z k a U f zs) (hok : PgOk a zs.length) {q : Nat} (hq : q < U.length) (hx : U[q]?.getD 0 = x) (hr : Rest [x] zs z) : Sl Z (k + 1) (a.late.post x) (U.eraseIdx q) (fun y => if y = (x : Int) then none else f y) z := by
  obtain ⟨h1, h2, h3⟩ := h.gone hok hq hx hr
  exact ⟨h.eF, h.eZ, h.eN, by have := h.tg; show a.tag + 1 ≤ k + 1; omega, by have := h.ak; show a.ask + 1 + 1 ≤ 2 * (k + 1); omega, h1, h2, h3⟩
theorem few (h : Sl Z k a U f zs) (hok : PgOk a zs.length) : U.length ≤ 31 := by
  have h1 := h.us.length_eq
  have h2 := hok.all.length_eq
  have h3 := hok.made
  have h4 := h.eN
  simp at h2
  omega
end Sl
end Go.Proofs.Ytgiokigokedakaa.PageLasts
