/- What an arena keeps; Reserve and Release at any number. -/
import Derived.Test.YtekblfnemcaaeaaArRel
set_option linter.unusedVariables false
set_option linter.unusedSimpArgs false
namespace Go.Proofs.Ytekblfnemcaaeaa
open Go.RowKit
def Good (n : Nat) (ls : List RegT) : Prop := (∀ r, r ∈ ls → 0 ≤ r.1 ∧ 1 ≤ r.2 ∧ r.1 + r.2 ≤ (n : Int)) ∧ ls.Pairwise (fun x y => x.1 + x.2 ≤ y.1)
def inR (ls : List RegT) (i : Int) : Bool := ls.any (fun r => decide (r.1 ≤ i) && decide (i < r.1 + r.2))
def total : List RegT → Int
  | [] => 0
  | r :: ls => r.2 + total ls
theorem total_app (l1 l2 : List RegT) : total (l1 ++ l2) = total l1 + total l2 := by
  induction l1 with
  | nil => simp [total]
  | cons r l ih => simp only [List.cons_append, total, ih]; omega
theorem total_ins (ls : List RegT) (j : Nat) (x : RegT) : total (ins ls j x) = total ls + x.2 := by
  have e : total ls = total (ls.take j) + total (ls.drop j) := by rw [← total_app, List.take_append_drop]
  unfold ins
  rw [total_app, e]
  simp only [total]
  omega
theorem rg_some {ls : List RegT} {j : Nat} (h : j < ls.length) : ls[j]? = some (rg ls j) := by unfold rg; rw [List.getElem?_eq_getElem h]; rfl
theorem rg_mem {ls : List RegT} {j : Nat} (h : j < ls.length) : rg ls j ∈ ls := List.mem_of_getElem? (rg_some h)
theorem drop_rg {ls : List RegT} {j : Nat} (h : j < ls.length) : ls.drop j = rg ls j :: ls.drop (j + 1) := by
  rw [List.drop_eq_getElem_cons h]
  congr 1
  have := rg_some h
  rw [List.getElem?_eq_getElem h] at this
  injection this
theorem erase_rg {ls : List RegT} {j : Nat} (h : j < ls.length) : ls = ins (ls.eraseIdx j) j (rg ls j) := by
  unfold ins
  rw [List.eraseIdx_eq_take_drop_succ]
  have hl : (ls.take j).length = j := by simp; omega
  have e1 : (ls.take j ++ ls.drop (j + 1)).take j = ls.take j := by
    conv => lhs; arg 1; rw [← hl]
    rw [List.take_left]
  have e2 : (ls.take j ++ ls.drop (j + 1)).drop j = ls.drop (j + 1) := by
    conv => lhs; arg 1; rw [← hl]
    rw [List.drop_left]
  rw [e1, e2, ← drop_rg h, List.take_append_drop]
theorem mem_ins {ls : List RegT} {j : Nat} {x r : RegT} : r ∈ ins ls j x ↔ r = x ∨ r ∈ ls := by
  have e : ∀ q, q ∈ ls ↔ q ∈ ls.take j ∨ q ∈ ls.drop j := fun q => by rw [← List.mem_append, List.take_append_drop]
  unfold ins
  rw [List.mem_append, List.mem_cons, e r]
  constructor
  · rintro (h | h | h)
    · exact .inr (.inl h)
    · exact .inl h
    · exact .inr (.inr h)
  · rintro (h | h | h)
    · exact .inr (.inl h)
    · exact .inl h
    · exact .inr (.inr h)
theorem inR_true {ls : List RegT} {i : Int} : inR ls i = true ↔ ∃ r, r ∈ ls ∧ r.1 ≤ i ∧ i < r.1 + r.2 := by
  unfold inR
  simp [List.any_eq_true]
theorem inR_false {ls : List RegT} {i : Int} : inR ls i = false ↔ ∀ r, r ∈ ls → ¬ (r.1 ≤ i ∧ i < r.1 + r.2) := by
  rw [← Bool.not_eq_true, inR_true]
  constructor
  · intro h r hr hc; exact h ⟨r, hr, hc⟩
  · rintro h ⟨r, hr, hc⟩; exact h r hr hc
theorem at_lists {ls : List RegT} {t : Int} {j : Nat} (h : AtG ls t j) : (∀ r, r ∈ ls.take j → r.1 < t) ∧ (∀ r, r ∈ ls.drop j → t ≤ r.1) := by
  obtain ⟨h1, h2, h3⟩ := h
  constructor
  · intro r hr
    obtain ⟨i, hi⟩ := List.mem_iff_getElem?.1 hr
    rw [List.getElem?_take] at hi
    split at hi
    · rename_i hij
      have := h2 i hij
      unfold rg at this
      rw [hi] at this
      exact this
    · cases hi
  · intro r hr
    obtain ⟨i, hi⟩ := List.mem_iff_getElem?.1 hr
    rw [List.getElem?_drop] at hi
    have hl := (List.getElem?_eq_some_iff.1 hi).1
    have := h3 (j + i) (by omega) hl
    unfold rg at this
    rw [hi] at this
    exact this
theorem at_ex {n : Nat} {ls : List RegT} (h : Good n ls) (t : Int) : ∃ j, AtG ls t j := by
  obtain ⟨h1, h2⟩ := h
  induction ls with
  | nil => exact ⟨0, Nat.le_refl _, fun j hj => by omega, fun j hj hl => by simp at hl⟩
  | cons r l ih =>
    rw [List.pairwise_cons] at h2
    by_cases hr : r.1 < t
    · obtain ⟨j, k1, k2, k3⟩ := ih (fun q hq => h1 q (by simp [hq])) h2.2
      refine ⟨j + 1, by simp; omega, fun i hi => ?_, fun i hi hl => ?_⟩
      · cases i with
        | zero => exact hr
        | succ i => exact k2 i (by omega)
      · cases i with
        | zero => omega
        | succ i => exact k3 i (by omega) (by simpa using hl)
    · refine ⟨0, Nat.zero_le _, fun i hi => by omega, fun i _ hl => ?_⟩
      cases i with
      | zero => show t ≤ r.1; omega
      | succ i =>
        have hl' : i < l.length := by simpa using hl
        have h4 := h2.1 _ (rg_mem hl')
        have h5 := h1 r (by simp)
        show t ≤ (rg l i).1
        omega
theorem total_len {n : Nat} {ls : List RegT} (h : ∀ r, r ∈ ls → 0 ≤ r.1 ∧ 1 ≤ r.2 ∧ r.1 + r.2 ≤ (n : Int)) : (ls.length : Int) ≤ total ls := by
  induction ls with
  | nil => simp [total]
  | cons r l ih =>
    have h1 := h r (by simp)
    have h2 := ih (fun q hq => h q (by simp [hq]))
    simp only [total, List.length_cons]
    omega
/-- What an arena keeps. -/
structure Inv (a : Ar) : Prop where
  n1 : 1 ≤ a.n
  n64 : a.n ≤ 64
  len : a.bs.length = a.n
  limit : 0 ≤ a.lim ∧ a.lim ≤ a.n
  good : Good a.n a.ls
  marks : ∀ i : Nat, i < a.n → a.bs[i]? = some (inR a.ls i)
  sum : a.given = total a.ls
  le : total a.ls ≤ a.lim
namespace Inv
variable {a : Ar}
theorem few (h : Inv a) : a.ls.length ≤ 64 := by
  have h1 := total_len h.good.1
  have h2 := h.le
  have h3 := h.limit
  have h4 := h.n64
  omega
theorem tot (h : Inv a) : 0 ≤ total a.ls := by have := total_len h.good.1; omega
theorem given (h : Inv a) : 0 ≤ a.given ∧ a.given ≤ 64 := by
  have h1 := h.tot
  have h2 := h.le
  have h3 := h.limit
  have h4 := h.n64
  have h5 := h.sum
  omega
theorem free_iff (h : Inv a) (at_ k : Nat) (hk : 1 ≤ k) : FreeAt a.bs at_ k ↔ at_ + k ≤ a.n ∧ ∀ r, r ∈ a.ls → ¬ ((at_ : Int) < r.1 + r.2 ∧ r.1 < (at_ : Int) + k) := by
  unfold FreeAt AllAt
  rw [h.len]
  constructor
  · rintro ⟨h1, h2⟩
    refine ⟨h1, fun r hr ⟨h3, h4⟩ => ?_⟩
    have hg := h.good.1 r hr
    obtain ⟨i, hi1, hi2, hi3, hi4⟩ : ∃ i : Nat, i < k ∧ r.1 ≤ ((at_ + i : Nat) : Int) ∧ ((at_ + i : Nat) : Int) < r.1 + r.2 ∧ at_ + i < a.n := by
      by_cases hc : r.1 ≤ (at_ : Int)
      · exact ⟨0, by omega, by omega, by omega, by omega⟩
      · exact ⟨(r.1 - at_).toNat, by omega, by omega, by omega, by omega⟩
    have h5 := h2 i hi1
    rw [h.marks _ hi4] at h5
    injection h5 with h5
    exact inR_false.1 h5 r hr ⟨hi2, hi3⟩
  · rintro ⟨h1, h2⟩
    refine ⟨h1, fun i hi => ?_⟩
    rw [h.marks _ (by omega)]
    congr 1
    rw [inR_false]
    intro r hr ⟨h3, h4⟩
    exact h2 r hr ⟨by omega, by omega⟩
theorem ins_good {n : Nat} {ls : List RegT} (hg : Good n ls) (at_ k j : Nat) (hk : 1 ≤ k) (hn : at_ + k ≤ n) (hno : ∀ r, r ∈ ls → ¬ ((at_ : Int) < r.1 + r.2 ∧ r.1 < (at_ : Int) + k)) (hj : AtG ls at_ j) : Good n (ins ls j ((at_ : Int), (k : Int))) := by
  refine ⟨fun r hr => ?_, ?_⟩
  · rcases mem_ins.1 hr with rfl | hr
    · exact ⟨by simp, by simp; omega, by simp; omega⟩
    · exact hg.1 r hr
  · obtain ⟨h1, h2⟩ := at_lists hj
    have hp := hg.2
    rw [← List.take_append_drop j ls, List.pairwise_append] at hp
    obtain ⟨p1, p2, p3⟩ := hp
    unfold ins
    rw [List.pairwise_append, List.pairwise_cons]
    refine ⟨p1, ⟨fun r hr => ?_, p2⟩, fun x hx y hy => ?_⟩
    · have h3 := h2 r hr
      have hm := List.mem_of_mem_drop hr
      have h4 := hno r hm
      have h5 := hg.1 r hm
      show (at_ : Int) + (k : Int) ≤ r.1
      omega
    · have h3 := h1 x hx
      have hm := List.mem_of_mem_take hx
      have h4 := hno x hm
      have h5 := hg.1 x hm
      have h6 : x.1 + x.2 ≤ (at_ : Int) := by omega
      rcases List.mem_cons.1 hy with rfl | hy
      · exact h6
      · have := h2 y hy
        omega
theorem put_get (bs : List Bool) (a r : Nat) (v : Bool) (h : a + r ≤ bs.length) (i : Nat) (hi : i < bs.length) : (put bs a r v)[i]? = if a ≤ i ∧ i < a + r then some v else bs[i]? := by
  unfold put
  have hl : (List.replicate r v).length = r := by simp
  rw [splice_get bs a _ (by rw [hl]; exact h), hl]
  by_cases h1 : i < a
  · rw [if_pos h1, if_neg (by omega)]
  · rw [if_neg h1]
    by_cases h2 : i < a + r
    · rw [if_pos h2, if_pos ⟨by omega, h2⟩, List.getElem?_replicate, if_pos (by omega)]
    · rw [if_neg h2, if_neg (by omega)]
theorem yes (h : Inv a) (at_ k j : Nat) (hk : 1 ≤ k) (hf : FreeAt a.bs at_ k) (hj : AtG a.ls at_ j) (hl : a.given + k ≤ a.lim) : Inv (a.yes at_ k j) := by
  obtain ⟨hn, hno⟩ := (h.free_iff at_ k hk).1 hf
  have hput : at_ + k ≤ a.bs.length := by rw [h.len]; exact hn
  have hc := (cntF_took a.bs at_ k hput hf.2).1
  have ht := total_ins a.ls j ((at_ : Int), (k : Int))
  refine ⟨h.n1, h.n64, by show (put a.bs at_ k true).length = a.n; rw [length_put _ _ _ _ hput]; exact h.len, h.limit, ins_good h.good at_ k j hk hn hno hj, fun i hi => ?_, ?_, ?_⟩
  · show (put a.bs at_ k true)[i]? = some (inR (ins a.ls j ((at_ : Int), (k : Int))) i)
    rw [put_get _ _ _ _ hput i (by rw [h.len]; exact hi)]
    by_cases hc : at_ ≤ i ∧ i < at_ + k
    · rw [if_pos hc]
      congr 1
      symm
      rw [inR_true]
      exact ⟨_, mem_ins.2 (.inl rfl), by simp; omega, by simp; omega⟩
    · rw [if_neg hc, h.marks i hi]
      congr 1
      rw [Bool.eq_iff_iff, inR_true, inR_true]
      constructor
      · rintro ⟨r, hr, h1⟩
        exact ⟨r, mem_ins.2 (.inr hr), h1⟩
      · rintro ⟨r, hr, h1, h2⟩
        rcases mem_ins.1 hr with rfl | hr
        · exfalso; simp at h1 h2; omega
        · exact ⟨r, hr, h1, h2⟩
  · have h1 := h.sum
    unfold Ar.given at h1 ⊢
    show (a.n : Int) - ((cntF (put a.bs at_ k true) : Nat) : Int) = total (ins a.ls j ((at_ : Int), (k : Int)))
    rw [hc, ht]
    show (a.n : Int) - ((cntF a.bs : Int) - (k : Int)) = total a.ls + (k : Int)
    omega
  · have h1 := h.sum
    show total (ins a.ls j ((at_ : Int), (k : Int))) ≤ a.lim
    rw [ht]
    show total a.ls + (k : Int) ≤ a.lim
    omega
theorem taken (h : Inv a) (at_ k j : Nat) (hj : j < a.ls.length) (he : rg a.ls j = ((at_ : Int), (k : Int))) : 1 ≤ k ∧ at_ + k ≤ a.n ∧ AllAt a.bs at_ k true := by
  have hm := rg_mem hj
  rw [he] at hm
  obtain ⟨h1, h2, h3⟩ := h.good.1 _ hm
  simp only at h1 h2 h3
  refine ⟨by omega, by omega, fun i hi => ?_⟩
  rw [h.marks _ (by omega)]
  congr 1
  rw [inR_true]
  exact ⟨_, hm, by simp; omega, by simp; omega⟩
theorem back (h : Inv a) (at_ k j : Nat) (hj : j < a.ls.length) (he : rg a.ls j = ((at_ : Int), (k : Int))) : Inv (a.back at_ k j) := by
  obtain ⟨h1, h2, h3⟩ := h.taken at_ k j hj he
  have hput : at_ + k ≤ a.bs.length := by rw [h.len]; exact h2
  have hc := cntF_gave a.bs at_ k hput h3
  have her := erase_rg hj
  rw [he] at her
  have ht := total_ins (a.ls.eraseIdx j) j ((at_ : Int), (k : Int))
  rw [← her] at ht
  have ht' : total a.ls = total (a.ls.eraseIdx j) + (k : Int) := ht
  have hp := h.good.2
  have hsub : ∀ r, r ∈ a.ls.eraseIdx j → r ∈ a.ls := fun r hr => List.mem_of_mem_eraseIdx hr
  have hno : ∀ r, r ∈ a.ls.eraseIdx j → ¬ (r.1 < (at_ : Int) + k ∧ (at_ : Int) < r.1 + r.2) := by
    intro r hr
    rw [her] at hp
    unfold ins at hp
    rw [List.pairwise_append, List.pairwise_cons] at hp
    obtain ⟨p1, ⟨p2, p3⟩, p4⟩ := hp
    rw [← List.take_append_drop j (a.ls.eraseIdx j)] at hr
    rcases List.mem_append.1 hr with hr | hr
    · have := p4 r hr _ List.mem_cons_self
      simp only at this
      omega
    · have := p2 r hr
      simp only at this
      omega
  refine ⟨h.n1, h.n64, by show (put a.bs at_ k false).length = a.n; rw [length_put _ _ _ _ hput]; exact h.len, h.limit, ⟨fun r hr => h.good.1 r (hsub r hr), List.Pairwise.sublist (List.eraseIdx_sublist _ _) h.good.2⟩, fun i hi => ?_, ?_, ?_⟩
  · show (put a.bs at_ k false)[i]? = some (inR (a.ls.eraseIdx j) i)
    rw [put_get _ _ _ _ hput i (by rw [h.len]; exact hi)]
    by_cases hc : at_ ≤ i ∧ i < at_ + k
    · rw [if_pos hc]
      congr 1
      symm
      rw [inR_false]
      intro r hr ⟨h4, h5⟩
      exact hno r hr ⟨by omega, by omega⟩
    · rw [if_neg hc, h.marks i hi]
      congr 1
      rw [Bool.eq_iff_iff, inR_true, inR_true]
      constructor
      · rintro ⟨r, hr, h4, h5⟩
        rw [her] at hr
        rcases mem_ins.1 hr with rfl | hr
        · exfalso; simp at h4 h5; omega
        · exact ⟨r, hr, h4, h5⟩
      · rintro ⟨r, hr, h4⟩
        exact ⟨r, hsub r hr, h4⟩
  · have h1 := h.sum
    unfold Ar.given at h1 ⊢
    show (a.n : Int) - ((cntF (put a.bs at_ k false) : Nat) : Int) = total (a.ls.eraseIdx j)
    rw [hc]
    omega
  · have h1 := h.le
    show total (a.ls.eraseIdx j) ≤ a.lim
    omega
theorem no (h : Inv a) : Inv a.no := ⟨h.n1, h.n64, h.len, h.limit, h.good, h.marks, h.sum, h.le⟩
theorem tell (h : Inv a) (ts : List Bool) : Inv { a with ts := ts } := ⟨h.n1, h.n64, h.len, h.limit, h.good, h.marks, h.sum, h.le⟩
end Inv
theorem inv_new (n : Nat) (lim : Int) (h1 : 1 ≤ n) (h2 : n ≤ 64) (hl : 0 ≤ lim ∧ lim ≤ n) : Inv { n := n, lim := lim, bs := frees n, ls := [], ts := [], ref := 0 } :=
  ⟨h1, h2, length_frees n, hl, ⟨fun r hr => (by cases hr), List.Pairwise.nil⟩, fun i hi => by
    show (frees n)[i]? = some (inR [] i)
    unfold frees
    rw [List.getElem?_replicate, if_pos hi]
    rfl, by show (n : Int) - ((cntF (frees n) : Nat) : Int) = 0; rw [cntF_frees]; omega, by show (0 : Int) ≤ lim; omega⟩
/-- What Reserve answers, and leaves. -/
def Res (a : Ar) (k : Int) (x e : Int) (a' : Ar) : Prop :=
  ((k < 1 ∨ (a.n : Int) < k) ∧ x = 0 ∧ e = 2 ∧ a' = a) ∨
  ((1 ≤ k ∧ k ≤ (a.n : Int)) ∧ (a.ts.headD false = true ∨ a.lim < total a.ls + k ∨ ∀ b, ¬ FreeAt a.bs b k.toNat) ∧ x = 0 ∧ e = 4 ∧ a' = a.no) ∨
  ∃ at_ m j : Nat, k = (m : Int) ∧ 1 ≤ m ∧ m ≤ a.n ∧ a.ts.headD false = false ∧ total a.ls + k ≤ a.lim ∧ FreeAt a.bs at_ m ∧ (∀ b, b < at_ → ¬ FreeAt a.bs b m) ∧ AtG a.ls at_ j ∧ x = (at_ : Int) ∧ e = 0 ∧ a' = a.yes at_ m j
def ResA (S : List Nat) (w : World) (p : Nat) (a : Ar) (k : Int) (e : Ending) (w' : World) : Prop := ∃ x er a', e = .returned (.tuple #[.int .i64 x, .int .i64 er]) ∧ Res a k x er a' ∧ LeftA S w p a' w'
theorem low_ex (P : Nat → Prop) [DecidablePred P] : ∀ N, (∃ b, b < N ∧ P b ∧ ∀ c, c < b → ¬ P c) ∨ ∀ b, b < N → ¬ P b := by
  intro N
  induction N with
  | zero => exact .inr (fun b hb => by omega)
  | succ N ih =>
    rcases ih with ⟨b, h1, h2, h3⟩ | h
    · exact .inl ⟨b, by omega, h2, h3⟩
    · by_cases hN : P N
      · exact .inl ⟨N, by omega, hN, fun c hc => h c hc⟩
      · refine .inr (fun b hb => ?_)
        rcases Nat.lt_or_ge b N with h4 | h4
        · exact h b h4
        · rw [show b = N by omega]; exact hN
instance (bs : List Bool) (a r : Nat) (v : Bool) : Decidable (AllAt bs a r v) := by unfold AllAt; infer_instance
instance (bs : List Bool) (a r : Nat) : Decidable (FreeAt bs a r) := by unfold FreeAt; infer_instance
theorem reserve_any (S : List Nat) (w : World) (p : Nat) (a : Ar) (h : ArS S w p a) (hi : Inv a) (hts : a.ts.length ≤ 1000) (hr : 0 ≤ a.ref ∧ a.ref ≤ 100000) (k : Int) :
    Calls Try.prog 11 #[.pointer (some ⟨p, 0, none⟩), .int .i64 k] w (ResA S w p a k) := by
  have hs := hi.sum
  have hg := hi.given
  by_cases h0 : k < 1 ∨ (a.n : Int) < k
  · exact (res_arg S w p a h k h0 hi.n64).mono fun e w' ⟨he, hk⟩ => ⟨_, _, _, he, .inl ⟨h0, rfl, rfl, rfl⟩, (LeftA.of h).keep0 hk⟩
  · have h1 : 1 ≤ k ∧ k ≤ (a.n : Int) := by omega
    cases ht : a.ts.headD false with
    | true => exact (res_told S w p a h k h1.1 h1.2 hi.n64 hts ht hr).mono fun e w' ⟨he, hl⟩ => ⟨_, _, _, he, .inr (.inl ⟨h1, .inl ht, rfl, rfl, rfl⟩), hl⟩
    | false =>
      by_cases h2 : a.lim < a.given + k
      · exact (res_over S w p a h k h1.1 h1.2 hi.n64 hi.len hts ht hr hg h2).mono fun e w' ⟨he, hl⟩ => ⟨_, _, _, he, .inr (.inl ⟨h1, .inr (.inl (by omega)), rfl, rfl, rfl⟩), hl⟩
      · obtain ⟨m, rfl⟩ := Int.eq_ofNat_of_zero_le (show 0 ≤ k by omega)
        rcases low_ex (fun b => FreeAt a.bs b m) (a.n + 1) with ⟨b, _, h4, h5⟩ | h4
        · obtain ⟨j, hj⟩ := at_ex hi.good (b : Int)
          exact (res_ok S w p a h m (by omega) (by omega) hi.n64 hi.len hts ht hg (by omega) b h4 h5 (by have := hi.few; omega) j hj).mono fun e w' ⟨he, hl⟩ => ⟨_, _, _, he, .inr (.inr ⟨b, m, j, rfl, by omega, by omega, ht, by omega, h4, h5, hj, rfl, rfl, rfl⟩), hl⟩
        · have h6 : ∀ b, ¬ FreeAt a.bs b m := fun b hf => h4 b (by have := hf.1; rw [hi.len] at this; omega) hf
          exact (res_full S w p a h m (by omega) (by omega) hi.n64 hi.len hts ht hr hg (by omega) h6).mono fun e w' ⟨he, hl⟩ => ⟨_, _, _, he, .inr (.inl ⟨h1, .inr (.inr h6), rfl, rfl, rfl⟩), hl⟩
theorem Res.inv {a a' : Ar} {k x e : Int} (hi : Inv a) (h : Res a k x e a') : Inv a' := by
  rcases h with ⟨_, _, _, rfl⟩ | ⟨_, _, _, _, rfl⟩ | ⟨at_, m, j, rfl, h1, h2, h3, h4, h5, h6, h7, _, _, rfl⟩
  · exact hi
  · exact hi.no
  · exact hi.yes at_ m j h1 h5 h7 (by have := hi.sum; omega)
/-- What Release answers, and leaves. -/
def Rel (a : Ar) (t : Int) (e : Int) (a' : Ar) : Prop :=
  ((∀ r, r ∈ a.ls → r.1 ≠ t) ∧ e = 5 ∧ a' = a) ∨
  ∃ at_ k j : Nat, t = (at_ : Int) ∧ AtG a.ls at_ j ∧ j < a.ls.length ∧ rg a.ls j = ((at_ : Int), (k : Int)) ∧ e = 0 ∧ a' = a.back at_ k j
def RelA (S : List Nat) (w : World) (p : Nat) (a : Ar) (t : Int) (e : Ending) (w' : World) : Prop := ∃ er a', e = .returned (.int .i64 er) ∧ Rel a t er a' ∧ LeftA S w p a' w'
theorem release_any (S : List Nat) (w : World) (p : Nat) (a : Ar) (h : ArS S w p a) (hi : Inv a) (t : Int) :
    Calls Try.prog 12 #[.pointer (some ⟨p, 0, none⟩), .int .i64 t] w (RelA S w p a t) := by
  obtain ⟨j, hj⟩ := at_ex hi.good t
  have hf := hi.few
  cases hh : hitG a.ls t j with
  | false =>
    refine (rel_none S w p a h t (by omega) j hj hh).mono fun e w' ⟨he, hk⟩ => ⟨_, _, he, .inl ⟨fun r hr e1 => ?_, rfl, rfl⟩, (LeftA.of h).keep0 hk⟩
    obtain ⟨l1, l2⟩ := at_lists hj
    rw [← List.take_append_drop j a.ls] at hr
    rcases List.mem_append.1 hr with hr | hr
    · have := l1 r hr; omega
    · have hjl : j < a.ls.length := by
        rcases Nat.lt_or_ge j a.ls.length with h1 | h1
        · exact h1
        · rw [List.drop_eq_nil_of_le h1] at hr; cases hr
      unfold hitG at hh
      rw [decide_eq_true hjl, Bool.true_and, decide_eq_false_iff_not] at hh
      rw [drop_rg hjl] at hr
      rcases List.mem_cons.1 hr with rfl | hr
      · exact hh e1
      · have hp := hi.good.2
        rw [← List.take_append_drop j a.ls, drop_rg hjl, List.pairwise_append, List.pairwise_cons] at hp
        have h3 := hp.2.1.1 r hr
        have h4 := hi.good.1 _ (rg_mem hjl)
        have h5 := hj.2.2 j (Nat.le_refl _) hjl
        omega
  | true =>
    unfold hitG at hh
    simp only [Bool.and_eq_true, decide_eq_true_eq] at hh
    have hm := hi.good.1 _ (rg_mem hh.1)
    obtain ⟨at_, hat⟩ := Int.eq_ofNat_of_zero_le hm.1
    obtain ⟨k, hk⟩ := Int.eq_ofNat_of_zero_le (show 0 ≤ (rg a.ls j).2 by omega)
    have he : rg a.ls j = ((at_ : Int), (k : Int)) := by
      rw [← hat, ← hk]
    have ht : t = (at_ : Int) := by omega
    subst ht
    obtain ⟨h1, h2, h3⟩ := hi.taken at_ k j hh.1 he
    exact (rel_ok S w p a h (by omega) at_ k j hj hh.1 he h1 (by rw [hi.len]; exact h2) h3).mono fun e w' ⟨he', hl⟩ => ⟨_, _, he', .inr ⟨at_, k, j, rfl, hj, hh.1, he, rfl, rfl⟩, hl⟩
theorem Rel.inv {a a' : Ar} {t e : Int} (hi : Inv a) (h : Rel a t e a') : Inv a' := by
  rcases h with ⟨_, _, rfl⟩ | ⟨at_, k, j, _, _, h1, h2, _, rfl⟩
  · exact hi
  · exact hi.back at_ k j h1 h2
theorem new_ar (n : Nat) (lim : Int) (w : World) (h1 : 1 ≤ n) (h2 : n ≤ 64) (hl : 0 ≤ lim ∧ lim ≤ n) :
    Calls Try.prog 10 #[.int .i64 n, .int .i64 lim] w fun e w' => (∃ p S, e = .returned (.tuple #[.pointer (some ⟨p, 0, none⟩), .int .i64 0]) ∧ ArS S w' p { n := n, lim := lim, bs := frees n, ls := [], ts := [], ref := 0 } ∧ ∀ q, q ∈ S → w.heap.size ≤ q) ∧ Kept [] w w' :=
  (anew_any n lim w h1 h2 hl).mono fun e w' ⟨⟨p, he, hp, hb, hm⟩, hk⟩ => ⟨⟨p, [p, w.heap.size + 1, w.heap.size], he, ⟨w.heap.size + 1, w.heap.size, _, _, rfl, by omega, by omega, hb, hm, OwnS.nil _ _ _, .inl ⟨rfl, rfl⟩⟩, fun q hq => by
    simp at hq
    omega⟩, hk⟩
end Go.Proofs.Ytekblfnemcaaeaa
