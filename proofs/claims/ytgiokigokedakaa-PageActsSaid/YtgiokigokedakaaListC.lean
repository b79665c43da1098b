/- Push, Pop, Join, All by chains: what hangs on a list, and what of memory stays. -/
import Derived.Test.YtgiokigokedakaaJoin
set_option linter.unusedVariables false
set_option linter.unusedSimpArgs false
namespace Go.Proofs.Ytgiokigokedakaa
open Go.RowKit
/-- But the links of l nothing turns. -/
def Rest (l : List Nat) (zs z : List Int) : Prop := z.length = zs.length ∧ ∀ i : Nat, (∀ a, a ∈ l → ¬ (a ≤ i ∧ i < a + 8)) → z[i]? = zs[i]?
theorem Rest.refl (l : List Nat) (zs : List Int) : Rest l zs zs := ⟨rfl, fun _ _ => rfl⟩
theorem Rest.trans {l : List Nat} {a b c : List Int} (h : Rest l a b) (k : Rest l b c) : Rest l a c := ⟨k.1.trans h.1, fun i hi => (k.2 i hi).trans (h.2 i hi)⟩
theorem Rest.mono {l l' : List Nat} {a b : List Int} (h : Rest l a b) (hl : ∀ x, x ∈ l → x ∈ l') : Rest l' a b := ⟨h.1, fun i hi => h.2 i (fun x hx => hi x (hl x hx))⟩
theorem Rest.splice (zs : List Int) (a : Nat) (v : Int) (h : a + 8 ≤ zs.length) : Rest [a] zs (Go.splice zs a (bytesOf 8 v)) := by
  refine ⟨len_splice8 zs a v h, fun i hi => ?_⟩
  have h1 := hi a (by simp)
  rw [splice_get zs a (bytesOf 8 v) (by simpa using h) i]
  by_cases h2 : i < a
  · rw [if_pos h2]
  · rw [if_neg h2, if_neg (by simp; omega)]
theorem Rest.push : ∀ (xs : List Nat) (zs : List Int) (hd : Nat), (∀ a, a ∈ xs → a + 8 ≤ zs.length) → Rest xs zs (pushG zs hd xs).1 := by
  intro xs
  induction xs with
  | nil => intro zs hd _; exact Rest.refl _ _
  | cons a xs ih =>
    intro zs hd h
    have h8 := h a (by simp)
    have h1 := Rest.splice zs a (hd : Int) h8
    exact (h1.mono (fun x hx => by simp at hx; simp [hx])).trans ((ih _ a (fun b hb => by rw [h1.1]; exact h b (by simp [hb]))).mono (fun x hx => by simp [hx]))
def Apart (l : List Nat) : Prop := l.Pairwise (fun a b => a + 8 ≤ b ∨ b + 8 ≤ a)
theorem Apart.far {a : Nat} {l m : List Nat} (h : Apart (l ++ m)) (ha : a ∈ l) : Far a m := fun x hx => by
  have := (List.pairwise_append.1 h).2.2 a ha x hx
  omega
theorem Apart.left {l m : List Nat} (h : Apart (l ++ m)) : Apart l := (List.pairwise_append.1 h).1
theorem Apart.right {l m : List Nat} (h : Apart (l ++ m)) : Apart m := (List.pairwise_append.1 h).2.1
theorem Apart.perm {l m : List Nat} (h : Apart l) (p : l.Perm m) : Apart m := p.pairwise h (fun {x y} hh => by omega)
theorem Chn.hd64 {zs : List Int} {hd : Nat} {l : List Nat} (h : Chn zs hd l) (hz : zs.length ≤ 1048576) : (hd : Int) < 18446744073709551616 := by
  rcases h.head with h | h <;> omega
theorem Chn.next {zs : List Int} {hd a : Nat} {l : List Nat} (h : Chn zs hd (a :: l)) : hd = a ∧ a ≠ 0 ∧ a + 8 ≤ zs.length ∧ Chn zs (lk zs a) l := h
def JoinIs (w : World) (b bo p g : Nat) (zs : List Int) (L Lo : List Nat) (e : Ending) (w' : World) : Prop :=
  e = .returned (.int .i64 0) ∧ ∃ z h, MemB w' p g z ∧ Rest Lo zs z ∧ Chn z h (Lo ++ L) ∧ ListB w' b (h : Int) ((Lo ++ L).length : Int) ∧ ListB w' bo 0 0 ∧ Kept [b, bo, g] w w'
theorem join_chn (w : World) (b bo p g : Nat) (zs : List Int) (hd ho : Nat) (L Lo : List Nat) (hM : MemB w p g zs) (hl : ListB w b hd (L.length : Int)) (hlo : ListB w bo ho (Lo.length : Int)) (hne : b ≠ bo) (hc : Chn zs hd L) (hco : Chn zs ho Lo)
    (hap : Apart (Lo ++ L)) (hn : L.length ≤ 1000000) (hno : Lo.length ≤ zs.length) :
    Calls Try.prog 46 #[.pointer (some ⟨b, 0, none⟩), .pointer (some ⟨p, 0, none⟩), .pointer (some ⟨bo, 0, none⟩)] w (JoinIs w b bo p g zs L Lo) := by
  have hzl := hM.2.2.1
  rcases List.eq_nil_or_concat Lo with rfl | ⟨P, a, rfl⟩
  · obtain rfl : ho = 0 := hco
    refine (join_nil w b bo p g zs hd L.length hM hl hlo hne).mono ?_
    rintro e w' ⟨rfl, h1, h2⟩
    have n1 := hl.ne hM
    have n2 := hlo.ne hM
    exact ⟨rfl, zs, hd, hM.keep h2 (by simp; omega) (by simp; omega), Rest.refl _ _, hc, Blk.keep hl h2 (by simpa using hne), h1, h2.mono (fun x hx _ => by simp at hx ⊢; right; left; exact hx)⟩
  · rw [List.concat_eq_append] at *
    have ha8 := (hco.len a (by simp)).2
    refine (join_any w b bo p g zs hd ho a L.length P hM hl hlo hne hco (hc.hd64 hzl) (by omega) hno).mono ?_
    rintro e w' ⟨rfl, h1, h2, h3, h4⟩
    refine ⟨rfl, _, ho, h1, (Rest.splice zs a (hd : Int) ha8).mono (fun x hx => by simp at hx; simp [hx]), Chn.join hc (hc.hd64 hzl) ha8 (hap.far (by simp)) P hco ?_, ?_, h3, h4⟩
    · intro x hx
      have := (List.pairwise_append.1 hap.left).2.2 x hx a (by simp)
      omega
    · have e1 : (((P ++ [a]) ++ L).length : Int) = (L.length : Int) + ((P ++ [a]).length : Int) := by simp; omega
      rw [e1]
      exact h2
def PushIs (w : World) (b p g : Nat) (zs : List Int) (L xs : List Nat) (e : Ending) (w' : World) : Prop :=
  e = .returned (.int .i64 0) ∧ ∃ z h, MemB w' p g z ∧ Rest xs zs z ∧ Chn z h (xs.reverse ++ L) ∧ ListB w' b (h : Int) ((xs.reverse ++ L).length : Int) ∧ Kept [b, g] w w'
theorem push_chn (w : World) (b p g : Nat) (zs : List Int) (hd : Nat) (L xs : List Nat) (A : Option Addr) (len cap : Nat) (hM : MemB w p g zs) (hl : ListB w b hd (L.length : Int)) (hc : Chn zs hd L) (hv : ∀ a, a ∈ xs → a ≠ 0 ∧ a + 8 ≤ zs.length)
    (hap : Apart (xs ++ L)) (hr : ∀ w', Kept [b, g] w w' → RowX .u64 w' A (xs.map (fun (x : Nat) => (x : Int)))) (hlen : len = xs.length) (hn : L.length + xs.length ≤ 1000000) :
    Calls Try.prog 39 #[.pointer (some ⟨b, 0, none⟩), .pointer (some ⟨p, 0, none⟩), .slice A len cap] w (PushIs w b p g zs L xs) := by
  have hzl := hM.2.2.1
  refine (push_row w b p g zs hd L.length xs [] 0 A len cap hM hl (hc.hd64 hzl) (by omega) hv (.inl ⟨rfl, rfl⟩) (fun w' hk => by rw [List.append_nil]; exact hr w' hk) (by simpa using hlen) (by omega)).mono ?_
  rintro e w' ⟨rfl, h1, h2, h3⟩
  refine ⟨rfl, (pushG zs hd xs).1, (pushG zs hd xs).2, h1, Rest.push xs zs hd (fun a ha => (hv a ha).2), ?_, ?_, h3⟩
  · exact Chn.pushG hzl xs rfl hc hv hap.left (fun a ha => hap.far ha) (hc.hd64 hzl)
  · rw [List.length_append, List.length_reverse]
    have e1 : ((xs.length + L.length : Nat) : Int) = (L.length : Int) + (xs.length : Int) := by omega
    rw [e1]
    exact h2
theorem pop_chn (w : World) (b p g : Nat) (zs : List Int) (hd a : Nat) (L : List Nat) (hM : MemB w p g zs) (hl : ListB w b hd ((a :: L).length : Int)) (hc : Chn zs hd (a :: L)) (hn : L.length ≤ 1000000) :
    Calls Try.prog 37 #[.pointer (some ⟨b, 0, none⟩), .pointer (some ⟨p, 0, none⟩)] w fun e w' => e = .returned (.tuple #[.int .u64 (a : Int), .int .i64 0]) ∧ ListB w' b (lk zs a : Int) (L.length : Int) ∧ Kept [b] w w' := by
  obtain ⟨rfl, h0, h8, hcn⟩ := hc
  have := pop_any w b p g zs hd ((hd :: L).length : Int) hM hl (by simp <;> omega) (by simp <;> omega) h8
  refine this.mono ?_
  rintro e w' ⟨rfl, h1, h2⟩
  refine ⟨rfl, ?_, h2⟩
  rwa [show ((hd :: L).length : Int) - 1 = (L.length : Int) by simp] at h1
theorem OwnI.cap {B : Nat} {k : IntKind} {e : TypeId} {w : World} {A : Option Addr} {n c : Nat} {zs : List Int} (h : OwnI B k e w (.slice A n c) zs) : zs.length = n ∧ n ≤ c ∧ c ≤ maxLen := by
  rcases h.2 with ⟨h1, h2⟩ | ⟨g, cap, cur, h1, hb, hg, hn, hm, hs, ht⟩
  · injection h1 with h1 h3 h4
    subst h3 h4
    exact ⟨h2, Nat.le_refl _, by unfold maxLen; omega⟩
  · injection h1 with h1 h3 h4
    subst h3 h4
    exact ⟨rfl, hn, hm⟩
/-- append behind a guard that lets it. -/
theorem app_gd {P : Program} {w : World} {ops : Array Oper} {rest : List Oper} {o : Oper} {a : Act} {Q : Exit → Act → World → Prop} (k : IntKind) (T E : TypeId) (bytes : Nat) (hT : P.underlying T = some (.slice E))
    (hinfo : (P.info? E).map (fun i => (i.zero, i.size, i.bytes)) = some (some (.int k 0), 1, bytes)) (hb8 : bytes ≤ 8) (hw : Region.wanted o (yielded ops a.tmps) = true) (s x : Operand)
    (ho : o.op = .call { callee := .builtin .append, args := #[s, x], argTypes := #[T, T] })
    (W : World) (B : Nat) (v : Value) (zs ys : List Int) (hs : a.eval s = v) (hown : OwnI B k E w v zs) (A : Option Addr) (n c : Nat) (hn : n = ys.length) (hx : a.eval x = .slice A n c) (hc : A = none → c = 0)
    (hr : RowX k w A ys) (hkw : Kept [] W w) (hWB : W.heap.size ≤ B) (hBw : B ≤ w.heap.size) (hlen : zs.length + ys.length ≤ 1000000000)
    (h : ∀ A' n' c' w', Hid (n' = (zs ++ ys).length) → OwnI B k E w' (.slice A' n' c') (zs ++ ys) → OwnI B k E w' v zs → Kept [] W w' → w.grownBy w' v.ownBlock → w.heap.size ≤ w'.heap.size → (A' = none → c' = 0) → RowX k w' A' (zs ++ ys) →
      wpList P ops Q rest (a.put o.dst (.slice A' n' c')) w') : wpList P ops Q (o :: rest) a w :=
  wpList_step fun K hK => by
    rw [if_pos hw]
    exact wp_app k T E bytes hT hinfo hb8 s x ho W B v zs ys hs hown A n c hn hx hc hr hkw hWB hBw hlen (fun A' n' c' w' h1 h2 h3 h4 h5 h6 h7 h8 => hK _ _ (h A' n' c' w' h1 h2 h3 h4 h5 h6 h7 h8))
theorem RowX.take {k : IntKind} {w : World} {A : Option Addr} {zs : List Int} (h : RowX k w A zs) (n : Nat) : RowX k w A (zs.take n) := fun h0 => by
  have hn : 0 < n ∧ 0 < zs.length := by
    simp at h0
    omega
  obtain ⟨x, h1, h2, h3⟩ := h hn.2
  exact ⟨x, h1, h2, fun i hi => by
    have hi' : i < n ∧ i < zs.length := by
      simp at hi
      omega
    rw [h3 i hi'.2, List.getElem?_take_of_lt hi'.1]⟩
theorem RowX.drop {k : IntKind} {w : World} {A : Option Addr} {zs : List Int} (h : RowX k w A zs) (n : Nat) : RowX k w (A.map (·.add n)) (zs.drop n) := fun h0 => by
  simp at h0
  obtain ⟨x, rfl, h2, h3⟩ := h (by omega)
  refine ⟨x.add n, rfl, by rw [add_block]; exact h2, fun i hi => ?_⟩
  simp at hi
  rw [Addr.add_add, h3 (n + i) (by omega), List.getElem?_drop]
theorem Kept.thenL {S T : List Nat} {a b c : World} (k : Kept S b c) (h : Kept T a b) (hS : ∀ s, s ∈ S → a.heap.size ≤ s) : Kept T a c := h.trans k (fun x hx hl => by have := hS x hx; omega)
theorem Rest.lk {m : List Nat} {zs z : List Int} (h : Rest m zs z) (a : Nat) (hf : ∀ x, x ∈ m → x + 8 ≤ a ∨ a + 8 ≤ x) : Go.Proofs.Ytgiokigokedakaa.lk z a = Go.Proofs.Ytgiokigokedakaa.lk zs a := by
  unfold Go.Proofs.Ytgiokigokedakaa.lk ldV
  have e : (z.drop a).take 8 = (zs.drop a).take 8 := by
    apply List.ext_getElem?
    intro i
    by_cases hi : i < 8
    · rw [List.getElem?_take_of_lt hi, List.getElem?_take_of_lt hi, List.getElem?_drop, List.getElem?_drop]
      exact h.2 (a + i) (fun x hx => by have := hf x hx; omega)
    · rw [List.getElem?_eq_none (by simp; omega), List.getElem?_eq_none (by simp; omega)]
  rw [e]
theorem Chn.rest {m : List Nat} {zs z : List Int} (h : Rest m zs z) : ∀ {l : List Nat} {hd : Nat}, Chn zs hd l → (∀ a, a ∈ m → Far a l) → Chn z hd l := by
  intro l
  induction l with
  | nil => intro hd hc _; exact hc
  | cons a l ih =>
    rintro hd ⟨rfl, h0, h8, hc⟩ hf
    refine ⟨rfl, h0, by rw [h.1]; exact h8, ?_⟩
    rw [h.lk hd (fun x hx => hf x hx hd (by simp))]
    exact ih hc (fun x hx y hy => hf x hx y (by simp [hy]))
end Go.Proofs.Ytgiokigokedakaa
