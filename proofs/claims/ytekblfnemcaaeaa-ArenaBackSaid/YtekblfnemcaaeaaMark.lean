/- Places, each taken or free: what they are, in blocks; a row of them; taken and given back. -/
import Derived.Test.YtekblfnemcaaeaaOwn
import Derived.Laws.OwnMore
import Derived.Laws.CopyOwn
set_option linter.unusedVariables false
set_option linter.unusedSimpArgs false
namespace Go.Proofs.Ytekblfnemcaaeaa
open Go.RowKit
theorem splice_get {α : Type} (L : List α) (a : Nat) (cs : List α) (h : a + cs.length ≤ L.length) (i : Nat) :
    (splice L a cs)[i]? = if i < a then L[i]? else if i < a + cs.length then cs[i - a]? else L[i]? := by
  unfold splice
  by_cases h1 : i < a
  · rw [if_pos h1, List.getElem?_append_left (by simp; omega), List.getElem?_take_of_lt h1]
  · rw [if_neg h1, List.getElem?_append_right (by simp; omega)]
    have e : (L.take a).length = a := by simp; omega
    rw [e]
    by_cases h2 : i < a + cs.length
    · rw [if_pos h2, List.getElem?_append_left (by omega)]
    · rw [if_neg h2, List.getElem?_append_right (by omega), List.getElem?_drop]
      congr 1; omega
theorem splice_snoc {α : Type} (L : List α) (a : Nat) (cs : List α) (x : α) (h : a + cs.length < L.length) : (splice L a cs).set (a + cs.length) x = splice L a (cs ++ [x]) := by
  apply List.ext_getElem?
  intro i
  rw [List.getElem?_set, splice_get L a cs (by omega), splice_get L a (cs ++ [x]) (by simp; omega)]
  have hl : (splice L a cs).length = L.length := length_splice L a cs (by omega)
  rw [hl]
  simp only [List.length_append, List.length_cons, List.length_nil]
  by_cases h1 : i < a
  · rw [if_pos h1, if_pos h1, if_neg (by omega)]
  · rw [if_neg h1, if_neg h1]
    by_cases h2 : a + cs.length = i
    · rw [if_pos h2, if_pos (by omega), if_pos (by omega), List.getElem?_append_right (by omega)]
      simp [← h2]
    · rw [if_neg h2]
      by_cases h3 : i < a + cs.length
      · rw [if_pos h3, if_pos (by omega), List.getElem?_append_left (by omega)]
      · rw [if_neg h3, if_neg (by omega)]
def offOf (k a : Nat) : Nat := if k = a then 0 else a
theorem offOf_lt {k a n : Nat} (h : a + n ≤ k) (hn : 0 < n) : offOf k a = a := by unfold offOf; rw [if_neg (by omega)]
theorem ret_sli {A : Option Addr} {n n' c c' : Nat} {v : Value} (hn : n = n') (hc : c = c') : Ending.returned (.tuple #[.slice A n c, v]) = .returned (.tuple #[.slice A n' c', v]) := by rw [hn, hc]
def cellsB (bs : List Bool) : Array Value := (bs.map Value.bool).toArray
theorem cellsB_lt {bs : List Bool} {i : Nat} (h : i < bs.length) : (cellsB bs)[i]? = some (.bool (bs[i]?.getD false)) := by simp [cellsB, h]
theorem cellsB_set (bs : List Bool) (i : Nat) (v : Bool) : (cellsB bs).setIfInBounds i (.bool v) = cellsB (bs.set i v) := by simp [cellsB, List.map_set]
/-- How many are free. -/
def cntF (bs : List Bool) : Nat := bs.countP (fun b => !b)
/-- The places at block p, in block g; 'left' stands at l. -/
def MarkR (w : World) (p g : Nat) (bs : List Bool) (l : Int) : Prop :=
  Blk w p 72 #[.slice (some ⟨g, 0, none⟩) bs.length bs.length, .int .i64 l] ∧ Blk w g 4 (cellsB bs) ∧ bs.length ≤ 256
def MarkB (w : World) (p g : Nat) (bs : List Bool) : Prop := MarkR w p g bs (cntF bs)
namespace MarkR
variable {w w' : World} {p g : Nat} {bs : List Bool} {l : Int}
theorem keep {S : List Nat} (h : MarkR w p g bs l) (hk : Kept S w w') (hp : p ∉ S) (hg : g ∉ S) : MarkR w' p g bs l := ⟨h.1.keep hk hp, h.2.1.keep hk hg, h.2.2⟩
theorem keep0 (h : MarkR w p g bs l) (hk : Kept [] w w') : MarkR w' p g bs l := h.keep hk (by simp) (by simp)
theorem ne (h : MarkR w p g bs l) : p ≠ g := h.1.ne_ h.2.1 (by decide)
theorem setB (h : MarkR w p g bs l) (i : Nat) (v : Bool) : MarkR (w.setCell ⟨g, i, none⟩ (.bool v)) p g (bs.set i v) l :=
  ⟨by simpa using h.1.far (p := ⟨g, i, none⟩) h.ne _, h.2.1.set' (cellsB_set _ _ _), by simpa using h.2.2⟩
theorem setL (h : MarkR w p g bs l) (l' : Int) : MarkR (w.setCell ⟨p, 1, none⟩ (.int .i64 l')) p g bs l' :=
  ⟨h.1.set' rfl, h.2.1.far (p := ⟨p, 1, none⟩) h.ne.symm _, h.2.2⟩
end MarkR
theorem MarkB.keep0 {w w' : World} {p g : Nat} {bs : List Bool} (h : MarkB w p g bs) (hk : Kept [] w w') : MarkB w' p g bs := MarkR.keep0 h hk
theorem MarkB.lt {w : World} {p g : Nat} {bs : List Bool} (h : MarkB w p g bs) : g < w.heap.size := h.2.1.lt
theorem MarkB.ltp {w : World} {p g : Nat} {bs : List Bool} (h : MarkB w p g bs) : p < w.heap.size := h.1.lt
/-- A slice of places. -/
def RowB (w : World) (A : Option Addr) (bs : List Bool) : Prop := 0 < bs.length → ∃ x : Addr, A = some x ∧ ∀ i, i < bs.length → w.cell? (x.add i) = some (.bool (bs[i]?.getD false))
theorem RowB.piece {w : World} {p g : Nat} {bs : List Bool} {l : Int} (h : MarkR w p g bs l) (a n : Nat) (ho : a + n ≤ bs.length) : RowB w (some ⟨g, offOf bs.length a, none⟩) ((bs.drop a).take n) := fun h0 => by
  have hl : ((bs.drop a).take n).length = n := by simp; omega
  refine ⟨_, rfl, fun i hi => ?_⟩
  rw [Addr.add_lit, offOf_lt ho (by omega), h.2.1.cell, cellsB_lt (by omega), List.getElem?_take_of_lt (by omega), List.getElem?_drop]
/-- The first that is v. -/
def fi (v : Bool) : List Bool → Nat | [] => 0 | b :: l => if b = v then 0 else fi v l + 1
theorem fi_le (v : Bool) (bs : List Bool) : fi v bs ≤ bs.length := by
  induction bs with
  | nil => simp [fi]
  | cons b l ih => simp only [fi, List.length_cons]; split <;> omega
theorem fi_before (v : Bool) (bs : List Bool) (j : Nat) (hj : j < fi v bs) : bs[j]? = some (!v) := by
  induction bs generalizing j with
  | nil => simp [fi] at hj
  | cons b l ih =>
    simp only [fi] at hj
    split at hj
    · omega
    · rename_i hne
      cases j with
      | zero => cases b <;> cases v <;> simp_all
      | succ j => simp only [List.getElem?_cons_succ]; exact ih j (by omega)
theorem fi_is (v : Bool) (bs : List Bool) (h : fi v bs < bs.length) : bs[fi v bs]? = some v := by
  induction bs with
  | nil => simp at h
  | cons b l ih =>
    simp only [fi, List.length_cons] at h ⊢
    by_cases e : b = v
    · rw [if_pos e]; simp [e]
    · rw [if_neg e] at h ⊢
      simp only [List.getElem?_cons_succ]
      exact ih (by omega)
theorem fi_at (v : Bool) (bs : List Bool) (k : Nat) (hk : k < bs.length) (h : ∀ j, j < k → bs[j]?.getD false = !v) (hv : bs[k]?.getD false = v) : fi v bs = k := by
  rcases Nat.lt_trichotomy (fi v bs) k with h1 | h1 | h1
  · have h2 := h _ h1
    rw [fi_is v bs (by omega)] at h2
    cases v <;> simp at h2
  · exact h1
  · rw [fi_before v bs k h1] at hv
    cases v <;> simp at hv
theorem fi_all (v : Bool) (bs : List Bool) (h : ∀ j, j < bs.length → bs[j]?.getD false = !v) : fi v bs = bs.length := by
  rcases Nat.lt_or_ge (fi v bs) bs.length with h1 | h1
  · have h2 := h _ h1
    rw [fi_is v bs h1] at h2
    cases v <;> simp at h2
  · have := fi_le v bs; omega
def idxV (v : Bool) (bs : List Bool) : Int := if fi v bs < bs.length then (fi v bs : Int) else -1
theorem index_any (w : World) (A : Option Addr) (c : Nat) (bs : List Bool) (v : Bool) (hr : RowB w A bs) (hl : bs.length ≤ 256) :
    Calls Try.prog 46 #[.slice A bs.length c, .bool v] w fun e w' => e = .returned (.int .i64 (idxV v bs)) ∧ w = w' := by
  have HR := Lib.hid hr
  clear hr
  go_enter Try.func46, Try.ntmps46
  go_wp2
  go_loop [8] (fun i => ∃ k : Nat, k ≤ bs.length ∧ i = .int .i64 k ∧ Hid (∀ j, j < k → bs[j]?.getD false = !v)) (fun i => bs.length - (intOf i).toNat)
  case atStart => exact ⟨0, by omega, rfl, Lib.hid (fun j hj => by omega)⟩
  case round =>
    obtain ⟨k, hk, rfl, hno⟩ := hrel
    by_cases hlt : k < bs.length
    · obtain ⟨ad, rfl, hcs⟩ := HR.out (by omega)
      have hcell := hcs k hlt
      clear hcs
      have HX := Lib.hid (rfl : bs[k]?.getD false = bs[k]?.getD false)
      generalize hx : bs[k]?.getD false = x at hcell
      have HX := Lib.hid hx
      clear hx
      by_cases h1 : x = v
      · have hi : Hid ((k : Int) = idxV v bs) := Lib.hid (by
          have := fi_at v bs k hlt hno.out (by rw [HX.out]; exact h1)
          unfold idxV; rw [this, if_pos hlt])
        have h2 : (v == x) = true := by rw [h1]; simp
        subst h1
        go_wp2
        go_ret
        exact ⟨ret_int hi.out, rfl⟩
      · have h2 : (v == x) = false := by
          revert h1; cases v <;> cases x <;> simp
        have h3 : Hid (∀ j, j < k + 1 → bs[j]?.getD false = !v) := Lib.hid (fun j hj => by
          rcases Nat.lt_or_ge j k with h4 | h4
          · exact hno.out j h4
          · rw [show j = k by omega, HX.out]
            revert h1; cases v <;> cases x <;> simp)
        go_wp2
        go_round
        case rel => exact ⟨k + 1, by omega, by go_num, h3⟩
        case measure => simp [intOf]; omega
    · obtain rfl : k = bs.length := by omega
      have hi : Hid ((-1 : Int) = idxV v bs) := Lib.hid (by
        have := fi_all v bs hno.out
        unfold idxV; rw [this, if_neg (by omega)])
      go_wp2
      go_ret
      exact ⟨ret_int hi.out, rfl⟩
theorem contains_any (w : World) (A : Option Addr) (n c : Nat) (bs : List Bool) (v b : Bool) (hn : n = bs.length) (hr : RowB w A bs) (hl : bs.length ≤ 256) (hb : decide (fi v bs < bs.length) = b) :
    Calls Try.prog 49 #[.slice A n c, .bool v] w fun e w' => e = .returned (.bool b) ∧ w = w' := by
  subst hn
  have c1 := Lib.hid (index_any w A c bs v hr hl)
  have h1 : decide (0 ≤ idxV v bs) = b := by
    rw [← hb]
    unfold idxV
    by_cases h : fi v bs < bs.length
    · rw [if_pos h]; simp [h]
    · rw [if_neg h]; simp [h]
  clear hr hb
  generalize idxV v bs = I at *
  go_enter Try.func49, Try.ntmps49
  go_wp2_with fail
  (with_reducible refine c1.out.mono ?_)
  rintro e w' ⟨rfl, rfl⟩
  go_wp2_with fail
  go_ret
  exact ⟨rfl, rfl⟩
end Go.Proofs.Ytekblfnemcaaeaa
