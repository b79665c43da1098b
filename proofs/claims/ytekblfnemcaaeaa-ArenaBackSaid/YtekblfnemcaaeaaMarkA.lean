/- New, Left, Mark, Free: what each answers, which places are taken behind it. -/
import Derived.Test.YtekblfnemcaaeaaMark
set_option linter.unusedVariables false
set_option linter.unusedSimpArgs false
namespace Go.Proofs.Ytekblfnemcaaeaa
open Go.RowKit
theorem info_b : (Try.prog.info? 4).map (fun i => (i.zero, i.size, i.bytes)) = some (some (.bool false), 1, 1) := by kernel_rfl
def frees (n : Nat) : List Bool := List.replicate n false
theorem length_frees (n : Nat) : (frees n).length = n := by unfold frees; exact List.length_replicate
theorem cntF_frees (n : Nat) : cntF (frees n) = n := by unfold cntF frees; rw [List.countP_replicate]; simp
theorem made_frees (n : Nat) : madeCells (Value.bool false).cells (n * 1) = cellsB (frees n) := by
  apply Array.ext
  · simp [size_madeCells, cellsB, frees]
  · intro i h1 h2
    simp [madeCells, cellsB, frees, Value.cells, Nat.mod_one]
theorem new_any (w : World) (n : Nat) (h0 : 0 < n) (h1 : n ≤ 256) :
    Calls Try.prog 26 #[.int .i64 n] w fun e w' => e = .returned (.tuple #[.pointer (some ⟨w.heap.size + 1, 0, none⟩), .int .i64 0]) ∧ MarkB w' (w.heap.size + 1) w.heap.size (frees n) ∧ Kept [] w w' := by
  obtain ⟨i0, hi, hz0, hz1, hz2⟩ := info_parts info_b
  have hmk := fun (w : World) => run_make (P := Try.prog) w 32 4 i0 (.bool false) Try.underlying32 hi hz0 .i64 .i64 n n (by omega) (Int.le_refl _) (by rw [hz2]; omega) (by omega)
  simp only [Int.toNat_natCast, hz1, made_frees] at hmk
  have h4 : decide ((n : Int) < 1) = false := by simp; omega
  have h5 : decide (256 < (n : Int)) = false := by simp; omega
  go_enter Try.func26, Try.ntmps26
  go_wp2
  go_ret2
  refine ⟨rfl, ⟨?_, ?_, by rw [length_frees]; exact h1⟩, by (repeat' (first | (with_reducible exact Kept.refl _ _) | (with_reducible assumption) | (with_reducible refine Kept.then_ (by with_reducible assumption) ?_) | (with_reducible refine Kept.thenS (by with_reducible assumption) ?_) | (with_reducible refine Kept.alloc ?_ _) | (with_reducible refine Kept.drew ?_) | (with_reducible refine Kept.drewN ?_ _) | (with_reducible refine Kept.setNew ?_ ?_ _) | ((try simp only [World.size_alloc, World.size_setCell, World.size_drew, size_drewN] at *); (try dsimp only); omega)))⟩
  · rw [length_frees, cntF_frees]
    exact Blk.new' _ _ _ (by simp)
  · exact (Blk.new _ _ _).alloc _
theorem left_any (w : World) (p g : Nat) (bs : List Bool) (h : MarkB w p g bs) : Calls Try.prog 33 #[.pointer (some ⟨p, 0, none⟩)] w fun e w' => e = .returned (.int .i64 (cntF bs)) ∧ w = w' := by
  have h1 := h.1.cell
  go_enter Try.func33, Try.ntmps33
  go_wp2
  go_ret
  exact ⟨rfl, rfl⟩
theorem row_arg (w : World) (p g : Nat) (bs : List Bool) (l : Int) (h : MarkR w p g bs l) (at_ run no : Int) (v : Bool) (ho : run < 1 ∨ at_ < 0 ∨ (bs.length : Int) ≤ at_ ∨ (bs.length : Int) - at_ < run) :
    Calls Try.prog 43 #[.pointer (some ⟨p, 0, none⟩), .int .i64 at_, .int .i64 run, .bool v, .int .i64 no] w fun e w' => e = .returned (.tuple #[.slice none 0 0, .int .i64 2]) ∧ w = w' := by
  have h1 := h.1.cell
  have h2 := h.2.2
  by_cases q1 : run < 1
  · clear ho
    go_enter Try.func43, Try.ntmps43
    go_wp2
    go_ret2
    exact ⟨rfl, rfl⟩
  · have q1' : decide (run < 1) = false := by simp; omega
    by_cases q2 : at_ < 0
    · clear ho
      go_enter Try.func43, Try.ntmps43
      go_wp2
      go_ret2
      exact ⟨rfl, rfl⟩
    · have q2' : decide (at_ < 0) = false := by simp; omega
      by_cases q3 : (bs.length : Int) ≤ at_
      · clear ho
        go_enter Try.func43, Try.ntmps43
        go_wp2
        go_ret2
        exact ⟨rfl, rfl⟩
      · have q3' : decide ((bs.length : Int) ≤ at_) = false := by simp; omega
        have q4 : (bs.length : Int) - at_ < run := by omega
        clear ho
        go_enter Try.func43, Try.ntmps43
        go_wp2
        go_ret2
        exact ⟨rfl, rfl⟩
/-- All of a row are v. -/
def AllAt (bs : List Bool) (a r : Nat) (v : Bool) : Prop := ∀ i, i < r → bs[a + i]? = some v
theorem row_no (w : World) (p g : Nat) (bs : List Bool) (l : Int) (h : MarkR w p g bs l) (a r : Nat) (no : Int) (v : Bool) (hr : 1 ≤ r) (ho : a + r ≤ bs.length) (hno : ¬ AllAt bs a r (!v)) :
    Calls Try.prog 43 #[.pointer (some ⟨p, 0, none⟩), .int .i64 a, .int .i64 r, .bool v, .int .i64 no] w fun e w' => e = .returned (.tuple #[.slice none 0 0, .int .i64 no]) ∧ w = w' := by
  have h1 := h.1.cell
  have h2 := h.2.2
  have hl : ((bs.drop a).take r).length = r := by simp; omega
  have hb : decide (fi v ((bs.drop a).take r) < ((bs.drop a).take r).length) = true := by
    rw [decide_eq_true_iff]
    rcases Nat.lt_or_ge (fi v ((bs.drop a).take r)) ((bs.drop a).take r).length with h3 | h3
    · exact h3
    · exfalso; apply hno
      intro i hi
      have := fi_before v ((bs.drop a).take r) i (by omega)
      rwa [List.getElem?_take_of_lt hi, List.getElem?_drop] at this
  have c1 := Lib.hid (contains_any w (some ⟨g, offOf bs.length a, none⟩) r (bs.length - a) _ v true hl.symm (RowB.piece h a r ho) (by omega) hb)
  rw [offOf_lt ho (by omega)] at c1
  have q1 : decide ((r : Int) < 1) = false := by simp; omega
  have q2 : decide ((a : Int) < 0) = false := by simp
  have q3 : decide ((bs.length : Int) ≤ (a : Int)) = false := by simp; omega
  have q4 : decide ((bs.length : Int) - (a : Int) < (r : Int)) = false := by simp; omega
  have q5 : ¬ bs.length = a := by omega
  have q6 : a + r - a = r := by omega
  clear hb hno hl
  go_enter Try.func43, Try.ntmps43
  go_wp2_with fail
  (with_reducible refine c1.out.mono ?_)
  rintro e w' ⟨rfl, rfl⟩
  go_wp2_with fail
  go_ret2
  exact ⟨rfl, rfl⟩
theorem row_ok (w : World) (p g : Nat) (bs : List Bool) (l : Int) (h : MarkR w p g bs l) (a r : Nat) (no : Int) (v : Bool) (hr : 1 ≤ r) (ho : a + r ≤ bs.length) (hall : AllAt bs a r (!v)) :
    Calls Try.prog 43 #[.pointer (some ⟨p, 0, none⟩), .int .i64 a, .int .i64 r, .bool v, .int .i64 no] w fun e w' => e = .returned (.tuple #[.slice (some ⟨g, a, none⟩) r (bs.length - a), .int .i64 0]) ∧ w = w' := by
  have h1 := h.1.cell
  have h2 := h.2.2
  have hl : ((bs.drop a).take r).length = r := by simp; omega
  have hb : decide (fi v ((bs.drop a).take r) < ((bs.drop a).take r).length) = false := by
    have := fi_all v ((bs.drop a).take r) (fun j hj => by
      rw [List.getElem?_take_of_lt (by omega), List.getElem?_drop, hall j (by omega)]; rfl)
    rw [this]; simp
  have c1 := Lib.hid (contains_any w (some ⟨g, offOf bs.length a, none⟩) r (bs.length - a) _ v false hl.symm (RowB.piece h a r ho) (by omega) hb)
  rw [offOf_lt ho (by omega)] at c1
  have q1 : decide ((r : Int) < 1) = false := by simp; omega
  have q2 : decide ((a : Int) < 0) = false := by simp
  have q3 : decide ((bs.length : Int) ≤ (a : Int)) = false := by simp; omega
  have q4 : decide ((bs.length : Int) - (a : Int) < (r : Int)) = false := by simp; omega
  have q5 : ¬ bs.length = a := by omega
  have q6 : a + r - a = r := by omega
  clear hb hall hl
  go_enter Try.func43, Try.ntmps43
  go_wp2_with fail
  (with_reducible refine c1.out.mono ?_)
  rintro e w' ⟨rfl, rfl⟩
  go_wp2_with fail
  go_ret2
  exact ⟨ret_sli (by omega) (by omega), rfl⟩
/-- A row of r places from a on is v. -/
def put (bs : List Bool) (a r : Nat) (v : Bool) : List Bool := splice bs a (List.replicate r v)
theorem length_put (bs : List Bool) (a r : Nat) (v : Bool) (h : a + r ≤ bs.length) : (put bs a r v).length = bs.length := length_splice _ _ _ (by simpa using h)
theorem put_get (bs : List Bool) (a r : Nat) (v : Bool) (h : a + r ≤ bs.length) (i : Nat) : (put bs a r v)[i]? = if a ≤ i ∧ i < a + r then some v else bs[i]? := by
  unfold put
  rw [splice_get _ _ _ (by simpa using h)]
  simp only [List.length_replicate]
  by_cases h1 : i < a
  · rw [if_pos h1, if_neg (by omega)]
  · rw [if_neg h1]
    by_cases h2 : i < a + r
    · rw [if_pos h2, if_pos ⟨by omega, h2⟩, List.getElem?_replicate, if_pos (by omega)]
    · rw [if_neg h2, if_neg (by omega)]
theorem put_snoc (bs : List Bool) (a k : Nat) (v : Bool) (h : a + k < bs.length) : (put bs a k v).set (a + k) v = put bs a (k + 1) v := by
  unfold put
  have := splice_snoc bs a (List.replicate k v) v (by simpa using h)
  rw [List.length_replicate] at this
  rw [this, List.replicate_succ']
theorem put_zero (bs : List Bool) (a : Nat) (v : Bool) : put bs a 0 v = bs := by simp [put, splice]
set_option maxHeartbeats 1000000 in
theorem set_any (w : World) (p g : Nat) (bs : List Bool) (l : Int) (h : MarkR w p g bs l) (a r : Nat) (c : Nat) (v : Bool) (ho : a + r ≤ bs.length) (hl : 0 ≤ l ∧ l ≤ 256) :
    Calls Try.prog 44 #[.pointer (some ⟨p, 0, none⟩), .slice (some ⟨g, a, none⟩) r c, .bool v] w fun e w' => e = .returned (.tuple #[]) ∧ MarkR w' p g (put bs a r v) (if v then l - r else l + r) ∧ Kept [p, g] w w' := by
  have HM := Lib.hid h
  have hb := h.2.2
  clear h
  go_enter Try.func44, Try.ntmps44
  go_wp2
  go_loopw [9] (fun i wr => ∃ k : Nat, k ≤ r ∧ i = .int .i64 k ∧ Hid (MarkR wr p g (put bs a k v) l) ∧ Kept [p, g] w wr) (fun i _ => r - (intOf i).toNat)
  case atStart => exact ⟨0, Nat.zero_le _, rfl, Lib.hid (by rw [put_zero]; exact HM.out), Kept.refl _ _⟩
  case round =>
    obtain ⟨k, hk, rfl, hm, hkw⟩ := hrel
    by_cases hlt : k < r
    · have hlen := length_put bs a k v (by omega)
      have hcell := (hm.out.2.1.cell (a + k)).trans (cellsB_lt (by omega))
      have hfr := hm.out.2.1.frozen (a + k)
      have HN : Hid (MarkR (wr.setCell ⟨g, a + k, none⟩ (.bool v)) p g (put bs a (k + 1) v) l) := Lib.hid (by rw [← put_snoc bs a k v (by omega)]; exact hm.out.setB (a + k) v)
      clear hlen
      go_wp2
      go_roundw
      case rel => exact ⟨k + 1, by omega, by go_num, HN, hkw.setIn (by simp) _⟩
      case measure => simp [intOf]; omega
    · obtain rfl : k = r := by omega
      have hcell := hm.out.1.cell
      have hfr := hm.out.1.frozen
      cases v with
      | true =>
        have HN := Lib.hid (hm.out.setL (l - (k : Int)))
        go_wp2
        go_end0
        exact ⟨rfl, HN.out, hkw.setIn (by simp) _⟩
      | false =>
        have HN := Lib.hid (hm.out.setL (l + (k : Int)))
        go_wp2
        go_end0
        exact ⟨rfl, HN.out, hkw.setIn (by simp) _⟩
end Go.Proofs.Ytekblfnemcaaeaa
