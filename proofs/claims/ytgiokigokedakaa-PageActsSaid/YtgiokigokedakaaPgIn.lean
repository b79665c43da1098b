/- `in`; the number of a block of a run. -/
import Derived.Test.YtgiokigokedakaaPgRun
import Derived.Test.YtgiokigokedakaaGeo
set_option linter.unusedVariables false
set_option linter.unusedSimpArgs false
namespace Go.Proofs.Ytgiokigokedakaa
open Go.RowKit
theorem index_bl (Z N i : Nat) (hZ : 1 ≤ Z ∧ Z ≤ 256) (hN : N ≤ 60) (hi : i < N) (x : Nat) (hx : x = 1024 + i * Z) (w : World) : Calls Try.prog 14 #[.agg #[.int .u64 1024, .int .u64 (Z : Int), .int .i64 (N : Int)], .int .u64 (x : Int)] w fun e w' => e = .returned (.tuple #[.int .i64 (i : Int), .int .i64 0]) ∧ Kept [] w w' := by
  subst hx
  have h := index_any 1024 (Z : Int) (N : Int) ((1024 + i * Z : Nat) : Int) (by omega) (by omega) (by omega) w
  have hb1 : N * Z ≤ 60 * 256 := Nat.mul_le_mul hN hZ.2
  have hb2 : i * Z + Z ≤ N * Z := by rw [← Nat.succ_mul]; exact Nat.mul_le_mul_right Z hi
  have hm : MayP 1024 (Z : Int) (N : Int) := by
    unfold MayP
    have : ((N * Z : Nat) : Int) = (N : Int) * (Z : Int) := Int.natCast_mul N Z
    omega
  have e0 : ((1024 + i * Z : Nat) : Int) - 1024 = (i : Int) * (Z : Int) := by
    have : ((i * Z : Nat) : Int) = (i : Int) * (Z : Int) := Int.natCast_mul i Z
    omega
  have e1 : idxE 1024 (Z : Int) (N : Int) ((1024 + i * Z : Nat) : Int) = 0 := by
    unfold idxE
    rw [if_pos hm, if_neg, if_neg]
    · rw [e0, Int.mul_emod_left]; omega
    · have : ((N * Z : Nat) : Int) = (N : Int) * (Z : Int) := Int.natCast_mul N Z
      omega
  have e2 : idxV 1024 (Z : Int) (N : Int) ((1024 + i * Z : Nat) : Int) = i := by
    unfold idxV
    rw [if_pos e1, e0]
    exact Int.mul_ediv_cancel _ (by omega)
  rw [e1, e2] at h
  exact h
theorem freeL_is : ∀ (xs : List Nat) (a : PgA), (a.freeL xs).fr = a.fr ∧ (a.freeL xs).lo = xs.reverse ++ a.lo ∧ (a.freeL xs).po = a.po ∧ (a.freeL xs).made = a.made ∧ (a.freeL xs).N = a.N := by
  intro xs
  induction xs with
  | nil => intro a; exact ⟨rfl, rfl, rfl, rfl, rfl⟩
  | cons x xs ih =>
    intro a
    obtain ⟨h1, h2, h3, h4, h5⟩ := ih (a.free1 x)
    refine ⟨h1, ?_, h3, h4, h5⟩
    show ((a.free1 x).freeL xs).lo = _
    rw [h2, List.reverse_cons, List.append_assoc]
    rfl
theorem freeL_len : ∀ (xs : List Nat) (a : PgA), xs.Nodup → (∀ x, x ∈ xs → x ∈ a.us) → (a.freeL xs).us.length + xs.length = a.us.length := by
  intro xs
  induction xs with
  | nil => intro a _ _; rfl
  | cons x xs ih =>
    intro a hn hm
    obtain ⟨hx, hn'⟩ := List.nodup_cons.1 hn
    have hxu := hm x (by simp)
    have h1 : (a.free1 x).us = a.us.erase x := rfl
    have := ih (a.free1 x) hn' (fun y hy => by
      rw [h1]
      exact (List.mem_erase_of_ne (fun e => hx (by rw [← e]; exact hy))).2 (hm y (by simp [hy])))
    show ((a.free1 x).freeL xs).us.length + (xs.length + 1) = _
    rw [h1, List.length_erase_of_mem hxu] at this
    have hp : 0 < a.us.length := List.length_pos_of_mem hxu
    omega
set_option maxRecDepth 100000 in
set_option maxHeartbeats 4000000 in
theorem inlist_any (A : Option Addr) (c : Nat) (zs : List Int) (w : World) (hr : RowX .u64 w A zs) (hn : zs.length ≤ 1000000) (x : Int) (b : Bool) (hb : b = decide (x ∈ zs)) :
    Calls Try.prog 17 #[.slice A zs.length c, .int .u64 x] w fun e w' => e = .returned (.bool b) ∧ Kept [] w w' := by
  have HR := Lib.hid hr
  have HB := Lib.hid hb
  clear hr hb
  go_enter Try.func17, Try.ntmps17
  go_wp2_with fail
  go_loopw [9] (fun v wr => ∃ i : Nat, i ≤ zs.length ∧ v = .int .i64 i ∧ Hid (∀ j, j < i → zs[j]?.getD 0 ≠ x) ∧ Kept [] w wr) (fun v _ => (zs.length - intOf v).toNat)
  case atStart => exact ⟨0, Nat.zero_le _, rfl, Lib.hid (fun j h => by omega), Kept.refl _ _⟩
  case round =>
    obtain ⟨i, hi, rfl, hno, hk⟩ := hrel
    by_cases hl : i < zs.length
    · obtain ⟨a, rfl, hb, hc⟩ := HR.out (by omega)
      have c0 : wr.cell? (a.add i) = some (.int .u64 (zs[i]?.getD 0)) := (World.cell?_of_block (by rw [add_block]; exact hk.block a.block hb (by simp))).trans (hc i hl)
      have hbr : a.block < wr.heap.size := Nat.lt_of_lt_of_le hb hk.size
      have HM : Hid (zs[i]?.getD 0 ∈ zs) := Lib.hid (by rw [List.getElem?_eq_getElem hl]; exact List.getElem_mem hl)
      obtain ⟨y, hy⟩ : ∃ y, zs[i]?.getD 0 = y := ⟨_, rfl⟩
      rw [hy] at c0 HM
      have HY := Lib.hid hy
      have di : decide ((i : Int) < (zs.length : Int)) = true := by simp; omega
      have q1 : (0 : Int) ≤ (i : Int) := by omega
      clear hc hy
      by_cases he : x = y
      · have hbt : b = true := by rw [HB.out, he]; simpa using HM.out
        have e0 : (x == y) = true := by rw [he]; simp
        subst hbt
        clear he
        go_wp2_with fail
        go_ret
        exact ⟨rfl, hk⟩
      · have e0 : (x == y) = false := by rw [beq_eq_false_iff_ne]; exact he
        have HN := Lib.hid he
        clear he
        go_wp2_with fail
        go_roundw
        case rel => exact ⟨i + 1, by omega, by go_num, Lib.hid (fun j hj => by
          rcases Nat.lt_or_ge j i with h | h
          · exact hno.out j h
          · obtain rfl : j = i := by omega
            rw [HY.out]; exact fun h => HN.out h.symm), hk⟩
        case measure => simp [intOf]; omega
    · obtain rfl : i = zs.length := by omega
      have hbf : b = false := by
        rw [HB.out]
        simp only [decide_eq_false_iff_not]
        intro hx
        obtain ⟨j, hj, hv⟩ := List.getElem_of_mem hx
        have := hno.out j hj
        rw [List.getElem?_eq_getElem hj] at this
        exact this hv
      subst hbf
      go_wp2_with fail
      go_ret
      exact ⟨rfl, hk⟩
end Go.Proofs.Ytgiokigokedakaa
