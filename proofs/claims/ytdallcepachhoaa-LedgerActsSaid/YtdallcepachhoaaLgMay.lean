/- A block's end; whether it may be. -/
import Derived.Test.YtdallcepachhoaaLgIns3
import Derived.Test.YtdallcepachhoaaOnes
set_option linter.unusedVariables false
set_option linter.unusedSimpArgs false
namespace Go.Proofs.Ytdallcepachhoaa
open Go.RowKit
/-- What a block takes. -/
def mx (n : Int) : Int := if n < 1 then 1 else n
theorem mx_pos {n : Int} (h : 0 ≤ n) : 1 ≤ mx n ∧ n ≤ mx n ∧ (n = 0 ∧ mx n = 1 ∨ 1 ≤ n ∧ mx n = n) := by
  unfold mx
  split <;> omega
theorem end_any (a n l : Int) (h : Bool) (w : World) (h1 : 0 ≤ a ∧ a ≤ 1048576) (h2 : 0 ≤ n ∧ n ≤ 1048576) (r : Int) (hr : a + mx n = r) :
    Calls Try.prog 25 #[.agg #[.int .u64 a, .int .u64 n, .int .u64 l, .bool h]] w fun e w' => e = .returned (.int .u64 r) ∧ Kept [] w w' := by
  subst hr
  unfold mx
  rcases Int.lt_or_le n 1 with h3 | h3
  · rw [if_pos h3]
    go_enter Try.func25, Try.ntmps25
    go_wp2_with fail
    go_ret
    exact ⟨rfl, by (repeat' (first | (with_reducible exact Kept.refl _ _) | (with_reducible assumption) | (with_reducible refine Kept.then_ (by with_reducible assumption) ?_) | (with_reducible refine Kept.thenS (by with_reducible assumption) ?_) | (with_reducible refine Kept.alloc ?_ _) | (with_reducible refine Kept.drew ?_) | (with_reducible refine Kept.drewN ?_ _) | (with_reducible refine Kept.setNew ?_ ?_ _) | ((try simp only [World.size_alloc, World.size_setCell, World.size_drew, size_drewN] at *); (try dsimp only); omega)))⟩
  · rw [if_neg (by omega)]
    rcases Int.lt_or_le 1 n with h4 | h4
    · go_enter Try.func25, Try.ntmps25
      go_wp2_with fail
      go_ret
      exact ⟨rfl, by (repeat' (first | (with_reducible exact Kept.refl _ _) | (with_reducible assumption) | (with_reducible refine Kept.then_ (by with_reducible assumption) ?_) | (with_reducible refine Kept.thenS (by with_reducible assumption) ?_) | (with_reducible refine Kept.alloc ?_ _) | (with_reducible refine Kept.drew ?_) | (with_reducible refine Kept.drewN ?_ _) | (with_reducible refine Kept.setNew ?_ ?_ _) | ((try simp only [World.size_alloc, World.size_setCell, World.size_drew, size_drewN] at *); (try dsimp only); omega)))⟩
    · obtain rfl : n = 1 := by omega
      go_enter Try.func25, Try.ntmps25
      go_wp2_with fail
      go_ret
      exact ⟨rfl, by (repeat' (first | (with_reducible exact Kept.refl _ _) | (with_reducible assumption) | (with_reducible refine Kept.then_ (by with_reducible assumption) ?_) | (with_reducible refine Kept.thenS (by with_reducible assumption) ?_) | (with_reducible refine Kept.alloc ?_ _) | (with_reducible refine Kept.drew ?_) | (with_reducible refine Kept.drewN ?_ _) | (with_reducible refine Kept.setNew ?_ ?_ _) | ((try simp only [World.size_alloc, World.size_setCell, World.size_drew, size_drewN] at *); (try dsimp only); omega)))⟩
/-- A block that may be. -/
def May (a n l : Int) : Prop := n ≤ 1048576 ∧ a ≤ 1048576 ∧ a + mx n ≤ 1048576 ∧ IsPow l ∧ l ≤ 1024 ∧ a % l = 0
noncomputable instance (a n l : Int) : Decidable (May a n l) := Classical.propDecidable _
theorem and_pow (a l : Int) (h0 : 0 ≤ a ∧ a ≤ 1048576) (hl : l ≤ 1024) (hp : IsPow l) : bits .and .u64 a (l - 1) = a % l := by
  obtain ⟨i, hi, rfl⟩ := hp
  obtain ⟨n, rfl⟩ := Int.eq_ofNat_of_zero_le h0.1
  have e2 : ((2 ^ i : Nat) : Int) = 2 ^ i := by simp
  have hpos : 0 < 2 ^ i := Nat.two_pow_pos i
  have hl' : 2 ^ i ≤ 1024 := by rw [← e2] at hl; omega
  have e1 : (2 : Int) ^ i - 1 = ((2 ^ i - 1 : Nat) : Int) := by rw [← e2]; omega
  rw [e1, ← e2]
  have o : ∀ a : Nat, a < 18446744073709551616 → (BitVec.ofInt 64 (a : Int)).toNat = a := fun a ha => by
    rw [BitVec.ofInt_natCast, BitVec.toNat_ofNat]; exact Nat.mod_eq_of_lt (by omega)
  show IntKind.u64.wrap ((BitVec.ofInt 64 (n : Int) &&& BitVec.ofInt 64 ((2 ^ i - 1 : Nat) : Int)).toNat : Int) = _
  rw [BitVec.toNat_and, o n (by omega), o (2 ^ i - 1) (by omega), Nat.and_two_pow_sub_one_eq_mod, IntKind.wrap_u64]
  have hm := Nat.mod_lt n hpos
  omega
set_option maxHeartbeats 2000000 in
theorem may_any (a n l : Int) (w : World) (h1 : 0 ≤ a ∧ a ≤ 18446744073709551615) (h2 : 0 ≤ n ∧ n ≤ 18446744073709551615) (h3 : 0 ≤ l ∧ l ≤ 18446744073709551615) (b : Bool) (hb : decide (May a n l) = b) :
    Calls Try.prog 26 #[.agg #[.int .u64 a, .int .u64 n, .int .u64 l]] w fun e w' => e = .returned (.bool b) ∧ Kept [] w w' := by
  by_cases k1 : n ≤ 1048576
  · by_cases k2 : a ≤ 1048576
    · have DE := Lib.hid (fun w => end_any a n l false w ⟨h1.1, k2⟩ ⟨h2.1, k1⟩ _ rfl)
      have DP := Lib.hid (fun w => pow2_any l h3.1 h3.2 w)
      have q1 : decide (n ≤ 1048576) = true := by simp; omega
      have q2 : decide (a ≤ 1048576) = true := by simp; omega
      by_cases k3 : a + mx n ≤ 1048576
      · have q3 : decide (a + mx n ≤ 1048576) = true := by simp; omega
        by_cases k4 : IsPow l
        · rw [decide_eq_true k4] at DP
          by_cases k5 : l ≤ 1024
          · have q5 : decide (l ≤ 1024) = true := by simp; omega
            have hand := and_pow a l ⟨h1.1, k2⟩ k5 k4
            have hl1 : 1 ≤ l := by
              obtain ⟨i, _, rfl⟩ := k4
              have : ((2 ^ i : Nat) : Int) = 2 ^ i := by simp
              have := Nat.two_pow_pos i
              omega
            obtain ⟨r, hr⟩ : ∃ r, a % l = r := ⟨_, rfl⟩
            rw [hr] at hand
            have HB : Hid (decide (r = 0) = b) := Lib.hid (by
              rw [← hb, decide_eq_decide]
              unfold May
              rw [hr]
              exact ⟨fun h => ⟨k1, k2, k3, k4, k5, h⟩, fun h => h.2.2.2.2.2⟩)
            generalize a + mx n = en at *
            by_cases k6 : r = 0
            · rw [decide_eq_true k6] at HB
              obtain rfl : true = b := HB.out
              subst k6
              clear hb HB hr
              go_enter Try.func26, Try.ntmps26
              go_wp2_with fail
              (with_reducible refine (DE.out _).mono ?_)
              rintro e w1 ⟨rfl, hb1⟩
              have B1 : Blk w1 w.heap.size 33 #[.int .u64 a, .int .u64 n, .int .u64 l] := (Blk.new w _ _).keep0 hb1
              have B1c := B1.cell
              have B1l := B1.lt
              go_wp2_with fail
              (with_reducible refine (DP.out _).mono ?_)
              rintro e w2 ⟨rfl, hb2⟩
              have B2 := B1.keep0 hb2
              have B2c := B2.cell
              have B2l := B2.lt
              go_wp2_with fail
              go_ret
              exact ⟨rfl, by (repeat' (first | (with_reducible exact Kept.refl _ _) | (with_reducible assumption) | (with_reducible refine Kept.then_ (by with_reducible assumption) ?_) | (with_reducible refine Kept.thenS (by with_reducible assumption) ?_) | (with_reducible refine Kept.alloc ?_ _) | (with_reducible refine Kept.drew ?_) | (with_reducible refine Kept.drewN ?_ _) | (with_reducible refine Kept.setNew ?_ ?_ _) | ((try simp only [World.size_alloc, World.size_setCell, World.size_drew, size_drewN] at *); (try dsimp only); omega)))⟩
            · rw [decide_eq_false k6] at HB
              obtain rfl : false = b := HB.out
              have q6 : (r == 0) = false := by rw [beq_eq_false_iff_ne]; exact k6
              clear hb HB hr
              go_enter Try.func26, Try.ntmps26
              go_wp2_with fail
              (with_reducible refine (DE.out _).mono ?_)
              rintro e w1 ⟨rfl, hb1⟩
              have B1 : Blk w1 w.heap.size 33 #[.int .u64 a, .int .u64 n, .int .u64 l] := (Blk.new w _ _).keep0 hb1
              have B1c := B1.cell
              have B1l := B1.lt
              go_wp2_with fail
              (with_reducible refine (DP.out _).mono ?_)
              rintro e w2 ⟨rfl, hb2⟩
              have B2 := B1.keep0 hb2
              have B2c := B2.cell
              have B2l := B2.lt
              go_wp2_with fail
              go_ret
              exact ⟨rfl, by (repeat' (first | (with_reducible exact Kept.refl _ _) | (with_reducible assumption) | (with_reducible refine Kept.then_ (by with_reducible assumption) ?_) | (with_reducible refine Kept.thenS (by with_reducible assumption) ?_) | (with_reducible refine Kept.alloc ?_ _) | (with_reducible refine Kept.drew ?_) | (with_reducible refine Kept.drewN ?_ _) | (with_reducible refine Kept.setNew ?_ ?_ _) | ((try simp only [World.size_alloc, World.size_setCell, World.size_drew, size_drewN] at *); (try dsimp only); omega)))⟩
          · have q5 : decide (l ≤ 1024) = false := by simp; omega
            obtain rfl : false = b := by rw [← hb]; exact (decide_eq_false (fun h => k5 h.2.2.2.2.1)).symm
            generalize a + mx n = en at *
            clear hb
            go_enter Try.func26, Try.ntmps26
            go_wp2_with fail
            (with_reducible refine (DE.out _).mono ?_)
            rintro e w1 ⟨rfl, hb1⟩
            have B1 : Blk w1 w.heap.size 33 #[.int .u64 a, .int .u64 n, .int .u64 l] := (Blk.new w _ _).keep0 hb1
            have B1c := B1.cell
            have B1l := B1.lt
            go_wp2_with fail
            (with_reducible refine (DP.out _).mono ?_)
            rintro e w2 ⟨rfl, hb2⟩
            have B2 := B1.keep0 hb2
            have B2c := B2.cell
            have B2l := B2.lt
            go_wp2_with fail
            go_ret
            exact ⟨rfl, by (repeat' (first | (with_reducible exact Kept.refl _ _) | (with_reducible assumption) | (with_reducible refine Kept.then_ (by with_reducible assumption) ?_) | (with_reducible refine Kept.thenS (by with_reducible assumption) ?_) | (with_reducible refine Kept.alloc ?_ _) | (with_reducible refine Kept.drew ?_) | (with_reducible refine Kept.drewN ?_ _) | (with_reducible refine Kept.setNew ?_ ?_ _) | ((try simp only [World.size_alloc, World.size_setCell, World.size_drew, size_drewN] at *); (try dsimp only); omega)))⟩
        · rw [decide_eq_false k4] at DP
          obtain rfl : false = b := by rw [← hb]; exact (decide_eq_false (fun h => k4 h.2.2.2.1)).symm
          generalize a + mx n = en at *
          clear hb k4
          go_enter Try.func26, Try.ntmps26
          go_wp2_with fail
          (with_reducible refine (DE.out _).mono ?_)
          rintro e w1 ⟨rfl, hb1⟩
          have B1 : Blk w1 w.heap.size 33 #[.int .u64 a, .int .u64 n, .int .u64 l] := (Blk.new w _ _).keep0 hb1
          have B1c := B1.cell
          have B1l := B1.lt
          go_wp2_with fail
          (with_reducible refine (DP.out _).mono ?_)
          rintro e w2 ⟨rfl, hb2⟩
          have B2 := B1.keep0 hb2
          have B2c := B2.cell
          have B2l := B2.lt
          go_wp2_with fail
          go_ret
          exact ⟨rfl, by (repeat' (first | (with_reducible exact Kept.refl _ _) | (with_reducible assumption) | (with_reducible refine Kept.then_ (by with_reducible assumption) ?_) | (with_reducible refine Kept.thenS (by with_reducible assumption) ?_) | (with_reducible refine Kept.alloc ?_ _) | (with_reducible refine Kept.drew ?_) | (with_reducible refine Kept.drewN ?_ _) | (with_reducible refine Kept.setNew ?_ ?_ _) | ((try simp only [World.size_alloc, World.size_setCell, World.size_drew, size_drewN] at *); (try dsimp only); omega)))⟩
      · have q3 : decide (a + mx n ≤ 1048576) = false := by simp; omega
        obtain rfl : false = b := by rw [← hb]; exact (decide_eq_false (fun h => k3 h.2.2.1)).symm
        generalize a + mx n = en at *
        clear hb
        go_enter Try.func26, Try.ntmps26
        go_wp2_with fail
        (with_reducible refine (DE.out _).mono ?_)
        rintro e w1 ⟨rfl, hb1⟩
        have B1 : Blk w1 w.heap.size 33 #[.int .u64 a, .int .u64 n, .int .u64 l] := (Blk.new w _ _).keep0 hb1
        have B1c := B1.cell
        have B1l := B1.lt
        go_wp2_with fail
        go_ret
        exact ⟨rfl, by (repeat' (first | (with_reducible exact Kept.refl _ _) | (with_reducible assumption) | (with_reducible refine Kept.then_ (by with_reducible assumption) ?_) | (with_reducible refine Kept.thenS (by with_reducible assumption) ?_) | (with_reducible refine Kept.alloc ?_ _) | (with_reducible refine Kept.drew ?_) | (with_reducible refine Kept.drewN ?_ _) | (with_reducible refine Kept.setNew ?_ ?_ _) | ((try simp only [World.size_alloc, World.size_setCell, World.size_drew, size_drewN] at *); (try dsimp only); omega)))⟩
    · have q1 : decide (n ≤ 1048576) = true := by simp; omega
      have q2 : decide (a ≤ 1048576) = false := by simp; omega
      obtain rfl : false = b := by rw [← hb]; exact (decide_eq_false (fun h => k2 h.2.1)).symm
      clear hb
      go_enter Try.func26, Try.ntmps26
      go_wp2_with fail
      go_ret
      exact ⟨rfl, by (repeat' (first | (with_reducible exact Kept.refl _ _) | (with_reducible assumption) | (with_reducible refine Kept.then_ (by with_reducible assumption) ?_) | (with_reducible refine Kept.thenS (by with_reducible assumption) ?_) | (with_reducible refine Kept.alloc ?_ _) | (with_reducible refine Kept.drew ?_) | (with_reducible refine Kept.drewN ?_ _) | (with_reducible refine Kept.setNew ?_ ?_ _) | ((try simp only [World.size_alloc, World.size_setCell, World.size_drew, size_drewN] at *); (try dsimp only); omega)))⟩
  · have q1 : decide (n ≤ 1048576) = false := by simp; omega
    obtain rfl : false = b := by rw [← hb]; exact (decide_eq_false (fun h => k1 h.1)).symm
    clear hb
    go_enter Try.func26, Try.ntmps26
    go_wp2_with fail
    go_ret
    exact ⟨rfl, by (repeat' (first | (with_reducible exact Kept.refl _ _) | (with_reducible assumption) | (with_reducible refine Kept.then_ (by with_reducible assumption) ?_) | (with_reducible refine Kept.thenS (by with_reducible assumption) ?_) | (with_reducible refine Kept.alloc ?_ _) | (with_reducible refine Kept.drew ?_) | (with_reducible refine Kept.drewN ?_ _) | (with_reducible refine Kept.setNew ?_ ?_ _) | ((try simp only [World.size_alloc, World.size_setCell, World.size_drew, size_drewN] at *); (try dsimp only); omega)))⟩
end Go.Proofs.Ytdallcepachhoaa
