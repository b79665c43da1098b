/- The document's roundings: Pow2, Up, Down. -/
import Derived.Test.YtnooelpdoeijbaaLongC
set_option linter.unusedVariables false
set_option linter.unusedSimpArgs false
namespace Go.Proofs.Ytnooelpdoeijbaa
open Go.RowKit
theorem isPow_half {y : Int} (h1 : 1 < y) (h2 : y % 2 = 0) (h64 : y < 18446744073709551616) : IsPow y ↔ IsPow (y / 2) := by
  constructor
  · rintro ⟨i, hi, rfl⟩
    cases i with
    | zero => simp at h1
    | succ i => exact ⟨i, by omega, by rw [Int.pow_succ]; omega⟩
  · rintro ⟨i, hi, he⟩
    refine ⟨i + 1, ?_, by rw [Int.pow_succ, ← he]; omega⟩
    rcases Nat.lt_or_ge (i + 1) 64 with h | h
    · exact h
    · obtain rfl : i = 63 := by omega
      have : (2 : Int) ^ 63 = 9223372036854775808 := by decide
      omega
theorem isPow_odd {y : Int} (h : ¬ (1 < y ∧ y % 2 = 0)) (h0 : 0 ≤ y) : IsPow y ↔ y = 1 := by
  constructor
  · rintro ⟨i, hi, rfl⟩
    cases i with
    | zero => rfl
    | succ i =>
      exfalso
      apply h
      rw [Int.pow_succ]
      have : 1 ≤ (2 : Int) ^ i := by
        have h : (0 : Int) < 2 ^ i := Int.pow_pos (by omega)
        omega
      omega
  · rintro rfl; exact ⟨0, by omega, rfl⟩
set_option maxHeartbeats 1000000 in
theorem refpow_any (x : Int) (h0 : 0 ≤ x) (h64 : x < 18446744073709551616) (w : World) :
    Calls Try.prog 19 #[.int .u64 x] w fun e w' => e = .returned (.bool (decide (IsPow x))) ∧ Kept [] w w' := by
  go_enter Try.func19, Try.ntmps19
  go_wp2_with fail
  go_loopw [0] (fun v wr => ∃ y : Int, v = .int .u64 y ∧ 0 ≤ y ∧ y < 18446744073709551616 ∧ Hid (IsPow x ↔ IsPow y) ∧ Kept [] w wr) (fun v _ => (intOf v).toNat)
  case atStart => exact ⟨x, rfl, h0, h64, Lib.hid Iff.rfl, Kept.refl _ _⟩
  case round =>
    obtain ⟨y, rfl, hy0, hy1, hy, hkw⟩ := hrel
    by_cases h1 : 1 < y
    · by_cases h2 : y % 2 = 0
      · have HY : Hid (IsPow x ↔ IsPow (y / 2)) := Lib.hid (hy.out.trans (isPow_half h1 h2 hy1))
        have hq : (y % 2 == 0) = true := by simpa using h2
        have hd : 0 ≤ y / 2 ∧ y / 2 < y := by omega
        clear h2
        go_wp2_with fail
        go_roundw
        case rel => exact ⟨y / 2, rfl, hd.1, by omega, HY, hkw⟩
        case measure => simp [intOf]; omega
      · have HY : Hid (decide (IsPow x) = decide (y = 1)) := Lib.hid (dec_iff (hy.out.trans (isPow_odd (by omega) hy0)))
        have hq : (y % 2 == 0) = false := by simpa using h2
        have hq2 : decide (y % 2 = 0) = false := by simpa using h2
        clear h2
        go_wp2_with fail
        go_ret
        exact ⟨ret_bool (by rw [HY.out]; rfl), hkw⟩
    · have HY : Hid (decide (IsPow x) = decide (y = 1)) := Lib.hid (dec_iff (hy.out.trans (isPow_odd (by omega) hy0)))
      have hq : decide (1 < y) = false := by simpa using h1
      go_wp2_with fail
      go_ret
      exact ⟨ret_bool (by rw [HY.out]; rfl), hkw⟩
theorem emod_le' {x a : Int} (h0 : 0 ≤ x) (ha : 1 ≤ a) : x % a ≤ x := by
  have h1 := Int.mul_ediv_add_emod x a
  have h2 : 0 ≤ a * (x / a) := Int.mul_nonneg (by omega) (Int.ediv_nonneg h0 (by omega))
  omega
theorem long64 {ds : List Int} (h : Canon ds) (h1 : dv ds < 18446744073709551616) : ds.length ≤ 5 := h.len (by
  have : P4 5 = 100000000000000000000 := by decide
  omega)
theorem up_eq (x a : Int) (ha : 1 ≤ a) : upV x a = (x - x % a) + (if 0 < x % a then a else 0) := by
  have h1 := Int.emod_nonneg x (show a ≠ 0 by omega)
  have h2 := Int.emod_lt_of_pos x (show 0 < a by omega)
  have h3 := Int.mul_ediv_add_emod x a
  unfold upV dnV
  generalize x / a = q at *
  generalize x % a = r at *
  subst h3
  split
  · have e : a * q + r + a - 1 = (r - 1) + a * (q + 1) := by rw [Int.mul_add]; omega
    rw [e, Int.add_mul_emod_self_left, Int.emod_eq_of_lt (by omega) (by omega), Int.mul_add]
    omega
  · obtain rfl : r = 0 := by omega
    have e : a * q + 0 + a - 1 = (a - 1) + a * q := by omega
    rw [e, Int.add_mul_emod_self_left, Int.emod_eq_of_lt (by omega) (by omega)]
    omega
set_option maxHeartbeats 1000000 in
theorem refdown_yes (x a : Int) (h0 : 0 ≤ x) (h64 : x < 18446744073709551616) (ha : IsPow a) (w : World) :
    Calls Try.prog 17 #[.int .u64 x, .int .u64 a] w fun e w' => e = .returned (.tuple #[.int .u64 (bkV (dnV x a)), .int .i64 (bkE (dnV x a))]) ∧ Kept [] w w' := by
  have hb := pow_bd ha
  have DP : Hid (∀ w, Calls Try.prog 19 #[.int .u64 a] w fun e w' => e = .returned (.bool true) ∧ Kept [] w w') := Lib.hid (fun w => by have := refpow_any a (by omega) (by omega) w; rwa [decide_eq_true ha] at this)
  have h1 := Int.emod_nonneg x (show a ≠ 0 by omega)
  have h2 := Int.emod_lt_of_pos x (show 0 < a by omega)
  have h3 := emod_le' h0 hb.1
  obtain ⟨r, hr⟩ : ∃ r, x % a = r := ⟨_, rfl⟩
  have HR := Lib.hid hr
  rw [hr] at h1 h2 h3
  have HD : Hid (dnV x a = x - r) := Lib.hid (by unfold dnV; rw [hr])
  rw [HD.out]
  obtain ⟨V, hV⟩ : ∃ V, x - r = V := ⟨_, rfl⟩
  have hV0 : 0 ≤ V ∧ V ≤ x := by omega
  rw [hV]
  have DO := Lib.hid (fun w => of_any V (by omega) (by omega) w)
  clear ha HR HD
  go_enter Try.func17, Try.ntmps17
  go_wp2_with fail
  (with_reducible refine (DP.out _).mono ?_)
  rintro e w1 ⟨rfl, hb1⟩
  go_wp2_with fail
  (with_reducible refine (DO.out _).mono ?_)
  rintro e w2 ⟨⟨A, n, c, ds, rfl, hc, hd, hl⟩, hb2⟩
  have DB : Hid (Calls Try.prog 32 #[.slice A n c] w2 fun e w' => e = .returned (.tuple #[.int .u64 (bkV V), .int .i64 (bkE V)]) ∧ Kept [] w2 w') := Lib.hid (by
    have := back_any A n c ds w2 hl hc
    rwa [hd] at this)
  clear hc hd hl
  go_wp2_with fail
  (with_reducible refine DB.out.mono ?_)
  rintro e w3 ⟨rfl, hb3⟩
  go_wp2_with fail
  go_ret2
  exact ⟨rfl, (hb1.trans0 hb2).trans0 hb3⟩
set_option maxHeartbeats 1000000 in
theorem refup_yes (x a : Int) (h0 : 0 ≤ x) (h64 : x < 18446744073709551616) (ha : IsPow a) (w : World) :
    Calls Try.prog 15 #[.int .u64 x, .int .u64 a] w fun e w' => e = .returned (.tuple #[.int .u64 (bkV (upV x a)), .int .i64 (bkE (upV x a))]) ∧ Kept [] w w' := by
  have hb := pow_bd ha
  have DP : Hid (∀ w, Calls Try.prog 19 #[.int .u64 a] w fun e w' => e = .returned (.bool true) ∧ Kept [] w w') := Lib.hid (fun w => by have := refpow_any a (by omega) (by omega) w; rwa [decide_eq_true ha] at this)
  have h1 := Int.emod_nonneg x (show a ≠ 0 by omega)
  have h2 := Int.emod_lt_of_pos x (show 0 < a by omega)
  have h3 := emod_le' h0 hb.1
  rw [up_eq x a hb.1]
  obtain ⟨r, hr⟩ : ∃ r, x % a = r := ⟨_, rfl⟩
  rw [hr] at h1 h2 h3 ⊢
  obtain ⟨V, hV⟩ : ∃ V, x - r = V := ⟨_, rfl⟩
  have hV0 : 0 ≤ V ∧ V ≤ x := by omega
  rw [hV]
  have DO := Lib.hid (fun w => of_any V (by omega) (by omega) w)
  have DA := Lib.hid (fun w => of_any a (by omega) (by omega) w)
  clear ha
  by_cases hr0 : 0 < r
  · rw [if_pos hr0]
    go_enter Try.func15, Try.ntmps15
    go_wp2_with fail
    (with_reducible refine (DP.out _).mono ?_)
    rintro e w1 ⟨rfl, hb1⟩
    go_wp2_with fail
    (with_reducible refine (DO.out _).mono ?_)
    rintro e w2 ⟨⟨A, n, c, ds, rfl, hc, hd, hl⟩, hb2⟩
    have HC := Lib.hid hc
    have HDD := Lib.hid hd
    have HLL := Lib.hid hl
    clear hc hd hl
    go_wp2_with fail
    (with_reducible refine (DA.out _).mono ?_)
    rintro e w3 ⟨⟨A', n', c', ds', rfl, hc', hd', hl'⟩, hb3⟩
    have DPL : Hid (Calls Try.prog 31 #[.slice A n c, .slice A' n' c'] w3 fun e w' => OfIs (V + a) e w' ∧ Kept [] w3 w') := Lib.hid (by
      have := plus_any A n c ds A' n' c' ds' w3 (HLL.out.keep hb3) hl' HC.out.1 hc'.1 (by have := long64 HC.out (by rw [HDD.out]; omega); have := HLL.out.1; omega) (by have := long64 hc' (by rw [hd']; omega); have := hl'.1; omega)
      rwa [HDD.out, hd'] at this)
    clear hc' hd' hl'
    go_wp2_with fail
    (with_reducible refine DPL.out.mono ?_)
    rintro e w4 ⟨⟨A4, n4, c4, d4, rfl, hc4, hd4, hl4⟩, hb4⟩
    have DB : Hid (Calls Try.prog 32 #[.slice A4 n4 c4] w4 fun e w' => e = .returned (.tuple #[.int .u64 (bkV (V + a)), .int .i64 (bkE (V + a))]) ∧ Kept [] w4 w') := Lib.hid (by
      have := back_any A4 n4 c4 d4 w4 hl4 hc4
      rwa [hd4] at this)
    clear hc4 hd4 hl4
    go_wp2_with fail
    (with_reducible refine DB.out.mono ?_)
    rintro e w5 ⟨rfl, hb5⟩
    go_wp2_with fail
    go_ret2
    exact ⟨rfl, (((hb1.trans0 hb2).trans0 hb3).trans0 hb4).trans0 hb5⟩
  · rw [if_neg hr0, Int.add_zero]
    have hq : decide (0 < r) = false := by simpa using hr0
    go_enter Try.func15, Try.ntmps15
    go_wp2_with fail
    (with_reducible refine (DP.out _).mono ?_)
    rintro e w1 ⟨rfl, hb1⟩
    go_wp2_with fail
    (with_reducible refine (DO.out _).mono ?_)
    rintro e w2 ⟨⟨A, n, c, ds, rfl, hc, hd, hl⟩, hb2⟩
    have DB : Hid (Calls Try.prog 32 #[.slice A n c] w2 fun e w' => e = .returned (.tuple #[.int .u64 (bkV V), .int .i64 (bkE V)]) ∧ Kept [] w2 w') := Lib.hid (by
      have := back_any A n c ds w2 hl hc
      rwa [hd] at this)
    clear hc hd hl
    go_wp2_with fail
    (with_reducible refine DB.out.mono ?_)
    rintro e w3 ⟨rfl, hb3⟩
    go_wp2_with fail
    go_ret2
    exact ⟨rfl, (hb1.trans0 hb2).trans0 hb3⟩
theorem refdown_no (x a : Int) (h0 : 0 ≤ a) (h64 : a < 18446744073709551616) (ha : ¬ IsPow a) (w : World) :
    Calls Try.prog 17 #[.int .u64 x, .int .u64 a] w fun e w' => e = .returned (.tuple #[.int .u64 0, .int .i64 2]) ∧ Kept [] w w' := by
  have DP : Hid (∀ w, Calls Try.prog 19 #[.int .u64 a] w fun e w' => e = .returned (.bool false) ∧ Kept [] w w') := Lib.hid (fun w => by have := refpow_any a (by omega) (by omega) w; rwa [decide_eq_false ha] at this)
  clear ha
  go_enter Try.func17, Try.ntmps17
  go_wp2_with fail
  (with_reducible refine (DP.out _).mono ?_)
  rintro e w1 ⟨rfl, hb1⟩
  go_wp2_with fail
  go_ret2
  exact ⟨rfl, hb1⟩
theorem refup_no (x a : Int) (h0 : 0 ≤ a) (h64 : a < 18446744073709551616) (ha : ¬ IsPow a) (w : World) :
    Calls Try.prog 15 #[.int .u64 x, .int .u64 a] w fun e w' => e = .returned (.tuple #[.int .u64 0, .int .i64 2]) ∧ Kept [] w w' := by
  have DP : Hid (∀ w, Calls Try.prog 19 #[.int .u64 a] w fun e w' => e = .returned (.bool false) ∧ Kept [] w w') := Lib.hid (fun w => by have := refpow_any a (by omega) (by omega) w; rwa [decide_eq_false ha] at this)
  clear ha
  go_enter Try.func15, Try.ntmps15
  go_wp2_with fail
  (with_reducible refine (DP.out _).mono ?_)
  rintro e w1 ⟨rfl, hb1⟩
  go_wp2_with fail
  go_ret2
  exact ⟨rfl, hb1⟩
end Go.Proofs.Ytnooelpdoeijbaa
