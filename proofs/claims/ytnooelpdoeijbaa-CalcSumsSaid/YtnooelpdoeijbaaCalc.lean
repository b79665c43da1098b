/- Rounding up and down at powers of two. -/
import Derived.Test.YtnooelpdoeijbaaOnes
import Derived.Laws.Externs
set_option linter.unusedVariables false
set_option linter.unusedSimpArgs false
namespace Go.Proofs.Ytnooelpdoeijbaa
open Go.RowKit
theorem add64_run (x y : Int) (hx : 0 ≤ x) (hy : 0 ≤ y) (w : World) : (callFunc 29 #[.int .u64 x, .int .u64 y, .int .u64 0]).run Try.prog w =
    .ok (.value (.tuple #[.int .u64 ((x + y) % 18446744073709551616), .int .u64 ((x + y) / 18446744073709551616)])) w := by
  rw [run_callFunc_extern Try.func29 (by kernel_rfl) (by kernel_rfl) (by kernel_rfl) (e := add64Entry) (by kernel_rfl), run_add64 x y 0 hx hy (by omega) (by omega)]
  simp only [Result.andThen, Int.add_zero]
theorem andNot_pow (n k : Nat) (hk : k < 64) (hn : n < 2 ^ 64) : n &&& (18446744073709551615 - (2 ^ k - 1)) = n - n % 2 ^ k := by
  have hp : 2 ^ k * 2 ^ (64 - k) = 2 ^ 64 := by rw [← Nat.pow_add]; congr 1; omega
  have h1 : 0 < 2 ^ k := Nat.two_pow_pos k
  have h2 : 0 < 2 ^ (64 - k) := Nat.two_pow_pos _
  have e : 18446744073709551615 - (2 ^ k - 1) = 2 ^ k * (2 ^ (64 - k) - 1) := by
    rw [Nat.mul_sub, hp]; omega
  rw [e]
  have hm : (n &&& 2 ^ k * (2 ^ (64 - k) - 1)) % 2 ^ k = 0 := by rw [Nat.and_mod_two_pow, Nat.mul_mod_right]; simp
  have hd : (n &&& 2 ^ k * (2 ^ (64 - k) - 1)) / 2 ^ k = n / 2 ^ k := by
    rw [Nat.and_div_two_pow, Nat.mul_div_cancel_left _ h1, Nat.and_two_pow_sub_one_eq_mod]
    exact Nat.mod_eq_of_lt (by rw [Nat.div_lt_iff_lt_mul h1, Nat.mul_comm, hp]; exact hn)
  have h3 := Nat.div_add_mod (n &&& 2 ^ k * (2 ^ (64 - k) - 1)) (2 ^ k)
  have h4 := Nat.div_add_mod n (2 ^ k)
  rw [hm, hd] at h3
  omega
theorem andNot_at (x a : Int) (hx : 0 ≤ x) (hx2 : x < 18446744073709551616) (ha : IsPow a) : bits .andNot .u64 x (a - 1) = x - x % a := by
  obtain ⟨k, hk, rfl⟩ := ha
  obtain ⟨n, rfl⟩ := Int.eq_ofNat_of_zero_le hx
  have h1 : 0 < 2 ^ k := Nat.two_pow_pos k
  have h2 : 2 ^ k ≤ 2 ^ 63 := Nat.pow_le_pow_right (by omega) (by omega)
  have e := u64_andNot_nat n (2 ^ k - 1) (by omega) (by omega)
  rw [andNot_pow n k hk (by omega)] at e
  have e2 : ((2 ^ k - 1 : Nat) : Int) = (2 : Int) ^ k - 1 := by rw [Int.natCast_sub (by omega)]; simp
  rw [e2] at e
  rw [e, Int.natCast_sub (Nat.mod_le _ _)]
  simp
theorem held_t (x : Int) (w : World) : Calls Try.prog 28 #[.int .u64 x, .bool true] w fun e w' => e = .returned (.tuple #[.int .u64 0, .int .i64 3]) ∧ Kept [] w w' := by
  go_enter Try.func28, Try.ntmps28
  go_wp2
  go_ret2
  exact ⟨rfl, by (repeat' (first | (with_reducible exact Kept.refl _ _) | (with_reducible assumption) | (with_reducible refine Kept.then_ (by with_reducible assumption) ?_) | (with_reducible refine Kept.thenS (by with_reducible assumption) ?_) | (with_reducible refine Kept.alloc ?_ _) | (with_reducible refine Kept.drew ?_) | (with_reducible refine Kept.drewN ?_ _) | (with_reducible refine Kept.setNew ?_ ?_ _) | ((try simp only [World.size_alloc, World.size_setCell, World.size_drew, size_drewN] at *); (try dsimp only); omega)))⟩
theorem held_in (x : Int) (h : x ≤ 1099511627776) (w : World) : Calls Try.prog 28 #[.int .u64 x, .bool false] w fun e w' => e = .returned (.tuple #[.int .u64 x, .int .i64 0]) ∧ Kept [] w w' := by
  go_enter Try.func28, Try.ntmps28
  go_wp2
  go_ret2
  exact ⟨rfl, by (repeat' (first | (with_reducible exact Kept.refl _ _) | (with_reducible assumption) | (with_reducible refine Kept.then_ (by with_reducible assumption) ?_) | (with_reducible refine Kept.thenS (by with_reducible assumption) ?_) | (with_reducible refine Kept.alloc ?_ _) | (with_reducible refine Kept.drew ?_) | (with_reducible refine Kept.drewN ?_ _) | (with_reducible refine Kept.setNew ?_ ?_ _) | ((try simp only [World.size_alloc, World.size_setCell, World.size_drew, size_drewN] at *); (try dsimp only); omega)))⟩
theorem held_out (x : Int) (h : 1099511627776 < x) (w : World) : Calls Try.prog 28 #[.int .u64 x, .bool false] w fun e w' => e = .returned (.tuple #[.int .u64 0, .int .i64 3]) ∧ Kept [] w w' := by
  go_enter Try.func28, Try.ntmps28
  go_wp2
  go_ret2
  exact ⟨rfl, by (repeat' (first | (with_reducible exact Kept.refl _ _) | (with_reducible assumption) | (with_reducible refine Kept.then_ (by with_reducible assumption) ?_) | (with_reducible refine Kept.thenS (by with_reducible assumption) ?_) | (with_reducible refine Kept.alloc ?_ _) | (with_reducible refine Kept.drew ?_) | (with_reducible refine Kept.drewN ?_ _) | (with_reducible refine Kept.setNew ?_ ?_ _) | ((try simp only [World.size_alloc, World.size_setCell, World.size_drew, size_drewN] at *); (try dsimp only); omega)))⟩
theorem pow_bd {a : Int} (h : IsPow a) : 1 ≤ a ∧ a ≤ 9223372036854775808 := by
  obtain ⟨k, hk, rfl⟩ := h
  have h1 : 0 < 2 ^ k := Nat.two_pow_pos k
  have h2 : 2 ^ k ≤ 2 ^ 63 := Nat.pow_le_pow_right (by omega) (by omega)
  have : ((2 ^ k : Nat) : Int) = (2 : Int) ^ k := by simp
  omega
theorem pow_dvd64 {a : Int} (h : IsPow a) : ∃ q : Int, a * q = 18446744073709551616 := by
  obtain ⟨k, hk, rfl⟩ := h
  refine ⟨2 ^ (64 - k), ?_⟩
  rw [← Int.pow_add]
  have : k + (64 - k) = 64 := by omega
  rw [this]; rfl
def dnV (x a : Int) : Int := x - x % a
def upV (x a : Int) : Int := dnV (x + a - 1) a
theorem dn_fact (x a : Int) (h : 1 ≤ a) : ∃ q, dnV x a = a * q ∧ a * q ≤ x ∧ x < a * q + a := by
  refine ⟨x / a, ?_, ?_⟩
  · unfold dnV
    have := Int.mul_ediv_add_emod x a
    omega
  · have := Int.mul_ediv_add_emod x a
    have := Int.emod_nonneg x (show a ≠ 0 by omega)
    have := Int.emod_lt_of_pos x (show 0 < a by omega)
    omega
theorem up_fact (x a : Int) (h : 1 ≤ a) : ∃ q, upV x a = a * q ∧ x ≤ a * q ∧ a * q < x + a := by
  obtain ⟨q, h1, h2, h3⟩ := dn_fact (x + a - 1) a h
  exact ⟨q, h1, by omega, by omega⟩
theorem notPow_any (a : Int) (a0 : 0 ≤ a) (a1 : a ≤ 18446744073709551615) (h : ¬ IsPow a) (w : World) : Calls Try.prog 18 #[.int .u64 a] w fun e w' => e = .returned (.bool false) ∧ Kept [] w w' := by
  have c := pow2_any a a0 a1 w
  rw [decide_eq_false h] at c
  exact c
theorem isPow_any (a : Int) (h : IsPow a) (w : World) : Calls Try.prog 18 #[.int .u64 a] w fun e w' => e = .returned (.bool true) ∧ Kept [] w w' := by
  have hb := pow_bd h
  have c := pow2_any a (by omega) (by omega) w
  rw [decide_eq_true h] at c
  exact c
theorem down_bad (x a : Int) (a0 : 0 ≤ a) (a1 : a ≤ 18446744073709551615) (h : ¬ IsPow a) (w : World) : Calls Try.prog 16 #[.int .u64 x, .int .u64 a] w fun e w' => e = .returned (.tuple #[.int .u64 0, .int .i64 2]) ∧ Kept [] w w' := by
  go_enter Try.func16, Try.ntmps16
  go_wp2_with fail
  (with_reducible refine (notPow_any a a0 a1 h _).mono ?_)
  rintro e w1 ⟨rfl, hb1⟩
  have hs1 := hb1.size
  (try simp only [World.size_alloc, World.size_setCell, World.size_drew, size_drewN] at hs1)
  go_wp2_with fail
  go_ret2
  exact ⟨rfl, by (repeat' (first | (with_reducible exact Kept.refl _ _) | (with_reducible assumption) | (with_reducible refine Kept.then_ (by with_reducible assumption) ?_) | (with_reducible refine Kept.thenS (by with_reducible assumption) ?_) | (with_reducible refine Kept.alloc ?_ _) | (with_reducible refine Kept.drew ?_) | (with_reducible refine Kept.drewN ?_ _) | (with_reducible refine Kept.setNew ?_ ?_ _) | ((try simp only [World.size_alloc, World.size_setCell, World.size_drew, size_drewN] at *); (try dsimp only); omega)))⟩
theorem up_bad (x a : Int) (a0 : 0 ≤ a) (a1 : a ≤ 18446744073709551615) (h : ¬ IsPow a) (w : World) : Calls Try.prog 14 #[.int .u64 x, .int .u64 a] w fun e w' => e = .returned (.tuple #[.int .u64 0, .int .i64 2]) ∧ Kept [] w w' := by
  go_enter Try.func14, Try.ntmps14
  go_wp2_with fail
  (with_reducible refine (notPow_any a a0 a1 h _).mono ?_)
  rintro e w1 ⟨rfl, hb1⟩
  have hs1 := hb1.size
  (try simp only [World.size_alloc, World.size_setCell, World.size_drew, size_drewN] at hs1)
  go_wp2_with fail
  go_ret2
  exact ⟨rfl, by (repeat' (first | (with_reducible exact Kept.refl _ _) | (with_reducible assumption) | (with_reducible refine Kept.then_ (by with_reducible assumption) ?_) | (with_reducible refine Kept.thenS (by with_reducible assumption) ?_) | (with_reducible refine Kept.alloc ?_ _) | (with_reducible refine Kept.drew ?_) | (with_reducible refine Kept.drewN ?_ _) | (with_reducible refine Kept.setNew ?_ ?_ _) | ((try simp only [World.size_alloc, World.size_setCell, World.size_drew, size_drewN] at *); (try dsimp only); omega)))⟩
theorem down_in (x a : Int) (x0 : 0 ≤ x) (x1 : x < 18446744073709551616) (h : IsPow a) (hv : dnV x a ≤ 1099511627776) (w : World) :
    Calls Try.prog 16 #[.int .u64 x, .int .u64 a] w fun e w' => e = .returned (.tuple #[.int .u64 (dnV x a), .int .i64 0]) ∧ Kept [] w w' := by
  have e := andNot_at x a x0 x1 h
  have hb := pow_bd h
  unfold dnV at hv ⊢
  generalize x - x % a = v at *
  go_enter Try.func16, Try.ntmps16
  go_wp2_with fail
  (with_reducible refine (isPow_any a h _).mono ?_)
  rintro e w1 ⟨rfl, hb1⟩
  have hs1 := hb1.size
  (try simp only [World.size_alloc, World.size_setCell, World.size_drew, size_drewN] at hs1)
  go_wp2_with fail
  (with_reducible refine (held_in _ hv _).mono ?_)
  rintro e w2 ⟨rfl, hb2⟩
  have hs2 := hb2.size
  (try simp only [World.size_alloc, World.size_setCell, World.size_drew, size_drewN] at hs2)
  go_wp2_with fail
  go_ret2
  exact ⟨rfl, by (repeat' (first | (with_reducible exact Kept.refl _ _) | (with_reducible assumption) | (with_reducible refine Kept.then_ (by with_reducible assumption) ?_) | (with_reducible refine Kept.thenS (by with_reducible assumption) ?_) | (with_reducible refine Kept.alloc ?_ _) | (with_reducible refine Kept.drew ?_) | (with_reducible refine Kept.drewN ?_ _) | (with_reducible refine Kept.setNew ?_ ?_ _) | ((try simp only [World.size_alloc, World.size_setCell, World.size_drew, size_drewN] at *); (try dsimp only); omega)))⟩
theorem down_out (x a : Int) (x0 : 0 ≤ x) (x1 : x < 18446744073709551616) (h : IsPow a) (hv : 1099511627776 < dnV x a) (w : World) :
    Calls Try.prog 16 #[.int .u64 x, .int .u64 a] w fun e w' => e = .returned (.tuple #[.int .u64 0, .int .i64 3]) ∧ Kept [] w w' := by
  have e := andNot_at x a x0 x1 h
  have hb := pow_bd h
  unfold dnV at hv
  generalize x - x % a = v at *
  go_enter Try.func16, Try.ntmps16
  go_wp2_with fail
  (with_reducible refine (isPow_any a h _).mono ?_)
  rintro e w1 ⟨rfl, hb1⟩
  have hs1 := hb1.size
  (try simp only [World.size_alloc, World.size_setCell, World.size_drew, size_drewN] at hs1)
  go_wp2_with fail
  (with_reducible refine (held_out _ hv _).mono ?_)
  rintro e w2 ⟨rfl, hb2⟩
  have hs2 := hb2.size
  (try simp only [World.size_alloc, World.size_setCell, World.size_drew, size_drewN] at hs2)
  go_wp2_with fail
  go_ret2
  exact ⟨rfl, by (repeat' (first | (with_reducible exact Kept.refl _ _) | (with_reducible assumption) | (with_reducible refine Kept.then_ (by with_reducible assumption) ?_) | (with_reducible refine Kept.thenS (by with_reducible assumption) ?_) | (with_reducible refine Kept.alloc ?_ _) | (with_reducible refine Kept.drew ?_) | (with_reducible refine Kept.drewN ?_ _) | (with_reducible refine Kept.setNew ?_ ?_ _) | ((try simp only [World.size_alloc, World.size_setCell, World.size_drew, size_drewN] at *); (try dsimp only); omega)))⟩
theorem up_in (x a : Int) (x0 : 0 ≤ x) (x1 : x < 18446744073709551616) (h : IsPow a) (hv : upV x a ≤ 1099511627776) (w : World) :
    Calls Try.prog 14 #[.int .u64 x, .int .u64 a] w fun e w' => e = .returned (.tuple #[.int .u64 (upV x a), .int .i64 0]) ∧ Kept [] w w' := by
  have hb := pow_bd h
  obtain ⟨q, f1, f2, f3⟩ := up_fact x a hb.1
  have hs : x + (a - 1) < 18446744073709551616 := by
    obtain ⟨r, hr⟩ := pow_dvd64 h
    rcases Int.lt_or_le (x + (a - 1)) 18446744073709551616 with h1 | h1
    · exact h1
    · exfalso
      have h2 : a * r < a * q + a := by omega
      have h3 : a * r < a * (q + 1) := by rw [Int.mul_add]; omega
      have h4 := Int.lt_of_mul_lt_mul_left h3 (by omega)
      have h5 : a * r ≤ a * q := Int.mul_le_mul_of_nonneg_left (by omega) (by omega)
      omega
  have hA := add64_run x (a - 1) x0 (by omega)
  rw [Int.emod_eq_of_lt (by omega) hs, Int.ediv_eq_zero_of_lt (by omega) hs] at hA
  have e := andNot_at (x + (a - 1)) a (by omega) hs h
  have e2 : x + (a - 1) - (x + (a - 1)) % a = upV x a := by unfold upV dnV; rw [show x + a - 1 = x + (a - 1) by omega]
  rw [e2] at e
  clear f1 f2 f3 e2
  generalize upV x a = v at *
  generalize x + (a - 1) = s at *
  go_enter Try.func14, Try.ntmps14
  go_wp2_with fail
  (with_reducible refine (isPow_any a h _).mono ?_)
  rintro e w1 ⟨rfl, hb1⟩
  have hs1 := hb1.size
  (try simp only [World.size_alloc, World.size_setCell, World.size_drew, size_drewN] at hs1)
  go_wp2_with fail
  (with_reducible refine (held_in _ hv _).mono ?_)
  rintro e w2 ⟨rfl, hb2⟩
  have hs2 := hb2.size
  (try simp only [World.size_alloc, World.size_setCell, World.size_drew, size_drewN] at hs2)
  go_wp2_with fail
  go_ret2
  exact ⟨rfl, by (repeat' (first | (with_reducible exact Kept.refl _ _) | (with_reducible assumption) | (with_reducible refine Kept.then_ (by with_reducible assumption) ?_) | (with_reducible refine Kept.thenS (by with_reducible assumption) ?_) | (with_reducible refine Kept.alloc ?_ _) | (with_reducible refine Kept.drew ?_) | (with_reducible refine Kept.drewN ?_ _) | (with_reducible refine Kept.setNew ?_ ?_ _) | ((try simp only [World.size_alloc, World.size_setCell, World.size_drew, size_drewN] at *); (try dsimp only); omega)))⟩
theorem up_out (x a : Int) (x0 : 0 ≤ x) (x1 : x < 18446744073709551616) (h : IsPow a) (hv : 1099511627776 < upV x a) (w : World) :
    Calls Try.prog 14 #[.int .u64 x, .int .u64 a] w fun e w' => e = .returned (.tuple #[.int .u64 0, .int .i64 3]) ∧ Kept [] w w' := by
  have hb := pow_bd h
  have hA := add64_run x (a - 1) x0 (by omega)
  by_cases hs : x + (a - 1) < 18446744073709551616
  · rw [Int.emod_eq_of_lt (by omega) hs, Int.ediv_eq_zero_of_lt (by omega) hs] at hA
    have e := andNot_at (x + (a - 1)) a (by omega) hs h
    have e2 : x + (a - 1) - (x + (a - 1)) % a = upV x a := by unfold upV dnV; rw [show x + a - 1 = x + (a - 1) by omega]
    rw [e2] at e
    clear e2
    generalize upV x a = v at *
    generalize x + (a - 1) = s at *
    go_enter Try.func14, Try.ntmps14
    go_wp2_with fail
    (with_reducible refine (isPow_any a h _).mono ?_)
    rintro e w1 ⟨rfl, hb1⟩
    have hs1 := hb1.size
    (try simp only [World.size_alloc, World.size_setCell, World.size_drew, size_drewN] at hs1)
    go_wp2_with fail
    (with_reducible refine (held_out _ hv _).mono ?_)
    rintro e w2 ⟨rfl, hb2⟩
    have hs2 := hb2.size
    (try simp only [World.size_alloc, World.size_setCell, World.size_drew, size_drewN] at hs2)
    go_wp2_with fail
    go_ret2
    exact ⟨rfl, by (repeat' (first | (with_reducible exact Kept.refl _ _) | (with_reducible assumption) | (with_reducible refine Kept.then_ (by with_reducible assumption) ?_) | (with_reducible refine Kept.thenS (by with_reducible assumption) ?_) | (with_reducible refine Kept.alloc ?_ _) | (with_reducible refine Kept.drew ?_) | (with_reducible refine Kept.drewN ?_ _) | (with_reducible refine Kept.setNew ?_ ?_ _) | ((try simp only [World.size_alloc, World.size_setCell, World.size_drew, size_drewN] at *); (try dsimp only); omega)))⟩
  · have hq : (x + (a - 1)) / 18446744073709551616 = 1 := by omega
    rw [hq] at hA
    clear hq
    generalize (x + (a - 1)) % 18446744073709551616 = s at *
    go_enter Try.func14, Try.ntmps14
    go_wp2_with fail
    (with_reducible refine (isPow_any a h _).mono ?_)
    rintro e w1 ⟨rfl, hb1⟩
    have hs1 := hb1.size
    (try simp only [World.size_alloc, World.size_setCell, World.size_drew, size_drewN] at hs1)
    go_wp2_with fail
    (with_reducible refine (held_t _ _).mono ?_)
    rintro e w2 ⟨rfl, hb2⟩
    have hs2 := hb2.size
    (try simp only [World.size_alloc, World.size_setCell, World.size_drew, size_drewN] at hs2)
    go_wp2_with fail
    go_ret2
    exact ⟨rfl, by (repeat' (first | (with_reducible exact Kept.refl _ _) | (with_reducible assumption) | (with_reducible refine Kept.then_ (by with_reducible assumption) ?_) | (with_reducible refine Kept.thenS (by with_reducible assumption) ?_) | (with_reducible refine Kept.alloc ?_ _) | (with_reducible refine Kept.drew ?_) | (with_reducible refine Kept.drewN ?_ _) | (with_reducible refine Kept.setNew ?_ ?_ _) | ((try simp only [World.size_alloc, World.size_setCell, World.size_drew, size_drewN] at *); (try dsimp only); omega)))⟩
end Go.Proofs.Ytnooelpdoeijbaa
