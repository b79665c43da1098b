/- The examples; the steps that laws ask for. -/
import Derived.Test.YtnooelpdoeijbaaMul
set_option linter.unusedVariables false
set_option linter.unusedSimpArgs false
namespace Go.Proofs.Ytnooelpdoeijbaa
open Go.RowKit
theorem mul_two (b : Nat) (t : TypeId) (x y V E : Int) (h0 : 0 ≤ x ∧ x ≤ 18446744073709551615) (h1 : 0 ≤ y ∧ y ≤ 18446744073709551615) (hV : mulV [x, y] = V) (hE : mulE [x, y] = E) (w : World) (hB : Blk w b t #[.int .u64 x, .int .u64 y]) :
    Calls Try.prog 13 #[.slice (some ⟨b, 0, none⟩) 2 2] w fun e w' => e = .returned (.tuple #[.int .u64 V, .int .i64 E]) ∧ Kept [] w w' := by
  rw [← hV, ← hE]
  refine mul_any (some ⟨b, 0, none⟩) 2 [x, y] ?_ w (RowX.of_blk hB ?_) (by simp)
  · intro z hz
    simp at hz
    rcases hz with rfl | rfl
    · exact h0
    · exact h1
  · intro i hi
    match i, hi with
    | 0, _ => rfl
    | 1, _ => rfl
theorem mul_a : mulV [549755813888, 2] = 1099511627776 := by unfold mulV; rw [if_neg (by simp), if_pos (by simp [pr])]; simp [pr]
theorem mul_a' : mulE [549755813888, 2] = 0 := by unfold mulE; rw [if_neg (by simp), if_pos (by simp [pr])]
theorem mul_b : mulV [1099511627776, 2] = 0 := by unfold mulV; rw [if_neg (by simp), if_neg (by simp [pr])]
theorem mul_b' : mulE [1099511627776, 2] = 3 := by unfold mulE; rw [if_neg (by simp), if_neg (by simp [pr])]
theorem up_a (w : World) : Calls Try.prog 14 #[.int .u64 17, .int .u64 16] w fun e w' => e = .returned (.tuple #[.int .u64 32, .int .i64 0]) ∧ Kept [] w w' :=
  up_in 17 16 (by omega) (by omega) ⟨4, by omega, rfl⟩ (by decide) w
theorem isPow_8 : IsPow 8 := ⟨3, by omega, rfl⟩
set_option maxRecDepth 100000 in
theorem alive_any (w : World) : Calls Try.prog 12 #[] w fun e w' => e = .returned (.bool true) ∧ Kept [] w w' := by
  have ha := Lib.hid (fun b t w hB => mul_two b t 549755813888 2 _ _ (by omega) (by omega) mul_a mul_a' w hB)
  have hb := Lib.hid (fun b t w hB => mul_two b t 1099511627776 2 _ _ (by omega) (by omega) mul_b mul_b' w hB)
  go_enter Try.func12, Try.ntmps12
  go_wp2_with fail
  (with_reducible refine (up_a _).mono ?_)
  rintro e w1 ⟨rfl, hb1⟩
  have hs1 := hb1.size
  (try simp only [World.size_alloc, World.size_setCell, World.size_drew, size_drewN] at hs1)
  go_wp2_with fail
  (with_reducible refine (ha.out _ _ _ (Blk.new _ _ _)).mono ?_)
  rintro e w2 ⟨rfl, hb2⟩
  have hs2 := hb2.size
  (try simp only [World.size_alloc, World.size_setCell, World.size_drew, size_drewN] at hs2)
  go_wp2_with fail
  (with_reducible refine (hb.out _ _ _ (Blk.new _ _ _)).mono ?_)
  rintro e w3 ⟨rfl, hb3⟩
  have hs3 := hb3.size
  (try simp only [World.size_alloc, World.size_setCell, World.size_drew, size_drewN] at hs3)
  go_wp2_with fail
  (with_reducible refine (isPow_any 8 isPow_8 _).mono ?_)
  rintro e w4 ⟨rfl, hb4⟩
  have hs4 := hb4.size
  (try simp only [World.size_alloc, World.size_setCell, World.size_drew, size_drewN] at hs4)
  go_wp2_with fail
  go_ret
  exact ⟨rfl, by (repeat' (first | (with_reducible exact Kept.refl _ _) | (with_reducible assumption) | (with_reducible refine Kept.then_ (by with_reducible assumption) ?_) | (with_reducible refine Kept.thenS (by with_reducible assumption) ?_) | (with_reducible refine Kept.alloc ?_ _) | (with_reducible refine Kept.drew ?_) | (with_reducible refine Kept.drewN ?_ _) | (with_reducible refine Kept.setNew ?_ ?_ _) | ((try simp only [World.size_alloc, World.size_setCell, World.size_drew, size_drewN] at *); (try dsimp only); omega)))⟩
theorem pow_dvd {a b : Int} (k m : Nat) (ha : a = 2 ^ k) (hb : b = 2 ^ m) (h : k ≤ m) : ∃ q : Int, 1 ≤ q ∧ b = a * q := by
  refine ⟨2 ^ (m - k), ?_, ?_⟩
  · have : 0 < 2 ^ (m - k) := Nat.two_pow_pos _
    have e : ((2 ^ (m - k) : Nat) : Int) = (2 : Int) ^ (m - k) := by simp
    omega
  · rw [ha, hb, ← Int.pow_add]; congr 1; omega
/-- A multiple below another number's next one is no greater. -/
theorem mul_lt_le {a q r : Int} (ha : 1 ≤ a) (h : a * q < a * r + a) : q ≤ r := by
  have h1 : a * q < a * (r + 1) := by rw [Int.mul_add]; omega
  have := Int.lt_of_mul_lt_mul_left h1 (by omega)
  omega
theorem dn_mono {x y a : Int} (ha : 1 ≤ a) (h : x ≤ y) : dnV x a ≤ dnV y a := by
  obtain ⟨q, e1, f1, f2⟩ := dn_fact x a ha
  obtain ⟨r, e2, g1, g2⟩ := dn_fact y a ha
  have := mul_lt_le (q := q) (r := r) ha (by omega)
  rw [e1, e2]
  exact Int.mul_le_mul_of_nonneg_left this (by omega)
theorem dn_mult {a q : Int} (ha : 1 ≤ a) : dnV (a * q) a = a * q := by unfold dnV; rw [Int.mul_emod_right]; omega
theorem up_mult {a q : Int} (ha : 1 ≤ a) : upV (a * q) a = a * q := by
  obtain ⟨r, e, f1, f2⟩ := up_fact (a * q) a ha
  have h1 := mul_lt_le (q := r) (r := q) ha (by omega)
  have h2 := mul_lt_le (q := q) (r := r) ha (by omega)
  rw [e, show r = q by omega]
theorem up_mono {x y a : Int} (ha : 1 ≤ a) (h : x ≤ y) : upV x a ≤ upV y a := dn_mono ha (by omega)
/-- A shift's power. -/
theorem shl_of (a m : Int) (h : 0 ≤ a) (hm : 0 < m) (h64 : m ≤ 64) : ∃ (al : Int) (k : Nat), IntKind.u64.wrap (2 ^ (a % m).toNat) = al ∧ al = 2 ^ k ∧ (k : Int) < m ∧ (k : Int) = a % m ∧ IsPow al := by
  have h1 := Int.emod_nonneg a (show m ≠ 0 by omega)
  have h2 := Int.emod_lt_of_pos a hm
  obtain ⟨k, hk⟩ : ∃ k : Nat, (a % m).toNat = k := ⟨_, rfl⟩
  have hp : IsPow (2 ^ k) := ⟨k, by omega, rfl⟩
  have hb := pow_bd hp
  exact ⟨2 ^ k, k, by rw [hk]; exact IntWalk.u64_in _ (by omega), rfl, by omega, by omega, hp⟩
theorem and_pow (a : Int) (h1 : 1 ≤ a) (h2 : a ≤ 18446744073709551615) : bits .and .u64 a (a - 1) = 0 ↔ IsPow a := by
  obtain ⟨n, rfl⟩ := Int.eq_ofNat_of_zero_le (show 0 ≤ a by omega)
  have e := u64_and_nat n (n - 1) (by omega) (by omega)
  rw [show ((n - 1 : Nat) : Int) = (n : Int) - 1 by omega] at e
  rw [e]
  have h3 := Nat.and_sub_one_eq_zero_iff_isPowerOfTwo (n := n) (by omega)
  constructor
  · intro h
    obtain ⟨k, hk⟩ := h3.1 (by omega)
    refine ⟨k, ?_, by rw [hk]; simp⟩
    rcases Nat.lt_or_ge k 64 with h4 | h4
    · exact h4
    · exfalso
      have : 2 ^ 64 ≤ 2 ^ k := Nat.pow_le_pow_right (by omega) h4
      omega
  · rintro ⟨k, hk, e2⟩
    have e3 : n = 2 ^ k := by
      have : ((2 ^ k : Nat) : Int) = 2 ^ k := by simp
      omega
    have := h3.2 ⟨k, e3⟩
    omega
theorem dn_nn {x a : Int} (ha : 1 ≤ a) (h : 0 ≤ x) : 0 ≤ dnV x a := by
  obtain ⟨q, e1, f1, f2⟩ := dn_fact x a ha
  rw [e1]
  exact Int.mul_nonneg (by omega) (mul_lt_le (q := 0) (a := a) ha (by omega))
theorem up_up {x a q : Int} (ha : 1 ≤ a) (hq : 1 ≤ q) : upV (upV x a) (a * q) = upV x (a * q) := by
  have hb : 1 ≤ a * q := by have := Int.mul_le_mul ha hq (by omega) (by omega); omega
  obtain ⟨r, e, f1, f2⟩ := up_fact x (a * q) hb
  obtain ⟨s, e2, g1, g2⟩ := up_fact x a ha
  have h1 : upV x a ≤ upV x (a * q) := by
    have := up_mono (x := x) (y := a * (q * r)) ha (by rw [← Int.mul_assoc]; omega)
    rw [up_mult ha, ← Int.mul_assoc] at this
    omega
  have h2 := up_mono hb h1
  rw [e, up_mult hb, ← e] at h2
  have h3 := up_mono (x := x) (y := upV x a) hb (by omega)
  omega
theorem dn_dn {x a q : Int} (ha : 1 ≤ a) (hq : 1 ≤ q) : dnV (dnV x a) (a * q) = dnV x (a * q) := by
  have hb : 1 ≤ a * q := by have := Int.mul_le_mul ha hq (by omega) (by omega); omega
  obtain ⟨r, e, f1, f2⟩ := dn_fact x (a * q) hb
  obtain ⟨s, e2, g1, g2⟩ := dn_fact x a ha
  have h1 : dnV x (a * q) ≤ dnV x a := by
    have := dn_mono (x := a * (q * r)) (y := x) ha (by rw [← Int.mul_assoc]; omega)
    rw [dn_mult ha, ← Int.mul_assoc] at this
    omega
  have h2 := dn_mono hb h1
  rw [e, dn_mult hb, ← e] at h2
  have h3 := dn_mono (x := dnV x a) (y := x) hb (by omega)
  omega
theorem pow_le40 (k : Nat) (h : k ≤ 40) : ∃ q : Int, 1 ≤ q ∧ (1099511627776 : Int) = 2 ^ k * q := pow_dvd k 40 rfl rfl h
end Go.Proofs.Ytnooelpdoeijbaa
