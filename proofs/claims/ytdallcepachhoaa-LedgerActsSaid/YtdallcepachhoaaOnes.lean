/- math/bits.OnesCount64 counts the bits; it is 1 just of powers of two. -/
import Derived.Test.YtdallcepachhoaaBase
set_option linter.unusedVariables false
set_option linter.unusedSimpArgs false
namespace Go.Proofs.Ytdallcepachhoaa
open Go.RowKit
namespace Ones
def m1 : Nat → Nat | 0 => 0 | k + 1 => 85 + 256 * m1 k
def m2 : Nat → Nat | 0 => 0 | k + 1 => 51 + 256 * m2 k
def m3 : Nat → Nat | 0 => 0 | k + 1 => 15 + 256 * m3 k
def s1 (m n : Nat) : Nat := (n / 2 &&& m) + (n &&& m)
def s2 (m n : Nat) : Nat := (n / 4 &&& m) + (n &&& m)
def s3 (m n : Nat) : Nat := (n / 16 + n) &&& m
/-- The ones of a byte. -/
def pc8 (v : Nat) : Nat := v % 2 + v / 2 % 2 + v / 4 % 2 + v / 8 % 2 + v / 16 % 2 + v / 32 % 2 + v / 64 % 2 + v / 128 % 2
/-- The ones of k bytes, a byte each. -/
def spread : Nat → Nat → Nat | 0, _ => 0 | k + 1, n => pc8 (n % 256) + 256 * spread k (n / 256)
theorem and_split (a m M : Nat) (hm : m < 256) : a &&& (m + 256 * M) = (a % 256 &&& m) + 256 * (a / 256 &&& M) := by
  have h1 : (a &&& (m + 256 * M)) % 256 = a % 256 &&& m := by
    have := Nat.and_mod_two_pow (a := a) (b := m + 256 * M) (n := 8)
    rw [show (2 : Nat) ^ 8 = 256 by rfl] at this
    rw [this]; congr 1; omega
  have h2 : (a &&& (m + 256 * M)) / 256 = a / 256 &&& M := by
    have := Nat.and_div_two_pow (a := a) (b := m + 256 * M) (n := 8)
    rw [show (2 : Nat) ^ 8 = 256 by rfl] at this
    rw [this]; congr 1; omega
  omega
theorem d1 : ∀ v, v < 256 → ∀ b, b < 2 → ((v / 2 + 128 * b) &&& 85 = v / 2 &&& 85) ∧ (v / 2 &&& 85) + (v &&& 85) < 256 := by decide +kernel
theorem s1_split (m n : Nat) : s1 (85 + 256 * m) n = s1 85 (n % 256) + 256 * s1 m (n / 256) := by
  unfold s1
  rw [and_split _ _ _ (by omega), and_split _ _ _ (by omega), show n / 2 % 256 = n % 256 / 2 + 128 * (n / 256 % 2) by omega, (d1 _ (by omega) _ (by omega)).1, show n / 2 / 256 = n / 256 / 2 by omega]
  omega
theorem s1_lt (v : Nat) (h : v < 256) : s1 85 v < 256 := (d1 v h 0 (by omega)).2
theorem d2 : ∀ v, v < 256 → ∀ b, b < 4 → ((v / 4 + 64 * b) &&& 51 = v / 4 &&& 51) := by decide +kernel
theorem s2_split (m v y : Nat) (h : v < 256) : s2 (51 + 256 * m) (v + 256 * y) = s2 51 v + 256 * s2 m y := by
  unfold s2
  rw [and_split _ _ _ (by omega), and_split _ _ _ (by omega), show (v + 256 * y) / 4 % 256 = v / 4 + 64 * (y % 4) by omega, d2 _ h _ (by omega), show (v + 256 * y) / 4 / 256 = y / 4 by omega, show (v + 256 * y) % 256 = v by omega, show (v + 256 * y) / 256 = y by omega]
  omega
theorem d3 : ∀ v, v < 256 → s2 51 (s1 85 v) < 256 ∧ s2 51 (s1 85 v) % 16 ≤ 4 ∧ s2 51 (s1 85 v) / 16 ≤ 4 ∧ s2 51 (s1 85 v) % 16 + s2 51 (s1 85 v) / 16 = pc8 v := by decide +kernel
theorem and15 (x : Nat) : x &&& 15 = x % 16 := Nat.and_two_pow_sub_one_eq_mod x 4
theorem s3_split (m a y : Nat) (h : a < 256) (h1 : a % 16 ≤ 4) (h2 : a / 16 ≤ 4) (h3 : y % 16 ≤ 4) : s3 (15 + 256 * m) (a + 256 * y) = (a % 16 + a / 16) + 256 * s3 m y := by
  unfold s3
  rw [and_split _ _ _ (by omega), and15, show ((a + 256 * y) / 16 + (a + 256 * y)) % 256 % 16 = a % 16 + a / 16 by omega, show ((a + 256 * y) / 16 + (a + 256 * y)) / 256 = y / 16 + y by omega]
theorem all_ : ∀ k n, n < 256 ^ k → s2 (m2 k) (s1 (m1 k) n) % 16 ≤ 4 ∧ s3 (m3 k) (s2 (m2 k) (s1 (m1 k) n)) = spread k n
  | 0, n, h => by
    have : n = 0 := by simpa using h
    subst this
    decide
  | k + 1, n, h => by
    have h' : n / 256 < 256 ^ k := by rw [Nat.div_lt_iff_lt_mul (by omega)]; rw [Nat.pow_succ] at h; exact h
    obtain ⟨i1, i2⟩ := all_ k (n / 256) h'
    have hv : n % 256 < 256 := by omega
    obtain ⟨e1, e2, e3, e4⟩ := d3 (n % 256) hv
    have q : s2 (m2 (k + 1)) (s1 (m1 (k + 1)) n) = s2 51 (s1 85 (n % 256)) + 256 * s2 (m2 k) (s1 (m1 k) (n / 256)) := by
      show s2 (51 + 256 * m2 k) (s1 (85 + 256 * m1 k) n) = _
      rw [s1_split, s2_split _ _ _ (s1_lt _ hv)]
    rw [q]
    refine ⟨by omega, ?_⟩
    show s3 (15 + 256 * m3 k) _ = pc8 (n % 256) + 256 * spread k (n / 256)
    rw [s3_split _ _ _ e1 e2 e3 i1, i2, e4]
def total : Nat → Nat → Nat | 0, _ => 0 | k + 1, n => pc8 (n % 256) + total k (n / 256)
theorem pc8_le (v : Nat) : pc8 v ≤ 8 := by unfold pc8; omega
theorem fold_p (p0 p1 p2 p3 p4 p5 p6 p7 y a b c : Nat) (h0 : p0 ≤ 8) (h1 : p1 ≤ 8) (h2 : p2 ≤ 8) (h3 : p3 ≤ 8) (h4 : p4 ≤ 8) (h5 : p5 ≤ 8) (h6 : p6 ≤ 8) (h7 : p7 ≤ 8)
    (hy : y = (p0) + 256 * (p1) + 65536 * (p2) + 16777216 * (p3) + 4294967296 * (p4) + 1099511627776 * (p5) + 281474976710656 * (p6) + 72057594037927936 * (p7)) (ha : a = y + y / 256) (hb : b = a + a / 65536) (hc : c = b + b / 4294967296) : y ≤ 578721382704613384 ∧ c % 128 = p0 + p1 + p2 + p3 + p4 + p5 + p6 + p7 := by
  have e1 : y / 256 = (p1) + 256 * (p2) + 65536 * (p3) + 16777216 * (p4) + 4294967296 * (p5) + 1099511627776 * (p6) + 281474976710656 * (p7) := by omega
  have e2 : a = (p0 + p1) + 256 * (p1 + p2) + 65536 * (p2 + p3) + 16777216 * (p3 + p4) + 4294967296 * (p4 + p5) + 1099511627776 * (p5 + p6) + 281474976710656 * (p6 + p7) + 72057594037927936 * (p7) := by omega
  have e3 : a / 65536 = (p2 + p3) + 256 * (p3 + p4) + 65536 * (p4 + p5) + 16777216 * (p5 + p6) + 4294967296 * (p6 + p7) + 1099511627776 * (p7) := by clear ha hb hc hy e1; omega
  have e4 : b = (p0 + p1 + p2 + p3) + 256 * (p1 + p2 + p3 + p4) + 65536 * (p2 + p3 + p4 + p5) + 16777216 * (p3 + p4 + p5 + p6) + 4294967296 * (p4 + p5 + p6 + p7) + 1099511627776 * (p5 + p6 + p7) + 281474976710656 * (p6 + p7) + 72057594037927936 * (p7) := by omega
  have e5 : b / 4294967296 = (p4 + p5 + p6 + p7) + 256 * (p5 + p6 + p7) + 65536 * (p6 + p7) + 16777216 * (p7) := by clear ha hb hc hy e1 e2 e3; omega
  exact ⟨by clear ha hb hc e1 e2 e3 e4 e5; omega, by clear ha hb hy e1 e2 e3; omega⟩
theorem fold (n : Nat) : spread 8 n ≤ 578721382704613384 ∧ (((spread 8 n + spread 8 n / 256) + (spread 8 n + spread 8 n / 256) / 65536) + ((spread 8 n + spread 8 n / 256) + (spread 8 n + spread 8 n / 256) / 65536) / 4294967296) % 128 = total 8 n := by
  have e : spread 8 n = pc8 (n % 256) + 256 * (pc8 (n / 256 % 256) + 256 * (pc8 (n / 256 / 256 % 256) + 256 * (pc8 (n / 256 / 256 / 256 % 256) + 256 * (pc8 (n / 256 / 256 / 256 / 256 % 256) + 256 * (pc8 (n / 256 / 256 / 256 / 256 / 256 % 256) + 256 * (pc8 (n / 256 / 256 / 256 / 256 / 256 / 256 % 256) + 256 * (pc8 (n / 256 / 256 / 256 / 256 / 256 / 256 / 256 % 256) + 256 * 0))))))) := rfl
  have e2 : total 8 n = pc8 (n % 256) + (pc8 (n / 256 % 256) + (pc8 (n / 256 / 256 % 256) + (pc8 (n / 256 / 256 / 256 % 256) + (pc8 (n / 256 / 256 / 256 / 256 % 256) + (pc8 (n / 256 / 256 / 256 / 256 / 256 % 256) + (pc8 (n / 256 / 256 / 256 / 256 / 256 / 256 % 256) + (pc8 (n / 256 / 256 / 256 / 256 / 256 / 256 / 256 % 256) + 0))))))) := rfl
  generalize spread 8 n = y at *
  have c := fold_p _ _ _ _ _ _ _ _ y _ _ _ (pc8_le (n % 256)) (pc8_le (n / 256 % 256)) (pc8_le (n / 256 / 256 % 256)) (pc8_le (n / 256 / 256 / 256 % 256)) (pc8_le (n / 256 / 256 / 256 / 256 % 256)) (pc8_le (n / 256 / 256 / 256 / 256 / 256 % 256)) (pc8_le (n / 256 / 256 / 256 / 256 / 256 / 256 % 256)) (pc8_le (n / 256 / 256 / 256 / 256 / 256 / 256 / 256 % 256)) (by omega) rfl rfl rfl
  refine ⟨c.1, c.2.trans ?_⟩
  rw [e2]
  omega
theorem masks : m1 8 = 6148914691236517205 ∧ m2 8 = 3689348814741910323 ∧ m3 8 = 1085102592571150095 := by decide +kernel
theorem zero8 : ∀ v, v < 256 → pc8 v = 0 → v = 0 := by decide +kernel
theorem one8 : ∀ v, v < 256 → pc8 v = 1 → v = 1 ∨ v = 2 ∨ v = 4 ∨ v = 8 ∨ v = 16 ∨ v = 32 ∨ v = 64 ∨ v = 128 := by decide +kernel
theorem total_zero : ∀ k n, n < 256 ^ k → total k n = 0 → n = 0
  | 0, n, h, _ => by simpa using h
  | k + 1, n, h, h0 => by
    have h' : n / 256 < 256 ^ k := by rw [Nat.div_lt_iff_lt_mul (by omega)]; rw [Nat.pow_succ] at h; exact h
    have h1 : pc8 (n % 256) + total k (n / 256) = 0 := h0
    have := total_zero k (n / 256) h' (by omega)
    have := zero8 (n % 256) (by omega) (by omega)
    omega
theorem total_one : ∀ k n, n < 256 ^ k → (total k n = 1 ↔ ∃ i, i < 8 * k ∧ n = 2 ^ i)
  | 0, n, h => by
    constructor
    · intro h0; cases h0
    · rintro ⟨i, hi, _⟩; omega
  | k + 1, n, h => by
    have h' : n / 256 < 256 ^ k := by rw [Nat.div_lt_iff_lt_mul (by omega)]; rw [Nat.pow_succ] at h; exact h
    have ih := total_one k (n / 256) h'
    have e : total (k + 1) n = pc8 (n % 256) + total k (n / 256) := rfl
    constructor
    · intro h1
      rw [e] at h1
      rcases Nat.eq_zero_or_pos (pc8 (n % 256)) with h2 | h2
      · have hz := zero8 _ (by omega) h2
        obtain ⟨i, hi, hn⟩ := ih.1 (by omega)
        refine ⟨i + 8, by omega, ?_⟩
        rw [Nat.pow_add, ← hn]
        omega
      · have hz := total_zero k _ h' (by omega)
        have h3 := one8 (n % 256) (by omega) (by omega)
        have h4 : n = n % 256 := by omega
        rw [h4]
        rcases h3 with h3 | h3 | h3 | h3 | h3 | h3 | h3 | h3 <;> rw [h3]
        · exact ⟨0, by omega, rfl⟩
        · exact ⟨1, by omega, rfl⟩
        · exact ⟨2, by omega, rfl⟩
        · exact ⟨3, by omega, rfl⟩
        · exact ⟨4, by omega, rfl⟩
        · exact ⟨5, by omega, rfl⟩
        · exact ⟨6, by omega, rfl⟩
        · exact ⟨7, by omega, rfl⟩
    · rintro ⟨i, hi, rfl⟩
      rw [e]
      rcases Nat.lt_or_ge i 8 with h8 | h8
      · have hs : 2 ^ i / 256 = 0 := Nat.div_eq_of_lt (Nat.pow_lt_pow_of_lt (by omega) h8 : 2 ^ i < 2 ^ 8)
        rw [hs]
        have hz : ∀ k, total k 0 = 0 := by
          intro k
          induction k with
          | zero => rfl
          | succ k ih => show pc8 0 + total k 0 = 0; rw [ih]; rfl
        rw [hz]
        have : ∀ i, i < 8 → pc8 (2 ^ i % 256) + 0 = 1 := by decide +kernel
        exact this i h8
      · obtain ⟨j, rfl⟩ : ∃ j, i = j + 8 := ⟨i - 8, by omega⟩
        have h9 : 2 ^ (j + 8) = 256 * 2 ^ j := by rw [Nat.pow_add]; omega
        have h10 : 2 ^ (j + 8) % 256 = 0 := by omega
        have h11 : 2 ^ (j + 8) / 256 = 2 ^ j := by omega
        rw [h11] at ih
        rw [h10, h11, ih.2 ⟨j, by omega, rfl⟩]
        rfl
end Ones

theorem cast2 (n k : Nat) : (n : Int) / (k : Int) = ((n / k : Nat) : Int) := (Int.natCast_ediv n k).symm
theorem st1 (n : Nat) (h : n < 18446744073709551616) : IntKind.u64.wrap (bits .and .u64 ((n : Int) / 2) 6148914691236517205 + bits .and .u64 (n : Int) 6148914691236517205) = ((Ones.s1 6148914691236517205 n : Nat) : Int) ∧ Ones.s1 6148914691236517205 n ≤ 12297829382473034410 := by
  have b1 : (n / 2) &&& 6148914691236517205 ≤ 6148914691236517205 := Nat.and_le_right
  have b2 : n &&& 6148914691236517205 ≤ 6148914691236517205 := Nat.and_le_right
  have e : Ones.s1 6148914691236517205 n = ((n / 2) &&& 6148914691236517205) + (n &&& 6148914691236517205) := rfl
  refine ⟨?_, by omega⟩
  have e1 := u64_and_nat (n / 2) 6148914691236517205 (by omega) (by omega)
  have e2 := u64_and_nat n 6148914691236517205 h (by omega)
  rw [show (n : Int) / 2 = ((n / 2 : Nat) : Int) from cast2 n 2]
  rw [show (6148914691236517205 : Int) = ((6148914691236517205 : Nat) : Int) from rfl, e1, e2, IntWalk.u64_in _ ⟨by omega, by omega⟩, e]
  omega
theorem st2 (n : Nat) (h : n < 18446744073709551616) : IntKind.u64.wrap (bits .and .u64 ((n : Int) / 4) 3689348814741910323 + bits .and .u64 (n : Int) 3689348814741910323) = ((Ones.s2 3689348814741910323 n : Nat) : Int) ∧ Ones.s2 3689348814741910323 n ≤ 7378697629483820646 := by
  have b1 : (n / 4) &&& 3689348814741910323 ≤ 3689348814741910323 := Nat.and_le_right
  have b2 : n &&& 3689348814741910323 ≤ 3689348814741910323 := Nat.and_le_right
  have e : Ones.s2 3689348814741910323 n = ((n / 4) &&& 3689348814741910323) + (n &&& 3689348814741910323) := rfl
  refine ⟨?_, by omega⟩
  have e1 := u64_and_nat (n / 4) 3689348814741910323 (by omega) (by omega)
  have e2 := u64_and_nat n 3689348814741910323 h (by omega)
  rw [show (n : Int) / 4 = ((n / 4 : Nat) : Int) from cast2 n 4]
  rw [show (3689348814741910323 : Int) = ((3689348814741910323 : Nat) : Int) from rfl, e1, e2, IntWalk.u64_in _ ⟨by omega, by omega⟩, e]
  omega
theorem st3 (n : Nat) (h : n ≤ 7378697629483820646) : bits .and .u64 ((n : Int) / 16 + (n : Int)) 1085102592571150095 = ((Ones.s3 1085102592571150095 n : Nat) : Int) := by
  have e1 := u64_and_nat (n / 16 + n) 1085102592571150095 (by omega) (by omega)
  rw [show (n : Int) / 16 + (n : Int) = ((n / 16 + n : Nat) : Int) by rw [show (n : Int) / 16 = ((n / 16 : Nat) : Int) from cast2 n 16]; omega]
  rw [show (1085102592571150095 : Int) = ((1085102592571150095 : Nat) : Int) from rfl, e1]
  rfl
theorem st_all (n : Nat) (h : n < 18446744073709551616) : Ones.s3 1085102592571150095 (Ones.s2 3689348814741910323 (Ones.s1 6148914691236517205 n)) = Ones.spread 8 n := by
  have := (Ones.all_ 8 n (by omega)).2
  rw [Ones.masks.1, Ones.masks.2.1, Ones.masks.2.2] at this
  exact this
theorem mask127 (n : Nat) (h : n ≤ 9223372036854775807) : bits .and .i64 (n : Int) 127 = ((n % 128 : Nat) : Int) := by
  have hx : n &&& 127 = n % 128 := Nat.and_two_pow_sub_one_eq_mod n 7
  have o : ∀ a : Nat, a < 9223372036854775808 → (BitVec.ofInt 64 (a : Int)).toNat = a := fun a ha => by
    rw [BitVec.ofInt_natCast, BitVec.toNat_ofNat]; exact Nat.mod_eq_of_lt (by omega)
  show IntKind.i64.wrap ((BitVec.ofInt 64 (n : Int) &&& BitVec.ofInt 64 ((127 : Nat) : Int)).toNat : Int) = _
  rw [BitVec.toNat_and, o n (by omega), o 127 (by omega), hx, IntKind.wrap_i64]
  omega
set_option maxHeartbeats 1000000 in
theorem ones_any (n : Nat) (h : n < 18446744073709551616) (w : World) : Calls Try.prog 53 #[.int .u64 n] w fun e w' => e = .returned (.int .i64 (Ones.total 8 n)) ∧ Kept [] w w' := by
  obtain ⟨H1, b1⟩ := st1 n h
  have hall := st_all n h
  generalize Ones.s1 6148914691236517205 n = y1 at *
  obtain ⟨H2, b2⟩ := st2 y1 (by omega)
  generalize Ones.s2 3689348814741910323 y1 = y2 at *
  have H3 := st3 y2 b2
  rw [hall] at H3
  obtain ⟨b3, hf⟩ := Ones.fold n
  generalize Ones.spread 8 n = y3 at *
  have HF := Lib.hid hf
  clear hf hall
  go_enter Try.func53, Try.ntmps53
  go_wp2
  go_ret
  refine ⟨ret_int ?_, Kept.refl _ _⟩
  have e : (y3 : Int) + y3 / 256 + (y3 + y3 / 256) / 65536 + (y3 + y3 / 256 + (y3 + y3 / 256) / 65536) / 4294967296 = ((y3 + y3 / 256 + (y3 + y3 / 256) / 65536 + (y3 + y3 / 256 + (y3 + y3 / 256) / 65536) / 4294967296 : Nat) : Int) := by omega
  rw [e, mask127 _ (by omega), HF.out]
/-- A number that is one of 1, 2, 4, 8, and so on. -/
def IsPow (x : Int) : Prop := ∃ i : Nat, i < 64 ∧ x = 2 ^ i
noncomputable instance (x : Int) : Decidable (IsPow x) := Classical.propDecidable _
theorem total_pow (n : Nat) (h : n < 18446744073709551616) : Ones.total 8 n = 1 ↔ IsPow n := by
  rw [Ones.total_one 8 n (by omega)]
  constructor
  · rintro ⟨i, hi, e⟩
    exact ⟨i, by omega, by rw [e]; simp⟩
  · rintro ⟨i, hi, e⟩
    refine ⟨i, by omega, ?_⟩
    have : ((2 ^ i : Nat) : Int) = 2 ^ i := by simp
    omega
theorem pow2_any (x : Int) (h0 : 0 ≤ x) (h : x ≤ 18446744073709551615) (w : World) : Calls Try.prog 44 #[.int .u64 x] w fun e w' => e = .returned (.bool (decide (IsPow x))) ∧ Kept [] w w' := by
  obtain ⟨n, rfl⟩ := Int.eq_ofNat_of_zero_le h0
  have ht := total_pow n (by omega)
  by_cases hp : IsPow (n : Int)
  · have h1 := ht.2 hp
    go_enter Try.func44, Try.ntmps44
    go_wp2_with fail
    (with_reducible refine (ones_any _ (by omega) _).mono ?_)
    rintro e w1 ⟨rfl, hb1⟩
    have hs1 := hb1.size
    (try simp only [World.size_alloc, World.size_setCell, World.size_drew, size_drewN] at hs1)
    rw [h1]
    go_wp2_with fail
    go_ret
    exact ⟨ret_bool (by simp [hp]), hb1⟩
  · have h1 : (((Ones.total 8 n : Nat) : Int) == 1) = false := by
      rw [beq_eq_false_iff_ne]
      intro e
      exact hp (ht.1 (by omega))
    clear ht
    go_enter Try.func44, Try.ntmps44
    go_wp2_with fail
    (with_reducible refine (ones_any _ (by omega) _).mono ?_)
    rintro e w1 ⟨rfl, hb1⟩
    have hs1 := hb1.size
    (try simp only [World.size_alloc, World.size_setCell, World.size_drew, size_drewN] at hs1)
    go_wp2_with fail
    go_ret
    exact ⟨ret_bool (by simp [hp]), hb1⟩
theorem small_pow (x : Int) : (IsPow x ∧ x ≤ 1024) ↔ x = 1 ∨ x = 2 ∨ x = 4 ∨ x = 8 ∨ x = 16 ∨ x = 32 ∨ x = 64 ∨ x = 128 ∨ x = 256 ∨ x = 512 ∨ x = 1024 := by
  constructor
  · rintro ⟨⟨i, hi, rfl⟩, h⟩
    have h11 : i < 11 := by
      rcases Nat.lt_or_ge i 11 with h1 | h1
      · exact h1
      · exfalso
        have h2 : 2 ^ 11 ≤ 2 ^ i := Nat.pow_le_pow_right (by omega) h1
        have h3 : ((2 ^ i : Nat) : Int) = 2 ^ i := by simp
        omega
    have : ∀ i : Nat, i < 11 → ((2 : Int) ^ i = 1 ∨ (2 : Int) ^ i = 2 ∨ (2 : Int) ^ i = 4 ∨ (2 : Int) ^ i = 8 ∨ (2 : Int) ^ i = 16 ∨ (2 : Int) ^ i = 32 ∨ (2 : Int) ^ i = 64 ∨ (2 : Int) ^ i = 128 ∨ (2 : Int) ^ i = 256 ∨ (2 : Int) ^ i = 512 ∨ (2 : Int) ^ i = 1024) := by decide +kernel
    exact this i h11
  · have h : ∀ i : Nat, i < 64 → IsPow (2 ^ i) := fun i hi => ⟨i, hi, rfl⟩
    rintro (rfl | rfl | rfl | rfl | rfl | rfl | rfl | rfl | rfl | rfl | rfl)
    · exact ⟨h 0 (by omega), by omega⟩
    · exact ⟨h 1 (by omega), by omega⟩
    · exact ⟨h 2 (by omega), by omega⟩
    · exact ⟨h 3 (by omega), by omega⟩
    · exact ⟨h 4 (by omega), by omega⟩
    · exact ⟨h 5 (by omega), by omega⟩
    · exact ⟨h 6 (by omega), by omega⟩
    · exact ⟨h 7 (by omega), by omega⟩
    · exact ⟨h 8 (by omega), by omega⟩
    · exact ⟨h 9 (by omega), by omega⟩
    · exact ⟨h 10 (by omega), by omega⟩
end Go.Proofs.Ytdallcepachhoaa
