/- Plain laws of the plan: enough bytes, no fewer of more, no waste. -/
import Derived.Test.YtfgmmehgmepegaaFor
set_option linter.unusedVariables false
set_option linter.unusedSimpArgs false
namespace Go.Proofs.Ytfgmmehgmepegaa
open Go.RowKit
theorem sz_mono (j k : Nat) (h : j ≤ k) (hk : k < 12) : sz j ≤ sz k := by
  have : ∀ k, k < 12 → ∀ j, j ≤ k → sz j ≤ sz k := by decide +kernel
  exact this k hk j h
theorem sz_16 (k : Nat) (hk : k < 12) : sz k % 16 = 0 := by
  have : ∀ k, k < 12 → sz k % 16 = 0 := by decide +kernel
  exact this k hk
theorem sz_step (k : Nat) (hk : k + 1 < 12) : sz (k + 1) ≤ 2 * sz k := by
  have : ∀ k, k + 1 < 12 → sz (k + 1) ≤ 2 * sz k := by
    intro k hk
    have : ∀ k, k < 11 → sz (k + 1) ≤ 2 * sz k := by decide +kernel
    exact this k (by omega)
  exact this k hk
theorem sz_0 : sz 0 = 16 := by decide +kernel
theorem sz_11 : sz 11 = 1024 := by decide +kernel
theorem fits_iff (m a : Int) (k : Nat) : fits m a k = true ↔ m ≤ sz k ∧ sz k % a = 0 := by unfold fits; simp
theorem last_fits {m a : Int} (ha : AlignOk a) (h : fits m a 11 = false) : 1024 < m := by
  have h1 : sz 11 % a = 0 := by
    rw [sz_11]
    rcases ha with rfl | rfl | rfl | rfl | rfl | rfl | rfl | rfl | rfl | rfl | rfl <;> decide
  rcases Int.lt_or_le 1024 m with h2 | h2
  · exact h2
  · exfalso
    have := (fits_iff m a 11).2 ⟨by rw [sz_11]; exact h2, h1⟩
    rw [h] at this; cases this
/-- The three kinds of a plan, in numbers. -/
inductive PlanIs (n a : Int) : Int → Int → Int → Int → Prop where
  | cls (k : Nat) (hk : k < 12) (h1 : max n 1 ≤ sz k) (h2 : sz k % a = 0) (hno : ∀ j, j < k → ¬ (max n 1 ≤ sz j ∧ sz j % a = 0)) : PlanIs n a k (slS k) 0 (sz k)
  | slices (s : Int) (h0 : 1024 < n) (h1 : n ≤ 15360) (h2 : s = (n + 1023) / 1024) : PlanIs n a (-1) s 0 (s * 1024)
  | segs (s : Int) (h1 : 15360 < n) (h2 : s = (n + 16383) / 16384) : PlanIs n a (-1) 0 s (s * 16384)
theorem planIs (n a : Int) (n1 : n ≤ 1048576) (ha : AlignOk a) : ∃ c s g u, planOf n a = (c, s, g, u) ∧ PlanIs n a c s g u := by
  rcases plan_cases n a with ⟨k, hk, hf, hno, e⟩ | ⟨hno, h⟩
  · have hf' := (fits_iff _ _ _).1 hf
    refine ⟨_, _, _, _, e, .cls k hk hf'.1 hf'.2 fun j hj hh => ?_⟩
    have := hno j hj
    rw [(fits_iff _ _ _).2 hh] at this; cases this
  · have hm := last_fits ha (hno 11 (by omega))
    have e1 : max n 1 = n := by omega
    rw [e1] at h
    rcases h with ⟨hs, e⟩ | ⟨hs, e⟩
    · exact ⟨_, _, _, _, e, .slices _ (by omega) hs rfl⟩
    · exact ⟨_, _, _, _, e, .segs _ hs rfl⟩
theorem PlanIs.enough {n a c s g u : Int} (n0 : 0 ≤ n) (h : PlanIs n a c s g u) : n ≤ u ∧ 1 ≤ u ∧ u % 16 = 0 ∧ u ≤ n + 1065000 := by
  cases h with
  | cls k hk h1 h2 hno =>
    have := sz_16 k hk
    have := sz_bd k hk
    omega
  | slices s h0 h1 h2 => omega
  | segs s h1 h2 => omega
theorem PlanIs.mono {n n' a c s g u c' s' g' u' : Int} (hn : n ≤ n') (h : PlanIs n a c s g u) (h' : PlanIs n' a c' s' g' u') (ha : AlignOk a) (n0 : 0 ≤ n) : u ≤ u' := by
  have e' := h'.enough (by omega)
  cases h with
  | cls k hk h1 h2 hno =>
    have hb := sz_bd k hk
    cases h' with
    | cls k' hk' h1' h2' hno' =>
      rcases Nat.lt_or_ge k' k with h3 | h3
      · exact absurd ⟨by omega, h2'⟩ (hno k' h3)
      · exact sz_mono k k' h3 hk'
    | slices s' h0' h1' h2' => omega
    | segs s' h1' h2' => omega
  | slices s h0 h1 h2 =>
    cases h' with
    | cls k' hk' h1' h2' hno' =>
      have hb := sz_bd k' hk'
      omega
    | slices s' h0' h1' h2' => omega
    | segs s' h1' h2' => omega
  | segs s h1 h2 =>
    cases h' with
    | cls k' hk' h1' h2' hno' =>
      have hb := sz_bd k' hk'
      omega
    | slices s' h0' h1' h2' => omega
    | segs s' h1' h2' => omega
theorem PlanIs.least {n a c s g u c' s' g' u' : Int} (h : PlanIs n 1 c s g u) (h' : PlanIs n a c' s' g' u') (n0 : 0 ≤ n) : u ≤ u' := by
  have e' := h'.enough n0
  cases h with
  | cls k hk h1 h2 hno =>
    have hb := sz_bd k hk
    cases h' with
    | cls k' hk' h1' h2' hno' =>
      rcases Nat.lt_or_ge k' k with h3 | h3
      · exact absurd ⟨by omega, Int.emod_one _⟩ (hno k' h3)
      · exact sz_mono k k' h3 hk'
    | slices s' h0' h1' h2' => omega
    | segs s' h1' h2' => omega
  | slices s h0 h1 h2 =>
    cases h' with
    | cls k' hk' h1' h2' hno' =>
      have hb := sz_bd k' hk'
      omega
    | slices s' h0' h1' h2' => omega
    | segs s' h1' h2' => omega
  | segs s h1 h2 =>
    cases h' with
    | cls k' hk' h1' h2' hno' =>
      have hb := sz_bd k' hk'
      omega
    | slices s' h0' h1' h2' => omega
    | segs s' h1' h2' => omega
theorem plan_zero (a : Int) : planOf 0 a = planOf 1 a := rfl
theorem plan_16 (n a : Int) (ha : a = 1 ∨ a = 2 ∨ a = 4 ∨ a = 8 ∨ a = 16) : planOf n a = planOf n 1 := by
  have h : fits (max n 1) a = fits (max n 1) 1 ∨ True := .inr trivial
  have e : ∀ k, k < 12 → fits (max n 1) a k = fits (max n 1) 1 k := by
    intro k hk
    unfold fits
    have h16 := sz_16 k hk
    have : sz k % a = 0 := by rcases ha with rfl | rfl | rfl | rfl | rfl <;> omega
    rw [this, Int.emod_one]
  have e2 : (List.range 12).find? (fits (max n 1) a) = (List.range 12).find? (fits (max n 1) 1) := by
    have : ∀ (l : List Nat), (∀ k, k ∈ l → k < 12) → l.find? (fits (max n 1) a) = l.find? (fits (max n 1) 1) := by
      intro l
      induction l with
      | nil => intro _; rfl
      | cons x l ih =>
        intro hl
        rw [List.find?_cons, List.find?_cons, e x (hl x (by simp)), ih (fun k hk => hl k (by simp [hk]))]
    exact this _ (fun k hk => by simpa using hk)
  unfold planOf
  rw [e2]
theorem PlanIs.waste {n c s g u : Int} (n0 : 1 ≤ n) (h : PlanIs n 1 c s g u) : u ≤ 16 ∨ u ≤ 2 * n := by
  cases h with
  | cls k hk h1 h2 hno =>
    rcases k with _ | k
    · left; rw [sz_0]; omega
    · right
      have h3 := hno k (by omega)
      have h4 := sz_step k hk
      have h5 : ¬ max n 1 ≤ sz k := fun h => h3 ⟨h, Int.emod_one _⟩
      omega
  | slices s h0 h1 h2 => right; omega
  | segs s h1 h2 => right; omega
theorem align_of (b : Nat) (h : b < 11) : AlignOk (2 ^ b) := by
  unfold AlignOk
  have : ∀ b : Nat, b < 11 → ((2 : Int) ^ b = 1 ∨ (2 : Int) ^ b = 2 ∨ (2 : Int) ^ b = 4 ∨ (2 : Int) ^ b = 8 ∨ (2 : Int) ^ b = 16 ∨ (2 : Int) ^ b = 32 ∨ (2 : Int) ^ b = 64 ∨ (2 : Int) ^ b = 128 ∨ (2 : Int) ^ b = 256 ∨ (2 : Int) ^ b = 512 ∨ (2 : Int) ^ b = 1024) := by decide +kernel
  exact this b h
end Go.Proofs.Ytfgmmehgmepegaa
