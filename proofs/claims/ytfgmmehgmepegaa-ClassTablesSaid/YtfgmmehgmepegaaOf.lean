/- The class of a size: the library's binary search over the twelve sizes. -/
import Derived.Test.YtfgmmehgmepegaaPlan
set_option linter.unusedVariables false
set_option linter.unusedSimpArgs false
namespace Go.Proofs.Ytfgmmehgmepegaa
open Go.RowKit
theorem cnan_any (x : Int) (w : World) : Calls Try.prog 29 #[.int .u64 x] w fun e w' => e = .returned (.bool false) ∧ Kept [] w w' := by
  go_enter Try.func29, Try.ntmps29
  go_wp2
  go_ret
  exact ⟨ret_bool (by simp), by (repeat' (first | (with_reducible exact Kept.refl _ _) | (with_reducible assumption) | (with_reducible refine Kept.then_ (by with_reducible assumption) ?_) | (with_reducible refine Kept.thenS (by with_reducible assumption) ?_) | (with_reducible refine Kept.alloc ?_ _) | (with_reducible refine Kept.drew ?_) | (with_reducible refine Kept.drewN ?_ _) | (with_reducible refine Kept.setNew ?_ ?_ _) | ((try simp only [World.size_alloc, World.size_setCell, World.size_drew, size_drewN] at *); (try dsimp only); omega)))⟩
theorem snan_any (x : Int) (w : World) : Calls Try.prog 28 #[.int .u64 x] w fun e w' => e = .returned (.bool false) ∧ Kept [] w w' := by
  go_enter Try.func28, Try.ntmps28
  go_wp2
  go_ret
  exact ⟨ret_bool (by simp), by (repeat' (first | (with_reducible exact Kept.refl _ _) | (with_reducible assumption) | (with_reducible refine Kept.then_ (by with_reducible assumption) ?_) | (with_reducible refine Kept.thenS (by with_reducible assumption) ?_) | (with_reducible refine Kept.alloc ?_ _) | (with_reducible refine Kept.drew ?_) | (with_reducible refine Kept.drewN ?_ _) | (with_reducible refine Kept.setNew ?_ ?_ _) | ((try simp only [World.size_alloc, World.size_setCell, World.size_drew, size_drewN] at *); (try dsimp only); omega)))⟩
theorem less_any (x y : Int) (w : World) : Calls Try.prog 27 #[.int .u64 x, .int .u64 y] w fun e w' => e = .returned (.bool (decide (x < y))) ∧ Kept [] w w' := by
  go_enter Try.func27, Try.ntmps27
  go_wp2_with fail
  (with_reducible refine (cnan_any _ _).mono ?_)
  rintro e w1 ⟨rfl, hb1⟩
  have hs1 := hb1.size
  (try simp only [World.size_alloc, World.size_setCell, World.size_drew, size_drewN] at hs1)
  go_wp2_with fail
  go_ret
  exact ⟨rfl, by (repeat' (first | (with_reducible exact Kept.refl _ _) | (with_reducible assumption) | (with_reducible refine Kept.then_ (by with_reducible assumption) ?_) | (with_reducible refine Kept.thenS (by with_reducible assumption) ?_) | (with_reducible refine Kept.alloc ?_ _) | (with_reducible refine Kept.drew ?_) | (with_reducible refine Kept.drewN ?_ _) | (with_reducible refine Kept.setNew ?_ ?_ _) | ((try simp only [World.size_alloc, World.size_setCell, World.size_drew, size_drewN] at *); (try dsimp only); omega)))⟩
set_option maxRecDepth 100000 in
set_option maxHeartbeats 1000000 in
theorem search_at (n : Int) (k : Nat) (hk : k < 12) (h1 : n ≤ sz k) (h2 : ∀ j, j < k → sz j < n) (b : Nat) (t : TypeId) (w : World) (hB : Blk w b t szA) :
    Calls Try.prog 25 #[.slice (some ⟨b, 0, none⟩) 12 12, .int .u64 n] w fun e w' => (∃ q, e = .returned (.tuple #[.int .i64 k, .bool q])) ∧ Kept [] w w' := by
  have hc : ∀ (w' : World), Kept [] w w' → ∀ j : Nat, j < 12 → w'.cell? ⟨b, j, none⟩ = some (.int .u64 (sz j)) := fun w' hw j hj => ((hB.keep0 hw).cell j).trans (szA_at j hj)
  have HC := Lib.hid hc
  have H2 := Lib.hid h2
  clear hc h2 hB
  go_enter Try.func25, Try.ntmps25
  go_wp2
  go_loopw [7, 8] (fun c d wr => ∃ i j : Nat, i ≤ k ∧ k ≤ j ∧ j ≤ 12 ∧ c = .int .i64 i ∧ d = .int .i64 j ∧ Kept [] w wr) (fun c d _ => (intOf d - intOf c).toNat)
  case atStart => exact ⟨0, 12, by omega, by omega, by omega, rfl, rfl, Kept.refl _ _⟩
  case round =>
    obtain ⟨i, j, hi, hj, hj2, rfl, rfl, hkr⟩ := hrel
    by_cases hlt : i < j
    · obtain ⟨m, hmi, hm1, hm2⟩ : ∃ m : Nat, ((i : Int) + j) / 2 = m ∧ i ≤ m ∧ m < j := ⟨(i + j) / 2, by omega, by omega, by omega⟩
      have hcell := HC.out _ hkr m (by omega)
      have hb := sz_bd m (by omega)
      by_cases hx : m < k
      · have hl := H2.out m hx
        go_wp2_with fail
        (with_reducible refine (less_any _ _ _).mono ?_)
        rintro e w1 ⟨rfl, hb1⟩
        have hs1 := hb1.size
        (try simp only [World.size_alloc, World.size_setCell, World.size_drew, size_drewN] at hs1)
        go_wp2_with fail
        go_roundw
        case rel => exact ⟨m + 1, j, by omega, by omega, by omega, by go_num, rfl, by (repeat' (first | (with_reducible exact Kept.refl _ _) | (with_reducible assumption) | (with_reducible refine Kept.then_ (by with_reducible assumption) ?_) | (with_reducible refine Kept.thenS (by with_reducible assumption) ?_) | (with_reducible refine Kept.alloc ?_ _) | (with_reducible refine Kept.drew ?_) | (with_reducible refine Kept.drewN ?_ _) | (with_reducible refine Kept.setNew ?_ ?_ _) | ((try simp only [World.size_alloc, World.size_setCell, World.size_drew, size_drewN] at *); (try dsimp only); omega)))⟩
        case measure => simp [intOf]; omega
      · have hl := sz_mono k m (by omega) (by omega)
        go_wp2_with fail
        (with_reducible refine (less_any _ _ _).mono ?_)
        rintro e w1 ⟨rfl, hb1⟩
        have hs1 := hb1.size
        (try simp only [World.size_alloc, World.size_setCell, World.size_drew, size_drewN] at hs1)
        go_wp2_with fail
        go_roundw
        case rel => exact ⟨i, m, by omega, by omega, by omega, rfl, rfl, by (repeat' (first | (with_reducible exact Kept.refl _ _) | (with_reducible assumption) | (with_reducible refine Kept.then_ (by with_reducible assumption) ?_) | (with_reducible refine Kept.thenS (by with_reducible assumption) ?_) | (with_reducible refine Kept.alloc ?_ _) | (with_reducible refine Kept.drew ?_) | (with_reducible refine Kept.drewN ?_ _) | (with_reducible refine Kept.setNew ?_ ?_ _) | ((try simp only [World.size_alloc, World.size_setCell, World.size_drew, size_drewN] at *); (try dsimp only); omega)))⟩
        case measure => simp [intOf]; omega
    · obtain rfl : i = k := by omega
      have hcell := HC.out _ hkr i hk
      by_cases hx : sz i = n
      · go_wp2_with fail
        go_ret2
        exact ⟨⟨_, rfl⟩, by (repeat' (first | (with_reducible exact Kept.refl _ _) | (with_reducible assumption) | (with_reducible refine Kept.then_ (by with_reducible assumption) ?_) | (with_reducible refine Kept.thenS (by with_reducible assumption) ?_) | (with_reducible refine Kept.alloc ?_ _) | (with_reducible refine Kept.drew ?_) | (with_reducible refine Kept.drewN ?_ _) | (with_reducible refine Kept.setNew ?_ ?_ _) | ((try simp only [World.size_alloc, World.size_setCell, World.size_drew, size_drewN] at *); (try dsimp only); omega)))⟩
      · go_wp2_with fail
        (with_reducible refine (snan_any _ _).mono ?_)
        rintro e w1 ⟨rfl, hb1⟩
        have hs1 := hb1.size
        (try simp only [World.size_alloc, World.size_setCell, World.size_drew, size_drewN] at hs1)
        go_wp2_with fail
        go_ret2
        exact ⟨⟨_, rfl⟩, by (repeat' (first | (with_reducible exact Kept.refl _ _) | (with_reducible assumption) | (with_reducible refine Kept.then_ (by with_reducible assumption) ?_) | (with_reducible refine Kept.thenS (by with_reducible assumption) ?_) | (with_reducible refine Kept.alloc ?_ _) | (with_reducible refine Kept.drew ?_) | (with_reducible refine Kept.drewN ?_ _) | (with_reducible refine Kept.setNew ?_ ?_ _) | ((try simp only [World.size_alloc, World.size_setCell, World.size_drew, size_drewN] at *); (try dsimp only); omega)))⟩
theorem cls_ex (n : Int) (h : n ≤ 1024) : ∃ k : Nat, k < 12 ∧ n ≤ sz k ∧ ∀ j, j < k → sz j < n := by
  have e : ∃ k : Nat, n ≤ sz k ∧ k < 12 := ⟨11, by rw [sz_11]; exact h, by omega⟩
  have : ∀ K : Nat, (∃ k, k ≤ K ∧ n ≤ sz k ∧ k < 12) → ∃ k : Nat, k < 12 ∧ n ≤ sz k ∧ ∀ j, j < k → sz j < n := by
    intro K
    induction K with
    | zero => rintro ⟨k, h1, h2, h3⟩; exact ⟨k, h3, h2, fun j hj => by omega⟩
    | succ K ih =>
      rintro ⟨k, h1, h2, h3⟩
      by_cases h4 : ∃ j, j < k ∧ n ≤ sz j
      · obtain ⟨j, h5, h6⟩ := h4
        exact ih ⟨j, by omega, h6, by omega⟩
      · exact ⟨k, h3, h2, fun j hj => by
          rcases Int.lt_or_le (sz j) n with h5 | h5
          · exact h5
          · exact absurd ⟨j, hj, h5⟩ h4⟩
  obtain ⟨k, h1, h2⟩ := e
  exact this k ⟨k, by omega, h1, h2⟩
theorem of_in (n : Int) (k : Nat) (n0 : 0 ≤ n) (n1 : n ≤ 1024) (hk : k < 12) (h1 : n ≤ sz k) (h2 : ∀ j, j < k → sz j < n) (w : World) :
    Calls Try.prog 16 #[.int .u64 n] w fun e w' => e = .returned (.tuple #[.int .i64 k, .int .i64 0]) ∧ Kept [] w w' := by
  have c := fun b t w (hB : Blk w b t #[.int .u64 16, .int .u64 32, .int .u64 48, .int .u64 64, .int .u64 96, .int .u64 128, .int .u64 192, .int .u64 256, .int .u64 384, .int .u64 512, .int .u64 768, .int .u64 1024]) => search_at n k hk h1 h2 b t w hB
  have C := Lib.hid c
  clear c h1 h2
  go_enter Try.func16, Try.ntmps16
  go_wp2_with fail
  (with_reducible refine (sizes_any _).mono ?_)
  rintro e w1 ⟨rfl, hb1⟩
  have hs1 := hb1.size
  (try simp only [World.size_alloc, World.size_setCell, World.size_drew, size_drewN] at hs1)
  go_wp2_with fail
  (with_reducible refine (C.out _ 52 _ (by ((with_reducible apply Blk.cast); (case h => (repeat' (first | (with_reducible assumption) | ((with_reducible apply Blk.keep0); (case hk => (with_reducible assumption))) | (with_reducible exact Blk.new _ _ _) | ((with_reducible apply Blk.new'); (case h => (first | (with_reducible rfl) | (simp only [World.size_alloc, World.size_setCell, World.size_drew, size_drewN]; done)))) | (with_reducible apply Blk.alloc) | (with_reducible apply Blk.set_) | ((with_reducible apply Blk.far); (case hp => (simp only []; omega))) | (with_reducible apply Blk.drew) | (with_reducible apply Blk.drewN)))); (case e => rfl)))).mono ?_)
  rintro e w2 ⟨⟨q, rfl⟩, hb2⟩
  have hs2 := hb2.size
  (try simp only [World.size_alloc, World.size_setCell, World.size_drew, size_drewN] at hs2)
  go_wp2_with fail
  go_ret2
  exact ⟨rfl, by (repeat' (first | (with_reducible exact Kept.refl _ _) | (with_reducible assumption) | (with_reducible refine Kept.then_ (by with_reducible assumption) ?_) | (with_reducible refine Kept.thenS (by with_reducible assumption) ?_) | (with_reducible refine Kept.alloc ?_ _) | (with_reducible refine Kept.drew ?_) | (with_reducible refine Kept.drewN ?_ _) | (with_reducible refine Kept.setNew ?_ ?_ _) | ((try simp only [World.size_alloc, World.size_setCell, World.size_drew, size_drewN] at *); (try dsimp only); omega)))⟩
theorem of_out (n : Int) (n1 : 1024 < n) (w : World) :
    Calls Try.prog 16 #[.int .u64 n] w fun e w' => e = .returned (.tuple #[.int .i64 0, .int .i64 2]) ∧ Kept [] w w' := by
  go_enter Try.func16, Try.ntmps16
  go_wp2
  go_ret2
  exact ⟨rfl, by (repeat' (first | (with_reducible exact Kept.refl _ _) | (with_reducible assumption) | (with_reducible refine Kept.then_ (by with_reducible assumption) ?_) | (with_reducible refine Kept.thenS (by with_reducible assumption) ?_) | (with_reducible refine Kept.alloc ?_ _) | (with_reducible refine Kept.drew ?_) | (with_reducible refine Kept.drewN ?_ _) | (with_reducible refine Kept.setNew ?_ ?_ _) | ((try simp only [World.size_alloc, World.size_setCell, World.size_drew, size_drewN] at *); (try dsimp only); omega)))⟩
end Go.Proofs.Ytfgmmehgmepegaa
