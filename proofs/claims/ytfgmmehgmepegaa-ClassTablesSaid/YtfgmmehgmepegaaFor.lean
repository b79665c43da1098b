/- The plan of any size and alignment: which class, how many slices, how many segments. -/
import Derived.Test.YtfgmmehgmepegaaClass
set_option linter.unusedVariables false
set_option linter.unusedSimpArgs false
namespace Go.Proofs.Ytfgmmehgmepegaa
open Go.RowKit
theorem fits_not {m a : Int} {k : Nat} (h : fits m a k = false) (h1 : m ≤ sz k) : decide (sz k % a = 0) = false := by
  unfold fits at h
  simpa [h1] using h
theorem fits_yes {m a : Int} {k : Nat} (h : fits m a k = true) : m ≤ sz k ∧ decide (sz k % a = 0) = true := by
  unfold fits at h
  simpa using h
set_option maxHeartbeats 1000000 in
theorem for_class (n m a : Int) (k : Nat) (hm : n = m ∧ 1 ≤ n ∨ n = 0 ∧ m = 1) (n1 : n ≤ 1048576) (ha : AlignOk a) (hk : k < 12) (hf : fits m a k = true) (hno : ∀ j, j < k → fits m a j = false) (w : World) :
    Calls Try.prog 11 #[.int .u64 n, .int .u64 a] w fun e w' => e = .returned (.tuple #[.agg #[.int .i64 k, .int .i64 (slS k), .int .i64 0, .int .u64 (sz k)], .int .i64 0]) ∧ Kept [] w w' := by
  obtain ⟨hf1, hf2⟩ := fits_yes hf
  have hf3 := (and_fits a ha k hk).trans hf2
  clear hf hf2
  have hp := (small_pow a).2 ha
  obtain ⟨hp, ha1⟩ := hp
  have ha0 : 1 ≤ a := by unfold AlignOk at ha; omega
  have hand := Lib.hid (and_fits a ha)
  have Hno := Lib.hid hno
  have hix := index_at
  have Hix := Lib.hid hix
  clear hno ha hix
  rcases hm with ⟨rfl, hm⟩ | ⟨rfl, rfl⟩
  · go_enter Try.func11, Try.ntmps11
    go_wp2_with fail
    (with_reducible refine (pow2_any _ (by omega) (by omega) _).mono ?_)
    rintro e w1 ⟨rfl, hb1⟩
    have hs1 := hb1.size
    (try simp only [World.size_alloc, World.size_setCell, World.size_drew, size_drewN] at hs1)
    have R : Blk w1 w.heap.size 25 #[.int .i64 0, .int .i64 0, .int .i64 0, .int .u64 0] := by ((with_reducible apply Blk.cast); (case h => (repeat' (first | (with_reducible assumption) | ((with_reducible apply Blk.keep0); (case hk => (with_reducible assumption))) | (with_reducible exact Blk.new _ _ _) | ((with_reducible apply Blk.new'); (case h => (first | (with_reducible rfl) | (simp only [World.size_alloc, World.size_setCell, World.size_drew, size_drewN]; done)))) | (with_reducible apply Blk.alloc) | (with_reducible apply Blk.set_) | ((with_reducible apply Blk.far); (case hp => (simp only []; omega))) | (with_reducible apply Blk.drew) | (with_reducible apply Blk.drewN)))); (case e => rfl))
    have R_c := R.cell
    have R_f := R.frozen
    have R_z := R.lt
    go_wp2_with fail
    (with_reducible refine (sizes_any _).mono ?_)
    rintro e w2 ⟨rfl, hb2⟩
    have hs2 := hb2.size
    (try simp only [World.size_alloc, World.size_setCell, World.size_drew, size_drewN] at hs2)
    clear R_c R_f R_z
    replace R : Blk w2 w.heap.size 25 #[.int .i64 0, .int .i64 0, .int .i64 0, .int .u64 0] := by ((with_reducible apply Blk.cast); (case h => (repeat' (first | (with_reducible assumption) | ((with_reducible apply Blk.keep0); (case hk => (with_reducible assumption))) | (with_reducible exact Blk.new _ _ _) | ((with_reducible apply Blk.new'); (case h => (first | (with_reducible rfl) | (simp only [World.size_alloc, World.size_setCell, World.size_drew, size_drewN]; done)))) | (with_reducible apply Blk.alloc) | (with_reducible apply Blk.set_) | ((with_reducible apply Blk.far); (case hp => (simp only []; omega))) | (with_reducible apply Blk.drew) | (with_reducible apply Blk.drewN)))); (case e => rfl))
    have R_c := R.cell
    have R_f := R.frozen
    have R_z := R.lt
    go_wp2_with fail
    go_loop [25] (fun c => ∃ j : Nat, j ≤ k ∧ c = .int .i64 j) (fun c => (12 - intOf c).toNat)
    case atStart => exact ⟨0, by omega, rfl⟩
    case round =>
      obtain ⟨j, hj, rfl⟩ := hrel
      by_cases hlt : j < k
      · have hb := sz_bd j (by omega)
        have hi := Hix.out j (by omega)
        by_cases h1 : n ≤ sz j
        · have h2 := (hand.out j (by omega)).trans (fits_not (Hno.out j hlt) h1)
          go_wp2_with fail
          go_round
          case rel => exact ⟨j + 1, by omega, by go_num⟩
          case measure => simp [intOf]; omega
        · go_wp2_with fail
          go_round
          case rel => exact ⟨j + 1, by omega, by go_num⟩
          case measure => simp [intOf]; omega
      · obtain rfl : j = k := by omega
        have hb := sz_bd j hk
        have hi := Hix.out j hk
        go_wp2_with fail
        (with_reducible refine (slices_in j hk _).mono ?_)
        rintro e w3 ⟨rfl, hb3⟩
        clear R_c R_f R_z
        have R : Blk w3 w.heap.size 25 #[.int .i64 0, .int .i64 0, .int .i64 0, .int .u64 0] := by ((with_reducible apply Blk.cast); (case h => (repeat' (first | (with_reducible assumption) | ((with_reducible apply Blk.keep0); (case hk => (with_reducible assumption))) | (with_reducible exact Blk.new _ _ _) | ((with_reducible apply Blk.new'); (case h => (first | (with_reducible rfl) | (simp only [World.size_alloc, World.size_setCell, World.size_drew, size_drewN]; done)))) | (with_reducible apply Blk.alloc) | (with_reducible apply Blk.set_) | ((with_reducible apply Blk.far); (case hp => (simp only []; omega))) | (with_reducible apply Blk.drew) | (with_reducible apply Blk.drewN)))); (case e => rfl))
        have R_c := R.cell
        have R_f := R.frozen
        have R_z := R.lt
        have hk3 : Kept [] w w3 := by (repeat' (first | (with_reducible exact Kept.refl _ _) | (with_reducible assumption) | (with_reducible refine Kept.then_ (by with_reducible assumption) ?_) | (with_reducible refine Kept.thenS (by with_reducible assumption) ?_) | (with_reducible refine Kept.alloc ?_ _) | (with_reducible refine Kept.drew ?_) | (with_reducible refine Kept.drewN ?_ _) | (with_reducible refine Kept.setNew ?_ ?_ _) | ((try simp only [World.size_alloc, World.size_setCell, World.size_drew, size_drewN] at *); (try dsimp only); omega)))
        go_wp2_with fail
        refine bodyPost_ret (ret_ct rfl _ _ (w.heap.size) 25 #[.int .i64 j, .int .i64 (slS j), .int .i64 0, .int .u64 (sz j)] _ rfl (by ((with_reducible apply Blk.cast); (case h => (repeat' (first | (with_reducible assumption) | ((with_reducible apply Blk.keep0); (case hk => (with_reducible assumption))) | (with_reducible exact Blk.new _ _ _) | ((with_reducible apply Blk.new'); (case h => (first | (with_reducible rfl) | (simp only [World.size_alloc, World.size_setCell, World.size_drew, size_drewN]; done)))) | (with_reducible apply Blk.alloc) | (with_reducible apply Blk.set_) | ((with_reducible apply Blk.far); (case hp => (simp only []; omega))) | (with_reducible apply Blk.drew) | (with_reducible apply Blk.drewN)))); (case e => rfl))) Try.underlying25 rfl (by kernel_rfl)) rfl ?_
        exact ⟨rfl, by (repeat' (first | (with_reducible exact Kept.refl _ _) | (with_reducible assumption) | (with_reducible refine Kept.then_ (by with_reducible assumption) ?_) | (with_reducible refine Kept.thenS (by with_reducible assumption) ?_) | (with_reducible refine Kept.alloc ?_ _) | (with_reducible refine Kept.drew ?_) | (with_reducible refine Kept.drewN ?_ _) | (with_reducible refine Kept.setNew ?_ ?_ _) | ((try simp only [World.size_alloc, World.size_setCell, World.size_drew, size_drewN] at *); (try dsimp only); omega)))⟩
  · go_enter Try.func11, Try.ntmps11
    go_wp2_with fail
    (with_reducible refine (pow2_any _ (by omega) (by omega) _).mono ?_)
    rintro e w1 ⟨rfl, hb1⟩
    have hs1 := hb1.size
    (try simp only [World.size_alloc, World.size_setCell, World.size_drew, size_drewN] at hs1)
    have R : Blk w1 w.heap.size 25 #[.int .i64 0, .int .i64 0, .int .i64 0, .int .u64 0] := by ((with_reducible apply Blk.cast); (case h => (repeat' (first | (with_reducible assumption) | ((with_reducible apply Blk.keep0); (case hk => (with_reducible assumption))) | (with_reducible exact Blk.new _ _ _) | ((with_reducible apply Blk.new'); (case h => (first | (with_reducible rfl) | (simp only [World.size_alloc, World.size_setCell, World.size_drew, size_drewN]; done)))) | (with_reducible apply Blk.alloc) | (with_reducible apply Blk.set_) | ((with_reducible apply Blk.far); (case hp => (simp only []; omega))) | (with_reducible apply Blk.drew) | (with_reducible apply Blk.drewN)))); (case e => rfl))
    have R_c := R.cell
    have R_f := R.frozen
    have R_z := R.lt
    go_wp2_with fail
    (with_reducible refine (sizes_any _).mono ?_)
    rintro e w2 ⟨rfl, hb2⟩
    have hs2 := hb2.size
    (try simp only [World.size_alloc, World.size_setCell, World.size_drew, size_drewN] at hs2)
    clear R_c R_f R_z
    replace R : Blk w2 w.heap.size 25 #[.int .i64 0, .int .i64 0, .int .i64 0, .int .u64 0] := by ((with_reducible apply Blk.cast); (case h => (repeat' (first | (with_reducible assumption) | ((with_reducible apply Blk.keep0); (case hk => (with_reducible assumption))) | (with_reducible exact Blk.new _ _ _) | ((with_reducible apply Blk.new'); (case h => (first | (with_reducible rfl) | (simp only [World.size_alloc, World.size_setCell, World.size_drew, size_drewN]; done)))) | (with_reducible apply Blk.alloc) | (with_reducible apply Blk.set_) | ((with_reducible apply Blk.far); (case hp => (simp only []; omega))) | (with_reducible apply Blk.drew) | (with_reducible apply Blk.drewN)))); (case e => rfl))
    have R_c := R.cell
    have R_f := R.frozen
    have R_z := R.lt
    go_wp2_with fail
    go_loop [25] (fun c => ∃ j : Nat, j ≤ k ∧ c = .int .i64 j) (fun c => (12 - intOf c).toNat)
    case atStart => exact ⟨0, by omega, rfl⟩
    case round =>
      obtain ⟨j, hj, rfl⟩ := hrel
      by_cases hlt : j < k
      · have hb := sz_bd j (by omega)
        have hi := Hix.out j (by omega)
        by_cases h1 : (1 : Int) ≤ sz j
        · have h2 := (hand.out j (by omega)).trans (fits_not (Hno.out j hlt) h1)
          go_wp2_with fail
          go_round
          case rel => exact ⟨j + 1, by omega, by go_num⟩
          case measure => simp [intOf]; omega
        · exfalso; omega
      · obtain rfl : j = k := by omega
        have hb := sz_bd j hk
        have hi := Hix.out j hk
        go_wp2_with fail
        (with_reducible refine (slices_in j hk _).mono ?_)
        rintro e w3 ⟨rfl, hb3⟩
        clear R_c R_f R_z
        have R : Blk w3 w.heap.size 25 #[.int .i64 0, .int .i64 0, .int .i64 0, .int .u64 0] := by ((with_reducible apply Blk.cast); (case h => (repeat' (first | (with_reducible assumption) | ((with_reducible apply Blk.keep0); (case hk => (with_reducible assumption))) | (with_reducible exact Blk.new _ _ _) | ((with_reducible apply Blk.new'); (case h => (first | (with_reducible rfl) | (simp only [World.size_alloc, World.size_setCell, World.size_drew, size_drewN]; done)))) | (with_reducible apply Blk.alloc) | (with_reducible apply Blk.set_) | ((with_reducible apply Blk.far); (case hp => (simp only []; omega))) | (with_reducible apply Blk.drew) | (with_reducible apply Blk.drewN)))); (case e => rfl))
        have R_c := R.cell
        have R_f := R.frozen
        have R_z := R.lt
        have hk3 : Kept [] w w3 := by (repeat' (first | (with_reducible exact Kept.refl _ _) | (with_reducible assumption) | (with_reducible refine Kept.then_ (by with_reducible assumption) ?_) | (with_reducible refine Kept.thenS (by with_reducible assumption) ?_) | (with_reducible refine Kept.alloc ?_ _) | (with_reducible refine Kept.drew ?_) | (with_reducible refine Kept.drewN ?_ _) | (with_reducible refine Kept.setNew ?_ ?_ _) | ((try simp only [World.size_alloc, World.size_setCell, World.size_drew, size_drewN] at *); (try dsimp only); omega)))
        go_wp2_with fail
        refine bodyPost_ret (ret_ct rfl _ _ (w.heap.size) 25 #[.int .i64 j, .int .i64 (slS j), .int .i64 0, .int .u64 (sz j)] _ rfl (by ((with_reducible apply Blk.cast); (case h => (repeat' (first | (with_reducible assumption) | ((with_reducible apply Blk.keep0); (case hk => (with_reducible assumption))) | (with_reducible exact Blk.new _ _ _) | ((with_reducible apply Blk.new'); (case h => (first | (with_reducible rfl) | (simp only [World.size_alloc, World.size_setCell, World.size_drew, size_drewN]; done)))) | (with_reducible apply Blk.alloc) | (with_reducible apply Blk.set_) | ((with_reducible apply Blk.far); (case hp => (simp only []; omega))) | (with_reducible apply Blk.drew) | (with_reducible apply Blk.drewN)))); (case e => rfl))) Try.underlying25 rfl (by kernel_rfl)) rfl ?_
        exact ⟨rfl, by (repeat' (first | (with_reducible exact Kept.refl _ _) | (with_reducible assumption) | (with_reducible refine Kept.then_ (by with_reducible assumption) ?_) | (with_reducible refine Kept.thenS (by with_reducible assumption) ?_) | (with_reducible refine Kept.alloc ?_ _) | (with_reducible refine Kept.drew ?_) | (with_reducible refine Kept.drewN ?_ _) | (with_reducible refine Kept.setNew ?_ ?_ _) | ((try simp only [World.size_alloc, World.size_setCell, World.size_drew, size_drewN] at *); (try dsimp only); omega)))⟩
set_option maxHeartbeats 1000000 in
theorem for_slices (n m a : Int) (hm : n = m ∧ 1 ≤ n ∨ n = 0 ∧ m = 1) (n1 : n ≤ 1048576) (ha : AlignOk a) (hs : m ≤ 15360) (hno : ∀ j, j < 12 → fits m a j = false) (w : World) :
    Calls Try.prog 11 #[.int .u64 n, .int .u64 a] w fun e w' => e = .returned (.tuple #[.agg #[.int .i64 (-1), .int .i64 ((m + 1024 - 1) / 1024), .int .i64 0, .int .u64 ((m + 1024 - 1) / 1024 * 1024)], .int .i64 0]) ∧ Kept [] w w' := by
  have hp := (small_pow a).2 ha
  obtain ⟨hp, ha1⟩ := hp
  have ha0 : 1 ≤ a := by unfold AlignOk at ha; omega
  have hand := Lib.hid (and_fits a ha)
  have Hno := Lib.hid hno
  have hix := index_at
  have Hix := Lib.hid hix
  clear hno ha hix
  rcases hm with ⟨rfl, hm⟩ | ⟨rfl, rfl⟩
  · go_enter Try.func11, Try.ntmps11
    go_wp2_with fail
    (with_reducible refine (pow2_any _ (by omega) (by omega) _).mono ?_)
    rintro e w1 ⟨rfl, hb1⟩
    have hs1 := hb1.size
    (try simp only [World.size_alloc, World.size_setCell, World.size_drew, size_drewN] at hs1)
    have R : Blk w1 w.heap.size 25 #[.int .i64 0, .int .i64 0, .int .i64 0, .int .u64 0] := by ((with_reducible apply Blk.cast); (case h => (repeat' (first | (with_reducible assumption) | ((with_reducible apply Blk.keep0); (case hk => (with_reducible assumption))) | (with_reducible exact Blk.new _ _ _) | ((with_reducible apply Blk.new'); (case h => (first | (with_reducible rfl) | (simp only [World.size_alloc, World.size_setCell, World.size_drew, size_drewN]; done)))) | (with_reducible apply Blk.alloc) | (with_reducible apply Blk.set_) | ((with_reducible apply Blk.far); (case hp => (simp only []; omega))) | (with_reducible apply Blk.drew) | (with_reducible apply Blk.drewN)))); (case e => rfl))
    have R_c := R.cell
    have R_f := R.frozen
    have R_z := R.lt
    go_wp2_with fail
    (with_reducible refine (sizes_any _).mono ?_)
    rintro e w2 ⟨rfl, hb2⟩
    have hs2 := hb2.size
    (try simp only [World.size_alloc, World.size_setCell, World.size_drew, size_drewN] at hs2)
    clear R_c R_f R_z
    replace R : Blk w2 w.heap.size 25 #[.int .i64 0, .int .i64 0, .int .i64 0, .int .u64 0] := by ((with_reducible apply Blk.cast); (case h => (repeat' (first | (with_reducible assumption) | ((with_reducible apply Blk.keep0); (case hk => (with_reducible assumption))) | (with_reducible exact Blk.new _ _ _) | ((with_reducible apply Blk.new'); (case h => (first | (with_reducible rfl) | (simp only [World.size_alloc, World.size_setCell, World.size_drew, size_drewN]; done)))) | (with_reducible apply Blk.alloc) | (with_reducible apply Blk.set_) | ((with_reducible apply Blk.far); (case hp => (simp only []; omega))) | (with_reducible apply Blk.drew) | (with_reducible apply Blk.drewN)))); (case e => rfl))
    have R_c := R.cell
    have R_f := R.frozen
    have R_z := R.lt
    go_wp2_with fail
    go_loop [25] (fun c => ∃ j : Nat, j ≤ 12 ∧ c = .int .i64 j) (fun c => (12 - intOf c).toNat)
    case atStart => exact ⟨0, by omega, rfl⟩
    case round =>
      obtain ⟨j, hj, rfl⟩ := hrel
      by_cases hlt : j < 12
      · have hb := sz_bd j (by omega)
        have hi := Hix.out j (by omega)
        by_cases h1 : n ≤ sz j
        · have h2 := (hand.out j (by omega)).trans (fits_not (Hno.out j hlt) h1)
          go_wp2_with fail
          go_round
          case rel => exact ⟨j + 1, by omega, by go_num⟩
          case measure => simp [intOf]; omega
        · go_wp2_with fail
          go_round
          case rel => exact ⟨j + 1, by omega, by go_num⟩
          case measure => simp [intOf]; omega
      · obtain rfl : j = 12 := by omega
        go_wp2_with fail
        (with_reducible refine (units_any _ _ (by omega) (by omega) (by omega) (by omega) _).mono ?_)
        rintro e w3 ⟨rfl, hb3⟩
        clear R_c R_f R_z
        have R : Blk w3 w.heap.size 25 #[.int .i64 (-1), .int .i64 0, .int .i64 0, .int .u64 0] := by ((with_reducible apply Blk.cast); (case h => (repeat' (first | (with_reducible assumption) | ((with_reducible apply Blk.keep0); (case hk => (with_reducible assumption))) | (with_reducible exact Blk.new _ _ _) | ((with_reducible apply Blk.new'); (case h => (first | (with_reducible rfl) | (simp only [World.size_alloc, World.size_setCell, World.size_drew, size_drewN]; done)))) | (with_reducible apply Blk.alloc) | (with_reducible apply Blk.set_) | ((with_reducible apply Blk.far); (case hp => (simp only []; omega))) | (with_reducible apply Blk.drew) | (with_reducible apply Blk.drewN)))); (case e => rfl))
        have R_c := R.cell
        have R_f := R.frozen
        have R_z := R.lt
        have hk3 : Kept [] w w3 := by (repeat' (first | (with_reducible exact Kept.refl _ _) | (with_reducible assumption) | (with_reducible refine Kept.then_ (by with_reducible assumption) ?_) | (with_reducible refine Kept.thenS (by with_reducible assumption) ?_) | (with_reducible refine Kept.alloc ?_ _) | (with_reducible refine Kept.drew ?_) | (with_reducible refine Kept.drewN ?_ _) | (with_reducible refine Kept.setNew ?_ ?_ _) | ((try simp only [World.size_alloc, World.size_setCell, World.size_drew, size_drewN] at *); (try dsimp only); omega)))
        go_wp2_with fail
        refine bodyPost_ret (ret_ct rfl _ _ (w.heap.size) 25 #[.int .i64 (-1), .int .i64 ((n + 1024 - 1) / 1024), .int .i64 0, .int .u64 ((n + 1024 - 1) / 1024 * 1024)] _ rfl (by ((with_reducible apply Blk.cast); (case h => (repeat' (first | (with_reducible assumption) | ((with_reducible apply Blk.keep0); (case hk => (with_reducible assumption))) | (with_reducible exact Blk.new _ _ _) | ((with_reducible apply Blk.new'); (case h => (first | (with_reducible rfl) | (simp only [World.size_alloc, World.size_setCell, World.size_drew, size_drewN]; done)))) | (with_reducible apply Blk.alloc) | (with_reducible apply Blk.set_) | ((with_reducible apply Blk.far); (case hp => (simp only []; omega))) | (with_reducible apply Blk.drew) | (with_reducible apply Blk.drewN)))); (case e => rfl))) Try.underlying25 rfl (by kernel_rfl)) rfl ?_
        exact ⟨rfl, by (repeat' (first | (with_reducible exact Kept.refl _ _) | (with_reducible assumption) | (with_reducible refine Kept.then_ (by with_reducible assumption) ?_) | (with_reducible refine Kept.thenS (by with_reducible assumption) ?_) | (with_reducible refine Kept.alloc ?_ _) | (with_reducible refine Kept.drew ?_) | (with_reducible refine Kept.drewN ?_ _) | (with_reducible refine Kept.setNew ?_ ?_ _) | ((try simp only [World.size_alloc, World.size_setCell, World.size_drew, size_drewN] at *); (try dsimp only); omega)))⟩
  · go_enter Try.func11, Try.ntmps11
    go_wp2_with fail
    (with_reducible refine (pow2_any _ (by omega) (by omega) _).mono ?_)
    rintro e w1 ⟨rfl, hb1⟩
    have hs1 := hb1.size
    (try simp only [World.size_alloc, World.size_setCell, World.size_drew, size_drewN] at hs1)
    have R : Blk w1 w.heap.size 25 #[.int .i64 0, .int .i64 0, .int .i64 0, .int .u64 0] := by ((with_reducible apply Blk.cast); (case h => (repeat' (first | (with_reducible assumption) | ((with_reducible apply Blk.keep0); (case hk => (with_reducible assumption))) | (with_reducible exact Blk.new _ _ _) | ((with_reducible apply Blk.new'); (case h => (first | (with_reducible rfl) | (simp only [World.size_alloc, World.size_setCell, World.size_drew, size_drewN]; done)))) | (with_reducible apply Blk.alloc) | (with_reducible apply Blk.set_) | ((with_reducible apply Blk.far); (case hp => (simp only []; omega))) | (with_reducible apply Blk.drew) | (with_reducible apply Blk.drewN)))); (case e => rfl))
    have R_c := R.cell
    have R_f := R.frozen
    have R_z := R.lt
    go_wp2_with fail
    (with_reducible refine (sizes_any _).mono ?_)
    rintro e w2 ⟨rfl, hb2⟩
    have hs2 := hb2.size
    (try simp only [World.size_alloc, World.size_setCell, World.size_drew, size_drewN] at hs2)
    clear R_c R_f R_z
    replace R : Blk w2 w.heap.size 25 #[.int .i64 0, .int .i64 0, .int .i64 0, .int .u64 0] := by ((with_reducible apply Blk.cast); (case h => (repeat' (first | (with_reducible assumption) | ((with_reducible apply Blk.keep0); (case hk => (with_reducible assumption))) | (with_reducible exact Blk.new _ _ _) | ((with_reducible apply Blk.new'); (case h => (first | (with_reducible rfl) | (simp only [World.size_alloc, World.size_setCell, World.size_drew, size_drewN]; done)))) | (with_reducible apply Blk.alloc) | (with_reducible apply Blk.set_) | ((with_reducible apply Blk.far); (case hp => (simp only []; omega))) | (with_reducible apply Blk.drew) | (with_reducible apply Blk.drewN)))); (case e => rfl))
    have R_c := R.cell
    have R_f := R.frozen
    have R_z := R.lt
    go_wp2_with fail
    go_loop [25] (fun c => ∃ j : Nat, j ≤ 12 ∧ c = .int .i64 j) (fun c => (12 - intOf c).toNat)
    case atStart => exact ⟨0, by omega, rfl⟩
    case round =>
      obtain ⟨j, hj, rfl⟩ := hrel
      by_cases hlt : j < 12
      · have hb := sz_bd j (by omega)
        have hi := Hix.out j (by omega)
        by_cases h1 : (1 : Int) ≤ sz j
        · have h2 := (hand.out j (by omega)).trans (fits_not (Hno.out j hlt) h1)
          go_wp2_with fail
          go_round
          case rel => exact ⟨j + 1, by omega, by go_num⟩
          case measure => simp [intOf]; omega
        · exfalso; omega
      · obtain rfl : j = 12 := by omega
        go_wp2_with fail
        (with_reducible refine (units_any _ _ (by omega) (by omega) (by omega) (by omega) _).mono ?_)
        rintro e w3 ⟨rfl, hb3⟩
        clear R_c R_f R_z
        have R : Blk w3 w.heap.size 25 #[.int .i64 (-1), .int .i64 0, .int .i64 0, .int .u64 0] := by ((with_reducible apply Blk.cast); (case h => (repeat' (first | (with_reducible assumption) | ((with_reducible apply Blk.keep0); (case hk => (with_reducible assumption))) | (with_reducible exact Blk.new _ _ _) | ((with_reducible apply Blk.new'); (case h => (first | (with_reducible rfl) | (simp only [World.size_alloc, World.size_setCell, World.size_drew, size_drewN]; done)))) | (with_reducible apply Blk.alloc) | (with_reducible apply Blk.set_) | ((with_reducible apply Blk.far); (case hp => (simp only []; omega))) | (with_reducible apply Blk.drew) | (with_reducible apply Blk.drewN)))); (case e => rfl))
        have R_c := R.cell
        have R_f := R.frozen
        have R_z := R.lt
        have hk3 : Kept [] w w3 := by (repeat' (first | (with_reducible exact Kept.refl _ _) | (with_reducible assumption) | (with_reducible refine Kept.then_ (by with_reducible assumption) ?_) | (with_reducible refine Kept.thenS (by with_reducible assumption) ?_) | (with_reducible refine Kept.alloc ?_ _) | (with_reducible refine Kept.drew ?_) | (with_reducible refine Kept.drewN ?_ _) | (with_reducible refine Kept.setNew ?_ ?_ _) | ((try simp only [World.size_alloc, World.size_setCell, World.size_drew, size_drewN] at *); (try dsimp only); omega)))
        go_wp2_with fail
        refine bodyPost_ret (ret_ct rfl _ _ (w.heap.size) 25 #[.int .i64 (-1), .int .i64 ((1 + 1024 - 1) / 1024), .int .i64 0, .int .u64 ((1 + 1024 - 1) / 1024 * 1024)] _ rfl (by ((with_reducible apply Blk.cast); (case h => (repeat' (first | (with_reducible assumption) | ((with_reducible apply Blk.keep0); (case hk => (with_reducible assumption))) | (with_reducible exact Blk.new _ _ _) | ((with_reducible apply Blk.new'); (case h => (first | (with_reducible rfl) | (simp only [World.size_alloc, World.size_setCell, World.size_drew, size_drewN]; done)))) | (with_reducible apply Blk.alloc) | (with_reducible apply Blk.set_) | ((with_reducible apply Blk.far); (case hp => (simp only []; omega))) | (with_reducible apply Blk.drew) | (with_reducible apply Blk.drewN)))); (case e => rfl))) Try.underlying25 rfl (by kernel_rfl)) rfl ?_
        exact ⟨rfl, by (repeat' (first | (with_reducible exact Kept.refl _ _) | (with_reducible assumption) | (with_reducible refine Kept.then_ (by with_reducible assumption) ?_) | (with_reducible refine Kept.thenS (by with_reducible assumption) ?_) | (with_reducible refine Kept.alloc ?_ _) | (with_reducible refine Kept.drew ?_) | (with_reducible refine Kept.drewN ?_ _) | (with_reducible refine Kept.setNew ?_ ?_ _) | ((try simp only [World.size_alloc, World.size_setCell, World.size_drew, size_drewN] at *); (try dsimp only); omega)))⟩
set_option maxHeartbeats 1000000 in
theorem for_segs (n m a : Int) (hm : n = m ∧ 1 ≤ n ∨ n = 0 ∧ m = 1) (n1 : n ≤ 1048576) (ha : AlignOk a) (hs : 15360 < m) (hno : ∀ j, j < 12 → fits m a j = false) (w : World) :
    Calls Try.prog 11 #[.int .u64 n, .int .u64 a] w fun e w' => e = .returned (.tuple #[.agg #[.int .i64 (-1), .int .i64 0, .int .i64 ((m + 16384 - 1) / 16384), .int .u64 ((m + 16384 - 1) / 16384 * 16384)], .int .i64 0]) ∧ Kept [] w w' := by
  have hp := (small_pow a).2 ha
  obtain ⟨hp, ha1⟩ := hp
  have ha0 : 1 ≤ a := by unfold AlignOk at ha; omega
  have hand := Lib.hid (and_fits a ha)
  have Hno := Lib.hid hno
  have hix := index_at
  have Hix := Lib.hid hix
  clear hno ha hix
  rcases hm with ⟨rfl, hm⟩ | ⟨rfl, rfl⟩
  · go_enter Try.func11, Try.ntmps11
    go_wp2_with fail
    (with_reducible refine (pow2_any _ (by omega) (by omega) _).mono ?_)
    rintro e w1 ⟨rfl, hb1⟩
    have hs1 := hb1.size
    (try simp only [World.size_alloc, World.size_setCell, World.size_drew, size_drewN] at hs1)
    have R : Blk w1 w.heap.size 25 #[.int .i64 0, .int .i64 0, .int .i64 0, .int .u64 0] := by ((with_reducible apply Blk.cast); (case h => (repeat' (first | (with_reducible assumption) | ((with_reducible apply Blk.keep0); (case hk => (with_reducible assumption))) | (with_reducible exact Blk.new _ _ _) | ((with_reducible apply Blk.new'); (case h => (first | (with_reducible rfl) | (simp only [World.size_alloc, World.size_setCell, World.size_drew, size_drewN]; done)))) | (with_reducible apply Blk.alloc) | (with_reducible apply Blk.set_) | ((with_reducible apply Blk.far); (case hp => (simp only []; omega))) | (with_reducible apply Blk.drew) | (with_reducible apply Blk.drewN)))); (case e => rfl))
    have R_c := R.cell
    have R_f := R.frozen
    have R_z := R.lt
    go_wp2_with fail
    (with_reducible refine (sizes_any _).mono ?_)
    rintro e w2 ⟨rfl, hb2⟩
    have hs2 := hb2.size
    (try simp only [World.size_alloc, World.size_setCell, World.size_drew, size_drewN] at hs2)
    clear R_c R_f R_z
    replace R : Blk w2 w.heap.size 25 #[.int .i64 0, .int .i64 0, .int .i64 0, .int .u64 0] := by ((with_reducible apply Blk.cast); (case h => (repeat' (first | (with_reducible assumption) | ((with_reducible apply Blk.keep0); (case hk => (with_reducible assumption))) | (with_reducible exact Blk.new _ _ _) | ((with_reducible apply Blk.new'); (case h => (first | (with_reducible rfl) | (simp only [World.size_alloc, World.size_setCell, World.size_drew, size_drewN]; done)))) | (with_reducible apply Blk.alloc) | (with_reducible apply Blk.set_) | ((with_reducible apply Blk.far); (case hp => (simp only []; omega))) | (with_reducible apply Blk.drew) | (with_reducible apply Blk.drewN)))); (case e => rfl))
    have R_c := R.cell
    have R_f := R.frozen
    have R_z := R.lt
    go_wp2_with fail
    go_loop [25] (fun c => ∃ j : Nat, j ≤ 12 ∧ c = .int .i64 j) (fun c => (12 - intOf c).toNat)
    case atStart => exact ⟨0, by omega, rfl⟩
    case round =>
      obtain ⟨j, hj, rfl⟩ := hrel
      by_cases hlt : j < 12
      · have hb := sz_bd j (by omega)
        have hi := Hix.out j (by omega)
        by_cases h1 : n ≤ sz j
        · exfalso; omega
        · go_wp2_with fail
          go_round
          case rel => exact ⟨j + 1, by omega, by go_num⟩
          case measure => simp [intOf]; omega
      · obtain rfl : j = 12 := by omega
        go_wp2_with fail
        (with_reducible refine (units_any _ _ (by omega) (by omega) (by omega) (by omega) _).mono ?_)
        rintro e w3 ⟨rfl, hb3⟩
        clear R_c R_f R_z
        have R : Blk w3 w.heap.size 25 #[.int .i64 (-1), .int .i64 0, .int .i64 0, .int .u64 0] := by ((with_reducible apply Blk.cast); (case h => (repeat' (first | (with_reducible assumption) | ((with_reducible apply Blk.keep0); (case hk => (with_reducible assumption))) | (with_reducible exact Blk.new _ _ _) | ((with_reducible apply Blk.new'); (case h => (first | (with_reducible rfl) | (simp only [World.size_alloc, World.size_setCell, World.size_drew, size_drewN]; done)))) | (with_reducible apply Blk.alloc) | (with_reducible apply Blk.set_) | ((with_reducible apply Blk.far); (case hp => (simp only []; omega))) | (with_reducible apply Blk.drew) | (with_reducible apply Blk.drewN)))); (case e => rfl))
        have R_c := R.cell
        have R_f := R.frozen
        have R_z := R.lt
        have hk3 : Kept [] w w3 := by (repeat' (first | (with_reducible exact Kept.refl _ _) | (with_reducible assumption) | (with_reducible refine Kept.then_ (by with_reducible assumption) ?_) | (with_reducible refine Kept.thenS (by with_reducible assumption) ?_) | (with_reducible refine Kept.alloc ?_ _) | (with_reducible refine Kept.drew ?_) | (with_reducible refine Kept.drewN ?_ _) | (with_reducible refine Kept.setNew ?_ ?_ _) | ((try simp only [World.size_alloc, World.size_setCell, World.size_drew, size_drewN] at *); (try dsimp only); omega)))
        go_wp2_with fail
        refine bodyPost_ret (ret_ct rfl _ _ (w.heap.size) 25 #[.int .i64 (-1), .int .i64 0, .int .i64 ((n + 16384 - 1) / 16384), .int .u64 ((n + 16384 - 1) / 16384 * 16384)] _ rfl (by ((with_reducible apply Blk.cast); (case h => (repeat' (first | (with_reducible assumption) | ((with_reducible apply Blk.keep0); (case hk => (with_reducible assumption))) | (with_reducible exact Blk.new _ _ _) | ((with_reducible apply Blk.new'); (case h => (first | (with_reducible rfl) | (simp only [World.size_alloc, World.size_setCell, World.size_drew, size_drewN]; done)))) | (with_reducible apply Blk.alloc) | (with_reducible apply Blk.set_) | ((with_reducible apply Blk.far); (case hp => (simp only []; omega))) | (with_reducible apply Blk.drew) | (with_reducible apply Blk.drewN)))); (case e => rfl))) Try.underlying25 rfl (by kernel_rfl)) rfl ?_
        exact ⟨rfl, by (repeat' (first | (with_reducible exact Kept.refl _ _) | (with_reducible assumption) | (with_reducible refine Kept.then_ (by with_reducible assumption) ?_) | (with_reducible refine Kept.thenS (by with_reducible assumption) ?_) | (with_reducible refine Kept.alloc ?_ _) | (with_reducible refine Kept.drew ?_) | (with_reducible refine Kept.drewN ?_ _) | (with_reducible refine Kept.setNew ?_ ?_ _) | ((try simp only [World.size_alloc, World.size_setCell, World.size_drew, size_drewN] at *); (try dsimp only); omega)))⟩
  · omega
/-- The plan of n bytes at multiples of a: class, slices, segments, bytes. -/
def planOf (n a : Int) : Int × Int × Int × Int :=
  match (List.range 12).find? (fits (max n 1) a) with
  | some k => (k, slS k, 0, sz k)
  | none => if max n 1 ≤ 15360 then (-1, (max n 1 + 1023) / 1024, 0, (max n 1 + 1023) / 1024 * 1024) else (-1, 0, (max n 1 + 16383) / 16384, (max n 1 + 16383) / 16384 * 16384)
def planV (p : Int × Int × Int × Int) : Value := .agg #[.int .i64 p.1, .int .i64 p.2.1, .int .i64 p.2.2.1, .int .u64 p.2.2.2]
theorem plan_cases (n a : Int) : (∃ k, k < 12 ∧ fits (max n 1) a k = true ∧ (∀ j, j < k → fits (max n 1) a j = false) ∧ planOf n a = ((k : Int), slS k, 0, sz k)) ∨
    ((∀ j, j < 12 → fits (max n 1) a j = false) ∧ (max n 1 ≤ 15360 ∧ planOf n a = (-1, (max n 1 + 1023) / 1024, 0, (max n 1 + 1023) / 1024 * 1024) ∨ 15360 < max n 1 ∧ planOf n a = (-1, 0, (max n 1 + 16383) / 16384, (max n 1 + 16383) / 16384 * 16384))) := by
  unfold planOf
  cases h : (List.range 12).find? (fits (max n 1) a) with
  | some k =>
    rw [List.find?_range_eq_some] at h
    obtain ⟨h1, h2, h3⟩ := h
    exact .inl ⟨k, by simpa using h2, h1, fun j hj => by simpa using h3 j hj, rfl⟩
  | none =>
    rw [List.find?_range_eq_none] at h
    refine .inr ⟨fun j hj => by simpa using h j hj, ?_⟩
    by_cases hm : max n 1 ≤ 15360
    · exact .inl ⟨hm, by simp [hm]⟩
    · exact .inr ⟨by omega, by simp [hm]⟩
theorem for_ok (n a : Int) (n0 : 0 ≤ n) (n1 : n ≤ 1048576) (ha : AlignOk a) (w : World) :
    Calls Try.prog 11 #[.int .u64 n, .int .u64 a] w fun e w' => e = .returned (.tuple #[planV (planOf n a), .int .i64 0]) ∧ Kept [] w w' := by
  have hm : n = max n 1 ∧ 1 ≤ n ∨ n = 0 ∧ max n 1 = 1 := by omega
  rcases plan_cases n a with ⟨k, hk, hf, hno, e⟩ | ⟨hno, ⟨hs, e⟩ | ⟨hs, e⟩⟩
  · rw [e]; exact for_class n _ a k hm n1 ha hk hf hno w
  · rw [e]
    have c := for_slices n _ a hm n1 ha hs hno w
    rw [show max n 1 + 1024 - 1 = max n 1 + 1023 by omega] at c
    exact c
  · rw [e]
    have c := for_segs n _ a hm n1 ha hs hno w
    rw [show max n 1 + 16384 - 1 = max n 1 + 16383 by omega] at c
    exact c
theorem for_at (n a : Int) (n0 : 0 ≤ n) (n1 : n ≤ 1048576) (ha : AlignOk a) (c s g u : Int) (h : planOf n a = (c, s, g, u)) (w : World) :
    Calls Try.prog 11 #[.int .u64 n, .int .u64 a] w fun e w' => e = .returned (.tuple #[.agg #[.int .i64 c, .int .i64 s, .int .i64 g, .int .u64 u], .int .i64 0]) ∧ Kept [] w w' := by
  have c := for_ok n a n0 n1 ha w
  rw [h] at c
  exact c
theorem plan_a : planOf 17 1 = (1, 1, 0, 32) := by decide +kernel
theorem plan_b : planOf 17 64 = (3, 1, 0, 64) := by decide +kernel
theorem plan_c : planOf 1025 1 = (-1, 2, 0, 2048) := by decide +kernel
theorem plan_d : planOf 20000 1 = (-1, 0, 2, 32768) := by decide +kernel
theorem alive_any (w : World) : Calls Try.prog 10 #[] w fun e w' => e = .returned (.bool true) ∧ Kept [] w w' := by
  go_enter Try.func10, Try.ntmps10
  go_wp2_with fail
  (with_reducible refine (for_at _ _ (by omega) (by omega) (by unfold AlignOk; omega) _ _ _ _ plan_a _).mono ?_)
  rintro e w1 ⟨rfl, hb1⟩
  have hs1 := hb1.size
  (try simp only [World.size_alloc, World.size_setCell, World.size_drew, size_drewN] at hs1)
  go_wp2_with fail
  (with_reducible refine (for_at _ _ (by omega) (by omega) (by unfold AlignOk; omega) _ _ _ _ plan_b _).mono ?_)
  rintro e w2 ⟨rfl, hb2⟩
  have hs2 := hb2.size
  (try simp only [World.size_alloc, World.size_setCell, World.size_drew, size_drewN] at hs2)
  have B1 : Blk w2 w1.heap.size 25 #[.int .i64 1, .int .i64 1, .int .i64 0, .int .u64 32] := by ((with_reducible apply Blk.cast); (case h => (repeat' (first | (with_reducible assumption) | ((with_reducible apply Blk.keep0); (case hk => (with_reducible assumption))) | (with_reducible exact Blk.new _ _ _) | ((with_reducible apply Blk.new'); (case h => (first | (with_reducible rfl) | (simp only [World.size_alloc, World.size_setCell, World.size_drew, size_drewN]; done)))) | (with_reducible apply Blk.alloc) | (with_reducible apply Blk.set_) | ((with_reducible apply Blk.far); (case hp => (simp only []; omega))) | (with_reducible apply Blk.drew) | (with_reducible apply Blk.drewN)))); (case e => rfl))
  have B1_c := B1.cell
  have B1_f := B1.frozen
  have B1_z := B1.lt
  go_wp2_with fail
  (with_reducible refine (for_at _ _ (by omega) (by omega) (by unfold AlignOk; omega) _ _ _ _ plan_c _).mono ?_)
  rintro e w3 ⟨rfl, hb3⟩
  have hs3 := hb3.size
  (try simp only [World.size_alloc, World.size_setCell, World.size_drew, size_drewN] at hs3)
  clear B1_c B1_f B1_z
  replace B1 : Blk w3 w1.heap.size 25 #[.int .i64 1, .int .i64 1, .int .i64 0, .int .u64 32] := by ((with_reducible apply Blk.cast); (case h => (repeat' (first | (with_reducible assumption) | ((with_reducible apply Blk.keep0); (case hk => (with_reducible assumption))) | (with_reducible exact Blk.new _ _ _) | ((with_reducible apply Blk.new'); (case h => (first | (with_reducible rfl) | (simp only [World.size_alloc, World.size_setCell, World.size_drew, size_drewN]; done)))) | (with_reducible apply Blk.alloc) | (with_reducible apply Blk.set_) | ((with_reducible apply Blk.far); (case hp => (simp only []; omega))) | (with_reducible apply Blk.drew) | (with_reducible apply Blk.drewN)))); (case e => rfl))
  have B1_c := B1.cell
  have B1_f := B1.frozen
  have B1_z := B1.lt
  have B2 : Blk w3 w2.heap.size 25 #[.int .i64 3, .int .i64 1, .int .i64 0, .int .u64 64] := by ((with_reducible apply Blk.cast); (case h => (repeat' (first | (with_reducible assumption) | ((with_reducible apply Blk.keep0); (case hk => (with_reducible assumption))) | (with_reducible exact Blk.new _ _ _) | ((with_reducible apply Blk.new'); (case h => (first | (with_reducible rfl) | (simp only [World.size_alloc, World.size_setCell, World.size_drew, size_drewN]; done)))) | (with_reducible apply Blk.alloc) | (with_reducible apply Blk.set_) | ((with_reducible apply Blk.far); (case hp => (simp only []; omega))) | (with_reducible apply Blk.drew) | (with_reducible apply Blk.drewN)))); (case e => rfl))
  have B2_c := B2.cell
  have B2_f := B2.frozen
  have B2_z := B2.lt
  go_wp2_with fail
  (with_reducible refine (for_at _ _ (by omega) (by omega) (by unfold AlignOk; omega) _ _ _ _ plan_d _).mono ?_)
  rintro e w4 ⟨rfl, hb4⟩
  have hs4 := hb4.size
  (try simp only [World.size_alloc, World.size_setCell, World.size_drew, size_drewN] at hs4)
  clear B1_c B1_f B1_z
  replace B1 : Blk w4 w1.heap.size 25 #[.int .i64 1, .int .i64 1, .int .i64 0, .int .u64 32] := by ((with_reducible apply Blk.cast); (case h => (repeat' (first | (with_reducible assumption) | ((with_reducible apply Blk.keep0); (case hk => (with_reducible assumption))) | (with_reducible exact Blk.new _ _ _) | ((with_reducible apply Blk.new'); (case h => (first | (with_reducible rfl) | (simp only [World.size_alloc, World.size_setCell, World.size_drew, size_drewN]; done)))) | (with_reducible apply Blk.alloc) | (with_reducible apply Blk.set_) | ((with_reducible apply Blk.far); (case hp => (simp only []; omega))) | (with_reducible apply Blk.drew) | (with_reducible apply Blk.drewN)))); (case e => rfl))
  have B1_c := B1.cell
  have B1_f := B1.frozen
  have B1_z := B1.lt
  clear B2_c B2_f B2_z
  replace B2 : Blk w4 w2.heap.size 25 #[.int .i64 3, .int .i64 1, .int .i64 0, .int .u64 64] := by ((with_reducible apply Blk.cast); (case h => (repeat' (first | (with_reducible assumption) | ((with_reducible apply Blk.keep0); (case hk => (with_reducible assumption))) | (with_reducible exact Blk.new _ _ _) | ((with_reducible apply Blk.new'); (case h => (first | (with_reducible rfl) | (simp only [World.size_alloc, World.size_setCell, World.size_drew, size_drewN]; done)))) | (with_reducible apply Blk.alloc) | (with_reducible apply Blk.set_) | ((with_reducible apply Blk.far); (case hp => (simp only []; omega))) | (with_reducible apply Blk.drew) | (with_reducible apply Blk.drewN)))); (case e => rfl))
  have B2_c := B2.cell
  have B2_f := B2.frozen
  have B2_z := B2.lt
  have B3 : Blk w4 w3.heap.size 25 #[.int .i64 (-1), .int .i64 2, .int .i64 0, .int .u64 2048] := by ((with_reducible apply Blk.cast); (case h => (repeat' (first | (with_reducible assumption) | ((with_reducible apply Blk.keep0); (case hk => (with_reducible assumption))) | (with_reducible exact Blk.new _ _ _) | ((with_reducible apply Blk.new'); (case h => (first | (with_reducible rfl) | (simp only [World.size_alloc, World.size_setCell, World.size_drew, size_drewN]; done)))) | (with_reducible apply Blk.alloc) | (with_reducible apply Blk.set_) | ((with_reducible apply Blk.far); (case hp => (simp only []; omega))) | (with_reducible apply Blk.drew) | (with_reducible apply Blk.drewN)))); (case e => rfl))
  have B3_c := B3.cell
  have B3_f := B3.frozen
  have B3_z := B3.lt
  go_wp2_with fail
  go_ret
  exact ⟨rfl, by (repeat' (first | (with_reducible exact Kept.refl _ _) | (with_reducible assumption) | (with_reducible refine Kept.then_ (by with_reducible assumption) ?_) | (with_reducible refine Kept.thenS (by with_reducible assumption) ?_) | (with_reducible refine Kept.alloc ?_ _) | (with_reducible refine Kept.drew ?_) | (with_reducible refine Kept.drewN ?_ _) | (with_reducible refine Kept.setNew ?_ ?_ _) | ((try simp only [World.size_alloc, World.size_setCell, World.size_drew, size_drewN] at *); (try dsimp only); omega)))⟩
end Go.Proofs.Ytfgmmehgmepegaa
