/- The document's own plan. -/
import Derived.Test.YtfgmmehgmepegaaOf
set_option linter.unusedVariables false
set_option linter.unusedSimpArgs false
namespace Go.Proofs.Ytfgmmehgmepegaa
open Go.RowKit
theorem kinds {n a c s g u : Int} (n0 : 0 ≤ n) (n1 : n ≤ 1048576) (h : PlanIs n a c s g u) :
    (∃ k : Nat, k < 12 ∧ c = k ∧ s = slS k ∧ g = 0 ∧ u = sz k ∧ n ≤ u ∧ u % a = 0 ∧ ∀ j, j < k → n ≤ sz j → ¬ sz j % a = 0) ∨
    (c = -1 ∧ g = 0 ∧ u = s * 1024 ∧ 1 ≤ s ∧ s < 16 ∧ n ≤ s * 1024 ∧ s * 1024 < n + 1024 ∧ 1024 < n) ∨ (c = -1 ∧ s = 0 ∧ u = g * 16384 ∧ 1 ≤ g ∧ g < 100 ∧ n ≤ g * 16384 ∧ g * 16384 < n + 16384 ∧ 15360 < n) := by
  have e := h.enough n0
  cases h with
  | cls k hk h2 h3 hno => exact .inl ⟨k, hk, rfl, rfl, rfl, rfl, e.1, h3, fun j hj h hh => hno j hj ⟨by have := sz_bd j (by omega); omega, hh⟩⟩
  | slices s h0 h2 h3 => right; left; omega
  | segs s h0 h2 => right; right; omega
theorem refsizes_any (w : World) : Calls Try.prog 18 #[] w fun e w' => e = .returned (.slice (some ⟨w.heap.size, 0, none⟩) 12 12) ∧ Blk w' w.heap.size 22 szA ∧ Kept [] w w' := by
  go_enter Try.func18, Try.ntmps18
  go_wp2
  go_ret
  exact ⟨rfl, Blk.new _ _ _, by (repeat' (first | (with_reducible exact Kept.refl _ _) | (with_reducible assumption) | (with_reducible refine Kept.then_ (by with_reducible assumption) ?_) | (with_reducible refine Kept.thenS (by with_reducible assumption) ?_) | (with_reducible refine Kept.alloc ?_ _) | (with_reducible refine Kept.drew ?_) | (with_reducible refine Kept.drewN ?_ _) | (with_reducible refine Kept.setNew ?_ ?_ _) | ((try simp only [World.size_alloc, World.size_setCell, World.size_drew, size_drewN] at *); (try dsimp only); omega)))⟩
theorem refslices_in (k : Nat) (h : k < 12) (w : World) : Calls Try.prog 19 #[.int .i64 k] w fun e w' => e = .returned (.int .i64 (slS k)) ∧ Kept [] w w' := by
  have hb := sz_bd k h
  have hd : (sz k ≤ 256 ∧ slS k = 1) ∨ (256 < sz k ∧ sz k ≤ 512 ∧ slS k = 2) ∨ (512 < sz k ∧ slS k = 4) := by
    unfold slS
    by_cases h1 : sz k ≤ 256
    · left; exact ⟨h1, if_pos h1⟩
    · rw [if_neg h1]
      by_cases h2 : sz k ≤ 512
      · right; left; exact ⟨by omega, h2, if_pos h2⟩
      · right; right; exact ⟨by omega, if_neg h2⟩
  have hc := fun w' (B : Blk w' w.heap.size 22 szA) => (B.cell k).trans (szA_at k h)
  have HC := Lib.hid hc
  clear hc
  rcases hd with ⟨h1, e1⟩ | ⟨h1, h2, e1⟩ | ⟨h1, e1⟩ <;>
  · rw [e1]
    clear e1
    go_enter Try.func19, Try.ntmps19
    go_wp2_with fail
    (with_reducible refine (refsizes_any _).mono ?_)
    rintro e w1 ⟨rfl, B, hb1⟩
    have hs1 := hb1.size
    (try simp only [World.size_alloc, World.size_setCell, World.size_drew, size_drewN] at hs1)
    have hc := HC.out _ B
    go_wp2_with fail
    go_ret
    exact ⟨rfl, by (repeat' (first | (with_reducible exact Kept.refl _ _) | (with_reducible assumption) | (with_reducible refine Kept.then_ (by with_reducible assumption) ?_) | (with_reducible refine Kept.thenS (by with_reducible assumption) ?_) | (with_reducible refine Kept.alloc ?_ _) | (with_reducible refine Kept.drew ?_) | (with_reducible refine Kept.drewN ?_ _) | (with_reducible refine Kept.setNew ?_ ?_ _) | ((try simp only [World.size_alloc, World.size_setCell, World.size_drew, size_drewN] at *); (try dsimp only); omega)))⟩
def okAt : Nat → Int → Bool | 0, _ => false | j + 1, a => okAt j a || ((2 : Int) ^ j == a)
theorem okAt_11 (a : Int) : okAt 11 a = true ↔ AlignOk a := by
  simp only [okAt, AlignOk, Bool.or_eq_true, beq_iff_eq]
  constructor
  · rintro (((((((((((h | h) | h) | h) | h) | h) | h) | h) | h) | h) | h) | h) <;> first | (cases h; done) | (simp at h; omega)
  · intro h
    simp only [Nat.reduceAdd, Int.reducePow]
    omega
theorem pow_bd (j : Nat) (h : j < 11) : 1 ≤ (2 : Int) ^ j ∧ (2 : Int) ^ j ≤ 1024 ∧ (2 : Int) ^ j * 2 = 2 ^ (j + 1) := by
  have : ∀ j : Nat, j < 11 → 1 ≤ (2 : Int) ^ j ∧ (2 : Int) ^ j ≤ 1024 ∧ (2 : Int) ^ j * 2 = 2 ^ (j + 1) := by decide +kernel
  exact this j h
set_option maxRecDepth 100000 in
set_option maxHeartbeats 2000000 in
theorem reffor_ok (n m a c s g u : Int) (hm : n = m ∧ 1 ≤ n ∨ n = 0 ∧ m = 1) (n1 : n ≤ 1048576) (ha : AlignOk a) (hp : PlanIs n a c s g u) (w : World) :
    Calls Try.prog 12 #[.int .u64 n, .int .u64 a] w fun e w' => e = .returned (.tuple #[.agg #[.int .i64 c, .int .i64 s, .int .i64 g, .int .u64 u], .int .i64 0]) ∧ Kept [] w w' := by
  have a1 : 1 ≤ a ∧ a ≤ 1024 := by unfold AlignOk at ha; omega
  have hk := Lib.hid (kinds (n := n) (by omega) n1 hp)
  have H11 : Hid (okAt 11 a = true) := Lib.hid ((okAt_11 a).2 ha)
  clear hp ha
  go_enter Try.func12, Try.ntmps12
  go_wp2
  go_loop [6, 7] (fun c d => ∃ j : Nat, j ≤ 11 ∧ c = .bool (okAt j a) ∧ d = .int .u64 (2 ^ j)) (fun _ d => (2048 - intOf d).toNat)
  case atStart => exact ⟨0, by omega, rfl, rfl⟩
  case round =>
    obtain ⟨j, hj, rfl, rfl⟩ := hrel
    by_cases hlt : j < 11
    · obtain ⟨p1, p2, p3⟩ := pow_bd j hlt
      have HJ := Lib.hid (show okAt (j + 1) a = (okAt j a || ((2 : Int) ^ j == a)) from rfl)
      have P3 := Lib.hid p3
      clear p3
      generalize (2 : Int) ^ j = x at *
      generalize okAt j a = o at *
      cases o
      · go_wp2_with fail
        go_round
        case rel => exact ⟨j + 1, by omega, by rw [HJ.out]; first | rfl | simp, by rw [← P3.out]⟩
        case measure => simp [intOf]; omega
      · go_wp2_with fail
        go_round
        case rel => exact ⟨j + 1, by omega, by rw [HJ.out]; first | rfl | simp, by rw [← P3.out]⟩
        case measure => simp [intOf]; omega
    · obtain rfl : j = 11 := by omega
      rw [H11.out, show (2 : Int) ^ 11 = 2048 from rfl]
      clear H11
      rcases hk.out with ⟨k, hk, rfl, rfl, rfl, rfl, hn1, hmm, hno⟩ | ⟨rfl, rfl, rfl, h1, h2, h3, h4, h5⟩ | ⟨rfl, rfl, rfl, h1, h2, h3, h4, h5⟩
      · clear hk
        rename_i hk
        have Hno := Lib.hid hno
        clear hno
        rcases hm with ⟨rfl, hm⟩ | ⟨rfl, rfl⟩
        · go_wp2_with fail
          (with_reducible refine (refsizes_any _).mono ?_)
          rintro e w1 ⟨rfl, B, hb1⟩
          have hs1 := hb1.size
          (try simp only [World.size_alloc, World.size_setCell, World.size_drew, size_drewN] at hs1)
          have R : Blk w1 w.heap.size 29 #[.int .i64 0, .int .i64 0, .int .i64 0, .int .u64 0] := by ((with_reducible apply Blk.cast); (case h => (repeat' (first | (with_reducible assumption) | ((with_reducible apply Blk.keep0); (case hk => (with_reducible assumption))) | (with_reducible exact Blk.new _ _ _) | ((with_reducible apply Blk.new'); (case h => (first | (with_reducible rfl) | (simp only [World.size_alloc, World.size_setCell, World.size_drew, size_drewN]; done)))) | (with_reducible apply Blk.alloc) | (with_reducible apply Blk.set_) | ((with_reducible apply Blk.far); (case hp => (simp only []; omega))) | (with_reducible apply Blk.drew) | (with_reducible apply Blk.drewN)))); (case e => rfl))
          have R_c := R.cell
          have R_f := R.frozen
          have R_z := R.lt
          simp only [World.size_alloc] at B
          have hc : ∀ j : Nat, j < 12 → w1.cell? ⟨w.heap.size + 1, j, none⟩ = some (.int .u64 (sz j)) := fun j hj => (B.cell j).trans (szA_at j hj)
          have HC := Lib.hid hc
          clear hc
          go_wp2_with fail
          go_loop [33] (fun c => ∃ j : Nat, j ≤ k ∧ c = .int .i64 j) (fun c => (12 - intOf c).toNat)
          case atStart => exact ⟨0, by omega, rfl⟩
          case round =>
            obtain ⟨j, hj, rfl⟩ := hrel
            have hc := HC.out j (by omega)
            have hb := sz_bd j (by omega)
            by_cases hlt : j < k
            · by_cases h1 : n ≤ sz j
              · have h2 := Hno.out j hlt (by omega)
                go_wp2_with fail
                go_round
                case rel => exact ⟨j + 1, by omega, by go_num⟩
                case measure => simp [intOf]; omega
              · go_wp2_with fail
                go_round
                case rel => exact ⟨j + 1, by omega, by go_num⟩
                case measure => simp [intOf]; omega
            · obtain rfl : j = k := by omega
              go_wp2_with fail
              (with_reducible refine (refslices_in j hk _).mono ?_)
              rintro e w2 ⟨rfl, hb2⟩
              have hs2 := hb2.size
              (try simp only [World.size_alloc, World.size_setCell, World.size_drew, size_drewN] at hs2)
              clear R_c R_f R_z
              replace R : Blk w2 w.heap.size 29 #[.int .i64 0, .int .i64 0, .int .i64 0, .int .u64 0] := by ((with_reducible apply Blk.cast); (case h => (repeat' (first | (with_reducible assumption) | ((with_reducible apply Blk.keep0); (case hk => (with_reducible assumption))) | (with_reducible exact Blk.new _ _ _) | ((with_reducible apply Blk.new'); (case h => (first | (with_reducible rfl) | (simp only [World.size_alloc, World.size_setCell, World.size_drew, size_drewN]; done)))) | (with_reducible apply Blk.alloc) | (with_reducible apply Blk.set_) | ((with_reducible apply Blk.far); (case hp => (simp only []; omega))) | (with_reducible apply Blk.drew) | (with_reducible apply Blk.drewN)))); (case e => rfl))
              have R_c := R.cell
              have R_f := R.frozen
              have R_z := R.lt
              go_wp2_with fail
              refine bodyPost_ret (ret_ct rfl _ _ (w.heap.size) 29 #[.int .i64 j, .int .i64 (slS j), .int .i64 0, .int .u64 (sz j)] _ rfl (by ((with_reducible apply Blk.cast); (case h => (repeat' (first | (with_reducible assumption) | ((with_reducible apply Blk.keep0); (case hk => (with_reducible assumption))) | (with_reducible exact Blk.new _ _ _) | ((with_reducible apply Blk.new'); (case h => (first | (with_reducible rfl) | (simp only [World.size_alloc, World.size_setCell, World.size_drew, size_drewN]; done)))) | (with_reducible apply Blk.alloc) | (with_reducible apply Blk.set_) | ((with_reducible apply Blk.far); (case hp => (simp only []; omega))) | (with_reducible apply Blk.drew) | (with_reducible apply Blk.drewN)))); (case e => rfl))) Try.underlying29 rfl (by kernel_rfl)) rfl ?_
              exact ⟨rfl, by (repeat' (first | (with_reducible exact Kept.refl _ _) | (with_reducible assumption) | (with_reducible refine Kept.then_ (by with_reducible assumption) ?_) | (with_reducible refine Kept.thenS (by with_reducible assumption) ?_) | (with_reducible refine Kept.alloc ?_ _) | (with_reducible refine Kept.drew ?_) | (with_reducible refine Kept.drewN ?_ _) | (with_reducible refine Kept.setNew ?_ ?_ _) | ((try simp only [World.size_alloc, World.size_setCell, World.size_drew, size_drewN] at *); (try dsimp only); omega)))⟩
        · go_wp2_with fail
          (with_reducible refine (refsizes_any _).mono ?_)
          rintro e w1 ⟨rfl, B, hb1⟩
          have hs1 := hb1.size
          (try simp only [World.size_alloc, World.size_setCell, World.size_drew, size_drewN] at hs1)
          have R : Blk w1 w.heap.size 29 #[.int .i64 0, .int .i64 0, .int .i64 0, .int .u64 0] := by ((with_reducible apply Blk.cast); (case h => (repeat' (first | (with_reducible assumption) | ((with_reducible apply Blk.keep0); (case hk => (with_reducible assumption))) | (with_reducible exact Blk.new _ _ _) | ((with_reducible apply Blk.new'); (case h => (first | (with_reducible rfl) | (simp only [World.size_alloc, World.size_setCell, World.size_drew, size_drewN]; done)))) | (with_reducible apply Blk.alloc) | (with_reducible apply Blk.set_) | ((with_reducible apply Blk.far); (case hp => (simp only []; omega))) | (with_reducible apply Blk.drew) | (with_reducible apply Blk.drewN)))); (case e => rfl))
          have R_c := R.cell
          have R_f := R.frozen
          have R_z := R.lt
          simp only [World.size_alloc] at B
          have hc : ∀ j : Nat, j < 12 → w1.cell? ⟨w.heap.size + 1, j, none⟩ = some (.int .u64 (sz j)) := fun j hj => (B.cell j).trans (szA_at j hj)
          have HC := Lib.hid hc
          clear hc
          go_wp2_with fail
          go_loop [33] (fun c => ∃ j : Nat, j ≤ k ∧ c = .int .i64 j) (fun c => (12 - intOf c).toNat)
          case atStart => exact ⟨0, by omega, rfl⟩
          case round =>
            obtain ⟨j, hj, rfl⟩ := hrel
            have hc := HC.out j (by omega)
            have hb := sz_bd j (by omega)
            by_cases hlt : j < k
            · by_cases h1 : (1 : Int) ≤ sz j
              · have h2 := Hno.out j hlt (by omega)
                go_wp2_with fail
                go_round
                case rel => exact ⟨j + 1, by omega, by go_num⟩
                case measure => simp [intOf]; omega
              · exfalso; omega
            · obtain rfl : j = k := by omega
              go_wp2_with fail
              (with_reducible refine (refslices_in j hk _).mono ?_)
              rintro e w2 ⟨rfl, hb2⟩
              have hs2 := hb2.size
              (try simp only [World.size_alloc, World.size_setCell, World.size_drew, size_drewN] at hs2)
              clear R_c R_f R_z
              replace R : Blk w2 w.heap.size 29 #[.int .i64 0, .int .i64 0, .int .i64 0, .int .u64 0] := by ((with_reducible apply Blk.cast); (case h => (repeat' (first | (with_reducible assumption) | ((with_reducible apply Blk.keep0); (case hk => (with_reducible assumption))) | (with_reducible exact Blk.new _ _ _) | ((with_reducible apply Blk.new'); (case h => (first | (with_reducible rfl) | (simp only [World.size_alloc, World.size_setCell, World.size_drew, size_drewN]; done)))) | (with_reducible apply Blk.alloc) | (with_reducible apply Blk.set_) | ((with_reducible apply Blk.far); (case hp => (simp only []; omega))) | (with_reducible apply Blk.drew) | (with_reducible apply Blk.drewN)))); (case e => rfl))
              have R_c := R.cell
              have R_f := R.frozen
              have R_z := R.lt
              go_wp2_with fail
              refine bodyPost_ret (ret_ct rfl _ _ (w.heap.size) 29 #[.int .i64 j, .int .i64 (slS j), .int .i64 0, .int .u64 (sz j)] _ rfl (by ((with_reducible apply Blk.cast); (case h => (repeat' (first | (with_reducible assumption) | ((with_reducible apply Blk.keep0); (case hk => (with_reducible assumption))) | (with_reducible exact Blk.new _ _ _) | ((with_reducible apply Blk.new'); (case h => (first | (with_reducible rfl) | (simp only [World.size_alloc, World.size_setCell, World.size_drew, size_drewN]; done)))) | (with_reducible apply Blk.alloc) | (with_reducible apply Blk.set_) | ((with_reducible apply Blk.far); (case hp => (simp only []; omega))) | (with_reducible apply Blk.drew) | (with_reducible apply Blk.drewN)))); (case e => rfl))) Try.underlying29 rfl (by kernel_rfl)) rfl ?_
              exact ⟨rfl, by (repeat' (first | (with_reducible exact Kept.refl _ _) | (with_reducible assumption) | (with_reducible refine Kept.then_ (by with_reducible assumption) ?_) | (with_reducible refine Kept.thenS (by with_reducible assumption) ?_) | (with_reducible refine Kept.alloc ?_ _) | (with_reducible refine Kept.drew ?_) | (with_reducible refine Kept.drewN ?_ _) | (with_reducible refine Kept.setNew ?_ ?_ _) | ((try simp only [World.size_alloc, World.size_setCell, World.size_drew, size_drewN] at *); (try dsimp only); omega)))⟩
      · obtain rfl : n = m := by omega
        have q : decide (1024 < n) = true := decide_eq_true (by omega)
        go_wp2_with fail
        (with_reducible refine (refsizes_any _).mono ?_)
        rintro e w1 ⟨rfl, B, hb1⟩
        have hs1 := hb1.size
        (try simp only [World.size_alloc, World.size_setCell, World.size_drew, size_drewN] at hs1)
        have R : Blk w1 w.heap.size 29 #[.int .i64 0, .int .i64 0, .int .i64 0, .int .u64 0] := by ((with_reducible apply Blk.cast); (case h => (repeat' (first | (with_reducible assumption) | ((with_reducible apply Blk.keep0); (case hk => (with_reducible assumption))) | (with_reducible exact Blk.new _ _ _) | ((with_reducible apply Blk.new'); (case h => (first | (with_reducible rfl) | (simp only [World.size_alloc, World.size_setCell, World.size_drew, size_drewN]; done)))) | (with_reducible apply Blk.alloc) | (with_reducible apply Blk.set_) | ((with_reducible apply Blk.far); (case hp => (simp only []; omega))) | (with_reducible apply Blk.drew) | (with_reducible apply Blk.drewN)))); (case e => rfl))
        have R_c := R.cell
        have R_f := R.frozen
        have R_z := R.lt
        simp only [World.size_alloc] at B
        have hc : ∀ j : Nat, j < 12 → w1.cell? ⟨w.heap.size + 1, j, none⟩ = some (.int .u64 (sz j)) := fun j hj => (B.cell j).trans (szA_at j hj)
        have HC := Lib.hid hc
        clear hc
        go_wp2_with fail
        go_loop [33] (fun c => ∃ j : Nat, j ≤ 12 ∧ c = .int .i64 j) (fun c => (12 - intOf c).toNat)
        case atStart => exact ⟨0, by omega, rfl⟩
        case round =>
          obtain ⟨j, hj, rfl⟩ := hrel
          by_cases hlt : j < 12
          · have hc := HC.out j (by omega)
            have hb := sz_bd j (by omega)
            go_wp2_with fail
            go_round
            case rel => exact ⟨j + 1, by omega, by go_num⟩
            case measure => simp [intOf]; omega
          · obtain rfl : j = 12 := by omega
            go_wp2_with fail
            go_loopg [57] s.toNat (fun gg s57 wr => ∃ i : Int, 0 ≤ i ∧ i ≤ s ∧ gg = (s - i).toNat ∧ Blk wr w.heap.size 29 #[.int .i64 0, .int .i64 0, .int .i64 0, .int .u64 0] ∧ Blk wr w1.heap.size 29 #[.int .i64 (-1), .int .i64 i, .int .i64 0, .int .u64 (i * 1024)] ∧ Kept [] w wr)
            case atStart => exact ⟨0, by omega, by omega, by omega, by ((with_reducible apply Blk.cast); (case h => (repeat' (first | (with_reducible assumption) | ((with_reducible apply Blk.keep0); (case hk => (with_reducible assumption))) | (with_reducible exact Blk.new _ _ _) | ((with_reducible apply Blk.new'); (case h => (first | (with_reducible rfl) | (simp only [World.size_alloc, World.size_setCell, World.size_drew, size_drewN]; done)))) | (with_reducible apply Blk.alloc) | (with_reducible apply Blk.set_) | ((with_reducible apply Blk.far); (case hp => (simp only []; omega))) | (with_reducible apply Blk.drew) | (with_reducible apply Blk.drewN)))); (case e => rfl)), by ((with_reducible apply Blk.cast); (case h => (repeat' (first | (with_reducible assumption) | ((with_reducible apply Blk.keep0); (case hk => (with_reducible assumption))) | (with_reducible exact Blk.new _ _ _) | ((with_reducible apply Blk.new'); (case h => (first | (with_reducible rfl) | (simp only [World.size_alloc, World.size_setCell, World.size_drew, size_drewN]; done)))) | (with_reducible apply Blk.alloc) | (with_reducible apply Blk.set_) | ((with_reducible apply Blk.far); (case hp => (simp only []; omega))) | (with_reducible apply Blk.drew) | (with_reducible apply Blk.drewN)))); (case e => rfl)), by (repeat' (first | (with_reducible exact Kept.refl _ _) | (with_reducible assumption) | (with_reducible refine Kept.then_ (by with_reducible assumption) ?_) | (with_reducible refine Kept.thenS (by with_reducible assumption) ?_) | (with_reducible refine Kept.alloc ?_ _) | (with_reducible refine Kept.drew ?_) | (with_reducible refine Kept.drewN ?_ _) | (with_reducible refine Kept.setNew ?_ ?_ _) | ((try simp only [World.size_alloc, World.size_setCell, World.size_drew, size_drewN] at *); (try dsimp only); omega)))⟩
            case round =>
              obtain ⟨i, i0, i1, hg, R, P, hkr⟩ := hrel
              have R_c := R.cell
              have R_f := R.frozen
              have R_z := R.lt
              have P_c := P.cell
              have P_f := P.frozen
              have P_z := P.lt
              by_cases hlt : i < s
              · go_wp2_with fail
                go_roundg (s - (i + 1)).toNat
                case measure => omega
                case rel => exact ⟨i + 1, by omega, by omega, rfl, by ((with_reducible apply Blk.cast); (case h => (repeat' (first | (with_reducible assumption) | ((with_reducible apply Blk.keep0); (case hk => (with_reducible assumption))) | (with_reducible exact Blk.new _ _ _) | ((with_reducible apply Blk.new'); (case h => (first | (with_reducible rfl) | (simp only [World.size_alloc, World.size_setCell, World.size_drew, size_drewN]; done)))) | (with_reducible apply Blk.alloc) | (with_reducible apply Blk.set_) | ((with_reducible apply Blk.far); (case hp => (simp only []; omega))) | (with_reducible apply Blk.drew) | (with_reducible apply Blk.drewN)))); (case e => rfl)), by rw [show (i + 1) * 1024 = i * 1024 + 1024 by omega]; ((with_reducible apply Blk.cast); (case h => (repeat' (first | (with_reducible assumption) | ((with_reducible apply Blk.keep0); (case hk => (with_reducible assumption))) | (with_reducible exact Blk.new _ _ _) | ((with_reducible apply Blk.new'); (case h => (first | (with_reducible rfl) | (simp only [World.size_alloc, World.size_setCell, World.size_drew, size_drewN]; done)))) | (with_reducible apply Blk.alloc) | (with_reducible apply Blk.set_) | ((with_reducible apply Blk.far); (case hp => (simp only []; omega))) | (with_reducible apply Blk.drew) | (with_reducible apply Blk.drewN)))); (case e => rfl)), by (repeat' (first | (with_reducible exact Kept.refl _ _) | (with_reducible assumption) | (with_reducible refine Kept.then_ (by with_reducible assumption) ?_) | (with_reducible refine Kept.thenS (by with_reducible assumption) ?_) | (with_reducible refine Kept.alloc ?_ _) | (with_reducible refine Kept.drew ?_) | (with_reducible refine Kept.drewN ?_ _) | (with_reducible refine Kept.setNew ?_ ?_ _) | ((try simp only [World.size_alloc, World.size_setCell, World.size_drew, size_drewN] at *); (try dsimp only); omega)))⟩
              · obtain rfl : i = s := by omega
                go_wp2_with fail
                refine bodyPost_ret (ret_ct rfl _ _ (w.heap.size) 29 #[.int .i64 (-1), .int .i64 i, .int .i64 0, .int .u64 (i * 1024)] _ rfl (by ((with_reducible apply Blk.cast); (case h => (repeat' (first | (with_reducible assumption) | ((with_reducible apply Blk.keep0); (case hk => (with_reducible assumption))) | (with_reducible exact Blk.new _ _ _) | ((with_reducible apply Blk.new'); (case h => (first | (with_reducible rfl) | (simp only [World.size_alloc, World.size_setCell, World.size_drew, size_drewN]; done)))) | (with_reducible apply Blk.alloc) | (with_reducible apply Blk.set_) | ((with_reducible apply Blk.far); (case hp => (simp only []; omega))) | (with_reducible apply Blk.drew) | (with_reducible apply Blk.drewN)))); (case e => rfl))) Try.underlying29 rfl (by kernel_rfl)) rfl ?_
                exact ⟨rfl, by (repeat' (first | (with_reducible exact Kept.refl _ _) | (with_reducible assumption) | (with_reducible refine Kept.then_ (by with_reducible assumption) ?_) | (with_reducible refine Kept.thenS (by with_reducible assumption) ?_) | (with_reducible refine Kept.alloc ?_ _) | (with_reducible refine Kept.drew ?_) | (with_reducible refine Kept.drewN ?_ _) | (with_reducible refine Kept.setNew ?_ ?_ _) | ((try simp only [World.size_alloc, World.size_setCell, World.size_drew, size_drewN] at *); (try dsimp only); omega)))⟩
      · obtain rfl : n = m := by omega
        have q : decide (1024 < n) = true := decide_eq_true (by omega)
        go_wp2_with fail
        (with_reducible refine (refsizes_any _).mono ?_)
        rintro e w1 ⟨rfl, B, hb1⟩
        have hs1 := hb1.size
        (try simp only [World.size_alloc, World.size_setCell, World.size_drew, size_drewN] at hs1)
        have R : Blk w1 w.heap.size 29 #[.int .i64 0, .int .i64 0, .int .i64 0, .int .u64 0] := by ((with_reducible apply Blk.cast); (case h => (repeat' (first | (with_reducible assumption) | ((with_reducible apply Blk.keep0); (case hk => (with_reducible assumption))) | (with_reducible exact Blk.new _ _ _) | ((with_reducible apply Blk.new'); (case h => (first | (with_reducible rfl) | (simp only [World.size_alloc, World.size_setCell, World.size_drew, size_drewN]; done)))) | (with_reducible apply Blk.alloc) | (with_reducible apply Blk.set_) | ((with_reducible apply Blk.far); (case hp => (simp only []; omega))) | (with_reducible apply Blk.drew) | (with_reducible apply Blk.drewN)))); (case e => rfl))
        have R_c := R.cell
        have R_f := R.frozen
        have R_z := R.lt
        simp only [World.size_alloc] at B
        have hc : ∀ j : Nat, j < 12 → w1.cell? ⟨w.heap.size + 1, j, none⟩ = some (.int .u64 (sz j)) := fun j hj => (B.cell j).trans (szA_at j hj)
        have HC := Lib.hid hc
        clear hc
        go_wp2_with fail
        go_loop [33] (fun c => ∃ j : Nat, j ≤ 12 ∧ c = .int .i64 j) (fun c => (12 - intOf c).toNat)
        case atStart => exact ⟨0, by omega, rfl⟩
        case round =>
          obtain ⟨j, hj, rfl⟩ := hrel
          by_cases hlt : j < 12
          · have hc := HC.out j (by omega)
            have hb := sz_bd j (by omega)
            go_wp2_with fail
            go_round
            case rel => exact ⟨j + 1, by omega, by go_num⟩
            case measure => simp [intOf]; omega
          · obtain rfl : j = 12 := by omega
            go_wp2_with fail
            go_loopg [57] g.toNat (fun gg s57 wr => ∃ i : Int, 0 ≤ i ∧ i ≤ g ∧ gg = (g - i).toNat ∧ Blk wr w.heap.size 29 #[.int .i64 0, .int .i64 0, .int .i64 0, .int .u64 0] ∧ Blk wr w1.heap.size 29 #[.int .i64 (-1), .int .i64 0, .int .i64 i, .int .u64 (i * 16384)] ∧ Kept [] w wr)
            case atStart => exact ⟨0, by omega, by omega, by omega, by ((with_reducible apply Blk.cast); (case h => (repeat' (first | (with_reducible assumption) | ((with_reducible apply Blk.keep0); (case hk => (with_reducible assumption))) | (with_reducible exact Blk.new _ _ _) | ((with_reducible apply Blk.new'); (case h => (first | (with_reducible rfl) | (simp only [World.size_alloc, World.size_setCell, World.size_drew, size_drewN]; done)))) | (with_reducible apply Blk.alloc) | (with_reducible apply Blk.set_) | ((with_reducible apply Blk.far); (case hp => (simp only []; omega))) | (with_reducible apply Blk.drew) | (with_reducible apply Blk.drewN)))); (case e => rfl)), by ((with_reducible apply Blk.cast); (case h => (repeat' (first | (with_reducible assumption) | ((with_reducible apply Blk.keep0); (case hk => (with_reducible assumption))) | (with_reducible exact Blk.new _ _ _) | ((with_reducible apply Blk.new'); (case h => (first | (with_reducible rfl) | (simp only [World.size_alloc, World.size_setCell, World.size_drew, size_drewN]; done)))) | (with_reducible apply Blk.alloc) | (with_reducible apply Blk.set_) | ((with_reducible apply Blk.far); (case hp => (simp only []; omega))) | (with_reducible apply Blk.drew) | (with_reducible apply Blk.drewN)))); (case e => rfl)), by (repeat' (first | (with_reducible exact Kept.refl _ _) | (with_reducible assumption) | (with_reducible refine Kept.then_ (by with_reducible assumption) ?_) | (with_reducible refine Kept.thenS (by with_reducible assumption) ?_) | (with_reducible refine Kept.alloc ?_ _) | (with_reducible refine Kept.drew ?_) | (with_reducible refine Kept.drewN ?_ _) | (with_reducible refine Kept.setNew ?_ ?_ _) | ((try simp only [World.size_alloc, World.size_setCell, World.size_drew, size_drewN] at *); (try dsimp only); omega)))⟩
            case round =>
              obtain ⟨i, i0, i1, hg, R, P, hkr⟩ := hrel
              have R_c := R.cell
              have R_f := R.frozen
              have R_z := R.lt
              have P_c := P.cell
              have P_f := P.frozen
              have P_z := P.lt
              by_cases hlt : i < g
              · go_wp2_with fail
                go_roundg (g - (i + 1)).toNat
                case measure => omega
                case rel => exact ⟨i + 1, by omega, by omega, rfl, by ((with_reducible apply Blk.cast); (case h => (repeat' (first | (with_reducible assumption) | ((with_reducible apply Blk.keep0); (case hk => (with_reducible assumption))) | (with_reducible exact Blk.new _ _ _) | ((with_reducible apply Blk.new'); (case h => (first | (with_reducible rfl) | (simp only [World.size_alloc, World.size_setCell, World.size_drew, size_drewN]; done)))) | (with_reducible apply Blk.alloc) | (with_reducible apply Blk.set_) | ((with_reducible apply Blk.far); (case hp => (simp only []; omega))) | (with_reducible apply Blk.drew) | (with_reducible apply Blk.drewN)))); (case e => rfl)), by rw [show (i + 1) * 16384 = i * 16384 + 16384 by omega]; ((with_reducible apply Blk.cast); (case h => (repeat' (first | (with_reducible assumption) | ((with_reducible apply Blk.keep0); (case hk => (with_reducible assumption))) | (with_reducible exact Blk.new _ _ _) | ((with_reducible apply Blk.new'); (case h => (first | (with_reducible rfl) | (simp only [World.size_alloc, World.size_setCell, World.size_drew, size_drewN]; done)))) | (with_reducible apply Blk.alloc) | (with_reducible apply Blk.set_) | ((with_reducible apply Blk.far); (case hp => (simp only []; omega))) | (with_reducible apply Blk.drew) | (with_reducible apply Blk.drewN)))); (case e => rfl)), by (repeat' (first | (with_reducible exact Kept.refl _ _) | (with_reducible assumption) | (with_reducible refine Kept.then_ (by with_reducible assumption) ?_) | (with_reducible refine Kept.thenS (by with_reducible assumption) ?_) | (with_reducible refine Kept.alloc ?_ _) | (with_reducible refine Kept.drew ?_) | (with_reducible refine Kept.drewN ?_ _) | (with_reducible refine Kept.setNew ?_ ?_ _) | ((try simp only [World.size_alloc, World.size_setCell, World.size_drew, size_drewN] at *); (try dsimp only); omega)))⟩
              · obtain rfl : i = g := by omega
                go_wp2_with fail
                refine bodyPost_ret (ret_ct rfl _ _ (w.heap.size) 29 #[.int .i64 (-1), .int .i64 0, .int .i64 i, .int .u64 (i * 16384)] _ rfl (by ((with_reducible apply Blk.cast); (case h => (repeat' (first | (with_reducible assumption) | ((with_reducible apply Blk.keep0); (case hk => (with_reducible assumption))) | (with_reducible exact Blk.new _ _ _) | ((with_reducible apply Blk.new'); (case h => (first | (with_reducible rfl) | (simp only [World.size_alloc, World.size_setCell, World.size_drew, size_drewN]; done)))) | (with_reducible apply Blk.alloc) | (with_reducible apply Blk.set_) | ((with_reducible apply Blk.far); (case hp => (simp only []; omega))) | (with_reducible apply Blk.drew) | (with_reducible apply Blk.drewN)))); (case e => rfl))) Try.underlying29 rfl (by kernel_rfl)) rfl ?_
                exact ⟨rfl, by (repeat' (first | (with_reducible exact Kept.refl _ _) | (with_reducible assumption) | (with_reducible refine Kept.then_ (by with_reducible assumption) ?_) | (with_reducible refine Kept.thenS (by with_reducible assumption) ?_) | (with_reducible refine Kept.alloc ?_ _) | (with_reducible refine Kept.drew ?_) | (with_reducible refine Kept.drewN ?_ _) | (with_reducible refine Kept.setNew ?_ ?_ _) | ((try simp only [World.size_alloc, World.size_setCell, World.size_drew, size_drewN] at *); (try dsimp only); omega)))⟩
set_option maxRecDepth 100000 in
set_option maxHeartbeats 2000000 in
theorem reffor_bad (n a : Int) (h : ¬ (AlignOk a ∧ n ≤ 1048576)) (w : World) :
    Calls Try.prog 12 #[.int .u64 n, .int .u64 a] w fun e w' => e = .returned (.tuple #[.agg #[.int .i64 0, .int .i64 0, .int .i64 0, .int .u64 0], .int .i64 2]) ∧ Kept [] w w' := by
  have H11 : Hid ((okAt 11 a = true ∧ 1048576 < n) ∨ okAt 11 a = false) := Lib.hid (by
    cases ho : okAt 11 a
    · exact .inr rfl
    · have := (okAt_11 a).1 ho
      exact .inl ⟨rfl, by
        rcases Int.lt_or_le 1048576 n with h1 | h1
        · exact h1
        · exact absurd ⟨this, h1⟩ h⟩)
  clear h
  go_enter Try.func12, Try.ntmps12
  go_wp2
  go_loop [6, 7] (fun c d => ∃ j : Nat, j ≤ 11 ∧ c = .bool (okAt j a) ∧ d = .int .u64 (2 ^ j)) (fun _ d => (2048 - intOf d).toNat)
  case atStart => exact ⟨0, by omega, rfl, rfl⟩
  case round =>
    obtain ⟨j, hj, rfl, rfl⟩ := hrel
    by_cases hlt : j < 11
    · obtain ⟨p1, p2, p3⟩ := pow_bd j hlt
      have HJ := Lib.hid (show okAt (j + 1) a = (okAt j a || ((2 : Int) ^ j == a)) from rfl)
      have P3 := Lib.hid p3
      clear p3
      generalize (2 : Int) ^ j = x at *
      generalize okAt j a = o at *
      cases o
      · go_wp2_with fail
        go_round
        case rel => exact ⟨j + 1, by omega, by rw [HJ.out]; first | rfl | simp, by rw [← P3.out]⟩
        case measure => simp [intOf]; omega
      · go_wp2_with fail
        go_round
        case rel => exact ⟨j + 1, by omega, by rw [HJ.out]; first | rfl | simp, by rw [← P3.out]⟩
        case measure => simp [intOf]; omega
    · obtain rfl : j = 11 := by omega
      rw [show (2 : Int) ^ 11 = 2048 from rfl]
      rcases H11.out with ⟨h1, h2⟩ | h1
      · rw [h1]
        clear H11 h1
        go_wp2_with fail
        go_returns
        exact ⟨rfl, by (repeat' (first | (with_reducible exact Kept.refl _ _) | (with_reducible assumption) | (with_reducible refine Kept.then_ (by with_reducible assumption) ?_) | (with_reducible refine Kept.thenS (by with_reducible assumption) ?_) | (with_reducible refine Kept.alloc ?_ _) | (with_reducible refine Kept.drew ?_) | (with_reducible refine Kept.drewN ?_ _) | (with_reducible refine Kept.setNew ?_ ?_ _) | ((try simp only [World.size_alloc, World.size_setCell, World.size_drew, size_drewN] at *); (try dsimp only); omega)))⟩
      · rw [h1]
        clear H11 h1
        go_wp2_with fail
        go_returns
        exact ⟨rfl, by (repeat' (first | (with_reducible exact Kept.refl _ _) | (with_reducible assumption) | (with_reducible refine Kept.then_ (by with_reducible assumption) ?_) | (with_reducible refine Kept.thenS (by with_reducible assumption) ?_) | (with_reducible refine Kept.alloc ?_ _) | (with_reducible refine Kept.drew ?_) | (with_reducible refine Kept.drewN ?_ _) | (with_reducible refine Kept.setNew ?_ ?_ _) | ((try simp only [World.size_alloc, World.size_setCell, World.size_drew, size_drewN] at *); (try dsimp only); omega)))⟩
end Go.Proofs.Ytfgmmehgmepegaa
