/- What each function of the layers of addresses answers: the program's and the document's, on numbers. -/
import Derived.Test.YtfmgeidlbekfpaaBase
set_option linter.unusedVariables false
set_option linter.unusedSimpArgs false
namespace Go.Proofs.Ytfmgeidlbekfpaa
open Go.RowKit

def MayP (f s n : Int) : Prop := 1 ≤ s ∧ s ≤ 1048576 ∧ 0 ≤ n ∧ n ≤ 1024 ∧ f ≤ 1048576 ∧ f + n * s ≤ 1048576
instance (f s n : Int) : Decidable (MayP f s n) := by unfold MayP; infer_instance
theorem mul_bd (n s : Int) (h0 : 0 ≤ n) (h1 : n ≤ 1024) (h2 : 1 ≤ s) (h3 : s ≤ 1048576) : 0 ≤ n * s ∧ n * s ≤ 1073741824 := by
  constructor
  · exact Int.mul_nonneg h0 (by omega)
  · calc n * s ≤ 1024 * s := Int.mul_le_mul_of_nonneg_right h1 (by omega)
      _ ≤ 1073741824 := by omega
theorem may_any (f s n : Int) (hf: 0 ≤ f) (hs : 0 ≤ s) (w : World) : Calls Try.prog 26 #[.agg #[.int .u64 f, .int .u64 s, .int .i64 n]] w fun e w' => e = .returned (.bool (decide (MayP f s n))) ∧ Kept [] w w' := by
  have hb : 0 ≤ n → n ≤ 1024 → 1 ≤ s → s ≤ 1048576 → 0 ≤ n * s ∧ n * s ≤ 1073741824 := mul_bd n s
  go_enter Try.func26, Try.ntmps26
  go_wp2
  all_goals
    go_ret
    refine ⟨ret_bool ?_, by (repeat' (first | (with_reducible exact Kept.refl _ _) | (with_reducible assumption) | (with_reducible refine Kept.then_ (by with_reducible assumption) ?_) | (with_reducible refine Kept.thenS (by with_reducible assumption) ?_) | (with_reducible refine Kept.alloc ?_ _) | (with_reducible refine Kept.drew ?_) | (with_reducible refine Kept.drewN ?_ _) | (with_reducible refine Kept.setNew ?_ ?_ _) | ((try simp only [World.size_alloc, World.size_setCell, World.size_drew, size_drewN] at *); (try dsimp only); omega)))⟩
    go_light
    unfold MayP
    first | exact dec_f (by omega) | exact dec_iff (by omega)
theorem end_any (f s n : Int) (hf: 0 ≤ f) (hs : 0 ≤ s) (w : World) : Calls Try.prog 21 #[.agg #[.int .u64 f, .int .u64 s, .int .i64 n]] w fun e w' => e = .returned (.int .u64 (if MayP f s n then f + n * s else 0)) ∧ Kept [] w w' := by
  by_cases hm : MayP f s n
  · have hm' := hm
    unfold MayP at hm'
    have hb := mul_bd n s (by omega) (by omega) (by omega) (by omega)
    rw [if_pos hm]
    go_enter Try.func21, Try.ntmps21
    go_wp2_with (go_at_call 26; ((with_reducible refine (may_any _ _ _ (by omega) (by omega) _).mono ?_); rintro e w1 ⟨rfl, hb1⟩); have hz1 := hb1.size; (try simp only [World.size_alloc, World.size_setCell, World.size_drew, size_drewN] at hz1); have P : Blk w1 (w.heap.size) 43 #[.int .u64 f, .int .u64 s, .int .i64 n] := (by (repeat' (first | (with_reducible assumption) | (with_reducible refine Blk.keep0 ?_ (by with_reducible assumption)) | (with_reducible refine Blk.new' _ _ _ ?_) | (with_reducible refine Blk.alloc ?_ _) | (with_reducible refine Blk.set' (by with_reducible assumption) ?_) | (with_reducible refine Blk.far ?_ (by simp only []; omega) _) | (with_reducible refine Blk.drew ?_) | (with_reducible refine Blk.drewN ?_ _) | (with_reducible rfl) | (simp only [World.size_alloc, World.size_setCell, World.size_drew, size_drewN]; done)))); have P_c := P.cell; have P_f := P.frozen; have P_z := P.lt)
    go_ret
    exact ⟨rfl, by (repeat' (first | (with_reducible exact Kept.refl _ _) | (with_reducible assumption) | (with_reducible refine Kept.then_ (by with_reducible assumption) ?_) | (with_reducible refine Kept.thenS (by with_reducible assumption) ?_) | (with_reducible refine Kept.alloc ?_ _) | (with_reducible refine Kept.drew ?_) | (with_reducible refine Kept.drewN ?_ _) | (with_reducible refine Kept.setNew ?_ ?_ _) | ((try simp only [World.size_alloc, World.size_setCell, World.size_drew, size_drewN] at *); (try dsimp only); omega)))⟩
  · rw [if_neg hm]
    go_enter Try.func21, Try.ntmps21
    go_wp2_with (go_at_call 26; ((with_reducible refine (may_any _ _ _ (by omega) (by omega) _).mono ?_); rintro e w1 ⟨rfl, hb1⟩); have hz1 := hb1.size; (try simp only [World.size_alloc, World.size_setCell, World.size_drew, size_drewN] at hz1); have P : Blk w1 (w.heap.size) 43 #[.int .u64 f, .int .u64 s, .int .i64 n] := (by (repeat' (first | (with_reducible assumption) | (with_reducible refine Blk.keep0 ?_ (by with_reducible assumption)) | (with_reducible refine Blk.new' _ _ _ ?_) | (with_reducible refine Blk.alloc ?_ _) | (with_reducible refine Blk.set' (by with_reducible assumption) ?_) | (with_reducible refine Blk.far ?_ (by simp only []; omega) _) | (with_reducible refine Blk.drew ?_) | (with_reducible refine Blk.drewN ?_ _) | (with_reducible rfl) | (simp only [World.size_alloc, World.size_setCell, World.size_drew, size_drewN]; done)))); have P_c := P.cell; have P_f := P.frozen; have P_z := P.lt)
    go_ret
    exact ⟨rfl, by (repeat' (first | (with_reducible exact Kept.refl _ _) | (with_reducible assumption) | (with_reducible refine Kept.then_ (by with_reducible assumption) ?_) | (with_reducible refine Kept.thenS (by with_reducible assumption) ?_) | (with_reducible refine Kept.alloc ?_ _) | (with_reducible refine Kept.drew ?_) | (with_reducible refine Kept.drewN ?_ _) | (with_reducible refine Kept.setNew ?_ ?_ _) | ((try simp only [World.size_alloc, World.size_setCell, World.size_drew, size_drewN] at *); (try dsimp only); omega)))⟩
def blkV (f s n i : Int) : Int := if MayP f s n ∧ 0 ≤ i ∧ i < n then f + i * s else 0
def blkE (f s n i : Int) : Int := if MayP f s n then (if 0 ≤ i ∧ i < n then 0 else 3) else 2
theorem block_any (f s n i : Int) (hf: 0 ≤ f) (hs : 0 ≤ s) (w : World) : Calls Try.prog 15 #[.agg #[.int .u64 f, .int .u64 s, .int .i64 n], .int .i64 i] w fun e w' => e = .returned (.tuple #[.int .u64 (blkV f s n i), .int .i64 (blkE f s n i)]) ∧ Kept [] w w' := by
  unfold blkV blkE
  by_cases hm : MayP f s n
  · by_cases hi : 0 ≤ i ∧ i < n
    · have hm' := hm
      unfold MayP at hm'
      have hb := mul_bd i s (by omega) (by omega) (by omega) (by omega)
      rw [if_pos ⟨hm, hi⟩, if_pos hm, if_pos hi]
      go_enter Try.func15, Try.ntmps15
      go_wp2_with (go_at_call 26; ((with_reducible refine (may_any _ _ _ (by omega) (by omega) _).mono ?_); rintro e w1 ⟨rfl, hb1⟩); have hz1 := hb1.size; (try simp only [World.size_alloc, World.size_setCell, World.size_drew, size_drewN] at hz1); have P : Blk w1 (w.heap.size) 43 #[.int .u64 f, .int .u64 s, .int .i64 n] := (by (repeat' (first | (with_reducible assumption) | (with_reducible refine Blk.keep0 ?_ (by with_reducible assumption)) | (with_reducible refine Blk.new' _ _ _ ?_) | (with_reducible refine Blk.alloc ?_ _) | (with_reducible refine Blk.set' (by with_reducible assumption) ?_) | (with_reducible refine Blk.far ?_ (by simp only []; omega) _) | (with_reducible refine Blk.drew ?_) | (with_reducible refine Blk.drewN ?_ _) | (with_reducible rfl) | (simp only [World.size_alloc, World.size_setCell, World.size_drew, size_drewN]; done)))); have P_c := P.cell; have P_f := P.frozen; have P_z := P.lt)
      go_ret2
      exact ⟨rfl, by (repeat' (first | (with_reducible exact Kept.refl _ _) | (with_reducible assumption) | (with_reducible refine Kept.then_ (by with_reducible assumption) ?_) | (with_reducible refine Kept.thenS (by with_reducible assumption) ?_) | (with_reducible refine Kept.alloc ?_ _) | (with_reducible refine Kept.drew ?_) | (with_reducible refine Kept.drewN ?_ _) | (with_reducible refine Kept.setNew ?_ ?_ _) | ((try simp only [World.size_alloc, World.size_setCell, World.size_drew, size_drewN] at *); (try dsimp only); omega)))⟩
    · rw [if_neg (fun h => hi h.2), if_pos hm, if_neg hi]
      go_enter Try.func15, Try.ntmps15
      go_wp2_with (go_at_call 26; ((with_reducible refine (may_any _ _ _ (by omega) (by omega) _).mono ?_); rintro e w1 ⟨rfl, hb1⟩); have hz1 := hb1.size; (try simp only [World.size_alloc, World.size_setCell, World.size_drew, size_drewN] at hz1); have P : Blk w1 (w.heap.size) 43 #[.int .u64 f, .int .u64 s, .int .i64 n] := (by (repeat' (first | (with_reducible assumption) | (with_reducible refine Blk.keep0 ?_ (by with_reducible assumption)) | (with_reducible refine Blk.new' _ _ _ ?_) | (with_reducible refine Blk.alloc ?_ _) | (with_reducible refine Blk.set' (by with_reducible assumption) ?_) | (with_reducible refine Blk.far ?_ (by simp only []; omega) _) | (with_reducible refine Blk.drew ?_) | (with_reducible refine Blk.drewN ?_ _) | (with_reducible rfl) | (simp only [World.size_alloc, World.size_setCell, World.size_drew, size_drewN]; done)))); have P_c := P.cell; have P_f := P.frozen; have P_z := P.lt)
      all_goals
        first | (exfalso; omega) | skip
        go_ret2
        exact ⟨rfl, by (repeat' (first | (with_reducible exact Kept.refl _ _) | (with_reducible assumption) | (with_reducible refine Kept.then_ (by with_reducible assumption) ?_) | (with_reducible refine Kept.thenS (by with_reducible assumption) ?_) | (with_reducible refine Kept.alloc ?_ _) | (with_reducible refine Kept.drew ?_) | (with_reducible refine Kept.drewN ?_ _) | (with_reducible refine Kept.setNew ?_ ?_ _) | ((try simp only [World.size_alloc, World.size_setCell, World.size_drew, size_drewN] at *); (try dsimp only); omega)))⟩
  · rw [if_neg (fun h => hm h.1), if_neg hm]
    go_enter Try.func15, Try.ntmps15
    go_wp2_with (go_at_call 26; ((with_reducible refine (may_any _ _ _ (by omega) (by omega) _).mono ?_); rintro e w1 ⟨rfl, hb1⟩); have hz1 := hb1.size; (try simp only [World.size_alloc, World.size_setCell, World.size_drew, size_drewN] at hz1); have P : Blk w1 (w.heap.size) 43 #[.int .u64 f, .int .u64 s, .int .i64 n] := (by (repeat' (first | (with_reducible assumption) | (with_reducible refine Blk.keep0 ?_ (by with_reducible assumption)) | (with_reducible refine Blk.new' _ _ _ ?_) | (with_reducible refine Blk.alloc ?_ _) | (with_reducible refine Blk.set' (by with_reducible assumption) ?_) | (with_reducible refine Blk.far ?_ (by simp only []; omega) _) | (with_reducible refine Blk.drew ?_) | (with_reducible refine Blk.drewN ?_ _) | (with_reducible rfl) | (simp only [World.size_alloc, World.size_setCell, World.size_drew, size_drewN]; done)))); have P_c := P.cell; have P_f := P.frozen; have P_z := P.lt)
    go_ret2
    exact ⟨rfl, by (repeat' (first | (with_reducible exact Kept.refl _ _) | (with_reducible assumption) | (with_reducible refine Kept.then_ (by with_reducible assumption) ?_) | (with_reducible refine Kept.thenS (by with_reducible assumption) ?_) | (with_reducible refine Kept.alloc ?_ _) | (with_reducible refine Kept.drew ?_) | (with_reducible refine Kept.drewN ?_ _) | (with_reducible refine Kept.setNew ?_ ?_ _) | ((try simp only [World.size_alloc, World.size_setCell, World.size_drew, size_drewN] at *); (try dsimp only); omega)))⟩
def idxE (f s n a : Int) : Int := if MayP f s n then (if a < f ∨ f + n * s ≤ a then 3 else if 0 < (a - f) % s then 5 else 0) else 2
def idxV (f s n a : Int) : Int := if idxE f s n a = 0 then (a - f) / s else 0
theorem index_any (f s n a : Int) (hf: 0 ≤ f) (hs : 0 ≤ s) (ha : 0 ≤ a) (w : World) : Calls Try.prog 17 #[.agg #[.int .u64 f, .int .u64 s, .int .i64 n], .int .u64 a] w fun e w' => e = .returned (.tuple #[.int .i64 (idxV f s n a), .int .i64 (idxE f s n a)]) ∧ Kept [] w w' := by
  by_cases hm : MayP f s n
  · have hm' := hm
    unfold MayP at hm'
    have hb := mul_bd n s (by omega) (by omega) (by omega) (by omega)
    by_cases h1 : a < f
    · have e1 : idxE f s n a = 3 := by unfold idxE; rw [if_pos hm, if_pos (Or.inl h1)]
      have e2 : idxV f s n a = 0 := by unfold idxV; rw [if_neg (by omega)]
      rw [e1, e2]
      clear e1 e2
      go_enter Try.func17, Try.ntmps17
      go_wp2_with (first | (go_at_call 26; ((with_reducible refine (may_any _ _ _ (by omega) (by omega) _).mono ?_); rintro e w1 ⟨rfl, hb1⟩); have hz1 := hb1.size; (try simp only [World.size_alloc, World.size_setCell, World.size_drew, size_drewN] at hz1); have P : Blk w1 (w.heap.size) 43 #[.int .u64 f, .int .u64 s, .int .i64 n] := (by (repeat' (first | (with_reducible assumption) | (with_reducible refine Blk.keep0 ?_ (by with_reducible assumption)) | (with_reducible refine Blk.new' _ _ _ ?_) | (with_reducible refine Blk.alloc ?_ _) | (with_reducible refine Blk.set' (by with_reducible assumption) ?_) | (with_reducible refine Blk.far ?_ (by simp only []; omega) _) | (with_reducible refine Blk.drew ?_) | (with_reducible refine Blk.drewN ?_ _) | (with_reducible rfl) | (simp only [World.size_alloc, World.size_setCell, World.size_drew, size_drewN]; done)))); have P_c := P.cell; have P_f := P.frozen; have P_z := P.lt) | (go_at_call 21; ((with_reducible refine (end_any _ _ _ (by omega) (by omega) _).mono ?_); rintro e w1 ⟨rfl, hb1⟩); have hz1 := hb1.size; (try simp only [World.size_alloc, World.size_setCell, World.size_drew, size_drewN] at hz1); have P : Blk w1 (w.heap.size) 43 #[.int .u64 f, .int .u64 s, .int .i64 n] := (by (repeat' (first | (with_reducible assumption) | (with_reducible refine Blk.keep0 ?_ (by with_reducible assumption)) | (with_reducible refine Blk.new' _ _ _ ?_) | (with_reducible refine Blk.alloc ?_ _) | (with_reducible refine Blk.set' (by with_reducible assumption) ?_) | (with_reducible refine Blk.far ?_ (by simp only []; omega) _) | (with_reducible refine Blk.drew ?_) | (with_reducible refine Blk.drewN ?_ _) | (with_reducible rfl) | (simp only [World.size_alloc, World.size_setCell, World.size_drew, size_drewN]; done)))); have P_c := P.cell; have P_f := P.frozen; have P_z := P.lt))
      go_ret2
      exact ⟨rfl, by (repeat' (first | (with_reducible exact Kept.refl _ _) | (with_reducible assumption) | (with_reducible refine Kept.then_ (by with_reducible assumption) ?_) | (with_reducible refine Kept.thenS (by with_reducible assumption) ?_) | (with_reducible refine Kept.alloc ?_ _) | (with_reducible refine Kept.drew ?_) | (with_reducible refine Kept.drewN ?_ _) | (with_reducible refine Kept.setNew ?_ ?_ _) | ((try simp only [World.size_alloc, World.size_setCell, World.size_drew, size_drewN] at *); (try dsimp only); omega)))⟩
    · by_cases h2 : f + n * s ≤ a
      · have e1 : idxE f s n a = 3 := by unfold idxE; rw [if_pos hm, if_pos (Or.inr h2)]
        have e2 : idxV f s n a = 0 := by unfold idxV; rw [if_neg (by omega)]
        rw [e1, e2]
        clear e1 e2
        go_enter Try.func17, Try.ntmps17
        go_wp2_with (first | (go_at_call 26; ((with_reducible refine (may_any _ _ _ (by omega) (by omega) _).mono ?_); rintro e w1 ⟨rfl, hb1⟩); have hz1 := hb1.size; (try simp only [World.size_alloc, World.size_setCell, World.size_drew, size_drewN] at hz1); have P : Blk w1 (w.heap.size) 43 #[.int .u64 f, .int .u64 s, .int .i64 n] := (by (repeat' (first | (with_reducible assumption) | (with_reducible refine Blk.keep0 ?_ (by with_reducible assumption)) | (with_reducible refine Blk.new' _ _ _ ?_) | (with_reducible refine Blk.alloc ?_ _) | (with_reducible refine Blk.set' (by with_reducible assumption) ?_) | (with_reducible refine Blk.far ?_ (by simp only []; omega) _) | (with_reducible refine Blk.drew ?_) | (with_reducible refine Blk.drewN ?_ _) | (with_reducible rfl) | (simp only [World.size_alloc, World.size_setCell, World.size_drew, size_drewN]; done)))); have P_c := P.cell; have P_f := P.frozen; have P_z := P.lt) | (go_at_call 21; ((with_reducible refine (end_any _ _ _ (by omega) (by omega) _).mono ?_); rintro e w1 ⟨rfl, hb1⟩); have hz1 := hb1.size; (try simp only [World.size_alloc, World.size_setCell, World.size_drew, size_drewN] at hz1); have P : Blk w1 (w.heap.size) 43 #[.int .u64 f, .int .u64 s, .int .i64 n] := (by (repeat' (first | (with_reducible assumption) | (with_reducible refine Blk.keep0 ?_ (by with_reducible assumption)) | (with_reducible refine Blk.new' _ _ _ ?_) | (with_reducible refine Blk.alloc ?_ _) | (with_reducible refine Blk.set' (by with_reducible assumption) ?_) | (with_reducible refine Blk.far ?_ (by simp only []; omega) _) | (with_reducible refine Blk.drew ?_) | (with_reducible refine Blk.drewN ?_ _) | (with_reducible rfl) | (simp only [World.size_alloc, World.size_setCell, World.size_drew, size_drewN]; done)))); have P_c := P.cell; have P_f := P.frozen; have P_z := P.lt))
        go_ret2
        exact ⟨rfl, by (repeat' (first | (with_reducible exact Kept.refl _ _) | (with_reducible assumption) | (with_reducible refine Kept.then_ (by with_reducible assumption) ?_) | (with_reducible refine Kept.thenS (by with_reducible assumption) ?_) | (with_reducible refine Kept.alloc ?_ _) | (with_reducible refine Kept.drew ?_) | (with_reducible refine Kept.drewN ?_ _) | (with_reducible refine Kept.setNew ?_ ?_ _) | ((try simp only [World.size_alloc, World.size_setCell, World.size_drew, size_drewN] at *); (try dsimp only); omega)))⟩
      · by_cases h3 : 0 < (a - f) % s
        · have e1 : idxE f s n a = 5 := by unfold idxE; rw [if_pos hm, if_neg (by omega), if_pos h3]
          have e2 : idxV f s n a = 0 := by unfold idxV; rw [if_neg (by omega)]
          rw [e1, e2]
          clear e1 e2
          go_enter Try.func17, Try.ntmps17
          go_wp2_with (first | (go_at_call 26; ((with_reducible refine (may_any _ _ _ (by omega) (by omega) _).mono ?_); rintro e w1 ⟨rfl, hb1⟩); have hz1 := hb1.size; (try simp only [World.size_alloc, World.size_setCell, World.size_drew, size_drewN] at hz1); have P : Blk w1 (w.heap.size) 43 #[.int .u64 f, .int .u64 s, .int .i64 n] := (by (repeat' (first | (with_reducible assumption) | (with_reducible refine Blk.keep0 ?_ (by with_reducible assumption)) | (with_reducible refine Blk.new' _ _ _ ?_) | (with_reducible refine Blk.alloc ?_ _) | (with_reducible refine Blk.set' (by with_reducible assumption) ?_) | (with_reducible refine Blk.far ?_ (by simp only []; omega) _) | (with_reducible refine Blk.drew ?_) | (with_reducible refine Blk.drewN ?_ _) | (with_reducible rfl) | (simp only [World.size_alloc, World.size_setCell, World.size_drew, size_drewN]; done)))); have P_c := P.cell; have P_f := P.frozen; have P_z := P.lt) | (go_at_call 21; ((with_reducible refine (end_any _ _ _ (by omega) (by omega) _).mono ?_); rintro e w1 ⟨rfl, hb1⟩); have hz1 := hb1.size; (try simp only [World.size_alloc, World.size_setCell, World.size_drew, size_drewN] at hz1); have P : Blk w1 (w.heap.size) 43 #[.int .u64 f, .int .u64 s, .int .i64 n] := (by (repeat' (first | (with_reducible assumption) | (with_reducible refine Blk.keep0 ?_ (by with_reducible assumption)) | (with_reducible refine Blk.new' _ _ _ ?_) | (with_reducible refine Blk.alloc ?_ _) | (with_reducible refine Blk.set' (by with_reducible assumption) ?_) | (with_reducible refine Blk.far ?_ (by simp only []; omega) _) | (with_reducible refine Blk.drew ?_) | (with_reducible refine Blk.drewN ?_ _) | (with_reducible rfl) | (simp only [World.size_alloc, World.size_setCell, World.size_drew, size_drewN]; done)))); have P_c := P.cell; have P_f := P.frozen; have P_z := P.lt))
          go_ret2
          exact ⟨rfl, by (repeat' (first | (with_reducible exact Kept.refl _ _) | (with_reducible assumption) | (with_reducible refine Kept.then_ (by with_reducible assumption) ?_) | (with_reducible refine Kept.thenS (by with_reducible assumption) ?_) | (with_reducible refine Kept.alloc ?_ _) | (with_reducible refine Kept.drew ?_) | (with_reducible refine Kept.drewN ?_ _) | (with_reducible refine Kept.setNew ?_ ?_ _) | ((try simp only [World.size_alloc, World.size_setCell, World.size_drew, size_drewN] at *); (try dsimp only); omega)))⟩
        · have e1 : idxE f s n a = 0 := by unfold idxE; rw [if_pos hm, if_neg (by omega), if_neg h3]
          have e2 : idxV f s n a = (a - f) / s := by unfold idxV; rw [if_pos (by omega)]
          have hd : 0 ≤ (a - f) / s ∧ (a - f) / s ≤ 1048576 := ⟨Int.ediv_nonneg (by omega) (by omega), by
            have := Int.ediv_le_self (b := s) (show 0 ≤ a - f by omega); omega⟩
          rw [e1, e2]
          clear e1 e2
          go_enter Try.func17, Try.ntmps17
          go_wp2_with (first | (go_at_call 26; ((with_reducible refine (may_any _ _ _ (by omega) (by omega) _).mono ?_); rintro e w1 ⟨rfl, hb1⟩); have hz1 := hb1.size; (try simp only [World.size_alloc, World.size_setCell, World.size_drew, size_drewN] at hz1); have P : Blk w1 (w.heap.size) 43 #[.int .u64 f, .int .u64 s, .int .i64 n] := (by (repeat' (first | (with_reducible assumption) | (with_reducible refine Blk.keep0 ?_ (by with_reducible assumption)) | (with_reducible refine Blk.new' _ _ _ ?_) | (with_reducible refine Blk.alloc ?_ _) | (with_reducible refine Blk.set' (by with_reducible assumption) ?_) | (with_reducible refine Blk.far ?_ (by simp only []; omega) _) | (with_reducible refine Blk.drew ?_) | (with_reducible refine Blk.drewN ?_ _) | (with_reducible rfl) | (simp only [World.size_alloc, World.size_setCell, World.size_drew, size_drewN]; done)))); have P_c := P.cell; have P_f := P.frozen; have P_z := P.lt) | (go_at_call 21; ((with_reducible refine (end_any _ _ _ (by omega) (by omega) _).mono ?_); rintro e w1 ⟨rfl, hb1⟩); have hz1 := hb1.size; (try simp only [World.size_alloc, World.size_setCell, World.size_drew, size_drewN] at hz1); have P : Blk w1 (w.heap.size) 43 #[.int .u64 f, .int .u64 s, .int .i64 n] := (by (repeat' (first | (with_reducible assumption) | (with_reducible refine Blk.keep0 ?_ (by with_reducible assumption)) | (with_reducible refine Blk.new' _ _ _ ?_) | (with_reducible refine Blk.alloc ?_ _) | (with_reducible refine Blk.set' (by with_reducible assumption) ?_) | (with_reducible refine Blk.far ?_ (by simp only []; omega) _) | (with_reducible refine Blk.drew ?_) | (with_reducible refine Blk.drewN ?_ _) | (with_reducible rfl) | (simp only [World.size_alloc, World.size_setCell, World.size_drew, size_drewN]; done)))); have P_c := P.cell; have P_f := P.frozen; have P_z := P.lt))
          go_ret2
          exact ⟨rfl, by (repeat' (first | (with_reducible exact Kept.refl _ _) | (with_reducible assumption) | (with_reducible refine Kept.then_ (by with_reducible assumption) ?_) | (with_reducible refine Kept.thenS (by with_reducible assumption) ?_) | (with_reducible refine Kept.alloc ?_ _) | (with_reducible refine Kept.drew ?_) | (with_reducible refine Kept.drewN ?_ _) | (with_reducible refine Kept.setNew ?_ ?_ _) | ((try simp only [World.size_alloc, World.size_setCell, World.size_drew, size_drewN] at *); (try dsimp only); omega)))⟩
  · have e1 : idxE f s n a = 2 := by unfold idxE; rw [if_neg hm]
    have e2 : idxV f s n a = 0 := by unfold idxV; rw [if_neg (by omega)]
    rw [e1, e2]
    clear e1 e2
    go_enter Try.func17, Try.ntmps17
    go_wp2_with (first | (go_at_call 26; ((with_reducible refine (may_any _ _ _ (by omega) (by omega) _).mono ?_); rintro e w1 ⟨rfl, hb1⟩); have hz1 := hb1.size; (try simp only [World.size_alloc, World.size_setCell, World.size_drew, size_drewN] at hz1); have P : Blk w1 (w.heap.size) 43 #[.int .u64 f, .int .u64 s, .int .i64 n] := (by (repeat' (first | (with_reducible assumption) | (with_reducible refine Blk.keep0 ?_ (by with_reducible assumption)) | (with_reducible refine Blk.new' _ _ _ ?_) | (with_reducible refine Blk.alloc ?_ _) | (with_reducible refine Blk.set' (by with_reducible assumption) ?_) | (with_reducible refine Blk.far ?_ (by simp only []; omega) _) | (with_reducible refine Blk.drew ?_) | (with_reducible refine Blk.drewN ?_ _) | (with_reducible rfl) | (simp only [World.size_alloc, World.size_setCell, World.size_drew, size_drewN]; done)))); have P_c := P.cell; have P_f := P.frozen; have P_z := P.lt) | (go_at_call 21; ((with_reducible refine (end_any _ _ _ (by omega) (by omega) _).mono ?_); rintro e w1 ⟨rfl, hb1⟩); have hz1 := hb1.size; (try simp only [World.size_alloc, World.size_setCell, World.size_drew, size_drewN] at hz1); have P : Blk w1 (w.heap.size) 43 #[.int .u64 f, .int .u64 s, .int .i64 n] := (by (repeat' (first | (with_reducible assumption) | (with_reducible refine Blk.keep0 ?_ (by with_reducible assumption)) | (with_reducible refine Blk.new' _ _ _ ?_) | (with_reducible refine Blk.alloc ?_ _) | (with_reducible refine Blk.set' (by with_reducible assumption) ?_) | (with_reducible refine Blk.far ?_ (by simp only []; omega) _) | (with_reducible refine Blk.drew ?_) | (with_reducible refine Blk.drewN ?_ _) | (with_reducible rfl) | (simp only [World.size_alloc, World.size_setCell, World.size_drew, size_drewN]; done)))); have P_c := P.cell; have P_f := P.frozen; have P_z := P.lt))
    go_ret2
    exact ⟨rfl, by (repeat' (first | (with_reducible exact Kept.refl _ _) | (with_reducible assumption) | (with_reducible refine Kept.then_ (by with_reducible assumption) ?_) | (with_reducible refine Kept.thenS (by with_reducible assumption) ?_) | (with_reducible refine Kept.alloc ?_ _) | (with_reducible refine Kept.drew ?_) | (with_reducible refine Kept.drewN ?_ _) | (with_reducible refine Kept.setNew ?_ ?_ _) | ((try simp only [World.size_alloc, World.size_setCell, World.size_drew, size_drewN] at *); (try dsimp only); omega)))⟩
def plc (a : Int) : Value := .agg #[.int .i64 (a / 16384), .int .i64 (a / 1024 % 16), .int .u64 (a % 1024)]
theorem at_hi (a : Int) (h : 1048576 ≤ a) (w : World) : Calls Try.prog 11 #[.int .u64 a] w fun e w' => e = .returned (.tuple #[.agg #[.int .i64 0, .int .i64 0, .int .u64 0], .int .i64 3]) ∧ Kept [] w w' := by
  go_enter Try.func11, Try.ntmps11
  go_wp2
  go_returns
  exact ⟨rfl, by (repeat' (first | (with_reducible exact Kept.refl _ _) | (with_reducible assumption) | (with_reducible refine Kept.then_ (by with_reducible assumption) ?_) | (with_reducible refine Kept.thenS (by with_reducible assumption) ?_) | (with_reducible refine Kept.alloc ?_ _) | (with_reducible refine Kept.drew ?_) | (with_reducible refine Kept.drewN ?_ _) | (with_reducible refine Kept.setNew ?_ ?_ _) | ((try simp only [World.size_alloc, World.size_setCell, World.size_drew, size_drewN] at *); (try dsimp only); omega)))⟩
theorem at_lo (a : Int) (h0 : 0 ≤ a) (h : a < 1048576) (w : World) : Calls Try.prog 11 #[.int .u64 a] w fun e w' => e = .returned (.tuple #[.agg #[.int .i64 (a / 16384), .int .i64 (a / 1024 % 16), .int .u64 (a % 1024)], .int .i64 0]) ∧ Kept [] w w' := by
  go_enter Try.func11, Try.ntmps11
  go_wp2
  go_returns
  exact ⟨rfl, by (repeat' (first | (with_reducible exact Kept.refl _ _) | (with_reducible assumption) | (with_reducible refine Kept.then_ (by with_reducible assumption) ?_) | (with_reducible refine Kept.thenS (by with_reducible assumption) ?_) | (with_reducible refine Kept.alloc ?_ _) | (with_reducible refine Kept.drew ?_) | (with_reducible refine Kept.drewN ?_ _) | (with_reducible refine Kept.setNew ?_ ?_ _) | ((try simp only [World.size_alloc, World.size_setCell, World.size_drew, size_drewN] at *); (try dsimp only); omega)))⟩
def addrP (s l o : Int) : Prop := 0 ≤ s ∧ s < 64 ∧ 0 ≤ l ∧ l < 16 ∧ o < 1024
instance (s l o : Int) : Decidable (addrP s l o) := by unfold addrP; infer_instance
def addrV (s l o : Int) : Int := if addrP s l o then s * 16384 + l * 1024 + o else 0
def addrE (s l o : Int) : Int := if addrP s l o then 0 else 3
theorem addr_any (s l o : Int) (h0 : 0 ≤ o) (w : World) : Calls Try.prog 13 #[.agg #[.int .i64 s, .int .i64 l, .int .u64 o]] w fun e w' => e = .returned (.tuple #[.int .u64 (addrV s l o), .int .i64 (addrE s l o)]) ∧ Kept [] w w' := by
  go_enter Try.func13, Try.ntmps13
  go_wp2
  all_goals
    go_ret2
    refine ⟨?_, by (repeat' (first | (with_reducible exact Kept.refl _ _) | (with_reducible assumption) | (with_reducible refine Kept.then_ (by with_reducible assumption) ?_) | (with_reducible refine Kept.thenS (by with_reducible assumption) ?_) | (with_reducible refine Kept.alloc ?_ _) | (with_reducible refine Kept.drew ?_) | (with_reducible refine Kept.drewN ?_ _) | (with_reducible refine Kept.setNew ?_ ?_ _) | ((try simp only [World.size_alloc, World.size_setCell, World.size_drew, size_drewN] at *); (try dsimp only); omega)))⟩
    go_light
    unfold addrV addrE
    first | (rw [if_pos (by unfold addrP; omega), if_pos (by unfold addrP; omega)]; rfl) | (rw [if_neg (by unfold addrP; omega), if_neg (by unfold addrP; omega)]; rfl)
end Go.Proofs.Ytfmgeidlbekfpaa
