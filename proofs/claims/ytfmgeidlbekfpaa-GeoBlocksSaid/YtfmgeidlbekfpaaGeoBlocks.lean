/- Blocks stand one behind the other; each address within one is in it alone; those ahead and behind are in none. No condition. -/
import Derived.Test.YtfmgeidlbekfpaaIn
import Derived.Deep.RegionHeld3
set_option linter.unusedVariables false
set_option linter.unusedSimpArgs false
namespace Go.Proofs.Ytfmgeidlbekfpaa.GeoBlocks
open Go.RowKit Go.ChangeShapes Go.WideShapes Go.ChangeAt Go.Joins
def Ok (f s n : Int) : Prop := 1 ≤ f ∧ f ≤ 900000 ∧ 1 ≤ s ∧ s ≤ 200 ∧ 0 ≤ n ∧ n ≤ 59
theorem Ok.may {f s n : Int} (h : Ok f s n) : MayP f s n ∧ 0 ≤ n * s ∧ n * s ≤ 11800 := by
  unfold Ok at h
  have h1 : n * s ≤ 59 * s := Int.mul_le_mul_of_nonneg_right (by omega) (by omega)
  have h2 : 0 ≤ n * s := Int.mul_nonneg (by omega) (by omega)
  exact ⟨by unfold MayP; omega, h2, by omega⟩
section
variable {f s n : Int} (h : Ok f s n)
include h
theorem block_in (k : Nat) (hk : (k : Int) < n) (w : World) : Calls Try.prog 15 #[.agg #[.int .u64 f, .int .u64 s, .int .i64 n], .int .i64 k] w fun e w' => e = .returned (.tuple #[.int .u64 (f + k * s), .int .i64 0]) ∧ Kept [] w w' := by
  have c := block_any f s n k (by unfold Ok at h; omega) (by unfold Ok at h; omega) w
  rw [show blkV f s n k = f + k * s by unfold blkV; rw [if_pos ⟨h.may.1, by omega, hk⟩], show blkE f s n k = 0 by unfold blkE; rw [if_pos h.may.1, if_pos ⟨by omega, hk⟩]] at c
  exact c
theorem block_out (k : Int) (hk : k < 0 ∨ n ≤ k) (w : World) : Calls Try.prog 15 #[.agg #[.int .u64 f, .int .u64 s, .int .i64 n], .int .i64 k] w fun e w' => e = .returned (.tuple #[.int .u64 0, .int .i64 3]) ∧ Kept [] w w' := by
  have c := block_any f s n k (by unfold Ok at h; omega) (by unfold Ok at h; omega) w
  rw [show blkV f s n k = 0 by unfold blkV; rw [if_neg (by omega)], show blkE f s n k = 3 by unfold blkE; rw [if_pos h.may.1, if_neg (by omega)]] at c
  exact c
theorem index_in (k : Nat) (hk : (k : Int) < n) (w : World) : Calls Try.prog 17 #[.agg #[.int .u64 f, .int .u64 s, .int .i64 n], .int .u64 (f + k * s)] w fun e w' => e = .returned (.tuple #[.int .i64 k, .int .i64 0]) ∧ Kept [] w w' := by
  have h2 : 0 ≤ (k : Int) * s := Int.mul_nonneg (by omega) (by unfold Ok at h; omega)
  have c := index_any f s n (f + k * s) (by unfold Ok at h; omega) (by unfold Ok at h; omega) (by unfold Ok at h; omega) w
  rw [(idx_hit h.may.1 hk rfl).1, (idx_hit h.may.1 hk rfl).2] at c
  exact c
theorem index_mid (k : Nat) (o : Int) (hk : (k : Int) < n) (ho : 0 < o) (ho' : o < s) (w : World) : Calls Try.prog 17 #[.agg #[.int .u64 f, .int .u64 s, .int .i64 n], .int .u64 (f + k * s + o)] w fun e w' => e = .returned (.tuple #[.int .i64 0, .int .i64 5]) ∧ Kept [] w w' := by
  have h2 : 0 ≤ (k : Int) * s := Int.mul_nonneg (by omega) (by unfold Ok at h; omega)
  have c := index_any f s n (f + k * s + o) (by unfold Ok at h; omega) (by unfold Ok at h; omega) (by unfold Ok at h; omega) w
  have e := idx_mid (a := f + k * s + o) h.may.1 hk (by omega) (by omega)
  rw [e.1, e.2] at c
  exact c
theorem index_out (a : Int) (h0 : 0 ≤ a) (ha : a < f ∨ f + n * s ≤ a) (w : World) : Calls Try.prog 17 #[.agg #[.int .u64 f, .int .u64 s, .int .i64 n], .int .u64 a] w fun e w' => e = .returned (.tuple #[.int .i64 0, .int .i64 3]) ∧ Kept [] w w' := by
  have c := index_any f s n a (by unfold Ok at h; omega) (by unfold Ok at h; omega) h0 w
  have e := idx_out h.may.1 ha
  rw [e.1, e.2] at c
  exact c
theorem end_in (w : World) : Calls Try.prog 21 #[.agg #[.int .u64 f, .int .u64 s, .int .i64 n]] w fun e w' => e = .returned (.int .u64 (f + n * s)) ∧ Kept [] w w' := by
  have c := end_any f s n (by unfold Ok at h; omega) (by unfold Ok at h; omega) w
  rw [if_pos h.may.1] at c
  exact c
theorem in_two (k : Nat) (o : Int) (hk : (k : Int) < n) (ho : 0 ≤ o) (ho' : o < s) (b : Nat) (w : World) (hb : Blk w b 22 #[.int .u64 (f + k * s + o), .int .u64 (f + k * s)]) :
    Calls Try.prog 19 #[.agg #[.int .u64 f, .int .u64 s, .int .i64 n], .slice (some ⟨b, 0, none⟩) 2 2] w fun e w' => e = .returned (.bool true) ∧ Kept [] w w' := by
  have h2 : 0 ≤ (k : Int) * s := Int.mul_nonneg (by omega) (by unfold Ok at h; omega)
  have h3 := mul_lt (s := s) (by unfold Ok at h; omega) hk
  have hh := h
  unfold Ok at hh
  have c := in_any f s n (some ⟨b, 0, none⟩) 2 [f + k * s + o, f + k * s] (by omega) (by omega) (by intro x hx; simp at hx; omega) w
    (RowI.of_blk hb (by intro i hi; simp at hi; rcases i with _ | _ | i <;> first | rfl | omega)) (by simp)
  have e1 : outB f s n (f + k * s + o) = false := by unfold outB endV; rw [if_pos h.may.1]; simp; omega
  have e2 : outB f s n (f + k * s) = false := by unfold outB endV; rw [if_pos h.may.1]; simp; omega
  have e : (decide (MayP f s n) && !([f + k * s + o, f + k * s].any fun a => outB f s n a)) = true := by simp [e1, e2, h.may.1]
  rw [e] at c
  exact c
theorem in_end (b : Nat) (w : World) (hb : Blk w b 22 #[.int .u64 (f + n * s)]) :
    Calls Try.prog 19 #[.agg #[.int .u64 f, .int .u64 s, .int .i64 n], .slice (some ⟨b, 0, none⟩) 1 1] w fun e w' => e = .returned (.bool false) ∧ Kept [] w w' := by
  have h2 := h.may.2
  have hh := h
  unfold Ok at hh
  have c := in_any f s n (some ⟨b, 0, none⟩) 1 [f + n * s] (by omega) (by omega) (by intro x hx; simp at hx; omega) w
    (RowI.of_blk hb (by intro i hi; simp at hi; subst hi; rfl)) (by simp)
  have e1 : outB f s n (f + n * s) = true := by unfold outB endV; rw [if_pos h.may.1]; simp
  have e : (decide (MayP f s n) && !([f + n * s].any fun a => outB f s n a)) = false := by simp [e1]
  rw [e] at c
  exact c
end
set_option maxRecDepth 100000 in
set_option maxHeartbeats 2000000 in
theorem walk (a0_0 a0_1 a0_2 a0_3 : Int) (W : World) (w0_0 : (Lit.int .u32 a0_0).wf = true) (w0_1 : (Lit.int .u8 a0_1).wf = true) (w0_2 : (Lit.int .u8 a0_2).wf = true) (w0_3 : (Lit.int .u8 a0_3).wf = true) :
    Calls Try.prog 6 #[.agg #[.int .u32 a0_0, .int .u8 a0_1, .int .u8 a0_2, .int .u8 a0_3]] W fun e w' => e = .returned (.bool true) ∧ Below W.heap.size W w' := by
  have b0 := bounds_u32 w0_0
  have b1 := bounds_u8 w0_1
  have b2 := bounds_u8 w0_2
  have b3 := bounds_u8 w0_3
  clear w0_0 w0_1 w0_2 w0_3
  go_enter Try.func6, Try.ntmps6
  go_wp2_with fail
  (with_reducible refine (alive_any _).mono ?_)
  rintro e w1 ⟨rfl, hb1⟩
  have hs1 := hb1.size
  (try simp only [World.size_alloc, World.size_setCell, World.size_drew, size_drewN] at hs1)
  have B0 : Blk w1 W.heap.size 52 #[.int .u32 a0_0, .int .u8 a0_1, .int .u8 a0_2, .int .u8 a0_3] := by (repeat' (first | (with_reducible assumption) | (with_reducible refine Blk.keep0 ?_ (by with_reducible assumption)) | (with_reducible refine Blk.new' _ _ _ ?_) | (with_reducible refine Blk.alloc ?_ _) | (with_reducible refine Blk.set' (by with_reducible assumption) ?_) | (with_reducible refine Blk.far ?_ (by simp only []; omega) _) | (with_reducible refine Blk.drew ?_) | (with_reducible refine Blk.drewN ?_ _) | (with_reducible rfl) | (simp only [World.size_alloc, World.size_setCell, World.size_drew, size_drewN]; done)))
  have B0_c := B0.cell
  have B0_f := B0.frozen
  have B0_z := B0.lt
  go_wp2_with fail
  refine wp_region_kept (by kernel_rfl) (by kernel_rfl) ?_
  intro TT FF hne hFF hcl
  have q_B0 := fun x => (Blk.keep0 (by (repeat' (first | (with_reducible assumption) | (with_reducible refine Blk.keep0 ?_ (by with_reducible assumption)) | (with_reducible refine Blk.new' _ _ _ ?_) | (with_reducible refine Blk.alloc ?_ _) | (with_reducible refine Blk.set' (by with_reducible assumption) ?_) | (with_reducible refine Blk.far ?_ (by simp only []; omega) _) | (with_reducible refine Blk.drew ?_) | (with_reducible refine Blk.drewN ?_ _) | (with_reducible rfl) | (simp only [World.size_alloc, World.size_setCell, World.size_drew, size_drewN]; done))) : Blk _ (W.heap.size) 52 #[.int .u32 a0_0, .int .u8 a0_1, .int .u8 a0_2, .int .u8 a0_3]) (hFF x)).cell
  repeat (first | go_big_quiet_step (fail) | quiet_step (fail))
  refine wpQuiet_nil ?_
  rintro w2 ⟨x, hx⟩
  have hb2 := hFF x
  rw [← hx] at hb2
  clear hx x hne hFF hcl q_B0
  have hs2 := hb2.size
  (try simp only [World.size_alloc, World.size_setCell, World.size_drew, size_drewN] at hs2)
  clear B0_c B0_f B0_z
  replace B0 : Blk w2 W.heap.size 52 #[.int .u32 a0_0, .int .u8 a0_1, .int .u8 a0_2, .int .u8 a0_3] := by (repeat' (first | (with_reducible assumption) | (with_reducible refine Blk.keep0 ?_ (by with_reducible assumption)) | (with_reducible refine Blk.new' _ _ _ ?_) | (with_reducible refine Blk.alloc ?_ _) | (with_reducible refine Blk.set' (by with_reducible assumption) ?_) | (with_reducible refine Blk.far ?_ (by simp only []; omega) _) | (with_reducible refine Blk.drew ?_) | (with_reducible refine Blk.drewN ?_ _) | (with_reducible rfl) | (simp only [World.size_alloc, World.size_setCell, World.size_drew, size_drewN]; done)))
  have B0_c := B0.cell
  have B0_f := B0.frozen
  have B0_z := B0.lt
  go_wp2_with fail
  have hok : Ok (1 + a0_0 % 900000) (a0_1 % 200 + 1) (a0_2 % 60) := by unfold Ok; omega
  generalize 1 + a0_0 % 900000 = F at *
  generalize a0_1 % 200 + 1 = S at *
  generalize a0_2 % 60 = n at *
  have hm := hok.may.2
  have hh := hok
  unfold Ok at hh
  have ho : 0 ≤ a0_3 % S ∧ a0_3 % S < S := ⟨Int.emod_nonneg _ (by omega), Int.emod_lt_of_pos _ (by omega)⟩
  go_loopw [48] (fun c wr => ∃ k : Nat, (k : Int) ≤ n ∧ c = .int .i64 k ∧ Kept [] W wr ∧ Blk wr w2.heap.size 43 #[.int .u64 F, .int .u64 S, .int .i64 n]) (fun c _ => (n - intOf c).toNat)
  case atStart => exact ⟨0, by omega, rfl, by (repeat' (first | (with_reducible exact Kept.refl _ _) | (with_reducible assumption) | (with_reducible refine Kept.then_ (by with_reducible assumption) ?_) | (with_reducible refine Kept.thenS (by with_reducible assumption) ?_) | (with_reducible refine Kept.alloc ?_ _) | (with_reducible refine Kept.drew ?_) | (with_reducible refine Kept.drewN ?_ _) | (with_reducible refine Kept.setNew ?_ ?_ _) | ((try simp only [World.size_alloc, World.size_setCell, World.size_drew, size_drewN] at *); (try dsimp only); omega))), by (repeat' (first | (with_reducible assumption) | (with_reducible refine Blk.keep0 ?_ (by with_reducible assumption)) | (with_reducible refine Blk.new' _ _ _ ?_) | (with_reducible refine Blk.alloc ?_ _) | (with_reducible refine Blk.set' (by with_reducible assumption) ?_) | (with_reducible refine Blk.far ?_ (by simp only []; omega) _) | (with_reducible refine Blk.drew ?_) | (with_reducible refine Blk.drewN ?_ _) | (with_reducible rfl) | (simp only [World.size_alloc, World.size_setCell, World.size_drew, size_drewN]; done)))⟩
  case round =>
    obtain ⟨k, hk, rfl, hkw, B1⟩ := hrel
    have B1_z := B1.lt
    have B1_f := B1.frozen
    have B1_c := B1.cell
    by_cases hlt : (k : Int) < n
    · have hb1 := mul_lt (s := S) (by omega) hlt
      have hb2 : 0 ≤ (k : Int) * S := Int.mul_nonneg (by omega) (by omega)
      by_cases hz : a0_3 % S = 0
      · go_wp2_with fail
        (with_reducible refine (block_in hok k hlt _).mono ?_)
        rintro e w3 ⟨rfl, hb3⟩
        have hs3 := hb3.size
        (try simp only [World.size_alloc, World.size_setCell, World.size_drew, size_drewN] at hs3)
        have B1 : Blk w3 w2.heap.size 43 #[.int .u64 F, .int .u64 S, .int .i64 n] := by (repeat' (first | (with_reducible assumption) | (with_reducible refine Blk.keep0 ?_ (by with_reducible assumption)) | (with_reducible refine Blk.new' _ _ _ ?_) | (with_reducible refine Blk.alloc ?_ _) | (with_reducible refine Blk.set' (by with_reducible assumption) ?_) | (with_reducible refine Blk.far ?_ (by simp only []; omega) _) | (with_reducible refine Blk.drew ?_) | (with_reducible refine Blk.drewN ?_ _) | (with_reducible rfl) | (simp only [World.size_alloc, World.size_setCell, World.size_drew, size_drewN]; done)))
        have B1_c := B1.cell
        have B1_f := B1.frozen
        have B1_z := B1.lt
        go_wp2_with fail
        (with_reducible refine (index_in hok k hlt _).mono ?_)
        rintro e w4 ⟨rfl, hb4⟩
        have hs4 := hb4.size
        (try simp only [World.size_alloc, World.size_setCell, World.size_drew, size_drewN] at hs4)
        clear B1_c B1_f B1_z
        replace B1 : Blk w4 w2.heap.size 43 #[.int .u64 F, .int .u64 S, .int .i64 n] := by (repeat' (first | (with_reducible assumption) | (with_reducible refine Blk.keep0 ?_ (by with_reducible assumption)) | (with_reducible refine Blk.new' _ _ _ ?_) | (with_reducible refine Blk.alloc ?_ _) | (with_reducible refine Blk.set' (by with_reducible assumption) ?_) | (with_reducible refine Blk.far ?_ (by simp only []; omega) _) | (with_reducible refine Blk.drew ?_) | (with_reducible refine Blk.drewN ?_ _) | (with_reducible rfl) | (simp only [World.size_alloc, World.size_setCell, World.size_drew, size_drewN]; done)))
        have B1_c := B1.cell
        have B1_f := B1.frozen
        have B1_z := B1.lt
        go_wp2_with fail
        (with_reducible refine (index_in hok k hlt _).mono ?_)
        rintro e w5 ⟨rfl, hb5⟩
        have hs5 := hb5.size
        (try simp only [World.size_alloc, World.size_setCell, World.size_drew, size_drewN] at hs5)
        clear B1_c B1_f B1_z
        replace B1 : Blk w5 w2.heap.size 43 #[.int .u64 F, .int .u64 S, .int .i64 n] := by (repeat' (first | (with_reducible assumption) | (with_reducible refine Blk.keep0 ?_ (by with_reducible assumption)) | (with_reducible refine Blk.new' _ _ _ ?_) | (with_reducible refine Blk.alloc ?_ _) | (with_reducible refine Blk.set' (by with_reducible assumption) ?_) | (with_reducible refine Blk.far ?_ (by simp only []; omega) _) | (with_reducible refine Blk.drew ?_) | (with_reducible refine Blk.drewN ?_ _) | (with_reducible rfl) | (simp only [World.size_alloc, World.size_setCell, World.size_drew, size_drewN]; done)))
        have B1_c := B1.cell
        have B1_f := B1.frozen
        have B1_z := B1.lt
        have c := fun b w hb => in_two hok k 0 hlt (by omega) (by omega) b w hb
        rw [Int.add_zero] at c
        have C := Lib.hid c
        clear c
        go_wp2_with fail
        (with_reducible refine (C.out _ _ (by (repeat' (first | (with_reducible assumption) | (with_reducible refine Blk.keep0 ?_ (by with_reducible assumption)) | (with_reducible refine Blk.new' _ _ _ ?_) | (with_reducible refine Blk.alloc ?_ _) | (with_reducible refine Blk.set' (by with_reducible assumption) ?_) | (with_reducible refine Blk.far ?_ (by simp only []; omega) _) | (with_reducible refine Blk.drew ?_) | (with_reducible refine Blk.drewN ?_ _) | (with_reducible rfl) | (simp only [World.size_alloc, World.size_setCell, World.size_drew, size_drewN]; done))))).mono ?_)
        rintro e w6 ⟨rfl, hb6⟩
        have hs6 := hb6.size
        (try simp only [World.size_alloc, World.size_setCell, World.size_drew, size_drewN] at hs6)
        clear B1_c B1_f B1_z
        replace B1 : Blk w6 w2.heap.size 43 #[.int .u64 F, .int .u64 S, .int .i64 n] := by (repeat' (first | (with_reducible assumption) | (with_reducible refine Blk.keep0 ?_ (by with_reducible assumption)) | (with_reducible refine Blk.new' _ _ _ ?_) | (with_reducible refine Blk.alloc ?_ _) | (with_reducible refine Blk.set' (by with_reducible assumption) ?_) | (with_reducible refine Blk.far ?_ (by simp only []; omega) _) | (with_reducible refine Blk.drew ?_) | (with_reducible refine Blk.drewN ?_ _) | (with_reducible rfl) | (simp only [World.size_alloc, World.size_setCell, World.size_drew, size_drewN]; done)))
        have B1_c := B1.cell
        have B1_f := B1.frozen
        have B1_z := B1.lt
        go_wp2_with fail
        go_roundw
        case rel => exact ⟨k + 1, by omega, by go_num, by (repeat' (first | (with_reducible exact Kept.refl _ _) | (with_reducible assumption) | (with_reducible refine Kept.then_ (by with_reducible assumption) ?_) | (with_reducible refine Kept.thenS (by with_reducible assumption) ?_) | (with_reducible refine Kept.alloc ?_ _) | (with_reducible refine Kept.drew ?_) | (with_reducible refine Kept.drewN ?_ _) | (with_reducible refine Kept.setNew ?_ ?_ _) | ((try simp only [World.size_alloc, World.size_setCell, World.size_drew, size_drewN] at *); (try dsimp only); omega))), B1⟩
        case measure => simp [intOf]; omega
      · have ho1 : 0 < a0_3 % S := by omega
        go_wp2_with fail
        (with_reducible refine (block_in hok k hlt _).mono ?_)
        rintro e w3 ⟨rfl, hb3⟩
        have hs3 := hb3.size
        (try simp only [World.size_alloc, World.size_setCell, World.size_drew, size_drewN] at hs3)
        have B1 : Blk w3 w2.heap.size 43 #[.int .u64 F, .int .u64 S, .int .i64 n] := by (repeat' (first | (with_reducible assumption) | (with_reducible refine Blk.keep0 ?_ (by with_reducible assumption)) | (with_reducible refine Blk.new' _ _ _ ?_) | (with_reducible refine Blk.alloc ?_ _) | (with_reducible refine Blk.set' (by with_reducible assumption) ?_) | (with_reducible refine Blk.far ?_ (by simp only []; omega) _) | (with_reducible refine Blk.drew ?_) | (with_reducible refine Blk.drewN ?_ _) | (with_reducible rfl) | (simp only [World.size_alloc, World.size_setCell, World.size_drew, size_drewN]; done)))
        have B1_c := B1.cell
        have B1_f := B1.frozen
        have B1_z := B1.lt
        go_wp2_with fail
        (with_reducible refine (index_in hok k hlt _).mono ?_)
        rintro e w4 ⟨rfl, hb4⟩
        have hs4 := hb4.size
        (try simp only [World.size_alloc, World.size_setCell, World.size_drew, size_drewN] at hs4)
        clear B1_c B1_f B1_z
        replace B1 : Blk w4 w2.heap.size 43 #[.int .u64 F, .int .u64 S, .int .i64 n] := by (repeat' (first | (with_reducible assumption) | (with_reducible refine Blk.keep0 ?_ (by with_reducible assumption)) | (with_reducible refine Blk.new' _ _ _ ?_) | (with_reducible refine Blk.alloc ?_ _) | (with_reducible refine Blk.set' (by with_reducible assumption) ?_) | (with_reducible refine Blk.far ?_ (by simp only []; omega) _) | (with_reducible refine Blk.drew ?_) | (with_reducible refine Blk.drewN ?_ _) | (with_reducible rfl) | (simp only [World.size_alloc, World.size_setCell, World.size_drew, size_drewN]; done)))
        have B1_c := B1.cell
        have B1_f := B1.frozen
        have B1_z := B1.lt
        go_wp2_with fail
        generalize a0_3 % S = o at *
        have hne : (F + ↑k * S + o == F + ↑k * S) = false := by simp; omega
        go_wp2_with fail
        (with_reducible refine (index_mid hok k o hlt (by omega) (by omega) _).mono ?_)
        rintro e w5 ⟨rfl, hb5⟩
        have hs5 := hb5.size
        (try simp only [World.size_alloc, World.size_setCell, World.size_drew, size_drewN] at hs5)
        clear B1_c B1_f B1_z
        replace B1 : Blk w5 w2.heap.size 43 #[.int .u64 F, .int .u64 S, .int .i64 n] := by (repeat' (first | (with_reducible assumption) | (with_reducible refine Blk.keep0 ?_ (by with_reducible assumption)) | (with_reducible refine Blk.new' _ _ _ ?_) | (with_reducible refine Blk.alloc ?_ _) | (with_reducible refine Blk.set' (by with_reducible assumption) ?_) | (with_reducible refine Blk.far ?_ (by simp only []; omega) _) | (with_reducible refine Blk.drew ?_) | (with_reducible refine Blk.drewN ?_ _) | (with_reducible rfl) | (simp only [World.size_alloc, World.size_setCell, World.size_drew, size_drewN]; done)))
        have B1_c := B1.cell
        have B1_f := B1.frozen
        have B1_z := B1.lt
        go_wp2_with fail
        (with_reducible refine (in_two hok k o hlt (by omega) (by omega) _ _ (by (repeat' (first | (with_reducible assumption) | (with_reducible refine Blk.keep0 ?_ (by with_reducible assumption)) | (with_reducible refine Blk.new' _ _ _ ?_) | (with_reducible refine Blk.alloc ?_ _) | (with_reducible refine Blk.set' (by with_reducible assumption) ?_) | (with_reducible refine Blk.far ?_ (by simp only []; omega) _) | (with_reducible refine Blk.drew ?_) | (with_reducible refine Blk.drewN ?_ _) | (with_reducible rfl) | (simp only [World.size_alloc, World.size_setCell, World.size_drew, size_drewN]; done))))).mono ?_)
        rintro e w6 ⟨rfl, hb6⟩
        have hs6 := hb6.size
        (try simp only [World.size_alloc, World.size_setCell, World.size_drew, size_drewN] at hs6)
        clear B1_c B1_f B1_z
        replace B1 : Blk w6 w2.heap.size 43 #[.int .u64 F, .int .u64 S, .int .i64 n] := by (repeat' (first | (with_reducible assumption) | (with_reducible refine Blk.keep0 ?_ (by with_reducible assumption)) | (with_reducible refine Blk.new' _ _ _ ?_) | (with_reducible refine Blk.alloc ?_ _) | (with_reducible refine Blk.set' (by with_reducible assumption) ?_) | (with_reducible refine Blk.far ?_ (by simp only []; omega) _) | (with_reducible refine Blk.drew ?_) | (with_reducible refine Blk.drewN ?_ _) | (with_reducible rfl) | (simp only [World.size_alloc, World.size_setCell, World.size_drew, size_drewN]; done)))
        have B1_c := B1.cell
        have B1_f := B1.frozen
        have B1_z := B1.lt
        go_wp2_with fail
        go_roundw
        case rel => exact ⟨k + 1, by omega, by go_num, by (repeat' (first | (with_reducible exact Kept.refl _ _) | (with_reducible assumption) | (with_reducible refine Kept.then_ (by with_reducible assumption) ?_) | (with_reducible refine Kept.thenS (by with_reducible assumption) ?_) | (with_reducible refine Kept.alloc ?_ _) | (with_reducible refine Kept.drew ?_) | (with_reducible refine Kept.drewN ?_ _) | (with_reducible refine Kept.setNew ?_ ?_ _) | ((try simp only [World.size_alloc, World.size_setCell, World.size_drew, size_drewN] at *); (try dsimp only); omega))), B1⟩
        case measure => simp [intOf]; omega
    · clear hk ho
      go_wp2_with fail
      refine wp_region_kept (by kernel_rfl) (by kernel_rfl) ?_
      intro TT FF hne hFF hcl
      have q_B1 := fun x => (Blk.keep0 (by (repeat' (first | (with_reducible assumption) | (with_reducible refine Blk.keep0 ?_ (by with_reducible assumption)) | (with_reducible refine Blk.new' _ _ _ ?_) | (with_reducible refine Blk.alloc ?_ _) | (with_reducible refine Blk.set' (by with_reducible assumption) ?_) | (with_reducible refine Blk.far ?_ (by simp only []; omega) _) | (with_reducible refine Blk.drew ?_) | (with_reducible refine Blk.drewN ?_ _) | (with_reducible rfl) | (simp only [World.size_alloc, World.size_setCell, World.size_drew, size_drewN]; done))) : Blk _ (w2.heap.size) 43 #[.int .u64 F, .int .u64 S, .int .i64 n]) (hFF x)).cell
      repeat (first | go_big_quiet_step ((first | (go_at_call 21; (with_reducible refine kept_call hcl (end_in hok _))) | (go_at_call 17; (with_reducible refine kept_call hcl (index_out hok _ (by omega) (by omega) _))))) | quiet_step ((first | (go_at_call 21; (with_reducible refine kept_call hcl (end_in hok _))) | (go_at_call 17; (with_reducible refine kept_call hcl (index_out hok _ (by omega) (by omega) _))))))
      refine wpQuiet_nil ?_
      rintro w3 ⟨x, hx⟩
      have hb3 := hFF x
      rw [← hx] at hb3
      clear hx x hne hFF hcl q_B1
      have hs3 := hb3.size
      (try simp only [World.size_alloc, World.size_setCell, World.size_drew, size_drewN] at hs3)
      clear B1_c B1_f B1_z
      replace B1 : Blk w3 w2.heap.size 43 #[.int .u64 F, .int .u64 S, .int .i64 n] := by (repeat' (first | (with_reducible assumption) | (with_reducible refine Blk.keep0 ?_ (by with_reducible assumption)) | (with_reducible refine Blk.new' _ _ _ ?_) | (with_reducible refine Blk.alloc ?_ _) | (with_reducible refine Blk.set' (by with_reducible assumption) ?_) | (with_reducible refine Blk.far ?_ (by simp only []; omega) _) | (with_reducible refine Blk.drew ?_) | (with_reducible refine Blk.drewN ?_ _) | (with_reducible rfl) | (simp only [World.size_alloc, World.size_setCell, World.size_drew, size_drewN]; done)))
      have B1_c := B1.cell
      have B1_f := B1.frozen
      have B1_z := B1.lt
      go_wp2_with fail
      (with_reducible refine (index_out hok _ (by omega) (by omega) _).mono ?_)
      rintro e w4 ⟨rfl, hb4⟩
      have hs4 := hb4.size
      (try simp only [World.size_alloc, World.size_setCell, World.size_drew, size_drewN] at hs4)
      clear B1_c B1_f B1_z
      replace B1 : Blk w4 w2.heap.size 43 #[.int .u64 F, .int .u64 S, .int .i64 n] := by (repeat' (first | (with_reducible assumption) | (with_reducible refine Blk.keep0 ?_ (by with_reducible assumption)) | (with_reducible refine Blk.new' _ _ _ ?_) | (with_reducible refine Blk.alloc ?_ _) | (with_reducible refine Blk.set' (by with_reducible assumption) ?_) | (with_reducible refine Blk.far ?_ (by simp only []; omega) _) | (with_reducible refine Blk.drew ?_) | (with_reducible refine Blk.drewN ?_ _) | (with_reducible rfl) | (simp only [World.size_alloc, World.size_setCell, World.size_drew, size_drewN]; done)))
      have B1_c := B1.cell
      have B1_f := B1.frozen
      have B1_z := B1.lt
      go_wp2_with fail
      (with_reducible refine (block_out hok _ (by omega) _).mono ?_)
      rintro e w5 ⟨rfl, hb5⟩
      have hs5 := hb5.size
      (try simp only [World.size_alloc, World.size_setCell, World.size_drew, size_drewN] at hs5)
      clear B1_c B1_f B1_z
      replace B1 : Blk w5 w2.heap.size 43 #[.int .u64 F, .int .u64 S, .int .i64 n] := by (repeat' (first | (with_reducible assumption) | (with_reducible refine Blk.keep0 ?_ (by with_reducible assumption)) | (with_reducible refine Blk.new' _ _ _ ?_) | (with_reducible refine Blk.alloc ?_ _) | (with_reducible refine Blk.set' (by with_reducible assumption) ?_) | (with_reducible refine Blk.far ?_ (by simp only []; omega) _) | (with_reducible refine Blk.drew ?_) | (with_reducible refine Blk.drewN ?_ _) | (with_reducible rfl) | (simp only [World.size_alloc, World.size_setCell, World.size_drew, size_drewN]; done)))
      have B1_c := B1.cell
      have B1_f := B1.frozen
      have B1_z := B1.lt
      go_wp2_with fail
      (with_reducible refine (block_out hok _ (by omega) _).mono ?_)
      rintro e w6 ⟨rfl, hb6⟩
      have hs6 := hb6.size
      (try simp only [World.size_alloc, World.size_setCell, World.size_drew, size_drewN] at hs6)
      clear B1_c B1_f B1_z
      replace B1 : Blk w6 w2.heap.size 43 #[.int .u64 F, .int .u64 S, .int .i64 n] := by (repeat' (first | (with_reducible assumption) | (with_reducible refine Blk.keep0 ?_ (by with_reducible assumption)) | (with_reducible refine Blk.new' _ _ _ ?_) | (with_reducible refine Blk.alloc ?_ _) | (with_reducible refine Blk.set' (by with_reducible assumption) ?_) | (with_reducible refine Blk.far ?_ (by simp only []; omega) _) | (with_reducible refine Blk.drew ?_) | (with_reducible refine Blk.drewN ?_ _) | (with_reducible rfl) | (simp only [World.size_alloc, World.size_setCell, World.size_drew, size_drewN]; done)))
      have B1_c := B1.cell
      have B1_f := B1.frozen
      have B1_z := B1.lt
      go_wp2_with fail
      have hk6 : Kept [] W w6 := by (repeat' (first | (with_reducible exact Kept.refl _ _) | (with_reducible assumption) | (with_reducible refine Kept.then_ (by with_reducible assumption) ?_) | (with_reducible refine Kept.thenS (by with_reducible assumption) ?_) | (with_reducible refine Kept.alloc ?_ _) | (with_reducible refine Kept.drew ?_) | (with_reducible refine Kept.drewN ?_ _) | (with_reducible refine Kept.setNew ?_ ?_ _) | ((try simp only [World.size_alloc, World.size_setCell, World.size_drew, size_drewN] at *); (try dsimp only); omega)))
      have mk : ∀ w', Blk w' w2.heap.size 43 #[.int .u64 F, .int .u64 S, .int .i64 n] → Kept [] W w' → (w'.cell? ⟨w2.heap.size, 0, none⟩ = some (.int .u64 F) ∧ w'.cell? ⟨w2.heap.size, 1, none⟩ = some (.int .u64 S) ∧ w'.cell? ⟨w2.heap.size, 2, none⟩ = some (.int .i64 n)) ∧ Blk w' w2.heap.size 43 #[.int .u64 F, .int .u64 S, .int .i64 n] ∧ Kept [] W w' :=
        fun w' h' hk => ⟨⟨h'.cell 0, h'.cell 1, h'.cell 2⟩, h', hk⟩
      have MK := Lib.hid mk
      clear mk
      go_region_held3 (fun w' => (w'.cell? ⟨w2.heap.size, 0, none⟩ = some (.int .u64 F) ∧ w'.cell? ⟨w2.heap.size, 1, none⟩ = some (.int .u64 S) ∧ w'.cell? ⟨w2.heap.size, 2, none⟩ = some (.int .i64 n)) ∧ Blk w' w2.heap.size 43 #[.int .u64 F, .int .u64 S, .int .i64 n] ∧ Kept [] W w')
        (exact MK.out _ (by (repeat' (first | (with_reducible assumption) | (with_reducible refine Blk.keep0 ?_ (by with_reducible assumption)) | (with_reducible refine Blk.new' _ _ _ ?_) | (with_reducible refine Blk.alloc ?_ _) | (with_reducible refine Blk.set' (by with_reducible assumption) ?_) | (with_reducible refine Blk.far ?_ (by simp only []; omega) _) | (with_reducible refine Blk.drew ?_) | (with_reducible refine Blk.drewN ?_ _) | (with_reducible rfl) | (simp only [World.size_alloc, World.size_setCell, World.size_drew, size_drewN]; done)))) (by (repeat' (first | (with_reducible exact Kept.refl _ _) | (with_reducible assumption) | (with_reducible refine Kept.then_ (by with_reducible assumption) ?_) | (with_reducible refine Kept.thenS (by with_reducible assumption) ?_) | (with_reducible refine Kept.alloc ?_ _) | (with_reducible refine Kept.drew ?_) | (with_reducible refine Kept.drewN ?_ _) | (with_reducible refine Kept.setNew ?_ ?_ _) | ((try simp only [World.size_alloc, World.size_setCell, World.size_drew, size_drewN] at *); (try dsimp only); omega)))))
        (first | (go_at_call 21; (with_reducible refine (end_in hok _).mono ?_); rintro e wx ⟨rfl, hbx⟩) | (go_at_call 19; (with_reducible refine (in_end hok _ _ (by (repeat' (first | (with_reducible assumption) | (with_reducible refine Blk.keep0 ?_ (by with_reducible assumption)) | (with_reducible refine Blk.new' _ _ _ ?_) | (with_reducible refine Blk.alloc ?_ _) | (with_reducible refine Blk.set' (by with_reducible assumption) ?_) | (with_reducible refine Blk.far ?_ (by simp only []; omega) _) | (with_reducible refine Blk.drew ?_) | (with_reducible refine Blk.drewN ?_ _) | (with_reducible rfl) | (simp only [World.size_alloc, World.size_setCell, World.size_drew, size_drewN]; done))))).mono ?_); rintro e wx ⟨rfl, hbx⟩))
      all_goals
        go_wp2_with fail
        go_ret
        refine ⟨ret_bool ?_, Kept.below (by (repeat' (first | (with_reducible exact Kept.refl _ _) | (with_reducible assumption) | (with_reducible refine Kept.then_ (by with_reducible assumption) ?_) | (with_reducible refine Kept.thenS (by with_reducible assumption) ?_) | (with_reducible refine Kept.alloc ?_ _) | (with_reducible refine Kept.drew ?_) | (with_reducible refine Kept.drewN ?_ _) | (with_reducible refine Kept.setNew ?_ ?_ _) | ((try simp only [World.size_alloc, World.size_setCell, World.size_drew, size_drewN] at *); (try dsimp only); omega))))⟩
        rw [IntWalk.u64_in n ⟨by omega, by omega⟩, IntWalk.u64_in (n * S) ⟨by omega, by omega⟩, IntWalk.u64_in (F + n * S) ⟨by omega, by omega⟩]
        simp
theorem own : ownKnob Try.prog.godebug = none := by kernel_rfl
theorem laidOut : laidOutB Try.prog = true := by kernel_rfl
set_option maxRecDepth 100000 in
theorem lifted (os : Os) (started : os.Started) (H : Type) (enc : TypeId × Value → H) :
    ReturnsInHanded {} Try.checked os 6 .any (Rows.geoBlocksSpec.pre6 enc Try.prog Try.f6 Rows.geoBlocksRow.domain false) (Rows.geoBlocksSpec.post enc Try.prog Try.f6 false true false false) := by
  refine returnsInHanded_of_change (C := Try.checked) own started (by kernel_rfl) Try.func6
    (ChangeSpec.witness6 (enc := enc) (C := Try.checked) false ⟨#[], #[.agg #[.int .u32 0, .int .u8 0, .int .u8 0, .int .u8 0]], []⟩ 8 (by kernel_rfl) (by kernel_rfl) (by kernel_rfl) (by kernel_rfl)) ?_
  intro W base args ds gs before hval0 hW hcnd _
  have hval : ∀ (j : Nat) t v, Try.f6.params[j]? = some t → args[j]? = some v → Value.okWide Try.prog W .any base t v := hval0
  have hW' := hW
  obtain ⟨p, q, hA0, hV, rfl, hfz, hnd⟩ := hW
  have hA : DataW.TrodAll enc Try.prog W 0 (fun _ => true) true Try.f6.params.toList args.toList ds p := hA0
  rw [Try.params6] at hA hval
  obtain ⟨v0, vs0, d0, ds0, p0, q0, hargs, rfl, rfl, h0, r0⟩ := trodAll_cons hA
  obtain ⟨rfl, rfl, rfl⟩ := trodAll_nil r0
  obtain rfl : args = #[v0] := by cases args; simp_all
  obtain ⟨rfl, rfl⟩ := trodVars_none hV
  have k0 := h0
  have lt0 : ∀ x ∈ p0, x.block < W.heap.size := by obtain ⟨m, hm⟩ := k0; exact DataW.trod_lt m _ _ _ hm
  obtain ⟨c0_0, c0_1, c0_2, c0_3, y0_0, y0_1, y0_2, y0_3, n0, rfl, rfl, rfl, t0_0, t0_1, t0_2, t0_3⟩ := open_agg4 Try.underlying52 (by kernel_rfl) (by kernel_rfl) (hval 0 52 v0 rfl rfl) h0
  obtain ⟨a0_0, e0_0, _, w0_0⟩ := DataW.trod_int Try.underlying36 t0_0
  simp only [List.cons.injEq, and_true] at e0_0
  subst e0_0
  obtain ⟨a0_1, e0_1, _, w0_1⟩ := DataW.trod_int Try.underlying5 t0_1
  simp only [List.cons.injEq, and_true] at e0_1
  subst e0_1
  obtain ⟨a0_2, e0_2, _, w0_2⟩ := DataW.trod_int Try.underlying5 t0_2
  simp only [List.cons.injEq, and_true] at e0_2
  subst e0_2
  obtain ⟨a0_3, e0_3, _, w0_3⟩ := DataW.trod_int Try.underlying5 t0_3
  simp only [List.cons.injEq, and_true] at e0_3
  subst e0_3
  clear hA0 hval0
  refine (walk a0_0 a0_1 a0_2 a0_3 W w0_0 w0_1 w0_2 w0_3).mono fun e W' ⟨he, bel⟩ => ?_
  subst he
  exact ⟨_, rfl, _, _, _, [], _, [], hW', trodAll_mk1 (shut_bool Try.underlying4 _), (trodAll_cons_mk (Below.trod laidOut (by kernel_rfl) (of_decide_eq_true (by kernel_rfl)) k0 bel lt0) trodAll_mk0), rfl, bel.frame _, fun h => by cases h⟩
theorem over : Rows.geoBlocksRow.holds Try.pinned (OpenSpec.ofChange Rows.geoBlocksSpec) :=
  OpenClaim.holds_of_wide 6 Try.f6 rfl rfl rfl rfl rfl rfl rfl ⟨rfl, rfl, rfl, rfl, rfl⟩ rfl rfl rfl rfl rfl (by kernel_rfl) Try.func6 (by kernel_rfl)
    (of_decide_eq_true (by kernel_rfl)) (by unfold Func.isWrapper; first | (rw [if_pos (by decide +kernel)]; kernel_rfl) | (rw [if_neg (by decide +kernel)]; exact ⟨rfl, rfl⟩))
    (fun os started H enc _ => lifted os started H enc)
theorem proved : Rows.GeoBlocksSaid := over
#print axioms proved
end Go.Proofs.Ytfmgeidlbekfpaa.GeoBlocks
