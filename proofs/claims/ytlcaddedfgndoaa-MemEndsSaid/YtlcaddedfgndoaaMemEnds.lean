/- At each end of memory just what is whole in it goes; what doesn't changes nothing. No condition. -/
import Derived.Test.YtlcaddedfgndoaaMemH
set_option linter.unusedVariables false
set_option linter.unusedSimpArgs false
namespace Go.Proofs.Ytlcaddedfgndoaa.MemEnds
open Go.RowKit Go.ChangeShapes Go.WideShapes Go.ChangeAt Go.Joins
def All7 (z : List Int) : Prop := z.length = 1024 ∧ ∀ i, i < 1024 → z[i]? = some 7
theorem all7_fill (zs : List Int) (h : zs.length = 1024) : All7 (splice zs 0 (rep [7] 1024)) := by
  refine ⟨by rw [length_splice _ _ _ (by simp; omega)]; exact h, fun i hi => ?_⟩
  rw [splice_get _ _ _ (by simp; omega), if_neg (by omega), if_pos (by simp; omega), rep_get _ _ _ (by omega)]
  simp [Nat.mod_one]
theorem All7.splice {z ys : List Int} (h : All7 z) (a : Nat) (hy : ∀ i, i < ys.length → ys[i]? = some 7) (ha : a + ys.length ≤ 1024) : All7 (Go.splice z a ys) := by
  refine ⟨by rw [length_splice _ _ _ (by have := h.1; omega)]; exact h.1, fun i hi => ?_⟩
  rw [splice_get _ _ _ (by have := h.1; omega)]
  by_cases h1 : i < a
  · rw [if_pos h1]; exact h.2 i hi
  · rw [if_neg h1]
    by_cases h2 : i < a + ys.length
    · rw [if_pos h2]; exact hy _ (by omega)
    · rw [if_neg h2]; exact h.2 i hi
theorem All7.piece {z : List Int} (h : All7 z) (a k : Nat) (ha : a + k ≤ 1024) : ∀ i, i < ((z.drop a).take k).length → ((z.drop a).take k)[i]? = some 7 := by
  intro i hi
  have hi' : i < k := by simp at hi; omega
  rw [List.getElem?_take_of_lt hi', List.getElem?_drop]
  exact h.2 _ (by omega)
theorem rep7 (k : Nat) : ∀ i, i < (rep [7] k).length → (rep [7] k)[i]? = some 7 := by
  intro i hi
  rw [length_rep] at hi
  rw [rep_get _ _ _ hi]
  simp [Nat.mod_one]
theorem ends_get {z : List Int} (h : All7 z) (a k : Nat) (ha : a + k ≤ 1024) (i : Nat) (hi : i < 1024) : (Go.splice z a (zeros k))[i]?.getD 0 = if a ≤ i ∧ i < a + k then 0 else 7 := by
  have hz := length_zeros k
  rw [splice_get _ _ _ (by have := h.1; omega), hz]
  by_cases h1 : i < a
  · rw [if_pos h1, if_neg (by omega), h.2 i hi]; rfl
  · rw [if_neg h1]
    by_cases h2 : i < a + k
    · rw [if_pos h2, if_pos ⟨by omega, h2⟩]; unfold zeros; rw [List.getElem?_replicate, if_pos (by omega)]; rfl
    · rw [if_neg h2, if_neg (by omega), h.2 i hi]; rfl
theorem zrow {w : World} {b k : Nat} (h : Blk w b 5 (cellsOf (zeros k))) : RowX .u8 w (some ⟨b, 0, none⟩) (zeros k) := RowX.of_blk h (fun i hi => cellsOf_lt hi)
set_option maxRecDepth 100000 in
set_option maxHeartbeats 2000000 in
theorem walk_in (back : Int) (k A : Nat) (W : World) (b0 : 0 ≤ back ∧ back ≤ 255) (hA : 1024 - back = (A : Int)) (hk : (k : Int) ≤ back) :
    Calls Try.prog 8 #[.int .u8 back, .int .u8 k] W fun e W' => e = .returned (.bool true) ∧ Below W.heap.size W W' := by
  have hAk : A + k ≤ 1024 ∧ 769 ≤ A ∧ k ≤ 255 := by omega
  obtain ⟨zs, hzs⟩ : ∃ zs, zeros 1024 = zs := ⟨_, rfl⟩
  have hl : Hid (zs.length = 1024) := Lib.hid (by rw [← hzs]; exact length_zeros _)
  have C1 : Hid (∀ w : World, Calls Try.prog 10 #[.int .u64 1024] w fun e w' => e = .returned (.tuple #[.pointer (some ⟨w.heap.size + 1, 0, none⟩), .int .i64 0]) ∧ MemB w' (w.heap.size + 1) w.heap.size zs ∧ Kept [] w w') := Lib.hid (by
    intro w; have := new_any w 1024 (by omega) (by omega) (by omega); rw [hzs] at this; exact this)
  clear hzs
  obtain ⟨z1, hz1⟩ : ∃ z1, splice zs 0 (rep [7] 1024) = z1 := ⟨_, rfl⟩
  have F1 : All7 z1 := by rw [← hz1]; exact all7_fill zs hl.out
  have C2 : Hid (∀ (w : World) p g b, MemB w p g zs → b ≠ g → Blk w b 5 #[.int .u8 7] → Calls Try.prog 11 #[.pointer (some ⟨p, 0, none⟩), .int .u64 0, .int .u64 1024, .slice (some ⟨b, 0, none⟩) 1 1] w fun e w' => e = .returned (.int .i64 0) ∧ MemB w' p g z1 ∧ Kept [g] w w') := Lib.hid (by
    intro w p g b h hb hB
    rw [← hz1]
    exact fill_in w p g _ h 0 1024 (by have := hl.out; omega) (some ⟨b, 0, none⟩) 1 1 [7] rfl (fun w' hk => row_1 (hB.keep hk (by simpa using hb))) (fun z hz => by simp at hz; omega) (by simp) (by simp))
  obtain ⟨i0, hi, hz0, hzs1, hzs2⟩ := info_parts info_u8
  have hmk := fun (w : World) => run_make (P := Try.prog) w 22 5 i0 (.int .u8 0) Try.underlying22 hi hz0 .u64 .u64 k k (by omega) (Int.le_refl _) (by rw [hzs2]; omega) (by omega)
  simp only [Int.toNat_natCast, hzs1, made_zeros] at hmk
  obtain ⟨z2, hz2⟩ : ∃ z2, splice z1 0 ((z1.drop A).take k) = z2 := ⟨_, rfl⟩
  have hpl : ((z1.drop A).take k).length = k := piece_len z1 A k (by have := F1.1; omega)
  have F2 : All7 z2 := by rw [← hz2]; exact F1.splice 0 (F1.piece A k (by omega)) (by omega)
  obtain ⟨z3, hz3⟩ : ∃ z3, splice z2 A (rep [7] k) = z3 := ⟨_, rfl⟩
  have F3 : All7 z3 := by rw [← hz3]; exact F2.splice A (rep7 k) (by rw [length_rep]; omega)
  obtain ⟨ZZ, hzz⟩ : ∃ z4, splice z3 A (zeros k) = z4 := ⟨_, rfl⟩
  have hlz : Hid (ZZ.length = 1024) := Lib.hid (by rw [← hzz, length_splice _ _ _ (by rw [length_zeros]; have := F3.1; omega)]; exact F3.1)
  have HF : Hid (∀ i, i < 1024 → ZZ[i]?.getD 0 = if A ≤ i ∧ i < A + k then 0 else 7) := Lib.hid (fun i hi => by rw [← hzz]; exact ends_get F3 A k (by omega) i hi)
  have C3 : Hid (∀ (w : World) p g, MemB w p g z1 → Calls Try.prog 12 #[.pointer (some ⟨p, 0, none⟩), .int .u64 A, .int .u64 k] w (GetAt w k ((z1.drop A).take k))) := Lib.hid (fun w p g h => get_at w p g z1 h A k _ (by have := F1.1; omega) rfl)
  have C4 : Hid (∀ (w : World) p g, MemB w p g z1 → Calls Try.prog 15 #[.pointer (some ⟨p, 0, none⟩), .int .u64 0, .int .u64 A, .int .u64 k] w fun e w' => e = .returned (.int .i64 0) ∧ MemB w' p g z2 ∧ Kept [g] w w') := Lib.hid (fun w p g h => by
    rw [← hz2]; exact copy_in w p g z1 h 0 A k (by have := F1.1; omega) (by have := F1.1; omega))
  have C5 : Hid (∀ (w : World) p g b, MemB w p g z2 → b ≠ g → Blk w b 5 #[.int .u8 7] → Calls Try.prog 11 #[.pointer (some ⟨p, 0, none⟩), .int .u64 A, .int .u64 k, .slice (some ⟨b, 0, none⟩) 1 1] w fun e w' => e = .returned (.int .i64 0) ∧ MemB w' p g z3 ∧ Kept [g] w w') := Lib.hid (by
    intro w p g b h hb hB
    rw [← hz3]
    exact fill_in w p g _ h A k (by have := F2.1; omega) (some ⟨b, 0, none⟩) 1 1 [7] rfl (fun w' hk => row_1 (hB.keep hk (by simpa using hb))) (fun z hz => by simp at hz; omega) (by simp) (by simp))
  have C6 : Hid (∀ (w : World) p g b, MemB w p g z3 → Blk w b 5 (cellsOf (zeros k)) → Calls Try.prog 14 #[.pointer (some ⟨p, 0, none⟩), .int .u64 A, .slice (some ⟨b, 0, none⟩) k k] w fun e w' => e = .returned (.int .i64 0) ∧ MemB w' p g ZZ ∧ Kept [g] w w') := Lib.hid (by
    intro w p g b h hB
    rw [← hzz]
    exact put_in w p g _ h A (some ⟨b, 0, none⟩) k k (zeros k) (length_zeros k).symm (zrow hB) (U8s.zeros k) (by rw [length_zeros]; have := F3.1; omega))
  have D1 : Hid (∀ (w : World) p g, MemB w p g ZZ → Calls Try.prog 12 #[.pointer (some ⟨p, 0, none⟩), .int .u64 0, .int .u64 1024] w (GetAt w 1024 ZZ)) := Lib.hid (fun w p g h => get_at w p g ZZ h 0 1024 ZZ (by have := hlz.out; omega) (piece_all ZZ 1024 hlz.out))
  have D2 : Hid (∀ (w : World) p g, MemB w p g ZZ → Calls Try.prog 17 #[.pointer (some ⟨p, 0, none⟩), .int .u64 18446744073709551615, .int .i64 8] w fun e w' => e = .returned (.tuple #[.int .u64 0, .int .i64 3]) ∧ Kept [] w w') := Lib.hid (fun w p g h => load_out w p g ZZ h 18446744073709551615 8 (by unfold MayN; omega) (by omega) (by have := hlz.out; omega))
  have D3 : Hid (∀ (w : World) p g, MemB w p g ZZ → Calls Try.prog 15 #[.pointer (some ⟨p, 0, none⟩), .int .u64 18446744073709551615, .int .u64 0, .int .u64 2] w fun e w' => e = .returned (.int .i64 3) ∧ w = w') := Lib.hid (fun w p g h => copy_to_out w p g ZZ h 18446744073709551615 0 2 (by omega) (by have := hlz.out; omega) (by have := hlz.out; omega))
  have D4 : Hid (∀ (w : World) p g, MemB w p g ZZ → Calls Try.prog 11 #[.pointer (some ⟨p, 0, none⟩), .int .u64 1025, .int .u64 0, .slice none 0 0] w fun e w' => e = .returned (.int .i64 3) ∧ Kept [] w w') := Lib.hid (fun w p g h => fill_nil_out w p g ZZ h 1025 0 none 0 (by omega) (by omega) (by have := hlz.out; omega))
  have D5 : Hid (∀ (w : World) p g, MemB w p g ZZ → Calls Try.prog 11 #[.pointer (some ⟨p, 0, none⟩), .int .u64 1024, .int .u64 0, .slice none 0 0] w fun e w' => e = .returned (.int .i64 0) ∧ Kept [g] w w') := Lib.hid (fun w p g h => (fill_nil w p g ZZ h 1024 0 (by have := hlz.out; omega) none 0).mono fun e w' hh => ⟨hh.1, hh.2.2⟩)
  clear hz1 hz2 hz3 hzz F1 F2 F3 hpl
  go_enter Try.func8, Try.ntmps8
  go_wp2_with fail
  (with_reducible refine (alive_any _).mono ?_)
  rintro e w1 ⟨rfl, hb1⟩
  have hs1 := hb1.size
  (try simp only [World.size_alloc, World.size_setCell, World.size_drew, size_drewN] at hs1)
  go_wp2_with fail
  (with_reducible refine (C1.out _).mono ?_)
  rintro e w2 ⟨rfl, hM2, hb2⟩
  have hs2 := hb2.size
  (try simp only [World.size_alloc, World.size_setCell, World.size_drew, size_drewN] at hs2)
  have M2 := Lib.hid hM2
  have hg2 := hM2.2.1.lt
  clear hM2
  (try simp only [size_drewN, World.size_drew] at M2 hg2)
  go_wp2_with fail
  (with_reducible refine (C2.out _ _ _ _ (M2.out.keep0 (by (repeat' (first | (with_reducible exact Kept.refl _ _) | (with_reducible assumption) | (with_reducible refine Kept.then_ (by with_reducible assumption) ?_) | (with_reducible refine Kept.thenS (by with_reducible assumption) ?_) | (with_reducible refine Kept.alloc ?_ _) | (with_reducible refine Kept.drew ?_) | (with_reducible refine Kept.drewN ?_ _) | (with_reducible refine Kept.setNew ?_ ?_ _) | ((try simp only [World.size_alloc, World.size_setCell, World.size_drew, size_drewN] at *); (try dsimp only); omega))))) (by omega) (Blk.new _ _ _)).mono ?_)
  rintro e w3 ⟨rfl, hM3, hb3⟩
  have hs3 := hb3.size
  (try simp only [World.size_alloc, World.size_setCell, World.size_drew, size_drewN] at hs3)
  have M3 := Lib.hid hM3
  have hg3 := hM3.2.1.lt
  clear hM3
  (try simp only [size_drewN, World.size_drew] at M3 hg3)
  clear M2
  go_wp2_with fail
  (with_reducible refine (C3.out _ _ _ M3.out).mono ?_)
  rintro e w4 ⟨A4, c4, rfl, hO4, hb4⟩
  have hs4 := hb4.size
  (try simp only [World.size_alloc, World.size_setCell, World.size_drew, size_drewN] at hs4)
  have O4 := Lib.hid hO4
  clear hO4
  (try simp only [size_drewN, World.size_drew] at O4)
  go_wp2_with fail
  (with_reducible refine (C4.out _ _ _ (M3.out.keep0 hb4)).mono ?_)
  rintro e w5 ⟨rfl, hM5, hb5⟩
  have hs5 := hb5.size
  (try simp only [World.size_alloc, World.size_setCell, World.size_drew, size_drewN] at hs5)
  have M5 := Lib.hid hM5
  have hg5 := hM5.2.1.lt
  clear hM5
  (try simp only [size_drewN, World.size_drew] at M5 hg5)
  clear M3 O4
  go_wp2_with fail
  (with_reducible refine (C5.out _ _ _ _ (M5.out.keep0 (by (repeat' (first | (with_reducible exact Kept.refl _ _) | (with_reducible assumption) | (with_reducible refine Kept.then_ (by with_reducible assumption) ?_) | (with_reducible refine Kept.thenS (by with_reducible assumption) ?_) | (with_reducible refine Kept.alloc ?_ _) | (with_reducible refine Kept.drew ?_) | (with_reducible refine Kept.drewN ?_ _) | (with_reducible refine Kept.setNew ?_ ?_ _) | ((try simp only [World.size_alloc, World.size_setCell, World.size_drew, size_drewN] at *); (try dsimp only); omega))))) (by omega) (Blk.new _ _ _)).mono ?_)
  rintro e w6 ⟨rfl, hM6, hb6⟩
  have hs6 := hb6.size
  (try simp only [World.size_alloc, World.size_setCell, World.size_drew, size_drewN] at hs6)
  have M6 := Lib.hid hM6
  have hg6 := hM6.2.1.lt
  clear hM6
  (try simp only [size_drewN, World.size_drew] at M6 hg6)
  go_wp2_with fail
  (with_reducible refine (C6.out _ _ _ _ (M6.out.keep0 (by (repeat' (first | (with_reducible exact Kept.refl _ _) | (with_reducible assumption) | (with_reducible refine Kept.then_ (by with_reducible assumption) ?_) | (with_reducible refine Kept.thenS (by with_reducible assumption) ?_) | (with_reducible refine Kept.alloc ?_ _) | (with_reducible refine Kept.drew ?_) | (with_reducible refine Kept.drewN ?_ _) | (with_reducible refine Kept.setNew ?_ ?_ _) | ((try simp only [World.size_alloc, World.size_setCell, World.size_drew, size_drewN] at *); (try dsimp only); omega))))) (Blk.new _ _ _)).mono ?_)
  rintro e w7 ⟨rfl, hMZ, hb7⟩
  have hs7 := hb7.size
  (try simp only [World.size_alloc, World.size_setCell, World.size_drew, size_drewN] at hs7)
  have MZ := Lib.hid hMZ
  have hgZ := hMZ.2.1.lt
  clear hMZ
  (try simp only [size_drewN, World.size_drew] at MZ hgZ)
  clear M5 M6
  go_wp2_with fail
  (with_reducible refine (D1.out _ _ _ MZ.out).mono ?_)
  rintro e w9 ⟨A9, c9, rfl, hO9, hb9⟩
  have hs9 := hb9.size
  (try simp only [World.size_alloc, World.size_setCell, World.size_drew, size_drewN] at hs9)
  have O9 := Lib.hid hO9
  clear hO9
  (try simp only [size_drewN, World.size_drew] at O9)
  have M9 := Lib.hid (MZ.out.keep0 hb9)
  have K9 : Hid (Kept [] W w9) := Lib.hid (by (repeat' (first | (with_reducible exact Kept.refl _ _) | (with_reducible assumption) | (with_reducible refine Kept.then_ (by with_reducible assumption) ?_) | (with_reducible refine Kept.thenS (by with_reducible assumption) ?_) | (with_reducible refine Kept.thenG (by with_reducible assumption) ?_ ?_) | (with_reducible refine Kept.alloc ?_ _) | (with_reducible refine Kept.drew ?_) | (with_reducible refine Kept.drewN ?_ _) | (with_reducible refine Kept.setNew ?_ ?_ _) | ((try simp only [World.size_alloc, World.size_setCell, World.size_drew, size_drewN] at *); (try dsimp only); omega))))
  obtain ⟨ad, hA9, hcs⟩ := cells_at O9.out hlz.out.symm (by omega)
  subst hA9
  have HC := Lib.hid hcs
  clear hcs O9 MZ
  go_wp2_with fail
  go_loop [107] (fun i => ∃ j : Nat, j ≤ 1024 ∧ i = .int .i64 j) (fun i => (1024 - intOf i).toNat)
  case atStart => exact ⟨0, by omega, rfl⟩
  case round =>
    obtain ⟨j, hj, rfl⟩ := hrel
    by_cases hlt : j < 1024
    · have hcell := HC.out j hlt
      rw [HF.out j hlt] at hcell
      by_cases h1 : A ≤ j
      · by_cases h2 : j < A + k
        · rw [if_pos ⟨h1, h2⟩] at hcell
          have h1' : (A : Int) ≤ (j : Int) := by omega
          have h2' : (j : Int) < (A : Int) + (k : Int) := by omega
          go_wp2_with fail
          go_round
          case rel => exact ⟨j + 1, by omega, by go_num⟩
          case measure => simp [intOf]; omega
        · rw [if_neg (by omega)] at hcell
          have h1' : (A : Int) ≤ (j : Int) := by omega
          have h2' : ¬ ((j : Int) < (A : Int) + (k : Int)) := by omega
          go_wp2_with fail
          go_round
          case rel => exact ⟨j + 1, by omega, by go_num⟩
          case measure => simp [intOf]; omega
      · rw [if_neg (by omega)] at hcell
        have h1' : ¬ ((A : Int) ≤ (j : Int)) := by omega
        go_wp2_with fail
        go_round
        case rel => exact ⟨j + 1, by omega, by go_num⟩
        case measure => simp [intOf]; omega
    · obtain rfl : j = 1024 := by omega
      rw [show ((1024 : Nat) : Int) = 1024 from rfl]
      go_wp2_with fail
      (with_reducible refine (D2.out _ _ _ M9.out).mono ?_)
      rintro e w10 ⟨rfl, hb10⟩
      have hs10 := hb10.size
      (try simp only [World.size_alloc, World.size_setCell, World.size_drew, size_drewN] at hs10)
      have M10 := Lib.hid (M9.out.keep0 hb10)
      go_wp2_with fail
      (with_reducible refine (D3.out _ _ _ M10.out).mono ?_)
      rintro e w11 ⟨rfl, rfl⟩
      go_wp2_with fail
      (with_reducible refine (D4.out _ _ _ M10.out).mono ?_)
      rintro e w12 ⟨rfl, hb12⟩
      have hs12 := hb12.size
      (try simp only [World.size_alloc, World.size_setCell, World.size_drew, size_drewN] at hs12)
      go_wp2_with fail
      (with_reducible refine (D5.out _ _ _ (M10.out.keep0 hb12)).mono ?_)
      rintro e w13 ⟨rfl, hb13⟩
      have hs13 := hb13.size
      (try simp only [World.size_alloc, World.size_setCell, World.size_drew, size_drewN] at hs13)
      go_wp2_with fail
      go_ret
      exact ⟨rfl, Kept.below (hb13.thenG ((K9.out.trans0 hb10).trans0 hb12) (by omega))⟩
set_option maxRecDepth 100000 in
set_option maxHeartbeats 2000000 in
theorem walk_out (back : Int) (k A : Nat) (W : World) (b0 : 0 ≤ back ∧ back ≤ 255) (b1 : k ≤ 255) (hA : 1024 - back = (A : Int)) (hk : ¬ (k : Int) ≤ back) :
    Calls Try.prog 8 #[.int .u8 back, .int .u8 k] W fun e W' => e = .returned (.bool true) ∧ Below W.heap.size W W' := by
  have hAk : 1024 < A + k ∧ A ≤ 1024 := by omega
  obtain ⟨zs, hzs⟩ : ∃ zs, zeros 1024 = zs := ⟨_, rfl⟩
  have hl : Hid (zs.length = 1024) := Lib.hid (by rw [← hzs]; exact length_zeros _)
  have C1 : Hid (∀ w : World, Calls Try.prog 10 #[.int .u64 1024] w fun e w' => e = .returned (.tuple #[.pointer (some ⟨w.heap.size + 1, 0, none⟩), .int .i64 0]) ∧ MemB w' (w.heap.size + 1) w.heap.size zs ∧ Kept [] w w') := Lib.hid (by
    intro w; have := new_any w 1024 (by omega) (by omega) (by omega); rw [hzs] at this; exact this)
  clear hzs
  obtain ⟨ZZ, hz1⟩ : ∃ ZZ, splice zs 0 (rep [7] 1024) = ZZ := ⟨_, rfl⟩
  have F1 : All7 ZZ := by rw [← hz1]; exact all7_fill zs hl.out
  have C2 : Hid (∀ (w : World) p g b, MemB w p g zs → b ≠ g → Blk w b 5 #[.int .u8 7] → Calls Try.prog 11 #[.pointer (some ⟨p, 0, none⟩), .int .u64 0, .int .u64 1024, .slice (some ⟨b, 0, none⟩) 1 1] w fun e w' => e = .returned (.int .i64 0) ∧ MemB w' p g ZZ ∧ Kept [g] w w') := Lib.hid (by
    intro w p g b h hb hB
    rw [← hz1]
    exact fill_in w p g _ h 0 1024 (by have := hl.out; omega) (some ⟨b, 0, none⟩) 1 1 [7] rfl (fun w' hk => row_1 (hB.keep hk (by simpa using hb))) (fun z hz => by simp at hz; omega) (by simp) (by simp))
  obtain ⟨i0, hi, hz0, hzs1, hzs2⟩ := info_parts info_u8
  have hmk := fun (w : World) => run_make (P := Try.prog) w 22 5 i0 (.int .u8 0) Try.underlying22 hi hz0 .u64 .u64 k k (by omega) (Int.le_refl _) (by rw [hzs2]; omega) (by omega)
  simp only [Int.toNat_natCast, hzs1, made_zeros] at hmk
  have hlz : Hid (ZZ.length = 1024) := Lib.hid F1.1
  have HF : Hid (∀ i, i < 1024 → ZZ[i]?.getD 0 = 7) := Lib.hid (fun i hi => by rw [F1.2 i hi]; rfl)
  have C3 : Hid (∀ (w : World) p g, MemB w p g ZZ → Calls Try.prog 12 #[.pointer (some ⟨p, 0, none⟩), .int .u64 A, .int .u64 k] w fun e w' => e = .returned (.tuple #[.slice none 0 0, .int .i64 3]) ∧ w = w') := Lib.hid (fun w p g h => get_out w p g ZZ h A k (by omega) (by omega) (by have := hlz.out; omega))
  have C4 : Hid (∀ (w : World) p g, MemB w p g ZZ → Calls Try.prog 15 #[.pointer (some ⟨p, 0, none⟩), .int .u64 0, .int .u64 A, .int .u64 k] w fun e w' => e = .returned (.int .i64 3) ∧ w = w') := Lib.hid (fun w p g h => copy_from_out w p g ZZ h 0 A k (by omega) (by omega) (by have := hlz.out; omega))
  have C5 : Hid (∀ (w : World) p g b, MemB w p g ZZ → Calls Try.prog 11 #[.pointer (some ⟨p, 0, none⟩), .int .u64 A, .int .u64 k, .slice (some ⟨b, 0, none⟩) 1 1] w fun e w' => e = .returned (.int .i64 3) ∧ w = w') := Lib.hid (fun w p g b h => fill_out w p g ZZ h A k _ 1 1 (by omega) (by omega) (by omega) (by omega) (by have := hlz.out; omega))
  have C6 : Hid (∀ (w : World) p g b, MemB w p g ZZ → Calls Try.prog 14 #[.pointer (some ⟨p, 0, none⟩), .int .u64 A, .slice (some ⟨b, 0, none⟩) k k] w fun e w' => e = .returned (.int .i64 3) ∧ w = w') := Lib.hid (fun w p g b h => put_out w p g ZZ h A _ k k (by omega) (by omega) (by have := hlz.out; omega))
  have D1 : Hid (∀ (w : World) p g, MemB w p g ZZ → Calls Try.prog 12 #[.pointer (some ⟨p, 0, none⟩), .int .u64 0, .int .u64 1024] w (GetAt w 1024 ZZ)) := Lib.hid (fun w p g h => get_at w p g ZZ h 0 1024 ZZ (by have := hlz.out; omega) (piece_all ZZ 1024 hlz.out))
  have D2 : Hid (∀ (w : World) p g, MemB w p g ZZ → Calls Try.prog 17 #[.pointer (some ⟨p, 0, none⟩), .int .u64 18446744073709551615, .int .i64 8] w fun e w' => e = .returned (.tuple #[.int .u64 0, .int .i64 3]) ∧ Kept [] w w') := Lib.hid (fun w p g h => load_out w p g ZZ h 18446744073709551615 8 (by unfold MayN; omega) (by omega) (by have := hlz.out; omega))
  have D3 : Hid (∀ (w : World) p g, MemB w p g ZZ → Calls Try.prog 15 #[.pointer (some ⟨p, 0, none⟩), .int .u64 18446744073709551615, .int .u64 0, .int .u64 2] w fun e w' => e = .returned (.int .i64 3) ∧ w = w') := Lib.hid (fun w p g h => copy_to_out w p g ZZ h 18446744073709551615 0 2 (by omega) (by have := hlz.out; omega) (by have := hlz.out; omega))
  have D4 : Hid (∀ (w : World) p g, MemB w p g ZZ → Calls Try.prog 11 #[.pointer (some ⟨p, 0, none⟩), .int .u64 1025, .int .u64 0, .slice none 0 0] w fun e w' => e = .returned (.int .i64 3) ∧ Kept [] w w') := Lib.hid (fun w p g h => fill_nil_out w p g ZZ h 1025 0 none 0 (by omega) (by omega) (by have := hlz.out; omega))
  have D5 : Hid (∀ (w : World) p g, MemB w p g ZZ → Calls Try.prog 11 #[.pointer (some ⟨p, 0, none⟩), .int .u64 1024, .int .u64 0, .slice none 0 0] w fun e w' => e = .returned (.int .i64 0) ∧ Kept [g] w w') := Lib.hid (fun w p g h => (fill_nil w p g ZZ h 1024 0 (by have := hlz.out; omega) none 0).mono fun e w' hh => ⟨hh.1, hh.2.2⟩)
  clear hz1 F1
  have hk0 : 0 < (k : Int) := by omega
  have hk1 : ((0 : Int) == (k : Int)) = false := by simp; omega
  have hk3 : decide ((k : Int) ≤ back) = false := by simp; omega
  go_enter Try.func8, Try.ntmps8
  go_wp2_with fail
  (with_reducible refine (alive_any _).mono ?_)
  rintro e w1 ⟨rfl, hb1⟩
  have hs1 := hb1.size
  (try simp only [World.size_alloc, World.size_setCell, World.size_drew, size_drewN] at hs1)
  go_wp2_with fail
  (with_reducible refine (C1.out _).mono ?_)
  rintro e w2 ⟨rfl, hM2, hb2⟩
  have hs2 := hb2.size
  (try simp only [World.size_alloc, World.size_setCell, World.size_drew, size_drewN] at hs2)
  have M2 := Lib.hid hM2
  have hg2 := hM2.2.1.lt
  clear hM2
  (try simp only [size_drewN, World.size_drew] at M2 hg2)
  go_wp2_with fail
  (with_reducible refine (C2.out _ _ _ _ (M2.out.keep0 (by (repeat' (first | (with_reducible exact Kept.refl _ _) | (with_reducible assumption) | (with_reducible refine Kept.then_ (by with_reducible assumption) ?_) | (with_reducible refine Kept.thenS (by with_reducible assumption) ?_) | (with_reducible refine Kept.alloc ?_ _) | (with_reducible refine Kept.drew ?_) | (with_reducible refine Kept.drewN ?_ _) | (with_reducible refine Kept.setNew ?_ ?_ _) | ((try simp only [World.size_alloc, World.size_setCell, World.size_drew, size_drewN] at *); (try dsimp only); omega))))) (by omega) (Blk.new _ _ _)).mono ?_)
  rintro e w3 ⟨rfl, hM3, hb3⟩
  have hs3 := hb3.size
  (try simp only [World.size_alloc, World.size_setCell, World.size_drew, size_drewN] at hs3)
  have M3 := Lib.hid hM3
  have hg3 := hM3.2.1.lt
  clear hM3
  (try simp only [size_drewN, World.size_drew] at M3 hg3)
  clear M2
  go_wp2_with fail
  (with_reducible refine (C3.out _ _ _ M3.out).mono ?_)
  rintro e w4 ⟨rfl, rfl⟩
  go_wp2_with fail
  (with_reducible refine (C4.out _ _ _ M3.out).mono ?_)
  rintro e w5 ⟨rfl, rfl⟩
  go_wp2_with fail
  (with_reducible refine (C5.out _ _ _ _ (M3.out.keep0 (by (repeat' (first | (with_reducible exact Kept.refl _ _) | (with_reducible assumption) | (with_reducible refine Kept.then_ (by with_reducible assumption) ?_) | (with_reducible refine Kept.thenS (by with_reducible assumption) ?_) | (with_reducible refine Kept.alloc ?_ _) | (with_reducible refine Kept.drew ?_) | (with_reducible refine Kept.drewN ?_ _) | (with_reducible refine Kept.setNew ?_ ?_ _) | ((try simp only [World.size_alloc, World.size_setCell, World.size_drew, size_drewN] at *); (try dsimp only); omega)))))).mono ?_)
  rintro e w6 ⟨rfl, rfl⟩
  go_wp2_with fail
  (with_reducible refine (C6.out _ _ _ _ (M3.out.keep0 (by (repeat' (first | (with_reducible exact Kept.refl _ _) | (with_reducible assumption) | (with_reducible refine Kept.then_ (by with_reducible assumption) ?_) | (with_reducible refine Kept.thenS (by with_reducible assumption) ?_) | (with_reducible refine Kept.alloc ?_ _) | (with_reducible refine Kept.drew ?_) | (with_reducible refine Kept.drewN ?_ _) | (with_reducible refine Kept.setNew ?_ ?_ _) | ((try simp only [World.size_alloc, World.size_setCell, World.size_drew, size_drewN] at *); (try dsimp only); omega)))))).mono ?_)
  rintro e w7 ⟨rfl, rfl⟩
  have hMZ := M3.out.keep0 (((Kept.refl [] w3).alloc (.cells #[.int .u8 7] 5)).alloc (.cells (cellsOf (zeros k)) 5))
  have MZ := Lib.hid hMZ
  clear M3 hMZ
  go_wp2_with fail
  (with_reducible refine (D1.out _ _ _ MZ.out).mono ?_)
  rintro e w9 ⟨A9, c9, rfl, hO9, hb9⟩
  have hs9 := hb9.size
  (try simp only [World.size_alloc, World.size_setCell, World.size_drew, size_drewN] at hs9)
  have O9 := Lib.hid hO9
  clear hO9
  (try simp only [size_drewN, World.size_drew] at O9)
  have M9 := Lib.hid (MZ.out.keep0 hb9)
  have K9 : Hid (Kept [] W w9) := Lib.hid (by (repeat' (first | (with_reducible exact Kept.refl _ _) | (with_reducible assumption) | (with_reducible refine Kept.then_ (by with_reducible assumption) ?_) | (with_reducible refine Kept.thenS (by with_reducible assumption) ?_) | (with_reducible refine Kept.thenG (by with_reducible assumption) ?_ ?_) | (with_reducible refine Kept.alloc ?_ _) | (with_reducible refine Kept.drew ?_) | (with_reducible refine Kept.drewN ?_ _) | (with_reducible refine Kept.setNew ?_ ?_ _) | ((try simp only [World.size_alloc, World.size_setCell, World.size_drew, size_drewN] at *); (try dsimp only); omega))))
  obtain ⟨ad, hA9, hcs⟩ := cells_at O9.out hlz.out.symm (by omega)
  subst hA9
  have HC := Lib.hid hcs
  clear hcs O9 MZ
  go_wp2_with fail
  go_loop [107] (fun i => ∃ j : Nat, j ≤ 1024 ∧ i = .int .i64 j) (fun i => (1024 - intOf i).toNat)
  case atStart => exact ⟨0, by omega, rfl⟩
  case round =>
    obtain ⟨j, hj, rfl⟩ := hrel
    by_cases hlt : j < 1024
    · have hcell := HC.out j hlt
      rw [HF.out j hlt] at hcell
      go_wp2_with fail
      go_round
      case rel => exact ⟨j + 1, by omega, by go_num⟩
      case measure => simp [intOf]; omega
    · obtain rfl : j = 1024 := by omega
      rw [show ((1024 : Nat) : Int) = 1024 from rfl]
      go_wp2_with fail
      (with_reducible refine (D2.out _ _ _ M9.out).mono ?_)
      rintro e w10 ⟨rfl, hb10⟩
      have hs10 := hb10.size
      (try simp only [World.size_alloc, World.size_setCell, World.size_drew, size_drewN] at hs10)
      have M10 := Lib.hid (M9.out.keep0 hb10)
      go_wp2_with fail
      (with_reducible refine (D3.out _ _ _ M10.out).mono ?_)
      rintro e w11 ⟨rfl, rfl⟩
      go_wp2_with fail
      (with_reducible refine (D4.out _ _ _ M10.out).mono ?_)
      rintro e w12 ⟨rfl, hb12⟩
      have hs12 := hb12.size
      (try simp only [World.size_alloc, World.size_setCell, World.size_drew, size_drewN] at hs12)
      go_wp2_with fail
      (with_reducible refine (D5.out _ _ _ (M10.out.keep0 hb12)).mono ?_)
      rintro e w13 ⟨rfl, hb13⟩
      have hs13 := hb13.size
      (try simp only [World.size_alloc, World.size_setCell, World.size_drew, size_drewN] at hs13)
      go_wp2_with fail
      go_ret
      exact ⟨rfl, Kept.below (hb13.thenG ((K9.out.trans0 hb10).trans0 hb12) (by omega))⟩
theorem walk (a0 a1 : Int) (W : World) (w0 : (Lit.int .u8 a0).wf = true) (w1 : (Lit.int .u8 a1).wf = true) :
    Calls Try.prog 8 #[.int .u8 a0, .int .u8 a1] W fun e W' => e = .returned (.bool true) ∧ Below W.heap.size W W' := by
  have b0 := bounds_u8 w0
  have b1 := bounds_u8 w1
  obtain ⟨k, rfl⟩ := Int.eq_ofNat_of_zero_le b1.1
  obtain ⟨A, hA⟩ : ∃ A : Nat, 1024 - a0 = (A : Int) := ⟨(1024 - a0).toNat, by omega⟩
  by_cases h : (k : Int) ≤ a0
  · exact walk_in a0 k A W b0 hA h
  · exact walk_out a0 k A W b0 (by omega) hA h
theorem own : ownKnob Try.prog.godebug = none := by kernel_rfl
theorem laidOut : laidOutB Try.prog = true := by kernel_rfl
set_option maxRecDepth 100000 in
theorem lifted (os : Os) (started : os.Started) (H : Type) (enc : TypeId × Value → H) :
    ReturnsInHanded {} Try.checked os 8 .any (Rows.memEndsSpec.pre6 enc Try.prog Try.f8 Rows.memEndsRow.domain false) (Rows.memEndsSpec.post enc Try.prog Try.f8 false true false false) := by
  refine returnsInHanded_of_change (C := Try.checked) own started (by kernel_rfl) Try.func8
    (ChangeSpec.witness6 (enc := enc) (C := Try.checked) false ⟨#[], #[.int .u8 0, .int .u8 0], []⟩ 8 (by kernel_rfl) (by kernel_rfl) (by kernel_rfl) (by kernel_rfl)) ?_
  intro W base args ds gs before hval0 hW hcnd _
  have hval : ∀ (j : Nat) t v, Try.f8.params[j]? = some t → args[j]? = some v → Value.okWide Try.prog W .any base t v := hval0
  have hW' := hW
  obtain ⟨p, q, hA0, hV, rfl, hfz, hnd⟩ := hW
  have hA : DataW.TrodAll enc Try.prog W 0 (fun _ => true) true Try.f8.params.toList args.toList ds p := hA0
  rw [Try.params8] at hA hval
  obtain ⟨v0, vs0, d0, ds0, p0, q0, hargs, rfl, rfl, h0, r0⟩ := trodAll_cons hA
  obtain ⟨v1, vs1, d1, ds1, p1, q1, rfl, rfl, rfl, h1, r1⟩ := trodAll_cons r0
  obtain ⟨rfl, rfl, rfl⟩ := trodAll_nil r1
  obtain rfl : args = #[v0, v1] := by cases args; simp_all
  obtain ⟨rfl, rfl⟩ := trodVars_none hV
  obtain ⟨a0, rfl, rfl, rfl, w0⟩ := open_int Try.underlying5 (hval 0 5 v0 rfl rfl) h0
  obtain ⟨a1, rfl, rfl, rfl, w1⟩ := open_int Try.underlying5 (hval 1 5 v1 rfl rfl) h1
  clear hA0 hval0
  refine (walk a0 a1 W w0 w1).mono fun e W' ⟨he, bel⟩ => ?_
  subst he
  exact ⟨_, rfl, _, _, _, [], _, [], hW', trodAll_mk1 (shut_bool Try.underlying4 _), (trodAll_cons_mk (shut_int Try.underlying5 w0) (trodAll_cons_mk (shut_int Try.underlying5 w1) trodAll_mk0)), rfl, bel.frame _, fun h => by cases h⟩
theorem over : Rows.memEndsRow.holds Try.pinned (OpenSpec.ofChange Rows.memEndsSpec) :=
  OpenClaim.holds_of_wide 8 Try.f8 rfl rfl rfl rfl rfl rfl rfl ⟨rfl, rfl, rfl, rfl, rfl⟩ rfl rfl rfl rfl rfl (by kernel_rfl) Try.func8 (by kernel_rfl)
    (of_decide_eq_true (by kernel_rfl)) (by unfold Func.isWrapper; first | (rw [if_pos (by decide +kernel)]; kernel_rfl) | (rw [if_neg (by decide +kernel)]; exact ⟨rfl, rfl⟩))
    (fun os started H enc _ => lifted os started H enc)
theorem proved : Rows.MemEndsSaid := over
#print axioms proved
end Go.Proofs.Ytlcaddedfgndoaa.MemEnds
