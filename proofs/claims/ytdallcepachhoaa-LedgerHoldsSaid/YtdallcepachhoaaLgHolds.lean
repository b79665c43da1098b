/- What is held isn't told, is held once, still takes its bytes; let, told again; dropped, gone. No condition. -/
import Derived.Test.YtdallcepachhoaaLgAlive
import Derived.Test.YtdallcepachhoaaLgMade
import Derived.Test.YtdallcepachhoaaLgSame
set_option linter.unusedVariables false
set_option linter.unusedSimpArgs false
namespace Go.Proofs.Ytdallcepachhoaa
open Go.RowKit
namespace LedgerHolds
open Go.RowKit Go.ChangeShapes Go.WideShapes Go.ChangeAt Go.Joins
theorem mx_cases {n : Int} (h : 0 ≤ n) : n = 0 ∧ mx n = 1 ∨ n = 1 ∧ mx n = 1 ∨ 2 ≤ n ∧ mx n = n := by
  unfold mx
  split <;> omega
theorem ListB.mk' {w : World} {g : Nat} {ls : List BlkT} (h : CellsB w g ls) : ListB (fun _ => True) w (some ⟨g, 0, none⟩) ls := fun _ => ⟨g, trivial, rfl, h⟩
set_option maxRecDepth 100000 in
set_option maxHeartbeats 1000000 in
theorem walk (a0 : Option Addr) (len0 cap0 : Nat) (z0 : Unit) (y : Int) (W : World) (w0 : IsActZ W a0 len0 cap0 z0) (wy : (Lit.int .u8 y).wf = true) :
    Calls Try.prog 8 #[.slice a0 len0 cap0, .int .u8 y] W fun e W' => e = .returned (.bool true) ∧ Below W.heap.size W W' := by
  have b2 := bounds_u8 wy
  have C1 := Lib.hid (alive_any W)
  have C2 := Lib.hid (fun w hk => great_any w0 w hk)
  have C3 : Hid (len0 ≤ 100 → ∀ w, Kept [] W w → Calls Try.prog 11 #[.slice a0 len0 cap0] w (FilledR len0 w)) := Lib.hid (fun h w hk => filled_any w0 h w hk)
  clear wy w0
  go_enter Try.func8, Try.ntmps8
  go_wp2_with fail
  (with_reducible refine (C1.out).mono ?_)
  rintro e w1 ⟨rfl, hb1⟩
  have hs1 := hb1.size
  (try simp only [World.size_alloc, World.size_setCell, World.size_drew, size_drewN] at hs1)
  go_wp2_with fail
  (with_reducible refine (C2.out _ hb1).mono ?_)
  rintro e w2 ⟨b, rfl, hlen, hb2⟩
  have hb2' := hb2.then_ hb1
  clear hb2 hb1
  cases b
  case true =>
    go_wp2_with fail
    go_ret
    exact ⟨rfl, hb2'.below⟩
  case false =>
    have h100 : len0 ≤ 100 := hlen rfl
    have K2 := Lib.hid hb2'
    clear hlen
    go_wp2_with fail
    (with_reducible refine (C3.out h100 _ hb2').mono ?_)
    rintro e w3 ⟨p, ls, rfl, hls, hL⟩
    have L3 := Lib.hid hL
    have hp3 := hL.ltp
    have I := Lib.hid hL.inv
    clear hL hb2'
    have hA2 : ls.length ≤ 1000 := by omega
    have CA := Lib.hid (x_all L3.out hA2)
    go_wp2_with fail
    (with_reducible refine CA.out.mono ?_)
    rintro e w4 ⟨⟨B, c, rfl, hB⟩, hb4⟩
    rcases Nat.eq_zero_or_pos ls.length with hl0 | hl0
    · obtain rfl := List.length_eq_zero_iff.1 hl0
      have L4 := Lib.hid (L3.out.keep0 hb4)
      have D1 := Lib.hid (x_at L4.out (by simp) 0 (0, 0, 0) 5 rfl)
      have D2 := Lib.hid (fun w hk => x_bytes (w := w) (L4.out.keep0 hk) (by simp) 0 rfl)
      clear hB
      go_wp2_with fail
      (with_reducible refine D1.out.mono ?_)
      rintro e w5 ⟨rfl, hb5⟩
      go_wp2_with fail
      (with_reducible refine (D2.out _ (by (repeat' (first | (with_reducible exact Kept.refl _ _) | (with_reducible assumption) | (with_reducible refine Kept.then_ (by with_reducible assumption) ?_) | (with_reducible refine Kept.thenS (by with_reducible assumption) ?_) | (with_reducible refine Kept.alloc ?_ _) | (with_reducible refine Kept.drew ?_) | (with_reducible refine Kept.drewN ?_ _) | (with_reducible refine Kept.setNew ?_ ?_ _) | ((try simp only [World.size_alloc, World.size_setCell, World.size_drew, size_drewN] at *); (try dsimp only); omega))))).mono ?_)
      rintro e w6 ⟨rfl, hb6⟩
      have K6 : Kept [] w4 w6 := by (repeat' (first | (with_reducible exact Kept.refl _ _) | (with_reducible assumption) | (with_reducible refine Kept.then_ (by with_reducible assumption) ?_) | (with_reducible refine Kept.thenS (by with_reducible assumption) ?_) | (with_reducible refine Kept.alloc ?_ _) | (with_reducible refine Kept.drew ?_) | (with_reducible refine Kept.drewN ?_ _) | (with_reducible refine Kept.setNew ?_ ?_ _) | ((try simp only [World.size_alloc, World.size_setCell, World.size_drew, size_drewN] at *); (try dsimp only); omega)))
      go_wp2_with fail
      go_ret
      exact ⟨rfl, ((K6.then_ L4.out.kept).then_ K2.out).below⟩
    · obtain ⟨J, hJ⟩ : ∃ J : Nat, y % (ls.length : Int) = (J : Int) := ⟨(y % (ls.length : Int)).toNat, by
        have := Int.emod_nonneg y (show (ls.length : Int) ≠ 0 by omega)
        omega⟩
      have hj : J < ls.length := by
        have := Int.emod_lt_of_pos y (show 0 < (ls.length : Int) by omega)
        omega
      have t6 : Int.tmod y (ls.length : Int) = (J : Int) := by rw [Int.tmod_eq_emod_of_nonneg b2.1]; exact hJ
      have n0 : ((ls.length : Int) == 0) = false := by rw [beq_eq_false_iff_ne]; omega
      have n1 : ¬ ((ls.length : Int) = 0) := by omega
      obtain ⟨g, h1, rfl, h3⟩ := hB (by simpa using hl0)
      have hgl := h3.1
      have LG := L3.out.more hb4 g h1 h3.1
      obtain ⟨k0, k1, k2⟩ := h3.2 J (by simpa using hj)
      rw [rb_map hj] at k0 k1 k2
      have bd := re_bd I.out hj
      have hTc := mx_cases bd.2.2.1
      have DLet0 : Hid (∀ w0 w, HeldS w2 [w4.heap.size, g] p ls J (re ls J).2.2.2 w0 → Kept [] w0 w → ∀ y1, w0.heap.size ≤ y1 → Blk w y1 29 #[.int .u64 (re ls J).1] → Calls Try.prog 18 #[.pointer (some ⟨p, 0, none⟩), .slice (some ⟨y1, 0, none⟩) 1 1] w fun e w' => (∃ er : Int, e = .returned (.int .i64 er)) ∧ HeldS w2 [w4.heap.size, g] p ls J false w' ∧ KeptX [w4.heap.size, g] w w') := Lib.hid (fun w0 w hs hk y1 h1 h2 => (hs_let hs hA2 hj hk y1 h1 h2 _ rfl).mono fun e w' ⟨he, h⟩ => ⟨⟨_, he⟩, h⟩)
      have DLetT := Lib.hid (fun w0 w (hs : HeldS w2 [w4.heap.size, g] p ls J true w0) (hk : Kept [] w0 w) y1 h1 h2 => hs_let hs hA2 hj hk y1 h1 h2 0 rfl)
      have DLetF := Lib.hid (fun w0 w (hs : HeldS w2 [w4.heap.size, g] p ls J false w0) (hk : Kept [] w0 w) y1 h1 h2 => hs_let hs hA2 hj hk y1 h1 h2 8 rfl)
      have DHoldF := Lib.hid (fun w0 w (hs : HeldS w2 [w4.heap.size, g] p ls J false w0) (hk : Kept [] w0 w) y1 h1 h2 => hs_hold hs hA2 hj hk y1 h1 h2 0 rfl)
      have DHoldT := Lib.hid (fun w0 w (hs : HeldS w2 [w4.heap.size, g] p ls J true w0) (hk : Kept [] w0 w) y1 h1 h2 => hs_hold hs hA2 hj hk y1 h1 h2 7 rfl)
      have DDrop := Lib.hid (fun w0 w (hs : HeldS w2 [w4.heap.size, g] p ls J false w0) (hk : Kept [] w0 w) y1 h1 h2 => hs_drop hs hA2 hj hk y1 h1 h2)
      have DDrop2 := Lib.hid (fun w0 w (hs : DropS w2 [w4.heap.size, g] p ls J w0) (hk : Kept [] w0 w) y1 h1 h2 => ds_drop hs hA2 hj I.out hk y1 h1 h2)
      have DAtF := Lib.hid (fun w (hs : HeldS w2 [w4.heap.size, g] p ls J false w) => hs_at hs hA2 hj (bk (re ls J)) 0 rfl)
      have DAtT := Lib.hid (fun w (hs : HeldS w2 [w4.heap.size, g] p ls J true w) => hs_at hs hA2 hj (0, 0, 0) 7 rfl)
      have DInT := Lib.hid (fun w (hs : HeldS w2 [w4.heap.size, g] p ls J true w) => hs_in hs hA2 hj (0, 0, 0) 7 rfl)
      have DFree := Lib.hid (fun w (hs : HeldS w2 [w4.heap.size, g] p ls J true w) => hs_free hs hA2 hj I.out)
      have DAdd := Lib.hid (fun w (hs : HeldS w2 [w4.heap.size, g] p ls J true w) => hs_add hs hA2 hj I.out)
      have DAll := Lib.hid (fun h w (hs : HeldS w2 [w4.heap.size, g] p ls J h w) => hs_all hs hA2)
      have DAtD := Lib.hid (fun w (hs : DropS w2 [w4.heap.size, g] p ls J w) => ds_at hs hA2 hj I.out)
      have DFreeD := Lib.hid (fun w (hs : DropS w2 [w4.heap.size, g] p ls J w) => ds_free hs hA2 hj I.out)
      have DAddD := Lib.hid (fun w (hs : DropS w2 [w4.heap.size, g] p ls J w) => ds_add hs hA2 hj I.out)
      have S4 : Hid (HeldS w2 [w4.heap.size, g] p ls J (re ls J).2.2.2 (w4.alloc (.cells #[.int .u64 (re ls J).1, .int .u64 (re ls J).2.1, .int .u64 (re ls J).2.2.1] 33))) := Lib.hid ⟨ls, LG.more ((Kept.refl [] w4).alloc _) w4.heap.size (Nat.le_refl _) (by simp), rfl, rfl⟩
      have BA := Blk.new w4 33 #[.int .u64 (re ls J).1, .int .u64 (re ls J).2.1, .int .u64 (re ls J).2.2.1]
      have GA : CellsB (w4.alloc (.cells #[.int .u64 (re ls J).1, .int .u64 (re ls J).2.1, .int .u64 (re ls J).2.2.1] 33)) g (ls.map bk) := h3.keep ((Kept.refl [] w4).alloc _)
      have hp4 := LG.ltp
      clear LG hB h3 CA
      obtain ⟨T, hT⟩ : ∃ T, mx (re ls J).2.1 = T := ⟨_, rfl⟩
      rw [hT] at DFreeD bd hTc
      generalize re ls J = r at *
      obtain ⟨ra, rn, rl, rh⟩ := r
      simp only [bk] at k0 k1 k2 DAtF
      dsimp only at DLet0 DLetT DLetF DHoldF DHoldT DDrop DDrop2 DAtT DInT DFree DAdd DAtD DFreeD DAddD S4 BA GA bd hTc hT
      clear hT
      go_wp2_with fail
      (with_reducible refine (DLet0.out _ _ S4.out ?hk _ ?h1 ?h2).mono ?_)
      case h2 => exact Blk.new' _ _ _ (by simp)
      case hk => exact (Kept.refl [] _).alloc _
      case h1 => simp
      rintro e w5 ⟨⟨_, rfl⟩, hs5, hk5⟩
      have S5 := Lib.hid hs5
      have p5 := hs5.ltp
      have B5 : Blk w5 w4.heap.size 33 #[.int .u64 ra, .int .u64 rn, .int .u64 rl] := blkX (BA.keep0 ((Kept.refl [] _).alloc _)) hk5 (by simp)
      have c5 := B5.cell
      have f5 := B5.frozen
      have l5 := B5.lt
      have G5 : CellsB w5 g (ls.map bk) := (GA.keep ((Kept.refl [] _).alloc _)).keepX hk5 (by simp)
      clear hs5 hk5
      go_wp2_with fail
      (with_reducible refine (DAtF.out _ S5.out).mono ?_)
      rintro e w6 ⟨rfl, hb6⟩
      have S6 := Lib.hid (S5.out.keep0 hb6)
      have p6 := S6.out.ltp
      have B6 : Blk w6 w4.heap.size 33 #[.int .u64 ra, .int .u64 rn, .int .u64 rl] := B5.keep0 hb6
      have c6 := B6.cell
      have f6 := B6.frozen
      have l6 := B6.lt
      have G6 := G5.keep hb6
      go_wp2_with fail
      (with_reducible refine (DHoldF.out _ _ S6.out ?hk _ ?h1 ?h2).mono ?_)
      case h2 => exact Blk.new' _ _ _ (by simp)
      case hk => exact ((Kept.refl [] _).alloc _).alloc _
      case h1 => simp
      rintro e w7 ⟨rfl, hs7, hk7⟩
      have S7 := Lib.hid hs7
      have p7 := hs7.ltp
      have B7 : Blk w7 w4.heap.size 33 #[.int .u64 ra, .int .u64 rn, .int .u64 rl] := blkX (B6.keep0 (((Kept.refl [] _).alloc _).alloc _)) hk7 (by simp)
      have c7 := B7.cell
      have f7 := B7.frozen
      have l7 := B7.lt
      have G7 : CellsB w7 g (ls.map bk) := (G6.keep (((Kept.refl [] _).alloc _).alloc _)).keepX hk7 (by simp)
      clear hs7 hk7
      go_wp2_with fail
      (with_reducible refine (DHoldT.out _ _ S7.out ?hk _ ?h1 ?h2).mono ?_)
      case h2 => exact Blk.new' _ _ _ (by simp)
      case hk => exact (Kept.refl [] _).alloc _
      case h1 => simp
      rintro e w8 ⟨rfl, hs8, hk8⟩
      have S8 := Lib.hid hs8
      have p8 := hs8.ltp
      have B8 : Blk w8 w4.heap.size 33 #[.int .u64 ra, .int .u64 rn, .int .u64 rl] := blkX (B7.keep0 ((Kept.refl [] _).alloc _)) hk8 (by simp)
      have c8 := B8.cell
      have f8 := B8.frozen
      have l8 := B8.lt
      have G8 : CellsB w8 g (ls.map bk) := (G7.keep ((Kept.refl [] _).alloc _)).keepX hk8 (by simp)
      clear hs8 hk8
      go_wp2_with fail
      (with_reducible refine (DAtT.out _ S8.out).mono ?_)
      rintro e w9 ⟨rfl, hb9⟩
      have S9 := Lib.hid (S8.out.keep0 hb9)
      have p9 := S9.out.ltp
      have B9 : Blk w9 w4.heap.size 33 #[.int .u64 ra, .int .u64 rn, .int .u64 rl] := B8.keep0 hb9
      have c9 := B9.cell
      have f9 := B9.frozen
      have l9 := B9.lt
      have G9 := G8.keep hb9
      go_wp2_with fail
      (with_reducible refine (DInT.out _ S9.out).mono ?_)
      rintro e w10 ⟨rfl, hb10⟩
      have S10 := Lib.hid (S9.out.keep0 hb10)
      have p10 := S10.out.ltp
      have B10 : Blk w10 w4.heap.size 33 #[.int .u64 ra, .int .u64 rn, .int .u64 rl] := B9.keep0 hb10
      have c10 := B10.cell
      have f10 := B10.frozen
      have l10 := B10.lt
      have G10 := G9.keep hb10
      go_wp2_with fail
      (with_reducible refine (DFree.out _ (S10.out.keep0 ((Kept.refl [] _).alloc _))).mono ?_)
      rintro e w11 ⟨rfl, hb11⟩
      have S11 := Lib.hid ((S10.out.keep0 ((Kept.refl [] _).alloc _)).keep0 hb11)
      have p11 := S11.out.ltp
      have B11 : Blk w11 w4.heap.size 33 #[.int .u64 ra, .int .u64 rn, .int .u64 rl] := (B10.keep0 ((Kept.refl [] _).alloc _)).keep0 hb11
      have c11 := B11.cell
      have f11 := B11.frozen
      have l11 := B11.lt
      have G11 := (G10.keep ((Kept.refl [] _).alloc _)).keep hb11
      go_wp2_with fail
      (with_reducible refine (DAdd.out _ S11.out).mono ?_)
      rintro e w12 ⟨rfl, hs12, hk12⟩
      have S12 := Lib.hid hs12
      have p12 := hs12.ltp
      have B12 : Blk w12 w4.heap.size 33 #[.int .u64 ra, .int .u64 rn, .int .u64 rl] := blkX B11 hk12 (by simp)
      have c12 := B12.cell
      have f12 := B12.frozen
      have l12 := B12.lt
      have G12 := G11.keepX hk12 (by simp)
      clear hs12 hk12
      go_wp2_with fail
      (with_reducible refine (DAll.out _ _ S12.out).mono ?_)
      rintro e w13 ⟨⟨A13, d13, rfl, _⟩, hb13⟩
      have S13 := Lib.hid (S12.out.keep0 hb13)
      have p13 := S13.out.ltp
      have B13 : Blk w13 w4.heap.size 33 #[.int .u64 ra, .int .u64 rn, .int .u64 rl] := B12.keep0 hb13
      have c13 := B13.cell
      have f13 := B13.frozen
      have l13 := B13.lt
      have G13 := G12.keep hb13
      go_wp2_with fail
      (with_reducible refine (DLetT.out _ _ S13.out ?hk _ ?h1 ?h2).mono ?_)
      case h2 => exact Blk.new' _ _ _ (by simp)
      case hk => exact (Kept.refl [] _).alloc _
      case h1 => simp
      rintro e w14 ⟨rfl, hs14, hk14⟩
      have S14 := Lib.hid hs14
      have p14 := hs14.ltp
      have B14 : Blk w14 w4.heap.size 33 #[.int .u64 ra, .int .u64 rn, .int .u64 rl] := blkX (B13.keep0 ((Kept.refl [] _).alloc _)) hk14 (by simp)
      have c14 := B14.cell
      have f14 := B14.frozen
      have l14 := B14.lt
      have G14 : CellsB w14 g (ls.map bk) := (G13.keep ((Kept.refl [] _).alloc _)).keepX hk14 (by simp)
      clear hs14 hk14
      go_wp2_with fail
      (with_reducible refine (DLetF.out _ _ S14.out ?hk _ ?h1 ?h2).mono ?_)
      case h2 => exact Blk.new' _ _ _ (by simp)
      case hk => exact (Kept.refl [] _).alloc _
      case h1 => simp
      rintro e w15 ⟨rfl, hs15, hk15⟩
      have S15 := Lib.hid hs15
      have p15 := hs15.ltp
      have B15 : Blk w15 w4.heap.size 33 #[.int .u64 ra, .int .u64 rn, .int .u64 rl] := blkX (B14.keep0 ((Kept.refl [] _).alloc _)) hk15 (by simp)
      have c15 := B15.cell
      have f15 := B15.frozen
      have l15 := B15.lt
      have G15 : CellsB w15 g (ls.map bk) := (G14.keep ((Kept.refl [] _).alloc _)).keepX hk15 (by simp)
      clear hs15 hk15
      go_wp2_with fail
      (with_reducible refine (DDrop.out _ _ S15.out ?hk _ ?h1 ?h2).mono ?_)
      case h2 => exact Blk.new' _ _ _ (by simp)
      case hk => exact (Kept.refl [] _).alloc _
      case h1 => simp
      rintro e w16 ⟨rfl, hs16, hk16⟩
      have S16 := Lib.hid hs16
      have p16 := hs16.ltp
      have B16 : Blk w16 w4.heap.size 33 #[.int .u64 ra, .int .u64 rn, .int .u64 rl] := blkX (B15.keep0 ((Kept.refl [] _).alloc _)) hk16 (by simp)
      have c16 := B16.cell
      have f16 := B16.frozen
      have l16 := B16.lt
      have G16 : CellsB w16 g (ls.map bk) := (G15.keep ((Kept.refl [] _).alloc _)).keepX hk16 (by simp)
      clear hs16 hk16
      go_wp2_with fail
      (with_reducible refine (DDrop2.out _ _ S16.out ?hk _ ?h1 ?h2).mono ?_)
      case h2 => exact Blk.new' _ _ _ (by simp)
      case hk => exact (Kept.refl [] _).alloc _
      case h1 => simp
      rintro e w17 ⟨rfl, hs17, hk17⟩
      have S17 := Lib.hid hs17
      have p17 := hs17.ltp
      have B17 : Blk w17 w4.heap.size 33 #[.int .u64 ra, .int .u64 rn, .int .u64 rl] := blkX (B16.keep0 ((Kept.refl [] _).alloc _)) hk17 (by simp)
      have c17 := B17.cell
      have f17 := B17.frozen
      have l17 := B17.lt
      have G17 : CellsB w17 g (ls.map bk) := (G16.keep ((Kept.refl [] _).alloc _)).keepX hk17 (by simp)
      clear hs17 hk17
      go_wp2_with fail
      (with_reducible refine (DAtD.out _ S17.out).mono ?_)
      rintro e w18 ⟨rfl, hb18⟩
      have S18 := Lib.hid (S17.out.keep0 hb18)
      have p18 := S18.out.ltp
      have B18 : Blk w18 w4.heap.size 33 #[.int .u64 ra, .int .u64 rn, .int .u64 rl] := B17.keep0 hb18
      have c18 := B18.cell
      have f18 := B18.frozen
      have l18 := B18.lt
      have G18 := G17.keep hb18
      rcases hTc with ⟨rfl, rfl⟩ | ⟨rfl, rfl⟩ | ⟨h2n, rfl⟩
      · go_wp2_with fail
        (with_reducible refine (DFreeD.out _ S18.out).mono ?_)
        rintro e w19 ⟨rfl, hb19⟩
        have S19 := Lib.hid (S18.out.keep0 hb19)
        have p19 := S19.out.ltp
        have B19 := B18.keep0 hb19
        have c19 := B19.cell
        have f19 := B19.frozen
        have l19 := B19.lt
        have G19 := G18.keep hb19
        go_wp2_with fail
        (with_reducible refine (DAddD.out _ S19.out).mono ?_)
        rintro e w20 ⟨rfl, hs20, hk20⟩
        have S20 := Lib.hid hs20
        have p20 := hs20.ltp
        have G20 := G19.keepX hk20 (by simp)
        clear hs20 hk20
        go_wp2_with fail
        (with_reducible refine (DAll.out _ _ S20.out).mono ?_)
        rintro e w21 ⟨⟨A21, d21, rfl, hB21⟩, hb21⟩
        have DS := Lib.hid (same_any w21 _ _ A21 (some ⟨g, 0, none⟩) d21 c (ls.map bk) ls.length (by simp) (by simpa using hA2) hB21 (ListB.mk' (G20.keep hb21)))
        have K21 := Lib.hid (S20.out.keep0 hb21).kept
        clear hB21
        go_wp2_with fail
        (with_reducible refine DS.out.mono ?_)
        rintro e w22 ⟨rfl, hb22⟩
        go_wp2_with fail
        go_ret
        exact ⟨rfl, ((hb22.then_ K21.out).then_ K2.out).below⟩
      · go_wp2_with fail
        (with_reducible refine (DFreeD.out _ S18.out).mono ?_)
        rintro e w19 ⟨rfl, hb19⟩
        have S19 := Lib.hid (S18.out.keep0 hb19)
        have p19 := S19.out.ltp
        have B19 := B18.keep0 hb19
        have c19 := B19.cell
        have f19 := B19.frozen
        have l19 := B19.lt
        have G19 := G18.keep hb19
        go_wp2_with fail
        (with_reducible refine (DAddD.out _ S19.out).mono ?_)
        rintro e w20 ⟨rfl, hs20, hk20⟩
        have S20 := Lib.hid hs20
        have p20 := hs20.ltp
        have G20 := G19.keepX hk20 (by simp)
        clear hs20 hk20
        go_wp2_with fail
        (with_reducible refine (DAll.out _ _ S20.out).mono ?_)
        rintro e w21 ⟨⟨A21, d21, rfl, hB21⟩, hb21⟩
        have DS := Lib.hid (same_any w21 _ _ A21 (some ⟨g, 0, none⟩) d21 c (ls.map bk) ls.length (by simp) (by simpa using hA2) hB21 (ListB.mk' (G20.keep hb21)))
        have K21 := Lib.hid (S20.out.keep0 hb21).kept
        clear hB21
        go_wp2_with fail
        (with_reducible refine DS.out.mono ?_)
        rintro e w22 ⟨rfl, hb22⟩
        go_wp2_with fail
        go_ret
        exact ⟨rfl, ((hb22.then_ K21.out).then_ K2.out).below⟩
      · go_wp2_with fail
        (with_reducible refine (DFreeD.out _ S18.out).mono ?_)
        rintro e w19 ⟨rfl, hb19⟩
        have S19 := Lib.hid (S18.out.keep0 hb19)
        have p19 := S19.out.ltp
        have B19 := B18.keep0 hb19
        have c19 := B19.cell
        have f19 := B19.frozen
        have l19 := B19.lt
        have G19 := G18.keep hb19
        go_wp2_with fail
        (with_reducible refine (DAddD.out _ S19.out).mono ?_)
        rintro e w20 ⟨rfl, hs20, hk20⟩
        have S20 := Lib.hid hs20
        have p20 := hs20.ltp
        have G20 := G19.keepX hk20 (by simp)
        clear hs20 hk20
        go_wp2_with fail
        (with_reducible refine (DAll.out _ _ S20.out).mono ?_)
        rintro e w21 ⟨⟨A21, d21, rfl, hB21⟩, hb21⟩
        have DS := Lib.hid (same_any w21 _ _ A21 (some ⟨g, 0, none⟩) d21 c (ls.map bk) ls.length (by simp) (by simpa using hA2) hB21 (ListB.mk' (G20.keep hb21)))
        have K21 := Lib.hid (S20.out.keep0 hb21).kept
        clear hB21
        go_wp2_with fail
        (with_reducible refine DS.out.mono ?_)
        rintro e w22 ⟨rfl, hb22⟩
        go_wp2_with fail
        go_ret
        exact ⟨rfl, ((hb22.then_ K21.out).then_ K2.out).below⟩
theorem own : ownKnob Try.prog.godebug = none := by kernel_rfl
theorem laidOut : laidOutB Try.prog = true := by kernel_rfl
set_option maxRecDepth 100000 in
theorem lifted (os : Os) (started : os.Started) (H : Type) (enc : TypeId × Value → H) :
    ReturnsInHanded {} Try.checked os 8 .any (Rows.ledgerHoldsSpec.pre6 enc Try.prog Try.f8 Rows.ledgerHoldsRow.domain false) (Rows.ledgerHoldsSpec.post enc Try.prog Try.f8 false true false false) := by
  refine returnsInHanded_of_change_sized (C := Try.checked) own started (by kernel_rfl) Try.func8
    (ChangeSpec.witness6 (enc := enc) (C := Try.checked) false ⟨#[], #[.slice none 0 0, .int .u8 0], []⟩ 8 (by kernel_rfl) (by kernel_rfl) (by kernel_rfl) (by kernel_rfl)) ?_
  intro W base args ds gs before hval0 hW hcnd hsz _
  have hval : ∀ (j : Nat) t v, Try.f8.params[j]? = some t → args[j]? = some v → Value.okWide Try.prog W .any base t v := hval0
  have hW' := hW
  obtain ⟨p, q, hA0, hV, rfl, hfz, hnd⟩ := hW
  have hA : DataW.TrodAll enc Try.prog W 0 (fun _ => true) true Try.f8.params.toList args.toList ds p := hA0
  rw [Try.params8] at hA hval hsz
  obtain ⟨v0, vs0, d0, ds0, p0, q0, hargs, rfl, rfl, h0, r0⟩ := trodAll_cons hA
  obtain ⟨v1, vs1, d1, ds1, p1, q1, rfl, rfl, rfl, h1, r1⟩ := trodAll_cons r0
  obtain ⟨rfl, rfl, rfl⟩ := trodAll_nil r1
  obtain rfl : args = #[v0, v1] := by cases args; simp_all
  obtain ⟨rfl, rfl⟩ := trodVars_none hV
  have k0 := h0
  have lt0 : ∀ x ∈ p0, x.block < W.heap.size := by obtain ⟨m, hm⟩ := k0; exact DataW.trod_lt m _ _ _ hm
  obtain ⟨a0, len0, cap0, rfl⟩ := okWide_slice Try.underlying22 (hval 0 22 v0 rfl rfl)
  obtain ⟨z0, w0⟩ := isT22_of h0 (fun n hn => by have := List.all_eq_true.1 hsz n (DataW.weights_mem_each (j := 0) (t := 22) rfl rfl n hn); simpa using this)
  obtain ⟨a1, rfl, rfl, rfl, w1⟩ := open_int Try.underlying5 (hval 1 5 v1 rfl rfl) h1
  clear hA0 hval0
  refine (walk a0 len0 cap0 z0 a1 W w0 w1).mono fun e W' ⟨he, bel⟩ => ?_
  subst he
  exact ⟨_, rfl, _, _, _, [], _, [], hW', trodAll_mk1 (shut_bool Try.underlying4 _), (trodAll_cons_mk (Below.trod laidOut (by kernel_rfl) (of_decide_eq_true (by kernel_rfl)) k0 bel lt0) (trodAll_cons_mk (shut_int Try.underlying5 w1) trodAll_mk0)), rfl, bel.frame _, fun h => by cases h⟩
theorem over : Rows.ledgerHoldsRow.holds Try.pinned (OpenSpec.ofChange Rows.ledgerHoldsSpec) :=
  OpenClaim.holds_of_wide 8 Try.f8 rfl rfl rfl rfl rfl rfl rfl ⟨rfl, rfl, rfl, rfl, rfl⟩ rfl rfl rfl rfl rfl (by kernel_rfl) Try.func8 (by kernel_rfl)
    (of_decide_eq_true (by kernel_rfl)) (by unfold Func.isWrapper; first | (rw [if_pos (by decide +kernel)]; kernel_rfl) | (rw [if_neg (by decide +kernel)]; exact ⟨rfl, rfl⟩))
    (fun os started H enc _ => lifted os started H enc)
theorem proved : Rows.LedgerHoldsSaid := over
#print axioms proved
end LedgerHolds
end Go.Proofs.Ytdallcepachhoaa
