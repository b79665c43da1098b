/- Any address's place and any place's address, or the error, are the document's. No condition. -/
import Derived.Test.YtfmgeidlbekfpaaGeoRef
set_option linter.unusedVariables false
set_option linter.unusedSimpArgs false
namespace Go.Proofs.Ytfmgeidlbekfpaa.GeoPlaces
open Go.RowKit Go.ChangeShapes Go.WideShapes Go.ChangeAt Go.Joins
set_option maxHeartbeats 400000 in
theorem walk (a0 a1_0 a1_1 a1_2 : Int) (W : World) (w0 : (Lit.int .u64 a0).wf = true) (w1_0 : (Lit.int .i64 a1_0).wf = true) (w1_1 : (Lit.int .i64 a1_1).wf = true) (w1_2 : (Lit.int .u64 a1_2).wf = true) :
    Calls Try.prog 3 #[.int .u64 a0, .agg #[.int .i64 a1_0, .int .i64 a1_1, .int .u64 a1_2]] W fun e w' => e = .returned (.bool true) ∧ Below W.heap.size W w' := by
  have h0 : 0 ≤ a0 ∧ a0 ≤ 18446744073709551615 := bounds_u64 w0
  have h2 : 0 ≤ a1_2 := (bounds_u64 w1_2).1
  clear w0 w1_0 w1_1 w1_2
  by_cases h : 1048576 ≤ a0
  · go_enter Try.func3, Try.ntmps3
    go_wp2_with fail
    (with_reducible refine (alive_any _).mono ?_)
    rintro e w1 ⟨rfl, hb1⟩
    have hs1 := hb1.size
    (try simp only [World.size_alloc, World.size_setCell, World.size_drew, size_drewN] at hs1)
    have B0 : Blk w1 W.heap.size 24 #[.int .i64 a1_0, .int .i64 a1_1, .int .u64 a1_2] := by (repeat' (first | (with_reducible assumption) | (with_reducible refine Blk.keep0 ?_ (by with_reducible assumption)) | (with_reducible refine Blk.new' _ _ _ ?_) | (with_reducible refine Blk.alloc ?_ _) | (with_reducible refine Blk.set' (by with_reducible assumption) ?_) | (with_reducible refine Blk.far ?_ (by simp only []; omega) _) | (with_reducible refine Blk.drew ?_) | (with_reducible refine Blk.drewN ?_ _) | (with_reducible rfl) | (simp only [World.size_alloc, World.size_setCell, World.size_drew, size_drewN]; done)))
    have B0_c := B0.cell
    have B0_f := B0.frozen
    have B0_z := B0.lt
    go_wp2_with fail
    (with_reducible refine (at_hi _ (by omega) _).mono ?_)
    rintro e w2 ⟨rfl, hb2⟩
    have hs2 := hb2.size
    (try simp only [World.size_alloc, World.size_setCell, World.size_drew, size_drewN] at hs2)
    clear B0_c B0_f B0_z
    replace B0 : Blk w2 W.heap.size 24 #[.int .i64 a1_0, .int .i64 a1_1, .int .u64 a1_2] := by (repeat' (first | (with_reducible assumption) | (with_reducible refine Blk.keep0 ?_ (by with_reducible assumption)) | (with_reducible refine Blk.new' _ _ _ ?_) | (with_reducible refine Blk.alloc ?_ _) | (with_reducible refine Blk.set' (by with_reducible assumption) ?_) | (with_reducible refine Blk.far ?_ (by simp only []; omega) _) | (with_reducible refine Blk.drew ?_) | (with_reducible refine Blk.drewN ?_ _) | (with_reducible rfl) | (simp only [World.size_alloc, World.size_setCell, World.size_drew, size_drewN]; done)))
    have B0_c := B0.cell
    have B0_f := B0.frozen
    have B0_z := B0.lt
    go_wp2_with fail
    (with_reducible refine (refat_hi _ (by omega) _).mono ?_)
    rintro e w3 ⟨rfl, hb3⟩
    have hs3 := hb3.size
    (try simp only [World.size_alloc, World.size_setCell, World.size_drew, size_drewN] at hs3)
    clear B0_c B0_f B0_z
    replace B0 : Blk w3 W.heap.size 24 #[.int .i64 a1_0, .int .i64 a1_1, .int .u64 a1_2] := by (repeat' (first | (with_reducible assumption) | (with_reducible refine Blk.keep0 ?_ (by with_reducible assumption)) | (with_reducible refine Blk.new' _ _ _ ?_) | (with_reducible refine Blk.alloc ?_ _) | (with_reducible refine Blk.set' (by with_reducible assumption) ?_) | (with_reducible refine Blk.far ?_ (by simp only []; omega) _) | (with_reducible refine Blk.drew ?_) | (with_reducible refine Blk.drewN ?_ _) | (with_reducible rfl) | (simp only [World.size_alloc, World.size_setCell, World.size_drew, size_drewN]; done)))
    have B0_c := B0.cell
    have B0_f := B0.frozen
    have B0_z := B0.lt
    have B1 : Blk w3 w2.heap.size 26 #[.int .i64 0, .int .i64 0, .int .u64 0] := by (repeat' (first | (with_reducible assumption) | (with_reducible refine Blk.keep0 ?_ (by with_reducible assumption)) | (with_reducible refine Blk.new' _ _ _ ?_) | (with_reducible refine Blk.alloc ?_ _) | (with_reducible refine Blk.set' (by with_reducible assumption) ?_) | (with_reducible refine Blk.far ?_ (by simp only []; omega) _) | (with_reducible refine Blk.drew ?_) | (with_reducible refine Blk.drewN ?_ _) | (with_reducible rfl) | (simp only [World.size_alloc, World.size_setCell, World.size_drew, size_drewN]; done)))
    have B1_c := B1.cell
    have B1_f := B1.frozen
    have B1_z := B1.lt
    go_wp2_with fail
    (with_reducible refine (addr_any _ _ _ (by omega) _).mono ?_)
    rintro e w4 ⟨rfl, hb4⟩
    have hs4 := hb4.size
    (try simp only [World.size_alloc, World.size_setCell, World.size_drew, size_drewN] at hs4)
    clear B0_c B0_f B0_z
    replace B0 : Blk w4 W.heap.size 24 #[.int .i64 a1_0, .int .i64 a1_1, .int .u64 a1_2] := by (repeat' (first | (with_reducible assumption) | (with_reducible refine Blk.keep0 ?_ (by with_reducible assumption)) | (with_reducible refine Blk.new' _ _ _ ?_) | (with_reducible refine Blk.alloc ?_ _) | (with_reducible refine Blk.set' (by with_reducible assumption) ?_) | (with_reducible refine Blk.far ?_ (by simp only []; omega) _) | (with_reducible refine Blk.drew ?_) | (with_reducible refine Blk.drewN ?_ _) | (with_reducible rfl) | (simp only [World.size_alloc, World.size_setCell, World.size_drew, size_drewN]; done)))
    have B0_c := B0.cell
    have B0_f := B0.frozen
    have B0_z := B0.lt
    clear B1_c B1_f B1_z
    replace B1 : Blk w4 w2.heap.size 26 #[.int .i64 0, .int .i64 0, .int .u64 0] := by (repeat' (first | (with_reducible assumption) | (with_reducible refine Blk.keep0 ?_ (by with_reducible assumption)) | (with_reducible refine Blk.new' _ _ _ ?_) | (with_reducible refine Blk.alloc ?_ _) | (with_reducible refine Blk.set' (by with_reducible assumption) ?_) | (with_reducible refine Blk.far ?_ (by simp only []; omega) _) | (with_reducible refine Blk.drew ?_) | (with_reducible refine Blk.drewN ?_ _) | (with_reducible rfl) | (simp only [World.size_alloc, World.size_setCell, World.size_drew, size_drewN]; done)))
    have B1_c := B1.cell
    have B1_f := B1.frozen
    have B1_z := B1.lt
    have B2 : Blk w4 w3.heap.size 24 #[.int .i64 0, .int .i64 0, .int .u64 0] := by (repeat' (first | (with_reducible assumption) | (with_reducible refine Blk.keep0 ?_ (by with_reducible assumption)) | (with_reducible refine Blk.new' _ _ _ ?_) | (with_reducible refine Blk.alloc ?_ _) | (with_reducible refine Blk.set' (by with_reducible assumption) ?_) | (with_reducible refine Blk.far ?_ (by simp only []; omega) _) | (with_reducible refine Blk.drew ?_) | (with_reducible refine Blk.drewN ?_ _) | (with_reducible rfl) | (simp only [World.size_alloc, World.size_setCell, World.size_drew, size_drewN]; done)))
    have B2_c := B2.cell
    have B2_f := B2.frozen
    have B2_z := B2.lt
    go_wp2_with fail
    (with_reducible refine (refaddr_any _ _ _ (by omega) _).mono ?_)
    rintro e w5 ⟨rfl, hb5⟩
    have hs5 := hb5.size
    (try simp only [World.size_alloc, World.size_setCell, World.size_drew, size_drewN] at hs5)
    clear B0_c B0_f B0_z
    replace B0 : Blk w5 W.heap.size 24 #[.int .i64 a1_0, .int .i64 a1_1, .int .u64 a1_2] := by (repeat' (first | (with_reducible assumption) | (with_reducible refine Blk.keep0 ?_ (by with_reducible assumption)) | (with_reducible refine Blk.new' _ _ _ ?_) | (with_reducible refine Blk.alloc ?_ _) | (with_reducible refine Blk.set' (by with_reducible assumption) ?_) | (with_reducible refine Blk.far ?_ (by simp only []; omega) _) | (with_reducible refine Blk.drew ?_) | (with_reducible refine Blk.drewN ?_ _) | (with_reducible rfl) | (simp only [World.size_alloc, World.size_setCell, World.size_drew, size_drewN]; done)))
    have B0_c := B0.cell
    have B0_f := B0.frozen
    have B0_z := B0.lt
    clear B1_c B1_f B1_z
    replace B1 : Blk w5 w2.heap.size 26 #[.int .i64 0, .int .i64 0, .int .u64 0] := by (repeat' (first | (with_reducible assumption) | (with_reducible refine Blk.keep0 ?_ (by with_reducible assumption)) | (with_reducible refine Blk.new' _ _ _ ?_) | (with_reducible refine Blk.alloc ?_ _) | (with_reducible refine Blk.set' (by with_reducible assumption) ?_) | (with_reducible refine Blk.far ?_ (by simp only []; omega) _) | (with_reducible refine Blk.drew ?_) | (with_reducible refine Blk.drewN ?_ _) | (with_reducible rfl) | (simp only [World.size_alloc, World.size_setCell, World.size_drew, size_drewN]; done)))
    have B1_c := B1.cell
    have B1_f := B1.frozen
    have B1_z := B1.lt
    clear B2_c B2_f B2_z
    replace B2 : Blk w5 w3.heap.size 24 #[.int .i64 0, .int .i64 0, .int .u64 0] := by (repeat' (first | (with_reducible assumption) | (with_reducible refine Blk.keep0 ?_ (by with_reducible assumption)) | (with_reducible refine Blk.new' _ _ _ ?_) | (with_reducible refine Blk.alloc ?_ _) | (with_reducible refine Blk.set' (by with_reducible assumption) ?_) | (with_reducible refine Blk.far ?_ (by simp only []; omega) _) | (with_reducible refine Blk.drew ?_) | (with_reducible refine Blk.drewN ?_ _) | (with_reducible rfl) | (simp only [World.size_alloc, World.size_setCell, World.size_drew, size_drewN]; done)))
    have B2_c := B2.cell
    have B2_f := B2.frozen
    have B2_z := B2.lt
    go_wp2_with fail
    go_ret
    exact ⟨rfl, Kept.below (by (repeat' (first | (with_reducible exact Kept.refl _ _) | (with_reducible assumption) | (with_reducible refine Kept.then_ (by with_reducible assumption) ?_) | (with_reducible refine Kept.thenS (by with_reducible assumption) ?_) | (with_reducible refine Kept.alloc ?_ _) | (with_reducible refine Kept.drew ?_) | (with_reducible refine Kept.drewN ?_ _) | (with_reducible refine Kept.setNew ?_ ?_ _) | ((try simp only [World.size_alloc, World.size_setCell, World.size_drew, size_drewN] at *); (try dsimp only); omega))))⟩
  · go_enter Try.func3, Try.ntmps3
    go_wp2_with fail
    (with_reducible refine (alive_any _).mono ?_)
    rintro e w1 ⟨rfl, hb1⟩
    have hs1 := hb1.size
    (try simp only [World.size_alloc, World.size_setCell, World.size_drew, size_drewN] at hs1)
    have B0 : Blk w1 W.heap.size 24 #[.int .i64 a1_0, .int .i64 a1_1, .int .u64 a1_2] := by (repeat' (first | (with_reducible assumption) | (with_reducible refine Blk.keep0 ?_ (by with_reducible assumption)) | (with_reducible refine Blk.new' _ _ _ ?_) | (with_reducible refine Blk.alloc ?_ _) | (with_reducible refine Blk.set' (by with_reducible assumption) ?_) | (with_reducible refine Blk.far ?_ (by simp only []; omega) _) | (with_reducible refine Blk.drew ?_) | (with_reducible refine Blk.drewN ?_ _) | (with_reducible rfl) | (simp only [World.size_alloc, World.size_setCell, World.size_drew, size_drewN]; done)))
    have B0_c := B0.cell
    have B0_f := B0.frozen
    have B0_z := B0.lt
    go_wp2_with fail
    (with_reducible refine (at_lo _ (by omega) (by omega) _).mono ?_)
    rintro e w2 ⟨rfl, hb2⟩
    have hs2 := hb2.size
    (try simp only [World.size_alloc, World.size_setCell, World.size_drew, size_drewN] at hs2)
    clear B0_c B0_f B0_z
    replace B0 : Blk w2 W.heap.size 24 #[.int .i64 a1_0, .int .i64 a1_1, .int .u64 a1_2] := by (repeat' (first | (with_reducible assumption) | (with_reducible refine Blk.keep0 ?_ (by with_reducible assumption)) | (with_reducible refine Blk.new' _ _ _ ?_) | (with_reducible refine Blk.alloc ?_ _) | (with_reducible refine Blk.set' (by with_reducible assumption) ?_) | (with_reducible refine Blk.far ?_ (by simp only []; omega) _) | (with_reducible refine Blk.drew ?_) | (with_reducible refine Blk.drewN ?_ _) | (with_reducible rfl) | (simp only [World.size_alloc, World.size_setCell, World.size_drew, size_drewN]; done)))
    have B0_c := B0.cell
    have B0_f := B0.frozen
    have B0_z := B0.lt
    go_wp2_with fail
    (with_reducible refine (refat_lo _ (by omega) (by omega) _).mono ?_)
    rintro e w3 ⟨rfl, hb3⟩
    have hs3 := hb3.size
    (try simp only [World.size_alloc, World.size_setCell, World.size_drew, size_drewN] at hs3)
    clear B0_c B0_f B0_z
    replace B0 : Blk w3 W.heap.size 24 #[.int .i64 a1_0, .int .i64 a1_1, .int .u64 a1_2] := by (repeat' (first | (with_reducible assumption) | (with_reducible refine Blk.keep0 ?_ (by with_reducible assumption)) | (with_reducible refine Blk.new' _ _ _ ?_) | (with_reducible refine Blk.alloc ?_ _) | (with_reducible refine Blk.set' (by with_reducible assumption) ?_) | (with_reducible refine Blk.far ?_ (by simp only []; omega) _) | (with_reducible refine Blk.drew ?_) | (with_reducible refine Blk.drewN ?_ _) | (with_reducible rfl) | (simp only [World.size_alloc, World.size_setCell, World.size_drew, size_drewN]; done)))
    have B0_c := B0.cell
    have B0_f := B0.frozen
    have B0_z := B0.lt
    have B1 : Blk w3 w2.heap.size 26 #[.int .i64 (a0 / 16384), .int .i64 (a0 / 1024 % 16), .int .u64 (a0 % 1024)] := by (repeat' (first | (with_reducible assumption) | (with_reducible refine Blk.keep0 ?_ (by with_reducible assumption)) | (with_reducible refine Blk.new' _ _ _ ?_) | (with_reducible refine Blk.alloc ?_ _) | (with_reducible refine Blk.set' (by with_reducible assumption) ?_) | (with_reducible refine Blk.far ?_ (by simp only []; omega) _) | (with_reducible refine Blk.drew ?_) | (with_reducible refine Blk.drewN ?_ _) | (with_reducible rfl) | (simp only [World.size_alloc, World.size_setCell, World.size_drew, size_drewN]; done)))
    have B1_c := B1.cell
    have B1_f := B1.frozen
    have B1_z := B1.lt
    go_wp2_with fail
    (with_reducible refine (addr_any _ _ _ (by omega) _).mono ?_)
    rintro e w4 ⟨rfl, hb4⟩
    have hs4 := hb4.size
    (try simp only [World.size_alloc, World.size_setCell, World.size_drew, size_drewN] at hs4)
    clear B0_c B0_f B0_z
    replace B0 : Blk w4 W.heap.size 24 #[.int .i64 a1_0, .int .i64 a1_1, .int .u64 a1_2] := by (repeat' (first | (with_reducible assumption) | (with_reducible refine Blk.keep0 ?_ (by with_reducible assumption)) | (with_reducible refine Blk.new' _ _ _ ?_) | (with_reducible refine Blk.alloc ?_ _) | (with_reducible refine Blk.set' (by with_reducible assumption) ?_) | (with_reducible refine Blk.far ?_ (by simp only []; omega) _) | (with_reducible refine Blk.drew ?_) | (with_reducible refine Blk.drewN ?_ _) | (with_reducible rfl) | (simp only [World.size_alloc, World.size_setCell, World.size_drew, size_drewN]; done)))
    have B0_c := B0.cell
    have B0_f := B0.frozen
    have B0_z := B0.lt
    clear B1_c B1_f B1_z
    replace B1 : Blk w4 w2.heap.size 26 #[.int .i64 (a0 / 16384), .int .i64 (a0 / 1024 % 16), .int .u64 (a0 % 1024)] := by (repeat' (first | (with_reducible assumption) | (with_reducible refine Blk.keep0 ?_ (by with_reducible assumption)) | (with_reducible refine Blk.new' _ _ _ ?_) | (with_reducible refine Blk.alloc ?_ _) | (with_reducible refine Blk.set' (by with_reducible assumption) ?_) | (with_reducible refine Blk.far ?_ (by simp only []; omega) _) | (with_reducible refine Blk.drew ?_) | (with_reducible refine Blk.drewN ?_ _) | (with_reducible rfl) | (simp only [World.size_alloc, World.size_setCell, World.size_drew, size_drewN]; done)))
    have B1_c := B1.cell
    have B1_f := B1.frozen
    have B1_z := B1.lt
    have B2 : Blk w4 w3.heap.size 24 #[.int .i64 (a0 / 16384), .int .i64 (a0 / 1024 % 16), .int .u64 (a0 % 1024)] := by (repeat' (first | (with_reducible assumption) | (with_reducible refine Blk.keep0 ?_ (by with_reducible assumption)) | (with_reducible refine Blk.new' _ _ _ ?_) | (with_reducible refine Blk.alloc ?_ _) | (with_reducible refine Blk.set' (by with_reducible assumption) ?_) | (with_reducible refine Blk.far ?_ (by simp only []; omega) _) | (with_reducible refine Blk.drew ?_) | (with_reducible refine Blk.drewN ?_ _) | (with_reducible rfl) | (simp only [World.size_alloc, World.size_setCell, World.size_drew, size_drewN]; done)))
    have B2_c := B2.cell
    have B2_f := B2.frozen
    have B2_z := B2.lt
    go_wp2_with fail
    (with_reducible refine (refaddr_any _ _ _ (by omega) _).mono ?_)
    rintro e w5 ⟨rfl, hb5⟩
    have hs5 := hb5.size
    (try simp only [World.size_alloc, World.size_setCell, World.size_drew, size_drewN] at hs5)
    clear B0_c B0_f B0_z
    replace B0 : Blk w5 W.heap.size 24 #[.int .i64 a1_0, .int .i64 a1_1, .int .u64 a1_2] := by (repeat' (first | (with_reducible assumption) | (with_reducible refine Blk.keep0 ?_ (by with_reducible assumption)) | (with_reducible refine Blk.new' _ _ _ ?_) | (with_reducible refine Blk.alloc ?_ _) | (with_reducible refine Blk.set' (by with_reducible assumption) ?_) | (with_reducible refine Blk.far ?_ (by simp only []; omega) _) | (with_reducible refine Blk.drew ?_) | (with_reducible refine Blk.drewN ?_ _) | (with_reducible rfl) | (simp only [World.size_alloc, World.size_setCell, World.size_drew, size_drewN]; done)))
    have B0_c := B0.cell
    have B0_f := B0.frozen
    have B0_z := B0.lt
    clear B1_c B1_f B1_z
    replace B1 : Blk w5 w2.heap.size 26 #[.int .i64 (a0 / 16384), .int .i64 (a0 / 1024 % 16), .int .u64 (a0 % 1024)] := by (repeat' (first | (with_reducible assumption) | (with_reducible refine Blk.keep0 ?_ (by with_reducible assumption)) | (with_reducible refine Blk.new' _ _ _ ?_) | (with_reducible refine Blk.alloc ?_ _) | (with_reducible refine Blk.set' (by with_reducible assumption) ?_) | (with_reducible refine Blk.far ?_ (by simp only []; omega) _) | (with_reducible refine Blk.drew ?_) | (with_reducible refine Blk.drewN ?_ _) | (with_reducible rfl) | (simp only [World.size_alloc, World.size_setCell, World.size_drew, size_drewN]; done)))
    have B1_c := B1.cell
    have B1_f := B1.frozen
    have B1_z := B1.lt
    clear B2_c B2_f B2_z
    replace B2 : Blk w5 w3.heap.size 24 #[.int .i64 (a0 / 16384), .int .i64 (a0 / 1024 % 16), .int .u64 (a0 % 1024)] := by (repeat' (first | (with_reducible assumption) | (with_reducible refine Blk.keep0 ?_ (by with_reducible assumption)) | (with_reducible refine Blk.new' _ _ _ ?_) | (with_reducible refine Blk.alloc ?_ _) | (with_reducible refine Blk.set' (by with_reducible assumption) ?_) | (with_reducible refine Blk.far ?_ (by simp only []; omega) _) | (with_reducible refine Blk.drew ?_) | (with_reducible refine Blk.drewN ?_ _) | (with_reducible rfl) | (simp only [World.size_alloc, World.size_setCell, World.size_drew, size_drewN]; done)))
    have B2_c := B2.cell
    have B2_f := B2.frozen
    have B2_z := B2.lt
    go_wp2_with fail
    go_ret
    exact ⟨rfl, Kept.below (by (repeat' (first | (with_reducible exact Kept.refl _ _) | (with_reducible assumption) | (with_reducible refine Kept.then_ (by with_reducible assumption) ?_) | (with_reducible refine Kept.thenS (by with_reducible assumption) ?_) | (with_reducible refine Kept.alloc ?_ _) | (with_reducible refine Kept.drew ?_) | (with_reducible refine Kept.drewN ?_ _) | (with_reducible refine Kept.setNew ?_ ?_ _) | ((try simp only [World.size_alloc, World.size_setCell, World.size_drew, size_drewN] at *); (try dsimp only); omega))))⟩
theorem own : ownKnob Try.prog.godebug = none := by kernel_rfl
theorem laidOut : laidOutB Try.prog = true := by kernel_rfl
set_option maxRecDepth 100000 in
theorem lifted (os : Os) (started : os.Started) (H : Type) (enc : TypeId × Value → H) :
    ReturnsInHanded {} Try.checked os 3 .any (Rows.geoPlacesSpec.pre6 enc Try.prog Try.f3 Rows.geoPlacesRow.domain false) (Rows.geoPlacesSpec.post enc Try.prog Try.f3 false true false false) := by
  refine returnsInHanded_of_change (C := Try.checked) own started (by kernel_rfl) Try.func3
    (ChangeSpec.witness6 (enc := enc) (C := Try.checked) false ⟨#[], #[.int .u64 0, .agg #[.int .i64 0, .int .i64 0, .int .u64 0]], []⟩ 8 (by kernel_rfl) (by kernel_rfl) (by kernel_rfl) (by kernel_rfl)) ?_
  intro W base args ds gs before hval0 hW hcnd _
  have hval : ∀ (j : Nat) t v, Try.f3.params[j]? = some t → args[j]? = some v → Value.okWide Try.prog W .any base t v := hval0
  have hW' := hW
  obtain ⟨p, q, hA0, hV, rfl, hfz, hnd⟩ := hW
  have hA : DataW.TrodAll enc Try.prog W 0 (fun _ => true) true Try.f3.params.toList args.toList ds p := hA0
  rw [Try.params3] at hA hval
  obtain ⟨v0, vs0, d0, ds0, p0, q0, hargs, rfl, rfl, h0, r0⟩ := trodAll_cons hA
  obtain ⟨v1, vs1, d1, ds1, p1, q1, rfl, rfl, rfl, h1, r1⟩ := trodAll_cons r0
  obtain ⟨rfl, rfl, rfl⟩ := trodAll_nil r1
  obtain rfl : args = #[v0, v1] := by cases args; simp_all
  obtain ⟨rfl, rfl⟩ := trodVars_none hV
  have k1 := h1
  have lt1 : ∀ x ∈ p1, x.block < W.heap.size := by obtain ⟨m, hm⟩ := k1; exact DataW.trod_lt m _ _ _ hm
  obtain ⟨a0, rfl, rfl, rfl, w0⟩ := open_int Try.underlying22 (hval 0 22 v0 rfl rfl) h0
  obtain ⟨c1_0, c1_1, c1_2, y1_0, y1_1, y1_2, n1, rfl, rfl, rfl, t1_0, t1_1, t1_2⟩ := open_agg3 Try.underlying24 (by kernel_rfl) (by kernel_rfl) (hval 1 24 v1 rfl rfl) h1
  obtain ⟨a1_0, e1_0, _, w1_0⟩ := DataW.trod_int Try.underlying3 t1_0
  simp only [List.cons.injEq, and_true] at e1_0
  subst e1_0
  obtain ⟨a1_1, e1_1, _, w1_1⟩ := DataW.trod_int Try.underlying3 t1_1
  simp only [List.cons.injEq, and_true] at e1_1
  subst e1_1
  obtain ⟨a1_2, e1_2, _, w1_2⟩ := DataW.trod_int Try.underlying22 t1_2
  simp only [List.cons.injEq, and_true] at e1_2
  subst e1_2
  clear hA0 hval0
  refine (walk a0 a1_0 a1_1 a1_2 W w0 w1_0 w1_1 w1_2).mono fun e W' ⟨he, bel⟩ => ?_
  subst he
  exact ⟨_, rfl, _, _, _, [], _, [], hW', trodAll_mk1 (shut_bool Try.underlying4 _), (trodAll_cons_mk (shut_int Try.underlying22 w0) (trodAll_cons_mk (Below.trod laidOut (by kernel_rfl) (of_decide_eq_true (by kernel_rfl)) k1 bel lt1) trodAll_mk0)), rfl, bel.frame _, fun h => by cases h⟩
theorem over : Rows.geoPlacesRow.holds Try.pinned (OpenSpec.ofChange Rows.geoPlacesSpec) :=
  OpenClaim.holds_of_wide 3 Try.f3 rfl rfl rfl rfl rfl rfl rfl ⟨rfl, rfl, rfl, rfl, rfl⟩ rfl rfl rfl rfl rfl (by kernel_rfl) Try.func3 (by kernel_rfl)
    (of_decide_eq_true (by kernel_rfl)) (by unfold Func.isWrapper; first | (rw [if_pos (by decide +kernel)]; kernel_rfl) | (rw [if_neg (by decide +kernel)]; exact ⟨rfl, rfl⟩))
    (fun os started H enc _ => lifted os started H enc)
theorem proved : Rows.GeoPlacesSaid := over
#print axioms proved
end Go.Proofs.Ytfmgeidlbekfpaa.GeoPlaces
