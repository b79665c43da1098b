/- Clone, Get, Put, Copy. -/
import Derived.Test.YtgiokigokedakaaMemC
import Derived.Lib.SliceRun
set_option linter.unusedVariables false
set_option linter.unusedSimpArgs false
namespace Go.Proofs.Ytgiokigokedakaa
open Go.RowKit
/-- What a clone answers: new bytes, nothing else turns. -/
def CloneIs (W : World) (ys : List Int) (e : Ending) (w' : World) : Prop := ∃ A c, e = .returned (.slice A ys.length c) ∧ OwnI W.heap.size .u8 5 w' (.slice A ys.length c) ys ∧ Kept [] W w'
theorem clone_nil (w : World) : Calls Try.prog 51 #[.slice none 0 0] w fun e w' => e = .returned (.slice none 0 0) ∧ w = w' := by
  have heq := fun (w : World) => Lib.run_eql_slice_nil (P := Try.prog) w 22 5 none 0 0 0 0 Try.underlying22
  go_enter Try.func51, Try.ntmps51
  go_wp2
  go_ret
  exact ⟨rfl, rfl⟩
theorem clone_some (w : World) (ad : Addr) (c : Nat) (ys : List Int) (hr : RowX .u8 w (some ad) ys) (hl : ys.length ≤ 1000000000) :
    Calls Try.prog 51 #[.slice (some ad) ys.length c] w (CloneIs w ys) := by
  have heq := fun (w : World) => Lib.run_eql_slice_nil (P := Try.prog) w 22 5 (some ad) ys.length c 0 0 Try.underlying22
  have HR := Lib.hid hr
  clear hr
  go_enter Try.func51, Try.ntmps51
  go_wp2_with (refine app_gen .u8 22 5 1 Try.underlying22 info_u8 (by omega) rfl (.tmp 5) (.tmp 6) rfl w w.heap.size _ [] ys rfl (OwnI.made _ (Nat.le_refl _)) (some ad) _ _ rfl rfl (fun h => by cases h) (HR.out.keep (by (repeat' (first | (with_reducible exact Kept.refl _ _) | (with_reducible assumption) | (with_reducible refine Kept.then_ (by with_reducible assumption) ?_) | (with_reducible refine Kept.thenS (by with_reducible assumption) ?_) | (with_reducible refine Kept.alloc ?_ _) | (with_reducible refine Kept.drew ?_) | (with_reducible refine Kept.drewN ?_ _) | (with_reducible refine Kept.setNew ?_ ?_ _) | ((try simp only [World.size_alloc, World.size_setCell, World.size_drew, size_drewN] at *); (try dsimp only); omega))))) (by (repeat' (first | (with_reducible exact Kept.refl _ _) | (with_reducible assumption) | (with_reducible refine Kept.then_ (by with_reducible assumption) ?_) | (with_reducible refine Kept.thenS (by with_reducible assumption) ?_) | (with_reducible refine Kept.alloc ?_ _) | (with_reducible refine Kept.drew ?_) | (with_reducible refine Kept.drewN ?_ _) | (with_reducible refine Kept.setNew ?_ ?_ _) | ((try simp only [World.size_alloc, World.size_setCell, World.size_drew, size_drewN] at *); (try dsimp only); omega)))) (Nat.le_refl _) (by simp) (by simp; omega) ?_)
  intro A' n' c' w' hn' hown hown0 hk hg hs hc hrow
  go_wp2
  go_ret
  obtain rfl : n' = ys.length := by simpa using hn'.out
  exact ⟨A', c', rfl, by simpa using hown, hk⟩
/-- What Get answers of a piece that is in it. -/
def GetIs (W : World) (ys : List Int) (e : Ending) (w' : World) : Prop := ∃ A c, e = .returned (.tuple #[.slice A ys.length c, .int .i64 0]) ∧ OwnI W.heap.size .u8 5 w' (.slice A ys.length c) ys ∧ Kept [] W w'
theorem piece_row {w : World} {p g : Nat} {zs : List Int} (h : MemB w p g zs) (a n : Nat) (ho : a + n ≤ zs.length) : RowX .u8 w (some ⟨g, offOf zs.length a, none⟩) ((zs.drop a).take n) := fun _ =>
  ⟨_, rfl, h.2.1.lt, fun i hi => by
    rw [piece_len zs a n ho] at hi
    rw [Addr.add_lit]
    exact piece_cells h a n ho i hi⟩
theorem get_in (w : World) (p g : Nat) (zs : List Int) (h : MemB w p g zs) (a n : Nat) (ho : a + n ≤ zs.length) :
    Calls Try.prog 25 #[.pointer (some ⟨p, 0, none⟩), .int .u64 a, .int .u64 n] w (GetIs w ((zs.drop a).take n)) := by
  have hl := piece_len zs a n ho
  have hz := h.2.2.1
  have c1 := Lib.hid (in_in w p g zs h a n ho)
  have c2 := clone_some w ⟨g, offOf zs.length a, none⟩ (zs.length - a) _ (piece_row h a n ho) (by omega)
  generalize (zs.drop a).take n = ys at *
  subst hl
  have C2 := Lib.hid c2
  clear c2 h
  go_enter Try.func25, Try.ntmps25
  go_wp2_with fail
  (with_reducible refine c1.out.mono ?_)
  rintro e w' ⟨rfl, rfl⟩
  go_wp2_with fail
  (with_reducible refine C2.out.mono ?_)
  rintro e w1 ⟨A, c, rfl, hown, hk⟩
  have HO := Lib.hid hown
  clear hown
  go_wp2_with fail
  go_ret2
  exact ⟨A, c, rfl, HO.out, hk⟩
theorem get_out (w : World) (p g : Nat) (zs : List Int) (h : MemB w p g zs) (a n : Int) (ha : 0 ≤ a) (hn : 0 ≤ n) (ho : (zs.length : Int) < a ∨ (zs.length : Int) - a < n) :
    Calls Try.prog 25 #[.pointer (some ⟨p, 0, none⟩), .int .u64 a, .int .u64 n] w fun e w' => e = .returned (.tuple #[.slice none 0 0, .int .i64 3]) ∧ w = w' := by
  have c1 := Lib.hid (in_out w p g zs h a n ha hn ho)
  clear h ho
  go_enter Try.func25, Try.ntmps25
  go_wp2_with fail
  (with_reducible refine c1.out.mono ?_)
  rintro e w' ⟨rfl, rfl⟩
  go_wp2_with fail
  (with_reducible refine (clone_nil _).mono ?_)
  rintro e w' ⟨rfl, rfl⟩
  go_wp2_with fail
  go_ret2
  exact ⟨rfl, rfl⟩
end Go.Proofs.Ytgiokigokedakaa
