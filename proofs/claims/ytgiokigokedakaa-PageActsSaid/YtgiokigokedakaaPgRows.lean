/- Page, as its law asks: New of whatever run; the document's May; Run, Asked; their rows are the same; what isn't given back. -/
import Derived.Test.YtgiokigokedakaaPgRefA
import Derived.Deep.RegionHeld3
set_option linter.unusedVariables false
set_option linter.unusedSimpArgs false
namespace Go.Proofs.Ytgiokigokedakaa
open Go.RowKit
def OkR (F Z N : Int) (len : Nat) : Prop := MayP F Z N ∧ 1 ≤ F ∧ 16 ≤ Z ∧ 1 ≤ N ∧ F + N * Z ≤ len
instance (F Z N : Int) (len : Nat) : Decidable (OkR F Z N len) := by unfold OkR MayP; infer_instance
set_option maxRecDepth 100000 in
set_option maxHeartbeats 4000000 in
theorem newp_bad (w : World) (mp g : Nat) (zs : List Int) (hM : MemB w mp g zs) (F Z N : Int) (hF : 0 ≤ F) (hZ : 0 ≤ Z) (hb : ¬ OkR F Z N zs.length) :
    Calls Try.prog 28 #[.pointer (some ⟨mp, 0, none⟩), .agg #[.int .u64 F, .int .u64 Z, .int .i64 N]] w fun e w' => e = .returned (.tuple #[.pointer none, .int .i64 2]) ∧ Kept [] w w' := by
  obtain ⟨E, hE⟩ : ∃ E : Int, endV F Z N = E := ⟨_, rfl⟩
  have DE : Hid (∀ w', Calls Try.prog 41 #[.agg #[.int .u64 F, .int .u64 Z, .int .i64 N]] w' fun e w'' => e = .returned (.int .u64 E) ∧ Kept [] w' w'') := Lib.hid (fun w' => by
    have := end_any F Z N hF hZ w'
    rw [← hE]
    exact this)
  have DS := Lib.hid (fun w' (hk : Kept [] w w') => size_any w' mp g zs (hM.keep0 hk))
  have hml := hM.1.lt
  have hcase : E = 0 ∨ (E ≠ 0 ∧ (F = 0 ∨ (F ≠ 0 ∧ (Z < 16 ∨ (16 ≤ Z ∧ (N < 1 ∨ (1 ≤ N ∧ (zs.length : Int) < E))))))) := by
    by_cases h0 : E = 0
    · exact .inl h0
    · right
      refine ⟨h0, ?_⟩
      have hm : MayP F Z N := by
        by_cases hm : MayP F Z N
        · exact hm
        · exfalso; apply h0; rw [← hE]; unfold endV; rw [if_neg hm]
      have hE' : F + N * Z = E := by rw [← hE]; unfold endV; rw [if_pos hm]
      by_cases h1 : F = 0
      · exact .inl h1
      · right
        refine ⟨h1, ?_⟩
        by_cases h2 : Z < 16
        · exact .inl h2
        · right
          refine ⟨by omega, ?_⟩
          by_cases h3 : N < 1
          · exact .inl h3
          · right
            refine ⟨by omega, ?_⟩
            by_cases h4 : (zs.length : Int) < E
            · exact h4
            · exact absurd ⟨hm, by omega, by omega, by omega, by omega⟩ hb
  clear hM hE hb
  rcases hcase with h0 | ⟨h0, h1 | ⟨h1, h2 | ⟨h2, h3 | ⟨h3, h4⟩⟩⟩⟩
  · have q0 : ((E == 0) : Bool) = true := by rw [h0]; simp
    clear h0
    go_enter Try.func28, Try.ntmps28
    go_wp2_with fail
    (with_reducible refine (DE.out _).mono ?_)
    rintro e w1 ⟨rfl, hb1⟩
    have K1 : Kept [] w w1 := by (repeat' (first | (with_reducible exact Kept.refl _ _) | (with_reducible assumption) | (with_reducible refine Kept.then_ (by with_reducible assumption) ?_) | (with_reducible refine Kept.thenS (by with_reducible assumption) ?_) | (with_reducible refine Kept.alloc ?_ _) | (with_reducible refine Kept.drew ?_) | (with_reducible refine Kept.drewN ?_ _) | (with_reducible refine Kept.setNew ?_ ?_ _) | ((try simp only [World.size_alloc, World.size_setCell, World.size_drew, size_drewN] at *); (try dsimp only); omega)))
    go_wp2_with fail
    (first | go_ret2 | go_ret)
    exact ⟨rfl, K1⟩
  · have q0 : ((E == 0) : Bool) = false := by rw [beq_eq_false_iff_ne]; exact h0
    subst h1
    clear h0
    go_enter Try.func28, Try.ntmps28
    go_wp2_with fail
    (with_reducible refine (DE.out _).mono ?_)
    rintro e w1 ⟨rfl, hb1⟩
    have B1 : Blk w1 w.heap.size 28 #[.int .u64 0, .int .u64 Z, .int .i64 N] := (Blk.new w _ _).keep0 hb1
    have B1c := B1.cell
    have B1l := B1.lt
    have K1 : Kept [] w w1 := by (repeat' (first | (with_reducible exact Kept.refl _ _) | (with_reducible assumption) | (with_reducible refine Kept.then_ (by with_reducible assumption) ?_) | (with_reducible refine Kept.thenS (by with_reducible assumption) ?_) | (with_reducible refine Kept.alloc ?_ _) | (with_reducible refine Kept.drew ?_) | (with_reducible refine Kept.drewN ?_ _) | (with_reducible refine Kept.setNew ?_ ?_ _) | ((try simp only [World.size_alloc, World.size_setCell, World.size_drew, size_drewN] at *); (try dsimp only); omega)))
    go_wp2_with fail
    (first | go_ret2 | go_ret)
    exact ⟨rfl, K1⟩
  · have q0 : ((E == 0) : Bool) = false := by rw [beq_eq_false_iff_ne]; exact h0
    have q1 : ((F == 0) : Bool) = false := by rw [beq_eq_false_iff_ne]; exact h1
    have q2 : decide (Z < 16) = true := by rw [decide_eq_true_iff]; exact h2
    clear h0 h1 h2
    go_enter Try.func28, Try.ntmps28
    go_wp2_with fail
    (with_reducible refine (DE.out _).mono ?_)
    rintro e w1 ⟨rfl, hb1⟩
    have B1 : Blk w1 w.heap.size 28 #[.int .u64 F, .int .u64 Z, .int .i64 N] := (Blk.new w _ _).keep0 hb1
    have B1c := B1.cell
    have B1l := B1.lt
    have K1 : Kept [] w w1 := by (repeat' (first | (with_reducible exact Kept.refl _ _) | (with_reducible assumption) | (with_reducible refine Kept.then_ (by with_reducible assumption) ?_) | (with_reducible refine Kept.thenS (by with_reducible assumption) ?_) | (with_reducible refine Kept.alloc ?_ _) | (with_reducible refine Kept.drew ?_) | (with_reducible refine Kept.drewN ?_ _) | (with_reducible refine Kept.setNew ?_ ?_ _) | ((try simp only [World.size_alloc, World.size_setCell, World.size_drew, size_drewN] at *); (try dsimp only); omega)))
    go_wp2_with fail
    (first | go_ret2 | go_ret)
    exact ⟨rfl, K1⟩
  · have q0 : ((E == 0) : Bool) = false := by rw [beq_eq_false_iff_ne]; exact h0
    have q1 : ((F == 0) : Bool) = false := by rw [beq_eq_false_iff_ne]; exact h1
    have q2 : decide (Z < 16) = false := by rw [decide_eq_false_iff_not]; omega
    have q3 : decide (N < 1) = true := by rw [decide_eq_true_iff]; exact h3
    clear h0 h1 h2 h3
    go_enter Try.func28, Try.ntmps28
    go_wp2_with fail
    (with_reducible refine (DE.out _).mono ?_)
    rintro e w1 ⟨rfl, hb1⟩
    have B1 : Blk w1 w.heap.size 28 #[.int .u64 F, .int .u64 Z, .int .i64 N] := (Blk.new w _ _).keep0 hb1
    have B1c := B1.cell
    have B1l := B1.lt
    have K1 : Kept [] w w1 := by (repeat' (first | (with_reducible exact Kept.refl _ _) | (with_reducible assumption) | (with_reducible refine Kept.then_ (by with_reducible assumption) ?_) | (with_reducible refine Kept.thenS (by with_reducible assumption) ?_) | (with_reducible refine Kept.alloc ?_ _) | (with_reducible refine Kept.drew ?_) | (with_reducible refine Kept.drewN ?_ _) | (with_reducible refine Kept.setNew ?_ ?_ _) | ((try simp only [World.size_alloc, World.size_setCell, World.size_drew, size_drewN] at *); (try dsimp only); omega)))
    go_wp2_with fail
    (first | go_ret2 | go_ret)
    exact ⟨rfl, K1⟩
  · have q0 : ((E == 0) : Bool) = false := by rw [beq_eq_false_iff_ne]; exact h0
    have q1 : ((F == 0) : Bool) = false := by rw [beq_eq_false_iff_ne]; exact h1
    have q2 : decide (Z < 16) = false := by rw [decide_eq_false_iff_not]; omega
    have q3 : decide (N < 1) = false := by rw [decide_eq_false_iff_not]; omega
    have q4 : decide ((zs.length : Int) < E) = true := by rw [decide_eq_true_iff]; exact h4
    clear h0 h1 h2 h3 h4
    go_enter Try.func28, Try.ntmps28
    go_wp2_with fail
    (with_reducible refine (DE.out _).mono ?_)
    rintro e w1 ⟨rfl, hb1⟩
    have B1 : Blk w1 w.heap.size 28 #[.int .u64 F, .int .u64 Z, .int .i64 N] := (Blk.new w _ _).keep0 hb1
    have B1c := B1.cell
    have B1l := B1.lt
    have K1 : Kept [] w w1 := by (repeat' (first | (with_reducible exact Kept.refl _ _) | (with_reducible assumption) | (with_reducible refine Kept.then_ (by with_reducible assumption) ?_) | (with_reducible refine Kept.thenS (by with_reducible assumption) ?_) | (with_reducible refine Kept.alloc ?_ _) | (with_reducible refine Kept.drew ?_) | (with_reducible refine Kept.drewN ?_ _) | (with_reducible refine Kept.setNew ?_ ?_ _) | ((try simp only [World.size_alloc, World.size_setCell, World.size_drew, size_drewN] at *); (try dsimp only); omega)))
    go_wp2_with fail
    (with_reducible refine (DE.out _).mono ?_)
    rintro e w2 ⟨rfl, hb2'⟩
    have K2 := hb2'.then_ K1
    go_wp2_with fail
    (with_reducible refine (DS.out _ K2).mono ?_)
    rintro e w3 ⟨rfl, hw3⟩
    subst hw3
    clear B1 B1c B1l
    go_wp2_with fail
    (first | go_ret2 | go_ret)
    exact ⟨rfl, K2⟩
set_option maxRecDepth 100000 in
set_option maxHeartbeats 4000000 in
theorem rmayp_any (w : World) (F Z N : Int) (len : Nat) (hl : len ≤ 1048576) (hF : 0 ≤ F) (hZ : 0 ≤ Z) (b : Bool) (hb : decide (OkR F Z N len) = b) :
    Calls Try.prog 29 #[.agg #[.int .u64 F, .int .u64 Z, .int .i64 N], .int .u64 (len : Int)] w fun e w' => e = .returned (.bool b) ∧ Kept [] w w' := by
  obtain ⟨E, hE⟩ : ∃ E : Int, endV F Z N = E := ⟨_, rfl⟩
  have DE : Hid (∀ w', Calls Try.prog 55 #[.agg #[.int .u64 F, .int .u64 Z, .int .i64 N]] w' fun e w'' => e = .returned (.int .u64 E) ∧ Kept [] w' w'') := Lib.hid (fun w' => by
    have := refend_any F Z N hF hZ w'
    rw [← hE]
    exact this)
  obtain ⟨M, hMd⟩ : ∃ M : Bool, decide (MayP F Z N) = M := ⟨_, rfl⟩
  have DM : Hid (∀ w', Calls Try.prog 54 #[.agg #[.int .u64 F, .int .u64 Z, .int .i64 N]] w' fun e w'' => e = .returned (.bool M) ∧ Kept [] w' w'') := Lib.hid (fun w' => by
    have := refmay_any F Z N hF hZ w'
    rw [← hMd]
    exact this)
  have hcase : (M = false ∧ b = false) ∨ (M = true ∧ ((¬ 0 < F ∧ b = false) ∨ (0 < F ∧ ((¬ 16 ≤ Z ∧ b = false) ∨ (16 ≤ Z ∧ ((¬ 1 ≤ N ∧ b = false) ∨ (1 ≤ N ∧ decide (E ≤ (len : Int)) = b))))))) := by
    by_cases hm : MayP F Z N
    · right
      refine ⟨by rw [← hMd]; simpa using hm, ?_⟩
      have hE' : F + N * Z = E := by rw [← hE]; unfold endV; rw [if_pos hm]
      by_cases h1 : 0 < F
      · right
        refine ⟨h1, ?_⟩
        by_cases h2 : 16 ≤ Z
        · right
          refine ⟨h2, ?_⟩
          by_cases h3 : 1 ≤ N
          · right
            refine ⟨h3, ?_⟩
            rw [← hb, decide_eq_decide, ← hE']
            exact ⟨fun h => ⟨hm, by omega, h2, h3, h⟩, fun h => h.2.2.2.2⟩
          · exact .inl ⟨h3, by rw [← hb, decide_eq_false_iff_not]; exact fun h => h3 h.2.2.2.1⟩
        · exact .inl ⟨h2, by rw [← hb, decide_eq_false_iff_not]; exact fun h => h2 h.2.2.1⟩
      · exact .inl ⟨h1, by rw [← hb, decide_eq_false_iff_not]; exact fun h => h1 (by have := h.2.1; omega)⟩
    · exact .inl ⟨by rw [← hMd]; simpa using hm, by rw [← hb, decide_eq_false_iff_not]; exact fun h => hm h.1⟩
  clear hE hMd hb
  rcases hcase with ⟨rfl, rfl⟩ | ⟨rfl, h1 | ⟨h1, h2 | ⟨h2, h3 | ⟨h3, h4⟩⟩⟩⟩
  · go_enter Try.func29, Try.ntmps29
    go_wp2_with fail
    (with_reducible refine (DM.out _).mono ?_)
    rintro e w1 ⟨rfl, hb1⟩
    have K1 : Kept [] w w1 := by (repeat' (first | (with_reducible exact Kept.refl _ _) | (with_reducible assumption) | (with_reducible refine Kept.then_ (by with_reducible assumption) ?_) | (with_reducible refine Kept.thenS (by with_reducible assumption) ?_) | (with_reducible refine Kept.alloc ?_ _) | (with_reducible refine Kept.drew ?_) | (with_reducible refine Kept.drewN ?_ _) | (with_reducible refine Kept.setNew ?_ ?_ _) | ((try simp only [World.size_alloc, World.size_setCell, World.size_drew, size_drewN] at *); (try dsimp only); omega)))
    go_wp2_with fail
    (first | go_ret2 | go_ret)
    exact ⟨rfl, K1⟩
  · obtain ⟨h1, rfl⟩ := h1
    have q1 : decide (0 < F) = false := by rw [decide_eq_false_iff_not]; exact h1
    clear h1
    go_enter Try.func29, Try.ntmps29
    go_wp2_with fail
    (with_reducible refine (DM.out _).mono ?_)
    rintro e w1 ⟨rfl, hb1⟩
    have B1 : Blk w1 w.heap.size 71 #[.int .u64 F, .int .u64 Z, .int .i64 N] := (Blk.new w _ _).keep0 hb1
    have B1c := B1.cell
    have B1l := B1.lt
    have K1 : Kept [] w w1 := by (repeat' (first | (with_reducible exact Kept.refl _ _) | (with_reducible assumption) | (with_reducible refine Kept.then_ (by with_reducible assumption) ?_) | (with_reducible refine Kept.thenS (by with_reducible assumption) ?_) | (with_reducible refine Kept.alloc ?_ _) | (with_reducible refine Kept.drew ?_) | (with_reducible refine Kept.drewN ?_ _) | (with_reducible refine Kept.setNew ?_ ?_ _) | ((try simp only [World.size_alloc, World.size_setCell, World.size_drew, size_drewN] at *); (try dsimp only); omega)))
    go_wp2_with fail
    (first | go_ret2 | go_ret)
    exact ⟨rfl, K1⟩
  · obtain ⟨h2, rfl⟩ := h2
    have q1 : decide (0 < F) = true := by rw [decide_eq_true_iff]; exact h1
    have q2 : decide (16 ≤ Z) = false := by rw [decide_eq_false_iff_not]; exact h2
    clear h1 h2
    go_enter Try.func29, Try.ntmps29
    go_wp2_with fail
    (with_reducible refine (DM.out _).mono ?_)
    rintro e w1 ⟨rfl, hb1⟩
    have B1 : Blk w1 w.heap.size 71 #[.int .u64 F, .int .u64 Z, .int .i64 N] := (Blk.new w _ _).keep0 hb1
    have B1c := B1.cell
    have B1l := B1.lt
    have K1 : Kept [] w w1 := by (repeat' (first | (with_reducible exact Kept.refl _ _) | (with_reducible assumption) | (with_reducible refine Kept.then_ (by with_reducible assumption) ?_) | (with_reducible refine Kept.thenS (by with_reducible assumption) ?_) | (with_reducible refine Kept.alloc ?_ _) | (with_reducible refine Kept.drew ?_) | (with_reducible refine Kept.drewN ?_ _) | (with_reducible refine Kept.setNew ?_ ?_ _) | ((try simp only [World.size_alloc, World.size_setCell, World.size_drew, size_drewN] at *); (try dsimp only); omega)))
    go_wp2_with fail
    (first | go_ret2 | go_ret)
    exact ⟨rfl, K1⟩
  · obtain ⟨h3, rfl⟩ := h3
    have q1 : decide (0 < F) = true := by rw [decide_eq_true_iff]; exact h1
    have q2 : decide (16 ≤ Z) = true := by rw [decide_eq_true_iff]; exact h2
    have q3 : decide (1 ≤ N) = false := by rw [decide_eq_false_iff_not]; exact h3
    clear h1 h2 h3
    go_enter Try.func29, Try.ntmps29
    go_wp2_with fail
    (with_reducible refine (DM.out _).mono ?_)
    rintro e w1 ⟨rfl, hb1⟩
    have B1 : Blk w1 w.heap.size 71 #[.int .u64 F, .int .u64 Z, .int .i64 N] := (Blk.new w _ _).keep0 hb1
    have B1c := B1.cell
    have B1l := B1.lt
    have K1 : Kept [] w w1 := by (repeat' (first | (with_reducible exact Kept.refl _ _) | (with_reducible assumption) | (with_reducible refine Kept.then_ (by with_reducible assumption) ?_) | (with_reducible refine Kept.thenS (by with_reducible assumption) ?_) | (with_reducible refine Kept.alloc ?_ _) | (with_reducible refine Kept.drew ?_) | (with_reducible refine Kept.drewN ?_ _) | (with_reducible refine Kept.setNew ?_ ?_ _) | ((try simp only [World.size_alloc, World.size_setCell, World.size_drew, size_drewN] at *); (try dsimp only); omega)))
    go_wp2_with fail
    (first | go_ret2 | go_ret)
    exact ⟨rfl, K1⟩
  · have q1 : decide (0 < F) = true := by rw [decide_eq_true_iff]; exact h1
    have q2 : decide (16 ≤ Z) = true := by rw [decide_eq_true_iff]; exact h2
    have q3 : decide (1 ≤ N) = true := by rw [decide_eq_true_iff]; exact h3
    have H4 := Lib.hid h4
    clear h1 h2 h3 h4
    go_enter Try.func29, Try.ntmps29
    go_wp2_with fail
    (with_reducible refine (DM.out _).mono ?_)
    rintro e w1 ⟨rfl, hb1⟩
    have B1 : Blk w1 w.heap.size 71 #[.int .u64 F, .int .u64 Z, .int .i64 N] := (Blk.new w _ _).keep0 hb1
    have B1c := B1.cell
    have B1l := B1.lt
    have K1 : Kept [] w w1 := by (repeat' (first | (with_reducible exact Kept.refl _ _) | (with_reducible assumption) | (with_reducible refine Kept.then_ (by with_reducible assumption) ?_) | (with_reducible refine Kept.thenS (by with_reducible assumption) ?_) | (with_reducible refine Kept.alloc ?_ _) | (with_reducible refine Kept.drew ?_) | (with_reducible refine Kept.drewN ?_ _) | (with_reducible refine Kept.setNew ?_ ?_ _) | ((try simp only [World.size_alloc, World.size_setCell, World.size_drew, size_drewN] at *); (try dsimp only); omega)))
    go_wp2_with fail
    (with_reducible refine (DE.out _).mono ?_)
    rintro e w2 ⟨rfl, hb2⟩
    go_wp2_with fail
    (first | go_ret2 | go_ret)
    exact ⟨ret_bool H4.out, hb2.then_ K1⟩
set_option maxHeartbeats 1000000 in
theorem run_is (w : World) (p : Nat) (cs : Array Value) (F Z N : Int) (hB : Blk w p 92 cs) (h0 : cs[0]? = some (.int .u64 F)) (h1 : cs[1]? = some (.int .u64 Z)) (h2 : cs[2]? = some (.int .i64 N)) :
    Calls Try.prog 30 #[.pointer (some ⟨p, 0, none⟩)] w fun e w' => e = .returned (.agg #[.int .u64 F, .int .u64 Z, .int .i64 N]) ∧ Kept [] w w' := by
  have k0 := (hB.cell 0).trans h0
  have k1 := (hB.cell 1).trans h1
  have k2 := (hB.cell 2).trans h2
  have pl := hB.lt
  clear hB h0 h1 h2
  go_enter Try.func30, Try.ntmps30
  go_wp2_with fail
  refine bodyPost_ret (v := .agg #[.int .u64 F, .int .u64 Z, .int .i64 N]) (by simp [results, Try.results30, go_sem, Try.underlying28]) rfl ?_
  exact ⟨rfl, by (repeat' (first | (with_reducible exact Kept.refl _ _) | (with_reducible assumption) | (with_reducible refine Kept.then_ (by with_reducible assumption) ?_) | (with_reducible refine Kept.thenS (by with_reducible assumption) ?_) | (with_reducible refine Kept.alloc ?_ _) | (with_reducible refine Kept.drew ?_) | (with_reducible refine Kept.drewN ?_ _) | (with_reducible refine Kept.setNew ?_ ?_ _) | ((try simp only [World.size_alloc, World.size_setCell, World.size_drew, size_drewN] at *); (try dsimp only); omega)))⟩
set_option maxRecDepth 100000 in
set_option maxHeartbeats 4000000 in
theorem same_num (w : World) (A1 A2 : Option Addr) (c1 c2 n : Nat) (zs : List Int) (hn : n = zs.length) (h1 : RowX .u64 w A1 zs) (h2 : RowX .u64 w A2 zs) (hl : zs.length ≤ 2000000) :
    Calls Try.prog 60 #[.slice A1 n c1, .slice A2 n c2] w fun e w' => e = .returned (.bool true) ∧ Kept [] w w' := by
  subst hn
  have H1 := Lib.hid h1
  have H2 := Lib.hid h2
  have q0 : (((zs.length : Int) != (zs.length : Int)) : Bool) = false := by simp
  clear h1 h2
  go_enter Try.func60, Try.ntmps60
  go_wp2_with fail
  go_loopw [13] (fun v wr => ∃ i : Nat, i ≤ zs.length ∧ v = .int .i64 i ∧ Kept [] w wr) (fun v _ => (zs.length - intOf v).toNat)
  case atStart => exact ⟨0, Nat.zero_le _, rfl, Kept.refl _ _⟩
  case round =>
    obtain ⟨i, hi, rfl, hk⟩ := hrel
    by_cases hlt : i < zs.length
    · obtain ⟨x1, rfl, hb1, hc1⟩ := H1.out (by omega)
      obtain ⟨x2, rfl, hb2, hc2⟩ := H2.out (by omega)
      have e1 : wr.cell? (x1.add i) = some (.int .u64 (zs[i]?.getD 0)) := (World.cell?_of_block (by rw [add_block]; exact hk.block x1.block hb1 (by simp))).trans (hc1 i hlt)
      have e2 : wr.cell? (x2.add i) = some (.int .u64 (zs[i]?.getD 0)) := (World.cell?_of_block (by rw [add_block]; exact hk.block x2.block hb2 (by simp))).trans (hc2 i hlt)
      have l1 : (x1.add i).block < wr.heap.size := by rw [add_block]; exact Nat.lt_of_lt_of_le hb1 hk.size
      have l2 : (x2.add i).block < wr.heap.size := by rw [add_block]; exact Nat.lt_of_lt_of_le hb2 hk.size
      generalize zs[i]?.getD 0 = z at *
      have di : decide ((i : Int) < (zs.length : Int)) = true := by rw [decide_eq_true_iff]; omega
      have q1 : (0 : Int) ≤ (i : Int) := by omega
      have q2 : (i : Int) < (zs.length : Int) := by omega
      have qz : ((z != z) : Bool) = false := by simp
      clear hc1 hc2
      go_wp2_with fail
      refine wp_region_kept (by kernel_rfl) (by kernel_rfl) ?_
      intro TT FF hne hFF hcl
      have q_c0 := fun x => (hFF x).at_ l1 e1
      have q_c1 := fun x => (hFF x).at_ l2 e2
      repeat (first | go_big_quiet_step (fail) | quiet_step (fail))
      refine wpQuiet_nil ?_
      rintro w2 ⟨x, hx⟩
      have hb2 := hFF x
      rw [← hx] at hb2
      clear hx x hne hFF hcl q_c0 q_c1
      have hs2 := hb2.size
      (try simp only [World.size_alloc, World.size_setCell, World.size_drew, size_drewN] at hs2)
      have K2 := hb2.then_ hk
      go_wp2_with fail
      go_roundw
      case rel => exact ⟨i + 1, by omega, by go_num, K2⟩
      case measure => simp [intOf]; omega
    · obtain rfl : i = zs.length := by omega
      have di : decide ((zs.length : Int) < (zs.length : Int)) = false := by simp
      go_wp2_with fail
      go_ret
      exact ⟨rfl, hk⟩
set_option maxRecDepth 100000 in
set_option maxHeartbeats 4000000 in
theorem asked_is (w : World) (y p c : Nat) (k : Int) (hy : Blk w y 49 #[.pointer (some ⟨p, 10, none⟩)]) (hp : w.cell? ⟨p, 12, none⟩ = some (.int .i64 k)) (hk : 0 ≤ k ∧ k ≤ 1000000000) :
    Calls Try.prog 61 #[.slice (some ⟨y, 0, none⟩) 1 c] w fun e w' => e = .returned (.int .i64 k) ∧ Kept [] w w' := by
  have y0 := hy.cell 0
  have yl := hy.lt
  have pl : p < w.heap.size := cell_lt hp
  clear hy
  go_enter Try.func61, Try.ntmps61
  go_wp2_with fail
  go_loop [7, 2] (fun i s => (i = .int .i64 0 ∧ s = .int .i64 0) ∨ (i = .int .i64 1 ∧ s = .int .i64 k)) (fun i _ => 1 - (intOf i).toNat)
  case atStart => exact .inl ⟨rfl, rfl⟩
  case round =>
    rcases hrel with ⟨rfl, rfl⟩ | ⟨rfl, rfl⟩
    · go_wp2_with fail
      go_round
      case rel => exact .inr ⟨rfl, by go_num⟩
      case measure => simp [intOf]
    · go_wp2_with fail
      go_ret
      exact ⟨rfl, Kept.refl _ _⟩
set_option maxRecDepth 100000 in
set_option maxHeartbeats 8000000 in
theorem rows_is {W w : World} {p mp g o B : Nat} {X : List Nat} {a : PgA} (h : PgX W w p mp g a) (hr : RefX X B w o a) (ha : a.ask ≤ 1000000000) :
    Calls Try.prog 35 #[.pointer (some ⟨p, 0, none⟩), .pointer (some ⟨o, 0, none⟩)] w fun e w' => e = .returned (.bool true) ∧ Kept [] w w' := by
  obtain ⟨len, hlen, hok⟩ := h.ok
  have hsh := hok.lens
  have H := Lib.hid h
  have HR := Lib.hid hr
  have DL := Lib.hid (x_lists h)
  obtain ⟨U, hU⟩ : ∃ U : Int, (a.po.length : Int) + (a.us.length : Int) = U := ⟨_, rfl⟩
  have HUU := Lib.hid hU
  have DU := Lib.hid (fun w' (hk : Kept [] w w') => x_used (h.keep0 hk) U hU)
  have DM := Lib.hid (fun w' (hk : Kept [] w w') => x_made (h.keep0 hk))
  have DC := Lib.hid (fun w' (hk : Kept [] w w') => x_cell (h.keep0 hk))
  have DA := Lib.hid (fun w' y c (hk : Kept [] w w') (hy : Blk w' y 49 #[.pointer (some ⟨p, 10, none⟩)]) => asked_is w' y p c (a.ask : Int) hy (by
    obtain ⟨⟨zs, ⟨fh, lh, hd, hR⟩, _⟩, _⟩ := h.keep0 hk
    exact hR.c12) (by omega))
  have hl : a.fr.length ≤ 2000000 ∧ a.lo.length ≤ 2000000 ∧ a.po.length ≤ 2000000 := by omega
  clear h hr hok hU
  go_enter Try.func35, Try.ntmps35
  go_wp2_with fail
  (with_reducible refine DL.out.mono ?_)
  rintro e w1 ⟨⟨A1, c1, A2, c2, A3, c3, rfl, hO1, hO2, hO3⟩, hk1⟩
  have K1 := Lib.hid hk1
  obtain ⟨v5, v6, v7, hP, _⟩ := HR.out.keep0 hk1
  obtain ⟨A5, c5, A6, c6, A7, c7, rfl, rfl, rfl⟩ := hP.forms
  have D1 := Lib.hid (fun w' (hk : Kept [] w1 w') => same_num w' A1 A5 c1 c5 a.fr.length (toI a.fr) (toI_len _).symm ((OwnI.row hO1).keep hk) (TolN.row (hP.fr.keep0 hk)) (by rw [toI_len]; exact hl.1))
  have D2 := Lib.hid (fun w' (hk : Kept [] w1 w') => same_num w' A2 A6 c2 c6 a.lo.length (toI a.lo) (toI_len _).symm ((OwnI.row hO2).keep hk) (TolN.row (hP.lo.keep0 hk)) (by rw [toI_len]; exact hl.2.1))
  have D3 := Lib.hid (fun w' (hk : Kept [] w1 w') => same_num w' A3 A7 c3 c7 a.po.length (toI a.po) (toI_len _).symm ((OwnI.row hO3).keep hk) (TolN.row (hP.po.keep0 hk)) (by rw [toI_len]; exact hl.2.2))
  have k3 := hP.c3
  have k4 : w1.cell? ⟨o, 4, none⟩ = some (.int .i64 U) := by rw [hP.c4, HUU.out]
  have k5 := hP.c5
  have k6 := hP.c6
  have k7 := hP.c7
  have k9 := hP.c9
  have ol := hP.blk.lt
  have eU : ((U == U) : Bool) = true := by simp
  have eM : (((a.made : Int) == (a.made : Int)) : Bool) = true := by simp
  have eA : (((a.ask : Int) == (a.ask : Int)) : Bool) = true := by simp
  obtain ⟨lf, hlf⟩ : ∃ lf, a.fr.length = lf := ⟨_, rfl⟩
  obtain ⟨ll, hll⟩ : ∃ ll, a.lo.length = ll := ⟨_, rfl⟩
  obtain ⟨lp, hlp⟩ : ∃ lp, a.po.length = lp := ⟨_, rfl⟩
  rw [hlf] at D1 k5
  rw [hll] at D2 k6
  rw [hlp] at D3 k7
  rw [hlf, hll, hlp]
  clear hO1 hO2 hO3 hP hk1 hlf hll hlp hsh hlen hl
  go_wp2_with fail
  go_region_held3 (fun w' => w'.cell? ⟨o, 3, none⟩ = some (.int .i64 (a.made : Int)) ∧ w'.cell? ⟨o, 4, none⟩ = some (.int .i64 U) ∧ w'.cell? ⟨o, 5, none⟩ = some (.slice A5 lf c5) ∧ w'.cell? ⟨o, 6, none⟩ = some (.slice A6 ll c6) ∧ w'.cell? ⟨o, 7, none⟩ = some (.slice A7 lp c7) ∧ w'.cell? ⟨o, 9, none⟩ = some (.int .i64 (a.ask : Int)) ∧ o < w'.heap.size) (first | exact ⟨k3, k4, k5, k6, k7, k9, ol⟩ | exact ⟨u23, u24, u25, u26, u27, u29, ul2⟩ | exact ⟨u33, u34, u35, u36, u37, u39, ul3⟩ | exact ⟨u43, u44, u45, u46, u47, u49, ul4⟩ | exact ⟨u53, u54, u55, u56, u57, u59, ul5⟩ | exact ⟨u63, u64, u65, u66, u67, u69, ul6⟩ | exact ⟨u73, u74, u75, u76, u77, u79, ul7⟩ | exact ⟨u83, u84, u85, u86, u87, u89, ul8⟩ | exact ⟨((Kept.refl [] w7).alloc _).at_ ul7 u73, ((Kept.refl [] w7).alloc _).at_ ul7 u74, ((Kept.refl [] w7).alloc _).at_ ul7 u75, ((Kept.refl [] w7).alloc _).at_ ul7 u76, ((Kept.refl [] w7).alloc _).at_ ul7 u77, ((Kept.refl [] w7).alloc _).at_ ul7 u79, Nat.lt_of_lt_of_le ul7 ((Kept.refl [] w7).alloc _).size⟩ | go_keep) (first
    | (go_at_call 60; ((with_reducible refine (D1.out _ (by (repeat' (first | (with_reducible exact Kept.refl _ _) | (with_reducible assumption) | (with_reducible refine Kept.then_ (by with_reducible assumption) ?_) | (with_reducible refine Kept.thenS (by with_reducible assumption) ?_) | (with_reducible refine Kept.alloc ?_ _) | (with_reducible refine Kept.drew ?_) | (with_reducible refine Kept.drewN ?_ _) | (with_reducible refine Kept.setNew ?_ ?_ _) | ((try simp only [World.size_alloc, World.size_setCell, World.size_drew, size_drewN] at *); (try dsimp only); omega))))).mono ?_); rintro e w2 ⟨rfl, hk2⟩); have KK2 : Kept [] w1 w2 := hk2.then_ (by (repeat' (first | (with_reducible exact Kept.refl _ _) | (with_reducible assumption) | (with_reducible refine Kept.then_ (by with_reducible assumption) ?_) | (with_reducible refine Kept.thenS (by with_reducible assumption) ?_) | (with_reducible refine Kept.alloc ?_ _) | (with_reducible refine Kept.drew ?_) | (with_reducible refine Kept.drewN ?_ _) | (with_reducible refine Kept.setNew ?_ ?_ _) | ((try simp only [World.size_alloc, World.size_setCell, World.size_drew, size_drewN] at *); (try dsimp only); omega)))); have u23 := KK2.at_ ol k3; have u24 := KK2.at_ ol k4; have u25 := KK2.at_ ol k5; have u26 := KK2.at_ ol k6; have u27 := KK2.at_ ol k7; have u29 := KK2.at_ ol k9; have ul2 := Nat.lt_of_lt_of_le ol KK2.size)
    | (go_at_call 60; ((with_reducible refine (D2.out _ (by (repeat' (first | (with_reducible exact Kept.refl _ _) | (with_reducible assumption) | (with_reducible refine Kept.then_ (by with_reducible assumption) ?_) | (with_reducible refine Kept.thenS (by with_reducible assumption) ?_) | (with_reducible refine Kept.alloc ?_ _) | (with_reducible refine Kept.drew ?_) | (with_reducible refine Kept.drewN ?_ _) | (with_reducible refine Kept.setNew ?_ ?_ _) | ((try simp only [World.size_alloc, World.size_setCell, World.size_drew, size_drewN] at *); (try dsimp only); omega))))).mono ?_); rintro e w3 ⟨rfl, hk3⟩); have KK3 : Kept [] w1 w3 := hk3.then_ (by (repeat' (first | (with_reducible exact Kept.refl _ _) | (with_reducible assumption) | (with_reducible refine Kept.then_ (by with_reducible assumption) ?_) | (with_reducible refine Kept.thenS (by with_reducible assumption) ?_) | (with_reducible refine Kept.alloc ?_ _) | (with_reducible refine Kept.drew ?_) | (with_reducible refine Kept.drewN ?_ _) | (with_reducible refine Kept.setNew ?_ ?_ _) | ((try simp only [World.size_alloc, World.size_setCell, World.size_drew, size_drewN] at *); (try dsimp only); omega)))); have u33 := KK3.at_ ol k3; have u34 := KK3.at_ ol k4; have u35 := KK3.at_ ol k5; have u36 := KK3.at_ ol k6; have u37 := KK3.at_ ol k7; have u39 := KK3.at_ ol k9; have ul3 := Nat.lt_of_lt_of_le ol KK3.size)
    | (go_at_call 60; ((with_reducible refine (D3.out _ (by (repeat' (first | (with_reducible exact Kept.refl _ _) | (with_reducible assumption) | (with_reducible refine Kept.then_ (by with_reducible assumption) ?_) | (with_reducible refine Kept.thenS (by with_reducible assumption) ?_) | (with_reducible refine Kept.alloc ?_ _) | (with_reducible refine Kept.drew ?_) | (with_reducible refine Kept.drewN ?_ _) | (with_reducible refine Kept.setNew ?_ ?_ _) | ((try simp only [World.size_alloc, World.size_setCell, World.size_drew, size_drewN] at *); (try dsimp only); omega))))).mono ?_); rintro e w4 ⟨rfl, hk4⟩); have KK4 : Kept [] w1 w4 := hk4.then_ (by (repeat' (first | (with_reducible exact Kept.refl _ _) | (with_reducible assumption) | (with_reducible refine Kept.then_ (by with_reducible assumption) ?_) | (with_reducible refine Kept.thenS (by with_reducible assumption) ?_) | (with_reducible refine Kept.alloc ?_ _) | (with_reducible refine Kept.drew ?_) | (with_reducible refine Kept.drewN ?_ _) | (with_reducible refine Kept.setNew ?_ ?_ _) | ((try simp only [World.size_alloc, World.size_setCell, World.size_drew, size_drewN] at *); (try dsimp only); omega)))); have u43 := KK4.at_ ol k3; have u44 := KK4.at_ ol k4; have u45 := KK4.at_ ol k5; have u46 := KK4.at_ ol k6; have u47 := KK4.at_ ol k7; have u49 := KK4.at_ ol k9; have ul4 := Nat.lt_of_lt_of_le ol KK4.size)
    | (go_at_call 15; ((with_reducible refine (DU.out _ (by have := K1.out; (repeat' (first | (with_reducible exact Kept.refl _ _) | (with_reducible assumption) | (with_reducible refine Kept.then_ (by with_reducible assumption) ?_) | (with_reducible refine Kept.thenS (by with_reducible assumption) ?_) | (with_reducible refine Kept.alloc ?_ _) | (with_reducible refine Kept.drew ?_) | (with_reducible refine Kept.drewN ?_ _) | (with_reducible refine Kept.setNew ?_ ?_ _) | ((try simp only [World.size_alloc, World.size_setCell, World.size_drew, size_drewN] at *); (try dsimp only); omega))))).mono ?_); rintro e w5 ⟨rfl, hk5⟩); have KK5 : Kept [] w1 w5 := hk5.then_ (by (repeat' (first | (with_reducible exact Kept.refl _ _) | (with_reducible assumption) | (with_reducible refine Kept.then_ (by with_reducible assumption) ?_) | (with_reducible refine Kept.thenS (by with_reducible assumption) ?_) | (with_reducible refine Kept.alloc ?_ _) | (with_reducible refine Kept.drew ?_) | (with_reducible refine Kept.drewN ?_ _) | (with_reducible refine Kept.setNew ?_ ?_ _) | ((try simp only [World.size_alloc, World.size_setCell, World.size_drew, size_drewN] at *); (try dsimp only); omega)))); have u53 := KK5.at_ ol k3; have u54 := KK5.at_ ol k4; have u55 := KK5.at_ ol k5; have u56 := KK5.at_ ol k6; have u57 := KK5.at_ ol k7; have u59 := KK5.at_ ol k9; have ul5 := Nat.lt_of_lt_of_le ol KK5.size)
    | (go_at_call 16; ((with_reducible refine (DM.out _ (by have := K1.out; (repeat' (first | (with_reducible exact Kept.refl _ _) | (with_reducible assumption) | (with_reducible refine Kept.then_ (by with_reducible assumption) ?_) | (with_reducible refine Kept.thenS (by with_reducible assumption) ?_) | (with_reducible refine Kept.alloc ?_ _) | (with_reducible refine Kept.drew ?_) | (with_reducible refine Kept.drewN ?_ _) | (with_reducible refine Kept.setNew ?_ ?_ _) | ((try simp only [World.size_alloc, World.size_setCell, World.size_drew, size_drewN] at *); (try dsimp only); omega))))).mono ?_); rintro e w6 ⟨rfl, hk6⟩); have KK6 : Kept [] w1 w6 := hk6.then_ (by (repeat' (first | (with_reducible exact Kept.refl _ _) | (with_reducible assumption) | (with_reducible refine Kept.then_ (by with_reducible assumption) ?_) | (with_reducible refine Kept.thenS (by with_reducible assumption) ?_) | (with_reducible refine Kept.alloc ?_ _) | (with_reducible refine Kept.drew ?_) | (with_reducible refine Kept.drewN ?_ _) | (with_reducible refine Kept.setNew ?_ ?_ _) | ((try simp only [World.size_alloc, World.size_setCell, World.size_drew, size_drewN] at *); (try dsimp only); omega)))); have u63 := KK6.at_ ol k3; have u64 := KK6.at_ ol k4; have u65 := KK6.at_ ol k5; have u66 := KK6.at_ ol k6; have u67 := KK6.at_ ol k7; have u69 := KK6.at_ ol k9; have ul6 := Nat.lt_of_lt_of_le ol KK6.size)
    | (go_at_call 18; ((with_reducible refine (DC.out _ (by have := K1.out; (repeat' (first | (with_reducible exact Kept.refl _ _) | (with_reducible assumption) | (with_reducible refine Kept.then_ (by with_reducible assumption) ?_) | (with_reducible refine Kept.thenS (by with_reducible assumption) ?_) | (with_reducible refine Kept.alloc ?_ _) | (with_reducible refine Kept.drew ?_) | (with_reducible refine Kept.drewN ?_ _) | (with_reducible refine Kept.setNew ?_ ?_ _) | ((try simp only [World.size_alloc, World.size_setCell, World.size_drew, size_drewN] at *); (try dsimp only); omega))))).mono ?_); rintro e w7 ⟨rfl, hk7⟩); have KK7 : Kept [] w1 w7 := hk7.then_ (by (repeat' (first | (with_reducible exact Kept.refl _ _) | (with_reducible assumption) | (with_reducible refine Kept.then_ (by with_reducible assumption) ?_) | (with_reducible refine Kept.thenS (by with_reducible assumption) ?_) | (with_reducible refine Kept.alloc ?_ _) | (with_reducible refine Kept.drew ?_) | (with_reducible refine Kept.drewN ?_ _) | (with_reducible refine Kept.setNew ?_ ?_ _) | ((try simp only [World.size_alloc, World.size_setCell, World.size_drew, size_drewN] at *); (try dsimp only); omega)))); have u73 := KK7.at_ ol k3; have u74 := KK7.at_ ol k4; have u75 := KK7.at_ ol k5; have u76 := KK7.at_ ol k6; have u77 := KK7.at_ ol k7; have u79 := KK7.at_ ol k9; have ul7 := Nat.lt_of_lt_of_le ol KK7.size)
    | (go_at_call 61; ((with_reducible refine (DA.out _ _ _ (by have := K1.out; (repeat' (first | (with_reducible exact Kept.refl _ _) | (with_reducible assumption) | (with_reducible refine Kept.then_ (by with_reducible assumption) ?_) | (with_reducible refine Kept.thenS (by with_reducible assumption) ?_) | (with_reducible refine Kept.alloc ?_ _) | (with_reducible refine Kept.drew ?_) | (with_reducible refine Kept.drewN ?_ _) | (with_reducible refine Kept.setNew ?_ ?_ _) | ((try simp only [World.size_alloc, World.size_setCell, World.size_drew, size_drewN] at *); (try dsimp only); omega)))) (by first | exact Blk.new _ _ _ | exact Blk.drew (Blk.new _ _ _) | exact Blk.new' _ _ _ (by simp))).mono ?_); rintro e w8 ⟨rfl, hk8⟩); have KK8 : Kept [] w1 w8 := hk8.then_ (by (repeat' (first | (with_reducible exact Kept.refl _ _) | (with_reducible assumption) | (with_reducible refine Kept.then_ (by with_reducible assumption) ?_) | (with_reducible refine Kept.thenS (by with_reducible assumption) ?_) | (with_reducible refine Kept.alloc ?_ _) | (with_reducible refine Kept.drew ?_) | (with_reducible refine Kept.drewN ?_ _) | (with_reducible refine Kept.setNew ?_ ?_ _) | ((try simp only [World.size_alloc, World.size_setCell, World.size_drew, size_drewN] at *); (try dsimp only); omega)))); have u83 := KK8.at_ ol k3; have u84 := KK8.at_ ol k4; have u85 := KK8.at_ ol k5; have u86 := KK8.at_ ol k6; have u87 := KK8.at_ ol k7; have u89 := KK8.at_ ol k9; have ul8 := Nat.lt_of_lt_of_le ol KK8.size))
  have KF := Lib.hid (KK8.then_ K1.out)
  go_wp2_with fail
  go_ret
  exact ⟨rfl, KF.out⟩
/-- One is freed, in both. -/
theorem given_free {W w : World} {p mp g o B : Nat} {X : List Nat} {a : PgA} (h : PgX W w p mp g a) (hr : RefX X B w o a) (hpo : p < o ∧ mp < o ∧ g < o) (x : Nat) (hx : x ∈ a.us) :
    Calls Try.prog 33 #[.pointer (some ⟨p, 0, none⟩), .pointer (some ⟨o, 0, none⟩), .int .i64 1, .int .u64 (x : Int)] w fun e w' => e = .returned (.bool true) ∧ PgX W w' p mp g (a.free1 x) ∧ RefX X B w' o (a.free1 x) ∧ Kept [p, g, o] w w' := by
  obtain ⟨len, hlen, hok⟩ := h.ok
  have hsh := hok.short
  have hoB := hr.lt
  have HX := Lib.hid hx
  have HR := Lib.hid hr
  have DF := Lib.hid (x_free1 (h.keep0 ((Kept.refl [] w).alloc (.cells #[.int .u64 (x : Int)] 26))) x w.heap.size 1 hx (Blk.new w _ _))
  have DB := Lib.hid (fun w' (hr : RefX X B w' o a) => r_back hr x hx (hok.giv_us hlen (by simp [hx])) (by omega) (by omega))
  clear h hr hx hok hsh hlen
  go_enter Try.func33, Try.ntmps33
  go_wp2_with fail
  (with_reducible refine DF.out.mono ?_)
  rintro e w1 ⟨rfl, hP1, hk1⟩
  have P1 := Lib.hid hP1
  have K1 : Hid (Kept [p, g] w w1) := Lib.hid (((Kept.refl [p, g] w).alloc (.cells #[.int .u64 (x : Int)] 26)).trans hk1 (fun y hy _ => hy))
  have DB1 := Lib.hid (DB.out _ (HR.out.keepS K1.out (fun s hs => by simp at hs; omega) (by simp; omega)))
  clear hP1 hk1
  go_wp2_with fail
  (with_reducible refine DB1.out.mono ?_)
  rintro e w2 ⟨rfl, hR2, hk2⟩
  have P2 := Lib.hid (PgX.keepN P1.out hk2 (B := o) hpo (fun s hs => by simp at hs; omega) (by have h1 := P1.out.kept.size; have h2 := P1.out.2.2.1; omega))
  have R2 := Lib.hid hR2
  have K2 : Hid (Kept [p, g, o] w w2) := Lib.hid ((K1.out.mono (T := [p, g, o]) (fun y hy _ => by simp at hy; simp; omega)).trans hk2 (fun y hy _ => by simp at hy; simp [hy]))
  clear hR2 hk2
  go_wp2_with fail
  go_ret
  exact ⟨rfl, P2.out, R2.out, K2.out⟩
/-- One is posted, in both. -/
theorem given_post {W w : World} {p mp g o B : Nat} {X : List Nat} {a : PgA} (h : PgX W w p mp g a) (hr : RefX X B w o a) (hpo : p < o ∧ mp < o ∧ g < o) (x : Nat) (hx : x ∈ a.us) (ht : a.tag ≤ 1000000) (ha : a.ask ≤ 1000000) :
    Calls Try.prog 33 #[.pointer (some ⟨p, 0, none⟩), .pointer (some ⟨o, 0, none⟩), .int .i64 2, .int .u64 (x : Int)] w fun e w' => e = .returned (.bool true) ∧ PgX W w' p mp g (a.late.post x) ∧ RefX X B w' o (a.late.post x) ∧ Kept [p, g, o] w w' := by
  obtain ⟨len, hlen, hok⟩ := h.ok
  have hsh := hok.short
  have hoB := hr.lt
  obtain ⟨v5, v6, v7, hP, hav⟩ := hr
  have AV := Lib.hid hav
  have HP := Lib.hid hP
  clear hav
  have H := Lib.hid h
  have DC := Lib.hid (x_cell h)
  have DL := Lib.hid (fun w hd (h : PgH W w p mp g a hd) => h.look (show a.ask ≤ 1000000000 by omega))
  have DP : Hid (∀ w hd, PgH W w p mp g a.late hd → Calls Try.prog 20 #[.pointer (some ⟨p, 0, none⟩), .int .u64 (x : Int), .int .u64 (hd : Int), .int .u64 (a.tag : Int)] w fun e w' => e = .returned (.tuple #[.bool true, .int .i64 0]) ∧ PgH W w' p mp g (a.late.post x) x ∧ Kept [p, g] w w') := Lib.hid (fun w hd h => h.post x hx (show a.tag ≤ 1000000000 by omega) (show a.ask + 1 ≤ 1000000000 by omega))
  have DR : Hid (∀ w', RefX X B w' o a.late → Calls Try.prog 58 #[.pointer (some ⟨o, 0, none⟩), .int .u64 (x : Int), .int .u64 (a.tag : Int)] w' fun e w'' => e = .returned (.bool true) ∧ RefX X B w'' o (a.late.post x) ∧ Kept [o] w' w'') := Lib.hid (fun w' hr => r_post hr x hx (show a.po.length ≤ 1024 by omega) (show a.ask + 1 ≤ 1000000000 by omega) (show a.tag ≤ 1000000000 by omega))
  have hw : IntKind.i64.wrap ((a.ask : Int) + 1) = (a.ask : Int) + 1 := IntWalk.i64_in _ (by omega)
  clear h hP hx hok hsh hlen
  go_enter Try.func33, Try.ntmps33
  go_wp2_with fail
  (with_reducible refine DC.out.mono ?_)
  rintro e w1 ⟨rfl, hk1⟩
  obtain ⟨hd, hPh⟩ := (H.out.keep0 hk1).h
  have P1 := Lib.hid hPh
  have K1 := Lib.hid hk1
  clear hPh hk1
  go_wp2_with fail
  (with_reducible refine (DL.out _ _ P1.out).mono ?_)
  rintro e w2 ⟨rfl, hP2, hk2⟩
  have P2 := Lib.hid hP2
  have K2 : Hid (Kept [p, g] w w2) := Lib.hid ((K1.out.mono (T := [p, g]) (fun y hy _ => by cases hy)).trans hk2 (fun y hy _ => hy))
  have R2 := Lib.hid (HP.out.keepS K2.out (fun s hs => by simp at hs; omega) (by simp; omega))
  have k9 := R2.out.c9
  have f9 := R2.out.blk.frozen 9
  have ol := R2.out.blk.lt
  clear hP2 hk2
  obtain ⟨wS, hwS⟩ : ∃ wS, w2.setCell ⟨o, 9, none⟩ (.int .i64 ((a.ask : Int) + 1)) = wS := ⟨_, rfl⟩
  have KS : Hid (Kept [o] w2 wS) := Lib.hid (by rw [← hwS]; exact (Kept.refl [o] w2).setIn (by simp) _)
  have RS : Hid (RefX X B wS o a.late) := Lib.hid ⟨_, _, _, R2.out.turn (by rw [← hwS]; exact (R2.out.blk.set_ 9 _).cast (rlate_cells a _ _ _)) KS.out R2.out.fr R2.out.lo R2.out.po, AV.out.mono (Nat.le_trans K2.out.size KS.out.size)⟩
  have PS := Lib.hid (P2.out.keepN KS.out (B := o) hpo (fun s hs => by simp at hs; omega) (by have h2 := P2.out.2.2.1; omega))
  go_wp2_with fail
  (with_reducible refine (DP.out _ _ PS.out).mono ?_)
  rintro e w3 ⟨rfl, hP3, hk3⟩
  have P3 := Lib.hid hP3.x
  have DR3 := Lib.hid (DR.out _ (RS.out.keepS hk3 (fun s hs => by simp at hs; omega) (by simp; omega)))
  have K3 : Hid (Kept [p, g, o] w w3) := Lib.hid (((K2.out.mono (T := [p, g, o]) (fun y hy _ => by simp at hy; simp; omega)).trans KS.out (fun y hy _ => by simp at hy; simp [hy])).trans hk3 (fun y hy _ => by simp at hy; simp; omega))
  clear hP3 hk3
  go_wp2_with fail
  (with_reducible refine DR3.out.mono ?_)
  rintro e w4 ⟨rfl, hR4, hk4⟩
  have P4 := Lib.hid (PgX.keepN P3.out hk4 (B := o) hpo (fun s hs => by simp at hs; omega) (by have h2 := P3.out.2.2.1; omega))
  have R4 := Lib.hid hR4
  have K4 : Hid (Kept [p, g, o] w w4) := Lib.hid (K3.out.trans hk4 (fun y hy _ => by simp at hy; simp [hy]))
  clear hR4 hk4
  go_wp2_with fail
  go_ret
  exact ⟨rfl, P4.out, R4.out, K4.out⟩
/-- One is posted too late, in both. -/
theorem given_late {W w : World} {p mp g o B : Nat} {X : List Nat} {a : PgA} (h : PgX W w p mp g a) (hr : RefX X B w o a) (hpo : p < o ∧ mp < o ∧ g < o) (x : Nat) (hx : x ∈ a.us) (ht : a.tag ≤ 1000000) (ha : a.ask ≤ 1000000) :
    Calls Try.prog 33 #[.pointer (some ⟨p, 0, none⟩), .pointer (some ⟨o, 0, none⟩), .int .i64 3, .int .u64 (x : Int)] w fun e w' => e = .returned (.bool true) ∧ PgX W w' p mp g a.late.late ∧ RefX X B w' o a.late.late ∧ Kept [p, g, o] w w' := by
  obtain ⟨len, hlen, hok⟩ := h.ok
  have hsh := hok.short
  have hoB := hr.lt
  obtain ⟨v5, v6, v7, hP, hav⟩ := hr
  have AV := Lib.hid hav
  have HP := Lib.hid hP
  clear hav
  have H := Lib.hid h
  have DC := Lib.hid (x_cell h)
  have DL := Lib.hid (fun w hd (h : PgH W w p mp g a hd) => h.look (show a.ask ≤ 1000000000 by omega))
  have DP : Hid (∀ w hd, PgH W w p mp g a.late hd → Calls Try.prog 20 #[.pointer (some ⟨p, 0, none⟩), .int .u64 (x : Int), .int .u64 (hd : Int), .int .u64 ((a.tag : Int) + 1)] w fun e w' => e = .returned (.tuple #[.bool false, .int .i64 0]) ∧ PgH W w' p mp g a.late.late hd ∧ Kept [p, g] w w') := Lib.hid (fun w hd h => by
    have := h.late x (a.tag + 1) hd hx (by have := h.hd64; omega) (show a.tag ≠ a.tag + 1 by omega) (show a.ask + 1 ≤ 1000000000 by omega)
    simpa using this)
  have DR : Hid (∀ w', RefX X B w' o a.late → Calls Try.prog 58 #[.pointer (some ⟨o, 0, none⟩), .int .u64 (x : Int), .int .u64 ((a.tag : Int) + 1)] w' fun e w'' => e = .returned (.bool false) ∧ RefX X B w'' o a.late.late ∧ Kept [o] w' w'') := Lib.hid (fun w' hr => by
    have := r_late hr (x : Int) (a.tag + 1) (show a.tag + 1 ≠ a.tag by omega) (show a.ask + 1 ≤ 1000000000 by omega)
    simpa using this)
  have hwt : IntKind.u64.wrap ((a.tag : Int) + 1) = (a.tag : Int) + 1 := by rw [IntKind.wrap_u64]; omega
  have hw : IntKind.i64.wrap ((a.ask : Int) + 1) = (a.ask : Int) + 1 := IntWalk.i64_in _ (by omega)
  clear h hP hx hok hsh hlen
  go_enter Try.func33, Try.ntmps33
  go_wp2_with fail
  (with_reducible refine DC.out.mono ?_)
  rintro e w1 ⟨rfl, hk1⟩
  obtain ⟨hd, hPh⟩ := (H.out.keep0 hk1).h
  have P1 := Lib.hid hPh
  have K1 := Lib.hid hk1
  clear hPh hk1
  go_wp2_with fail
  (with_reducible refine (DL.out _ _ P1.out).mono ?_)
  rintro e w2 ⟨rfl, hP2, hk2⟩
  have P2 := Lib.hid hP2
  have K2 : Hid (Kept [p, g] w w2) := Lib.hid ((K1.out.mono (T := [p, g]) (fun y hy _ => by cases hy)).trans hk2 (fun y hy _ => hy))
  have R2 := Lib.hid (HP.out.keepS K2.out (fun s hs => by simp at hs; omega) (by simp; omega))
  have k9 := R2.out.c9
  have f9 := R2.out.blk.frozen 9
  have ol := R2.out.blk.lt
  clear hP2 hk2
  obtain ⟨wS, hwS⟩ : ∃ wS, w2.setCell ⟨o, 9, none⟩ (.int .i64 ((a.ask : Int) + 1)) = wS := ⟨_, rfl⟩
  have KS : Hid (Kept [o] w2 wS) := Lib.hid (by rw [← hwS]; exact (Kept.refl [o] w2).setIn (by simp) _)
  have RS : Hid (RefX X B wS o a.late) := Lib.hid ⟨_, _, _, R2.out.turn (by rw [← hwS]; exact (R2.out.blk.set_ 9 _).cast (rlate_cells a _ _ _)) KS.out R2.out.fr R2.out.lo R2.out.po, AV.out.mono (Nat.le_trans K2.out.size KS.out.size)⟩
  have PS := Lib.hid (P2.out.keepN KS.out (B := o) hpo (fun s hs => by simp at hs; omega) (by have h2 := P2.out.2.2.1; omega))
  go_wp2_with fail
  (with_reducible refine (DP.out _ _ PS.out).mono ?_)
  rintro e w3 ⟨rfl, hP3, hk3⟩
  have P3 := Lib.hid hP3.x
  have DR3 := Lib.hid (DR.out _ (RS.out.keepS hk3 (fun s hs => by simp at hs; omega) (by simp; omega)))
  have K3 : Hid (Kept [p, g, o] w w3) := Lib.hid (((K2.out.mono (T := [p, g, o]) (fun y hy _ => by simp at hy; simp; omega)).trans KS.out (fun y hy _ => by simp at hy; simp [hy])).trans hk3 (fun y hy _ => by simp at hy; simp; omega))
  clear hP3 hk3
  go_wp2_with fail
  (with_reducible refine DR3.out.mono ?_)
  rintro e w4 ⟨rfl, hR4, hk4⟩
  have P4 := Lib.hid (PgX.keepN P3.out hk4 (B := o) hpo (fun s hs => by simp at hs; omega) (by have h2 := P3.out.2.2.1; omega))
  have R4 := Lib.hid hR4
  have K4 : Hid (Kept [p, g, o] w w4) := Lib.hid (K3.out.trans hk4 (fun y hy _ => by simp at hy; simp [hy]))
  clear hR4 hk4
  go_wp2_with fail
  go_ret
  exact ⟨rfl, P4.out, R4.out, K4.out⟩
set_option maxRecDepth 100000 in
set_option maxHeartbeats 4000000 in
theorem x_freebad {W w : World} {p mp g : Nat} {a : PgA} (h : PgX W w p mp g a) (x r : Int) (y c : Nat) (hx : 0 ≤ x) (hr : a.giv x = r) (hr0 : r ≠ 0) (hy : w.cell? ⟨y, 0, none⟩ = some (.int .u64 x)) :
    Calls Try.prog 13 #[.pointer (some ⟨p, 0, none⟩), .slice (some ⟨y, 0, none⟩) 1 c] w fun e w' => e = .returned (.int .i64 r) ∧ Kept [] w w' := by
  obtain ⟨zs, h1⟩ := h.1
  have DG := Lib.hid (given_any w p mp g a zs h1 x hx r hr)
  have pl := h1.lt
  have q0 : (r != 0) = true := by simpa using hr0
  have yl : y < w.heap.size := cell_lt hy
  clear h h1 hr
  go_enter Try.func13, Try.ntmps13
  go_wp2_with fail
  go_loopw [13] (fun i wr => i = .int .i64 0 ∧ wr = w) (fun i _ => 1)
  case atStart => exact ⟨rfl, rfl⟩
  case round =>
    obtain ⟨rfl, rfl⟩ := hrel
    go_wp2_with fail
    (with_reducible refine DG.out.mono ?_)
    rintro e w1 ⟨rfl, hb1⟩
    go_wp2_with fail
    go_ret
    exact ⟨rfl, hb1⟩
theorem x_postbad {W w : World} {p mp g : Nat} {a : PgA} (h : PgX W w p mp g a) (x k t r : Int) (hx : 0 ≤ x) (hr : a.giv x = r) (hr0 : r ≠ 0) :
    Calls Try.prog 20 #[.pointer (some ⟨p, 0, none⟩), .int .u64 x, .int .u64 k, .int .u64 t] w fun e w' => e = .returned (.tuple #[.bool false, .int .i64 r]) ∧ Kept [] w w' := by
  obtain ⟨zs, h1⟩ := h.1
  exact post_bad w p mp g a zs h1 x k t r hx hr hr0
/-- What may be given back is in a row, or in hands. -/
theorem PgOk.giv_mem {a : PgA} {len : Nat} (h : PgOk a len) (hl : len ≤ 1048576) {x : Nat} (hg : a.giv (x : Int) = 0) : x ∈ a.fr ++ (a.lo ++ (a.po ++ a.us)) := by
  have hm := h.may hl
  unfold PgA.giv at hg
  have h0 : idxE a.F a.Z a.N (x : Int) = 0 ∧ idxV a.F a.Z a.N (x : Int) < (a.made : Int) := by
    by_cases h1 : idxE a.F a.Z a.N (x : Int) = 0
    · refine ⟨h1, ?_⟩
      by_cases h2 : (a.made : Int) ≤ idxV a.F a.Z a.N (x : Int)
      · rw [if_pos ⟨h1, h2⟩] at hg
        omega
      · omega
    · rw [if_neg (fun h => h1 h.1)] at hg
      exact absurd hg h1
  obtain ⟨h1, h2⟩ := h0
  have hZ := h.run.2.1
  have h3 : (a.F : Int) ≤ x ∧ ((x : Int) - a.F) % a.Z = 0 := by
    have := h1
    unfold idxE at this
    rw [if_pos hm] at this
    by_cases h4 : (x : Int) < a.F ∨ (a.F : Int) + a.N * a.Z ≤ x
    · rw [if_pos h4] at this; omega
    · rw [if_neg h4] at this
      refine ⟨by omega, ?_⟩
      by_cases h5 : 0 < ((x : Int) - a.F) % a.Z
      · rw [if_pos h5] at this; omega
      · have := Int.emod_nonneg ((x : Int) - a.F) (show (a.Z : Int) ≠ 0 by omega)
        omega
  have h6 : idxV a.F a.Z a.N (x : Int) = ((x : Int) - a.F) / a.Z := by unfold idxV; rw [if_pos h1]
  rw [h6] at h2
  obtain ⟨i, hi⟩ : ∃ i : Nat, ((x : Int) - a.F) / a.Z = i := ⟨(((x : Int) - a.F) / a.Z).toNat, by
    have := Int.ediv_nonneg (show 0 ≤ (x : Int) - a.F by omega) (show (0 : Int) ≤ a.Z by omega)
    omega⟩
  have hx : x = a.bl i := by
    have e := Int.mul_ediv_add_emod ((x : Int) - a.F) a.Z
    rw [h3.2, hi] at e
    unfold PgA.bl
    have : ((i * a.Z : Nat) : Int) = (a.Z : Int) * (i : Int) := by simp [Int.mul_comm]
    omega
  rw [hx]
  refine h.all.mem_iff.2 (List.mem_map.2 ⟨i, List.mem_range.2 (by omega), rfl⟩)
theorem toV_take (l : List Nat) (k : Nat) : (toV l).take k = toV (l.take k) := List.map_take.symm
theorem toV_drop (l : List Nat) (k : Nat) : (toV l).drop k = toV (l.drop k) := List.map_drop.symm
/-- The pieces of a slice whose start moves. -/
theorem TolN.cuts {B : Nat} {w : World} {A : Option Addr} {n c : Nat} {l : List Nat} (h : TolN B w (.slice A n c) l) (hn : n = l.length) (k : Nat) (hk : k ≤ l.length) :
    (TolN B w (.slice A k c) (l.take k) ∧ ∀ w, (Instr.slice 31 (.slice A n c) none (some (.int .i64 (k : Int))) none).run Try.prog w = .ok (.slice A k c) w) ∧
    ∃ (A2 : Option Addr) (c2 : Nat), TolN B w (.slice A2 (n - k) c2) (l.drop k) ∧ ∀ w, (Instr.slice 31 (.slice A n c) (some (.int .i64 (k : Int))) none none).run Try.prog w = .ok (.slice A2 (n - k) c2) w := by
  have hc : ∀ w, (sizeOf 26).run Try.prog w = .ok 1 w := fun w => by simp [go_sem]
  subst hn
  rcases h with ⟨h1, h2⟩ | ⟨g, off, c', cur, h1, hb, hg, hn, hm, hs, ht⟩
  · injection h1 with h1 h3 h4
    have hl : l = [] := by simpa [toV] using h2
    subst h1 h4 hl
    obtain rfl : k = 0 := by simpa using hk
    exact ⟨⟨.inl ⟨rfl, rfl⟩, fun w => by simp [run_slice_l, Try.underlying31, go_sem, hc]⟩, none, 0, .inl ⟨rfl, rfl⟩, fun w => by simp [run_slice_l, Try.underlying31, go_sem, hc]⟩
  · injection h1 with h1 h3 h4
    subst h1 h4
    rw [toV_len] at hn ht
    refine ⟨⟨.inr ⟨g, off, c, cur, by rw [toV_len]; simp; omega, hb, hg, by rw [toV_len]; simp; omega, hm, hs, fun i hi => ?_⟩, fun w => ?_⟩, ?_⟩
    · rw [toV_len] at hi
      simp only [List.length_take] at hi
      rw [ht i (by omega), ← toV_take, List.getElem?_take_of_lt (by omega)]
    · simp [run_slice_l, Try.underlying31, go_sem, hc]
      omega
    · refine ⟨if c = k then some ⟨g, off, none⟩ else some ⟨g, off + k, none⟩, c - k, ?_, fun w => ?_⟩
      · by_cases hck : c = k
        · rw [if_pos hck]
          have hd : l.drop k = [] := List.drop_eq_nil_of_le (by omega)
          rw [hd]
          exact .inr ⟨g, off, c - k, cur, by simp [toV]; omega, hb, hg, by simp [toV], by omega, by omega, fun i hi => by simp [toV] at hi⟩
        · rw [if_neg hck]
          refine .inr ⟨g, off + k, c - k, cur, by rw [toV_len]; simp, hb, hg, by rw [toV_len]; simp; omega, by omega, by omega, fun i hi => ?_⟩
          rw [toV_len] at hi
          simp only [List.length_drop] at hi
          rw [show off + k + i = off + (k + i) by omega, ht (k + i) (by omega), ← toV_drop, List.getElem?_drop]
      · by_cases hck : c = k
        · subst hck
          simp [run_slice_l, Try.underlying31, go_sem, hc]
          omega
        · simp [run_slice_l, Try.underlying31, go_sem, hck, hc]
          omega
theorem RefX.other {X X' : List Nat} {B : Nat} {w w' : World} {o : Nat} {a : PgA} {S : List Nat} (h : RefX X B w o a) (hk : Kept S w w') (hS : ∀ s, s ∈ S → s < B ∨ s ∈ X) (ho : o ∉ S) (hX : ∀ s, s ∈ X' → s < w'.heap.size ∧ (s ∈ X ∨ w.heap.size ≤ s)) : RefX X' B w' o a := by
  obtain ⟨v5, v6, v7, h, hav⟩ := h
  have hd : ∀ v l, TolN B w v l → (∀ s, s ∈ X → s ∉ own v) → TolN B w' v l := fun v l ht hx => ht.keepS hk (fun s hs => by
    rcases hS s hs with h1 | h1
    · exact .inl h1
    · exact .inr (hx s h1))
  refine ⟨v5, v6, v7, ⟨h.blk.keep hk ho, hd _ _ h.fr (fun s hs => (hav s hs).2.1), hd _ _ h.lo (fun s hs => (hav s hs).2.2.1), hd _ _ h.po (fun s hs => (hav s hs).2.2.2), h.oB, Nat.le_trans h.Bw hk.size⟩, fun s hs => ?_⟩
  obtain ⟨h1, h2⟩ := hX s hs
  rcases h2 with h2 | h2
  · exact ⟨h1, (hav s h2).2⟩
  · exact ⟨h1, fun hh => by have := (h.fr.lt s hh).2; omega, fun hh => by have := (h.lo.lt s hh).2; omega, fun hh => by have := (h.po.lt s hh).2; omega⟩
/-- Alloc of the document's, one way or the other. -/
theorem r_alloc {X : List Nat} {B : Nat} {w : World} {o : Nat} {a : PgA} (h : RefX X B w o a) {len : Nat} (hok : PgOk a len) (hl : len ≤ 1048576) :
    Calls Try.prog 34 #[.pointer (some ⟨o, 0, none⟩)] w (AllocRR X B w o a) := by
  have hsh := hok.short
  rcases hf : a.fr with _ | ⟨x, r⟩
  · rcases hlo : a.lo with _ | ⟨x, r⟩
    · exact r_allocC h hf hlo (hok.may hl) hok.made (by omega)
    · have er : a.ready = a.swap := by
        unfold PgA.ready
        rw [if_neg (by rw [(swap_fr a hf).1, hlo]; simp)]
      exact (r_allocB h x r hf hlo (by omega) (by omega)).mono fun e w' ⟨he, hX, hk⟩ => ⟨.inr ⟨x, r, by rw [er, (swap_fr a hf).1]; exact hlo, he, hX⟩, hk⟩
  · exact (r_allocA h x r hf (by omega) (by omega)).mono fun e w' ⟨he, hX, hk⟩ => ⟨.inr ⟨x, r, by rw [(swap_ne a (by rw [hf]; simp)).2]; exact hf, he, hX⟩, hk⟩
theorem r_take {X : List Nat} {B : Nat} {w : World} {o : Nat} {a : PgA} (h : RefX X B w o a) {len : Nat} (hok : PgOk a len) (hl : len ≤ 1048576) (x : Nat) (r : List Nat) (hr : a.ready.fr = x :: r) :
    Calls Try.prog 34 #[.pointer (some ⟨o, 0, none⟩)] w fun e w' => e = .returned (.tuple #[.int .u64 (x : Int), .int .i64 0]) ∧ RefX X B w' o (a.ready.taken x r) ∧ Kept [o] w w' :=
  (r_alloc h hok hl).mono fun e w' ⟨h1, hk⟩ => by
    rcases h1 with ⟨h2, _⟩ | ⟨x', r', h2, h3, h4⟩
    · rw [hr] at h2; cases h2
    · rw [hr] at h2
      injection h2 with h5 h6
      subst h5 h6
      exact ⟨h3, h4, hk⟩
theorem r_full {X : List Nat} {B : Nat} {w : World} {o : Nat} {a : PgA} (h : RefX X B w o a) {len : Nat} (hok : PgOk a len) (hl : len ≤ 1048576) (hr : a.ready.fr = []) :
    Calls Try.prog 34 #[.pointer (some ⟨o, 0, none⟩)] w fun e w' => e = .returned (.tuple #[.int .u64 0, .int .i64 4]) ∧ RefX X B w' o a.ready ∧ Kept [o] w w' :=
  (r_alloc h hok hl).mono fun e w' ⟨h1, hk⟩ => by
    rcases h1 with ⟨_, h3, h4⟩ | ⟨x', r', h2, _⟩
    · exact ⟨h3, h4, hk⟩
    · rw [hr] at h2; cases h2
/-- append of a list that is told, at a step of a region that draws its order; the length is a letter. -/
theorem step_app_tolL {w : World} {ops : Array Oper} {o : Oper} {a : Act} {K : Act → World → Prop} {Q : Exit → Act → World → Prop} {Y : Prop} (hgd : o.guard = none) (s x : Operand)
    (ho : o.op = .call { callee := .builtin .append, args := #[s, x], argTypes := #[31, 31] })
    (B : Nat) (v : Value) (l m : List Nat) (hs : a.eval s = v) (hown : TolN B w v l) (C : Nat) (A : Option Addr) (n c : Nat) (hx : a.eval x = .slice A n c) (hn : n = m.length) (hm : TolN C w (.slice A n c) m)
    (hB : B ≤ w.heap.size) (hl : l.length + m.length ≤ 100000)
    (h : ∀ A' n' c' w', TolN B w' (.slice A' n' c') (l ++ m) → Kept (own v) w w' → (∀ g, g ∈ own (.slice A' n' c') → g ∈ own v ∨ w.heap.size ≤ g) → K (a.put o.dst (.slice A' n' c')) w') : if Region.wanted o (yielded ops a.tmps) = true then Oper.wp Try.prog o a w K Q else Y :=
  step_app_tolN hgd s x ho B v l m hs hown C A n c hx hn hm hB hl (fun A' c' w' h1 h2 h3 => h A' _ c' w' h1 h2 h3)
end Go.Proofs.Ytgiokigokedakaa
