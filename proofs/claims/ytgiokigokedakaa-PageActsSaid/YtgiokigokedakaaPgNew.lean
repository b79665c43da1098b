/- New, Used, Made, Run, Cell of a page; Alloc as a caller sees it. -/
import Derived.Test.YtgiokigokedakaaPgFree
set_option linter.unusedVariables false
set_option linter.unusedSimpArgs false
namespace Go.Proofs.Ytgiokigokedakaa
open Go.RowKit
def PgA.new (F Z N : Nat) : PgA := ⟨F, Z, N, 0, [], [], [], [], 0, 0⟩
theorem PgOk.new {F Z N len : Nat} (h : 1 ≤ F ∧ 16 ≤ Z ∧ 1 ≤ N ∧ N ≤ 1024 ∧ F + N * Z ≤ len) : PgOk (PgA.new F Z N) len := ⟨h, Nat.zero_le _, List.Perm.refl _⟩
theorem PgM.keep0 {w w' : World} {p mp g : Nat} {a : PgA} {zs : List Int} (h : PgM w p mp g a zs) (hk : Kept [] w w') : PgM w' p mp g a zs := by
  obtain ⟨⟨fh, lh, hd, hR⟩, hok⟩ := h
  exact ⟨⟨fh, lh, hd, hR.keep0 hk⟩, hok⟩
theorem PgM.lt {w : World} {p mp g : Nat} {a : PgA} {zs : List Int} (h : PgM w p mp g a zs) : p < w.heap.size ∧ mp < w.heap.size ∧ g < w.heap.size := by
  obtain ⟨⟨fh, lh, hd, hR⟩, hok⟩ := h
  exact ⟨hR.blk.lt, hR.mem.1.lt, hR.mem.2.1.lt⟩
theorem used_any (w : World) (p mp g : Nat) (a : PgA) (zs : List Int) (h : PgM w p mp g a zs) : Calls Try.prog 15 #[.pointer (some ⟨p, 0, none⟩)] w fun e w' => e = .returned (.int .i64 ((a.po.length : Int) + (a.us.length : Int))) ∧ Kept [] w w' := by
  obtain ⟨⟨fh, lh, hd, hR⟩, hok⟩ := h
  have k4 := hR.c4
  have pl := hR.blk.lt
  clear hR hok
  go_enter Try.func15, Try.ntmps15
  go_wp2_with fail
  go_ret
  exact ⟨rfl, by (repeat' (first | (with_reducible exact Kept.refl _ _) | (with_reducible assumption) | (with_reducible refine Kept.then_ (by with_reducible assumption) ?_) | (with_reducible refine Kept.thenS (by with_reducible assumption) ?_) | (with_reducible refine Kept.alloc ?_ _) | (with_reducible refine Kept.drew ?_) | (with_reducible refine Kept.drewN ?_ _) | (with_reducible refine Kept.setNew ?_ ?_ _) | ((try simp only [World.size_alloc, World.size_setCell, World.size_drew, size_drewN] at *); (try dsimp only); omega)))⟩
theorem made_num (w : World) (p mp g : Nat) (a : PgA) (zs : List Int) (h : PgM w p mp g a zs) : Calls Try.prog 16 #[.pointer (some ⟨p, 0, none⟩)] w fun e w' => e = .returned (.int .i64 (a.made : Int)) ∧ Kept [] w w' := by
  obtain ⟨⟨fh, lh, hd, hR⟩, hok⟩ := h
  have k3 := hR.c3
  have pl := hR.blk.lt
  clear hR hok
  go_enter Try.func16, Try.ntmps16
  go_wp2_with fail
  go_ret
  exact ⟨rfl, by (repeat' (first | (with_reducible exact Kept.refl _ _) | (with_reducible assumption) | (with_reducible refine Kept.then_ (by with_reducible assumption) ?_) | (with_reducible refine Kept.thenS (by with_reducible assumption) ?_) | (with_reducible refine Kept.alloc ?_ _) | (with_reducible refine Kept.drew ?_) | (with_reducible refine Kept.drewN ?_ _) | (with_reducible refine Kept.setNew ?_ ?_ _) | ((try simp only [World.size_alloc, World.size_setCell, World.size_drew, size_drewN] at *); (try dsimp only); omega)))⟩
theorem cell_any (w : World) (p mp g : Nat) (a : PgA) (zs : List Int) (h : PgM w p mp g a zs) : Calls Try.prog 18 #[.pointer (some ⟨p, 0, none⟩)] w fun e w' => e = .returned (.pointer (some ⟨p, 10, none⟩)) ∧ Kept [] w w' := by
  have pl := h.lt.1
  clear h
  go_enter Try.func18, Try.ntmps18
  go_wp2_with fail
  go_ret
  exact ⟨rfl, by (repeat' (first | (with_reducible exact Kept.refl _ _) | (with_reducible assumption) | (with_reducible refine Kept.then_ (by with_reducible assumption) ?_) | (with_reducible refine Kept.thenS (by with_reducible assumption) ?_) | (with_reducible refine Kept.alloc ?_ _) | (with_reducible refine Kept.drew ?_) | (with_reducible refine Kept.drewN ?_ _) | (with_reducible refine Kept.setNew ?_ ?_ _) | ((try simp only [World.size_alloc, World.size_setCell, World.size_drew, size_drewN] at *); (try dsimp only); omega)))⟩
theorem alloc_nil (w : World) : Calls Try.prog 12 #[.pointer none] w fun e w' => e = .returned (.tuple #[.int .u64 0, .int .i64 1]) ∧ Kept [] w w' := by
  go_enter Try.func12, Try.ntmps12
  go_wp2_with fail
  (first | go_ret2 | go_ret)
  exact ⟨rfl, by (repeat' (first | (with_reducible exact Kept.refl _ _) | (with_reducible assumption) | (with_reducible refine Kept.then_ (by with_reducible assumption) ?_) | (with_reducible refine Kept.thenS (by with_reducible assumption) ?_) | (with_reducible refine Kept.alloc ?_ _) | (with_reducible refine Kept.drew ?_) | (with_reducible refine Kept.drewN ?_ _) | (with_reducible refine Kept.setNew ?_ ?_ _) | ((try simp only [World.size_alloc, World.size_setCell, World.size_drew, size_drewN] at *); (try dsimp only); omega)))⟩
/-- What a call leaves of a page: its state, what it wrote of memory. -/
def PgTo (w : World) (p mp g : Nat) (b : PgA) (zs : List Int) (ts : List Nat) (w' : World) : Prop := (∃ zs', PgM w' p mp g b zs' ∧ Rest ts zs zs') ∧ Kept [p, g] w w'
theorem alloc_is (w : World) (p mp g : Nat) (a : PgA) (zs : List Int) (h : PgM w p mp g a zs) (x : Nat) (r : List Nat) (hr : a.ready.fr = x :: r) :
    Calls Try.prog 12 #[.pointer (some ⟨p, 0, none⟩)] w fun e w' => e = .returned (.tuple #[.int .u64 (x : Int), .int .i64 0]) ∧ PgTo w p mp g (a.ready.taken x r) zs (a.some_ 0 a.moreN) w' :=
  (alloc_any w p mp g a zs h).mono fun e w' ⟨h1, hk⟩ => by
    rcases h1 with ⟨h2, _⟩ | ⟨x', r', h2, he, hz⟩
    · rw [hr] at h2; cases h2
    · rw [hr] at h2
      injection h2 with h3 h4
      subst h3 h4
      exact ⟨he, hz, hk⟩
theorem alloc_full (w : World) (p mp g : Nat) (a : PgA) (zs : List Int) (h : PgM w p mp g a zs) (hr : a.ready.fr = []) :
    Calls Try.prog 12 #[.pointer (some ⟨p, 0, none⟩)] w fun e w' => e = .returned (.tuple #[.int .u64 0, .int .i64 4]) ∧ PgTo w p mp g a.ready zs (a.some_ 0 a.moreN) w' :=
  (alloc_any w p mp g a zs h).mono fun e w' ⟨h1, hk⟩ => by
    rcases h1 with ⟨_, he, hz⟩ | ⟨x', r', h2, _⟩
    · exact ⟨he, hz, hk⟩
    · rw [hr] at h2; cases h2
theorem free_one (w : World) (p mp g : Nat) (a : PgA) (zs : List Int) (h : PgM w p mp g a zs) (x y c : Nat) (hx : x ∈ a.us) (hy : Blk w y 26 #[.int .u64 (x : Int)]) :
    Calls Try.prog 13 #[.pointer (some ⟨p, 0, none⟩), .slice (some ⟨y, 0, none⟩) 1 c] w fun e w' => e = .returned (.int .i64 0) ∧ PgTo w p mp g (a.free1 x) zs [x] w' := by
  have hyp : y ≠ p := by
    obtain ⟨⟨fh, lh, hd, hR⟩, _⟩ := h
    exact hy.ne_ hR.blk (by decide)
  have hyg : y ≠ g := by
    obtain ⟨⟨fh, lh, hd, hR⟩, _⟩ := h
    exact hy.ne_ hR.mem.2.1 (by decide)
  exact (free_any w p mp g a zs h [x] (by simp) (fun z hz => by simp at hz; rw [hz]; exact hx) _ 1 c rfl (fun w' hk => RowX.of_blk (hy.keep hk (by simp; omega)) (fun i hi => by
    have : i = 0 := by simpa using hi
    subst this
    rfl))).mono fun e w' h => h
set_option maxRecDepth 100000 in
set_option maxHeartbeats 4000000 in
theorem newp_ok (w : World) (mp g : Nat) (zs : List Int) (hM : MemB w mp g zs) (F Z N : Nat) (hb : 1 ≤ F ∧ 16 ≤ Z ∧ 1 ≤ N ∧ N ≤ 1024 ∧ F + N * Z ≤ zs.length) :
    Calls Try.prog 28 #[.pointer (some ⟨mp, 0, none⟩), .agg #[.int .u64 F, .int .u64 Z, .int .i64 N]] w fun e w' => ∃ p, e = .returned (.tuple #[.pointer (some ⟨p, 0, none⟩), .int .i64 0]) ∧ w.heap.size ≤ p ∧ PgM w' p mp g (PgA.new F Z N) zs ∧ Kept [] w w' := by
  have hzl := hM.2.2.1
  have hmay := (PgOk.new hb).may hzl
  have h6 : ((N * Z : Nat) : Int) = (N : Int) * (Z : Int) := by simp
  obtain ⟨E, hE⟩ : ∃ E : Int, (F : Int) + (N : Int) * (Z : Int) = E := ⟨_, rfl⟩
  have hE1 : 0 < E ∧ E ≤ (zs.length : Int) := by omega
  have DE : Hid (∀ w', Calls Try.prog 41 #[.agg #[.int .u64 F, .int .u64 Z, .int .i64 N]] w' fun e w'' => e = .returned (.int .u64 E) ∧ Kept [] w' w'') := Lib.hid (fun w' => by
    have := end_any (F : Int) (Z : Int) (N : Int) (by omega) (by omega) w'
    rw [if_pos (show MayP (F : Int) (Z : Int) (N : Int) from hmay), hE] at this
    exact this)
  have DS := Lib.hid (fun w' (hk : Kept [] w w') => size_any w' mp g zs (hM.keep0 hk))
  have HM := Lib.hid hM
  have hb1 := hb.1
  have hb2 := hb.2.1
  have hb3 := hb.2.2.1
  have q0 : ((E == 0) : Bool) = false := by rw [beq_eq_false_iff_ne]; omega
  have q1 : (((F : Int) == 0) : Bool) = false := by rw [beq_eq_false_iff_ne]; omega
  have q2 : decide ((Z : Int) < 16) = false := by simp; omega
  have q3 : decide ((N : Int) < 1) = false := by simp; omega
  have q4 : decide ((zs.length : Int) < E) = false := by simp; omega
  have HB := Lib.hid hb
  have hml := hM.1.lt
  clear hM hmay h6 hE
  go_enter Try.func28, Try.ntmps28
  go_wp2_with fail
  (with_reducible refine (DE.out _).mono ?_)
  rintro e w1 ⟨rfl, hb1'⟩
  have B1 : Blk w1 w.heap.size 28 #[.int .u64 F, .int .u64 Z, .int .i64 N] := (Blk.new w _ _).keep0 hb1'
  have B1c := B1.cell
  have B1l := B1.lt
  have K1 : Kept [] w w1 := by (repeat' (first | (with_reducible exact Kept.refl _ _) | (with_reducible assumption) | (with_reducible refine Kept.then_ (by with_reducible assumption) ?_) | (with_reducible refine Kept.thenS (by with_reducible assumption) ?_) | (with_reducible refine Kept.alloc ?_ _) | (with_reducible refine Kept.drew ?_) | (with_reducible refine Kept.drewN ?_ _) | (with_reducible refine Kept.setNew ?_ ?_ _) | ((try simp only [World.size_alloc, World.size_setCell, World.size_drew, size_drewN] at *); (try dsimp only); omega)))
  go_wp2_with fail
  (with_reducible refine (DE.out _).mono ?_)
  rintro e w2 ⟨rfl, hb2'⟩
  have B2 := B1.keep0 hb2'
  have B2c := B2.cell
  have B2l := B2.lt
  have K2 := hb2'.then_ K1
  go_wp2_with fail
  (with_reducible refine (DS.out _ K2).mono ?_)
  rintro e w3 ⟨rfl, hw3⟩
  subst hw3
  have hs2 := K2.size
  have M2 := Lib.hid (HM.out.keep0 K2)
  clear B1 B1c B1l
  go_wp2_with fail
  (first | go_ret2 | go_ret)
  refine ⟨_, rfl, ?_, ⟨⟨0, 0, 0, ⟨?_, M2.out.keep0 ((Kept.refl [] _).alloc _), rfl, rfl, rfl⟩⟩, PgOk.new HB.out⟩, by (repeat' (first | (with_reducible exact Kept.refl _ _) | (with_reducible assumption) | (with_reducible refine Kept.then_ (by with_reducible assumption) ?_) | (with_reducible refine Kept.thenS (by with_reducible assumption) ?_) | (with_reducible refine Kept.alloc ?_ _) | (with_reducible refine Kept.drew ?_) | (with_reducible refine Kept.drewN ?_ _) | (with_reducible refine Kept.setNew ?_ ?_ _) | ((try simp only [World.size_alloc, World.size_setCell, World.size_drew, size_drewN] at *); (try dsimp only); omega)))⟩
  · omega
  · exact (Blk.new _ _ _).cast (by simp [PgA.cells, PgA.new])
end Go.Proofs.Ytgiokigokedakaa
