/- Page: Gather where links were written over: told, or as many as hang there. -/
import Derived.Test.YtgiokigokedakaaPgH
import Derived.Deep.RegionHeld3
import Derived.Deep.DeepCutAuto
import Derived.RegionTactic
import Derived.BigQuiet
set_option linter.unusedVariables false
set_option linter.unusedSimpArgs false
namespace Go.Proofs.Ytgiokigokedakaa
open Go.RowKit
/-- A page but for what hangs on its cell. -/
structure PgB (w : World) (p mp g : Nat) (a : PgA) (zs : List Int) (fh lh hd : Nat) : Prop where
  blk : Blk w p 92 (a.cells mp fh lh hd)
  mem : MemB w mp g zs
  fr : Chn zs fh a.fr
  lo : Chn zs lh a.lo
namespace PgB
variable {w w' : World} {p mp g : Nat} {a : PgA} {zs : List Int} {fh lh hd : Nat}
theorem keep {S : List Nat} (h : PgB w p mp g a zs fh lh hd) (hk : Kept S w w') (h1 : p ∉ S) (h2 : mp ∉ S) (h3 : g ∉ S) : PgB w' p mp g a zs fh lh hd := ⟨h.blk.keep hk h1, h.mem.keep hk h2 h3, h.fr, h.lo⟩
theorem keep0 (h : PgB w p mp g a zs fh lh hd) (hk : Kept [] w w') : PgB w' p mp g a zs fh lh hd := h.keep hk (by simp) (by simp) (by simp)
theorem ne1 (h : PgB w p mp g a zs fh lh hd) : p ≠ mp := h.blk.ne_ h.mem.1 (by decide)
theorem ne2 (h : PgB w p mp g a zs fh lh hd) : p ≠ g := h.blk.ne_ h.mem.2.1 (by decide)
theorem lens (h : PgB w p mp g a zs fh lh hd) : zs.length ≤ 1048576 := h.mem.2.2.1
theorem atC (h : PgB w p mp g a zs fh lh hd) : CAt w p 10 92 (a.cells mp fh lh hd) hd a.tag a.ask := ⟨h.blk, rfl, rfl, rfl⟩
end PgB
/-- What was posted is lost: used, and nowhere. -/
def PgA.lost (a : PgA) : PgA := { a with po := [], us := a.po ++ a.us, tag := a.tag + 1, ask := a.ask + 1 }
theorem PgOk.lost {a : PgA} {len : Nat} (h : PgOk a len) : PgOk a.lost len := by
  refine ⟨h.run, h.made, ?_⟩
  show (a.fr ++ (a.lo ++ ([] ++ (a.po ++ a.us)))).Perm _
  exact h.all
theorem lost_cells (a : PgA) (mp fh lh : Nat) : a.upd.cells mp fh lh 0 = a.lost.cells mp fh lh 0 := by
  simp [PgA.cells, PgA.upd, PgA.lost]
set_option maxRecDepth 100000 in
set_option maxHeartbeats 4000000 in
theorem gather_no (w : World) (p mp g : Nat) (a : PgA) (zs : List Int) (fh lh hd : Nat) (hR : PgB w p mp g a zs fh lh hd) (hN : a.N ≤ 1024) (ht : a.tag ≤ 1000000000) (ha : a.ask ≤ 1000000000) (c y z : Int) (hno : z ≠ 0 ∨ (z = 0 ∧ (a.po.length : Int) + (a.us.length : Int) < y))
    (DCh : ∀ w', MemB w' mp g zs → Calls Try.prog 45 #[.pointer (some ⟨mp, 0, none⟩), .int .u64 (hd : Int), .int .i64 (a.N : Int)] w' fun e w'' => e = .returned (.tuple #[.agg #[.int .u64 c, .int .i64 y], .int .i64 z]) ∧ Kept [] w' w'') :
    Calls Try.prog 21 #[.pointer (some ⟨p, 0, none⟩)] w fun e w' => e = .returned (.tuple #[.int .i64 0, .int .i64 3]) ∧ PgR w' p mp g a.lost zs fh lh 0 ∧ Kept [p, g] w w' := by
  have hzl := hR.lens
  have hne1 := hR.ne1
  have hne2 := hR.ne2
  have HR := Lib.hid hR
  have HDC := Lib.hid DCh
  have pl := hR.blk.lt
  have DS := Lib.hid (swap_at w p 10 92 _ (hd : Int) (a.tag : Int) (a.ask : Int) 0 hR.atC (by omega) (by omega))
  clear hR DCh
  go_enter Try.func21, Try.ntmps21
  go_wp2_with fail
  (with_reducible refine DS.out.mono ?_)
  rintro e w1 ⟨rfl, hC1, hk1⟩
  have v13 : w1.cell? ⟨p, 13, none⟩ = some (.int .u64 (hd : Int)) := (hC1.blk.cell 13).trans (by simp [put3, PgA.cells])
  have g13 := hC1.blk.frozen 13
  have l1 := hC1.blk.lt
  have B2 : Hid (Blk (w1.setCell ⟨p, 13, none⟩ (.int .u64 0)) p 92 (a.upd.cells mp fh lh 0)) := Lib.hid ((hC1.blk.set_ 13 _).cast (upd_cells a mp fh lh hd))
  have K2 : Hid (Kept [p] w (w1.setCell ⟨p, 13, none⟩ (.int .u64 0))) := Lib.hid (hk1.setIn (by simp) _)
  clear hC1 hk1
  go_wp2_with fail
  generalize w1.setCell ⟨p, 13, none⟩ (.int .u64 0) = w2 at B2 K2 ⊢
  have M2 : Hid (MemB w2 mp g zs) := Lib.hid (HR.out.mem.keep K2.out (by simp; omega) (by simp; omega))
  have DCn := Lib.hid (fun w' (hk : Kept [] w2 w') => HDC.out w' (M2.out.keep hk (by simp) (by simp)))
  have k2 : w2.cell? ⟨p, 2, none⟩ = some (.int .i64 (a.N : Int)) := B2.out.cell 2
  have k5 : w2.cell? ⟨p, 5, none⟩ = some (.pointer (some ⟨mp, 0, none⟩)) := B2.out.cell 5
  have l2 := B2.out.lt
  clear v13 g13 l1
  go_cut [5, 6] (fun s5 s6 wx => ∃ bo, s5 = .pointer (some ⟨bo, 0, none⟩) ∧ s6 = .int .i64 z ∧ Hid (ListB wx bo c y) ∧ Hid (Kept [] w2 wx) ∧ w2.heap.size ≤ bo)
  case first =>
    go_region_with ((go_at_call 45; refine (DCn.out _ (by (repeat' (first | (with_reducible exact Kept.refl _ _) | (with_reducible assumption) | (with_reducible refine Kept.then_ (by with_reducible assumption) ?_) | (with_reducible refine Kept.thenS (by with_reducible assumption) ?_) | (with_reducible refine Kept.alloc ?_ _) | (with_reducible refine Kept.drew ?_) | (with_reducible refine Kept.drewN ?_ _) | (with_reducible refine Kept.setNew ?_ ?_ _) | ((try simp only [World.size_alloc, World.size_setCell, World.size_drew, size_drewN] at *); (try dsimp only); omega))))).mono ?_; rintro e w4 ⟨rfl, hb4⟩; (try (have hB4 : Blk w4 w2.heap.size 86 #[.int .u64 0, .int .i64 0] := Blk.keep0 (Blk.drew (Blk.new' _ _ _ (by simp))) hb4; have z0 := hB4.cell 0; have z1 := hB4.cell 1; have zf0 := hB4.frozen 0; have zf1 := hB4.frozen 1; have zl := hB4.lt))))
    all_goals
      first
        | (have K4 : Kept [] w2 w4 := hb4.then_ (by (repeat' (first | (with_reducible exact Kept.refl _ _) | (with_reducible assumption) | (with_reducible refine Kept.then_ (by with_reducible assumption) ?_) | (with_reducible refine Kept.thenS (by with_reducible assumption) ?_) | (with_reducible refine Kept.alloc ?_ _) | (with_reducible refine Kept.drew ?_) | (with_reducible refine Kept.drewN ?_ _) | (with_reducible refine Kept.setNew ?_ ?_ _) | ((try simp only [World.size_alloc, World.size_setCell, World.size_drew, size_drewN] at *); (try dsimp only); omega))))
           have hsz4 := K4.size
           have L4 := Lib.hid hB4
           have HK4 := Lib.hid K4
           go_wp2_with fail
           go_meet
           refine ⟨w2.heap.size, rfl, rfl, Lib.hid (Blk.cast (Blk.set_ (Blk.set_ L4.out 0 _) 1 _) (by simp)), Lib.hid ?_, Nat.le_refl _⟩
           repeat (first | exact HK4.out | refine Kept.drew ?_ | refine Kept.setNew ?_ (Nat.le_refl _) _))
        | (have K4 : Kept [] w2 w4 := hb4.then_ (by (repeat' (first | (with_reducible exact Kept.refl _ _) | (with_reducible assumption) | (with_reducible refine Kept.then_ (by with_reducible assumption) ?_) | (with_reducible refine Kept.thenS (by with_reducible assumption) ?_) | (with_reducible refine Kept.alloc ?_ _) | (with_reducible refine Kept.drew ?_) | (with_reducible refine Kept.drewN ?_ _) | (with_reducible refine Kept.setNew ?_ ?_ _) | ((try simp only [World.size_alloc, World.size_setCell, World.size_drew, size_drewN] at *); (try dsimp only); omega))))
           have hsz4 := K4.size
           have HK4 := Lib.hid K4
           go_wp2_with fail
           go_meet
           exact ⟨w4.heap.size, rfl, rfl, Lib.hid (Blk.new w4 _ _), Lib.hid (HK4.out.alloc _), hsz4⟩)
  case rest =>
    obtain ⟨bo, rfl, rfl, hL, hk, hbo⟩ := hcut
    obtain ⟨w5, hw5⟩ : ∃ w5, w5 = wc := ⟨_, rfl⟩
    subst hw5
    have B5 := Lib.hid (B2.out.keep0 hk.out)
    have K5 := Lib.hid (hk.out.then_ K2.out)
    have M5 := Lib.hid (M2.out.keep hk.out (by simp) (by simp))
    have k4 : w5.cell? ⟨p, 4, none⟩ = some (.int .i64 ((a.po.length : Int) + (a.us.length : Int))) := B5.out.cell 4
    have l5 := B5.out.lt
    have FIN : Hid (∀ w', Kept [] w5 w' → PgR w' p mp g a.lost zs fh lh 0 ∧ Kept [p, g] w w') := Lib.hid (fun w' hk' => ⟨⟨(B5.out.keep0 hk').cast (lost_cells a mp fh lh), M5.out.keep hk' (by simp) (by simp), HR.out.fr, HR.out.lo, rfl⟩, (hk'.then_ K5.out).mono (fun x hx _ => by simp at hx; simp [hx])⟩)
    clear k2 k5 l2
    rcases hno with hz | ⟨rfl, hy⟩
    · have q0 : ((z != 0) : Bool) = true := by simpa using hz
      clear hz
      go_wp2_with fail
      refine wp_region_kept (by kernel_rfl) (by kernel_rfl) ?_
      intro TT FF hne hFF hcl
      have q_c0 := fun x => (hFF x).at_ l5 k4
      repeat (first | go_big_quiet_step (fail) | quiet_step (fail))
      refine wpQuiet_nil ?_
      rintro w6 ⟨x, hx⟩
      have hb6 := hFF x
      rw [← hx] at hb6
      clear hx x hne hFF hcl q_c0
      have hs6 := hb6.size
      (try simp only [World.size_alloc, World.size_setCell, World.size_drew, size_drewN] at hs6)
      go_wp2_with fail
      (first | go_ret2 | go_ret)
      exact ⟨rfl, FIN.out _ hb6⟩
    · have q1 : decide ((a.po.length : Int) + (a.us.length : Int) < y) = true := by simpa using hy
      go_wp2_with fail
      refine wp_region_kept (by kernel_rfl) (by kernel_rfl) ?_
      intro TT FF hne hFF hcl
      have q_c0 := fun x => (hFF x).at_ l5 k4
      have q_r0 := fun x => (Blk.keep0 (hL.out) (hFF x)).cell
      repeat (first | go_big_quiet_step (fail) | quiet_step (fail))
      refine wpQuiet_nil ?_
      rintro w6 ⟨x, hx⟩
      have hb6 := hFF x
      rw [← hx] at hb6
      clear hx x hne hFF hcl q_r0 q_c0
      have hs6 := hb6.size
      (try simp only [World.size_alloc, World.size_setCell, World.size_drew, size_drewN] at hs6)
      go_wp2_with fail
      (first | go_ret2 | go_ret)
      exact ⟨rfl, FIN.out _ hb6⟩
set_option maxRecDepth 100000 in
set_option maxHeartbeats 4000000 in
theorem gather_yes (w : World) (p mp g : Nat) (a : PgA) (zs : List Int) (fh lh hd q : Nat) (P : List Nat) (hR : PgB w p mp g a zs fh lh hd) (hN : a.N ≤ 1024 ∧ a.lo.length ≤ 1024) (ht : a.tag ≤ 1000000000) (ha : a.ask ≤ 1000000000) (hco : Chn zs hd (P ++ [q])) (n : Nat) (hn : (P ++ [q]).length = n) (hnu : n ≤ a.po.length + a.us.length) (hnN : n ≤ a.N) (hnz : n ≤ zs.length) (hu : a.po.length + a.us.length ≤ 1024) (r : Int) (hr : (a.po.length : Int) + (a.us.length : Int) - (n : Int) = r) :
    Calls Try.prog 21 #[.pointer (some ⟨p, 0, none⟩)] w fun e w' => e = .returned (.tuple #[.int .i64 (n : Int), .int .i64 0]) ∧ (∃ cs, Blk w' p 92 cs ∧ cs[4]? = some (.int .i64 r)) ∧ Kept [p, g] w w' := by
  have hzl := hR.lens
  have hne1 := hR.ne1
  have hne2 := hR.ne2
  have h64 := hR.lo.hd64 hzl
  have HR := Lib.hid hR
  have HCO := Lib.hid hco
  have HNN := Lib.hid hn
  have pl := hR.blk.lt
  have DS := Lib.hid (swap_at w p 10 92 _ (hd : Int) (a.tag : Int) (a.ask : Int) 0 hR.atC (by omega) (by omega))
  have HRR := Lib.hid hr
  have hrb : 0 ≤ r ∧ r ≤ 1024 := by omega
  clear hR hco hn hr
  go_enter Try.func21, Try.ntmps21
  go_wp2_with fail
  (with_reducible refine DS.out.mono ?_)
  rintro e w1 ⟨rfl, hC1, hk1⟩
  have v13 : w1.cell? ⟨p, 13, none⟩ = some (.int .u64 (hd : Int)) := (hC1.blk.cell 13).trans (by simp [put3, PgA.cells])
  have g13 := hC1.blk.frozen 13
  have l1 := hC1.blk.lt
  have B2 : Hid (Blk (w1.setCell ⟨p, 13, none⟩ (.int .u64 0)) p 92 (a.upd.cells mp fh lh 0)) := Lib.hid ((hC1.blk.set_ 13 _).cast (upd_cells a mp fh lh hd))
  have K2 : Hid (Kept [p] w (w1.setCell ⟨p, 13, none⟩ (.int .u64 0))) := Lib.hid (hk1.setIn (by simp) _)
  clear hC1 hk1
  go_wp2_with fail
  generalize w1.setCell ⟨p, 13, none⟩ (.int .u64 0) = w2 at B2 K2 ⊢
  have M2 : Hid (MemB w2 mp g zs) := Lib.hid (HR.out.mem.keep K2.out (by simp; omega) (by simp; omega))
  have DCn : Hid (∀ w', Kept [] w2 w' → Calls Try.prog 45 #[.pointer (some ⟨mp, 0, none⟩), .int .u64 (hd : Int), .int .i64 (a.N : Int)] w' fun e w'' => e = .returned (.tuple #[.agg #[.int .u64 (hd : Int), .int .i64 (n : Int)], .int .i64 0]) ∧ Kept [] w' w'') := Lib.hid (fun w' hk => by
    have := chain_chn w' mp g zs (M2.out.keep hk (by simp) (by simp)) hd (P ++ [q]) HCO.out a.N (by have := HNN.out; omega) (by have := HNN.out; omega)
    rw [HNN.out] at this
    exact this)
  have k2 : w2.cell? ⟨p, 2, none⟩ = some (.int .i64 (a.N : Int)) := B2.out.cell 2
  have k5 : w2.cell? ⟨p, 5, none⟩ = some (.pointer (some ⟨mp, 0, none⟩)) := B2.out.cell 5
  have l2 := B2.out.lt
  clear v13 g13 l1
  go_cut [5, 6] (fun s5 s6 wx => ∃ bo, s5 = .pointer (some ⟨bo, 0, none⟩) ∧ s6 = .int .i64 0 ∧ Hid (ListB wx bo (hd : Int) (n : Int)) ∧ Hid (Kept [] w2 wx) ∧ w2.heap.size ≤ bo)
  case first =>
    go_region_with ((go_at_call 45; refine (DCn.out _ (by (repeat' (first | (with_reducible exact Kept.refl _ _) | (with_reducible assumption) | (with_reducible refine Kept.then_ (by with_reducible assumption) ?_) | (with_reducible refine Kept.thenS (by with_reducible assumption) ?_) | (with_reducible refine Kept.alloc ?_ _) | (with_reducible refine Kept.drew ?_) | (with_reducible refine Kept.drewN ?_ _) | (with_reducible refine Kept.setNew ?_ ?_ _) | ((try simp only [World.size_alloc, World.size_setCell, World.size_drew, size_drewN] at *); (try dsimp only); omega))))).mono ?_; rintro e w4 ⟨rfl, hb4⟩; (try (have hB4 : Blk w4 w2.heap.size 86 #[.int .u64 0, .int .i64 0] := Blk.keep0 (Blk.drew (Blk.new' _ _ _ (by simp))) hb4; have z0 := hB4.cell 0; have z1 := hB4.cell 1; have zf0 := hB4.frozen 0; have zf1 := hB4.frozen 1; have zl := hB4.lt))))
    all_goals
      first
        | (have K4 : Kept [] w2 w4 := hb4.then_ (by (repeat' (first | (with_reducible exact Kept.refl _ _) | (with_reducible assumption) | (with_reducible refine Kept.then_ (by with_reducible assumption) ?_) | (with_reducible refine Kept.thenS (by with_reducible assumption) ?_) | (with_reducible refine Kept.alloc ?_ _) | (with_reducible refine Kept.drew ?_) | (with_reducible refine Kept.drewN ?_ _) | (with_reducible refine Kept.setNew ?_ ?_ _) | ((try simp only [World.size_alloc, World.size_setCell, World.size_drew, size_drewN] at *); (try dsimp only); omega))))
           have hsz4 := K4.size
           have L4 := Lib.hid hB4
           have HK4 := Lib.hid K4
           go_wp2_with fail
           go_meet
           refine ⟨w2.heap.size, rfl, rfl, Lib.hid (Blk.cast (Blk.set_ (Blk.set_ L4.out 0 _) 1 _) (by simp)), Lib.hid ?_, Nat.le_refl _⟩
           repeat (first | exact HK4.out | refine Kept.drew ?_ | refine Kept.setNew ?_ (Nat.le_refl _) _))
        | (have K4 : Kept [] w2 w4 := hb4.then_ (by (repeat' (first | (with_reducible exact Kept.refl _ _) | (with_reducible assumption) | (with_reducible refine Kept.then_ (by with_reducible assumption) ?_) | (with_reducible refine Kept.thenS (by with_reducible assumption) ?_) | (with_reducible refine Kept.alloc ?_ _) | (with_reducible refine Kept.drew ?_) | (with_reducible refine Kept.drewN ?_ _) | (with_reducible refine Kept.setNew ?_ ?_ _) | ((try simp only [World.size_alloc, World.size_setCell, World.size_drew, size_drewN] at *); (try dsimp only); omega))))
           have hsz4 := K4.size
           have HK4 := Lib.hid K4
           go_wp2_with fail
           go_meet
           exact ⟨w4.heap.size, rfl, rfl, Lib.hid (Blk.new w4 _ _), Lib.hid (HK4.out.alloc _), hsz4⟩)
  case rest =>
    obtain ⟨bo, rfl, rfl, hL, hk, hbo⟩ := hcut
    obtain ⟨w5, hw5⟩ : ∃ w5, w5 = wc := ⟨_, rfl⟩
    subst hw5
    have B5 := Lib.hid (B2.out.keep0 hk.out)
    have K5 := Lib.hid (hk.out.then_ K2.out)
    have k4 : w5.cell? ⟨p, 4, none⟩ = some (.int .i64 ((a.po.length : Int) + (a.us.length : Int))) := B5.out.cell 4
    have l5 := B5.out.lt
    have q1 : decide ((a.po.length : Int) + (a.us.length : Int) < (n : Int)) = false := by simp; omega
    clear k2 k5 l2
    go_wp2_with fail
    refine wp_region_kept (by kernel_rfl) (by kernel_rfl) ?_
    intro TT FF hne hFF hcl
    have q_c0 := fun x => (hFF x).at_ l5 k4
    have q_r0 := fun x => (Blk.keep0 (hL.out) (hFF x)).cell
    repeat (first | go_big_quiet_step (fail) | quiet_step (fail))
    refine wpQuiet_nil ?_
    rintro w6 ⟨x, hx⟩
    have hb6 := hFF x
    rw [← hx] at hb6
    clear hx x hne hFF hcl q_r0 q_c0
    have hs6 := hb6.size
    (try simp only [World.size_alloc, World.size_setCell, World.size_drew, size_drewN] at hs6)
    have B6 := Lib.hid (B5.out.keep0 hb6)
    have L6 := Lib.hid (Blk.keep0 hL.out hb6)
    have K6 := Lib.hid (hb6.then_ K5.out)
    have z1 := L6.out.cell 1
    have zl := L6.out.lt
    clear hb6
    go_wp2_with fail
    have k5 : w6.cell? ⟨p, 5, none⟩ = some (.pointer (some ⟨mp, 0, none⟩)) := B6.out.cell 5
    have l6 := B6.out.lt
    have hbp : p ≠ bo := by
      have := B2.out.lt
      omega
    have hbg : g ≠ bo := by
      have := M2.out.2.1.lt
      omega
    have M6 := Lib.hid (HR.out.mem.keep K6.out (by simp; omega) (by simp; omega))
    have DJ := Lib.hid (fun w' (hk : Kept [] w6 w') => join_at w' p 8 bo mp g 92 _ (by decide) (by decide) zs lh hd q a.lo.length P (M6.out.keep hk (by simp) (by simp)) ⟨B6.out.keep0 hk, rfl, rfl⟩ (by rw [HNN.out]; exact Blk.keep0 L6.out hk) hbp HCO.out h64 (by omega) (by have := HNN.out; omega))
    clear z1 zl
    go_region_held3 (fun w' => w'.cell? ⟨p, 5, none⟩ = some (.pointer (some ⟨mp, 0, none⟩)) ∧ p < w'.heap.size) (first | exact ⟨k5, l6⟩ | go_keep) ((go_at_call 46; refine (DJ.out _ (by (repeat' (first | (with_reducible exact Kept.refl _ _) | (with_reducible assumption) | (with_reducible refine Kept.then_ (by with_reducible assumption) ?_) | (with_reducible refine Kept.thenS (by with_reducible assumption) ?_) | (with_reducible refine Kept.alloc ?_ _) | (with_reducible refine Kept.drew ?_) | (with_reducible refine Kept.drewN ?_ _) | (with_reducible refine Kept.setNew ?_ ?_ _) | ((try simp only [World.size_alloc, World.size_setCell, World.size_drew, size_drewN] at *); (try dsimp only); omega))))).mono ?_; rintro e w7 ⟨rfl, hM7, hB7, hLo7, hk7⟩; have v5 : w7.cell? ⟨p, 5, none⟩ = some (.pointer (some ⟨mp, 0, none⟩)) := hB7.cell 5; have v6 := hB7.lt))
    have hw2 := K2.out.size
    have K6' : Kept [p, g] w w6 := K6.out.mono (fun x hx _ => by simp at hx; simp [hx])
    have K7 : Hid (Kept [p, g] w w7) := Lib.hid (by
      first
        | exact K6'.trans hk7 (fun x hx hl => by simp at hx; simp; omega)
        | exact K6'.drew.trans hk7 (fun x hx hl => by simp at hx; simp; omega))
    have c4 : w7.cell? ⟨p, 4, none⟩ = some (.int .i64 ((a.po.length : Int) + (a.us.length : Int))) := hB7.cell 4
    have f4 := hB7.frozen 4
    have hw4 : IntKind.i64.wrap ((a.po.length : Int) + (a.us.length : Int) - (n : Int)) = r := by rw [HRR.out, IntKind.wrap_i64]; omega
    have HB7 := Lib.hid hB7
    clear hB7 hM7 hk7 k5 k4 hLo7
    go_wp2_with fail
    (first | go_ret2 | go_ret)
    exact ⟨rfl, ⟨_, HB7.out.set_ 4 _, by simp [put2, PgA.cells, PgA.upd]⟩, K7.out.setIn (by simp) _⟩
theorem used_blk (w : World) (p : Nat) (cs : Array Value) (hB : Blk w p 92 cs) (r : Int) (hr : cs[4]? = some (.int .i64 r)) : Calls Try.prog 15 #[.pointer (some ⟨p, 0, none⟩)] w fun e w' => e = .returned (.int .i64 r) ∧ Kept [] w w' := by
  have k4 := (hB.cell 4).trans hr
  have pl := hB.lt
  clear hB hr
  go_enter Try.func15, Try.ntmps15
  go_wp2_with fail
  go_ret
  exact ⟨rfl, by (repeat' (first | (with_reducible exact Kept.refl _ _) | (with_reducible assumption) | (with_reducible refine Kept.then_ (by with_reducible assumption) ?_) | (with_reducible refine Kept.thenS (by with_reducible assumption) ?_) | (with_reducible refine Kept.alloc ?_ _) | (with_reducible refine Kept.drew ?_) | (with_reducible refine Kept.drewN ?_ _) | (with_reducible refine Kept.setNew ?_ ?_ _) | ((try simp only [World.size_alloc, World.size_setCell, World.size_drew, size_drewN] at *); (try dsimp only); omega)))⟩
end Go.Proofs.Ytgiokigokedakaa
