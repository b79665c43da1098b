/- Page: Gather. -/
import Derived.Test.YtgiokigokedakaaPgJoin
import Derived.Deep.RegionHeld3
import Derived.Deep.DeepCutAuto
import Derived.RegionTactic
import Derived.BigQuiet
set_option linter.unusedVariables false
set_option linter.unusedSimpArgs false
namespace Go.Proofs.Ytgiokigokedakaa
open Go.RowKit
def PgA.upd (a : PgA) : PgA := { a with tag := a.tag + 1, ask := a.ask + 1 }
def PgA.gath (a : PgA) : PgA := { a with lo := a.po ++ a.lo, po := [], tag := a.tag + 1, ask := a.ask + 1 }
theorem PgOk.gath {a : PgA} {len : Nat} (h : PgOk a len) : PgOk a.gath len := by
  refine ⟨h.run, h.made, List.Perm.trans ?_ h.all⟩
  show (a.fr ++ ((a.po ++ a.lo) ++ ([] ++ a.us))).Perm (a.fr ++ (a.lo ++ (a.po ++ a.us)))
  refine List.Perm.append_left _ ?_
  rw [List.nil_append, ← List.append_assoc a.lo a.po a.us]
  exact List.perm_append_comm.append_right _
theorem upd_cells (a : PgA) (mp fh lh hd : Nat) : (put3 (a.cells mp fh lh hd) 10 0 ((a.tag : Int) + 1) ((a.ask : Int) + 1)).setIfInBounds 13 (.int .u64 0) = a.upd.cells mp fh lh 0 := by
  simp [put3, PgA.cells, PgA.upd]
theorem gath_cells (a : PgA) (mp fh lh h : Nat) : (put2 (a.upd.cells mp fh lh 0) 8 (h : Int) ((a.po ++ a.lo).length : Int)).setIfInBounds 4 (.int .i64 (a.us.length : Int)) = a.gath.cells mp fh h 0 := by
  simp [put2, PgA.cells, PgA.upd, PgA.gath]
set_option maxRecDepth 100000 in
set_option maxHeartbeats 4000000 in
theorem gather_in (w : World) (p mp g : Nat) (a : PgA) (zs : List Int) (fh lh hd : Nat) (hR : PgR w p mp g a zs fh lh hd) (hok : PgOk a zs.length) (ht : a.tag ≤ 1000000000) (ha : a.ask ≤ 1000000000) :
    Calls Try.prog 21 #[.pointer (some ⟨p, 0, none⟩)] w fun e w' => e = .returned (.tuple #[.int .i64 (a.po.length : Int), .int .i64 0]) ∧ (∃ zs', PgM w' p mp g a.gath zs' ∧ Rest a.po zs zs') ∧ Kept [p, g] w w' := by
  have hzl := hR.lens
  have hsh := hok.short
  have hne1 := hR.ne1
  have hne2 := hR.ne2
  have hpN : a.po.length ≤ a.N ∧ a.N ≤ 1024 := by
    have h1 := hok.all.length_eq
    have h2 := hok.made
    have h3 := hok.run
    simp at h1
    omega
  have hpz : a.po.length ≤ zs.length := by
    obtain ⟨_, h2, _, _, h5⟩ := hok.run
    have : a.N * 16 ≤ a.N * a.Z := Nat.mul_le_mul_left _ h2
    omega
  have hap : Apart (a.po ++ a.lo) := by
    have h1 := hok.apart
    have h2 : Apart (a.lo ++ (a.po ++ a.us)) := h1.right
    rw [← List.append_assoc] at h2
    exact h2.left.perm List.perm_append_comm
  have hfar : ∀ x, x ∈ a.po → Far x a.fr := fun x hx y hy => by
    have := (List.pairwise_append.1 hok.apart).2.2 y hy x (by simp [hx])
    omega
  have HR := Lib.hid hR
  have HO := Lib.hid hok
  have HAP := Lib.hid hap
  have HFAR := Lib.hid hfar
  have pl := hR.blk.lt
  have DS := Lib.hid (swap_at w p 10 92 _ (hd : Int) (a.tag : Int) (a.ask : Int) 0 hR.atC (by omega) (by omega))
  clear hR hok hap hfar
  go_enter Try.func21, Try.ntmps21
  go_wp2_with fail
  (with_reducible refine DS.out.mono ?_)
  rintro e w1 ⟨rfl, hC1, hk1⟩
  have v13 : w1.cell? ⟨p, 13, none⟩ = some (.int .u64 (hd : Int)) := (hC1.blk.cell 13).trans (by simp [put3, PgA.cells])
  have g13 := hC1.blk.frozen 13
  have l1 := hC1.blk.lt
  have B2 : Hid (Blk (w1.setCell ⟨p, 13, none⟩ (.int .u64 0)) p 92 (a.upd.cells mp fh lh 0)) := Lib.hid ((hC1.blk.set_ 13 _).cast (upd_cells a mp fh lh hd))
  have K2 : Hid (Kept [p] w (w1.setCell ⟨p, 13, none⟩ (.int .u64 0))) := Lib.hid (hk1.setIn (by simp) _)
  clear hC1 hk1
  go_wp2_with fail
  generalize w1.setCell ⟨p, 13, none⟩ (.int .u64 0) = w2 at B2 K2 ⊢
  have M2 : Hid (MemB w2 mp g zs) := Lib.hid (HR.out.mem.keep K2.out (by simp; omega) (by simp; omega))
  have DCn := Lib.hid (fun w' (hk : Kept [] w2 w') => chain_chn w' mp g zs (M2.out.keep hk (by simp) (by simp)) hd a.po HR.out.po a.N (by omega) hpz)
  have k2 : w2.cell? ⟨p, 2, none⟩ = some (.int .i64 (a.N : Int)) := B2.out.cell 2
  have k5 : w2.cell? ⟨p, 5, none⟩ = some (.pointer (some ⟨mp, 0, none⟩)) := B2.out.cell 5
  have l2 := B2.out.lt
  clear v13 g13 l1
  go_cut [5, 6] (fun s5 s6 wx => ∃ bo, s5 = .pointer (some ⟨bo, 0, none⟩) ∧ s6 = .int .i64 0 ∧ Hid (ListB wx bo (hd : Int) (a.po.length : Int)) ∧ Hid (Kept [] w2 wx) ∧ w2.heap.size ≤ bo)
  case first =>
    go_region_with ((go_at_call 45; refine (DCn.out _ (by (repeat' (first | (with_reducible exact Kept.refl _ _) | (with_reducible assumption) | (with_reducible refine Kept.then_ (by with_reducible assumption) ?_) | (with_reducible refine Kept.thenS (by with_reducible assumption) ?_) | (with_reducible refine Kept.alloc ?_ _) | (with_reducible refine Kept.drew ?_) | (with_reducible refine Kept.drewN ?_ _) | (with_reducible refine Kept.setNew ?_ ?_ _) | ((try simp only [World.size_alloc, World.size_setCell, World.size_drew, size_drewN] at *); (try dsimp only); omega))))).mono ?_; rintro e w4 ⟨rfl, hb4⟩; (try (have hB4 : Blk w4 w2.heap.size 86 #[.int .u64 0, .int .i64 0] := Blk.keep0 (Blk.drew (Blk.new' _ _ _ (by simp))) hb4; have z0 := hB4.cell 0; have z1 := hB4.cell 1; have zf0 := hB4.frozen 0; have zf1 := hB4.frozen 1; have zl := hB4.lt))))
    all_goals
      first
        | (have K4 : Kept [] w2 w4 := hb4.then_ (by (repeat' (first | (with_reducible exact Kept.refl _ _) | (with_reducible assumption) | (with_reducible refine Kept.then_ (by with_reducible assumption) ?_) | (with_reducible refine Kept.thenS (by with_reducible assumption) ?_) | (with_reducible refine Kept.alloc ?_ _) | (with_reducible refine Kept.drew ?_) | (with_reducible refine Kept.drewN ?_ _) | (with_reducible refine Kept.setNew ?_ ?_ _) | ((try simp only [World.size_alloc, World.size_setCell, World.size_drew, size_drewN] at *); (try dsimp only); omega))))
           have hsz4 := K4.size
           have L4 := Lib.hid hB4
           have HK4 := Lib.hid K4
           go_wp2_with fail
           go_meet
           refine ⟨w2.heap.size, rfl, rfl, Lib.hid (Blk.cast (Blk.set_ (Blk.set_ L4.out 0 _) 1 _) (by simp)), Lib.hid ?_, Nat.le_refl _⟩
           repeat (first | exact HK4.out | refine Kept.drew ?_ | refine Kept.setNew ?_ (Nat.le_refl _) _))
        | (have K4 : Kept [] w2 w4 := hb4.then_ (by (repeat' (first | (with_reducible exact Kept.refl _ _) | (with_reducible assumption) | (with_reducible refine Kept.then_ (by with_reducible assumption) ?_) | (with_reducible refine Kept.thenS (by with_reducible assumption) ?_) | (with_reducible refine Kept.alloc ?_ _) | (with_reducible refine Kept.drew ?_) | (with_reducible refine Kept.drewN ?_ _) | (with_reducible refine Kept.setNew ?_ ?_ _) | ((try simp only [World.size_alloc, World.size_setCell, World.size_drew, size_drewN] at *); (try dsimp only); omega))))
           have hsz4 := K4.size
           have HK4 := Lib.hid K4
           go_wp2_with fail
           go_meet
           exact ⟨w4.heap.size, rfl, rfl, Lib.hid (Blk.new w4 _ _), Lib.hid (HK4.out.alloc _), hsz4⟩)
  case rest =>
    obtain ⟨bo, rfl, rfl, hL, hk, hbo⟩ := hcut
    obtain ⟨w5, hw5⟩ : ∃ w5, w5 = wc := ⟨_, rfl⟩
    subst hw5
    have B5 := Lib.hid (B2.out.keep0 hk.out)
    have K5 := Lib.hid (hk.out.then_ K2.out)
    have k4 : w5.cell? ⟨p, 4, none⟩ = some (.int .i64 ((a.po.length : Int) + (a.us.length : Int))) := B5.out.cell 4
    have l5 := B5.out.lt
    have q1 : decide ((a.po.length : Int) + (a.us.length : Int) < (a.po.length : Int)) = false := by simp; omega
    clear k2 k5 l2
    go_wp2_with fail
    refine wp_region_kept (by kernel_rfl) (by kernel_rfl) ?_
    intro TT FF hne hFF hcl
    have q_c0 := fun x => (hFF x).at_ l5 k4
    have q_r0 := fun x => (Blk.keep0 (hL.out) (hFF x)).cell
    repeat (first | go_big_quiet_step (fail) | quiet_step (fail))
    refine wpQuiet_nil ?_
    rintro w6 ⟨x, hx⟩
    have hb6 := hFF x
    rw [← hx] at hb6
    clear hx x hne hFF hcl q_r0 q_c0
    have hs6 := hb6.size
    (try simp only [World.size_alloc, World.size_setCell, World.size_drew, size_drewN] at hs6)
    have B6 := Lib.hid (B5.out.keep0 hb6)
    have L6 := Lib.hid (Blk.keep0 hL.out hb6)
    have K6 := Lib.hid (hb6.then_ K5.out)
    have z1 := L6.out.cell 1
    have zl := L6.out.lt
    clear hb6
    go_wp2_with fail
    have k5 : w6.cell? ⟨p, 5, none⟩ = some (.pointer (some ⟨mp, 0, none⟩)) := B6.out.cell 5
    have l6 := B6.out.lt
    have hbp : p ≠ bo := by
      have := B2.out.lt
      omega
    have hbg : g ≠ bo := by
      have := M2.out.2.1.lt
      omega
    have M6 := Lib.hid (HR.out.mem.keep K6.out (by simp; omega) (by simp; omega))
    have DJ := Lib.hid (fun w' (hk : Kept [] w6 w') => join_chnAt w' p 8 bo mp g 92 _ (by decide) (by decide) zs lh hd a.lo a.po (M6.out.keep hk (by simp) (by simp)) ⟨B6.out.keep0 hk, rfl, rfl⟩ (Blk.keep0 L6.out hk) hbp HR.out.lo HR.out.po HAP.out (by omega) hpz)
    clear z1 zl
    go_region_held3 (fun w' => w'.cell? ⟨p, 5, none⟩ = some (.pointer (some ⟨mp, 0, none⟩)) ∧ p < w'.heap.size) (first | exact ⟨k5, l6⟩ | go_keep) ((go_at_call 46; refine (DJ.out _ (by (repeat' (first | (with_reducible exact Kept.refl _ _) | (with_reducible assumption) | (with_reducible refine Kept.then_ (by with_reducible assumption) ?_) | (with_reducible refine Kept.thenS (by with_reducible assumption) ?_) | (with_reducible refine Kept.alloc ?_ _) | (with_reducible refine Kept.drew ?_) | (with_reducible refine Kept.drewN ?_ _) | (with_reducible refine Kept.setNew ?_ ?_ _) | ((try simp only [World.size_alloc, World.size_setCell, World.size_drew, size_drewN] at *); (try dsimp only); omega))))).mono ?_; rintro e w7 ⟨rfl, z7, h7, hM7, hr7, hc7, hf7, hB7, hk7⟩; have v5 : w7.cell? ⟨p, 5, none⟩ = some (.pointer (some ⟨mp, 0, none⟩)) := hB7.cell 5; have v6 := hB7.lt))
    have hw2 := K2.out.size
    have K6' : Kept [p, g] w w6 := K6.out.mono (fun x hx _ => by simp at hx; simp [hx])
    have K7 : Hid (Kept [p, g] w w7) := Lib.hid (by
      first
        | exact K6'.trans hk7 (fun x hx hl => by simp at hx; simp; omega)
        | exact K6'.drew.trans hk7 (fun x hx hl => by simp at hx; simp; omega))
    have c4 : w7.cell? ⟨p, 4, none⟩ = some (.int .i64 ((a.po.length : Int) + (a.us.length : Int))) := hB7.cell 4
    have f4 := hB7.frozen 4
    have hw4 : IntKind.i64.wrap ((a.po.length : Int) + (a.us.length : Int) - (a.po.length : Int)) = (a.us.length : Int) := by rw [IntKind.wrap_i64]; omega
    have HB7 := Lib.hid hB7
    have HM7 := Lib.hid hM7
    have HF7 := Lib.hid (hf7 fh a.fr HR.out.fr HFAR.out)
    have HC7 := Lib.hid hc7
    have HR7 := Lib.hid hr7
    clear hf7 hc7 hr7 hB7 hM7 hk7 k5 k4
    go_wp2_with fail
    (first | go_ret2 | go_ret)
    refine ⟨rfl, ⟨z7, ⟨⟨fh, h7, 0, ⟨?_, HM7.out.far (by simp; omega) (by simp; omega) _, HF7.out, HC7.out, rfl⟩⟩, ?_⟩, HR7.out⟩, K7.out.setIn (by simp) _⟩
    · exact (HB7.out.set_ 4 _).cast (gath_cells a mp fh lh h7)
    · rw [HR7.out.1]; exact HO.out.gath
end Go.Proofs.Ytgiokigokedakaa
