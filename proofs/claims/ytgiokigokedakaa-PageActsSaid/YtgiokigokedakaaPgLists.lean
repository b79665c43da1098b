/- Page: Lists, its three rows. -/
import Derived.Test.YtgiokigokedakaaPgH
import Derived.Deep.RegionHeld3
import Derived.Deep.DeepCutAuto
import Derived.RegionTactic
import Derived.BigQuiet
set_option linter.unusedVariables false
set_option linter.unusedSimpArgs false
namespace Go.Proofs.Ytgiokigokedakaa
open Go.RowKit
def ListsAre (w : World) (a : PgA) (e : Ending) (w' : World) : Prop :=
  (∃ A1 c1 A2 c2 A3 c3, e = .returned (.tuple #[.slice A1 a.fr.length c1, .slice A2 a.lo.length c2, .slice A3 a.po.length c3, .int .i64 0]) ∧
    OwnI w.heap.size .u64 26 w' (.slice A1 a.fr.length c1) (toI a.fr) ∧ OwnI w.heap.size .u64 26 w' (.slice A2 a.lo.length c2) (toI a.lo) ∧ OwnI w.heap.size .u64 26 w' (.slice A3 a.po.length c3) (toI a.po)) ∧ Kept [] w w'
theorem PgOk.lens {a : PgA} {len : Nat} (h : PgOk a len) : a.fr.length ≤ len ∧ a.lo.length ≤ len ∧ a.po.length ≤ len ∧ a.po.length ≤ a.N ∧ a.N ≤ 1024 := by
  have h1 := h.all.length_eq
  have h2 := h.made
  obtain ⟨h3, h4, h5, h6, h7⟩ := h.run
  have h8 : a.N * 16 ≤ a.N * a.Z := Nat.mul_le_mul_left _ h4
  simp at h1
  omega
set_option maxRecDepth 100000 in
set_option maxHeartbeats 4000000 in
theorem lists_any (w : World) (p mp g : Nat) (a : PgA) (zs : List Int) (fh lh hd : Nat) (hR : PgR w p mp g a zs fh lh hd) (hok : PgOk a zs.length) :
    Calls Try.prog 26 #[.pointer (some ⟨p, 0, none⟩)] w (ListsAre w a) := by
  have hzl := hR.lens
  obtain ⟨n1, n2, n3, n4, n5⟩ := hok.lens
  have HR := Lib.hid hR
  have pl := hR.blk.lt
  have k5 := hR.c5
  have DF := Lib.hid (fun w' (hk : Kept [] w w') => all_chnAt w' p 6 mp g 92 _ zs fh a.fr (hR.keep0 hk).mem (hR.keep0 hk).atF hR.fr n1)
  have DL := Lib.hid (fun w' (hk : Kept [] w w') => all_chnAt w' p 8 mp g 92 _ zs lh a.lo (hR.keep0 hk).mem (hR.keep0 hk).atL hR.lo n2)
  have DC := Lib.hid (fun w' (hk : Kept [] w w') => chain_chn w' mp g zs (hR.keep0 hk).mem hd a.po hR.po a.N (by omega) n3)
  have DP := Lib.hid (fun w' b (hk : Kept [] w w') (hb : ListB w' b (hd : Int) (a.po.length : Int)) => all_chn w' b mp g zs hd a.po (hR.keep0 hk).mem hb hR.po n3)
  have K0 := Lib.hid (Kept.refl [] w)
  clear hR hok
  go_enter Try.func26, Try.ntmps26
  go_wp2_with fail
  go_region_held3 (fun w' => w'.cell? ⟨p, 5, none⟩ = some (.pointer (some ⟨mp, 0, none⟩)) ∧ p < w'.heap.size) (first | exact ⟨k5, pl⟩ | go_keep) ((go_at_call 52; refine (DF.out _ (by have := K0.out; (repeat' (first | (with_reducible exact Kept.refl _ _) | (with_reducible assumption) | (with_reducible refine Kept.then_ (by with_reducible assumption) ?_) | (with_reducible refine Kept.thenS (by with_reducible assumption) ?_) | (with_reducible refine Kept.alloc ?_ _) | (with_reducible refine Kept.drew ?_) | (with_reducible refine Kept.drewN ?_ _) | (with_reducible refine Kept.setNew ?_ ?_ _) | ((try simp only [World.size_alloc, World.size_setCell, World.size_drew, size_drewN] at *); (try dsimp only); omega))))).mono ?_; rintro e w1 ⟨⟨A1, c1, rfl, hO1, _⟩, hk1⟩; have v5 : w1.cell? ⟨p, 5, none⟩ = some (.pointer (some ⟨mp, 0, none⟩)) := Kept.at_ hk1 pl k5; have v6 := Nat.lt_of_lt_of_le pl hk1.size))
  have K1 : Hid (Kept [] w w1) := Lib.hid (by have := K0.out; (repeat' (first | (with_reducible exact Kept.refl _ _) | (with_reducible assumption) | (with_reducible refine Kept.then_ (by with_reducible assumption) ?_) | (with_reducible refine Kept.thenS (by with_reducible assumption) ?_) | (with_reducible refine Kept.alloc ?_ _) | (with_reducible refine Kept.drew ?_) | (with_reducible refine Kept.drewN ?_ _) | (with_reducible refine Kept.setNew ?_ ?_ _) | ((try simp only [World.size_alloc, World.size_setCell, World.size_drew, size_drewN] at *); (try dsimp only); omega))))
  have O1 : Hid (OwnI w.heap.size .u64 26 w1 (.slice A1 a.fr.length c1) (toI a.fr)) := Lib.hid hO1
  have k5' := v5
  have pl' := v6
  clear k5 pl v5 v6 hO1 hk1
  go_wp2_with fail
  go_region_held3 (fun w' => w'.cell? ⟨p, 5, none⟩ = some (.pointer (some ⟨mp, 0, none⟩)) ∧ p < w'.heap.size) (first | exact ⟨k5', pl'⟩ | go_keep) ((go_at_call 52; refine (DL.out _ (by have := K1.out; (repeat' (first | (with_reducible exact Kept.refl _ _) | (with_reducible assumption) | (with_reducible refine Kept.then_ (by with_reducible assumption) ?_) | (with_reducible refine Kept.thenS (by with_reducible assumption) ?_) | (with_reducible refine Kept.alloc ?_ _) | (with_reducible refine Kept.drew ?_) | (with_reducible refine Kept.drewN ?_ _) | (with_reducible refine Kept.setNew ?_ ?_ _) | ((try simp only [World.size_alloc, World.size_setCell, World.size_drew, size_drewN] at *); (try dsimp only); omega))))).mono ?_; rintro e w2 ⟨⟨A2, c2, rfl, hO2, _⟩, hk2⟩; have v5 : w2.cell? ⟨p, 5, none⟩ = some (.pointer (some ⟨mp, 0, none⟩)) := Kept.at_ hk2 pl' k5'; have v6 := Nat.lt_of_lt_of_le pl' hk2.size))
  have hs1 := K1.out.size
  have K12 : Hid (Kept [] w1 w2) := Lib.hid (by have := Kept.refl [] w1; (repeat' (first | (with_reducible exact Kept.refl _ _) | (with_reducible assumption) | (with_reducible refine Kept.then_ (by with_reducible assumption) ?_) | (with_reducible refine Kept.thenS (by with_reducible assumption) ?_) | (with_reducible refine Kept.alloc ?_ _) | (with_reducible refine Kept.drew ?_) | (with_reducible refine Kept.drewN ?_ _) | (with_reducible refine Kept.setNew ?_ ?_ _) | ((try simp only [World.size_alloc, World.size_setCell, World.size_drew, size_drewN] at *); (try dsimp only); omega))))
  have K2 : Hid (Kept [] w w2) := Lib.hid (K12.out.then_ K1.out)
  have O2 : Hid (OwnI w.heap.size .u64 26 w2 (.slice A2 a.lo.length c2) (toI a.lo)) := Lib.hid (OwnI.less hO2 hs1)
  have O1' : Hid (OwnI w.heap.size .u64 26 w2 (.slice A1 a.fr.length c1) (toI a.fr)) := Lib.hid (O1.out.kept K12.out)
  clear k5' pl' v5 v6 hO2 hk2 O1 hs1
  have B2 := (HR.out.keep0 K2.out).blk
  have k5 : w2.cell? ⟨p, 5, none⟩ = some (.pointer (some ⟨mp, 0, none⟩)) := B2.cell 5
  have k2 : w2.cell? ⟨p, 2, none⟩ = some (.int .i64 (a.N : Int)) := B2.cell 2
  have k13 : w2.cell? ⟨p, 13, none⟩ = some (.int .u64 (hd : Int)) := B2.cell 13
  have l2 := B2.lt
  have DC2 := Lib.hid (fun w' (hk : Kept [] w2 w') => DC.out w' (hk.then_ K2.out))
  clear B2
  go_wp2_with fail
  go_cut [2, 3, 5, 6] (fun s2 s3 s5 s6 wx => s2 = .slice A1 a.fr.length c1 ∧ s3 = .slice A2 a.lo.length c2 ∧ s5 = .int .i64 0 ∧ ∃ bo, s6 = .pointer (some ⟨bo, 0, none⟩) ∧ Hid (ListB wx bo (hd : Int) (a.po.length : Int)) ∧ Hid (Kept [] w2 wx))
  case first =>
    go_region_with ((go_at_call 45; refine (DC2.out _ (by (repeat' (first | (with_reducible exact Kept.refl _ _) | (with_reducible assumption) | (with_reducible refine Kept.then_ (by with_reducible assumption) ?_) | (with_reducible refine Kept.thenS (by with_reducible assumption) ?_) | (with_reducible refine Kept.alloc ?_ _) | (with_reducible refine Kept.drew ?_) | (with_reducible refine Kept.drewN ?_ _) | (with_reducible refine Kept.setNew ?_ ?_ _) | ((try simp only [World.size_alloc, World.size_setCell, World.size_drew, size_drewN] at *); (try dsimp only); omega))))).mono ?_; rintro e w4 ⟨rfl, hb4⟩; (try (have hB4 : Blk w4 w2.heap.size 86 #[.int .u64 0, .int .i64 0] := Blk.keep0 (Blk.drew (Blk.new' _ _ _ (by simp))) hb4; have z0 := hB4.cell 0; have z1 := hB4.cell 1; have zf0 := hB4.frozen 0; have zf1 := hB4.frozen 1; have zl := hB4.lt))))
    all_goals
      first
        | (have K4 : Kept [] w2 w4 := hb4.then_ (by (repeat' (first | (with_reducible exact Kept.refl _ _) | (with_reducible assumption) | (with_reducible refine Kept.then_ (by with_reducible assumption) ?_) | (with_reducible refine Kept.thenS (by with_reducible assumption) ?_) | (with_reducible refine Kept.alloc ?_ _) | (with_reducible refine Kept.drew ?_) | (with_reducible refine Kept.drewN ?_ _) | (with_reducible refine Kept.setNew ?_ ?_ _) | ((try simp only [World.size_alloc, World.size_setCell, World.size_drew, size_drewN] at *); (try dsimp only); omega))))
           have hsz4 := K4.size
           have L4 := Lib.hid hB4
           have HK4 := Lib.hid K4
           go_wp2_with fail
           go_meet
           refine ⟨rfl, rfl, rfl, w2.heap.size, rfl, Lib.hid (Blk.cast (Blk.set_ (Blk.set_ L4.out 0 _) 1 _) (by simp)), Lib.hid ?_⟩
           repeat (first | exact HK4.out | refine Kept.drew ?_ | refine Kept.setNew ?_ (Nat.le_refl _) _))
        | (have K4 : Kept [] w2 w4 := hb4.then_ (by (repeat' (first | (with_reducible exact Kept.refl _ _) | (with_reducible assumption) | (with_reducible refine Kept.then_ (by with_reducible assumption) ?_) | (with_reducible refine Kept.thenS (by with_reducible assumption) ?_) | (with_reducible refine Kept.alloc ?_ _) | (with_reducible refine Kept.drew ?_) | (with_reducible refine Kept.drewN ?_ _) | (with_reducible refine Kept.setNew ?_ ?_ _) | ((try simp only [World.size_alloc, World.size_setCell, World.size_drew, size_drewN] at *); (try dsimp only); omega))))
           have hsz4 := K4.size
           have HK4 := Lib.hid K4
           go_wp2_with fail
           go_meet
           exact ⟨rfl, rfl, rfl, w4.heap.size, rfl, Lib.hid (Blk.new w4 _ _), Lib.hid (HK4.out.alloc _)⟩)
  case rest =>
    obtain ⟨rfl, rfl, rfl, bo, rfl, hL, hk⟩ := hcut
    obtain ⟨w5, hw5⟩ : ∃ w5, w5 = wc := ⟨_, rfl⟩
    subst hw5
    have k5 : w5.cell? ⟨p, 5, none⟩ = some (.pointer (some ⟨mp, 0, none⟩)) := Kept.at_ hk.out l2 k5
    have l5 := Nat.lt_of_lt_of_le l2 hk.out.size
    have DP5 := Lib.hid (DP.out w5 bo (hk.out.then_ K2.out) hL.out)
    clear k2 l2 k13
    go_wp2_with fail
    (with_reducible refine DP5.out.mono ?_)
    rintro e w6 ⟨⟨A3, c3, rfl, hO3, _⟩, hk6⟩
    have K6 := Lib.hid (hk6.then_ hk.out)
    have hs5 := (hk.out.then_ K2.out).size
    have O3 : Hid (OwnI w.heap.size .u64 26 w6 (.slice A3 a.po.length c3) (toI a.po)) := Lib.hid (OwnI.less hO3 hs5)
    clear hO3 hk6 k5 l5 hs5
    go_wp2_with fail
    refine bodyPost_ret (v := .tuple #[.slice A1 a.fr.length c1, .slice A2 a.lo.length c2, .slice A3 a.po.length c3, .int .i64 0]) (by simp [results, Try.results26, go_sem]) rfl ?_
    exact ⟨⟨A1, c1, A2, c2, A3, c3, rfl, O1'.out.kept K6.out, O2.out.kept K6.out, O3.out⟩, K6.out.then_ K2.out⟩
theorem x_lists {W w : World} {p mp g : Nat} {a : PgA} (h : PgX W w p mp g a) : Calls Try.prog 26 #[.pointer (some ⟨p, 0, none⟩)] w (ListsAre w a) := by
  obtain ⟨⟨zs, ⟨fh, lh, hd, hR⟩, hok⟩, h2, h3, h4⟩ := h
  exact lists_any w p mp g a zs fh lh hd hR hok
end Go.Proofs.Ytgiokigokedakaa
