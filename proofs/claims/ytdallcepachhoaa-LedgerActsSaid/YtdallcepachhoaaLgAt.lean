/- one, At, In. -/
import Derived.Test.YtdallcepachhoaaLgTurn
set_option linter.unusedVariables false
set_option linter.unusedSimpArgs false
namespace Go.Proofs.Ytdallcepachhoaa
open Go.RowKit
def ansB (b : BlkT) (e : Int) : Value := .tuple #[.agg #[.int .u64 b.1, .int .u64 b.2.1, .int .u64 b.2.2], .int .i64 e]
/-- The i-th, unless it is held. -/
def oneP (ls : List EntT) (k : Nat) : BlkT × Int := if (re ls k).2.2.2 = true then ((0, 0, 0), 7) else (bk (re ls k), 0)
set_option maxRecDepth 100000 in
set_option maxHeartbeats 2000000 in
theorem one_any (S : List Nat) (w : World) (p : Nat) (ls : List EntT) (h : LgS S w p ls) (k : Nat) (hk : k < ls.length) (hl : ls.length ≤ 1000) (r : BlkT × Int) (hr : oneP ls k = r) :
    Calls Try.prog 32 #[.pointer (some ⟨p, 0, none⟩), .int .i64 (k : Int)] w fun e w' => e = .returned (ansB r.1 r.2) ∧ Kept [] w w' := by
  subst hr
  obtain ⟨g, c, c0, hnc, _, hgp, hc⟩ := h.ent k hk
  obtain ⟨x0, x1, x2, x3⟩ := hc.2 k hk
  have hgl := hc.1
  have hpl := h.ltp
  have q1 : (0 : Int) ≤ (k : Int) := by omega
  have q2 : (k : Int) < (ls.length : Int) := by omega
  unfold oneP
  generalize re ls k = e at *
  obtain ⟨ea, en, el, eh⟩ := e
  dsimp only at x0 x1 x2 x3
  clear h hc
  cases eh with
  | true =>
    go_enter Try.func32, Try.ntmps32
    go_wp2_with fail
    refine bodyPost_ret (v := ansB (0, 0, 0) 7) (by simp [results, Try.results32, go_sem, ansB]) rfl ⟨rfl, by (repeat' (first | (with_reducible exact Kept.refl _ _) | (with_reducible assumption) | (with_reducible refine Kept.then_ (by with_reducible assumption) ?_) | (with_reducible refine Kept.thenS (by with_reducible assumption) ?_) | (with_reducible refine Kept.alloc ?_ _) | (with_reducible refine Kept.drew ?_) | (with_reducible refine Kept.drewN ?_ _) | (with_reducible refine Kept.setNew ?_ ?_ _) | ((try simp only [World.size_alloc, World.size_setCell, World.size_drew, size_drewN] at *); (try dsimp only); omega)))⟩
  | false =>
    go_enter Try.func32, Try.ntmps32
    go_wp2_with fail
    refine bodyPost_ret (v := ansB (ea, en, el) 0) (by simp [results, Try.results32, go_sem, ansB]) rfl ⟨rfl, by (repeat' (first | (with_reducible exact Kept.refl _ _) | (with_reducible assumption) | (with_reducible refine Kept.then_ (by with_reducible assumption) ?_) | (with_reducible refine Kept.thenS (by with_reducible assumption) ?_) | (with_reducible refine Kept.alloc ?_ _) | (with_reducible refine Kept.drew ?_) | (with_reducible refine Kept.drewN ?_ _) | (with_reducible refine Kept.setNew ?_ ?_ _) | ((try simp only [World.size_alloc, World.size_setCell, World.size_drew, size_drewN] at *); (try dsimp only); omega)))⟩
/-- The one that begins at an address. -/
def atP (ls : List EntT) (z : Int) : BlkT × Int := match idxL ls z with
  | none => ((0, 0, 0), 5)
  | some k => oneP ls k
set_option maxRecDepth 100000 in
set_option maxHeartbeats 2000000 in
theorem at_any (S : List Nat) (w : World) (p : Nat) (ls : List EntT) (h : LgS S w p ls) (hi : LInv ls) (hl : ls.length ≤ 1000) (z : Int) (r : BlkT × Int) (hr : atP ls z = r) :
    Calls Try.prog 20 #[.pointer (some ⟨p, 0, none⟩), .int .u64 z] w fun e w' => e = .returned (ansB r.1 r.2) ∧ Kept [] w w' := by
  obtain ⟨k, hk⟩ := at_ex hi z
  have hpl := h.ltp
  have HS : Hid (∀ w', Kept [] w w' → LgS S w' p ls) := Lib.hid (fun w' hk' => h.keep0 hk')
  cases hh : hitG ls z k with
  | false =>
    have hm := idx_miss hi hk hh
    unfold atP at hr
    rw [hm] at hr
    subst hr
    have DP := Lib.hid (fun w' (hk' : Kept [] w w') => place_any S w' p ls (h.keep0 hk') z (by omega) k hk false hh)
    clear h hm hk hh hi
    go_enter Try.func20, Try.ntmps20
    go_wp2_with fail
    (with_reducible refine (DP.out _ (by (repeat' (first | (with_reducible exact Kept.refl _ _) | (with_reducible assumption) | (with_reducible refine Kept.then_ (by with_reducible assumption) ?_) | (with_reducible refine Kept.thenS (by with_reducible assumption) ?_) | (with_reducible refine Kept.alloc ?_ _) | (with_reducible refine Kept.drew ?_) | (with_reducible refine Kept.drewN ?_ _) | (with_reducible refine Kept.setNew ?_ ?_ _) | ((try simp only [World.size_alloc, World.size_setCell, World.size_drew, size_drewN] at *); (try dsimp only); omega))))).mono ?_)
    rintro e w1 ⟨rfl, hb1⟩
    have B1 := (Blk.new w 33 _).keep0 hb1
    have B1c := B1.cell
    have B1f := B1.frozen
    have B1l := B1.lt
    go_wp2_with fail
    refine bodyPost_ret (v := ansB (0, 0, 0) 5) (by simp [results, Try.results20, go_sem, ansB, B1l, B1c]) rfl ⟨rfl, by (repeat' (first | (with_reducible exact Kept.refl _ _) | (with_reducible assumption) | (with_reducible refine Kept.then_ (by with_reducible assumption) ?_) | (with_reducible refine Kept.thenS (by with_reducible assumption) ?_) | (with_reducible refine Kept.alloc ?_ _) | (with_reducible refine Kept.drew ?_) | (with_reducible refine Kept.drewN ?_ _) | (with_reducible refine Kept.setNew ?_ ?_ _) | ((try simp only [World.size_alloc, World.size_setCell, World.size_drew, size_drewN] at *); (try dsimp only); omega)))⟩
  | true =>
    obtain ⟨hm, hkl⟩ := idx_hit hi hk hh
    unfold atP at hr
    rw [hm] at hr
    simp only at hr
    have DP := Lib.hid (fun w' (hk' : Kept [] w w') => place_any S w' p ls (h.keep0 hk') z (by omega) k hk true hh)
    have D1 := Lib.hid (fun w' (hk' : Kept [] w w') => one_any S w' p ls (h.keep0 hk') k hkl hl r hr)
    clear h hm hk hh hi hr
    obtain ⟨⟨ra, rn, rl⟩, er⟩ := r
    unfold ansB at D1
    dsimp only at D1
    go_enter Try.func20, Try.ntmps20
    go_wp2_with fail
    (with_reducible refine (DP.out _ (by (repeat' (first | (with_reducible exact Kept.refl _ _) | (with_reducible assumption) | (with_reducible refine Kept.then_ (by with_reducible assumption) ?_) | (with_reducible refine Kept.thenS (by with_reducible assumption) ?_) | (with_reducible refine Kept.alloc ?_ _) | (with_reducible refine Kept.drew ?_) | (with_reducible refine Kept.drewN ?_ _) | (with_reducible refine Kept.setNew ?_ ?_ _) | ((try simp only [World.size_alloc, World.size_setCell, World.size_drew, size_drewN] at *); (try dsimp only); omega))))).mono ?_)
    rintro e w1 ⟨rfl, hb1⟩
    have B1 := (Blk.new w 33 _).keep0 hb1
    go_wp2_with fail
    (with_reducible refine (D1.out _ (by (repeat' (first | (with_reducible exact Kept.refl _ _) | (with_reducible assumption) | (with_reducible refine Kept.then_ (by with_reducible assumption) ?_) | (with_reducible refine Kept.thenS (by with_reducible assumption) ?_) | (with_reducible refine Kept.alloc ?_ _) | (with_reducible refine Kept.drew ?_) | (with_reducible refine Kept.drewN ?_ _) | (with_reducible refine Kept.setNew ?_ ?_ _) | ((try simp only [World.size_alloc, World.size_setCell, World.size_drew, size_drewN] at *); (try dsimp only); omega))))).mono ?_)
    rintro e w2 ⟨rfl, hb2⟩
    have B2 := B1.keep0 hb2
    have B2c := B2.cell
    have B2f := B2.frozen
    have B2l := B2.lt
    go_wp2_with fail
    refine bodyPost_ret (v := ansB (ra, rn, rl) er) (by simp [results, Try.results20, go_sem, ansB, B2l, B2c]) rfl ⟨rfl, by (repeat' (first | (with_reducible exact Kept.refl _ _) | (with_reducible assumption) | (with_reducible refine Kept.then_ (by with_reducible assumption) ?_) | (with_reducible refine Kept.thenS (by with_reducible assumption) ?_) | (with_reducible refine Kept.alloc ?_ _) | (with_reducible refine Kept.drew ?_) | (with_reducible refine Kept.drewN ?_ _) | (with_reducible refine Kept.setNew ?_ ?_ _) | ((try simp only [World.size_alloc, World.size_setCell, World.size_drew, size_drewN] at *); (try dsimp only); omega)))⟩
end Go.Proofs.Ytdallcepachhoaa
