/- Regions never meet, are within the segments, and never more than the limit. No condition. -/
import Derived.Test.YtekblfnemcaaeaaArUp
import Derived.Test.YtekblfnemcaaeaaArActs
set_option linter.unusedVariables false
set_option linter.unusedSimpArgs false
namespace Go.Proofs.Ytekblfnemcaaeaa
open Go.RowKit
/-- A slice of regions: empty, or at the head of a block. -/
def ListG (w : World) (A : Option Addr) (ls : List RegT) : Prop := 0 < ls.length → ∃ g, A = some ⟨g, 0, none⟩ ∧ CellsG w g ls
theorem ListG.keep {w w' : World} {A : Option Addr} {ls : List RegT} (h : ListG w A ls) (hk : Kept [] w w') : ListG w' A ls := fun h0 => by
  obtain ⟨g, e, hc⟩ := h h0
  exact ⟨g, e, hc.keep hk⟩
theorem listG_of {B : Nat} {w : World} {v : Value} {ls : List RegT} (ho : OwnS B 39 2 encG w v ls) : ∃ A c, v = .slice A ls.length c ∧ ListG w A ls := by
  rcases ho.2 with ⟨rfl, h0⟩ | ⟨g, cap, cur, rfl, _⟩
  · exact ⟨none, 0, by rw [h0], fun h => by omega⟩
  · exact ⟨_, cap, rfl, fun _ => ⟨g, rfl, ho.cellsG⟩⟩
theorem rowB_bools {W : World} {a : Option Addr} {len cap : Nat} {B : Nat → Bool} (h : IsBools W a len cap B) : RowB W a ((List.range len).map B) ∧ (a = none → cap = 0) := by
  constructor
  · intro h0
    simp at h0
    obtain ⟨x, rfl, hx, _⟩ := h.get h0
    refine ⟨x, rfl, fun i hi => ?_⟩
    simp at hi
    obtain ⟨x', hx', _, hc⟩ := h.get hi
    cases hx'
    rw [hc W (Kept.refl _ _)]
    simp [hi]
  · rcases h with ⟨rfl, rfl, rfl⟩ | ⟨x, rfl, _⟩
    · exact fun _ => rfl
    · intro h; cases h
theorem total_take (ls : List RegT) (i : Nat) (h : i < ls.length) : total (ls.take (i + 1)) = total (ls.take i) + (rg ls i).2 := by
  rw [List.take_succ_eq_append_getElem h, total_app]
  have := rg_some h
  rw [List.getElem?_eq_getElem h] at this
  injection this with this
  rw [this]
  simp [total]
namespace ArenaApart
open Go.RowKit Go.ChangeShapes Go.WideShapes Go.ChangeAt Go.Joins
/-- Behind i acts. -/
def St (n k i : Nat) (a : Ar) : Prop := Inv a ∧ a.n = n ∧ a.lim = k ∧ a.ts.length ≤ 1000 ∧ 0 ≤ a.ref ∧ a.ref ≤ i
def StK (W : World) (p n k i : Nat) (w : World) : Prop := ∃ a, St n k i a ∧ UpK W w p a
theorem StK.ltp {W w : World} {p n k i : Nat} (h : StK W p n k i w) : p < w.heap.size := by
  obtain ⟨a, _, h⟩ := h
  exact h.ltp
theorem StK.keep0 {W w w' : World} {p n k i : Nat} (h : StK W p n k i w) (hk : Kept [] w w') : StK W p n k i w' := by
  obtain ⟨a, h1, h⟩ := h
  exact ⟨a, h1, h.keep0 hk⟩
theorem StK.kept {W w : World} {p n k i : Nat} (h : StK W p n k i w) : Kept [] W w := by
  obtain ⟨a, _, h⟩ := h
  exact h.2
def AnyI (W : World) (p n k i : Nat) (e : Ending) (w' : World) : Prop := ∃ x : Int, e = .returned (.int .i64 x) ∧ StK W p n k i w'
def AnyT (W : World) (p n k i : Nat) (e : Ending) (w' : World) : Prop := ∃ x y : Int, e = .returned (.tuple #[.int .i64 x, .int .i64 y]) ∧ StK W p n k i w'
theorem res_st {W w : World} {p n k i : Nat} (h : StK W p n k i w) (hi : i ≤ 1000) (m : Int) : Calls Try.prog 11 #[.pointer (some ⟨p, 0, none⟩), .int .i64 m] w (AnyT W p n k (i + 1)) := by
  obtain ⟨a, ⟨h1, h2, h3, h4, h5, h6⟩, hu⟩ := h
  refine (up_res W w p a hu h1 h4 (by omega) m).mono fun e w' ⟨x, er, a', he, hR, hU⟩ => ⟨x, er, he, a', ⟨hR.inv h1, ?_⟩, hU⟩
  have ht : a.ts.tail.length ≤ 1000 := by rw [List.length_tail]; omega
  rcases hR with ⟨_, _, _, rfl⟩ | ⟨_, _, _, _, rfl⟩ | ⟨at_, m, j, _, _, _, _, _, _, _, _, _, _, rfl⟩
  · exact ⟨h2, h3, h4, h5, by omega⟩
  · exact ⟨h2, h3, ht, by show 0 ≤ a.ref + 1; omega, by show a.ref + 1 ≤ _; omega⟩
  · exact ⟨h2, h3, ht, h5, by show a.ref ≤ _; omega⟩
theorem rel_st {W w : World} {p n k i : Nat} (h : StK W p n k i w) (m : Int) : Calls Try.prog 12 #[.pointer (some ⟨p, 0, none⟩), .int .i64 m] w (AnyI W p n k (i + 1)) := by
  obtain ⟨a, ⟨h1, h2, h3, h4, h5, h6⟩, hu⟩ := h
  refine (up_rel W w p a hu h1 m).mono fun e w' ⟨er, a', he, hR, hU⟩ => ⟨er, he, a', ⟨hR.inv h1, ?_⟩, hU⟩
  rcases hR with ⟨_, _, rfl⟩ | ⟨at_, m, j, _, _, _, _, _, rfl⟩
  · exact ⟨h2, h3, h4, h5, by omega⟩
  · exact ⟨h2, h3, h4, h5, by show a.ref ≤ _; omega⟩
theorem ref_st {W w : World} {p n k i : Nat} (h : StK W p n k i w) (A : Option Addr) (l c : Nat) (B : Nat → Bool) (hB : IsBools W A l c B) (hl : l ≤ 140737488351232) : Calls Try.prog 15 #[.pointer (some ⟨p, 0, none⟩), .slice A l c] w (AnyI W p n k (i + 1)) := by
  obtain ⟨a, ⟨h1, h2, h3, h4, h5, h6⟩, ⟨⟨S, k1, k2⟩, k3⟩⟩ := h
  obtain ⟨r1, r2⟩ := rowB_bools hB
  by_cases hc : a.ts.length + l ≤ 1000
  · refine (refuse_ok S w p a k1 A l c _ (by simp) (r1.keep k3) r2 (by simpa using hc)).mono fun e w' ⟨he, S', l1, l2, l3⟩ => ⟨_, he, { a with ts := a.ts ++ (List.range l).map B }, ⟨h1.tell _, h2, h3, by simpa using hc, h5, by show a.ref ≤ _; omega⟩, UpK.left k2 k3 ⟨S', l1, l2, l3⟩⟩
  · exact (refuse_full S w p a k1 A l c h4 (by omega) (by omega)).mono fun e w' ⟨he, hk⟩ => ⟨_, he, a, ⟨h1, h2, h3, h4, h5, by omega⟩, ⟨⟨S, k1.keep0 hk, k2⟩, hk.then_ k3⟩⟩
/-- What Regions hands on, and what it stands for. -/
def RegsK (W : World) (p n k i : Nat) (e : Ending) (w' : World) : Prop := ∃ (ls : List RegT) (A : Option Addr) (c : Nat), e = .returned (.slice A ls.length c) ∧ Good n ls ∧ total ls ≤ k ∧ ls.length ≤ 64 ∧ ListG w' A ls ∧ StK W p n k i w' ∧
  ∀ w'', Kept [] w' w'' → Calls Try.prog 13 #[.pointer (some ⟨p, 0, none⟩)] w'' fun e w3 => e = .returned (.int .i64 (total ls)) ∧ Kept [] w'' w3
theorem regs_st {W w : World} {p n k i : Nat} (h : StK W p n k i w) : Calls Try.prog 16 #[.pointer (some ⟨p, 0, none⟩)] w (RegsK W p n k i) := by
  obtain ⟨a, ⟨h1, h2, h3, h4, h5, h6⟩, hu⟩ := h
  have hu' := hu
  obtain ⟨⟨S, k1, k2⟩, k3⟩ := hu
  have hf := h1.few
  refine (regions_ar S w p a k1 (by omega)).mono fun e w' ⟨⟨v, he, ho⟩, hk⟩ => ?_
  obtain ⟨A, c, rfl, hrow⟩ := listG_of ho
  exact ⟨a.ls, A, c, he, by rw [← h2]; exact h1.good, by have := h1.le; omega, hf, hrow, ⟨a, ⟨h1, h2, h3, h4, h5, h6⟩, hu'.keep0 hk⟩, fun w'' hk'' => up_given W w'' p a (hu'.keep0 (hk''.then_ hk)) h1 _ rfl⟩
set_option maxRecDepth 100000 in
set_option maxHeartbeats 4000000 in
theorem walk (x y : Int) (a2 : Option Addr) (len2 cap2 : Nat) (z2 : Unit) (W : World) (wx : (Lit.int .u8 x).wf = true) (wy : (Lit.int .u8 y).wf = true) (w2 : IsActL W a2 len2 cap2 z2) :
    Calls Try.prog 8 #[.int .u8 x, .int .u8 y, .slice a2 len2 cap2] W fun e W' => e = .returned (.bool true) ∧ Below W.heap.size W W' := by
  have b1 := bounds_u8 wx
  have b2 := bounds_u8 wy
  have HA := Lib.hid w2
  clear wx wy w2
  obtain ⟨n, hn⟩ : ∃ n : Nat, x % 64 + 1 = (n : Int) := ⟨(x % 64 + 1).toNat, by omega⟩
  have hn1 : 1 ≤ n ∧ n ≤ 64 := by omega
  obtain ⟨k, hk⟩ : ∃ k : Nat, y % ((n : Int) + 1) = (k : Int) := ⟨(y % ((n : Int) + 1)).toNat, by
    have := Int.emod_nonneg y (show (n : Int) + 1 ≠ 0 by omega)
    omega⟩
  have hkn : k ≤ n := by
    have := Int.emod_lt_of_pos y (show 0 < (n : Int) + 1 by omega)
    omega
  have C1 := Lib.hid (alive_any W)
  have C2 : Hid (∀ w, Kept [] W w → Calls Try.prog 10 #[.int .i64 n, .int .i64 k] w fun e w' => ∃ p, e = .returned (.tuple #[.pointer (some ⟨p, 0, none⟩), .int .i64 0]) ∧ StK W p n k 0 w') := Lib.hid (fun w hk' => (up_new W w hk' n k (by omega) (by omega) (by omega)).mono fun e w' ⟨p, he, hu⟩ => ⟨p, he, _, ⟨inv_new n k (by omega) (by omega) (by omega), rfl, rfl, by simp, Int.le_refl _, by show (0 : Int) ≤ _; omega⟩, hu⟩)
  by_cases hlen : len2 ≤ 100
  · have q0 : (len2 : Int) ≤ 100 := by omega
    go_enter Try.func8, Try.ntmps8
    go_wp2_with fail
    (with_reducible refine (C1.out).mono ?_)
    rintro e w1 ⟨rfl, hb1⟩
    have hs1 := hb1.size
    (try simp only [World.size_alloc, World.size_setCell, World.size_drew, size_drewN] at hs1)
    go_wp2_with fail
    (with_reducible refine (C2.out _ hb1).mono ?_)
    rintro e w2 ⟨p, rfl, hs2⟩
    have S2 := Lib.hid hs2
    clear hs2 hb1
    have hp2 := S2.out.ltp
    go_wp2_with fail
    go_loopw [45] (fun v wr => ∃ i : Nat, i ≤ len2 ∧ v = .int .i64 i ∧ Hid (StK W p n k i wr)) (fun v _ => (len2 - intOf v).toNat)
    case atStart => exact ⟨0, Nat.zero_le _, rfl, S2⟩
    case round =>
      obtain ⟨i, hi, rfl, hs⟩ := hrel
      have hpr := hs.out.ltp
      by_cases hlt : i < len2
      · obtain ⟨ad, z, rfl, hadl, hB, hl, wk, wn, hcs⟩ := HA.out.get hlt
        obtain ⟨c0, c1, c2⟩ := hcs wr hs.out.kept
        have bk := bounds_i64 wk
        have bn := bounds_i64 wn
        have HB := Lib.hid hB
        obtain ⟨zk, zn, zA, zl, zc, zB⟩ := z
        dsimp only at *
        have d0 : decide (i < len2) = true := by simp; omega
        have DR := Lib.hid (fun w h => res_st (W := W) (w := w) (p := p) (n := n) (k := k) (i := i) h (by omega) zn)
        have DL := Lib.hid (fun w h => rel_st (W := W) (w := w) (p := p) (n := n) (k := k) (i := i) h zn)
        have DF := Lib.hid (fun w h => ref_st (W := W) (w := w) (p := p) (n := n) (k := k) (i := i) h zA zl zc zB HB.out hl)
        have DG := Lib.hid (fun w h => regs_st (W := W) (w := w) (p := p) (n := n) (k := k) (i := i + 1) h)
        clear hcs wk wn hB hl
        obtain ⟨wo, rfl⟩ : ∃ wo : World, wo = wr := ⟨_, rfl⟩
        by_cases e1 : zk = 1
        · subst e1
          go_wp2_with fail
          (with_reducible refine (DL.out _ (hs.out.keep0 (by (repeat' (first | (with_reducible exact Kept.refl _ _) | (with_reducible assumption) | (with_reducible refine Kept.then_ (by with_reducible assumption) ?_) | (with_reducible refine Kept.thenS (by with_reducible assumption) ?_) | (with_reducible refine Kept.alloc ?_ _) | (with_reducible refine Kept.drew ?_) | (with_reducible refine Kept.drewN ?_ _) | (with_reducible refine Kept.setNew ?_ ?_ _) | ((try simp only [World.size_alloc, World.size_setCell, World.size_drew, size_drewN] at *); (try dsimp only); omega)))))).mono ?_)
          rintro e w4 ⟨x4, rfl, hs4⟩
          have S4 := Lib.hid hs4
          clear hs4
          go_wp2_with fail
          (with_reducible refine (DG.out _ S4.out).mono ?_)
          rintro e w5 ⟨ls, A, c, rfl, hgood, htot, hfew, hrow, hs5, hgv⟩
          have G := Lib.hid hgood
          have T := Lib.hid htot
          have R := Lib.hid hrow
          have S5 := Lib.hid hs5
          have GV := Lib.hid hgv
          have hp5 := hs5.ltp
          clear hgood htot hrow hs5 hgv
          go_wp2_with fail
          go_loopw [13, 14, 70] (fun s t v w6 => ∃ (j : Nat) (sm en : Int), j ≤ ls.length ∧ s = .int .i64 sm ∧ t = .int .i64 en ∧ v = .int .i64 j ∧ Hid (sm = total (ls.take j)) ∧ 0 ≤ sm ∧ sm ≤ 64 * (j : Int) ∧ 0 ≤ en ∧ en ≤ 64 ∧ Hid (∀ q, j ≤ q → q < ls.length → en ≤ (rg ls q).1) ∧ Hid (Kept [] w5 w6)) (fun _ _ v _ => (ls.length - intOf v).toNat)
          case atStart => exact ⟨0, 0, 0, Nat.zero_le _, rfl, rfl, rfl, Lib.hid (by simp [total]), by omega, by omega, by omega, by omega, Lib.hid (fun q _ hq => (G.out.1 _ (rg_mem hq)).1), Lib.hid (Kept.refl _ _)⟩
          case round =>
            obtain ⟨j, sm, en, hj, rfl, rfl, rfl, hsm, hsm0, hsm1, hen0, hen1, hq, hk6⟩ := hrel
            by_cases hjl : j < ls.length
            · have R6 := R.out.keep hk6.out
              obtain ⟨xg, rfl, hcG⟩ := R6 (by omega)
              have hxl := hcG.1
              have hz6 := hk6.out.size
              obtain ⟨k0, k1⟩ := hcG.2 j hjl
              have hr1 := G.out.1 _ (rg_mem hjl)
              have hr2 := hq.out j (Nat.le_refl _) hjl
              have HT := Lib.hid (total_take ls j hjl)
              have HQ : Hid (∀ q, j + 1 ≤ q → q < ls.length → (rg ls j).1 + (rg ls j).2 ≤ (rg ls q).1) := Lib.hid (fun q h1 h2 => by
                have hp := G.out.2
                rw [List.pairwise_iff_getElem] at hp
                have h3 := hp j q hjl h2 (by omega)
                have e1 := rg_some hjl
                have e2 := rg_some h2
                rw [List.getElem?_eq_getElem hjl] at e1
                rw [List.getElem?_eq_getElem h2] at e2
                injection e1 with e1
                injection e2 with e2
                rw [e1, e2] at h3
                exact h3)
              have dj : decide (j < ls.length) = true := by simp; omega
              generalize rg ls j = r at *
              obtain ⟨ra, rn⟩ := r
              dsimp only at k0 k1 hr1 hr2
              have t1 : decide (ra < en) = false := by simp; omega
              have t2 : decide (rn < 1) = false := by simp; omega
              have t3 : decide ((n : Int) < ra + rn) = false := by simp; omega
              clear R6 hcG
              go_wp2_with fail
              go_roundw
              case rel =>
                have E7 : Hid (sm + rn = total (ls.take (j + 1))) := Lib.hid (by rw [HT.out, ← hsm.out])
                first | exact ⟨j + 1, sm + rn, ra + rn, by omega, rfl, rfl, by go_num, E7, by omega, by omega, by omega, by omega, HQ, Lib.hid (by have := hk6.out; (repeat' (first | (with_reducible exact Kept.refl _ _) | (with_reducible assumption) | (with_reducible refine Kept.then_ (by with_reducible assumption) ?_) | (with_reducible refine Kept.thenS (by with_reducible assumption) ?_) | (with_reducible refine Kept.alloc ?_ _) | (with_reducible refine Kept.drew ?_) | (with_reducible refine Kept.drewN ?_ _) | (with_reducible refine Kept.setNew ?_ ?_ _) | ((try simp only [World.size_alloc, World.size_setCell, World.size_drew, size_drewN] at *); (try dsimp only); omega))))⟩ | ((repeat apply Exists.intro); exact ⟨⟨j + 1, sm + rn, ra + rn, by omega, rfl, rfl, by go_num, E7, by omega, by omega, by omega, by omega, HQ, Lib.hid (by have := hk6.out; (repeat' (first | (with_reducible exact Kept.refl _ _) | (with_reducible assumption) | (with_reducible refine Kept.then_ (by with_reducible assumption) ?_) | (with_reducible refine Kept.thenS (by with_reducible assumption) ?_) | (with_reducible refine Kept.alloc ?_ _) | (with_reducible refine Kept.drew ?_) | (with_reducible refine Kept.drewN ?_ _) | (with_reducible refine Kept.setNew ?_ ?_ _) | ((try simp only [World.size_alloc, World.size_setCell, World.size_drew, size_drewN] at *); (try dsimp only); omega))))⟩, rfl⟩)
              case measure => simp [intOf]; omega
            · obtain rfl : j = ls.length := by omega
              have hst : sm = total ls := by have := hsm.out; rwa [List.take_length] at this
              have hsk : sm ≤ (k : Int) := by rw [hst]; exact T.out
              have GV6 := Lib.hid (GV.out _ hk6.out)
              rw [← hst] at GV6
              have S6 := Lib.hid (S5.out.keep0 hk6.out)
              clear hst
              go_wp2_with fail
              (with_reducible refine GV6.out.mono ?_)
              rintro e w8 ⟨rfl, hb8⟩
              have S8 := Lib.hid (S6.out.keep0 hb8)
              clear hb8
              go_wp2_with fail
              go_roundw
              case rel => first | exact ⟨i + 1, by omega, by go_num, S8⟩ | ((repeat apply Exists.intro); exact ⟨⟨i + 1, by omega, by go_num, S8⟩, rfl⟩)
              case measure => simp [intOf]; omega
        · by_cases e2 : zk = 2
          · subst e2
            go_wp2_with fail
            (with_reducible refine (DF.out _ (hs.out.keep0 (by (repeat' (first | (with_reducible exact Kept.refl _ _) | (with_reducible assumption) | (with_reducible refine Kept.then_ (by with_reducible assumption) ?_) | (with_reducible refine Kept.thenS (by with_reducible assumption) ?_) | (with_reducible refine Kept.alloc ?_ _) | (with_reducible refine Kept.drew ?_) | (with_reducible refine Kept.drewN ?_ _) | (with_reducible refine Kept.setNew ?_ ?_ _) | ((try simp only [World.size_alloc, World.size_setCell, World.size_drew, size_drewN] at *); (try dsimp only); omega)))))).mono ?_)
            rintro e w4 ⟨x4, rfl, hs4⟩
            have S4 := Lib.hid hs4
            clear hs4
            go_wp2_with fail
            (with_reducible refine (DG.out _ S4.out).mono ?_)
            rintro e w5 ⟨ls, A, c, rfl, hgood, htot, hfew, hrow, hs5, hgv⟩
            have G := Lib.hid hgood
            have T := Lib.hid htot
            have R := Lib.hid hrow
            have S5 := Lib.hid hs5
            have GV := Lib.hid hgv
            have hp5 := hs5.ltp
            clear hgood htot hrow hs5 hgv
            go_wp2_with fail
            go_loopw [13, 14, 70] (fun s t v w6 => ∃ (j : Nat) (sm en : Int), j ≤ ls.length ∧ s = .int .i64 sm ∧ t = .int .i64 en ∧ v = .int .i64 j ∧ Hid (sm = total (ls.take j)) ∧ 0 ≤ sm ∧ sm ≤ 64 * (j : Int) ∧ 0 ≤ en ∧ en ≤ 64 ∧ Hid (∀ q, j ≤ q → q < ls.length → en ≤ (rg ls q).1) ∧ Hid (Kept [] w5 w6)) (fun _ _ v _ => (ls.length - intOf v).toNat)
            case atStart => exact ⟨0, 0, 0, Nat.zero_le _, rfl, rfl, rfl, Lib.hid (by simp [total]), by omega, by omega, by omega, by omega, Lib.hid (fun q _ hq => (G.out.1 _ (rg_mem hq)).1), Lib.hid (Kept.refl _ _)⟩
            case round =>
              obtain ⟨j, sm, en, hj, rfl, rfl, rfl, hsm, hsm0, hsm1, hen0, hen1, hq, hk6⟩ := hrel
              by_cases hjl : j < ls.length
              · have R6 := R.out.keep hk6.out
                obtain ⟨xg, rfl, hcG⟩ := R6 (by omega)
                have hxl := hcG.1
                have hz6 := hk6.out.size
                obtain ⟨k0, k1⟩ := hcG.2 j hjl
                have hr1 := G.out.1 _ (rg_mem hjl)
                have hr2 := hq.out j (Nat.le_refl _) hjl
                have HT := Lib.hid (total_take ls j hjl)
                have HQ : Hid (∀ q, j + 1 ≤ q → q < ls.length → (rg ls j).1 + (rg ls j).2 ≤ (rg ls q).1) := Lib.hid (fun q h1 h2 => by
                  have hp := G.out.2
                  rw [List.pairwise_iff_getElem] at hp
                  have h3 := hp j q hjl h2 (by omega)
                  have e1 := rg_some hjl
                  have e2 := rg_some h2
                  rw [List.getElem?_eq_getElem hjl] at e1
                  rw [List.getElem?_eq_getElem h2] at e2
                  injection e1 with e1
                  injection e2 with e2
                  rw [e1, e2] at h3
                  exact h3)
                have dj : decide (j < ls.length) = true := by simp; omega
                generalize rg ls j = r at *
                obtain ⟨ra, rn⟩ := r
                dsimp only at k0 k1 hr1 hr2
                have t1 : decide (ra < en) = false := by simp; omega
                have t2 : decide (rn < 1) = false := by simp; omega
                have t3 : decide ((n : Int) < ra + rn) = false := by simp; omega
                clear R6 hcG
                go_wp2_with fail
                go_roundw
                case rel =>
                  have E7 : Hid (sm + rn = total (ls.take (j + 1))) := Lib.hid (by rw [HT.out, ← hsm.out])
                  first | exact ⟨j + 1, sm + rn, ra + rn, by omega, rfl, rfl, by go_num, E7, by omega, by omega, by omega, by omega, HQ, Lib.hid (by have := hk6.out; (repeat' (first | (with_reducible exact Kept.refl _ _) | (with_reducible assumption) | (with_reducible refine Kept.then_ (by with_reducible assumption) ?_) | (with_reducible refine Kept.thenS (by with_reducible assumption) ?_) | (with_reducible refine Kept.alloc ?_ _) | (with_reducible refine Kept.drew ?_) | (with_reducible refine Kept.drewN ?_ _) | (with_reducible refine Kept.setNew ?_ ?_ _) | ((try simp only [World.size_alloc, World.size_setCell, World.size_drew, size_drewN] at *); (try dsimp only); omega))))⟩ | ((repeat apply Exists.intro); exact ⟨⟨j + 1, sm + rn, ra + rn, by omega, rfl, rfl, by go_num, E7, by omega, by omega, by omega, by omega, HQ, Lib.hid (by have := hk6.out; (repeat' (first | (with_reducible exact Kept.refl _ _) | (with_reducible assumption) | (with_reducible refine Kept.then_ (by with_reducible assumption) ?_) | (with_reducible refine Kept.thenS (by with_reducible assumption) ?_) | (with_reducible refine Kept.alloc ?_ _) | (with_reducible refine Kept.drew ?_) | (with_reducible refine Kept.drewN ?_ _) | (with_reducible refine Kept.setNew ?_ ?_ _) | ((try simp only [World.size_alloc, World.size_setCell, World.size_drew, size_drewN] at *); (try dsimp only); omega))))⟩, rfl⟩)
                case measure => simp [intOf]; omega
              · obtain rfl : j = ls.length := by omega
                have hst : sm = total ls := by have := hsm.out; rwa [List.take_length] at this
                have hsk : sm ≤ (k : Int) := by rw [hst]; exact T.out
                have GV6 := Lib.hid (GV.out _ hk6.out)
                rw [← hst] at GV6
                have S6 := Lib.hid (S5.out.keep0 hk6.out)
                clear hst
                go_wp2_with fail
                (with_reducible refine GV6.out.mono ?_)
                rintro e w8 ⟨rfl, hb8⟩
                have S8 := Lib.hid (S6.out.keep0 hb8)
                clear hb8
                go_wp2_with fail
                go_roundw
                case rel => first | exact ⟨i + 1, by omega, by go_num, S8⟩ | ((repeat apply Exists.intro); exact ⟨⟨i + 1, by omega, by go_num, S8⟩, rfl⟩)
                case measure => simp [intOf]; omega
          · have d1 : (zk == 1) = false := by rw [beq_eq_false_iff_ne]; exact e1
            have d2 : (zk == 2) = false := by rw [beq_eq_false_iff_ne]; exact e2
            go_wp2_with fail
            (with_reducible refine (DR.out _ (hs.out.keep0 (by (repeat' (first | (with_reducible exact Kept.refl _ _) | (with_reducible assumption) | (with_reducible refine Kept.then_ (by with_reducible assumption) ?_) | (with_reducible refine Kept.thenS (by with_reducible assumption) ?_) | (with_reducible refine Kept.alloc ?_ _) | (with_reducible refine Kept.drew ?_) | (with_reducible refine Kept.drewN ?_ _) | (with_reducible refine Kept.setNew ?_ ?_ _) | ((try simp only [World.size_alloc, World.size_setCell, World.size_drew, size_drewN] at *); (try dsimp only); omega)))))).mono ?_)
            rintro e w4 ⟨x4, y4, rfl, hs4⟩
            have S4 := Lib.hid hs4
            clear hs4
            go_wp2_with fail
            (with_reducible refine (DG.out _ S4.out).mono ?_)
            rintro e w5 ⟨ls, A, c, rfl, hgood, htot, hfew, hrow, hs5, hgv⟩
            have G := Lib.hid hgood
            have T := Lib.hid htot
            have R := Lib.hid hrow
            have S5 := Lib.hid hs5
            have GV := Lib.hid hgv
            have hp5 := hs5.ltp
            clear hgood htot hrow hs5 hgv
            go_wp2_with fail
            go_loopw [13, 14, 70] (fun s t v w6 => ∃ (j : Nat) (sm en : Int), j ≤ ls.length ∧ s = .int .i64 sm ∧ t = .int .i64 en ∧ v = .int .i64 j ∧ Hid (sm = total (ls.take j)) ∧ 0 ≤ sm ∧ sm ≤ 64 * (j : Int) ∧ 0 ≤ en ∧ en ≤ 64 ∧ Hid (∀ q, j ≤ q → q < ls.length → en ≤ (rg ls q).1) ∧ Hid (Kept [] w5 w6)) (fun _ _ v _ => (ls.length - intOf v).toNat)
            case atStart => exact ⟨0, 0, 0, Nat.zero_le _, rfl, rfl, rfl, Lib.hid (by simp [total]), by omega, by omega, by omega, by omega, Lib.hid (fun q _ hq => (G.out.1 _ (rg_mem hq)).1), Lib.hid (Kept.refl _ _)⟩
            case round =>
              obtain ⟨j, sm, en, hj, rfl, rfl, rfl, hsm, hsm0, hsm1, hen0, hen1, hq, hk6⟩ := hrel
              by_cases hjl : j < ls.length
              · have R6 := R.out.keep hk6.out
                obtain ⟨xg, rfl, hcG⟩ := R6 (by omega)
                have hxl := hcG.1
                have hz6 := hk6.out.size
                obtain ⟨k0, k1⟩ := hcG.2 j hjl
                have hr1 := G.out.1 _ (rg_mem hjl)
                have hr2 := hq.out j (Nat.le_refl _) hjl
                have HT := Lib.hid (total_take ls j hjl)
                have HQ : Hid (∀ q, j + 1 ≤ q → q < ls.length → (rg ls j).1 + (rg ls j).2 ≤ (rg ls q).1) := Lib.hid (fun q h1 h2 => by
                  have hp := G.out.2
                  rw [List.pairwise_iff_getElem] at hp
                  have h3 := hp j q hjl h2 (by omega)
                  have e1 := rg_some hjl
                  have e2 := rg_some h2
                  rw [List.getElem?_eq_getElem hjl] at e1
                  rw [List.getElem?_eq_getElem h2] at e2
                  injection e1 with e1
                  injection e2 with e2
                  rw [e1, e2] at h3
                  exact h3)
                have dj : decide (j < ls.length) = true := by simp; omega
                generalize rg ls j = r at *
                obtain ⟨ra, rn⟩ := r
                dsimp only at k0 k1 hr1 hr2
                have t1 : decide (ra < en) = false := by simp; omega
                have t2 : decide (rn < 1) = false := by simp; omega
                have t3 : decide ((n : Int) < ra + rn) = false := by simp; omega
                clear R6 hcG
                go_wp2_with fail
                go_roundw
                case rel =>
                  have E7 : Hid (sm + rn = total (ls.take (j + 1))) := Lib.hid (by rw [HT.out, ← hsm.out])
                  first | exact ⟨j + 1, sm + rn, ra + rn, by omega, rfl, rfl, by go_num, E7, by omega, by omega, by omega, by omega, HQ, Lib.hid (by have := hk6.out; (repeat' (first | (with_reducible exact Kept.refl _ _) | (with_reducible assumption) | (with_reducible refine Kept.then_ (by with_reducible assumption) ?_) | (with_reducible refine Kept.thenS (by with_reducible assumption) ?_) | (with_reducible refine Kept.alloc ?_ _) | (with_reducible refine Kept.drew ?_) | (with_reducible refine Kept.drewN ?_ _) | (with_reducible refine Kept.setNew ?_ ?_ _) | ((try simp only [World.size_alloc, World.size_setCell, World.size_drew, size_drewN] at *); (try dsimp only); omega))))⟩ | ((repeat apply Exists.intro); exact ⟨⟨j + 1, sm + rn, ra + rn, by omega, rfl, rfl, by go_num, E7, by omega, by omega, by omega, by omega, HQ, Lib.hid (by have := hk6.out; (repeat' (first | (with_reducible exact Kept.refl _ _) | (with_reducible assumption) | (with_reducible refine Kept.then_ (by with_reducible assumption) ?_) | (with_reducible refine Kept.thenS (by with_reducible assumption) ?_) | (with_reducible refine Kept.alloc ?_ _) | (with_reducible refine Kept.drew ?_) | (with_reducible refine Kept.drewN ?_ _) | (with_reducible refine Kept.setNew ?_ ?_ _) | ((try simp only [World.size_alloc, World.size_setCell, World.size_drew, size_drewN] at *); (try dsimp only); omega))))⟩, rfl⟩)
                case measure => simp [intOf]; omega
              · obtain rfl : j = ls.length := by omega
                have hst : sm = total ls := by have := hsm.out; rwa [List.take_length] at this
                have hsk : sm ≤ (k : Int) := by rw [hst]; exact T.out
                have GV6 := Lib.hid (GV.out _ hk6.out)
                rw [← hst] at GV6
                have S6 := Lib.hid (S5.out.keep0 hk6.out)
                clear hst
                go_wp2_with fail
                (with_reducible refine GV6.out.mono ?_)
                rintro e w8 ⟨rfl, hb8⟩
                have S8 := Lib.hid (S6.out.keep0 hb8)
                clear hb8
                go_wp2_with fail
                go_roundw
                case rel => first | exact ⟨i + 1, by omega, by go_num, S8⟩ | ((repeat apply Exists.intro); exact ⟨⟨i + 1, by omega, by go_num, S8⟩, rfl⟩)
                case measure => simp [intOf]; omega
      · obtain rfl : i = len2 := by omega
        have K := Lib.hid hs.out.kept
        go_wp2_with fail
        go_ret
        exact ⟨rfl, K.out.below⟩
  · have q0 : decide (100 < (len2 : Int)) = true := by simp; omega
    go_enter Try.func8, Try.ntmps8
    go_wp2_with fail
    (with_reducible refine (C1.out).mono ?_)
    rintro e w1 ⟨rfl, hb1⟩
    have hs1 := hb1.size
    (try simp only [World.size_alloc, World.size_setCell, World.size_drew, size_drewN] at hs1)
    go_wp2_with fail
    (with_reducible refine (C2.out _ hb1).mono ?_)
    rintro e w2 ⟨p, rfl, hs2⟩
    have K := Lib.hid hs2.kept
    clear hs2 hb1
    go_wp2_with fail
    go_ret
    exact ⟨rfl, K.out.below⟩
theorem own : ownKnob Try.prog.godebug = none := by kernel_rfl
theorem laidOut : laidOutB Try.prog = true := by kernel_rfl
set_option maxRecDepth 100000 in
theorem lifted (os : Os) (started : os.Started) (H : Type) (enc : TypeId × Value → H) :
    ReturnsInHanded {} Try.checked os 8 .any (Rows.arenaApartSpec.pre6 enc Try.prog Try.f8 Rows.arenaApartRow.domain false) (Rows.arenaApartSpec.post enc Try.prog Try.f8 false true false false) := by
  refine returnsInHanded_of_change_sized (C := Try.checked) own started (by kernel_rfl) Try.func8
    (ChangeSpec.witness6 (enc := enc) (C := Try.checked) false ⟨#[], #[.int .u8 0, .int .u8 0, .slice none 0 0], []⟩ 8 (by kernel_rfl) (by kernel_rfl) (by kernel_rfl) (by kernel_rfl)) ?_
  intro W base args ds gs before hval0 hW hcnd hsz _
  have hval : ∀ (j : Nat) t v, Try.f8.params[j]? = some t → args[j]? = some v → Value.okWide Try.prog W .any base t v := hval0
  have hW' := hW
  obtain ⟨p, q, hA0, hV, rfl, hfz, hnd⟩ := hW
  have hA : DataW.TrodAll enc Try.prog W 0 (fun _ => true) true Try.f8.params.toList args.toList ds p := hA0
  rw [Try.params8] at hA hval hsz
  obtain ⟨v0, vs0, d0, ds0, p0, q0, hargs, rfl, rfl, h0, r0⟩ := trodAll_cons hA
  obtain ⟨v1, vs1, d1, ds1, p1, q1, rfl, rfl, rfl, h1, r1⟩ := trodAll_cons r0
  obtain ⟨v2, vs2, d2, ds2, p2, q2, rfl, rfl, rfl, h2, r2⟩ := trodAll_cons r1
  obtain ⟨rfl, rfl, rfl⟩ := trodAll_nil r2
  obtain rfl : args = #[v0, v1, v2] := by cases args; simp_all
  obtain ⟨rfl, rfl⟩ := trodVars_none hV
  have k2 := h2
  have lt2 : ∀ x ∈ p2, x.block < W.heap.size := by obtain ⟨m, hm⟩ := k2; exact DataW.trod_lt m _ _ _ hm
  obtain ⟨a0, rfl, rfl, rfl, w0⟩ := open_int Try.underlying5 (hval 0 5 v0 rfl rfl) h0
  obtain ⟨a1, rfl, rfl, rfl, w1⟩ := open_int Try.underlying5 (hval 1 5 v1 rfl rfl) h1
  obtain ⟨a2, len2, cap2, rfl⟩ := okWide_slice Try.underlying43 (hval 2 43 v2 rfl rfl)
  obtain ⟨z2, w2⟩ := isT43_of h2 (fun n hn => by have := List.all_eq_true.1 hsz n (DataW.weights_mem_each (j := 2) (t := 43) rfl rfl n hn); simpa using this)
  clear hA0 hval0
  refine (walk a0 a1 a2 len2 cap2 z2 W w0 w1 w2).mono fun e W' ⟨he, bel⟩ => ?_
  subst he
  exact ⟨_, rfl, _, _, _, [], _, [], hW', trodAll_mk1 (shut_bool Try.underlying4 _), (trodAll_cons_mk (shut_int Try.underlying5 w0) (trodAll_cons_mk (shut_int Try.underlying5 w1) (trodAll_cons_mk (Below.trod laidOut (by kernel_rfl) (of_decide_eq_true (by kernel_rfl)) k2 bel lt2) trodAll_mk0))), rfl, bel.frame _, fun h => by cases h⟩
theorem over : Rows.arenaApartRow.holds Try.pinned (OpenSpec.ofChange Rows.arenaApartSpec) :=
  OpenClaim.holds_of_wide 8 Try.f8 rfl rfl rfl rfl rfl rfl rfl ⟨rfl, rfl, rfl, rfl, rfl⟩ rfl rfl rfl rfl rfl (by kernel_rfl) Try.func8 (by kernel_rfl)
    (of_decide_eq_true (by kernel_rfl)) (by unfold Func.isWrapper; first | (rw [if_pos (by decide +kernel)]; kernel_rfl) | (rw [if_neg (by decide +kernel)]; exact ⟨rfl, rfl⟩))
    (fun os started H enc _ => lifted os started H enc)
theorem proved : Rows.ArenaApartSaid := over
#print axioms proved
end ArenaApart
end Go.Proofs.Ytekblfnemcaaeaa
