/- A region stands as low as it can: none so long is free below it. No condition. -/
import Derived.Test.YtekblfnemcaaeaaArX
set_option linter.unusedVariables false
set_option linter.unusedSimpArgs false
namespace Go.Proofs.Ytekblfnemcaaeaa.ArenaLowest
open Go.RowKit Go.ChangeShapes Go.WideShapes Go.ChangeAt Go.Joins
/-- Behind i acts. -/
def St (i : Nat) (a : Ar) : Prop := Inv a ∧ a.n = 64 ∧ a.lim = 64 ∧ a.ts = [] ∧ 0 ≤ a.ref ∧ a.ref ≤ i
def StK (W : World) (p i : Nat) (w : World) : Prop := ∃ a, St i a ∧ UpK W w p a
theorem StK.ltp {W w : World} {p i : Nat} (h : StK W p i w) : p < w.heap.size := by
  obtain ⟨a, _, h⟩ := h
  exact h.ltp
theorem StK.keep0 {W w w' : World} {p i : Nat} (h : StK W p i w) (hk : Kept [] w w') : StK W p i w' := by
  obtain ⟨a, h1, h⟩ := h
  exact ⟨a, h1, h.keep0 hk⟩
theorem StK.kept {W w : World} {p i : Nat} (h : StK W p i w) : Kept [] W w := by
  obtain ⟨a, _, h⟩ := h
  exact h.2
def AnyI (W : World) (p i : Nat) (e : Ending) (w' : World) : Prop := ∃ x : Int, e = .returned (.int .i64 x) ∧ StK W p i w'
theorem rel_st {W w : World} {p i : Nat} (h : StK W p i w) (m : Int) : Calls Try.prog 12 #[.pointer (some ⟨p, 0, none⟩), .int .i64 m] w (AnyI W p (i + 1)) := by
  obtain ⟨a, ⟨h1, h2, h3, h4, h5, h6⟩, hu⟩ := h
  refine (up_rel W w p a hu h1 m).mono fun e w' ⟨er, a', he, hR, hU⟩ => ⟨er, he, a', ⟨hR.inv h1, ?_⟩, hU⟩
  rcases hR with ⟨_, _, rfl⟩ | ⟨at_, m, j, _, _, _, _, _, rfl⟩
  · exact ⟨h2, h3, h4, h5, by omega⟩
  · exact ⟨h2, h3, h4, h5, by show a.ref ≤ _; omega⟩
/-- Whether a row meets one of some regions. -/
def meets (ls : List RegT) (q m : Int) : Bool := ls.any (fun r => decide (q < r.1 + r.2) && decide (r.1 < q + m))
theorem meets_take (ls : List RegT) (q m : Int) (i : Nat) (h : i < ls.length) : meets (ls.take (i + 1)) q m = (meets (ls.take i) q m || (decide (q < (rg ls i).1 + (rg ls i).2) && decide ((rg ls i).1 < q + m))) := by
  unfold meets
  rw [List.take_succ_eq_append_getElem h, List.any_append]
  have := rg_some h
  rw [List.getElem?_eq_getElem h] at this
  injection this with this
  rw [this]
  simp
/-- What Reserve answers, by what it was handed on ahead. -/
def Ans (ls : List RegT) (m x er : Int) : Prop := (∃ q : Nat, x = (q : Int) ∧ er = 0 ∧ (q : Int) + m ≤ 64 ∧ meets ls q m = false ∧ ∀ b : Nat, b < q → meets ls b m = true) ∨ (er = 4 ∧ ∀ b : Nat, (b : Int) + m ≤ 64 → meets ls b m = true)
def ResL (W : World) (p i : Nat) (m : Int) (A : Option Addr) (ls : List RegT) (e : Ending) (w' : World) : Prop := ∃ x er, e = .returned (.tuple #[.int .i64 x, .int .i64 er]) ∧ Ans ls m x er ∧ StK W p (i + 1) w' ∧ ListG w' A ls
def RegsL (W : World) (p i : Nat) (w : World) (e : Ending) (w' : World) : Prop := ∃ (ls : List RegT) (A : Option Addr) (c : Nat), e = .returned (.slice A ls.length c) ∧ Good 64 ls ∧ ls.length ≤ 64 ∧ StK W p i w' ∧ Kept [] w w' ∧
  ∀ (w'' : World) (m : Int), Kept [] w' w'' → 1 ≤ m → m ≤ 9 → Calls Try.prog 11 #[.pointer (some ⟨p, 0, none⟩), .int .i64 m] w'' (ResL W p i m A ls)
theorem meets_free {a : Ar} (hi : Inv a) (q m : Nat) (hm : 1 ≤ m) (hq : q + m ≤ a.n) : FreeAt a.bs q m ↔ meets a.ls q m = false := by
  rw [hi.free_iff q m hm]
  unfold meets
  rw [List.any_eq_false]
  constructor
  · rintro ⟨_, h⟩ r hr
    have := h r hr
    simp only [Bool.and_eq_true, decide_eq_true_eq]
    exact this
  · intro h
    refine ⟨hq, fun r hr => ?_⟩
    have := h r hr
    simp only [Bool.and_eq_true, decide_eq_true_eq] at this
    exact this
theorem ans_of {a a' : Ar} {x er : Int} {m : Nat} (hi : Inv a) (h2 : a.n = 64) (h3 : a.lim = 64) (h4 : a.ts = []) (h1 : 1 ≤ m) (hm : m ≤ 9) (hR : Res a m x er a') : Ans a.ls m x er := by
  rcases hR with ⟨h0, _⟩ | ⟨_, h0, rfl, rfl, rfl⟩ | ⟨q, m', j, hk, _, _, _, _, hf, hlow, _, rfl, rfl, _⟩
  · omega
  · refine .inr ⟨rfl, fun b hb => ?_⟩
    cases hmb : meets a.ls b m with
    | true => rfl
    | false =>
      exfalso
      have hf := (meets_free hi b m h1 (by omega)).2 hmb
      rcases h0 with h0 | h0 | h0
      · rw [h4] at h0; cases h0
      · have hput : b + m ≤ a.bs.length := by rw [hi.len]; omega
        have hc := cntF_took a.bs b m hput hf.2
        have hs := hi.sum
        unfold Ar.given at hs
        omega
      · exact h0 b (by simpa using hf)
  · obtain rfl : m = m' := by omega
    have hqn : q + m ≤ 64 := by have := hf.1; rw [hi.len] at this; omega
    refine .inl ⟨q, rfl, rfl, by omega, (meets_free hi q m h1 (by omega)).1 hf, fun b hb => ?_⟩
    cases hmb : meets a.ls b m with
    | true => rfl
    | false => exact absurd ((meets_free hi b m h1 (by omega)).2 hmb) (hlow b hb)
theorem regs_st {W w : World} {p i : Nat} (h : StK W p i w) (hi100 : i ≤ 1000) : Calls Try.prog 16 #[.pointer (some ⟨p, 0, none⟩)] w (RegsL W p i w) := by
  obtain ⟨a, ⟨h1, h2, h3, h4, h5, h6⟩, hu⟩ := h
  have hf := h1.few
  refine (x_regs W [] w p a hu.x hf).mono fun e w' ⟨A, c, Y, he, hL, hX, hk⟩ => ?_
  refine ⟨a.ls, A, c, he, by rw [← h2]; exact h1.good, hf, ⟨a, ⟨h1, h2, h3, h4, h5, h6⟩, hX.up⟩, hk, fun w'' m hk'' hm1 hm9 => ?_⟩
  obtain ⟨m, rfl⟩ := Int.eq_ofNat_of_zero_le (show 0 ≤ m by omega)
  refine (x_res W _ w'' p a (hX.keep0 hk'') h1 (by rw [h4]; simp) (by omega) m).mono fun e' w3 ⟨x, er, a', he', hR, hX3, hk3⟩ => ?_
  refine ⟨x, er, he', ans_of h1 h2 h3 h4 (by omega) (by omega) hR, ⟨a', ⟨hR.inv h1, ?_⟩, hX3.up⟩, (((hL.mono (Y := Y ++ []) (fun x hx => by simpa using hx)).keep (hX.kx hk'')).keep hk3).list⟩
  have ht : a.ts.tail = [] := by rw [h4]; rfl
  rcases hR with ⟨_, _, _, rfl⟩ | ⟨_, _, _, _, rfl⟩ | ⟨at_, m', j, _, _, _, _, _, _, _, _, _, _, rfl⟩
  · exact ⟨h2, h3, h4, h5, by omega⟩
  · exact ⟨h2, h3, ht, by show 0 ≤ a.ref + 1; omega, by show a.ref + 1 ≤ _; omega⟩
  · exact ⟨h2, h3, ht, h5, by show a.ref ≤ _; omega⟩
set_option maxRecDepth 100000 in
set_option maxHeartbeats 4000000 in
theorem walk (a0 : Option Addr) (len0 cap0 : Nat) (z0 : Unit) (W : World) (w0 : IsActL W a0 len0 cap0 z0) :
    Calls Try.prog 6 #[.slice a0 len0 cap0] W fun e W' => e = .returned (.bool true) ∧ Below W.heap.size W W' := by
  have HA := Lib.hid w0
  clear w0
  have C1 := Lib.hid (alive_any W)
  have C2 : Hid (∀ w, Kept [] W w → Calls Try.prog 10 #[.int .i64 64, .int .i64 64] w fun e w' => ∃ p, e = .returned (.tuple #[.pointer (some ⟨p, 0, none⟩), .int .i64 0]) ∧ StK W p 0 w') := Lib.hid (fun w hk' => (up_new W w hk' 64 64 (by omega) (by omega) (by omega)).mono fun e w' ⟨p, he, hu⟩ => ⟨p, he, _, ⟨inv_new 64 64 (by omega) (by omega) (by omega), rfl, rfl, rfl, Int.le_refl _, by show (0 : Int) ≤ _; omega⟩, hu⟩)
  by_cases hlen : len0 ≤ 100
  · have q0 : (len0 : Int) ≤ 100 := by omega
    go_enter Try.func6, Try.ntmps6
    go_wp2_with fail
    (with_reducible refine (C1.out).mono ?_)
    rintro e w1 ⟨rfl, hb1⟩
    have hs1 := hb1.size
    (try simp only [World.size_alloc, World.size_setCell, World.size_drew, size_drewN] at hs1)
    go_wp2_with fail
    (with_reducible refine (C2.out _ hb1).mono ?_)
    rintro e w2 ⟨p, rfl, hs2⟩
    have S2 := Lib.hid hs2
    clear hs2 hb1
    have hp2 := S2.out.ltp
    go_wp2_with fail
    go_loopw [32] (fun v wr => ∃ i : Nat, i ≤ len0 ∧ v = .int .i64 i ∧ Hid (StK W p i wr)) (fun v _ => (len0 - intOf v).toNat)
    case atStart => exact ⟨0, Nat.zero_le _, rfl, S2⟩
    case round =>
      obtain ⟨i, hi, rfl, hs⟩ := hrel
      have hpr := hs.out.ltp
      by_cases hlt : i < len0
      · obtain ⟨ad, z, rfl, hadl, hB, hl, wk, wn, hcs⟩ := HA.out.get hlt
        obtain ⟨c0, c1, c2⟩ := hcs wr hs.out.kept
        have bk := bounds_i64 wk
        have bn := bounds_i64 wn
        obtain ⟨zk, zn, zA, zl, zc, zB⟩ := z
        dsimp only at *
        have d0 : decide (i < len0) = true := by simp; omega
        have DL := Lib.hid (fun w h => rel_st (W := W) (w := w) (p := p) (i := i) h zn)
        have DG := Lib.hid (fun w h => regs_st (W := W) (w := w) (p := p) (i := i) h (by omega))
        clear hcs wk wn hB hl
        by_cases e1 : zk = 1
        · subst e1
          go_wp2_with fail
          (with_reducible refine (DL.out _ (hs.out.keep0 (by (repeat' (first | (with_reducible exact Kept.refl _ _) | (with_reducible assumption) | (with_reducible refine Kept.then_ (by with_reducible assumption) ?_) | (with_reducible refine Kept.thenS (by with_reducible assumption) ?_) | (with_reducible refine Kept.alloc ?_ _) | (with_reducible refine Kept.drew ?_) | (with_reducible refine Kept.drewN ?_ _) | (with_reducible refine Kept.setNew ?_ ?_ _) | ((try simp only [World.size_alloc, World.size_setCell, World.size_drew, size_drewN] at *); (try dsimp only); omega)))))).mono ?_)
          rintro e w4 ⟨x4, rfl, hs4⟩
          have S4 := Lib.hid hs4
          clear hs4
          go_wp2_with fail
          go_roundw
          case rel => first | exact ⟨i + 1, by omega, by go_num, S4⟩ | ((repeat apply Exists.intro); exact ⟨⟨i + 1, by omega, by go_num, S4⟩, rfl⟩)
          case measure => simp [intOf]; omega
        · have d1 : (zk == 1) = false := by rw [beq_eq_false_iff_ne]; exact e1
          go_wp2_with fail
          (with_reducible refine (DG.out _ (hs.out.keep0 (by (repeat' (first | (with_reducible exact Kept.refl _ _) | (with_reducible assumption) | (with_reducible refine Kept.then_ (by with_reducible assumption) ?_) | (with_reducible refine Kept.thenS (by with_reducible assumption) ?_) | (with_reducible refine Kept.alloc ?_ _) | (with_reducible refine Kept.drew ?_) | (with_reducible refine Kept.drewN ?_ _) | (with_reducible refine Kept.setNew ?_ ?_ _) | ((try simp only [World.size_alloc, World.size_setCell, World.size_drew, size_drewN] at *); (try dsimp only); omega)))))).mono ?_)
          rintro e w4 ⟨ls, A, c, rfl, hgood, hfew, hs4, hb4, hres⟩
          have BX : Blk w4 wr.heap.size 45 #[.int .i64 zk, .int .i64 zn, .slice zA zl zc] := by ((with_reducible apply Blk.cast); (case h => (repeat' (first | (with_reducible assumption) | ((with_reducible apply Blk.keep0); (case hk => (with_reducible assumption))) | (with_reducible exact Blk.new _ _ _) | ((with_reducible apply Blk.new'); (case h => (first | (with_reducible rfl) | (simp only [World.size_alloc, World.size_setCell, World.size_drew, size_drewN]; done)))) | (with_reducible apply Blk.alloc) | (with_reducible apply Blk.set_) | ((with_reducible apply Blk.far); (case hp => (simp only []; omega))) | (with_reducible apply Blk.drew) | (with_reducible apply Blk.drewN)))); (case e => rfl))
          have HBX := Lib.hid BX
          have bx1 := BX.cell 1
          have bxl := BX.lt
          clear BX hb4
          have S4 := Lib.hid hs4
          have G := Lib.hid hgood
          have RS := Lib.hid hres
          clear hs4 hgood hres
          rcases Int.lt_trichotomy zn 1 with f1 | f1 | f1
          · have g1 : zn < 9 := by omega
            go_wp2_with fail
            (with_reducible refine (RS.out _ 1 (Kept.refl _ _) (by omega) (by omega)).mono ?_)
            rintro e w5 ⟨x5, er5, rfl, hans, hs5, hl5⟩
            have AN := Lib.hid hans
            have S5 := Lib.hid hs5
            have L5 := Lib.hid hl5
            clear hans hs5 hl5
            go_wp2_with fail
            go_loopw [11] (fun v w6 => ∃ q : Nat, (q : Int) + 1 ≤ 65 ∧ v = .int .i64 q ∧ Hid (∀ b : Nat, b < q → meets ls b 1 = true) ∧ Hid (Kept [] w5 w6)) (fun v _ => (65 - intOf v).toNat)
            case atStart => exact ⟨0, by omega, rfl, Lib.hid (fun b hb => by omega), Lib.hid (Kept.refl _ _)⟩
            case round =>
              obtain ⟨q, hq, rfl, hall, hk6⟩ := hrel
              by_cases hqk : (q : Int) + 1 ≤ 64
              · obtain ⟨mb, hmb⟩ : ∃ mb, meets ls q 1 = mb := ⟨_, rfl⟩
                have MB := Lib.hid hmb
                clear hmb
                obtain ⟨w6, rfl⟩ : ∃ w6 : World, w6 = wr := ⟨_, rfl⟩
                have dq : decide ((q : Int) + 1 ≤ 64) = true := by simp; omega
                go_wp2_with fail
                go_loopw [12, 61] (fun u v w7 => ∃ (j : Nat) (b : Bool), j ≤ ls.length ∧ u = .bool b ∧ v = .int .i64 j ∧ Hid (b = meets (ls.take j) q 1) ∧ Hid (Kept [] w5 w7)) (fun _ v _ => (ls.length - intOf v).toNat)
                case atStart => exact ⟨0, false, Nat.zero_le _, rfl, rfl, Lib.hid (by simp [meets]), hk6⟩
                case round =>
                  obtain ⟨j, b, hj, rfl, rfl, hb, hk7⟩ := hrel
                  by_cases hjl : j < ls.length
                  · obtain ⟨xg, rfl, hcG⟩ := (L5.out.keep hk7.out) (by omega)
                    have hxl := hcG.1
                    have hz7 := hk7.out.size
                    obtain ⟨k0, k1⟩ := hcG.2 j hjl
                    have hr1 := G.out.1 _ (rg_mem hjl)
                    have HT := Lib.hid (meets_take ls q 1 j hjl)
                    have dj : decide (j < ls.length) = true := by simp; omega
                    generalize rg ls j = r at *
                    obtain ⟨ra, rn⟩ := r
                    dsimp only at k0 k1 hr1
                    clear hcG
                    cases b with
                    | true =>
                      have HE : Hid (true = meets (ls.take (j + 1)) q 1) := Lib.hid (by rw [HT.out, ← hb.out]; rfl)
                      go_wp2_with fail
                      go_roundw
                      case rel => first | exact ⟨j + 1, _, by omega, rfl, by go_num, HE, Lib.hid (by have := hk7.out; (repeat' (first | (with_reducible exact Kept.refl _ _) | (with_reducible assumption) | (with_reducible refine Kept.then_ (by with_reducible assumption) ?_) | (with_reducible refine Kept.thenS (by with_reducible assumption) ?_) | (with_reducible refine Kept.alloc ?_ _) | (with_reducible refine Kept.drew ?_) | (with_reducible refine Kept.drewN ?_ _) | (with_reducible refine Kept.setNew ?_ ?_ _) | ((try simp only [World.size_alloc, World.size_setCell, World.size_drew, size_drewN] at *); (try dsimp only); omega))))⟩ | ((repeat apply Exists.intro); exact ⟨⟨j + 1, _, by omega, rfl, by go_num, HE, Lib.hid (by have := hk7.out; (repeat' (first | (with_reducible exact Kept.refl _ _) | (with_reducible assumption) | (with_reducible refine Kept.then_ (by with_reducible assumption) ?_) | (with_reducible refine Kept.thenS (by with_reducible assumption) ?_) | (with_reducible refine Kept.alloc ?_ _) | (with_reducible refine Kept.drew ?_) | (with_reducible refine Kept.drewN ?_ _) | (with_reducible refine Kept.setNew ?_ ?_ _) | ((try simp only [World.size_alloc, World.size_setCell, World.size_drew, size_drewN] at *); (try dsimp only); omega))))⟩, rfl⟩)
                      case measure => simp [intOf]; omega
                    | false =>
                      by_cases t1 : (q : Int) < ra + rn
                      · by_cases t2 : ra < (q : Int) + 1
                        · have t1' : decide ((q : Int) < ra + rn) = true := by simp; omega
                          have t2' : decide (ra < (q : Int) + 1) = true := by simp; omega
                          have HE : Hid (true = meets (ls.take (j + 1)) q 1) := Lib.hid (by rw [HT.out, ← hb.out, t1', t2']; rfl)
                          go_wp2_with fail
                          go_roundw
                          case rel => first | exact ⟨j + 1, _, by omega, rfl, by go_num, HE, Lib.hid (by have := hk7.out; (repeat' (first | (with_reducible exact Kept.refl _ _) | (with_reducible assumption) | (with_reducible refine Kept.then_ (by with_reducible assumption) ?_) | (with_reducible refine Kept.thenS (by with_reducible assumption) ?_) | (with_reducible refine Kept.alloc ?_ _) | (with_reducible refine Kept.drew ?_) | (with_reducible refine Kept.drewN ?_ _) | (with_reducible refine Kept.setNew ?_ ?_ _) | ((try simp only [World.size_alloc, World.size_setCell, World.size_drew, size_drewN] at *); (try dsimp only); omega))))⟩ | ((repeat apply Exists.intro); exact ⟨⟨j + 1, _, by omega, rfl, by go_num, HE, Lib.hid (by have := hk7.out; (repeat' (first | (with_reducible exact Kept.refl _ _) | (with_reducible assumption) | (with_reducible refine Kept.then_ (by with_reducible assumption) ?_) | (with_reducible refine Kept.thenS (by with_reducible assumption) ?_) | (with_reducible refine Kept.alloc ?_ _) | (with_reducible refine Kept.drew ?_) | (with_reducible refine Kept.drewN ?_ _) | (with_reducible refine Kept.setNew ?_ ?_ _) | ((try simp only [World.size_alloc, World.size_setCell, World.size_drew, size_drewN] at *); (try dsimp only); omega))))⟩, rfl⟩)
                          case measure => simp [intOf]; omega
                        · have t1' : decide ((q : Int) < ra + rn) = true := by simp; omega
                          have t2' : decide (ra < (q : Int) + 1) = false := by simp; omega
                          have HE : Hid (false = meets (ls.take (j + 1)) q 1) := Lib.hid (by rw [HT.out, ← hb.out, t1', t2']; rfl)
                          go_wp2_with fail
                          go_roundw
                          case rel => first | exact ⟨j + 1, _, by omega, rfl, by go_num, HE, Lib.hid (by have := hk7.out; (repeat' (first | (with_reducible exact Kept.refl _ _) | (with_reducible assumption) | (with_reducible refine Kept.then_ (by with_reducible assumption) ?_) | (with_reducible refine Kept.thenS (by with_reducible assumption) ?_) | (with_reducible refine Kept.alloc ?_ _) | (with_reducible refine Kept.drew ?_) | (with_reducible refine Kept.drewN ?_ _) | (with_reducible refine Kept.setNew ?_ ?_ _) | ((try simp only [World.size_alloc, World.size_setCell, World.size_drew, size_drewN] at *); (try dsimp only); omega))))⟩ | ((repeat apply Exists.intro); exact ⟨⟨j + 1, _, by omega, rfl, by go_num, HE, Lib.hid (by have := hk7.out; (repeat' (first | (with_reducible exact Kept.refl _ _) | (with_reducible assumption) | (with_reducible refine Kept.then_ (by with_reducible assumption) ?_) | (with_reducible refine Kept.thenS (by with_reducible assumption) ?_) | (with_reducible refine Kept.alloc ?_ _) | (with_reducible refine Kept.drew ?_) | (with_reducible refine Kept.drewN ?_ _) | (with_reducible refine Kept.setNew ?_ ?_ _) | ((try simp only [World.size_alloc, World.size_setCell, World.size_drew, size_drewN] at *); (try dsimp only); omega))))⟩, rfl⟩)
                          case measure => simp [intOf]; omega
                      · have t1' : decide ((q : Int) < ra + rn) = false := by simp; omega
                        have HE : Hid (false = meets (ls.take (j + 1)) q 1) := Lib.hid (by rw [HT.out, ← hb.out, t1']; rfl)
                        go_wp2_with fail
                        go_roundw
                        case rel => first | exact ⟨j + 1, _, by omega, rfl, by go_num, HE, Lib.hid (by have := hk7.out; (repeat' (first | (with_reducible exact Kept.refl _ _) | (with_reducible assumption) | (with_reducible refine Kept.then_ (by with_reducible assumption) ?_) | (with_reducible refine Kept.thenS (by with_reducible assumption) ?_) | (with_reducible refine Kept.alloc ?_ _) | (with_reducible refine Kept.drew ?_) | (with_reducible refine Kept.drewN ?_ _) | (with_reducible refine Kept.setNew ?_ ?_ _) | ((try simp only [World.size_alloc, World.size_setCell, World.size_drew, size_drewN] at *); (try dsimp only); omega))))⟩ | ((repeat apply Exists.intro); exact ⟨⟨j + 1, _, by omega, rfl, by go_num, HE, Lib.hid (by have := hk7.out; (repeat' (first | (with_reducible exact Kept.refl _ _) | (with_reducible assumption) | (with_reducible refine Kept.then_ (by with_reducible assumption) ?_) | (with_reducible refine Kept.thenS (by with_reducible assumption) ?_) | (with_reducible refine Kept.alloc ?_ _) | (with_reducible refine Kept.drew ?_) | (with_reducible refine Kept.drewN ?_ _) | (with_reducible refine Kept.setNew ?_ ?_ _) | ((try simp only [World.size_alloc, World.size_setCell, World.size_drew, size_drewN] at *); (try dsimp only); omega))))⟩, rfl⟩)
                        case measure => simp [intOf]; omega
                  · obtain rfl : j = ls.length := by omega
                    obtain rfl : b = mb := by have := hb.out; rw [List.take_length, MB.out] at this; exact this
                    cases b with
                    | true =>
                      go_wp2_with fail
                      go_roundw
                      case rel =>
                        have HN : Hid (∀ b : Nat, b < q + 1 → meets ls b 1 = true) := Lib.hid (fun b hb => by
                          rcases Nat.lt_or_ge b q with h | h
                          · exact hall.out b h
                          · rw [show b = q by omega]; exact MB.out)
                        first | exact ⟨q + 1, by omega, by go_num, HN, hk7⟩ | ((repeat apply Exists.intro); exact ⟨⟨q + 1, by omega, by go_num, HN, hk7⟩, rfl⟩)
                      case measure => simp [intOf]; omega
                    | false =>
                      obtain ⟨rfl, rfl⟩ : x5 = (q : Int) ∧ er5 = 0 := by
                        rcases AN.out with ⟨q', h1, h2, h3, h4, h5⟩ | ⟨h1, h2⟩
                        · rcases Nat.lt_trichotomy q' q with h | h | h
                          · have := hall.out q' h; rw [h4] at this; cases this
                          · subst h; exact ⟨h1, h2⟩
                          · have := h5 q h; rw [MB.out] at this; cases this
                        · have := h2 q hqk; rw [MB.out] at this; cases this
                      have S7 := Lib.hid (S5.out.keep0 hk7.out)
                      go_wp2_with fail
                      go_roundw
                      case rel => first | exact ⟨i + 1, by omega, by go_num, S7⟩ | ((repeat apply Exists.intro); exact ⟨⟨i + 1, by omega, by go_num, S7⟩, rfl⟩)
                      case measure => simp [intOf]; omega
              · obtain rfl : er5 = 4 := by
                  rcases AN.out with ⟨q', h1, h2, h3, h4, h5⟩ | ⟨h1, h2⟩
                  · have := hall.out q' (by omega); rw [h4] at this; cases this
                  · exact h1
                have dq : decide ((q : Int) + 1 ≤ 64) = false := by simp; omega
                have S7 := Lib.hid (S5.out.keep0 hk6.out)
                go_wp2_with fail
                go_roundw
                case rel => first | exact ⟨i + 1, by omega, by go_num, S7⟩ | ((repeat apply Exists.intro); exact ⟨⟨i + 1, by omega, by go_num, S7⟩, rfl⟩)
                case measure => simp [intOf]; omega
          · subst f1
            go_wp2_with fail
            (with_reducible refine (RS.out _ 1 (Kept.refl _ _) (by omega) (by omega)).mono ?_)
            rintro e w5 ⟨x5, er5, rfl, hans, hs5, hl5⟩
            have AN := Lib.hid hans
            have S5 := Lib.hid hs5
            have L5 := Lib.hid hl5
            clear hans hs5 hl5
            go_wp2_with fail
            go_loopw [11] (fun v w6 => ∃ q : Nat, (q : Int) + 1 ≤ 65 ∧ v = .int .i64 q ∧ Hid (∀ b : Nat, b < q → meets ls b 1 = true) ∧ Hid (Kept [] w5 w6)) (fun v _ => (65 - intOf v).toNat)
            case atStart => exact ⟨0, by omega, rfl, Lib.hid (fun b hb => by omega), Lib.hid (Kept.refl _ _)⟩
            case round =>
              obtain ⟨q, hq, rfl, hall, hk6⟩ := hrel
              by_cases hqk : (q : Int) + 1 ≤ 64
              · obtain ⟨mb, hmb⟩ : ∃ mb, meets ls q 1 = mb := ⟨_, rfl⟩
                have MB := Lib.hid hmb
                clear hmb
                obtain ⟨w6, rfl⟩ : ∃ w6 : World, w6 = wr := ⟨_, rfl⟩
                have dq : decide ((q : Int) + 1 ≤ 64) = true := by simp; omega
                go_wp2_with fail
                go_loopw [12, 61] (fun u v w7 => ∃ (j : Nat) (b : Bool), j ≤ ls.length ∧ u = .bool b ∧ v = .int .i64 j ∧ Hid (b = meets (ls.take j) q 1) ∧ Hid (Kept [] w5 w7)) (fun _ v _ => (ls.length - intOf v).toNat)
                case atStart => exact ⟨0, false, Nat.zero_le _, rfl, rfl, Lib.hid (by simp [meets]), hk6⟩
                case round =>
                  obtain ⟨j, b, hj, rfl, rfl, hb, hk7⟩ := hrel
                  by_cases hjl : j < ls.length
                  · obtain ⟨xg, rfl, hcG⟩ := (L5.out.keep hk7.out) (by omega)
                    have hxl := hcG.1
                    have hz7 := hk7.out.size
                    obtain ⟨k0, k1⟩ := hcG.2 j hjl
                    have hr1 := G.out.1 _ (rg_mem hjl)
                    have HT := Lib.hid (meets_take ls q 1 j hjl)
                    have dj : decide (j < ls.length) = true := by simp; omega
                    generalize rg ls j = r at *
                    obtain ⟨ra, rn⟩ := r
                    dsimp only at k0 k1 hr1
                    clear hcG
                    cases b with
                    | true =>
                      have HE : Hid (true = meets (ls.take (j + 1)) q 1) := Lib.hid (by rw [HT.out, ← hb.out]; rfl)
                      go_wp2_with fail
                      go_roundw
                      case rel => first | exact ⟨j + 1, _, by omega, rfl, by go_num, HE, Lib.hid (by have := hk7.out; (repeat' (first | (with_reducible exact Kept.refl _ _) | (with_reducible assumption) | (with_reducible refine Kept.then_ (by with_reducible assumption) ?_) | (with_reducible refine Kept.thenS (by with_reducible assumption) ?_) | (with_reducible refine Kept.alloc ?_ _) | (with_reducible refine Kept.drew ?_) | (with_reducible refine Kept.drewN ?_ _) | (with_reducible refine Kept.setNew ?_ ?_ _) | ((try simp only [World.size_alloc, World.size_setCell, World.size_drew, size_drewN] at *); (try dsimp only); omega))))⟩ | ((repeat apply Exists.intro); exact ⟨⟨j + 1, _, by omega, rfl, by go_num, HE, Lib.hid (by have := hk7.out; (repeat' (first | (with_reducible exact Kept.refl _ _) | (with_reducible assumption) | (with_reducible refine Kept.then_ (by with_reducible assumption) ?_) | (with_reducible refine Kept.thenS (by with_reducible assumption) ?_) | (with_reducible refine Kept.alloc ?_ _) | (with_reducible refine Kept.drew ?_) | (with_reducible refine Kept.drewN ?_ _) | (with_reducible refine Kept.setNew ?_ ?_ _) | ((try simp only [World.size_alloc, World.size_setCell, World.size_drew, size_drewN] at *); (try dsimp only); omega))))⟩, rfl⟩)
                      case measure => simp [intOf]; omega
                    | false =>
                      by_cases t1 : (q : Int) < ra + rn
                      · by_cases t2 : ra < (q : Int) + 1
                        · have t1' : decide ((q : Int) < ra + rn) = true := by simp; omega
                          have t2' : decide (ra < (q : Int) + 1) = true := by simp; omega
                          have HE : Hid (true = meets (ls.take (j + 1)) q 1) := Lib.hid (by rw [HT.out, ← hb.out, t1', t2']; rfl)
                          go_wp2_with fail
                          go_roundw
                          case rel => first | exact ⟨j + 1, _, by omega, rfl, by go_num, HE, Lib.hid (by have := hk7.out; (repeat' (first | (with_reducible exact Kept.refl _ _) | (with_reducible assumption) | (with_reducible refine Kept.then_ (by with_reducible assumption) ?_) | (with_reducible refine Kept.thenS (by with_reducible assumption) ?_) | (with_reducible refine Kept.alloc ?_ _) | (with_reducible refine Kept.drew ?_) | (with_reducible refine Kept.drewN ?_ _) | (with_reducible refine Kept.setNew ?_ ?_ _) | ((try simp only [World.size_alloc, World.size_setCell, World.size_drew, size_drewN] at *); (try dsimp only); omega))))⟩ | ((repeat apply Exists.intro); exact ⟨⟨j + 1, _, by omega, rfl, by go_num, HE, Lib.hid (by have := hk7.out; (repeat' (first | (with_reducible exact Kept.refl _ _) | (with_reducible assumption) | (with_reducible refine Kept.then_ (by with_reducible assumption) ?_) | (with_reducible refine Kept.thenS (by with_reducible assumption) ?_) | (with_reducible refine Kept.alloc ?_ _) | (with_reducible refine Kept.drew ?_) | (with_reducible refine Kept.drewN ?_ _) | (with_reducible refine Kept.setNew ?_ ?_ _) | ((try simp only [World.size_alloc, World.size_setCell, World.size_drew, size_drewN] at *); (try dsimp only); omega))))⟩, rfl⟩)
                          case measure => simp [intOf]; omega
                        · have t1' : decide ((q : Int) < ra + rn) = true := by simp; omega
                          have t2' : decide (ra < (q : Int) + 1) = false := by simp; omega
                          have HE : Hid (false = meets (ls.take (j + 1)) q 1) := Lib.hid (by rw [HT.out, ← hb.out, t1', t2']; rfl)
                          go_wp2_with fail
                          go_roundw
                          case rel => first | exact ⟨j + 1, _, by omega, rfl, by go_num, HE, Lib.hid (by have := hk7.out; (repeat' (first | (with_reducible exact Kept.refl _ _) | (with_reducible assumption) | (with_reducible refine Kept.then_ (by with_reducible assumption) ?_) | (with_reducible refine Kept.thenS (by with_reducible assumption) ?_) | (with_reducible refine Kept.alloc ?_ _) | (with_reducible refine Kept.drew ?_) | (with_reducible refine Kept.drewN ?_ _) | (with_reducible refine Kept.setNew ?_ ?_ _) | ((try simp only [World.size_alloc, World.size_setCell, World.size_drew, size_drewN] at *); (try dsimp only); omega))))⟩ | ((repeat apply Exists.intro); exact ⟨⟨j + 1, _, by omega, rfl, by go_num, HE, Lib.hid (by have := hk7.out; (repeat' (first | (with_reducible exact Kept.refl _ _) | (with_reducible assumption) | (with_reducible refine Kept.then_ (by with_reducible assumption) ?_) | (with_reducible refine Kept.thenS (by with_reducible assumption) ?_) | (with_reducible refine Kept.alloc ?_ _) | (with_reducible refine Kept.drew ?_) | (with_reducible refine Kept.drewN ?_ _) | (with_reducible refine Kept.setNew ?_ ?_ _) | ((try simp only [World.size_alloc, World.size_setCell, World.size_drew, size_drewN] at *); (try dsimp only); omega))))⟩, rfl⟩)
                          case measure => simp [intOf]; omega
                      · have t1' : decide ((q : Int) < ra + rn) = false := by simp; omega
                        have HE : Hid (false = meets (ls.take (j + 1)) q 1) := Lib.hid (by rw [HT.out, ← hb.out, t1']; rfl)
                        go_wp2_with fail
                        go_roundw
                        case rel => first | exact ⟨j + 1, _, by omega, rfl, by go_num, HE, Lib.hid (by have := hk7.out; (repeat' (first | (with_reducible exact Kept.refl _ _) | (with_reducible assumption) | (with_reducible refine Kept.then_ (by with_reducible assumption) ?_) | (with_reducible refine Kept.thenS (by with_reducible assumption) ?_) | (with_reducible refine Kept.alloc ?_ _) | (with_reducible refine Kept.drew ?_) | (with_reducible refine Kept.drewN ?_ _) | (with_reducible refine Kept.setNew ?_ ?_ _) | ((try simp only [World.size_alloc, World.size_setCell, World.size_drew, size_drewN] at *); (try dsimp only); omega))))⟩ | ((repeat apply Exists.intro); exact ⟨⟨j + 1, _, by omega, rfl, by go_num, HE, Lib.hid (by have := hk7.out; (repeat' (first | (with_reducible exact Kept.refl _ _) | (with_reducible assumption) | (with_reducible refine Kept.then_ (by with_reducible assumption) ?_) | (with_reducible refine Kept.thenS (by with_reducible assumption) ?_) | (with_reducible refine Kept.alloc ?_ _) | (with_reducible refine Kept.drew ?_) | (with_reducible refine Kept.drewN ?_ _) | (with_reducible refine Kept.setNew ?_ ?_ _) | ((try simp only [World.size_alloc, World.size_setCell, World.size_drew, size_drewN] at *); (try dsimp only); omega))))⟩, rfl⟩)
                        case measure => simp [intOf]; omega
                  · obtain rfl : j = ls.length := by omega
                    obtain rfl : b = mb := by have := hb.out; rw [List.take_length, MB.out] at this; exact this
                    cases b with
                    | true =>
                      go_wp2_with fail
                      go_roundw
                      case rel =>
                        have HN : Hid (∀ b : Nat, b < q + 1 → meets ls b 1 = true) := Lib.hid (fun b hb => by
                          rcases Nat.lt_or_ge b q with h | h
                          · exact hall.out b h
                          · rw [show b = q by omega]; exact MB.out)
                        first | exact ⟨q + 1, by omega, by go_num, HN, hk7⟩ | ((repeat apply Exists.intro); exact ⟨⟨q + 1, by omega, by go_num, HN, hk7⟩, rfl⟩)
                      case measure => simp [intOf]; omega
                    | false =>
                      obtain ⟨rfl, rfl⟩ : x5 = (q : Int) ∧ er5 = 0 := by
                        rcases AN.out with ⟨q', h1, h2, h3, h4, h5⟩ | ⟨h1, h2⟩
                        · rcases Nat.lt_trichotomy q' q with h | h | h
                          · have := hall.out q' h; rw [h4] at this; cases this
                          · subst h; exact ⟨h1, h2⟩
                          · have := h5 q h; rw [MB.out] at this; cases this
                        · have := h2 q hqk; rw [MB.out] at this; cases this
                      have S7 := Lib.hid (S5.out.keep0 hk7.out)
                      go_wp2_with fail
                      go_roundw
                      case rel => first | exact ⟨i + 1, by omega, by go_num, S7⟩ | ((repeat apply Exists.intro); exact ⟨⟨i + 1, by omega, by go_num, S7⟩, rfl⟩)
                      case measure => simp [intOf]; omega
              · obtain rfl : er5 = 4 := by
                  rcases AN.out with ⟨q', h1, h2, h3, h4, h5⟩ | ⟨h1, h2⟩
                  · have := hall.out q' (by omega); rw [h4] at this; cases this
                  · exact h1
                have dq : decide ((q : Int) + 1 ≤ 64) = false := by simp; omega
                have S7 := Lib.hid (S5.out.keep0 hk6.out)
                go_wp2_with fail
                go_roundw
                case rel => first | exact ⟨i + 1, by omega, by go_num, S7⟩ | ((repeat apply Exists.intro); exact ⟨⟨i + 1, by omega, by go_num, S7⟩, rfl⟩)
                case measure => simp [intOf]; omega
          · rcases Int.lt_trichotomy zn 9 with f2 | f2 | f2
            · go_wp2_with fail
              (with_reducible refine (RS.out _ zn (Kept.refl _ _) (by omega) (by omega)).mono ?_)
              rintro e w5 ⟨x5, er5, rfl, hans, hs5, hl5⟩
              have AN := Lib.hid hans
              have S5 := Lib.hid hs5
              have L5 := Lib.hid hl5
              clear hans hs5 hl5
              go_wp2_with fail
              go_loopw [11] (fun v w6 => ∃ q : Nat, (q : Int) + zn ≤ 65 ∧ v = .int .i64 q ∧ Hid (∀ b : Nat, b < q → meets ls b zn = true) ∧ Hid (Kept [] w5 w6)) (fun v _ => (65 - intOf v).toNat)
              case atStart => exact ⟨0, by omega, rfl, Lib.hid (fun b hb => by omega), Lib.hid (Kept.refl _ _)⟩
              case round =>
                obtain ⟨q, hq, rfl, hall, hk6⟩ := hrel
                by_cases hqk : (q : Int) + zn ≤ 64
                · obtain ⟨mb, hmb⟩ : ∃ mb, meets ls q zn = mb := ⟨_, rfl⟩
                  have MB := Lib.hid hmb
                  clear hmb
                  obtain ⟨w6, rfl⟩ : ∃ w6 : World, w6 = wr := ⟨_, rfl⟩
                  have dq : decide ((q : Int) + zn ≤ 64) = true := by simp; omega
                  go_wp2_with fail
                  go_loopw [12, 61] (fun u v w7 => ∃ (j : Nat) (b : Bool), j ≤ ls.length ∧ u = .bool b ∧ v = .int .i64 j ∧ Hid (b = meets (ls.take j) q zn) ∧ Hid (Kept [] w5 w7)) (fun _ v _ => (ls.length - intOf v).toNat)
                  case atStart => exact ⟨0, false, Nat.zero_le _, rfl, rfl, Lib.hid (by simp [meets]), hk6⟩
                  case round =>
                    obtain ⟨j, b, hj, rfl, rfl, hb, hk7⟩ := hrel
                    by_cases hjl : j < ls.length
                    · obtain ⟨xg, rfl, hcG⟩ := (L5.out.keep hk7.out) (by omega)
                      have hxl := hcG.1
                      have hz7 := hk7.out.size
                      obtain ⟨k0, k1⟩ := hcG.2 j hjl
                      have hr1 := G.out.1 _ (rg_mem hjl)
                      have HT := Lib.hid (meets_take ls q zn j hjl)
                      have dj : decide (j < ls.length) = true := by simp; omega
                      generalize rg ls j = r at *
                      obtain ⟨ra, rn⟩ := r
                      dsimp only at k0 k1 hr1
                      clear hcG
                      cases b with
                      | true =>
                        have HE : Hid (true = meets (ls.take (j + 1)) q zn) := Lib.hid (by rw [HT.out, ← hb.out]; rfl)
                        go_wp2_with fail
                        go_roundw
                        case rel => first | exact ⟨j + 1, _, by omega, rfl, by go_num, HE, Lib.hid (by have := hk7.out; (repeat' (first | (with_reducible exact Kept.refl _ _) | (with_reducible assumption) | (with_reducible refine Kept.then_ (by with_reducible assumption) ?_) | (with_reducible refine Kept.thenS (by with_reducible assumption) ?_) | (with_reducible refine Kept.alloc ?_ _) | (with_reducible refine Kept.drew ?_) | (with_reducible refine Kept.drewN ?_ _) | (with_reducible refine Kept.setNew ?_ ?_ _) | ((try simp only [World.size_alloc, World.size_setCell, World.size_drew, size_drewN] at *); (try dsimp only); omega))))⟩ | ((repeat apply Exists.intro); exact ⟨⟨j + 1, _, by omega, rfl, by go_num, HE, Lib.hid (by have := hk7.out; (repeat' (first | (with_reducible exact Kept.refl _ _) | (with_reducible assumption) | (with_reducible refine Kept.then_ (by with_reducible assumption) ?_) | (with_reducible refine Kept.thenS (by with_reducible assumption) ?_) | (with_reducible refine Kept.alloc ?_ _) | (with_reducible refine Kept.drew ?_) | (with_reducible refine Kept.drewN ?_ _) | (with_reducible refine Kept.setNew ?_ ?_ _) | ((try simp only [World.size_alloc, World.size_setCell, World.size_drew, size_drewN] at *); (try dsimp only); omega))))⟩, rfl⟩)
                        case measure => simp [intOf]; omega
                      | false =>
                        by_cases t1 : (q : Int) < ra + rn
                        · by_cases t2 : ra < (q : Int) + zn
                          · have t1' : decide ((q : Int) < ra + rn) = true := by simp; omega
                            have t2' : decide (ra < (q : Int) + zn) = true := by simp; omega
                            have HE : Hid (true = meets (ls.take (j + 1)) q zn) := Lib.hid (by rw [HT.out, ← hb.out, t1', t2']; rfl)
                            go_wp2_with fail
                            go_roundw
                            case rel => first | exact ⟨j + 1, _, by omega, rfl, by go_num, HE, Lib.hid (by have := hk7.out; (repeat' (first | (with_reducible exact Kept.refl _ _) | (with_reducible assumption) | (with_reducible refine Kept.then_ (by with_reducible assumption) ?_) | (with_reducible refine Kept.thenS (by with_reducible assumption) ?_) | (with_reducible refine Kept.alloc ?_ _) | (with_reducible refine Kept.drew ?_) | (with_reducible refine Kept.drewN ?_ _) | (with_reducible refine Kept.setNew ?_ ?_ _) | ((try simp only [World.size_alloc, World.size_setCell, World.size_drew, size_drewN] at *); (try dsimp only); omega))))⟩ | ((repeat apply Exists.intro); exact ⟨⟨j + 1, _, by omega, rfl, by go_num, HE, Lib.hid (by have := hk7.out; (repeat' (first | (with_reducible exact Kept.refl _ _) | (with_reducible assumption) | (with_reducible refine Kept.then_ (by with_reducible assumption) ?_) | (with_reducible refine Kept.thenS (by with_reducible assumption) ?_) | (with_reducible refine Kept.alloc ?_ _) | (with_reducible refine Kept.drew ?_) | (with_reducible refine Kept.drewN ?_ _) | (with_reducible refine Kept.setNew ?_ ?_ _) | ((try simp only [World.size_alloc, World.size_setCell, World.size_drew, size_drewN] at *); (try dsimp only); omega))))⟩, rfl⟩)
                            case measure => simp [intOf]; omega
                          · have t1' : decide ((q : Int) < ra + rn) = true := by simp; omega
                            have t2' : decide (ra < (q : Int) + zn) = false := by simp; omega
                            have HE : Hid (false = meets (ls.take (j + 1)) q zn) := Lib.hid (by rw [HT.out, ← hb.out, t1', t2']; rfl)
                            go_wp2_with fail
                            go_roundw
                            case rel => first | exact ⟨j + 1, _, by omega, rfl, by go_num, HE, Lib.hid (by have := hk7.out; (repeat' (first | (with_reducible exact Kept.refl _ _) | (with_reducible assumption) | (with_reducible refine Kept.then_ (by with_reducible assumption) ?_) | (with_reducible refine Kept.thenS (by with_reducible assumption) ?_) | (with_reducible refine Kept.alloc ?_ _) | (with_reducible refine Kept.drew ?_) | (with_reducible refine Kept.drewN ?_ _) | (with_reducible refine Kept.setNew ?_ ?_ _) | ((try simp only [World.size_alloc, World.size_setCell, World.size_drew, size_drewN] at *); (try dsimp only); omega))))⟩ | ((repeat apply Exists.intro); exact ⟨⟨j + 1, _, by omega, rfl, by go_num, HE, Lib.hid (by have := hk7.out; (repeat' (first | (with_reducible exact Kept.refl _ _) | (with_reducible assumption) | (with_reducible refine Kept.then_ (by with_reducible assumption) ?_) | (with_reducible refine Kept.thenS (by with_reducible assumption) ?_) | (with_reducible refine Kept.alloc ?_ _) | (with_reducible refine Kept.drew ?_) | (with_reducible refine Kept.drewN ?_ _) | (with_reducible refine Kept.setNew ?_ ?_ _) | ((try simp only [World.size_alloc, World.size_setCell, World.size_drew, size_drewN] at *); (try dsimp only); omega))))⟩, rfl⟩)
                            case measure => simp [intOf]; omega
                        · have t1' : decide ((q : Int) < ra + rn) = false := by simp; omega
                          have HE : Hid (false = meets (ls.take (j + 1)) q zn) := Lib.hid (by rw [HT.out, ← hb.out, t1']; rfl)
                          go_wp2_with fail
                          go_roundw
                          case rel => first | exact ⟨j + 1, _, by omega, rfl, by go_num, HE, Lib.hid (by have := hk7.out; (repeat' (first | (with_reducible exact Kept.refl _ _) | (with_reducible assumption) | (with_reducible refine Kept.then_ (by with_reducible assumption) ?_) | (with_reducible refine Kept.thenS (by with_reducible assumption) ?_) | (with_reducible refine Kept.alloc ?_ _) | (with_reducible refine Kept.drew ?_) | (with_reducible refine Kept.drewN ?_ _) | (with_reducible refine Kept.setNew ?_ ?_ _) | ((try simp only [World.size_alloc, World.size_setCell, World.size_drew, size_drewN] at *); (try dsimp only); omega))))⟩ | ((repeat apply Exists.intro); exact ⟨⟨j + 1, _, by omega, rfl, by go_num, HE, Lib.hid (by have := hk7.out; (repeat' (first | (with_reducible exact Kept.refl _ _) | (with_reducible assumption) | (with_reducible refine Kept.then_ (by with_reducible assumption) ?_) | (with_reducible refine Kept.thenS (by with_reducible assumption) ?_) | (with_reducible refine Kept.alloc ?_ _) | (with_reducible refine Kept.drew ?_) | (with_reducible refine Kept.drewN ?_ _) | (with_reducible refine Kept.setNew ?_ ?_ _) | ((try simp only [World.size_alloc, World.size_setCell, World.size_drew, size_drewN] at *); (try dsimp only); omega))))⟩, rfl⟩)
                          case measure => simp [intOf]; omega
                    · obtain rfl : j = ls.length := by omega
                      obtain rfl : b = mb := by have := hb.out; rw [List.take_length, MB.out] at this; exact this
                      cases b with
                      | true =>
                        go_wp2_with fail
                        go_roundw
                        case rel =>
                          have HN : Hid (∀ b : Nat, b < q + 1 → meets ls b zn = true) := Lib.hid (fun b hb => by
                            rcases Nat.lt_or_ge b q with h | h
                            · exact hall.out b h
                            · rw [show b = q by omega]; exact MB.out)
                          first | exact ⟨q + 1, by omega, by go_num, HN, hk7⟩ | ((repeat apply Exists.intro); exact ⟨⟨q + 1, by omega, by go_num, HN, hk7⟩, rfl⟩)
                        case measure => simp [intOf]; omega
                      | false =>
                        obtain ⟨rfl, rfl⟩ : x5 = (q : Int) ∧ er5 = 0 := by
                          rcases AN.out with ⟨q', h1, h2, h3, h4, h5⟩ | ⟨h1, h2⟩
                          · rcases Nat.lt_trichotomy q' q with h | h | h
                            · have := hall.out q' h; rw [h4] at this; cases this
                            · subst h; exact ⟨h1, h2⟩
                            · have := h5 q h; rw [MB.out] at this; cases this
                          · have := h2 q hqk; rw [MB.out] at this; cases this
                        have S7 := Lib.hid (S5.out.keep0 hk7.out)
                        go_wp2_with fail
                        go_roundw
                        case rel => first | exact ⟨i + 1, by omega, by go_num, S7⟩ | ((repeat apply Exists.intro); exact ⟨⟨i + 1, by omega, by go_num, S7⟩, rfl⟩)
                        case measure => simp [intOf]; omega
                · obtain rfl : er5 = 4 := by
                    rcases AN.out with ⟨q', h1, h2, h3, h4, h5⟩ | ⟨h1, h2⟩
                    · have := hall.out q' (by omega); rw [h4] at this; cases this
                    · exact h1
                  have dq : decide ((q : Int) + zn ≤ 64) = false := by simp; omega
                  have S7 := Lib.hid (S5.out.keep0 hk6.out)
                  go_wp2_with fail
                  go_roundw
                  case rel => first | exact ⟨i + 1, by omega, by go_num, S7⟩ | ((repeat apply Exists.intro); exact ⟨⟨i + 1, by omega, by go_num, S7⟩, rfl⟩)
                  case measure => simp [intOf]; omega
            · subst f2
              go_wp2_with fail
              (with_reducible refine (RS.out _ 9 (Kept.refl _ _) (by omega) (by omega)).mono ?_)
              rintro e w5 ⟨x5, er5, rfl, hans, hs5, hl5⟩
              have AN := Lib.hid hans
              have S5 := Lib.hid hs5
              have L5 := Lib.hid hl5
              clear hans hs5 hl5
              go_wp2_with fail
              go_loopw [11] (fun v w6 => ∃ q : Nat, (q : Int) + 9 ≤ 65 ∧ v = .int .i64 q ∧ Hid (∀ b : Nat, b < q → meets ls b 9 = true) ∧ Hid (Kept [] w5 w6)) (fun v _ => (65 - intOf v).toNat)
              case atStart => exact ⟨0, by omega, rfl, Lib.hid (fun b hb => by omega), Lib.hid (Kept.refl _ _)⟩
              case round =>
                obtain ⟨q, hq, rfl, hall, hk6⟩ := hrel
                by_cases hqk : (q : Int) + 9 ≤ 64
                · obtain ⟨mb, hmb⟩ : ∃ mb, meets ls q 9 = mb := ⟨_, rfl⟩
                  have MB := Lib.hid hmb
                  clear hmb
                  obtain ⟨w6, rfl⟩ : ∃ w6 : World, w6 = wr := ⟨_, rfl⟩
                  have dq : decide ((q : Int) + 9 ≤ 64) = true := by simp; omega
                  go_wp2_with fail
                  go_loopw [12, 61] (fun u v w7 => ∃ (j : Nat) (b : Bool), j ≤ ls.length ∧ u = .bool b ∧ v = .int .i64 j ∧ Hid (b = meets (ls.take j) q 9) ∧ Hid (Kept [] w5 w7)) (fun _ v _ => (ls.length - intOf v).toNat)
                  case atStart => exact ⟨0, false, Nat.zero_le _, rfl, rfl, Lib.hid (by simp [meets]), hk6⟩
                  case round =>
                    obtain ⟨j, b, hj, rfl, rfl, hb, hk7⟩ := hrel
                    by_cases hjl : j < ls.length
                    · obtain ⟨xg, rfl, hcG⟩ := (L5.out.keep hk7.out) (by omega)
                      have hxl := hcG.1
                      have hz7 := hk7.out.size
                      obtain ⟨k0, k1⟩ := hcG.2 j hjl
                      have hr1 := G.out.1 _ (rg_mem hjl)
                      have HT := Lib.hid (meets_take ls q 9 j hjl)
                      have dj : decide (j < ls.length) = true := by simp; omega
                      generalize rg ls j = r at *
                      obtain ⟨ra, rn⟩ := r
                      dsimp only at k0 k1 hr1
                      clear hcG
                      cases b with
                      | true =>
                        have HE : Hid (true = meets (ls.take (j + 1)) q 9) := Lib.hid (by rw [HT.out, ← hb.out]; rfl)
                        go_wp2_with fail
                        go_roundw
                        case rel => first | exact ⟨j + 1, _, by omega, rfl, by go_num, HE, Lib.hid (by have := hk7.out; (repeat' (first | (with_reducible exact Kept.refl _ _) | (with_reducible assumption) | (with_reducible refine Kept.then_ (by with_reducible assumption) ?_) | (with_reducible refine Kept.thenS (by with_reducible assumption) ?_) | (with_reducible refine Kept.alloc ?_ _) | (with_reducible refine Kept.drew ?_) | (with_reducible refine Kept.drewN ?_ _) | (with_reducible refine Kept.setNew ?_ ?_ _) | ((try simp only [World.size_alloc, World.size_setCell, World.size_drew, size_drewN] at *); (try dsimp only); omega))))⟩ | ((repeat apply Exists.intro); exact ⟨⟨j + 1, _, by omega, rfl, by go_num, HE, Lib.hid (by have := hk7.out; (repeat' (first | (with_reducible exact Kept.refl _ _) | (with_reducible assumption) | (with_reducible refine Kept.then_ (by with_reducible assumption) ?_) | (with_reducible refine Kept.thenS (by with_reducible assumption) ?_) | (with_reducible refine Kept.alloc ?_ _) | (with_reducible refine Kept.drew ?_) | (with_reducible refine Kept.drewN ?_ _) | (with_reducible refine Kept.setNew ?_ ?_ _) | ((try simp only [World.size_alloc, World.size_setCell, World.size_drew, size_drewN] at *); (try dsimp only); omega))))⟩, rfl⟩)
                        case measure => simp [intOf]; omega
                      | false =>
                        by_cases t1 : (q : Int) < ra + rn
                        · by_cases t2 : ra < (q : Int) + 9
                          · have t1' : decide ((q : Int) < ra + rn) = true := by simp; omega
                            have t2' : decide (ra < (q : Int) + 9) = true := by simp; omega
                            have HE : Hid (true = meets (ls.take (j + 1)) q 9) := Lib.hid (by rw [HT.out, ← hb.out, t1', t2']; rfl)
                            go_wp2_with fail
                            go_roundw
                            case rel => first | exact ⟨j + 1, _, by omega, rfl, by go_num, HE, Lib.hid (by have := hk7.out; (repeat' (first | (with_reducible exact Kept.refl _ _) | (with_reducible assumption) | (with_reducible refine Kept.then_ (by with_reducible assumption) ?_) | (with_reducible refine Kept.thenS (by with_reducible assumption) ?_) | (with_reducible refine Kept.alloc ?_ _) | (with_reducible refine Kept.drew ?_) | (with_reducible refine Kept.drewN ?_ _) | (with_reducible refine Kept.setNew ?_ ?_ _) | ((try simp only [World.size_alloc, World.size_setCell, World.size_drew, size_drewN] at *); (try dsimp only); omega))))⟩ | ((repeat apply Exists.intro); exact ⟨⟨j + 1, _, by omega, rfl, by go_num, HE, Lib.hid (by have := hk7.out; (repeat' (first | (with_reducible exact Kept.refl _ _) | (with_reducible assumption) | (with_reducible refine Kept.then_ (by with_reducible assumption) ?_) | (with_reducible refine Kept.thenS (by with_reducible assumption) ?_) | (with_reducible refine Kept.alloc ?_ _) | (with_reducible refine Kept.drew ?_) | (with_reducible refine Kept.drewN ?_ _) | (with_reducible refine Kept.setNew ?_ ?_ _) | ((try simp only [World.size_alloc, World.size_setCell, World.size_drew, size_drewN] at *); (try dsimp only); omega))))⟩, rfl⟩)
                            case measure => simp [intOf]; omega
                          · have t1' : decide ((q : Int) < ra + rn) = true := by simp; omega
                            have t2' : decide (ra < (q : Int) + 9) = false := by simp; omega
                            have HE : Hid (false = meets (ls.take (j + 1)) q 9) := Lib.hid (by rw [HT.out, ← hb.out, t1', t2']; rfl)
                            go_wp2_with fail
                            go_roundw
                            case rel => first | exact ⟨j + 1, _, by omega, rfl, by go_num, HE, Lib.hid (by have := hk7.out; (repeat' (first | (with_reducible exact Kept.refl _ _) | (with_reducible assumption) | (with_reducible refine Kept.then_ (by with_reducible assumption) ?_) | (with_reducible refine Kept.thenS (by with_reducible assumption) ?_) | (with_reducible refine Kept.alloc ?_ _) | (with_reducible refine Kept.drew ?_) | (with_reducible refine Kept.drewN ?_ _) | (with_reducible refine Kept.setNew ?_ ?_ _) | ((try simp only [World.size_alloc, World.size_setCell, World.size_drew, size_drewN] at *); (try dsimp only); omega))))⟩ | ((repeat apply Exists.intro); exact ⟨⟨j + 1, _, by omega, rfl, by go_num, HE, Lib.hid (by have := hk7.out; (repeat' (first | (with_reducible exact Kept.refl _ _) | (with_reducible assumption) | (with_reducible refine Kept.then_ (by with_reducible assumption) ?_) | (with_reducible refine Kept.thenS (by with_reducible assumption) ?_) | (with_reducible refine Kept.alloc ?_ _) | (with_reducible refine Kept.drew ?_) | (with_reducible refine Kept.drewN ?_ _) | (with_reducible refine Kept.setNew ?_ ?_ _) | ((try simp only [World.size_alloc, World.size_setCell, World.size_drew, size_drewN] at *); (try dsimp only); omega))))⟩, rfl⟩)
                            case measure => simp [intOf]; omega
                        · have t1' : decide ((q : Int) < ra + rn) = false := by simp; omega
                          have HE : Hid (false = meets (ls.take (j + 1)) q 9) := Lib.hid (by rw [HT.out, ← hb.out, t1']; rfl)
                          go_wp2_with fail
                          go_roundw
                          case rel => first | exact ⟨j + 1, _, by omega, rfl, by go_num, HE, Lib.hid (by have := hk7.out; (repeat' (first | (with_reducible exact Kept.refl _ _) | (with_reducible assumption) | (with_reducible refine Kept.then_ (by with_reducible assumption) ?_) | (with_reducible refine Kept.thenS (by with_reducible assumption) ?_) | (with_reducible refine Kept.alloc ?_ _) | (with_reducible refine Kept.drew ?_) | (with_reducible refine Kept.drewN ?_ _) | (with_reducible refine Kept.setNew ?_ ?_ _) | ((try simp only [World.size_alloc, World.size_setCell, World.size_drew, size_drewN] at *); (try dsimp only); omega))))⟩ | ((repeat apply Exists.intro); exact ⟨⟨j + 1, _, by omega, rfl, by go_num, HE, Lib.hid (by have := hk7.out; (repeat' (first | (with_reducible exact Kept.refl _ _) | (with_reducible assumption) | (with_reducible refine Kept.then_ (by with_reducible assumption) ?_) | (with_reducible refine Kept.thenS (by with_reducible assumption) ?_) | (with_reducible refine Kept.alloc ?_ _) | (with_reducible refine Kept.drew ?_) | (with_reducible refine Kept.drewN ?_ _) | (with_reducible refine Kept.setNew ?_ ?_ _) | ((try simp only [World.size_alloc, World.size_setCell, World.size_drew, size_drewN] at *); (try dsimp only); omega))))⟩, rfl⟩)
                          case measure => simp [intOf]; omega
                    · obtain rfl : j = ls.length := by omega
                      obtain rfl : b = mb := by have := hb.out; rw [List.take_length, MB.out] at this; exact this
                      cases b with
                      | true =>
                        go_wp2_with fail
                        go_roundw
                        case rel =>
                          have HN : Hid (∀ b : Nat, b < q + 1 → meets ls b 9 = true) := Lib.hid (fun b hb => by
                            rcases Nat.lt_or_ge b q with h | h
                            · exact hall.out b h
                            · rw [show b = q by omega]; exact MB.out)
                          first | exact ⟨q + 1, by omega, by go_num, HN, hk7⟩ | ((repeat apply Exists.intro); exact ⟨⟨q + 1, by omega, by go_num, HN, hk7⟩, rfl⟩)
                        case measure => simp [intOf]; omega
                      | false =>
                        obtain ⟨rfl, rfl⟩ : x5 = (q : Int) ∧ er5 = 0 := by
                          rcases AN.out with ⟨q', h1, h2, h3, h4, h5⟩ | ⟨h1, h2⟩
                          · rcases Nat.lt_trichotomy q' q with h | h | h
                            · have := hall.out q' h; rw [h4] at this; cases this
                            · subst h; exact ⟨h1, h2⟩
                            · have := h5 q h; rw [MB.out] at this; cases this
                          · have := h2 q hqk; rw [MB.out] at this; cases this
                        have S7 := Lib.hid (S5.out.keep0 hk7.out)
                        go_wp2_with fail
                        go_roundw
                        case rel => first | exact ⟨i + 1, by omega, by go_num, S7⟩ | ((repeat apply Exists.intro); exact ⟨⟨i + 1, by omega, by go_num, S7⟩, rfl⟩)
                        case measure => simp [intOf]; omega
                · obtain rfl : er5 = 4 := by
                    rcases AN.out with ⟨q', h1, h2, h3, h4, h5⟩ | ⟨h1, h2⟩
                    · have := hall.out q' (by omega); rw [h4] at this; cases this
                    · exact h1
                  have dq : decide ((q : Int) + 9 ≤ 64) = false := by simp; omega
                  have S7 := Lib.hid (S5.out.keep0 hk6.out)
                  go_wp2_with fail
                  go_roundw
                  case rel => first | exact ⟨i + 1, by omega, by go_num, S7⟩ | ((repeat apply Exists.intro); exact ⟨⟨i + 1, by omega, by go_num, S7⟩, rfl⟩)
                  case measure => simp [intOf]; omega
            · go_wp2_with fail
              (with_reducible refine (RS.out _ 9 (Kept.refl _ _) (by omega) (by omega)).mono ?_)
              rintro e w5 ⟨x5, er5, rfl, hans, hs5, hl5⟩
              have AN := Lib.hid hans
              have S5 := Lib.hid hs5
              have L5 := Lib.hid hl5
              clear hans hs5 hl5
              go_wp2_with fail
              go_loopw [11] (fun v w6 => ∃ q : Nat, (q : Int) + 9 ≤ 65 ∧ v = .int .i64 q ∧ Hid (∀ b : Nat, b < q → meets ls b 9 = true) ∧ Hid (Kept [] w5 w6)) (fun v _ => (65 - intOf v).toNat)
              case atStart => exact ⟨0, by omega, rfl, Lib.hid (fun b hb => by omega), Lib.hid (Kept.refl _ _)⟩
              case round =>
                obtain ⟨q, hq, rfl, hall, hk6⟩ := hrel
                by_cases hqk : (q : Int) + 9 ≤ 64
                · obtain ⟨mb, hmb⟩ : ∃ mb, meets ls q 9 = mb := ⟨_, rfl⟩
                  have MB := Lib.hid hmb
                  clear hmb
                  obtain ⟨w6, rfl⟩ : ∃ w6 : World, w6 = wr := ⟨_, rfl⟩
                  have dq : decide ((q : Int) + 9 ≤ 64) = true := by simp; omega
                  go_wp2_with fail
                  go_loopw [12, 61] (fun u v w7 => ∃ (j : Nat) (b : Bool), j ≤ ls.length ∧ u = .bool b ∧ v = .int .i64 j ∧ Hid (b = meets (ls.take j) q 9) ∧ Hid (Kept [] w5 w7)) (fun _ v _ => (ls.length - intOf v).toNat)
                  case atStart => exact ⟨0, false, Nat.zero_le _, rfl, rfl, Lib.hid (by simp [meets]), hk6⟩
                  case round =>
                    obtain ⟨j, b, hj, rfl, rfl, hb, hk7⟩ := hrel
                    by_cases hjl : j < ls.length
                    · obtain ⟨xg, rfl, hcG⟩ := (L5.out.keep hk7.out) (by omega)
                      have hxl := hcG.1
                      have hz7 := hk7.out.size
                      obtain ⟨k0, k1⟩ := hcG.2 j hjl
                      have hr1 := G.out.1 _ (rg_mem hjl)
                      have HT := Lib.hid (meets_take ls q 9 j hjl)
                      have dj : decide (j < ls.length) = true := by simp; omega
                      generalize rg ls j = r at *
                      obtain ⟨ra, rn⟩ := r
                      dsimp only at k0 k1 hr1
                      clear hcG
                      cases b with
                      | true =>
                        have HE : Hid (true = meets (ls.take (j + 1)) q 9) := Lib.hid (by rw [HT.out, ← hb.out]; rfl)
                        go_wp2_with fail
                        go_roundw
                        case rel => first | exact ⟨j + 1, _, by omega, rfl, by go_num, HE, Lib.hid (by have := hk7.out; (repeat' (first | (with_reducible exact Kept.refl _ _) | (with_reducible assumption) | (with_reducible refine Kept.then_ (by with_reducible assumption) ?_) | (with_reducible refine Kept.thenS (by with_reducible assumption) ?_) | (with_reducible refine Kept.alloc ?_ _) | (with_reducible refine Kept.drew ?_) | (with_reducible refine Kept.drewN ?_ _) | (with_reducible refine Kept.setNew ?_ ?_ _) | ((try simp only [World.size_alloc, World.size_setCell, World.size_drew, size_drewN] at *); (try dsimp only); omega))))⟩ | ((repeat apply Exists.intro); exact ⟨⟨j + 1, _, by omega, rfl, by go_num, HE, Lib.hid (by have := hk7.out; (repeat' (first | (with_reducible exact Kept.refl _ _) | (with_reducible assumption) | (with_reducible refine Kept.then_ (by with_reducible assumption) ?_) | (with_reducible refine Kept.thenS (by with_reducible assumption) ?_) | (with_reducible refine Kept.alloc ?_ _) | (with_reducible refine Kept.drew ?_) | (with_reducible refine Kept.drewN ?_ _) | (with_reducible refine Kept.setNew ?_ ?_ _) | ((try simp only [World.size_alloc, World.size_setCell, World.size_drew, size_drewN] at *); (try dsimp only); omega))))⟩, rfl⟩)
                        case measure => simp [intOf]; omega
                      | false =>
                        by_cases t1 : (q : Int) < ra + rn
                        · by_cases t2 : ra < (q : Int) + 9
                          · have t1' : decide ((q : Int) < ra + rn) = true := by simp; omega
                            have t2' : decide (ra < (q : Int) + 9) = true := by simp; omega
                            have HE : Hid (true = meets (ls.take (j + 1)) q 9) := Lib.hid (by rw [HT.out, ← hb.out, t1', t2']; rfl)
                            go_wp2_with fail
                            go_roundw
                            case rel => first | exact ⟨j + 1, _, by omega, rfl, by go_num, HE, Lib.hid (by have := hk7.out; (repeat' (first | (with_reducible exact Kept.refl _ _) | (with_reducible assumption) | (with_reducible refine Kept.then_ (by with_reducible assumption) ?_) | (with_reducible refine Kept.thenS (by with_reducible assumption) ?_) | (with_reducible refine Kept.alloc ?_ _) | (with_reducible refine Kept.drew ?_) | (with_reducible refine Kept.drewN ?_ _) | (with_reducible refine Kept.setNew ?_ ?_ _) | ((try simp only [World.size_alloc, World.size_setCell, World.size_drew, size_drewN] at *); (try dsimp only); omega))))⟩ | ((repeat apply Exists.intro); exact ⟨⟨j + 1, _, by omega, rfl, by go_num, HE, Lib.hid (by have := hk7.out; (repeat' (first | (with_reducible exact Kept.refl _ _) | (with_reducible assumption) | (with_reducible refine Kept.then_ (by with_reducible assumption) ?_) | (with_reducible refine Kept.thenS (by with_reducible assumption) ?_) | (with_reducible refine Kept.alloc ?_ _) | (with_reducible refine Kept.drew ?_) | (with_reducible refine Kept.drewN ?_ _) | (with_reducible refine Kept.setNew ?_ ?_ _) | ((try simp only [World.size_alloc, World.size_setCell, World.size_drew, size_drewN] at *); (try dsimp only); omega))))⟩, rfl⟩)
                            case measure => simp [intOf]; omega
                          · have t1' : decide ((q : Int) < ra + rn) = true := by simp; omega
                            have t2' : decide (ra < (q : Int) + 9) = false := by simp; omega
                            have HE : Hid (false = meets (ls.take (j + 1)) q 9) := Lib.hid (by rw [HT.out, ← hb.out, t1', t2']; rfl)
                            go_wp2_with fail
                            go_roundw
                            case rel => first | exact ⟨j + 1, _, by omega, rfl, by go_num, HE, Lib.hid (by have := hk7.out; (repeat' (first | (with_reducible exact Kept.refl _ _) | (with_reducible assumption) | (with_reducible refine Kept.then_ (by with_reducible assumption) ?_) | (with_reducible refine Kept.thenS (by with_reducible assumption) ?_) | (with_reducible refine Kept.alloc ?_ _) | (with_reducible refine Kept.drew ?_) | (with_reducible refine Kept.drewN ?_ _) | (with_reducible refine Kept.setNew ?_ ?_ _) | ((try simp only [World.size_alloc, World.size_setCell, World.size_drew, size_drewN] at *); (try dsimp only); omega))))⟩ | ((repeat apply Exists.intro); exact ⟨⟨j + 1, _, by omega, rfl, by go_num, HE, Lib.hid (by have := hk7.out; (repeat' (first | (with_reducible exact Kept.refl _ _) | (with_reducible assumption) | (with_reducible refine Kept.then_ (by with_reducible assumption) ?_) | (with_reducible refine Kept.thenS (by with_reducible assumption) ?_) | (with_reducible refine Kept.alloc ?_ _) | (with_reducible refine Kept.drew ?_) | (with_reducible refine Kept.drewN ?_ _) | (with_reducible refine Kept.setNew ?_ ?_ _) | ((try simp only [World.size_alloc, World.size_setCell, World.size_drew, size_drewN] at *); (try dsimp only); omega))))⟩, rfl⟩)
                            case measure => simp [intOf]; omega
                        · have t1' : decide ((q : Int) < ra + rn) = false := by simp; omega
                          have HE : Hid (false = meets (ls.take (j + 1)) q 9) := Lib.hid (by rw [HT.out, ← hb.out, t1']; rfl)
                          go_wp2_with fail
                          go_roundw
                          case rel => first | exact ⟨j + 1, _, by omega, rfl, by go_num, HE, Lib.hid (by have := hk7.out; (repeat' (first | (with_reducible exact Kept.refl _ _) | (with_reducible assumption) | (with_reducible refine Kept.then_ (by with_reducible assumption) ?_) | (with_reducible refine Kept.thenS (by with_reducible assumption) ?_) | (with_reducible refine Kept.alloc ?_ _) | (with_reducible refine Kept.drew ?_) | (with_reducible refine Kept.drewN ?_ _) | (with_reducible refine Kept.setNew ?_ ?_ _) | ((try simp only [World.size_alloc, World.size_setCell, World.size_drew, size_drewN] at *); (try dsimp only); omega))))⟩ | ((repeat apply Exists.intro); exact ⟨⟨j + 1, _, by omega, rfl, by go_num, HE, Lib.hid (by have := hk7.out; (repeat' (first | (with_reducible exact Kept.refl _ _) | (with_reducible assumption) | (with_reducible refine Kept.then_ (by with_reducible assumption) ?_) | (with_reducible refine Kept.thenS (by with_reducible assumption) ?_) | (with_reducible refine Kept.alloc ?_ _) | (with_reducible refine Kept.drew ?_) | (with_reducible refine Kept.drewN ?_ _) | (with_reducible refine Kept.setNew ?_ ?_ _) | ((try simp only [World.size_alloc, World.size_setCell, World.size_drew, size_drewN] at *); (try dsimp only); omega))))⟩, rfl⟩)
                          case measure => simp [intOf]; omega
                    · obtain rfl : j = ls.length := by omega
                      obtain rfl : b = mb := by have := hb.out; rw [List.take_length, MB.out] at this; exact this
                      cases b with
                      | true =>
                        go_wp2_with fail
                        go_roundw
                        case rel =>
                          have HN : Hid (∀ b : Nat, b < q + 1 → meets ls b 9 = true) := Lib.hid (fun b hb => by
                            rcases Nat.lt_or_ge b q with h | h
                            · exact hall.out b h
                            · rw [show b = q by omega]; exact MB.out)
                          first | exact ⟨q + 1, by omega, by go_num, HN, hk7⟩ | ((repeat apply Exists.intro); exact ⟨⟨q + 1, by omega, by go_num, HN, hk7⟩, rfl⟩)
                        case measure => simp [intOf]; omega
                      | false =>
                        obtain ⟨rfl, rfl⟩ : x5 = (q : Int) ∧ er5 = 0 := by
                          rcases AN.out with ⟨q', h1, h2, h3, h4, h5⟩ | ⟨h1, h2⟩
                          · rcases Nat.lt_trichotomy q' q with h | h | h
                            · have := hall.out q' h; rw [h4] at this; cases this
                            · subst h; exact ⟨h1, h2⟩
                            · have := h5 q h; rw [MB.out] at this; cases this
                          · have := h2 q hqk; rw [MB.out] at this; cases this
                        have S7 := Lib.hid (S5.out.keep0 hk7.out)
                        go_wp2_with fail
                        go_roundw
                        case rel => first | exact ⟨i + 1, by omega, by go_num, S7⟩ | ((repeat apply Exists.intro); exact ⟨⟨i + 1, by omega, by go_num, S7⟩, rfl⟩)
                        case measure => simp [intOf]; omega
                · obtain rfl : er5 = 4 := by
                    rcases AN.out with ⟨q', h1, h2, h3, h4, h5⟩ | ⟨h1, h2⟩
                    · have := hall.out q' (by omega); rw [h4] at this; cases this
                    · exact h1
                  have dq : decide ((q : Int) + 9 ≤ 64) = false := by simp; omega
                  have S7 := Lib.hid (S5.out.keep0 hk6.out)
                  go_wp2_with fail
                  go_roundw
                  case rel => first | exact ⟨i + 1, by omega, by go_num, S7⟩ | ((repeat apply Exists.intro); exact ⟨⟨i + 1, by omega, by go_num, S7⟩, rfl⟩)
                  case measure => simp [intOf]; omega
      · obtain rfl : i = len0 := by omega
        have K := Lib.hid hs.out.kept
        go_wp2_with fail
        go_ret
        exact ⟨rfl, K.out.below⟩
  · have q0 : decide (100 < (len0 : Int)) = true := by simp; omega
    go_enter Try.func6, Try.ntmps6
    go_wp2_with fail
    (with_reducible refine (C1.out).mono ?_)
    rintro e w1 ⟨rfl, hb1⟩
    have hs1 := hb1.size
    (try simp only [World.size_alloc, World.size_setCell, World.size_drew, size_drewN] at hs1)
    go_wp2_with fail
    (with_reducible refine (C2.out _ hb1).mono ?_)
    rintro e w2 ⟨p, rfl, hs2⟩
    have K := Lib.hid hs2.kept
    clear hs2 hb1
    go_wp2_with fail
    go_ret
    exact ⟨rfl, K.out.below⟩
theorem own : ownKnob Try.prog.godebug = none := by kernel_rfl
theorem laidOut : laidOutB Try.prog = true := by kernel_rfl
set_option maxRecDepth 100000 in
theorem lifted (os : Os) (started : os.Started) (H : Type) (enc : TypeId × Value → H) :
    ReturnsInHanded {} Try.checked os 6 .any (Rows.arenaLowestSpec.pre6 enc Try.prog Try.f6 Rows.arenaLowestRow.domain false) (Rows.arenaLowestSpec.post enc Try.prog Try.f6 false true false false) := by
  refine returnsInHanded_of_change_sized (C := Try.checked) own started (by kernel_rfl) Try.func6
    (ChangeSpec.witness6 (enc := enc) (C := Try.checked) false ⟨#[], #[.slice none 0 0], []⟩ 8 (by kernel_rfl) (by kernel_rfl) (by kernel_rfl) (by kernel_rfl)) ?_
  intro W base args ds gs before hval0 hW hcnd hsz _
  have hval : ∀ (j : Nat) t v, Try.f6.params[j]? = some t → args[j]? = some v → Value.okWide Try.prog W .any base t v := hval0
  have hW' := hW
  obtain ⟨p, q, hA0, hV, rfl, hfz, hnd⟩ := hW
  have hA : DataW.TrodAll enc Try.prog W 0 (fun _ => true) true Try.f6.params.toList args.toList ds p := hA0
  rw [Try.params6] at hA hval hsz
  obtain ⟨v0, vs0, d0, ds0, p0, q0, hargs, rfl, rfl, h0, r0⟩ := trodAll_cons hA
  obtain ⟨rfl, rfl, rfl⟩ := trodAll_nil r0
  obtain rfl : args = #[v0] := by cases args; simp_all
  obtain ⟨rfl, rfl⟩ := trodVars_none hV
  have k0 := h0
  have lt0 : ∀ x ∈ p0, x.block < W.heap.size := by obtain ⟨m, hm⟩ := k0; exact DataW.trod_lt m _ _ _ hm
  obtain ⟨a0, len0, cap0, rfl⟩ := okWide_slice Try.underlying43 (hval 0 43 v0 rfl rfl)
  obtain ⟨z0, w0⟩ := isT43_of h0 (fun n hn => by have := List.all_eq_true.1 hsz n (DataW.weights_mem_each (j := 0) (t := 43) rfl rfl n hn); simpa using this)
  clear hA0 hval0
  refine (walk a0 len0 cap0 z0 W w0).mono fun e W' ⟨he, bel⟩ => ?_
  subst he
  exact ⟨_, rfl, _, _, _, [], _, [], hW', trodAll_mk1 (shut_bool Try.underlying4 _), (trodAll_cons_mk (Below.trod laidOut (by kernel_rfl) (of_decide_eq_true (by kernel_rfl)) k0 bel lt0) trodAll_mk0), rfl, bel.frame _, fun h => by cases h⟩
theorem over : Rows.arenaLowestRow.holds Try.pinned (OpenSpec.ofChange Rows.arenaLowestSpec) :=
  OpenClaim.holds_of_wide 6 Try.f6 rfl rfl rfl rfl rfl rfl rfl ⟨rfl, rfl, rfl, rfl, rfl⟩ rfl rfl rfl rfl rfl (by kernel_rfl) Try.func6 (by kernel_rfl)
    (of_decide_eq_true (by kernel_rfl)) (by unfold Func.isWrapper; first | (rw [if_pos (by decide +kernel)]; kernel_rfl) | (rw [if_neg (by decide +kernel)]; exact ⟨rfl, rfl⟩))
    (fun os started H enc _ => lifted os started H enc)
theorem proved : Rows.ArenaLowestSaid := over
#print axioms proved
end Go.Proofs.Ytekblfnemcaaeaa.ArenaLowest
