/- Each address that a block takes is in it; just its first is where it begins. No condition. -/
import Derived.Test.YtdallcepachhoaaLgAlive
import Derived.Test.YtdallcepachhoaaLgMade
import Derived.Test.YtdallcepachhoaaLgOne
set_option linter.unusedVariables false
set_option linter.unusedSimpArgs false
namespace Go.Proofs.Ytdallcepachhoaa
open Go.RowKit
namespace LedgerIn
open Go.RowKit Go.ChangeShapes Go.WideShapes Go.ChangeAt Go.Joins
theorem mx_cases {n : Int} (h : 0 ≤ n) : n = 0 ∧ mx n = 1 ∨ n = 1 ∧ mx n = 1 ∨ 2 ≤ n ∧ mx n = n := by
  unfold mx
  split <;> omega
/-- Behind some rounds: the same blocks. -/
def SameL (W : World) (g p : Nat) (ls : List EntT) (w : World) : Prop := ∃ ls', LgX W [g] w p ls' ∧ ls'.map bk = ls.map bk ∧ CellsB w g (ls.map bk)
theorem SameL.keep0 {W w w' : World} {g p : Nat} {ls : List EntT} (h : SameL W g p ls w) (hk : Kept [] w w') : SameL W g p ls w' := by
  obtain ⟨ls', h1, h2, h3⟩ := h
  exact ⟨ls', h1.keep0 hk, h2, h3.keep hk⟩
theorem SameL.kept {W w : World} {g p : Nat} {ls : List EntT} (h : SameL W g p ls w) : Kept [] W w := by
  obtain ⟨ls', h1, h2, h3⟩ := h
  exact h1.kept
/-- What a round's calls answer behind Let. -/
def RoundK (W : World) (g p : Nat) (ls : List EntT) (j y0 : Nat) (K : Int) (w w' : World) : Prop :=
  SameL W g p ls w' ∧ KeptX [y0] w w' ∧
  (∀ w'', Kept [] w' w'' → Calls Try.prog 19 #[.pointer (some ⟨p, 0, none⟩), .int .u64 ((re ls j).1 + K)] w'' fun e w3 => e = .returned (.tuple #[.agg #[.int .u64 (re ls j).1, .int .u64 (re ls j).2.1, .int .u64 (re ls j).2.2.1], .int .i64 0]) ∧ Kept [] w'' w3) ∧
  (∀ w'', Kept [] w' w'' → Calls Try.prog 20 #[.pointer (some ⟨p, 0, none⟩), .int .u64 ((re ls j).1 + K)] w'' fun e w3 => (∃ b : BlkT, e = .returned (.tuple #[.agg #[.int .u64 b.1, .int .u64 b.2.1, .int .u64 b.2.2], .int .i64 (if K = 0 then 0 else 5)])) ∧ Kept [] w'' w3) ∧
  (∀ w'', Kept [] w' w'' → Calls Try.prog 19 #[.pointer (some ⟨p, 0, none⟩), .int .u64 ((re ls j).1 + mx (re ls j).2.1)] w'' fun e w3 => (∃ (b : BlkT) (er : Int), e = .returned (.tuple #[.agg #[.int .u64 b.1, .int .u64 b.2.1, .int .u64 b.2.2], .int .i64 er]) ∧ (er = 0 → b.1 = (re ls j).1 + mx (re ls j).2.1)) ∧ Kept [] w'' w3)
theorem let_round {W wr w : World} {g p : Nat} {ls : List EntT} (h : SameL W g p ls wr) (hls : ls.length ≤ 1000) (j : Nat) (hj : j < ls.length) (hi0 : LInv ls) (K : Int) (hK : 0 ≤ K ∧ K < mx (re ls j).2.1) (t : TypeId) (cs : Array Value)
    (y1 : Nat) (hy1 : (wr.alloc (.cells cs t)).heap.size ≤ y1) (hk : Kept [] (wr.alloc (.cells cs t)) w) (hb : Blk w y1 29 #[.int .u64 (re ls j).1]) :
    Calls Try.prog 18 #[.pointer (some ⟨p, 0, none⟩), .slice (some ⟨y1, 0, none⟩) 1 1] w fun e w' => (∃ er : Int, e = .returned (.int .i64 er)) ∧ RoundK W g p ls j wr.heap.size K w w' := by
  obtain ⟨ls1, h1, h2, h3⟩ := h
  have hl1 := len_bk h2
  have hj1 : j < ls1.length := by omega
  have L1 := h1.more ((Kept.refl [] wr).alloc (.cells cs t)) wr.heap.size (Nat.le_refl _) (by simp)
  have ee := bk_re h2 j hj
  have e1 : (re ls1 j).1 = (re ls j).1 := congrArg (fun b : BlkT => b.1) ee
  rw [← e1] at hb
  refine (x_let L1 hk (by omega) (some ⟨y1, 0, none⟩) 1 1 [(re ls1 j).1] rfl (rowX_one hb) (fun _ x hx => .inr (by cases hx; exact hy1)) (by simp)).mono fun e w' ⟨he, hL, hkx⟩ => ⟨⟨_, he⟩, ?_⟩
  rw [eachP_one (idx_self h1.inv hj1)] at hL
  obtain ⟨t1, t2, t3⟩ := turn_bk hj1 false 8
  generalize (turnStep false 8 ls1 j).2 = ls2 at *
  have s2 : ls2.map bk = ls.map bk := t1.trans h2
  have hl2 := len_bk s2
  have hj2 : j < ls2.length := by omega
  have e2 := bk_re s2 j hj
  have f1 : (re ls2 j).1 = (re ls j).1 := congrArg (fun b : BlkT => b.1) e2
  have f2 : (re ls2 j).2.1 = (re ls j).2.1 := congrArg (fun b : BlkT => b.2.1) e2
  have f3 : (re ls2 j).2.2.1 = (re ls j).2.2.1 := congrArg (fun b : BlkT => b.2.2) e2
  have hi2 := hL.inv
  have LG := hL.fewer (Y := [g]) (fun x hx => by simp at hx; simp [hx])
  have kg : CellsB w g (ls.map bk) := (h3.keep ((Kept.refl [] wr).alloc (.cells cs t))).keep hk
  refine ⟨⟨ls2, LG, s2, kg.keepX hkx (by simp)⟩, hkx.sub (fun x hx => by simp at hx; simp [hx]), fun w'' hk'' => ?_, fun w'' hk'' => ?_, fun w'' hk'' => ?_⟩
  · have := x_in (LG.keep0 hk'') (by omega) ((re ls j).1 + K) (bk (re ls2 j)) 0 (in_within hj2 t2 _ (by omega) (by rw [f1, f2]; omega))
    rw [e2] at this
    exact this
  · have hat := at_within hi2 hj2 t2 ((re ls j).1 + K) (by omega) (by rw [f1, f2]; omega)
    by_cases k0 : K = 0
    · rw [if_pos (by omega)] at hat
      rw [if_pos k0]
      exact (x_at (LG.keep0 hk'') (by omega) _ _ _ hat).mono fun e w3 ⟨he, hk3⟩ => ⟨⟨_, he⟩, hk3⟩
    · rw [if_neg (by omega)] at hat
      rw [if_neg k0]
      exact (x_at (LG.keep0 hk'') (by omega) _ _ _ hat).mono fun e w3 ⟨he, hk3⟩ => ⟨⟨_, he⟩, hk3⟩
  · obtain ⟨⟨b, er⟩, hr⟩ := inR_ex ls2 ((re ls j).1 + mx (re ls j).2.1)
    refine (x_in (LG.keep0 hk'') (by omega) _ b er hr).mono fun e w3 ⟨he, hk3⟩ => ⟨⟨b, er, he, fun h0 => ?_⟩, hk3⟩
    rw [← f1, ← f2] at hr
    have := in_behind hi2 hj2 b er hr h0
    rw [this, f1, f2]
set_option maxRecDepth 100000 in
set_option maxHeartbeats 1000000 in
theorem walk (a0 : Option Addr) (len0 cap0 : Nat) (z0 : Unit) (y : Int) (W : World) (w0 : IsActZ W a0 len0 cap0 z0) (wy : (Lit.int .u16 y).wf = true) :
    Calls Try.prog 6 #[.slice a0 len0 cap0, .int .u16 y] W fun e W' => e = .returned (.bool true) ∧ Below W.heap.size W W' := by
  have b2 := bounds_u16 wy
  have C1 := Lib.hid (alive_any W)
  have C2 := Lib.hid (fun w hk => great_any w0 w hk)
  have C3 : Hid (len0 ≤ 100 → ∀ w, Kept [] W w → Calls Try.prog 11 #[.slice a0 len0 cap0] w (FilledR len0 w)) := Lib.hid (fun h w hk => filled_any w0 h w hk)
  clear wy w0
  go_enter Try.func6, Try.ntmps6
  go_wp2_with fail
  (with_reducible refine (C1.out).mono ?_)
  rintro e w1 ⟨rfl, hb1⟩
  have hs1 := hb1.size
  (try simp only [World.size_alloc, World.size_setCell, World.size_drew, size_drewN] at hs1)
  go_wp2_with fail
  (with_reducible refine (C2.out _ hb1).mono ?_)
  rintro e w2 ⟨b, rfl, hlen, hb2⟩
  have hb2' := hb2.then_ hb1
  clear hb2 hb1
  cases b
  case true =>
    go_wp2_with fail
    go_ret
    exact ⟨rfl, hb2'.below⟩
  case false =>
    have h100 : len0 ≤ 100 := hlen rfl
    have K2 := Lib.hid hb2'
    clear hlen
    go_wp2_with fail
    (with_reducible refine (C3.out h100 _ hb2').mono ?_)
    rintro e w3 ⟨p, ls, rfl, hls, hL⟩
    have L3 := Lib.hid hL
    have hp3 := hL.ltp
    have I := Lib.hid hL.inv
    clear hL hb2'
    have hA2 : ls.length ≤ 1000 := by omega
    have CA := Lib.hid (x_all L3.out hA2)
    go_wp2_with fail
    (with_reducible refine CA.out.mono ?_)
    rintro e w4 ⟨⟨B, c, rfl, hB⟩, hb4⟩
    have hq : (ls.length = 0 ∧ Kept [] w2 w4) ∨ (∃ g, B = some ⟨g, 0, none⟩ ∧ SameL w2 g p ls w4) := by
      rcases Nat.eq_zero_or_pos ls.length with h | h
      · exact .inl ⟨h, hb4.then_ L3.out.kept⟩
      · obtain ⟨g, h1, h2, h3⟩ := hB (by simpa using h)
        exact .inr ⟨g, h2, ls, L3.out.more hb4 g h1 h3.1, rfl, h3⟩
    clear hB hb4
    rcases hq with ⟨hl0, K4'⟩ | ⟨g, rfl, hS4⟩
    · have K4 := Lib.hid K4'
      rw [hl0]
      clear K4' CA
      go_wp2_with fail
      go_loopw [24] (fun v w6 => v = .int .i64 0 ∧ Hid (Kept [] w4 w6)) (fun _ _ => 0)
      case atStart => exact ⟨rfl, Lib.hid (Kept.refl _ _)⟩
      case round =>
        obtain ⟨rfl, hk6⟩ := hrel
        go_wp2_with fail
        go_ret
        exact ⟨rfl, ((hk6.out.then_ K4.out).then_ K2.out).below⟩
    · have S4 := Lib.hid hS4
      clear hS4 CA
      go_wp2_with fail
      go_loopw [24] (fun v w6 => ∃ j : Nat, j ≤ ls.length ∧ v = .int .i64 j ∧ Hid (SameL w2 g p ls w6)) (fun v _ => (ls.length - intOf v).toNat)
      case atStart => exact ⟨0, Nat.zero_le _, rfl, S4⟩
      case round =>
        obtain ⟨j, hj, rfl, hs⟩ := hrel
        rename_i wr
        by_cases hjl : j < ls.length
        · have hc : CellsB wr g (ls.map bk) := by obtain ⟨_, _, _, h⟩ := hs.out; exact h
          obtain ⟨k0, k1, k2⟩ := hc.2 j (by simpa using hjl)
          rw [rb_map hjl] at k0 k1 k2
          have hgl := hc.1
          have bd := re_bd I.out hjl
          have dj : decide (j < ls.length) = true := by simp; omega
          obtain ⟨T, hT⟩ : ∃ T, mx (re ls j).2.1 = T := ⟨_, rfl⟩
          obtain ⟨K, hK⟩ : ∃ K, y % T = K := ⟨_, rfl⟩
          have bK : 0 ≤ K ∧ K < T := by
            rw [hT] at bd
            have := Int.emod_nonneg y (show T ≠ 0 by omega)
            have := Int.emod_lt_of_pos y (show 0 < T by omega)
            omega
          have DL := Lib.hid (fun cs t w y1 h1 h2 h3 => let_round (w := w) hs.out hA2 j hjl I.out K (by rw [hT]; exact bK) t cs y1 h1 h2 h3)
          have hlp : p < wr.heap.size := by obtain ⟨_, h, _⟩ := hs.out; exact h.ltp
          unfold RoundK at DL
          rw [hT] at DL bd
          have hTc := mx_cases bd.2.2.1
          rw [hT] at hTc
          clear hc hT
          generalize re ls j = r at *
          obtain ⟨ra, rn, rl, rh⟩ := r
          simp only [bk] at k0 k1 k2
          dsimp only at DL bd hTc
          have s1 : ra + K ≤ 18446744073709551615 := by omega
          rcases hTc with ⟨rfl, rfl⟩ | ⟨rfl, rfl⟩ | ⟨h2n, rfl⟩
          · obtain rfl : K = 0 := by omega
            simp only [Int.add_zero, if_true] at DL
            have t6 : Int.tmod y 1 = 0 := by rw [Int.tmod_eq_emod_of_nonneg b2.1]; exact hK
            go_wp2_with fail
            (with_reducible refine (DL.out #[.int .u64 ra, .int .u64 0, .int .u64 rl] 33 _ _ ?h1 ?h2 ?h3).mono ?_)
            case h3 => exact Blk.new' _ _ _ (by simp)
            case h2 => exact (Kept.refl [] _).alloc _
            case h1 => simp
            rintro e w5 ⟨⟨e5, rfl⟩, hs5, hk5, hd1, hd2, hd3⟩
            have S5 := Lib.hid hs5
            have D1 := Lib.hid hd1
            have D2 := Lib.hid hd2
            have D3 := Lib.hid hd3
            have B5 : Blk w5 wr.heap.size 33 #[.int .u64 ra, .int .u64 0, .int .u64 rl] := blkX ((Blk.new wr _ _).keep0 ((Kept.refl [] _).alloc _)) hk5 (by simp)
            have c5 := B5.cell
            have f5 := B5.frozen
            have l5 := B5.lt
            have hp5 : p < w5.heap.size := by obtain ⟨_, h, _⟩ := S5.out; exact h.ltp
            clear hs5 hk5 hd1 hd2 hd3 DL
            go_wp2_with fail
            (with_reducible refine (D1.out _ (Kept.refl _ _)).mono ?_)
            rintro e w6 ⟨rfl, hb6⟩
            have B6 := B5.keep0 hb6
            have c6 := B6.cell
            have f6 := B6.frozen
            have l6 := B6.lt
            go_wp2_with fail
            (with_reducible refine (D2.out _ (by (repeat' (first | (with_reducible exact Kept.refl _ _) | (with_reducible assumption) | (with_reducible refine Kept.then_ (by with_reducible assumption) ?_) | (with_reducible refine Kept.thenS (by with_reducible assumption) ?_) | (with_reducible refine Kept.alloc ?_ _) | (with_reducible refine Kept.drew ?_) | (with_reducible refine Kept.drewN ?_ _) | (with_reducible refine Kept.setNew ?_ ?_ _) | ((try simp only [World.size_alloc, World.size_setCell, World.size_drew, size_drewN] at *); (try dsimp only); omega))))).mono ?_)
            rintro e w7 ⟨⟨b7, rfl⟩, hb7⟩
            have B9 := (Blk.new w6 33 #[.int .u64 ra, .int .u64 0, .int .u64 rl]).keep0 hb7
            have B7 := (B6.keep0 ((Kept.refl [] w6).alloc (.cells #[.int .u64 ra, .int .u64 0, .int .u64 rl] 33))).keep0 hb7
            have c7 := B7.cell
            have f7 := B7.frozen
            have l7 := B7.lt
            have c9 := B9.cell
            have f9 := B9.frozen
            have l9 := B9.lt
            go_wp2_with fail
            (with_reducible refine (D3.out _ (by (repeat' (first | (with_reducible exact Kept.refl _ _) | (with_reducible assumption) | (with_reducible refine Kept.then_ (by with_reducible assumption) ?_) | (with_reducible refine Kept.thenS (by with_reducible assumption) ?_) | (with_reducible refine Kept.alloc ?_ _) | (with_reducible refine Kept.drew ?_) | (with_reducible refine Kept.drewN ?_ _) | (with_reducible refine Kept.setNew ?_ ?_ _) | ((try simp only [World.size_alloc, World.size_setCell, World.size_drew, size_drewN] at *); (try dsimp only); omega))))).mono ?_)
            rintro e w8 ⟨⟨⟨q0, q1, q2⟩, er8, rfl, he8⟩, hb8⟩
            have B8 : Blk w8 wr.heap.size 33 #[.int .u64 ra, .int .u64 0, .int .u64 rl] := B7.keep0 (by (repeat' (first | (with_reducible exact Kept.refl _ _) | (with_reducible assumption) | (with_reducible refine Kept.then_ (by with_reducible assumption) ?_) | (with_reducible refine Kept.thenS (by with_reducible assumption) ?_) | (with_reducible refine Kept.alloc ?_ _) | (with_reducible refine Kept.drew ?_) | (with_reducible refine Kept.drewN ?_ _) | (with_reducible refine Kept.setNew ?_ ?_ _) | ((try simp only [World.size_alloc, World.size_setCell, World.size_drew, size_drewN] at *); (try dsimp only); omega))))
            have c8 := B8.cell
            have f8 := B8.frozen
            have l8 := B8.lt
            dsimp only at he8
            by_cases e8 : er8 = 0
            · obtain rfl := he8 e8
              subst e8
              go_wp2_with fail
              go_roundw
              case rel => first | exact ⟨j + 1, by omega, by go_num, Lib.hid (S5.out.keep0 (by (repeat' (first | (with_reducible exact Kept.refl _ _) | (with_reducible assumption) | (with_reducible refine Kept.then_ (by with_reducible assumption) ?_) | (with_reducible refine Kept.thenS (by with_reducible assumption) ?_) | (with_reducible refine Kept.alloc ?_ _) | (with_reducible refine Kept.drew ?_) | (with_reducible refine Kept.drewN ?_ _) | (with_reducible refine Kept.setNew ?_ ?_ _) | ((try simp only [World.size_alloc, World.size_setCell, World.size_drew, size_drewN] at *); (try dsimp only); omega)))))⟩ | ((repeat apply Exists.intro); exact ⟨⟨j + 1, by omega, by go_num, Lib.hid (S5.out.keep0 (by (repeat' (first | (with_reducible exact Kept.refl _ _) | (with_reducible assumption) | (with_reducible refine Kept.then_ (by with_reducible assumption) ?_) | (with_reducible refine Kept.thenS (by with_reducible assumption) ?_) | (with_reducible refine Kept.alloc ?_ _) | (with_reducible refine Kept.drew ?_) | (with_reducible refine Kept.drewN ?_ _) | (with_reducible refine Kept.setNew ?_ ?_ _) | ((try simp only [World.size_alloc, World.size_setCell, World.size_drew, size_drewN] at *); (try dsimp only); omega)))))⟩, rfl⟩)
              case measure => simp [intOf]; omega
            · have e9 : (er8 == 0) = false := by rw [beq_eq_false_iff_ne]; exact e8
              go_wp2_with fail
              go_roundw
              case rel => first | exact ⟨j + 1, by omega, by go_num, Lib.hid (S5.out.keep0 (by (repeat' (first | (with_reducible exact Kept.refl _ _) | (with_reducible assumption) | (with_reducible refine Kept.then_ (by with_reducible assumption) ?_) | (with_reducible refine Kept.thenS (by with_reducible assumption) ?_) | (with_reducible refine Kept.alloc ?_ _) | (with_reducible refine Kept.drew ?_) | (with_reducible refine Kept.drewN ?_ _) | (with_reducible refine Kept.setNew ?_ ?_ _) | ((try simp only [World.size_alloc, World.size_setCell, World.size_drew, size_drewN] at *); (try dsimp only); omega)))))⟩ | ((repeat apply Exists.intro); exact ⟨⟨j + 1, by omega, by go_num, Lib.hid (S5.out.keep0 (by (repeat' (first | (with_reducible exact Kept.refl _ _) | (with_reducible assumption) | (with_reducible refine Kept.then_ (by with_reducible assumption) ?_) | (with_reducible refine Kept.thenS (by with_reducible assumption) ?_) | (with_reducible refine Kept.alloc ?_ _) | (with_reducible refine Kept.drew ?_) | (with_reducible refine Kept.drewN ?_ _) | (with_reducible refine Kept.setNew ?_ ?_ _) | ((try simp only [World.size_alloc, World.size_setCell, World.size_drew, size_drewN] at *); (try dsimp only); omega)))))⟩, rfl⟩)
              case measure => simp [intOf]; omega
          · obtain rfl : K = 0 := by omega
            simp only [Int.add_zero, if_true] at DL
            have t6 : Int.tmod y 1 = 0 := by rw [Int.tmod_eq_emod_of_nonneg b2.1]; exact hK
            go_wp2_with fail
            (with_reducible refine (DL.out #[.int .u64 ra, .int .u64 1, .int .u64 rl] 33 _ _ ?h1 ?h2 ?h3).mono ?_)
            case h3 => exact Blk.new' _ _ _ (by simp)
            case h2 => exact (Kept.refl [] _).alloc _
            case h1 => simp
            rintro e w5 ⟨⟨e5, rfl⟩, hs5, hk5, hd1, hd2, hd3⟩
            have S5 := Lib.hid hs5
            have D1 := Lib.hid hd1
            have D2 := Lib.hid hd2
            have D3 := Lib.hid hd3
            have B5 : Blk w5 wr.heap.size 33 #[.int .u64 ra, .int .u64 1, .int .u64 rl] := blkX ((Blk.new wr _ _).keep0 ((Kept.refl [] _).alloc _)) hk5 (by simp)
            have c5 := B5.cell
            have f5 := B5.frozen
            have l5 := B5.lt
            have hp5 : p < w5.heap.size := by obtain ⟨_, h, _⟩ := S5.out; exact h.ltp
            clear hs5 hk5 hd1 hd2 hd3 DL
            go_wp2_with fail
            (with_reducible refine (D1.out _ (Kept.refl _ _)).mono ?_)
            rintro e w6 ⟨rfl, hb6⟩
            have B6 := B5.keep0 hb6
            have c6 := B6.cell
            have f6 := B6.frozen
            have l6 := B6.lt
            go_wp2_with fail
            (with_reducible refine (D2.out _ (by (repeat' (first | (with_reducible exact Kept.refl _ _) | (with_reducible assumption) | (with_reducible refine Kept.then_ (by with_reducible assumption) ?_) | (with_reducible refine Kept.thenS (by with_reducible assumption) ?_) | (with_reducible refine Kept.alloc ?_ _) | (with_reducible refine Kept.drew ?_) | (with_reducible refine Kept.drewN ?_ _) | (with_reducible refine Kept.setNew ?_ ?_ _) | ((try simp only [World.size_alloc, World.size_setCell, World.size_drew, size_drewN] at *); (try dsimp only); omega))))).mono ?_)
            rintro e w7 ⟨⟨b7, rfl⟩, hb7⟩
            have B9 := (Blk.new w6 33 #[.int .u64 ra, .int .u64 1, .int .u64 rl]).keep0 hb7
            have B7 := (B6.keep0 ((Kept.refl [] w6).alloc (.cells #[.int .u64 ra, .int .u64 1, .int .u64 rl] 33))).keep0 hb7
            have c7 := B7.cell
            have f7 := B7.frozen
            have l7 := B7.lt
            have c9 := B9.cell
            have f9 := B9.frozen
            have l9 := B9.lt
            go_wp2_with fail
            (with_reducible refine (D3.out _ (by (repeat' (first | (with_reducible exact Kept.refl _ _) | (with_reducible assumption) | (with_reducible refine Kept.then_ (by with_reducible assumption) ?_) | (with_reducible refine Kept.thenS (by with_reducible assumption) ?_) | (with_reducible refine Kept.alloc ?_ _) | (with_reducible refine Kept.drew ?_) | (with_reducible refine Kept.drewN ?_ _) | (with_reducible refine Kept.setNew ?_ ?_ _) | ((try simp only [World.size_alloc, World.size_setCell, World.size_drew, size_drewN] at *); (try dsimp only); omega))))).mono ?_)
            rintro e w8 ⟨⟨⟨q0, q1, q2⟩, er8, rfl, he8⟩, hb8⟩
            have B8 : Blk w8 wr.heap.size 33 #[.int .u64 ra, .int .u64 1, .int .u64 rl] := B7.keep0 (by (repeat' (first | (with_reducible exact Kept.refl _ _) | (with_reducible assumption) | (with_reducible refine Kept.then_ (by with_reducible assumption) ?_) | (with_reducible refine Kept.thenS (by with_reducible assumption) ?_) | (with_reducible refine Kept.alloc ?_ _) | (with_reducible refine Kept.drew ?_) | (with_reducible refine Kept.drewN ?_ _) | (with_reducible refine Kept.setNew ?_ ?_ _) | ((try simp only [World.size_alloc, World.size_setCell, World.size_drew, size_drewN] at *); (try dsimp only); omega))))
            have c8 := B8.cell
            have f8 := B8.frozen
            have l8 := B8.lt
            dsimp only at he8
            by_cases e8 : er8 = 0
            · obtain rfl := he8 e8
              subst e8
              go_wp2_with fail
              go_roundw
              case rel => first | exact ⟨j + 1, by omega, by go_num, Lib.hid (S5.out.keep0 (by (repeat' (first | (with_reducible exact Kept.refl _ _) | (with_reducible assumption) | (with_reducible refine Kept.then_ (by with_reducible assumption) ?_) | (with_reducible refine Kept.thenS (by with_reducible assumption) ?_) | (with_reducible refine Kept.alloc ?_ _) | (with_reducible refine Kept.drew ?_) | (with_reducible refine Kept.drewN ?_ _) | (with_reducible refine Kept.setNew ?_ ?_ _) | ((try simp only [World.size_alloc, World.size_setCell, World.size_drew, size_drewN] at *); (try dsimp only); omega)))))⟩ | ((repeat apply Exists.intro); exact ⟨⟨j + 1, by omega, by go_num, Lib.hid (S5.out.keep0 (by (repeat' (first | (with_reducible exact Kept.refl _ _) | (with_reducible assumption) | (with_reducible refine Kept.then_ (by with_reducible assumption) ?_) | (with_reducible refine Kept.thenS (by with_reducible assumption) ?_) | (with_reducible refine Kept.alloc ?_ _) | (with_reducible refine Kept.drew ?_) | (with_reducible refine Kept.drewN ?_ _) | (with_reducible refine Kept.setNew ?_ ?_ _) | ((try simp only [World.size_alloc, World.size_setCell, World.size_drew, size_drewN] at *); (try dsimp only); omega)))))⟩, rfl⟩)
              case measure => simp [intOf]; omega
            · have e9 : (er8 == 0) = false := by rw [beq_eq_false_iff_ne]; exact e8
              go_wp2_with fail
              go_roundw
              case rel => first | exact ⟨j + 1, by omega, by go_num, Lib.hid (S5.out.keep0 (by (repeat' (first | (with_reducible exact Kept.refl _ _) | (with_reducible assumption) | (with_reducible refine Kept.then_ (by with_reducible assumption) ?_) | (with_reducible refine Kept.thenS (by with_reducible assumption) ?_) | (with_reducible refine Kept.alloc ?_ _) | (with_reducible refine Kept.drew ?_) | (with_reducible refine Kept.drewN ?_ _) | (with_reducible refine Kept.setNew ?_ ?_ _) | ((try simp only [World.size_alloc, World.size_setCell, World.size_drew, size_drewN] at *); (try dsimp only); omega)))))⟩ | ((repeat apply Exists.intro); exact ⟨⟨j + 1, by omega, by go_num, Lib.hid (S5.out.keep0 (by (repeat' (first | (with_reducible exact Kept.refl _ _) | (with_reducible assumption) | (with_reducible refine Kept.then_ (by with_reducible assumption) ?_) | (with_reducible refine Kept.thenS (by with_reducible assumption) ?_) | (with_reducible refine Kept.alloc ?_ _) | (with_reducible refine Kept.drew ?_) | (with_reducible refine Kept.drewN ?_ _) | (with_reducible refine Kept.setNew ?_ ?_ _) | ((try simp only [World.size_alloc, World.size_setCell, World.size_drew, size_drewN] at *); (try dsimp only); omega)))))⟩, rfl⟩)
              case measure => simp [intOf]; omega
          · by_cases k0 : K = 0
            · obtain rfl : K = 0 := by omega
              simp only [Int.add_zero, if_true] at DL
              have t6 : Int.tmod y T = 0 := by rw [Int.tmod_eq_emod_of_nonneg b2.1]; exact hK
              go_wp2_with fail
              (with_reducible refine (DL.out #[.int .u64 ra, .int .u64 T, .int .u64 rl] 33 _ _ ?h1 ?h2 ?h3).mono ?_)
              case h3 => exact Blk.new' _ _ _ (by simp)
              case h2 => exact (Kept.refl [] _).alloc _
              case h1 => simp
              rintro e w5 ⟨⟨e5, rfl⟩, hs5, hk5, hd1, hd2, hd3⟩
              have S5 := Lib.hid hs5
              have D1 := Lib.hid hd1
              have D2 := Lib.hid hd2
              have D3 := Lib.hid hd3
              have B5 : Blk w5 wr.heap.size 33 #[.int .u64 ra, .int .u64 T, .int .u64 rl] := blkX ((Blk.new wr _ _).keep0 ((Kept.refl [] _).alloc _)) hk5 (by simp)
              have c5 := B5.cell
              have f5 := B5.frozen
              have l5 := B5.lt
              have hp5 : p < w5.heap.size := by obtain ⟨_, h, _⟩ := S5.out; exact h.ltp
              clear hs5 hk5 hd1 hd2 hd3 DL
              go_wp2_with fail
              (with_reducible refine (D1.out _ (Kept.refl _ _)).mono ?_)
              rintro e w6 ⟨rfl, hb6⟩
              have B6 := B5.keep0 hb6
              have c6 := B6.cell
              have f6 := B6.frozen
              have l6 := B6.lt
              go_wp2_with fail
              (with_reducible refine (D2.out _ (by (repeat' (first | (with_reducible exact Kept.refl _ _) | (with_reducible assumption) | (with_reducible refine Kept.then_ (by with_reducible assumption) ?_) | (with_reducible refine Kept.thenS (by with_reducible assumption) ?_) | (with_reducible refine Kept.alloc ?_ _) | (with_reducible refine Kept.drew ?_) | (with_reducible refine Kept.drewN ?_ _) | (with_reducible refine Kept.setNew ?_ ?_ _) | ((try simp only [World.size_alloc, World.size_setCell, World.size_drew, size_drewN] at *); (try dsimp only); omega))))).mono ?_)
              rintro e w7 ⟨⟨b7, rfl⟩, hb7⟩
              have B9 := (Blk.new w6 33 #[.int .u64 ra, .int .u64 T, .int .u64 rl]).keep0 hb7
              have B7 := (B6.keep0 ((Kept.refl [] w6).alloc (.cells #[.int .u64 ra, .int .u64 T, .int .u64 rl] 33))).keep0 hb7
              have c7 := B7.cell
              have f7 := B7.frozen
              have l7 := B7.lt
              have c9 := B9.cell
              have f9 := B9.frozen
              have l9 := B9.lt
              go_wp2_with fail
              (with_reducible refine (D3.out _ (by (repeat' (first | (with_reducible exact Kept.refl _ _) | (with_reducible assumption) | (with_reducible refine Kept.then_ (by with_reducible assumption) ?_) | (with_reducible refine Kept.thenS (by with_reducible assumption) ?_) | (with_reducible refine Kept.alloc ?_ _) | (with_reducible refine Kept.drew ?_) | (with_reducible refine Kept.drewN ?_ _) | (with_reducible refine Kept.setNew ?_ ?_ _) | ((try simp only [World.size_alloc, World.size_setCell, World.size_drew, size_drewN] at *); (try dsimp only); omega))))).mono ?_)
              rintro e w8 ⟨⟨⟨q0, q1, q2⟩, er8, rfl, he8⟩, hb8⟩
              have B8 : Blk w8 wr.heap.size 33 #[.int .u64 ra, .int .u64 T, .int .u64 rl] := B7.keep0 (by (repeat' (first | (with_reducible exact Kept.refl _ _) | (with_reducible assumption) | (with_reducible refine Kept.then_ (by with_reducible assumption) ?_) | (with_reducible refine Kept.thenS (by with_reducible assumption) ?_) | (with_reducible refine Kept.alloc ?_ _) | (with_reducible refine Kept.drew ?_) | (with_reducible refine Kept.drewN ?_ _) | (with_reducible refine Kept.setNew ?_ ?_ _) | ((try simp only [World.size_alloc, World.size_setCell, World.size_drew, size_drewN] at *); (try dsimp only); omega))))
              have c8 := B8.cell
              have f8 := B8.frozen
              have l8 := B8.lt
              dsimp only at he8
              by_cases e8 : er8 = 0
              · obtain rfl := he8 e8
                subst e8
                go_wp2_with fail
                go_roundw
                case rel => first | exact ⟨j + 1, by omega, by go_num, Lib.hid (S5.out.keep0 (by (repeat' (first | (with_reducible exact Kept.refl _ _) | (with_reducible assumption) | (with_reducible refine Kept.then_ (by with_reducible assumption) ?_) | (with_reducible refine Kept.thenS (by with_reducible assumption) ?_) | (with_reducible refine Kept.alloc ?_ _) | (with_reducible refine Kept.drew ?_) | (with_reducible refine Kept.drewN ?_ _) | (with_reducible refine Kept.setNew ?_ ?_ _) | ((try simp only [World.size_alloc, World.size_setCell, World.size_drew, size_drewN] at *); (try dsimp only); omega)))))⟩ | ((repeat apply Exists.intro); exact ⟨⟨j + 1, by omega, by go_num, Lib.hid (S5.out.keep0 (by (repeat' (first | (with_reducible exact Kept.refl _ _) | (with_reducible assumption) | (with_reducible refine Kept.then_ (by with_reducible assumption) ?_) | (with_reducible refine Kept.thenS (by with_reducible assumption) ?_) | (with_reducible refine Kept.alloc ?_ _) | (with_reducible refine Kept.drew ?_) | (with_reducible refine Kept.drewN ?_ _) | (with_reducible refine Kept.setNew ?_ ?_ _) | ((try simp only [World.size_alloc, World.size_setCell, World.size_drew, size_drewN] at *); (try dsimp only); omega)))))⟩, rfl⟩)
                case measure => simp [intOf]; omega
              · have e9 : (er8 == 0) = false := by rw [beq_eq_false_iff_ne]; exact e8
                go_wp2_with fail
                go_roundw
                case rel => first | exact ⟨j + 1, by omega, by go_num, Lib.hid (S5.out.keep0 (by (repeat' (first | (with_reducible exact Kept.refl _ _) | (with_reducible assumption) | (with_reducible refine Kept.then_ (by with_reducible assumption) ?_) | (with_reducible refine Kept.thenS (by with_reducible assumption) ?_) | (with_reducible refine Kept.alloc ?_ _) | (with_reducible refine Kept.drew ?_) | (with_reducible refine Kept.drewN ?_ _) | (with_reducible refine Kept.setNew ?_ ?_ _) | ((try simp only [World.size_alloc, World.size_setCell, World.size_drew, size_drewN] at *); (try dsimp only); omega)))))⟩ | ((repeat apply Exists.intro); exact ⟨⟨j + 1, by omega, by go_num, Lib.hid (S5.out.keep0 (by (repeat' (first | (with_reducible exact Kept.refl _ _) | (with_reducible assumption) | (with_reducible refine Kept.then_ (by with_reducible assumption) ?_) | (with_reducible refine Kept.thenS (by with_reducible assumption) ?_) | (with_reducible refine Kept.alloc ?_ _) | (with_reducible refine Kept.drew ?_) | (with_reducible refine Kept.drewN ?_ _) | (with_reducible refine Kept.setNew ?_ ?_ _) | ((try simp only [World.size_alloc, World.size_setCell, World.size_drew, size_drewN] at *); (try dsimp only); omega)))))⟩, rfl⟩)
                case measure => simp [intOf]; omega
            · simp only [if_neg k0] at DL
              have kz : (K == 0) = false := by rw [beq_eq_false_iff_ne]; exact k0
              have t6 : Int.tmod y T = K := by rw [Int.tmod_eq_emod_of_nonneg b2.1]; exact hK
              go_wp2_with fail
              (with_reducible refine (DL.out #[.int .u64 ra, .int .u64 T, .int .u64 rl] 33 _ _ ?h1 ?h2 ?h3).mono ?_)
              case h3 => exact Blk.new' _ _ _ (by simp)
              case h2 => exact (Kept.refl [] _).alloc _
              case h1 => simp
              rintro e w5 ⟨⟨e5, rfl⟩, hs5, hk5, hd1, hd2, hd3⟩
              have S5 := Lib.hid hs5
              have D1 := Lib.hid hd1
              have D2 := Lib.hid hd2
              have D3 := Lib.hid hd3
              have B5 : Blk w5 wr.heap.size 33 #[.int .u64 ra, .int .u64 T, .int .u64 rl] := blkX ((Blk.new wr _ _).keep0 ((Kept.refl [] _).alloc _)) hk5 (by simp)
              have c5 := B5.cell
              have f5 := B5.frozen
              have l5 := B5.lt
              have hp5 : p < w5.heap.size := by obtain ⟨_, h, _⟩ := S5.out; exact h.ltp
              clear hs5 hk5 hd1 hd2 hd3 DL
              go_wp2_with fail
              (with_reducible refine (D1.out _ (Kept.refl _ _)).mono ?_)
              rintro e w6 ⟨rfl, hb6⟩
              have B6 := B5.keep0 hb6
              have c6 := B6.cell
              have f6 := B6.frozen
              have l6 := B6.lt
              go_wp2_with fail
              (with_reducible refine (D2.out _ (by (repeat' (first | (with_reducible exact Kept.refl _ _) | (with_reducible assumption) | (with_reducible refine Kept.then_ (by with_reducible assumption) ?_) | (with_reducible refine Kept.thenS (by with_reducible assumption) ?_) | (with_reducible refine Kept.alloc ?_ _) | (with_reducible refine Kept.drew ?_) | (with_reducible refine Kept.drewN ?_ _) | (with_reducible refine Kept.setNew ?_ ?_ _) | ((try simp only [World.size_alloc, World.size_setCell, World.size_drew, size_drewN] at *); (try dsimp only); omega))))).mono ?_)
              rintro e w7 ⟨⟨b7, rfl⟩, hb7⟩
              have B9 := (Blk.new w6 33 #[.int .u64 ra, .int .u64 T, .int .u64 rl]).keep0 hb7
              have B7 := (B6.keep0 ((Kept.refl [] w6).alloc (.cells #[.int .u64 ra, .int .u64 T, .int .u64 rl] 33))).keep0 hb7
              have c7 := B7.cell
              have f7 := B7.frozen
              have l7 := B7.lt
              have c9 := B9.cell
              have f9 := B9.frozen
              have l9 := B9.lt
              go_wp2_with fail
              (with_reducible refine (D3.out _ (by (repeat' (first | (with_reducible exact Kept.refl _ _) | (with_reducible assumption) | (with_reducible refine Kept.then_ (by with_reducible assumption) ?_) | (with_reducible refine Kept.thenS (by with_reducible assumption) ?_) | (with_reducible refine Kept.alloc ?_ _) | (with_reducible refine Kept.drew ?_) | (with_reducible refine Kept.drewN ?_ _) | (with_reducible refine Kept.setNew ?_ ?_ _) | ((try simp only [World.size_alloc, World.size_setCell, World.size_drew, size_drewN] at *); (try dsimp only); omega))))).mono ?_)
              rintro e w8 ⟨⟨⟨q0, q1, q2⟩, er8, rfl, he8⟩, hb8⟩
              have B8 : Blk w8 wr.heap.size 33 #[.int .u64 ra, .int .u64 T, .int .u64 rl] := B7.keep0 (by (repeat' (first | (with_reducible exact Kept.refl _ _) | (with_reducible assumption) | (with_reducible refine Kept.then_ (by with_reducible assumption) ?_) | (with_reducible refine Kept.thenS (by with_reducible assumption) ?_) | (with_reducible refine Kept.alloc ?_ _) | (with_reducible refine Kept.drew ?_) | (with_reducible refine Kept.drewN ?_ _) | (with_reducible refine Kept.setNew ?_ ?_ _) | ((try simp only [World.size_alloc, World.size_setCell, World.size_drew, size_drewN] at *); (try dsimp only); omega))))
              have c8 := B8.cell
              have f8 := B8.frozen
              have l8 := B8.lt
              dsimp only at he8
              by_cases e8 : er8 = 0
              · obtain rfl := he8 e8
                subst e8
                go_wp2_with fail
                go_roundw
                case rel => first | exact ⟨j + 1, by omega, by go_num, Lib.hid (S5.out.keep0 (by (repeat' (first | (with_reducible exact Kept.refl _ _) | (with_reducible assumption) | (with_reducible refine Kept.then_ (by with_reducible assumption) ?_) | (with_reducible refine Kept.thenS (by with_reducible assumption) ?_) | (with_reducible refine Kept.alloc ?_ _) | (with_reducible refine Kept.drew ?_) | (with_reducible refine Kept.drewN ?_ _) | (with_reducible refine Kept.setNew ?_ ?_ _) | ((try simp only [World.size_alloc, World.size_setCell, World.size_drew, size_drewN] at *); (try dsimp only); omega)))))⟩ | ((repeat apply Exists.intro); exact ⟨⟨j + 1, by omega, by go_num, Lib.hid (S5.out.keep0 (by (repeat' (first | (with_reducible exact Kept.refl _ _) | (with_reducible assumption) | (with_reducible refine Kept.then_ (by with_reducible assumption) ?_) | (with_reducible refine Kept.thenS (by with_reducible assumption) ?_) | (with_reducible refine Kept.alloc ?_ _) | (with_reducible refine Kept.drew ?_) | (with_reducible refine Kept.drewN ?_ _) | (with_reducible refine Kept.setNew ?_ ?_ _) | ((try simp only [World.size_alloc, World.size_setCell, World.size_drew, size_drewN] at *); (try dsimp only); omega)))))⟩, rfl⟩)
                case measure => simp [intOf]; omega
              · have e9 : (er8 == 0) = false := by rw [beq_eq_false_iff_ne]; exact e8
                go_wp2_with fail
                go_roundw
                case rel => first | exact ⟨j + 1, by omega, by go_num, Lib.hid (S5.out.keep0 (by (repeat' (first | (with_reducible exact Kept.refl _ _) | (with_reducible assumption) | (with_reducible refine Kept.then_ (by with_reducible assumption) ?_) | (with_reducible refine Kept.thenS (by with_reducible assumption) ?_) | (with_reducible refine Kept.alloc ?_ _) | (with_reducible refine Kept.drew ?_) | (with_reducible refine Kept.drewN ?_ _) | (with_reducible refine Kept.setNew ?_ ?_ _) | ((try simp only [World.size_alloc, World.size_setCell, World.size_drew, size_drewN] at *); (try dsimp only); omega)))))⟩ | ((repeat apply Exists.intro); exact ⟨⟨j + 1, by omega, by go_num, Lib.hid (S5.out.keep0 (by (repeat' (first | (with_reducible exact Kept.refl _ _) | (with_reducible assumption) | (with_reducible refine Kept.then_ (by with_reducible assumption) ?_) | (with_reducible refine Kept.thenS (by with_reducible assumption) ?_) | (with_reducible refine Kept.alloc ?_ _) | (with_reducible refine Kept.drew ?_) | (with_reducible refine Kept.drewN ?_ _) | (with_reducible refine Kept.setNew ?_ ?_ _) | ((try simp only [World.size_alloc, World.size_setCell, World.size_drew, size_drewN] at *); (try dsimp only); omega)))))⟩, rfl⟩)
                case measure => simp [intOf]; omega
        · obtain rfl : j = ls.length := by omega
          have K6 := Lib.hid hs.out.kept
          go_wp2_with fail
          go_ret
          exact ⟨rfl, (K6.out.then_ K2.out).below⟩
theorem own : ownKnob Try.prog.godebug = none := by kernel_rfl
theorem laidOut : laidOutB Try.prog = true := by kernel_rfl
set_option maxRecDepth 100000 in
theorem lifted (os : Os) (started : os.Started) (H : Type) (enc : TypeId × Value → H) :
    ReturnsInHanded {} Try.checked os 6 .any (Rows.ledgerInSpec.pre6 enc Try.prog Try.f6 Rows.ledgerInRow.domain false) (Rows.ledgerInSpec.post enc Try.prog Try.f6 false true false false) := by
  refine returnsInHanded_of_change_sized (C := Try.checked) own started (by kernel_rfl) Try.func6
    (ChangeSpec.witness6 (enc := enc) (C := Try.checked) false ⟨#[], #[.slice none 0 0, .int .u16 0], []⟩ 8 (by kernel_rfl) (by kernel_rfl) (by kernel_rfl) (by kernel_rfl)) ?_
  intro W base args ds gs before hval0 hW hcnd hsz _
  have hval : ∀ (j : Nat) t v, Try.f6.params[j]? = some t → args[j]? = some v → Value.okWide Try.prog W .any base t v := hval0
  have hW' := hW
  obtain ⟨p, q, hA0, hV, rfl, hfz, hnd⟩ := hW
  have hA : DataW.TrodAll enc Try.prog W 0 (fun _ => true) true Try.f6.params.toList args.toList ds p := hA0
  rw [Try.params6] at hA hval hsz
  obtain ⟨v0, vs0, d0, ds0, p0, q0, hargs, rfl, rfl, h0, r0⟩ := trodAll_cons hA
  obtain ⟨v1, vs1, d1, ds1, p1, q1, rfl, rfl, rfl, h1, r1⟩ := trodAll_cons r0
  obtain ⟨rfl, rfl, rfl⟩ := trodAll_nil r1
  obtain rfl : args = #[v0, v1] := by cases args; simp_all
  obtain ⟨rfl, rfl⟩ := trodVars_none hV
  have k0 := h0
  have lt0 : ∀ x ∈ p0, x.block < W.heap.size := by obtain ⟨m, hm⟩ := k0; exact DataW.trod_lt m _ _ _ hm
  obtain ⟨a0, len0, cap0, rfl⟩ := okWide_slice Try.underlying22 (hval 0 22 v0 rfl rfl)
  obtain ⟨z0, w0⟩ := isT22_of h0 (fun n hn => by have := List.all_eq_true.1 hsz n (DataW.weights_mem_each (j := 0) (t := 22) rfl rfl n hn); simpa using this)
  obtain ⟨a1, rfl, rfl, rfl, w1⟩ := open_int Try.underlying24 (hval 1 24 v1 rfl rfl) h1
  clear hA0 hval0
  refine (walk a0 len0 cap0 z0 a1 W w0 w1).mono fun e W' ⟨he, bel⟩ => ?_
  subst he
  exact ⟨_, rfl, _, _, _, [], _, [], hW', trodAll_mk1 (shut_bool Try.underlying4 _), (trodAll_cons_mk (Below.trod laidOut (by kernel_rfl) (of_decide_eq_true (by kernel_rfl)) k0 bel lt0) (trodAll_cons_mk (shut_int Try.underlying24 w1) trodAll_mk0)), rfl, bel.frame _, fun h => by cases h⟩
theorem over : Rows.ledgerInRow.holds Try.pinned (OpenSpec.ofChange Rows.ledgerInSpec) :=
  OpenClaim.holds_of_wide 6 Try.f6 rfl rfl rfl rfl rfl rfl rfl ⟨rfl, rfl, rfl, rfl, rfl⟩ rfl rfl rfl rfl rfl (by kernel_rfl) Try.func6 (by kernel_rfl)
    (of_decide_eq_true (by kernel_rfl)) (by unfold Func.isWrapper; first | (rw [if_pos (by decide +kernel)]; kernel_rfl) | (rw [if_neg (by decide +kernel)]; exact ⟨rfl, rfl⟩))
    (fun os started H enc _ => lifted os started H enc)
theorem proved : Rows.LedgerInSaid := over
#print axioms proved
end LedgerIn
end Go.Proofs.Ytdallcepachhoaa
