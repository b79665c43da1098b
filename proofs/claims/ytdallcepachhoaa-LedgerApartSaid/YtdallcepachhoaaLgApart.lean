/- Blocks never meet, rise, each may be; whether bytes are free is whether they meet none. No condition. -/
import Derived.Test.YtdallcepachhoaaLgAlive
import Derived.Test.YtdallcepachhoaaLgMade
set_option linter.unusedVariables false
set_option linter.unusedSimpArgs false
namespace Go.Proofs.Ytdallcepachhoaa
open Go.RowKit
namespace LedgerApart
open Go.RowKit Go.ChangeShapes Go.WideShapes Go.ChangeAt Go.Joins
def Meets (ls : List EntT) (a n : Int) : Prop := 0 < n ∧ ∃ e, e ∈ ls ∧ a < e.1 + mx e.2.1 ∧ e.1 < a + n
theorem meets_step (ls : List EntT) (a n : Int) (j : Nat) (h : j < ls.length) : Meets (ls.take (j + 1)) a n ↔ Meets (ls.take j) a n ∨ (0 < n ∧ a < (re ls j).1 + mx (re ls j).2.1 ∧ (re ls j).1 < a + n) := by
  have e : ls.take (j + 1) = ls.take j ++ [re ls j] := by
    rw [List.take_succ_eq_append_getElem h]
    have := re_some h
    rw [List.getElem?_eq_getElem h] at this
    injection this with this
    rw [this]
  unfold Meets
  rw [e]
  constructor
  · rintro ⟨h0, x, hx, h1⟩
    rcases List.mem_append.1 hx with hx | hx
    · exact .inl ⟨h0, x, hx, h1⟩
    · simp at hx
      subst hx
      exact .inr ⟨h0, h1⟩
  · rintro (⟨h0, x, hx, h1⟩ | ⟨h0, h1⟩)
    · exact ⟨h0, x, List.mem_append.2 (.inl hx), h1⟩
    · exact ⟨h0, _, List.mem_append.2 (.inr (List.mem_singleton.2 rfl)), h1⟩
theorem free_meets (ls : List EntT) (a n : Int) (hn : 0 ≤ n) (ho : a + (n - 1) ≤ 18446744073709551615) : FreeL ls a n ↔ ¬ Meets ls a n := by
  unfold FreeL Meets
  constructor
  · rintro (h | ⟨_, h⟩) ⟨h0, e, he, h1, h2⟩
    · omega
    · exact h e he ⟨h2, h1⟩
  · intro h
    by_cases h0 : n = 0
    · exact .inl h0
    · exact .inr ⟨ho, fun e he ⟨h1, h2⟩ => h ⟨by omega, e, he, h2, h1⟩⟩
theorem mx_cases {n : Int} (h : 0 ≤ n) : n = 0 ∧ mx n = 1 ∨ n = 1 ∧ mx n = 1 ∨ 2 ≤ n ∧ mx n = n := by
  unfold mx
  split <;> omega
set_option maxRecDepth 100000 in
set_option maxHeartbeats 4000000 in
theorem walk (a0 : Option Addr) (len0 cap0 : Nat) (z0 : Unit) (x y : Int) (W : World) (w0 : IsActZ W a0 len0 cap0 z0) (wx : (Lit.int .u32 x).wf = true) (wy : (Lit.int .u16 y).wf = true) :
    Calls Try.prog 3 #[.slice a0 len0 cap0, .int .u32 x, .int .u16 y] W fun e W' => e = .returned (.bool true) ∧ Below W.heap.size W W' := by
  have b1 := bounds_u32 wx
  have b2 := bounds_u16 wy
  have C1 := Lib.hid (alive_any W)
  have C2 := Lib.hid (fun w hk => great_any w0 w hk)
  have C3 : Hid (len0 ≤ 100 → ∀ w, Kept [] W w → Calls Try.prog 11 #[.slice a0 len0 cap0] w (FilledR len0 w)) := Lib.hid (fun h w hk => filled_any w0 h w hk)
  clear wx wy w0
  go_enter Try.func3, Try.ntmps3
  go_wp2_with fail
  (with_reducible refine (C1.out).mono ?_)
  rintro e w1 ⟨rfl, hb1⟩
  have hs1 := hb1.size
  (try simp only [World.size_alloc, World.size_setCell, World.size_drew, size_drewN] at hs1)
  go_wp2_with fail
  (with_reducible refine (C2.out _ hb1).mono ?_)
  rintro e w2 ⟨b, rfl, hlen, hb2⟩
  have hb2' := hb2.then_ hb1
  clear hb2 hb1
  cases b
  case true =>
    go_wp2_with fail
    go_ret
    exact ⟨rfl, hb2'.below⟩
  case false =>
    have h100 : len0 ≤ 100 := hlen rfl
    clear hlen
    go_wp2_with fail
    (with_reducible refine (C3.out h100 _ hb2').mono ?_)
    rintro e w3 ⟨p, ls, rfl, hls, hL⟩
    have L3 := Lib.hid hL
    have hp3 := hL.ltp
    have I := Lib.hid hL.inv
    have K3 := Lib.hid (hL.kept.then_ hb2')
    clear hL hb2'
    have hA2 : ls.length ≤ 1000 := by omega
    obtain ⟨A, hA⟩ : ∃ A : Int, x % 1048576 = A := ⟨_, rfl⟩
    have hA3 : 0 ≤ A ∧ A ≤ 1048575 := by omega
    have CA := Lib.hid (x_all L3.out hA2)
    have CF := Lib.hid (fun w hk => x_free (w := w) (L3.out.keep0 hk) hA2 A y (by omega) (by omega))
    go_wp2_with fail
    (with_reducible refine CA.out.mono ?_)
    rintro e w4 ⟨⟨B, c, rfl, hB⟩, hb4⟩
    have HB := Lib.hid hB
    have K4 := Lib.hid hb4
    clear hB hb4
    go_wp2_with fail
    go_loopw [10, 11, 29] (fun s t v w6 => ∃ (j : Nat) (m : Bool) (en : Int), j ≤ ls.length ∧ s = .bool m ∧ t = .int .u64 en ∧ v = .int .i64 j ∧ Hid (m = true ↔ Meets (ls.take j) A y) ∧ 0 ≤ en ∧ en ≤ 1048576 ∧ Hid (∀ q, j ≤ q → q < ls.length → en ≤ (re ls q).1) ∧ Hid (Kept [] w4 w6)) (fun _ _ v _ => (ls.length - intOf v).toNat)
    case atStart => exact ⟨0, false, 0, Nat.zero_le _, rfl, rfl, rfl, Lib.hid (by simp [Meets]), by omega, by omega, Lib.hid (fun q _ hq => (re_bd I.out hq).1), Lib.hid (Kept.refl _ _)⟩
    case round =>
      obtain ⟨j, m, en, hj, rfl, rfl, rfl, hm, hen0, hen1, hq, hk6⟩ := hrel
      by_cases hjl : j < ls.length
      · obtain ⟨g, _, rfl, hc⟩ := (HB.out.keep hk6.out) (by simp; omega)
        obtain ⟨k0, k1, k2⟩ := hc.2 j (by simpa using hjl)
        rw [rb_map hjl] at k0 k1 k2
        have hgl := hc.1
        have hsr := hk6.out.size
        have bd := re_bd I.out hjl
        have hma := (I.out.1 _ (re_mem hjl)).2.2
        have hq2 := hq.out j (Nat.le_refl _) hjl
        have HM := Lib.hid (meets_step ls A y j hjl)
        have HQ : Hid (∀ q, j + 1 ≤ q → q < ls.length → (re ls j).1 + mx (re ls j).2.1 ≤ (re ls q).1) := Lib.hid (fun q h1 h2 => re_ap I.out (by omega) h2)
        have dj : decide (j < ls.length) = true := by simp; omega
        generalize re ls j = r at *
        obtain ⟨ra, rn, rl, rh⟩ := r
        simp only [bk] at k0 k1 k2
        dsimp only at HM HQ bd hma hq2
        obtain ⟨m1, m2, m3, m4, m5, m6⟩ := hma
        have hl1 : 1 ≤ rl := by obtain ⟨i, _, rfl⟩ := m4; have := Int.pow_pos (n := 2) (m := i) (by omega); omega
        have n1 : (rl == 0) = false := by rw [beq_eq_false_iff_ne]; omega
        have t1 : decide (ra < en) = false := by simp; omega
        have t6 : Int.tmod ra rl = 0 := by rw [Int.tmod_eq_emod_of_nonneg bd.1]; exact m6
        clear hc m4
        obtain ⟨T, hT⟩ : ∃ T, mx rn = T := ⟨_, rfl⟩
        rw [hT] at bd HM HQ m3
        have t2 : decide (1048576 < ra + T) = false := by simp; omega
        have hTc := mx_cases bd.2.2.1
        rw [hT] at hTc
        rcases hTc with ⟨rfl, rfl⟩ | ⟨rfl, rfl⟩ | ⟨h2n, rfl⟩
        · cases m
          case true =>
            go_wp2_with fail
            go_roundw
            case rel =>
              have E7 : Hid ((true : Bool) = true ↔ Meets (ls.take (j + 1)) A y) := Lib.hid (by rw [HM.out, ← hm.out]; simp; try (intros; omega))
              first | exact ⟨j + 1, true, _, by omega, rfl, rfl, by go_num, E7, by omega, by omega, HQ, Lib.hid (by have := hk6.out; (repeat' (first | (with_reducible exact Kept.refl _ _) | (with_reducible assumption) | (with_reducible refine Kept.then_ (by with_reducible assumption) ?_) | (with_reducible refine Kept.thenS (by with_reducible assumption) ?_) | (with_reducible refine Kept.alloc ?_ _) | (with_reducible refine Kept.drew ?_) | (with_reducible refine Kept.drewN ?_ _) | (with_reducible refine Kept.setNew ?_ ?_ _) | ((try simp only [World.size_alloc, World.size_setCell, World.size_drew, size_drewN] at *); (try dsimp only); omega))))⟩ | ((repeat apply Exists.intro); exact ⟨⟨j + 1, true, _, by omega, rfl, rfl, by go_num, E7, by omega, by omega, HQ, Lib.hid (by have := hk6.out; (repeat' (first | (with_reducible exact Kept.refl _ _) | (with_reducible assumption) | (with_reducible refine Kept.then_ (by with_reducible assumption) ?_) | (with_reducible refine Kept.thenS (by with_reducible assumption) ?_) | (with_reducible refine Kept.alloc ?_ _) | (with_reducible refine Kept.drew ?_) | (with_reducible refine Kept.drewN ?_ _) | (with_reducible refine Kept.setNew ?_ ?_ _) | ((try simp only [World.size_alloc, World.size_setCell, World.size_drew, size_drewN] at *); (try dsimp only); omega))))⟩, rfl⟩)
            case measure => simp [intOf]; omega
          case false =>
            by_cases q1 : 0 < y
            · have e1 : decide (0 < y) = true := by simp; omega
              by_cases q2 : A < ra + 1
              · have e2 : decide (A < ra + 1) = true := by simp; omega
                by_cases q3 : ra < A + y
                · have e3 : decide (ra < A + y) = true := by simp; omega
                  go_wp2_with fail
                  go_roundw
                  case rel =>
                    have E7 : Hid ((true : Bool) = true ↔ Meets (ls.take (j + 1)) A y) := Lib.hid (by rw [HM.out, ← hm.out]; simp; try (intros; omega))
                    first | exact ⟨j + 1, true, _, by omega, rfl, rfl, by go_num, E7, by omega, by omega, HQ, Lib.hid (by have := hk6.out; (repeat' (first | (with_reducible exact Kept.refl _ _) | (with_reducible assumption) | (with_reducible refine Kept.then_ (by with_reducible assumption) ?_) | (with_reducible refine Kept.thenS (by with_reducible assumption) ?_) | (with_reducible refine Kept.alloc ?_ _) | (with_reducible refine Kept.drew ?_) | (with_reducible refine Kept.drewN ?_ _) | (with_reducible refine Kept.setNew ?_ ?_ _) | ((try simp only [World.size_alloc, World.size_setCell, World.size_drew, size_drewN] at *); (try dsimp only); omega))))⟩ | ((repeat apply Exists.intro); exact ⟨⟨j + 1, true, _, by omega, rfl, rfl, by go_num, E7, by omega, by omega, HQ, Lib.hid (by have := hk6.out; (repeat' (first | (with_reducible exact Kept.refl _ _) | (with_reducible assumption) | (with_reducible refine Kept.then_ (by with_reducible assumption) ?_) | (with_reducible refine Kept.thenS (by with_reducible assumption) ?_) | (with_reducible refine Kept.alloc ?_ _) | (with_reducible refine Kept.drew ?_) | (with_reducible refine Kept.drewN ?_ _) | (with_reducible refine Kept.setNew ?_ ?_ _) | ((try simp only [World.size_alloc, World.size_setCell, World.size_drew, size_drewN] at *); (try dsimp only); omega))))⟩, rfl⟩)
                  case measure => simp [intOf]; omega
                · have e3 : decide (ra < A + y) = false := by simp; omega
                  go_wp2_with fail
                  go_roundw
                  case rel =>
                    have E7 : Hid ((false : Bool) = true ↔ Meets (ls.take (j + 1)) A y) := Lib.hid (by rw [HM.out, ← hm.out]; simp; try (intros; omega))
                    first | exact ⟨j + 1, false, _, by omega, rfl, rfl, by go_num, E7, by omega, by omega, HQ, Lib.hid (by have := hk6.out; (repeat' (first | (with_reducible exact Kept.refl _ _) | (with_reducible assumption) | (with_reducible refine Kept.then_ (by with_reducible assumption) ?_) | (with_reducible refine Kept.thenS (by with_reducible assumption) ?_) | (with_reducible refine Kept.alloc ?_ _) | (with_reducible refine Kept.drew ?_) | (with_reducible refine Kept.drewN ?_ _) | (with_reducible refine Kept.setNew ?_ ?_ _) | ((try simp only [World.size_alloc, World.size_setCell, World.size_drew, size_drewN] at *); (try dsimp only); omega))))⟩ | ((repeat apply Exists.intro); exact ⟨⟨j + 1, false, _, by omega, rfl, rfl, by go_num, E7, by omega, by omega, HQ, Lib.hid (by have := hk6.out; (repeat' (first | (with_reducible exact Kept.refl _ _) | (with_reducible assumption) | (with_reducible refine Kept.then_ (by with_reducible assumption) ?_) | (with_reducible refine Kept.thenS (by with_reducible assumption) ?_) | (with_reducible refine Kept.alloc ?_ _) | (with_reducible refine Kept.drew ?_) | (with_reducible refine Kept.drewN ?_ _) | (with_reducible refine Kept.setNew ?_ ?_ _) | ((try simp only [World.size_alloc, World.size_setCell, World.size_drew, size_drewN] at *); (try dsimp only); omega))))⟩, rfl⟩)
                  case measure => simp [intOf]; omega
              · have e2 : decide (A < ra + 1) = false := by simp; omega
                go_wp2_with fail
                go_roundw
                case rel =>
                  have E7 : Hid ((false : Bool) = true ↔ Meets (ls.take (j + 1)) A y) := Lib.hid (by rw [HM.out, ← hm.out]; simp; try (intros; omega))
                  first | exact ⟨j + 1, false, _, by omega, rfl, rfl, by go_num, E7, by omega, by omega, HQ, Lib.hid (by have := hk6.out; (repeat' (first | (with_reducible exact Kept.refl _ _) | (with_reducible assumption) | (with_reducible refine Kept.then_ (by with_reducible assumption) ?_) | (with_reducible refine Kept.thenS (by with_reducible assumption) ?_) | (with_reducible refine Kept.alloc ?_ _) | (with_reducible refine Kept.drew ?_) | (with_reducible refine Kept.drewN ?_ _) | (with_reducible refine Kept.setNew ?_ ?_ _) | ((try simp only [World.size_alloc, World.size_setCell, World.size_drew, size_drewN] at *); (try dsimp only); omega))))⟩ | ((repeat apply Exists.intro); exact ⟨⟨j + 1, false, _, by omega, rfl, rfl, by go_num, E7, by omega, by omega, HQ, Lib.hid (by have := hk6.out; (repeat' (first | (with_reducible exact Kept.refl _ _) | (with_reducible assumption) | (with_reducible refine Kept.then_ (by with_reducible assumption) ?_) | (with_reducible refine Kept.thenS (by with_reducible assumption) ?_) | (with_reducible refine Kept.alloc ?_ _) | (with_reducible refine Kept.drew ?_) | (with_reducible refine Kept.drewN ?_ _) | (with_reducible refine Kept.setNew ?_ ?_ _) | ((try simp only [World.size_alloc, World.size_setCell, World.size_drew, size_drewN] at *); (try dsimp only); omega))))⟩, rfl⟩)
                case measure => simp [intOf]; omega
            · have e1 : decide (0 < y) = false := by simp; omega
              go_wp2_with fail
              go_roundw
              case rel =>
                have E7 : Hid ((false : Bool) = true ↔ Meets (ls.take (j + 1)) A y) := Lib.hid (by rw [HM.out, ← hm.out]; simp; try (intros; omega))
                first | exact ⟨j + 1, false, _, by omega, rfl, rfl, by go_num, E7, by omega, by omega, HQ, Lib.hid (by have := hk6.out; (repeat' (first | (with_reducible exact Kept.refl _ _) | (with_reducible assumption) | (with_reducible refine Kept.then_ (by with_reducible assumption) ?_) | (with_reducible refine Kept.thenS (by with_reducible assumption) ?_) | (with_reducible refine Kept.alloc ?_ _) | (with_reducible refine Kept.drew ?_) | (with_reducible refine Kept.drewN ?_ _) | (with_reducible refine Kept.setNew ?_ ?_ _) | ((try simp only [World.size_alloc, World.size_setCell, World.size_drew, size_drewN] at *); (try dsimp only); omega))))⟩ | ((repeat apply Exists.intro); exact ⟨⟨j + 1, false, _, by omega, rfl, rfl, by go_num, E7, by omega, by omega, HQ, Lib.hid (by have := hk6.out; (repeat' (first | (with_reducible exact Kept.refl _ _) | (with_reducible assumption) | (with_reducible refine Kept.then_ (by with_reducible assumption) ?_) | (with_reducible refine Kept.thenS (by with_reducible assumption) ?_) | (with_reducible refine Kept.alloc ?_ _) | (with_reducible refine Kept.drew ?_) | (with_reducible refine Kept.drewN ?_ _) | (with_reducible refine Kept.setNew ?_ ?_ _) | ((try simp only [World.size_alloc, World.size_setCell, World.size_drew, size_drewN] at *); (try dsimp only); omega))))⟩, rfl⟩)
              case measure => simp [intOf]; omega
        · cases m
          case true =>
            go_wp2_with fail
            go_roundw
            case rel =>
              have E7 : Hid ((true : Bool) = true ↔ Meets (ls.take (j + 1)) A y) := Lib.hid (by rw [HM.out, ← hm.out]; simp; try (intros; omega))
              first | exact ⟨j + 1, true, _, by omega, rfl, rfl, by go_num, E7, by omega, by omega, HQ, Lib.hid (by have := hk6.out; (repeat' (first | (with_reducible exact Kept.refl _ _) | (with_reducible assumption) | (with_reducible refine Kept.then_ (by with_reducible assumption) ?_) | (with_reducible refine Kept.thenS (by with_reducible assumption) ?_) | (with_reducible refine Kept.alloc ?_ _) | (with_reducible refine Kept.drew ?_) | (with_reducible refine Kept.drewN ?_ _) | (with_reducible refine Kept.setNew ?_ ?_ _) | ((try simp only [World.size_alloc, World.size_setCell, World.size_drew, size_drewN] at *); (try dsimp only); omega))))⟩ | ((repeat apply Exists.intro); exact ⟨⟨j + 1, true, _, by omega, rfl, rfl, by go_num, E7, by omega, by omega, HQ, Lib.hid (by have := hk6.out; (repeat' (first | (with_reducible exact Kept.refl _ _) | (with_reducible assumption) | (with_reducible refine Kept.then_ (by with_reducible assumption) ?_) | (with_reducible refine Kept.thenS (by with_reducible assumption) ?_) | (with_reducible refine Kept.alloc ?_ _) | (with_reducible refine Kept.drew ?_) | (with_reducible refine Kept.drewN ?_ _) | (with_reducible refine Kept.setNew ?_ ?_ _) | ((try simp only [World.size_alloc, World.size_setCell, World.size_drew, size_drewN] at *); (try dsimp only); omega))))⟩, rfl⟩)
            case measure => simp [intOf]; omega
          case false =>
            by_cases q1 : 0 < y
            · have e1 : decide (0 < y) = true := by simp; omega
              by_cases q2 : A < ra + 1
              · have e2 : decide (A < ra + 1) = true := by simp; omega
                by_cases q3 : ra < A + y
                · have e3 : decide (ra < A + y) = true := by simp; omega
                  go_wp2_with fail
                  go_roundw
                  case rel =>
                    have E7 : Hid ((true : Bool) = true ↔ Meets (ls.take (j + 1)) A y) := Lib.hid (by rw [HM.out, ← hm.out]; simp; try (intros; omega))
                    first | exact ⟨j + 1, true, _, by omega, rfl, rfl, by go_num, E7, by omega, by omega, HQ, Lib.hid (by have := hk6.out; (repeat' (first | (with_reducible exact Kept.refl _ _) | (with_reducible assumption) | (with_reducible refine Kept.then_ (by with_reducible assumption) ?_) | (with_reducible refine Kept.thenS (by with_reducible assumption) ?_) | (with_reducible refine Kept.alloc ?_ _) | (with_reducible refine Kept.drew ?_) | (with_reducible refine Kept.drewN ?_ _) | (with_reducible refine Kept.setNew ?_ ?_ _) | ((try simp only [World.size_alloc, World.size_setCell, World.size_drew, size_drewN] at *); (try dsimp only); omega))))⟩ | ((repeat apply Exists.intro); exact ⟨⟨j + 1, true, _, by omega, rfl, rfl, by go_num, E7, by omega, by omega, HQ, Lib.hid (by have := hk6.out; (repeat' (first | (with_reducible exact Kept.refl _ _) | (with_reducible assumption) | (with_reducible refine Kept.then_ (by with_reducible assumption) ?_) | (with_reducible refine Kept.thenS (by with_reducible assumption) ?_) | (with_reducible refine Kept.alloc ?_ _) | (with_reducible refine Kept.drew ?_) | (with_reducible refine Kept.drewN ?_ _) | (with_reducible refine Kept.setNew ?_ ?_ _) | ((try simp only [World.size_alloc, World.size_setCell, World.size_drew, size_drewN] at *); (try dsimp only); omega))))⟩, rfl⟩)
                  case measure => simp [intOf]; omega
                · have e3 : decide (ra < A + y) = false := by simp; omega
                  go_wp2_with fail
                  go_roundw
                  case rel =>
                    have E7 : Hid ((false : Bool) = true ↔ Meets (ls.take (j + 1)) A y) := Lib.hid (by rw [HM.out, ← hm.out]; simp; try (intros; omega))
                    first | exact ⟨j + 1, false, _, by omega, rfl, rfl, by go_num, E7, by omega, by omega, HQ, Lib.hid (by have := hk6.out; (repeat' (first | (with_reducible exact Kept.refl _ _) | (with_reducible assumption) | (with_reducible refine Kept.then_ (by with_reducible assumption) ?_) | (with_reducible refine Kept.thenS (by with_reducible assumption) ?_) | (with_reducible refine Kept.alloc ?_ _) | (with_reducible refine Kept.drew ?_) | (with_reducible refine Kept.drewN ?_ _) | (with_reducible refine Kept.setNew ?_ ?_ _) | ((try simp only [World.size_alloc, World.size_setCell, World.size_drew, size_drewN] at *); (try dsimp only); omega))))⟩ | ((repeat apply Exists.intro); exact ⟨⟨j + 1, false, _, by omega, rfl, rfl, by go_num, E7, by omega, by omega, HQ, Lib.hid (by have := hk6.out; (repeat' (first | (with_reducible exact Kept.refl _ _) | (with_reducible assumption) | (with_reducible refine Kept.then_ (by with_reducible assumption) ?_) | (with_reducible refine Kept.thenS (by with_reducible assumption) ?_) | (with_reducible refine Kept.alloc ?_ _) | (with_reducible refine Kept.drew ?_) | (with_reducible refine Kept.drewN ?_ _) | (with_reducible refine Kept.setNew ?_ ?_ _) | ((try simp only [World.size_alloc, World.size_setCell, World.size_drew, size_drewN] at *); (try dsimp only); omega))))⟩, rfl⟩)
                  case measure => simp [intOf]; omega
              · have e2 : decide (A < ra + 1) = false := by simp; omega
                go_wp2_with fail
                go_roundw
                case rel =>
                  have E7 : Hid ((false : Bool) = true ↔ Meets (ls.take (j + 1)) A y) := Lib.hid (by rw [HM.out, ← hm.out]; simp; try (intros; omega))
                  first | exact ⟨j + 1, false, _, by omega, rfl, rfl, by go_num, E7, by omega, by omega, HQ, Lib.hid (by have := hk6.out; (repeat' (first | (with_reducible exact Kept.refl _ _) | (with_reducible assumption) | (with_reducible refine Kept.then_ (by with_reducible assumption) ?_) | (with_reducible refine Kept.thenS (by with_reducible assumption) ?_) | (with_reducible refine Kept.alloc ?_ _) | (with_reducible refine Kept.drew ?_) | (with_reducible refine Kept.drewN ?_ _) | (with_reducible refine Kept.setNew ?_ ?_ _) | ((try simp only [World.size_alloc, World.size_setCell, World.size_drew, size_drewN] at *); (try dsimp only); omega))))⟩ | ((repeat apply Exists.intro); exact ⟨⟨j + 1, false, _, by omega, rfl, rfl, by go_num, E7, by omega, by omega, HQ, Lib.hid (by have := hk6.out; (repeat' (first | (with_reducible exact Kept.refl _ _) | (with_reducible assumption) | (with_reducible refine Kept.then_ (by with_reducible assumption) ?_) | (with_reducible refine Kept.thenS (by with_reducible assumption) ?_) | (with_reducible refine Kept.alloc ?_ _) | (with_reducible refine Kept.drew ?_) | (with_reducible refine Kept.drewN ?_ _) | (with_reducible refine Kept.setNew ?_ ?_ _) | ((try simp only [World.size_alloc, World.size_setCell, World.size_drew, size_drewN] at *); (try dsimp only); omega))))⟩, rfl⟩)
                case measure => simp [intOf]; omega
            · have e1 : decide (0 < y) = false := by simp; omega
              go_wp2_with fail
              go_roundw
              case rel =>
                have E7 : Hid ((false : Bool) = true ↔ Meets (ls.take (j + 1)) A y) := Lib.hid (by rw [HM.out, ← hm.out]; simp; try (intros; omega))
                first | exact ⟨j + 1, false, _, by omega, rfl, rfl, by go_num, E7, by omega, by omega, HQ, Lib.hid (by have := hk6.out; (repeat' (first | (with_reducible exact Kept.refl _ _) | (with_reducible assumption) | (with_reducible refine Kept.then_ (by with_reducible assumption) ?_) | (with_reducible refine Kept.thenS (by with_reducible assumption) ?_) | (with_reducible refine Kept.alloc ?_ _) | (with_reducible refine Kept.drew ?_) | (with_reducible refine Kept.drewN ?_ _) | (with_reducible refine Kept.setNew ?_ ?_ _) | ((try simp only [World.size_alloc, World.size_setCell, World.size_drew, size_drewN] at *); (try dsimp only); omega))))⟩ | ((repeat apply Exists.intro); exact ⟨⟨j + 1, false, _, by omega, rfl, rfl, by go_num, E7, by omega, by omega, HQ, Lib.hid (by have := hk6.out; (repeat' (first | (with_reducible exact Kept.refl _ _) | (with_reducible assumption) | (with_reducible refine Kept.then_ (by with_reducible assumption) ?_) | (with_reducible refine Kept.thenS (by with_reducible assumption) ?_) | (with_reducible refine Kept.alloc ?_ _) | (with_reducible refine Kept.drew ?_) | (with_reducible refine Kept.drewN ?_ _) | (with_reducible refine Kept.setNew ?_ ?_ _) | ((try simp only [World.size_alloc, World.size_setCell, World.size_drew, size_drewN] at *); (try dsimp only); omega))))⟩, rfl⟩)
              case measure => simp [intOf]; omega
        · cases m
          case true =>
            go_wp2_with fail
            go_roundw
            case rel =>
              have E7 : Hid ((true : Bool) = true ↔ Meets (ls.take (j + 1)) A y) := Lib.hid (by rw [HM.out, ← hm.out]; simp; try (intros; omega))
              first | exact ⟨j + 1, true, _, by omega, rfl, rfl, by go_num, E7, by omega, by omega, HQ, Lib.hid (by have := hk6.out; (repeat' (first | (with_reducible exact Kept.refl _ _) | (with_reducible assumption) | (with_reducible refine Kept.then_ (by with_reducible assumption) ?_) | (with_reducible refine Kept.thenS (by with_reducible assumption) ?_) | (with_reducible refine Kept.alloc ?_ _) | (with_reducible refine Kept.drew ?_) | (with_reducible refine Kept.drewN ?_ _) | (with_reducible refine Kept.setNew ?_ ?_ _) | ((try simp only [World.size_alloc, World.size_setCell, World.size_drew, size_drewN] at *); (try dsimp only); omega))))⟩ | ((repeat apply Exists.intro); exact ⟨⟨j + 1, true, _, by omega, rfl, rfl, by go_num, E7, by omega, by omega, HQ, Lib.hid (by have := hk6.out; (repeat' (first | (with_reducible exact Kept.refl _ _) | (with_reducible assumption) | (with_reducible refine Kept.then_ (by with_reducible assumption) ?_) | (with_reducible refine Kept.thenS (by with_reducible assumption) ?_) | (with_reducible refine Kept.alloc ?_ _) | (with_reducible refine Kept.drew ?_) | (with_reducible refine Kept.drewN ?_ _) | (with_reducible refine Kept.setNew ?_ ?_ _) | ((try simp only [World.size_alloc, World.size_setCell, World.size_drew, size_drewN] at *); (try dsimp only); omega))))⟩, rfl⟩)
            case measure => simp [intOf]; omega
          case false =>
            by_cases q1 : 0 < y
            · have e1 : decide (0 < y) = true := by simp; omega
              by_cases q2 : A < ra + T
              · have e2 : decide (A < ra + T) = true := by simp; omega
                by_cases q3 : ra < A + y
                · have e3 : decide (ra < A + y) = true := by simp; omega
                  go_wp2_with fail
                  go_roundw
                  case rel =>
                    have E7 : Hid ((true : Bool) = true ↔ Meets (ls.take (j + 1)) A y) := Lib.hid (by rw [HM.out, ← hm.out]; simp; try (intros; omega))
                    first | exact ⟨j + 1, true, _, by omega, rfl, rfl, by go_num, E7, by omega, by omega, HQ, Lib.hid (by have := hk6.out; (repeat' (first | (with_reducible exact Kept.refl _ _) | (with_reducible assumption) | (with_reducible refine Kept.then_ (by with_reducible assumption) ?_) | (with_reducible refine Kept.thenS (by with_reducible assumption) ?_) | (with_reducible refine Kept.alloc ?_ _) | (with_reducible refine Kept.drew ?_) | (with_reducible refine Kept.drewN ?_ _) | (with_reducible refine Kept.setNew ?_ ?_ _) | ((try simp only [World.size_alloc, World.size_setCell, World.size_drew, size_drewN] at *); (try dsimp only); omega))))⟩ | ((repeat apply Exists.intro); exact ⟨⟨j + 1, true, _, by omega, rfl, rfl, by go_num, E7, by omega, by omega, HQ, Lib.hid (by have := hk6.out; (repeat' (first | (with_reducible exact Kept.refl _ _) | (with_reducible assumption) | (with_reducible refine Kept.then_ (by with_reducible assumption) ?_) | (with_reducible refine Kept.thenS (by with_reducible assumption) ?_) | (with_reducible refine Kept.alloc ?_ _) | (with_reducible refine Kept.drew ?_) | (with_reducible refine Kept.drewN ?_ _) | (with_reducible refine Kept.setNew ?_ ?_ _) | ((try simp only [World.size_alloc, World.size_setCell, World.size_drew, size_drewN] at *); (try dsimp only); omega))))⟩, rfl⟩)
                  case measure => simp [intOf]; omega
                · have e3 : decide (ra < A + y) = false := by simp; omega
                  go_wp2_with fail
                  go_roundw
                  case rel =>
                    have E7 : Hid ((false : Bool) = true ↔ Meets (ls.take (j + 1)) A y) := Lib.hid (by rw [HM.out, ← hm.out]; simp; try (intros; omega))
                    first | exact ⟨j + 1, false, _, by omega, rfl, rfl, by go_num, E7, by omega, by omega, HQ, Lib.hid (by have := hk6.out; (repeat' (first | (with_reducible exact Kept.refl _ _) | (with_reducible assumption) | (with_reducible refine Kept.then_ (by with_reducible assumption) ?_) | (with_reducible refine Kept.thenS (by with_reducible assumption) ?_) | (with_reducible refine Kept.alloc ?_ _) | (with_reducible refine Kept.drew ?_) | (with_reducible refine Kept.drewN ?_ _) | (with_reducible refine Kept.setNew ?_ ?_ _) | ((try simp only [World.size_alloc, World.size_setCell, World.size_drew, size_drewN] at *); (try dsimp only); omega))))⟩ | ((repeat apply Exists.intro); exact ⟨⟨j + 1, false, _, by omega, rfl, rfl, by go_num, E7, by omega, by omega, HQ, Lib.hid (by have := hk6.out; (repeat' (first | (with_reducible exact Kept.refl _ _) | (with_reducible assumption) | (with_reducible refine Kept.then_ (by with_reducible assumption) ?_) | (with_reducible refine Kept.thenS (by with_reducible assumption) ?_) | (with_reducible refine Kept.alloc ?_ _) | (with_reducible refine Kept.drew ?_) | (with_reducible refine Kept.drewN ?_ _) | (with_reducible refine Kept.setNew ?_ ?_ _) | ((try simp only [World.size_alloc, World.size_setCell, World.size_drew, size_drewN] at *); (try dsimp only); omega))))⟩, rfl⟩)
                  case measure => simp [intOf]; omega
              · have e2 : decide (A < ra + T) = false := by simp; omega
                go_wp2_with fail
                go_roundw
                case rel =>
                  have E7 : Hid ((false : Bool) = true ↔ Meets (ls.take (j + 1)) A y) := Lib.hid (by rw [HM.out, ← hm.out]; simp; try (intros; omega))
                  first | exact ⟨j + 1, false, _, by omega, rfl, rfl, by go_num, E7, by omega, by omega, HQ, Lib.hid (by have := hk6.out; (repeat' (first | (with_reducible exact Kept.refl _ _) | (with_reducible assumption) | (with_reducible refine Kept.then_ (by with_reducible assumption) ?_) | (with_reducible refine Kept.thenS (by with_reducible assumption) ?_) | (with_reducible refine Kept.alloc ?_ _) | (with_reducible refine Kept.drew ?_) | (with_reducible refine Kept.drewN ?_ _) | (with_reducible refine Kept.setNew ?_ ?_ _) | ((try simp only [World.size_alloc, World.size_setCell, World.size_drew, size_drewN] at *); (try dsimp only); omega))))⟩ | ((repeat apply Exists.intro); exact ⟨⟨j + 1, false, _, by omega, rfl, rfl, by go_num, E7, by omega, by omega, HQ, Lib.hid (by have := hk6.out; (repeat' (first | (with_reducible exact Kept.refl _ _) | (with_reducible assumption) | (with_reducible refine Kept.then_ (by with_reducible assumption) ?_) | (with_reducible refine Kept.thenS (by with_reducible assumption) ?_) | (with_reducible refine Kept.alloc ?_ _) | (with_reducible refine Kept.drew ?_) | (with_reducible refine Kept.drewN ?_ _) | (with_reducible refine Kept.setNew ?_ ?_ _) | ((try simp only [World.size_alloc, World.size_setCell, World.size_drew, size_drewN] at *); (try dsimp only); omega))))⟩, rfl⟩)
                case measure => simp [intOf]; omega
            · have e1 : decide (0 < y) = false := by simp; omega
              go_wp2_with fail
              go_roundw
              case rel =>
                have E7 : Hid ((false : Bool) = true ↔ Meets (ls.take (j + 1)) A y) := Lib.hid (by rw [HM.out, ← hm.out]; simp; try (intros; omega))
                first | exact ⟨j + 1, false, _, by omega, rfl, rfl, by go_num, E7, by omega, by omega, HQ, Lib.hid (by have := hk6.out; (repeat' (first | (with_reducible exact Kept.refl _ _) | (with_reducible assumption) | (with_reducible refine Kept.then_ (by with_reducible assumption) ?_) | (with_reducible refine Kept.thenS (by with_reducible assumption) ?_) | (with_reducible refine Kept.alloc ?_ _) | (with_reducible refine Kept.drew ?_) | (with_reducible refine Kept.drewN ?_ _) | (with_reducible refine Kept.setNew ?_ ?_ _) | ((try simp only [World.size_alloc, World.size_setCell, World.size_drew, size_drewN] at *); (try dsimp only); omega))))⟩ | ((repeat apply Exists.intro); exact ⟨⟨j + 1, false, _, by omega, rfl, rfl, by go_num, E7, by omega, by omega, HQ, Lib.hid (by have := hk6.out; (repeat' (first | (with_reducible exact Kept.refl _ _) | (with_reducible assumption) | (with_reducible refine Kept.then_ (by with_reducible assumption) ?_) | (with_reducible refine Kept.thenS (by with_reducible assumption) ?_) | (with_reducible refine Kept.alloc ?_ _) | (with_reducible refine Kept.drew ?_) | (with_reducible refine Kept.drewN ?_ _) | (with_reducible refine Kept.setNew ?_ ?_ _) | ((try simp only [World.size_alloc, World.size_setCell, World.size_drew, size_drewN] at *); (try dsimp only); omega))))⟩, rfl⟩)
              case measure => simp [intOf]; omega
      · obtain rfl : j = ls.length := by omega
        have he := hm.out
        rw [List.take_length] at he
        have CF6 : Hid (Calls Try.prog 13 #[.pointer (some ⟨p, 0, none⟩), .int .u64 A, .int .u64 y] _ fun e w' => e = .returned (.bool (!m)) ∧ Kept [] _ w') := Lib.hid (CF.out _ (hk6.out.then_ K4.out) (!m) (by
          have hf := free_meets ls A y (by omega) (by omega)
          rw [← he] at hf
          cases m <;> simp_all))
        have K6 := Lib.hid ((hk6.out.then_ K4.out).then_ K3.out)
        clear he hm
        go_wp2_with fail
        (with_reducible refine CF6.out.mono ?_)
        rintro e w8 ⟨rfl, hb8⟩
        go_wp2_with fail
        go_ret
        exact ⟨by simp, (hb8.then_ K6.out).below⟩
theorem own : ownKnob Try.prog.godebug = none := by kernel_rfl
theorem laidOut : laidOutB Try.prog = true := by kernel_rfl
set_option maxRecDepth 100000 in
theorem lifted (os : Os) (started : os.Started) (H : Type) (enc : TypeId × Value → H) :
    ReturnsInHanded {} Try.checked os 3 .any (Rows.ledgerApartSpec.pre6 enc Try.prog Try.f3 Rows.ledgerApartRow.domain false) (Rows.ledgerApartSpec.post enc Try.prog Try.f3 false true false false) := by
  refine returnsInHanded_of_change_sized (C := Try.checked) own started (by kernel_rfl) Try.func3
    (ChangeSpec.witness6 (enc := enc) (C := Try.checked) false ⟨#[], #[.slice none 0 0, .int .u32 0, .int .u16 0], []⟩ 8 (by kernel_rfl) (by kernel_rfl) (by kernel_rfl) (by kernel_rfl)) ?_
  intro W base args ds gs before hval0 hW hcnd hsz _
  have hval : ∀ (j : Nat) t v, Try.f3.params[j]? = some t → args[j]? = some v → Value.okWide Try.prog W .any base t v := hval0
  have hW' := hW
  obtain ⟨p, q, hA0, hV, rfl, hfz, hnd⟩ := hW
  have hA : DataW.TrodAll enc Try.prog W 0 (fun _ => true) true Try.f3.params.toList args.toList ds p := hA0
  rw [Try.params3] at hA hval hsz
  obtain ⟨v0, vs0, d0, ds0, p0, q0, hargs, rfl, rfl, h0, r0⟩ := trodAll_cons hA
  obtain ⟨v1, vs1, d1, ds1, p1, q1, rfl, rfl, rfl, h1, r1⟩ := trodAll_cons r0
  obtain ⟨v2, vs2, d2, ds2, p2, q2, rfl, rfl, rfl, h2, r2⟩ := trodAll_cons r1
  obtain ⟨rfl, rfl, rfl⟩ := trodAll_nil r2
  obtain rfl : args = #[v0, v1, v2] := by cases args; simp_all
  obtain ⟨rfl, rfl⟩ := trodVars_none hV
  have k0 := h0
  have lt0 : ∀ x ∈ p0, x.block < W.heap.size := by obtain ⟨m, hm⟩ := k0; exact DataW.trod_lt m _ _ _ hm
  obtain ⟨a0, len0, cap0, rfl⟩ := okWide_slice Try.underlying22 (hval 0 22 v0 rfl rfl)
  obtain ⟨z0, w0⟩ := isT22_of h0 (fun n hn => by have := List.all_eq_true.1 hsz n (DataW.weights_mem_each (j := 0) (t := 22) rfl rfl n hn); simpa using this)
  obtain ⟨a1, rfl, rfl, rfl, w1⟩ := open_int Try.underlying23 (hval 1 23 v1 rfl rfl) h1
  obtain ⟨a2, rfl, rfl, rfl, w2⟩ := open_int Try.underlying24 (hval 2 24 v2 rfl rfl) h2
  clear hA0 hval0
  refine (walk a0 len0 cap0 z0 a1 a2 W w0 w1 w2).mono fun e W' ⟨he, bel⟩ => ?_
  subst he
  exact ⟨_, rfl, _, _, _, [], _, [], hW', trodAll_mk1 (shut_bool Try.underlying4 _), (trodAll_cons_mk (Below.trod laidOut (by kernel_rfl) (of_decide_eq_true (by kernel_rfl)) k0 bel lt0) (trodAll_cons_mk (shut_int Try.underlying23 w1) (trodAll_cons_mk (shut_int Try.underlying24 w2) trodAll_mk0))), rfl, bel.frame _, fun h => by cases h⟩
theorem over : Rows.ledgerApartRow.holds Try.pinned (OpenSpec.ofChange Rows.ledgerApartSpec) :=
  OpenClaim.holds_of_wide 3 Try.f3 rfl rfl rfl rfl rfl rfl rfl ⟨rfl, rfl, rfl, rfl, rfl⟩ rfl rfl rfl rfl rfl (by kernel_rfl) Try.func3 (by kernel_rfl)
    (of_decide_eq_true (by kernel_rfl)) (by unfold Func.isWrapper; first | (rw [if_pos (by decide +kernel)]; kernel_rfl) | (rw [if_neg (by decide +kernel)]; exact ⟨rfl, rfl⟩))
    (fun os started H enc _ => lifted os started H enc)
theorem proved : Rows.LedgerApartSaid := over
#print axioms proved
end LedgerApart
end Go.Proofs.Ytdallcepachhoaa
