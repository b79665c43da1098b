/- great: acts that are too many; filled: a ledger that acts made. -/
import Derived.Test.YtdallcepachhoaaLgX
import Derived.Test.YtdallcepachhoaaLgActs
set_option linter.unusedVariables false
set_option linter.unusedSimpArgs false
namespace Go.Proofs.Ytdallcepachhoaa
open Go.RowKit
def GreatR (len : Nat) (W : World) (e : Ending) (w' : World) : Prop := ∃ b : Bool, e = .returned (.bool b) ∧ (b = false → len ≤ 100) ∧ Kept [] W w'
set_option maxRecDepth 100000 in
theorem great_any {W0 : World} {a : Option Addr} {len cap : Nat} {u : Unit} (h : IsActZ W0 a len cap u) (W : World) (hW : Kept [] W0 W) : Calls Try.prog 10 #[.slice a len cap] W (GreatR len W) := by
  have HA := Lib.hid h
  have hz0 := hW.size
  have HW := Lib.hid hW
  have hl9 : len ≤ 9223372036854775807 := by
    rcases h with ⟨_, rfl, _⟩ | ⟨_, _, h1, h2, _⟩
    · omega
    · simp only [maxLen] at h2; omega
  clear h hW
  go_enter Try.func10, Try.ntmps10
  go_wp2_with fail
  go_loopw [3, 8] (fun s v wr => ∃ (i : Nat) (sm : Int), i ≤ len ∧ s = .int .i64 sm ∧ (-9223372036854775808 ≤ sm ∧ sm ≤ 9223372036854775807) ∧ v = .int .i64 i ∧ Hid (Kept [] W wr)) (fun _ v _ => (len - intOf v).toNat)
  case atStart => exact ⟨0, 0, Nat.zero_le _, rfl, by omega, rfl, Lib.hid (by (repeat' (first | (with_reducible exact Kept.refl _ _) | (with_reducible assumption) | (with_reducible refine Kept.then_ (by with_reducible assumption) ?_) | (with_reducible refine Kept.thenS (by with_reducible assumption) ?_) | (with_reducible refine Kept.alloc ?_ _) | (with_reducible refine Kept.drew ?_) | (with_reducible refine Kept.drewN ?_ _) | (with_reducible refine Kept.setNew ?_ ?_ _) | ((try simp only [World.size_alloc, World.size_setCell, World.size_drew, size_drewN] at *); (try dsimp only); omega))))⟩
  case round =>
    obtain ⟨i, sm, hi, rfl, hsm, rfl, hs⟩ := hrel
    by_cases hlt : i < len
    · obtain ⟨ad, z, rfl, hadl, hB, wk, w1, w2, w3, hcs⟩ := HA.out.get hlt
      obtain ⟨c0, c1, c2, c3, c4⟩ := hcs wr (hs.out.then_ HW.out)
      have hzr := hs.out.size
      obtain ⟨zk, za, zn, zl, zA, zlen, zcap, zs⟩ := z
      dsimp only at *
      have d0 : decide (i < len) = true := by simp; omega
      clear hcs wk hB w1 w2 w3
      go_wp2_with fail
      go_roundw
      case rel =>
        first | exact ⟨i + 1, _, by omega, rfl, bounds_i64 (wrap64_wf _), by go_num, Lib.hid (by have := hs.out; (repeat' (first | (with_reducible exact Kept.refl _ _) | (with_reducible assumption) | (with_reducible refine Kept.then_ (by with_reducible assumption) ?_) | (with_reducible refine Kept.thenS (by with_reducible assumption) ?_) | (with_reducible refine Kept.alloc ?_ _) | (with_reducible refine Kept.drew ?_) | (with_reducible refine Kept.drewN ?_ _) | (with_reducible refine Kept.setNew ?_ ?_ _) | ((try simp only [World.size_alloc, World.size_setCell, World.size_drew, size_drewN] at *); (try dsimp only); omega))))⟩ | ((repeat apply Exists.intro); exact ⟨⟨i + 1, _, by omega, rfl, bounds_i64 (wrap64_wf _), by go_num, Lib.hid (by have := hs.out; (repeat' (first | (with_reducible exact Kept.refl _ _) | (with_reducible assumption) | (with_reducible refine Kept.then_ (by with_reducible assumption) ?_) | (with_reducible refine Kept.thenS (by with_reducible assumption) ?_) | (with_reducible refine Kept.alloc ?_ _) | (with_reducible refine Kept.drew ?_) | (with_reducible refine Kept.drewN ?_ _) | (with_reducible refine Kept.setNew ?_ ?_ _) | ((try simp only [World.size_alloc, World.size_setCell, World.size_drew, size_drewN] at *); (try dsimp only); omega))))⟩, rfl⟩)
      case measure => simp [intOf]; omega
    · obtain rfl : i = len := by omega
      by_cases hq : i ≤ 100
      · have q0 : (i : Int) ≤ 100 := by omega
        go_wp2_with fail
        go_ret
        exact ⟨_, rfl, fun hf => hq, hs.out⟩
      · have q0 : decide (100 < (i : Int)) = true := by simp; omega
        go_wp2_with fail
        go_ret
        exact ⟨_, rfl, (fun hf => by cases hf), hs.out⟩
/-- A ledger behind at most i acts. -/
def MadeK (W : World) (p i : Nat) (w : World) : Prop := ∃ ls, ls.length ≤ i ∧ LgX W [] w p ls
theorem MadeK.ltp {W w : World} {p i : Nat} (h : MadeK W p i w) : p < w.heap.size := by
  obtain ⟨ls, _, h⟩ := h
  exact h.ltp
theorem MadeK.keep0 {W w w' : World} {p i : Nat} (h : MadeK W p i w) (hk : Kept [] w w') : MadeK W p i w' := by
  obtain ⟨ls, h1, h⟩ := h
  exact ⟨ls, h1, h.keep0 hk⟩
theorem MadeK.kept {W w : World} {p i : Nat} (h : MadeK W p i w) : Kept [] W w := by
  obtain ⟨ls, _, h⟩ := h
  exact h.kept
theorem MadeK.more {W w : World} {p i : Nat} (h : MadeK W p i w) : MadeK W p (i + 1) w := by
  obtain ⟨ls, h1, h⟩ := h
  exact ⟨ls, by omega, h⟩
def AnyK (W : World) (p i : Nat) (e : Ending) (w' : World) : Prop := ∃ x : Int, e = .returned (.int .i64 x) ∧ MadeK W p i w'
theorem add_st {W w : World} {p i : Nat} (h : MadeK W p i w) (hi : i ≤ 1000) (a n l : Int) (ha : 0 ≤ a ∧ a ≤ 18446744073709551615) (hn : 0 ≤ n ∧ n ≤ 18446744073709551615) (hl : 0 ≤ l ∧ l ≤ 18446744073709551615) :
    Calls Try.prog 15 #[.pointer (some ⟨p, 0, none⟩), .agg #[.int .u64 a, .int .u64 n, .int .u64 l]] w (AnyK W p (i + 1)) := by
  obtain ⟨ls, h1, h⟩ := h
  exact (x_add h (by omega) a n l ha hn hl).mono fun e w' ⟨er, ls', he, hR, hL, _⟩ => ⟨er, he, ls', by have := (hR.ok h.inv ha.1 hn.1).2; omega, hL⟩
theorem row_args {W0 W w : World} {p i : Nat} (h : MadeK W p i w) (hW : Kept [] W0 W) {A : Option Addr} {n c : Nat} {zs : List Int} (hz : IsRow .u64 W0 A n c zs) :
    ∃ ys : List Int, n = ys.length ∧ RowX .u64 w A ys ∧ (0 < ys.length → NewZ W w A) ∧ ys.length ≤ 9223372036854775807 := by
  obtain ⟨ys, hy, hr, _, _, hl, hm⟩ := hz.seen
  refine ⟨ys, hy.symm, hr.keep (h.kept.then_ hW), fun h0 x hx => .inl ?_, by simp only [maxLen] at hm; omega⟩
  obtain ⟨x', hx', hb, _⟩ := hr h0
  rw [hx] at hx'
  cases hx'
  have := hW.size
  omega
theorem drop_st {W0 W w : World} {p i : Nat} (h : MadeK W p i w) (hi : i ≤ 1000) (hW : Kept [] W0 W) (A : Option Addr) (n c : Nat) (zs : List Int) (hz : IsRow .u64 W0 A n c zs) :
    Calls Try.prog 17 #[.pointer (some ⟨p, 0, none⟩), .slice A n c] w (AnyK W p (i + 1)) := by
  obtain ⟨ys, hn, hr, hA, hm⟩ := row_args h hW hz
  obtain ⟨ls, h1, h⟩ := h
  exact (x_drop h (Kept.refl _ _) (by omega) A n c ys hn hr hA hm).mono fun e w' ⟨he, hL, _⟩ => ⟨_, he, _, by have := (eachP_ok dropStep_ok ys ls h.inv).2; omega, hL⟩
theorem hold_st {W0 W w : World} {p i : Nat} (h : MadeK W p i w) (hi : i ≤ 1000) (hW : Kept [] W0 W) (A : Option Addr) (n c : Nat) (zs : List Int) (hz : IsRow .u64 W0 A n c zs) :
    Calls Try.prog 23 #[.pointer (some ⟨p, 0, none⟩), .slice A n c] w (AnyK W p (i + 1)) := by
  obtain ⟨ys, hn, hr, hA, hm⟩ := row_args h hW hz
  obtain ⟨ls, h1, h⟩ := h
  exact (x_hold h (Kept.refl _ _) (by omega) A n c ys hn hr hA hm).mono fun e w' ⟨he, hL, _⟩ => ⟨_, he, _, by have := (eachP_ok (turnStep_ok true 7) ys ls h.inv).2; omega, hL⟩
/-- What filled hands on. -/
def FilledR (len : Nat) (W : World) (e : Ending) (w' : World) : Prop := ∃ p ls, e = .returned (.pointer (some ⟨p, 0, none⟩)) ∧ ls.length ≤ len ∧ LgX W [] w' p ls
set_option maxRecDepth 100000 in
set_option maxHeartbeats 2000000 in
theorem filled_any {W0 : World} {a : Option Addr} {len cap : Nat} {u : Unit} (h : IsActZ W0 a len cap u) (hlen : len ≤ 100) (W : World) (hW : Kept [] W0 W) : Calls Try.prog 11 #[.slice a len cap] W (FilledR len W) := by
  have HA := Lib.hid h
  have HW := Lib.hid hW
  have hz0 := hW.size
  have hn := lg_new W W (Kept.refl _ _)
  have N0 : Hid (MadeK W W.heap.size 0 _) := Lib.hid ⟨[], Nat.le_refl _, hn⟩
  clear h hW hn
  go_enter Try.func11, Try.ntmps11
  go_wp2_with fail
  go_loopw [8] (fun v wr => ∃ i : Nat, i ≤ len ∧ v = .int .i64 i ∧ Hid (MadeK W W.heap.size i wr)) (fun v _ => (len - intOf v).toNat)
  case atStart => exact ⟨0, Nat.zero_le _, rfl, N0⟩
  case round =>
    obtain ⟨i, hi, rfl, hs⟩ := hrel
    have hpr := hs.out.ltp
    by_cases hlt : i < len
    · obtain ⟨ad, z, rfl, hadl, hB, wk, w1, w2, w3, hcs⟩ := HA.out.get hlt
      obtain ⟨c0, c1, c2, c3, c4⟩ := hcs wr (hs.out.kept.then_ HW.out)
      have HB := Lib.hid hB
      have b1 := bounds_u64 w1
      have b2 := bounds_u64 w2
      have b3 := bounds_u64 w3
      obtain ⟨zk, za, zn, zl, zA, zlen, zcap, zs⟩ := z
      dsimp only at *
      have hadr : ad.block < wr.heap.size := by have := hs.out.kept.size; omega
      have d0 : decide (i < len) = true := by simp; omega
      have DA := Lib.hid (fun w h => add_st (W := W) (w := w) (p := W.heap.size) (i := i) h (by omega) za zn zl b1 b2 b3)
      have DD := Lib.hid (fun w h => drop_st (W := W) (w := w) (p := W.heap.size) (i := i) h (by omega) HW.out zA zlen zcap zs HB.out)
      have DH := Lib.hid (fun w h => hold_st (W := W) (w := w) (p := W.heap.size) (i := i) h (by omega) HW.out zA zlen zcap zs HB.out)
      clear hcs wk hB w1 w2 w3 b1 b2 b3
      by_cases e0 : zk = 0
      · subst e0
        go_wp2_with fail
        (with_reducible refine (DA.out _ (hs.out.keep0 (by (repeat' (first | (with_reducible exact Kept.refl _ _) | (with_reducible assumption) | (with_reducible refine Kept.then_ (by with_reducible assumption) ?_) | (with_reducible refine Kept.thenS (by with_reducible assumption) ?_) | (with_reducible refine Kept.alloc ?_ _) | (with_reducible refine Kept.drew ?_) | (with_reducible refine Kept.drewN ?_ _) | (with_reducible refine Kept.setNew ?_ ?_ _) | ((try simp only [World.size_alloc, World.size_setCell, World.size_drew, size_drewN] at *); (try dsimp only); omega)))))).mono ?_)
        rintro e w4 ⟨x4, rfl, hs4⟩
        have S4 := Lib.hid hs4
        clear hs4
        go_wp2_with fail
        go_roundw
        case rel => first | exact ⟨i + 1, by omega, by go_num, S4⟩ | ((repeat apply Exists.intro); exact ⟨⟨i + 1, by omega, by go_num, S4⟩, rfl⟩)
        case measure => simp [intOf]; omega
      · by_cases e1 : zk = 1
        · subst e1
          go_wp2_with fail
          (with_reducible refine (DD.out _ (hs.out.keep0 (by (repeat' (first | (with_reducible exact Kept.refl _ _) | (with_reducible assumption) | (with_reducible refine Kept.then_ (by with_reducible assumption) ?_) | (with_reducible refine Kept.thenS (by with_reducible assumption) ?_) | (with_reducible refine Kept.alloc ?_ _) | (with_reducible refine Kept.drew ?_) | (with_reducible refine Kept.drewN ?_ _) | (with_reducible refine Kept.setNew ?_ ?_ _) | ((try simp only [World.size_alloc, World.size_setCell, World.size_drew, size_drewN] at *); (try dsimp only); omega)))))).mono ?_)
          rintro e w4 ⟨x4, rfl, hs4⟩
          have S4 := Lib.hid hs4
          clear hs4
          go_wp2_with fail
          go_roundw
          case rel => first | exact ⟨i + 1, by omega, by go_num, S4⟩ | ((repeat apply Exists.intro); exact ⟨⟨i + 1, by omega, by go_num, S4⟩, rfl⟩)
          case measure => simp [intOf]; omega
        · by_cases e2 : zk = 2
          · subst e2
            go_wp2_with fail
            (with_reducible refine (DH.out _ (hs.out.keep0 (by (repeat' (first | (with_reducible exact Kept.refl _ _) | (with_reducible assumption) | (with_reducible refine Kept.then_ (by with_reducible assumption) ?_) | (with_reducible refine Kept.thenS (by with_reducible assumption) ?_) | (with_reducible refine Kept.alloc ?_ _) | (with_reducible refine Kept.drew ?_) | (with_reducible refine Kept.drewN ?_ _) | (with_reducible refine Kept.setNew ?_ ?_ _) | ((try simp only [World.size_alloc, World.size_setCell, World.size_drew, size_drewN] at *); (try dsimp only); omega)))))).mono ?_)
            rintro e w4 ⟨x4, rfl, hs4⟩
            have S4 := Lib.hid hs4
            clear hs4
            go_wp2_with fail
            go_roundw
            case rel => first | exact ⟨i + 1, by omega, by go_num, S4⟩ | ((repeat apply Exists.intro); exact ⟨⟨i + 1, by omega, by go_num, S4⟩, rfl⟩)
            case measure => simp [intOf]; omega
          · have d1 : (zk == 0) = false := by rw [beq_eq_false_iff_ne]; exact e0
            have d2 : (zk == 1) = false := by rw [beq_eq_false_iff_ne]; exact e1
            have d3 : (zk == 2) = false := by rw [beq_eq_false_iff_ne]; exact e2
            have S4 := Lib.hid hs.out.more
            go_wp2_with fail
            go_roundw
            case rel => first | exact ⟨i + 1, by omega, by go_num, Lib.hid (S4.out.keep0 (by (repeat' (first | (with_reducible exact Kept.refl _ _) | (with_reducible assumption) | (with_reducible refine Kept.then_ (by with_reducible assumption) ?_) | (with_reducible refine Kept.thenS (by with_reducible assumption) ?_) | (with_reducible refine Kept.alloc ?_ _) | (with_reducible refine Kept.drew ?_) | (with_reducible refine Kept.drewN ?_ _) | (with_reducible refine Kept.setNew ?_ ?_ _) | ((try simp only [World.size_alloc, World.size_setCell, World.size_drew, size_drewN] at *); (try dsimp only); omega)))))⟩ | ((repeat apply Exists.intro); exact ⟨⟨i + 1, by omega, by go_num, Lib.hid (S4.out.keep0 (by (repeat' (first | (with_reducible exact Kept.refl _ _) | (with_reducible assumption) | (with_reducible refine Kept.then_ (by with_reducible assumption) ?_) | (with_reducible refine Kept.thenS (by with_reducible assumption) ?_) | (with_reducible refine Kept.alloc ?_ _) | (with_reducible refine Kept.drew ?_) | (with_reducible refine Kept.drewN ?_ _) | (with_reducible refine Kept.setNew ?_ ?_ _) | ((try simp only [World.size_alloc, World.size_setCell, World.size_drew, size_drewN] at *); (try dsimp only); omega)))))⟩, rfl⟩)
            case measure => simp [intOf]; omega
    · obtain rfl : i = len := by omega
      go_wp2_with fail
      go_ret
      obtain ⟨ls, h1, h2⟩ := hs.out
      exact ⟨_, ls, rfl, h1, h2⟩
end Go.Proofs.Ytdallcepachhoaa
