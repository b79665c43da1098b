/- Marked, and given back, all is as it was; in two parts, too. No condition. -/
import Derived.Test.YthnfhenbkijihaaMarkG
import Derived.Test.YthnfhenbkijihaaActs
set_option linter.unusedVariables false
set_option linter.unusedSimpArgs false
namespace Go.Proofs.Ythnfhenbkijihaa.MarkBack
open Go.RowKit Go.ChangeShapes Go.WideShapes Go.ChangeAt Go.Joins
theorem put_put (bs : List Bool) (a k : Nat) (u v : Bool) (h : a + k ≤ bs.length) : put (put bs a k u) a k v = put bs a k v := by
  have hl := length_put bs a k u h
  apply List.ext_getElem?
  intro i
  rw [put_get _ a k v (by omega), put_get bs a k v h, put_get bs a k u h]
  by_cases h1 : a ≤ i ∧ i < a + k
  · rw [if_pos h1, if_pos h1]
  · rw [if_neg h1, if_neg h1, if_neg h1]
theorem put_two (bs : List Bool) (a c k : Nat) (v : Bool) (h : a + k ≤ bs.length) (hc : c ≤ k) : put (put bs a c v) (a + c) (k - c) v = put bs a k v := by
  have hl := length_put bs a c v (by omega)
  apply List.ext_getElem?
  intro i
  rw [put_get _ (a + c) (k - c) v (by omega), put_get bs a k v h, put_get bs a c v (by omega)]
  by_cases h1 : a ≤ i ∧ i < a + k
  · rw [if_pos h1]
    by_cases h2 : a + c ≤ i ∧ i < a + c + (k - c)
    · rw [if_pos h2]
    · rw [if_neg h2, if_pos (by omega)]
  · rw [if_neg h1, if_neg (by omega), if_neg (by omega)]
theorem all_put (bs : List Bool) (a k b r : Nat) (v : Bool) (h : a + k ≤ bs.length) (hb : a ≤ b) (hr : b + r ≤ a + k) : AllAt (put bs a k v) b r v := fun i hi => by
  rw [put_get bs a k v h, if_pos (by omega)]
theorem all_put_far (bs : List Bool) (a k b r : Nat) (u v : Bool) (h : a + k ≤ bs.length) (hb : a + k ≤ b) (hv : AllAt bs b r v) : AllAt (put bs a k u) b r v := fun i hi => by
  rw [put_get bs a k u h, if_neg (by omega)]; exact hv i hi
set_option maxRecDepth 100000 in
set_option maxHeartbeats 4000000 in
theorem walk1 (a0 : Option Addr) (len0 cap0 : Nat) (z0 : List (Int × Int × Int)) (x1 x2 x3 : Int) (W : World) (w0 : IsActs W a0 len0 cap0 z0) (h1 : 0 ≤ x1 ∧ x1 ≤ 255) (h2 : 0 ≤ x2 ∧ x2 ≤ 255) (h3 : 0 ≤ x3 ∧ x3 ≤ 255) (hlen : (len0 : Int) ≤ 100) (a k c : Nat) (ha : x1 % 64 = (a : Int)) (hk : x2 % 8 + 1 = (k : Int)) (hc : x3 % (k : Int) = (c : Int)) :
    Calls Try.prog 4 #[.agg #[.slice a0 len0 cap0, .int .u8 x1, .int .u8 x2, .int .u8 x3]] W fun e W' => e = .returned (.bool true) ∧ Below W.heap.size W W' := by
  have HA := Lib.hid w0
  have hck := Int.emod_lt_of_pos x3 (show (0 : Int) < (k : Int) by omega)
  have hak : a < 64 ∧ 1 ≤ k ∧ k ≤ 8 ∧ c < k := by omega
  clear hck
  clear w0
  have C1 : Hid (∀ w : World, Calls Try.prog 10 #[.int .i64 64] w fun e w' => e = .returned (.tuple #[.pointer (some ⟨w.heap.size + 1, 0, none⟩), .int .i64 0]) ∧ MarkB w' (w.heap.size + 1) w.heap.size (frees 64) ∧ Kept [] w w') := Lib.hid (fun w => new_any w 64 (by omega) (by omega))
  go_enter Try.func4, Try.ntmps4
  go_wp2_with fail
  (with_reducible refine (alive_any _).mono ?_)
  rintro e w1 ⟨rfl, hb1⟩
  have hs1 := hb1.size
  (try simp only [World.size_alloc, World.size_setCell, World.size_drew, size_drewN] at hs1)
  have B0 : Blk w1 W.heap.size 34 #[.slice a0 len0 cap0, .int .u8 x1, .int .u8 x2, .int .u8 x3] := by ((with_reducible apply Blk.cast); (case h => (repeat' (first | (with_reducible assumption) | ((with_reducible apply Blk.keep0); (case hk => (with_reducible assumption))) | (with_reducible exact Blk.new _ _ _) | ((with_reducible apply Blk.new'); (case h => (first | (with_reducible rfl) | (simp only [World.size_alloc, World.size_setCell, World.size_drew, size_drewN]; done)))) | (with_reducible apply Blk.alloc) | (with_reducible apply Blk.set_) | ((with_reducible apply Blk.far); (case hp => (simp only []; omega))) | (with_reducible apply Blk.drew) | (with_reducible apply Blk.drewN)))); (case e => rfl))
  have B0_c := B0.cell
  have B0_f := B0.frozen
  have B0_z := B0.lt
  go_wp2_with fail
  go_quiet (fail)
  go_wp2_with fail
  (with_reducible refine (C1.out _).mono ?_)
  rintro e w2 ⟨rfl, hM2, hb2⟩
  have hs2 := hb2.size
  (try simp only [World.size_alloc, World.size_setCell, World.size_drew, size_drewN] at hs2)
  have M2 := Lib.hid hM2
  have hg2 := hM2.2.1.lt
  clear hM2
  (try simp only [size_drewN, World.size_drew] at M2 hg2)
  have K2 : Hid (Kept [] W w2) := Lib.hid (by (repeat' (first | (with_reducible exact Kept.refl _ _) | (with_reducible assumption) | (with_reducible refine Kept.then_ (by with_reducible assumption) ?_) | (with_reducible refine Kept.thenS (by with_reducible assumption) ?_) | (with_reducible refine Kept.thenG (by with_reducible assumption) ?_ ?_) | (with_reducible refine Kept.thenG2 (by with_reducible assumption) ?_ ?_ ?_) | (with_reducible refine Kept.alloc ?_ _) | (with_reducible refine Kept.drew ?_) | (with_reducible refine Kept.drewN ?_ _) | (with_reducible refine Kept.setNew ?_ ?_ _) | ((try simp only [World.size_alloc, World.size_setCell, World.size_drew, size_drewN] at *); (try dsimp only); omega))))
  have hp2 := M2.out.ltp
  (try simp only [size_drewN, World.size_drew] at hp2)
  have F64 : Hid ((frees 64).length = 64) := Lib.hid (length_frees 64)
  go_wp2_with fail
  go_loopw [42] (fun i wr => ∃ (kq : Nat) (bs : List Bool), kq ≤ len0 ∧ i = .int .i64 kq ∧ Hid (bs.length = 64) ∧ Hid (MarkB wr (w1.heap.size + 1) w1.heap.size bs) ∧ Kept [] W wr) (fun i _ => len0 - (intOf i).toNat)
  case atStart => exact ⟨0, _, Nat.zero_le _, rfl, F64, M2, K2.out⟩
  case round =>
    obtain ⟨kq, bs, hk, rfl, hbl, hm, hkw⟩ := hrel
    by_cases hlt : kq < len0
    · obtain ⟨ad, rfl, hcs⟩ := HA.out.get (by omega)
      obtain ⟨kk, pp, rr, _, wp, wq, hcc⟩ := hcs kq hlt
      obtain ⟨c0, c1, c2⟩ := hcc wr hkw
      have b1 := bounds_i64 wp
      have b2 := bounds_i64 wq
      clear hcs hcc wp wq
      have hsr := hkw.size
      have hmg := hm.out.lt
      have hmp := hm.out.ltp
      go_wp2_with fail
      (with_reducible refine (mark_gen _ _ _ _ (hm.out.keep0 ((Kept.refl [] wr).alloc _)) _ _).mono ?_)
      rintro e w5 ⟨x5, bs5, rfl, hl5, hm5, hk5⟩
      have HM5 := Lib.hid hm5
      have HL5 : Hid (bs5.length = 64) := Lib.hid (by rw [hl5]; exact hbl.out)
      clear hm5 hl5
      go_wp2_with fail
      go_roundw
      case rel => exact ⟨kq + 1, bs5, by omega, by go_num, HL5, HM5, hk5.thenG2 (hkw.alloc _) (by omega) (by omega)⟩
      case measure => simp [intOf]; omega
    · obtain rfl : kq = len0 := by omega
      obtain ⟨L, hL⟩ : ∃ L : Int, (cntF bs : Int) = L := ⟨_, rfl⟩
      obtain ⟨Q, hQ⟩ : ∃ Q : Int, longV bs = Q := ⟨_, rfl⟩
      have HL := Lib.hid hL
      have HQ := Lib.hid hQ
      have hLb : 0 ≤ L ∧ L ≤ 64 := by have := cntF_le bs; have := hbl.out; omega
      have DC : Hid (∀ w, MarkB w (w1.heap.size + 1) w1.heap.size bs → Calls Try.prog 12 #[.pointer (some ⟨w1.heap.size + 1, 0, none⟩)] w fun e w' => e = .returned (.int .i64 L) ∧ w = w') := Lib.hid (fun w h => by
        have := left_any w _ _ bs h
        rw [HL.out] at this; exact this)
      have DL : Hid (∀ w, MarkB w (w1.heap.size + 1) w1.heap.size bs → Calls Try.prog 13 #[.pointer (some ⟨w1.heap.size + 1, 0, none⟩)] w fun e w' => e = .returned (.int .i64 Q) ∧ Kept [] w w') := Lib.hid (fun w h => by
        have := longest_any w _ _ bs h
        rw [HQ.out] at this; exact this)
      clear hL hQ
      go_wp2_with fail
      (with_reducible refine (DC.out _ hm.out).mono ?_)
      rintro e w6 ⟨rfl, rfl⟩
      go_wp2_with fail
      (with_reducible refine (DL.out _ hm.out).mono ?_)
      rintro e w7 ⟨rfl, hb7⟩
      have hs7 := hb7.size
      (try simp only [World.size_alloc, World.size_setCell, World.size_drew, size_drewN] at hs7)
      have M7 := Lib.hid (hm.out.keep0 hb7)
      have K7 := Lib.hid (hkw.trans0 hb7)
      by_cases hin : a + k ≤ 64
      · have hin' : ¬ (64 < (a : Int) + (k : Int)) := by omega
        by_cases hall : AllAt bs a k false
        · have HAL := Lib.hid hall
          have hct := cntF_took bs a k (by have := hbl.out; omega) hall
          have hct2 : (k : Int) ≤ L := by rw [← HL.out]; omega
          have hct1 : Hid ((cntF (put bs a k true) : Int) = L - k) := Lib.hid (by rw [← HL.out]; exact hct.1)
          have hne : ¬ AllAt bs a k true := fun h => by
            have e1 := h 0 (by omega)
            have e2 := HAL.out 0 (by omega)
            rw [e1] at e2; cases e2
          have hsame : put bs a k false = bs := put_same bs a k false (by have := hbl.out; omega) HAL.out
          have HSA := Lib.hid hsame
          have HNE := Lib.hid hne
          have hbl' := hbl.out
          have hl1 := length_put bs a k true (by omega)
          have HL1 := Lib.hid hl1
          clear hall hct hsame hne hl1
          have DM : Hid (∀ w, MarkB w (w1.heap.size + 1) w1.heap.size bs → Calls Try.prog 15 #[.pointer (some ⟨w1.heap.size + 1, 0, none⟩), .int .i64 a, .int .i64 k] w fun e w' => e = .returned (.int .i64 0) ∧ MarkB w' (w1.heap.size + 1) w1.heap.size (put bs a k true) ∧ Kept [w1.heap.size + 1, w1.heap.size] w w') := Lib.hid (fun w h => mark_ok w _ _ bs h a k (by omega) (by omega) HAL.out)
          have DC2 : Hid (∀ w, MarkB w (w1.heap.size + 1) w1.heap.size (put bs a k true) → Calls Try.prog 12 #[.pointer (some ⟨w1.heap.size + 1, 0, none⟩)] w fun e w' => e = .returned (.int .i64 (L - (k : Int))) ∧ w = w') := Lib.hid (fun w h => by
            have := left_any w _ _ _ h
            rw [hct1.out] at this; exact this)
          have DN : Hid (∀ w, MarkB w (w1.heap.size + 1) w1.heap.size bs → Calls Try.prog 14 #[.pointer (some ⟨w1.heap.size + 1, 0, none⟩), .int .i64 a, .int .i64 k] w fun e w' => e = .returned (.int .i64 5) ∧ w = w') := Lib.hid (fun w h => free_no w _ _ bs h a k (by omega) (by omega) HNE.out)
          have DF2 : Hid (∀ w bs1, MarkB w (w1.heap.size + 1) w1.heap.size bs1 → bs1.length = 64 → AllAt bs1 (a + c) (k - c) true → put bs1 (a + c) (k - c) false = bs → Calls Try.prog 14 #[.pointer (some ⟨w1.heap.size + 1, 0, none⟩), .int .i64 ((a : Int) + (c : Int)), .int .i64 ((k : Int) - (c : Int))] w fun e w' => e = .returned (.int .i64 0) ∧ MarkB w' (w1.heap.size + 1) w1.heap.size bs ∧ Kept [w1.heap.size + 1, w1.heap.size] w w') := Lib.hid (fun w bs1 h h1 h2 h3 => by
            have := free_ok w _ _ bs1 h (a + c) (k - c) (by omega) (by omega) h2
            rw [h3, Int.natCast_add, show ((k - c : Nat) : Int) = (k : Int) - (c : Int) by omega] at this; exact this)
          go_wp2_with fail
          (with_reducible refine (DM.out _ M7.out).mono ?_)
          rintro e w8 ⟨rfl, hM8, hb8⟩
          have hs8 := hb8.size
          (try simp only [World.size_alloc, World.size_setCell, World.size_drew, size_drewN] at hs8)
          have M8 := Lib.hid hM8
          have hg8 := hM8.2.1.lt
          clear hM8
          (try simp only [size_drewN, World.size_drew] at M8 hg8)
          go_wp2_with fail
          (with_reducible refine (DC2.out _ M8.out).mono ?_)
          rintro e w9 ⟨rfl, rfl⟩
          by_cases hc0 : c = 0
          · subst hc0
            rw [show ((0 : Nat) : Int) = 0 from rfl] at DF2
            simp only [Int.add_zero, Int.sub_zero, Nat.add_zero, Nat.sub_zero] at DF2
            have hp0 : put (put bs a k true) a k false = bs := by rw [put_put bs a k true false (by omega)]; exact HSA.out
            have ha0 : AllAt (put bs a k true) a k true := all_put bs a k a k true (by omega) (by omega) (by omega)
            have DF3 := Lib.hid (DF2.out _ _ M8.out (by rw [HL1.out]; exact hbl') ha0 hp0)
            clear hp0 ha0 DF2
            go_wp2_with fail
            (with_reducible refine (DF3.out).mono ?_)
            rintro e w10 ⟨rfl, hM10, hb10⟩
            have hs10 := hb10.size
            (try simp only [World.size_alloc, World.size_setCell, World.size_drew, size_drewN] at hs10)
            have M10 := Lib.hid hM10
            have hg10 := hM10.2.1.lt
            clear hM10
            (try simp only [size_drewN, World.size_drew] at M10 hg10)
            go_wp2_with fail
            (with_reducible refine (DC.out _ M10.out).mono ?_)
            rintro e w11 ⟨rfl, rfl⟩
            go_wp2_with fail
            (with_reducible refine (DL.out _ M10.out).mono ?_)
            rintro e w12 ⟨rfl, hb12⟩
            have hs12 := hb12.size
            (try simp only [World.size_alloc, World.size_setCell, World.size_drew, size_drewN] at hs12)
            go_wp2_with fail
            (with_reducible refine (DN.out _ (M10.out.keep0 hb12)).mono ?_)
            rintro e w13 ⟨rfl, rfl⟩
            go_wp2_with fail
            go_ret
            exact ⟨rfl, Kept.below ((hb10.thenG2 (hb8.thenG2 K7.out (by omega) (by omega)) (by omega) (by omega)).trans0 hb12)⟩
          · have hc1 : 0 < (c : Int) := by omega
            have ha1 : AllAt (put bs a k true) a c true := all_put bs a k a c true (by omega) (by omega) (by omega)
            have HA1 := Lib.hid ha1
            have DF1 := Lib.hid (free_ok w8 _ _ _ M8.out a c (by omega) (by have := HL1.out; omega) ha1)
            have hp2 : put (put (put bs a k true) a c false) (a + c) (k - c) false = bs := by
              rw [put_two (put bs a k true) a c k false (by have := HL1.out; omega) (by omega), put_put bs a k true false (by omega)]; exact HSA.out
            have HP2 := Lib.hid hp2
            have ha2 : Hid (AllAt (put (put bs a k true) a c false) (a + c) (k - c) true) := Lib.hid (all_put_far _ a c (a + c) (k - c) false true (by have := HL1.out; omega) (by omega) (all_put bs a k (a + c) (k - c) true (by omega) (by omega) (by omega)))
            have hl2 : Hid ((put (put bs a k true) a c false).length = 64) := Lib.hid (by rw [length_put _ a c false (by have := HL1.out; omega), HL1.out]; exact hbl')
            clear ha1 hp2
            go_wp2_with fail
            (with_reducible refine (DF1.out).mono ?_)
            rintro e w9b ⟨rfl, hM9b, hb9b⟩
            have hs9b := hb9b.size
            (try simp only [World.size_alloc, World.size_setCell, World.size_drew, size_drewN] at hs9b)
            have M9b := Lib.hid hM9b
            have hg9b := hM9b.2.1.lt
            clear hM9b
            (try simp only [size_drewN, World.size_drew] at M9b hg9b)
            have DF3 := Lib.hid (DF2.out _ _ M9b.out hl2.out ha2.out HP2.out)
            clear DF2
            go_wp2_with fail
            (with_reducible refine (DF3.out).mono ?_)
            rintro e w10 ⟨rfl, hM10, hb10⟩
            have hs10 := hb10.size
            (try simp only [World.size_alloc, World.size_setCell, World.size_drew, size_drewN] at hs10)
            have M10 := Lib.hid hM10
            have hg10 := hM10.2.1.lt
            clear hM10
            (try simp only [size_drewN, World.size_drew] at M10 hg10)
            go_wp2_with fail
            (with_reducible refine (DC.out _ M10.out).mono ?_)
            rintro e w11 ⟨rfl, rfl⟩
            go_wp2_with fail
            (with_reducible refine (DL.out _ M10.out).mono ?_)
            rintro e w12 ⟨rfl, hb12⟩
            have hs12 := hb12.size
            (try simp only [World.size_alloc, World.size_setCell, World.size_drew, size_drewN] at hs12)
            go_wp2_with fail
            (with_reducible refine (DN.out _ (M10.out.keep0 hb12)).mono ?_)
            rintro e w13 ⟨rfl, rfl⟩
            go_wp2_with fail
            go_ret
            exact ⟨rfl, Kept.below ((hb10.thenG2 (hb9b.thenG2 (hb8.thenG2 K7.out (by omega) (by omega)) (by omega) (by omega)) (by omega) (by omega)).trans0 hb12)⟩
        · have DM : Hid (∀ w, MarkB w (w1.heap.size + 1) w1.heap.size bs → Calls Try.prog 15 #[.pointer (some ⟨w1.heap.size + 1, 0, none⟩), .int .i64 a, .int .i64 k] w fun e w' => e = .returned (.int .i64 6) ∧ w = w') := Lib.hid (fun w h => mark_no w _ _ bs h a k (by omega) (by have := hbl.out; omega) hall)
          clear hall
          go_wp2_with fail
          (with_reducible refine (DM.out _ M7.out).mono ?_)
          rintro e w8 ⟨rfl, rfl⟩
          go_wp2_with fail
          (with_reducible refine (DC.out _ M7.out).mono ?_)
          rintro e w11 ⟨rfl, rfl⟩
          go_wp2_with fail
          (with_reducible refine (DL.out _ M7.out).mono ?_)
          rintro e w12 ⟨rfl, hb12⟩
          have hs12 := hb12.size
          (try simp only [World.size_alloc, World.size_setCell, World.size_drew, size_drewN] at hs12)
          go_wp2_with fail
          go_ret
          exact ⟨ret_bool (by simp; omega), Kept.below (K7.out.trans0 hb12)⟩
      · have hin' : 64 < (a : Int) + (k : Int) := by omega
        have DM : Hid (∀ w, MarkB w (w1.heap.size + 1) w1.heap.size bs → Calls Try.prog 15 #[.pointer (some ⟨w1.heap.size + 1, 0, none⟩), .int .i64 a, .int .i64 k] w fun e w' => e = .returned (.int .i64 2) ∧ w = w') := Lib.hid (fun w h => mark_arg w _ _ bs h a k (by have := hbl.out; omega))
        go_wp2_with fail
        (with_reducible refine (DM.out _ M7.out).mono ?_)
        rintro e w8 ⟨rfl, rfl⟩
        go_wp2_with fail
        (with_reducible refine (DC.out _ M7.out).mono ?_)
        rintro e w11 ⟨rfl, rfl⟩
        go_wp2_with fail
        (with_reducible refine (DL.out _ M7.out).mono ?_)
        rintro e w12 ⟨rfl, hb12⟩
        have hs12 := hb12.size
        (try simp only [World.size_alloc, World.size_setCell, World.size_drew, size_drewN] at hs12)
        go_wp2_with fail
        go_ret
        exact ⟨rfl, Kept.below (K7.out.trans0 hb12)⟩
theorem walk (a0_0 : Option Addr) (len0_0 cap0_0 : Nat) (z0_0 : List (Int × Int × Int)) (a0_1 a0_2 a0_3 : Int) (W : World) (w0_0 : IsActs W a0_0 len0_0 cap0_0 z0_0) (w0_1 : (Lit.int .u8 a0_1).wf = true) (w0_2 : (Lit.int .u8 a0_2).wf = true) (w0_3 : (Lit.int .u8 a0_3).wf = true) :
    Calls Try.prog 4 #[.agg #[.slice a0_0 len0_0 cap0_0, .int .u8 a0_1, .int .u8 a0_2, .int .u8 a0_3]] W fun e W' => e = .returned (.bool true) ∧ Below W.heap.size W W' := by
  have b1 := bounds_u8 w0_1
  have b2 := bounds_u8 w0_2
  have b3 := bounds_u8 w0_3
  by_cases hlen : (len0_0 : Int) ≤ 100
  · obtain ⟨a, ha⟩ : ∃ a : Nat, a0_1 % 64 = (a : Int) := ⟨(a0_1 % 64).toNat, by omega⟩
    obtain ⟨k, hk⟩ : ∃ k : Nat, a0_2 % 8 + 1 = (k : Int) := ⟨(a0_2 % 8 + 1).toNat, by omega⟩
    obtain ⟨c, hc⟩ : ∃ c : Nat, a0_3 % (k : Int) = (c : Int) := ⟨(a0_3 % (k : Int)).toNat, by have := Int.emod_nonneg a0_3 (show (k : Int) ≠ 0 by omega); omega⟩
    exact walk1 _ _ _ _ _ _ _ W w0_0 b1 b2 b3 hlen a k c ha hk hc
  · have hlen' : decide (100 < (len0_0 : Int)) = true := by simp; omega
    have C1 : Hid (∀ w : World, Calls Try.prog 10 #[.int .i64 64] w fun e w' => e = .returned (.tuple #[.pointer (some ⟨w.heap.size + 1, 0, none⟩), .int .i64 0]) ∧ MarkB w' (w.heap.size + 1) w.heap.size (frees 64) ∧ Kept [] w w') := Lib.hid (fun w => new_any w 64 (by omega) (by omega))
    go_enter Try.func4, Try.ntmps4
    go_wp2_with fail
    (with_reducible refine (alive_any _).mono ?_)
    rintro e w1 ⟨rfl, hb1⟩
    have hs1 := hb1.size
    (try simp only [World.size_alloc, World.size_setCell, World.size_drew, size_drewN] at hs1)
    have B0 : Blk w1 W.heap.size 34 #[.slice a0_0 len0_0 cap0_0, .int .u8 a0_1, .int .u8 a0_2, .int .u8 a0_3] := by ((with_reducible apply Blk.cast); (case h => (repeat' (first | (with_reducible assumption) | ((with_reducible apply Blk.keep0); (case hk => (with_reducible assumption))) | (with_reducible exact Blk.new _ _ _) | ((with_reducible apply Blk.new'); (case h => (first | (with_reducible rfl) | (simp only [World.size_alloc, World.size_setCell, World.size_drew, size_drewN]; done)))) | (with_reducible apply Blk.alloc) | (with_reducible apply Blk.set_) | ((with_reducible apply Blk.far); (case hp => (simp only []; omega))) | (with_reducible apply Blk.drew) | (with_reducible apply Blk.drewN)))); (case e => rfl))
    have B0_c := B0.cell
    have B0_f := B0.frozen
    have B0_z := B0.lt
    go_wp2_with fail
    go_quiet (fail)
    go_wp2_with fail
    (with_reducible refine (C1.out _).mono ?_)
    rintro e w2 ⟨rfl, hM2, hb2⟩
    have hs2 := hb2.size
    (try simp only [World.size_alloc, World.size_setCell, World.size_drew, size_drewN] at hs2)
    have M2 := Lib.hid hM2
    have hg2 := hM2.2.1.lt
    clear hM2
    (try simp only [size_drewN, World.size_drew] at M2 hg2)
    go_wp2_with fail
    go_ret
    exact ⟨rfl, Kept.below (by (repeat' (first | (with_reducible exact Kept.refl _ _) | (with_reducible assumption) | (with_reducible refine Kept.then_ (by with_reducible assumption) ?_) | (with_reducible refine Kept.thenS (by with_reducible assumption) ?_) | (with_reducible refine Kept.thenG (by with_reducible assumption) ?_ ?_) | (with_reducible refine Kept.thenG2 (by with_reducible assumption) ?_ ?_ ?_) | (with_reducible refine Kept.alloc ?_ _) | (with_reducible refine Kept.drew ?_) | (with_reducible refine Kept.drewN ?_ _) | (with_reducible refine Kept.setNew ?_ ?_ _) | ((try simp only [World.size_alloc, World.size_setCell, World.size_drew, size_drewN] at *); (try dsimp only); omega))))⟩
theorem own : ownKnob Try.prog.godebug = none := by kernel_rfl
theorem laidOut : laidOutB Try.prog = true := by kernel_rfl
set_option maxRecDepth 100000 in
theorem lifted (os : Os) (started : os.Started) (H : Type) (enc : TypeId × Value → H) :
    ReturnsInHanded {} Try.checked os 4 .any (Rows.markBackSpec.pre6 enc Try.prog Try.f4 Rows.markBackRow.domain false) (Rows.markBackSpec.post enc Try.prog Try.f4 false true false false) := by
  refine returnsInHanded_of_change (C := Try.checked) own started (by kernel_rfl) Try.func4
    (ChangeSpec.witness6 (enc := enc) (C := Try.checked) false ⟨#[], #[.agg #[.slice none 0 0, .int .u8 0, .int .u8 0, .int .u8 0]], []⟩ 8 (by kernel_rfl) (by kernel_rfl) (by kernel_rfl) (by kernel_rfl)) ?_
  intro W base args ds gs before hval0 hW hcnd _
  have hval : ∀ (j : Nat) t v, Try.f4.params[j]? = some t → args[j]? = some v → Value.okWide Try.prog W .any base t v := hval0
  have hW' := hW
  obtain ⟨p, q, hA0, hV, rfl, hfz, hnd⟩ := hW
  have hA : DataW.TrodAll enc Try.prog W 0 (fun _ => true) true Try.f4.params.toList args.toList ds p := hA0
  rw [Try.params4] at hA hval
  obtain ⟨v0, vs0, d0, ds0, p0, q0, hargs, rfl, rfl, h0, r0⟩ := trodAll_cons hA
  obtain ⟨rfl, rfl, rfl⟩ := trodAll_nil r0
  obtain rfl : args = #[v0] := by cases args; simp_all
  obtain ⟨rfl, rfl⟩ := trodVars_none hV
  have k0 := h0
  have lt0 : ∀ x ∈ p0, x.block < W.heap.size := by obtain ⟨m, hm⟩ := k0; exact DataW.trod_lt m _ _ _ hm
  obtain ⟨c0_0, c0_1, c0_2, c0_3, y0_0, y0_1, y0_2, y0_3, n0, rfl, rfl, rfl, t0_0, t0_1, t0_2, t0_3⟩ := open_agg4 Try.underlying34 (by kernel_rfl) (by kernel_rfl) (hval 0 34 v0 rfl rfl) h0
  obtain ⟨a0_0, len0_0, cap0_0, z0_0, e0_0, w0_0⟩ := isT32_trod t0_0
  simp only [List.cons.injEq, and_true] at e0_0
  subst e0_0
  obtain ⟨a0_1, e0_1, _, w0_1⟩ := DataW.trod_int Try.underlying5 t0_1
  simp only [List.cons.injEq, and_true] at e0_1
  subst e0_1
  obtain ⟨a0_2, e0_2, _, w0_2⟩ := DataW.trod_int Try.underlying5 t0_2
  simp only [List.cons.injEq, and_true] at e0_2
  subst e0_2
  obtain ⟨a0_3, e0_3, _, w0_3⟩ := DataW.trod_int Try.underlying5 t0_3
  simp only [List.cons.injEq, and_true] at e0_3
  subst e0_3
  clear hA0 hval0
  refine (walk a0_0 len0_0 cap0_0 z0_0 a0_1 a0_2 a0_3 W w0_0 w0_1 w0_2 w0_3).mono fun e W' ⟨he, bel⟩ => ?_
  subst he
  exact ⟨_, rfl, _, _, _, [], _, [], hW', trodAll_mk1 (shut_bool Try.underlying4 _), (trodAll_cons_mk (Below.trod laidOut (by kernel_rfl) (of_decide_eq_true (by kernel_rfl)) k0 bel lt0) trodAll_mk0), rfl, bel.frame _, fun h => by cases h⟩
theorem over : Rows.markBackRow.holds Try.pinned (OpenSpec.ofChange Rows.markBackSpec) :=
  OpenClaim.holds_of_wide 4 Try.f4 rfl rfl rfl rfl rfl rfl rfl ⟨rfl, rfl, rfl, rfl, rfl⟩ rfl rfl rfl rfl rfl (by kernel_rfl) Try.func4 (by kernel_rfl)
    (of_decide_eq_true (by kernel_rfl)) (by unfold Func.isWrapper; first | (rw [if_pos (by decide +kernel)]; kernel_rfl) | (rw [if_neg (by decide +kernel)]; exact ⟨rfl, rfl⟩))
    (fun os started H enc _ => lifted os started H enc)
theorem proved : Rows.MarkBackSaid := over
#print axioms proved
end Go.Proofs.Ythnfhenbkijihaa.MarkBack
