/- In whatever order numbers come, it is the same; in two parts, as long as it isn't beyond. No condition. -/
import Derived.Test.YtnooelpdoeijbaaCalcK
set_option linter.unusedVariables false
set_option linter.unusedSimpArgs false
namespace Go.Proofs.Ytnooelpdoeijbaa.CalcOrders
open Go.RowKit Go.ChangeShapes Go.WideShapes Go.ChangeAt Go.Joins
attribute [local go_sem ↓] Go.wp_at_zero Go.wp_at_succ
set_option maxRecDepth 100000 in
set_option maxHeartbeats 4000000 in
theorem walkB (ad : Addr) (len0 cap0 k : Nat) (ys : List Int) (a1 : Int) (W : World) (hl : ys.length = len0) (hr : RowX .u64 W (some ad) ys) (hlc : len0 ≤ cap0) (hcm : cap0 ≤ 9223372036854775807) (hx : ¬ cap0 = k) (hxb : (cap0 == k) = false) (hz : U64s ys) (b1 : 0 ≤ a1 ∧ a1 ≤ 255) (hlen : (len0 : Int) ≤ 300) (hk : a1 % ((len0 : Int) + 1) = (k : Int)) (hkl : k ≤ len0) :
    Calls Try.prog 8 #[.slice (some ad) len0 cap0, .int .u8 a1] W fun e w' => e = .returned (.bool true) ∧ Below W.heap.size W w' := by
  have HN1 : Hid (len0 - k = (ys.drop k).length) := Lib.hid (by simp; (try omega))
  have HN2 : Hid (k = (ys.take k).length) := Lib.hid (by simp; (try omega))
  have HC1 : Hid ((some (ad.add k)) = none → cap0 - k = 0) := Lib.hid (fun h => by cases h)
  have HC2 : Hid ((some ad) = none → cap0 = 0) := Lib.hid (fun h => by cases h)
  have HD : Hid (RowX .u64 W (some (ad.add k)) (ys.drop k)) := Lib.hid (RowX.drop hr k)
  have HT : Hid (RowX .u64 W (some ad) (ys.take k)) := Lib.hid (RowX.take hr k)
  have hzA : U64s (ys.take k) := fun x hx => hz x (List.mem_of_mem_take hx)
  have hzB : U64s (ys.drop k) := fun x hx => hz x (List.mem_of_mem_drop hx)
  obtain ⟨T, hT⟩ : ∃ T, ys.drop k ++ ys.take k = T := ⟨_, rfl⟩
  have HTT := Lib.hid hT
  have HTL : T.length = len0 := by rw [← hT, List.length_append, ← HN1.out, ← HN2.out]; (try omega)
  have HLL : Hid (T.length ≤ 300 ∧ ys.length ≤ 300) := Lib.hid (by omega)
  have hzT : U64s T := fun x hx => by
    rw [← hT] at hx
    rcases List.mem_append.1 hx with h | h
    · exact hzB x h
    · exact hzA x h
  have hz0 : U64s (T ++ [0, 0]) := fun x hx => by
    rcases List.mem_append.1 hx with h | h
    · exact hzT x h
    · simp at h; omega
  have hz1 : U64s (T ++ [1, 1]) := fun x hx => by
    rcases List.mem_append.1 hx with h | h
    · exact hzT x h
    · simp at h; omega
  have k1 := sum_turn ys k
  have k2 := mul_turn ys k
  rw [hT] at k1 k2
  have C1 := Lib.hid (fun w (hk : Kept [] W w) => sum_at (some ad) cap0 len0 ys _ _ hl.symm hz rfl rfl (by omega) w (hr.keep hk))
  have C2 := Lib.hid (fun (A : Option Addr) (c n : Nat) (w : World) (hn : n = (T ++ [0, 0]).length) (hr : RowX .u64 w A (T ++ [0, 0])) => sum_at A c n (T ++ [0, 0]) _ _ hn hz0 k1.1 k1.2 (by simp; omega) w hr)
  have C3 := Lib.hid (fun w (hk : Kept [] W w) => mul_at (some ad) cap0 len0 ys _ _ hl.symm hz rfl rfl (by omega) w (hr.keep hk))
  have C4 := Lib.hid (fun (A : Option Addr) (c n : Nat) (w : World) (hn : n = (T ++ [1, 1]).length) (hr : RowX .u64 w A (T ++ [1, 1])) => mul_at A c n (T ++ [1, 1]) _ _ hn hz1 k2.1 k2.2 (by simp; omega) w hr)
  have C5 := Lib.hid (fun w (hk : Kept [] W w) => sum_at (some ad) cap0 k (ys.take k) _ _ HN2.out hzA rfl rfl (by rw [← HN2.out]; omega) w (HT.out.keep hk))
  have CB := Lib.hid (fun w (hk : Kept [] W w) => sum_at (some (ad.add k)) (cap0 - k) (len0 - k) (ys.drop k) _ _ HN1.out hzB rfl rfl (by rw [← HN1.out]; omega) w (HD.out.keep hk))
  have HP := Lib.hid (sum_parts ys hz k)
  have q1 : (0 : Int) ≤ (k : Int) := by omega
  have q2 : (k : Int) ≤ (len0 : Int) := by omega
  have q3 : (k : Int) ≤ (cap0 : Int) := by omega
  clear hr hl k1 k2 hz hzA hzB hzT hz0 hz1 hT HTL
  generalize sumV ys = SV at *
  generalize sumE ys = SE at *
  generalize mulV ys = MV at *
  generalize mulE ys = ME at *
  generalize sumV (ys.take k) = PV at *
  generalize sumE (ys.take k) = PE at *
  generalize sumV (ys.drop k) = QV at *
  generalize sumE (ys.drop k) = QE at *
  go_enter Try.func8, Try.ntmps8
  go_wp2_with fail
  (with_reducible refine (alive_any _).mono ?_)
  rintro e w1 ⟨rfl, hb1⟩
  have hs1 := hb1.size
  (try simp only [World.size_alloc, World.size_setCell, World.size_drew, size_drewN] at hs1)
  go_wp2_with fail
  go_region_held3 (fun _ => True) (trivial) (first | (refine step_app .u64 22 24 8 Try.underlying22 info_u64 (by omega) (by rfl) (.tmp 30) (.tmp 33) (by rfl) W W.heap.size _ [] (ys.drop k) (by rfl) (OwnI.drew (OwnI.made _ (by omega))) _ _ _ (by rfl) HN1.out (fun h => by cases h) (HD.out.keep (by (repeat' (first | (with_reducible exact Kept.refl _ _) | (with_reducible assumption) | (with_reducible refine Kept.then_ (by with_reducible assumption) ?_) | (with_reducible refine Kept.thenS (by with_reducible assumption) ?_) | (with_reducible refine Kept.alloc ?_ _) | (with_reducible refine Kept.drew ?_) | (with_reducible refine Kept.drewN ?_ _) | (with_reducible refine Kept.setNew ?_ ?_ _) | ((try simp only [World.size_alloc, World.size_setCell, World.size_drew, size_drewN] at *); (try dsimp only); omega))))) (by (repeat' (first | (with_reducible exact Kept.refl _ _) | (with_reducible assumption) | (with_reducible refine Kept.then_ (by with_reducible assumption) ?_) | (with_reducible refine Kept.thenS (by with_reducible assumption) ?_) | (with_reducible refine Kept.alloc ?_ _) | (with_reducible refine Kept.drew ?_) | (with_reducible refine Kept.drewN ?_ _) | (with_reducible refine Kept.setNew ?_ ?_ _) | ((try simp only [World.size_alloc, World.size_setCell, World.size_drew, size_drewN] at *); (try dsimp only); omega)))) (Nat.le_refl _) (by simp only [World.size_alloc, World.size_drew]; omega) (by have := HN1.out; simp only [List.length_nil]; omega) ?_; intro A3 n3 c3 w3 hn3 own3 ownx hk3 hs3 hc3 hr3) | (refine step_app .u64 22 24 8 Try.underlying22 info_u64 (by omega) (by rfl) (.tmp 34) (.tmp 37) (by rfl) W W.heap.size _ ([] ++ ys.drop k) (ys.take k) (by rfl) own3 _ _ _ (by rfl) HN2.out (fun h => by cases h) (HT.out.keep (by (repeat' (first | (with_reducible exact Kept.refl _ _) | (with_reducible assumption) | (with_reducible refine Kept.then_ (by with_reducible assumption) ?_) | (with_reducible refine Kept.thenS (by with_reducible assumption) ?_) | (with_reducible refine Kept.alloc ?_ _) | (with_reducible refine Kept.drew ?_) | (with_reducible refine Kept.drewN ?_ _) | (with_reducible refine Kept.setNew ?_ ?_ _) | ((try simp only [World.size_alloc, World.size_setCell, World.size_drew, size_drewN] at *); (try dsimp only); omega))))) (by (repeat' (first | (with_reducible exact Kept.refl _ _) | (with_reducible assumption) | (with_reducible refine Kept.then_ (by with_reducible assumption) ?_) | (with_reducible refine Kept.thenS (by with_reducible assumption) ?_) | (with_reducible refine Kept.alloc ?_ _) | (with_reducible refine Kept.drew ?_) | (with_reducible refine Kept.drewN ?_ _) | (with_reducible refine Kept.setNew ?_ ?_ _) | ((try simp only [World.size_alloc, World.size_setCell, World.size_drew, size_drewN] at *); (try dsimp only); omega)))) (Nat.le_refl _) (by have := hk3.size; omega) (by have := HN1.out; have := HN2.out; simp only [List.nil_append]; omega) ?_; intro A4 n4 c4 w4 hn4 own4 owny hk4 hs4 hc4 hr4))
  have HN4 : Hid (n4 = T.length) := Lib.hid (by have := hn4.out; rw [List.nil_append, HTT.out] at this; exact this)
  have O4 : Hid (OwnI W.heap.size .u64 24 w4 (.slice A4 n4 c4) T) := Lib.hid (by have := own4; rw [List.nil_append, HTT.out] at this; exact this)
  have R4 : Hid (RowX .u64 w4 A4 T) := Lib.hid (by have := hr4; rw [List.nil_append, HTT.out] at this; exact this)
  have hs4' := hk4.size
  clear own4 hr4 hn4 own3 ownx owny hr3 hn3 hs3 hs4 hk3
  go_wp2_with fail
  (with_reducible refine (C1.out _ (by (repeat' (first | (with_reducible exact Kept.refl _ _) | (with_reducible assumption) | (with_reducible refine Kept.then_ (by with_reducible assumption) ?_) | (with_reducible refine Kept.thenS (by with_reducible assumption) ?_) | (with_reducible refine Kept.alloc ?_ _) | (with_reducible refine Kept.drew ?_) | (with_reducible refine Kept.drewN ?_ _) | (with_reducible refine Kept.setNew ?_ ?_ _) | ((try simp only [World.size_alloc, World.size_setCell, World.size_drew, size_drewN] at *); (try dsimp only); omega))))).mono ?_)
  rintro e w5 ⟨rfl, hb5⟩
  have hs5 := hb5.size
  (try simp only [World.size_alloc, World.size_setCell, World.size_drew, size_drewN] at hs5)
  go_wp2_with (refine app_gen .u64 22 24 8 Try.underlying22 info_u64 (by omega) rfl (.tmp 45) (.tmp 46) rfl W W.heap.size _ T [0, 0] rfl (O4.out.kept (by (repeat' (first | (with_reducible exact Kept.refl _ _) | (with_reducible assumption) | (with_reducible refine Kept.then_ (by with_reducible assumption) ?_) | (with_reducible refine Kept.thenS (by with_reducible assumption) ?_) | (with_reducible refine Kept.alloc ?_ _) | (with_reducible refine Kept.drew ?_) | (with_reducible refine Kept.drewN ?_ _) | (with_reducible refine Kept.setNew ?_ ?_ _) | ((try simp only [World.size_alloc, World.size_setCell, World.size_drew, size_drewN] at *); (try dsimp only); omega))))) _ _ _ rfl rfl (fun h => by cases h) (two_row (Blk.new _ _ _)) (by (repeat' (first | (with_reducible exact Kept.refl _ _) | (with_reducible assumption) | (with_reducible refine Kept.then_ (by with_reducible assumption) ?_) | (with_reducible refine Kept.thenS (by with_reducible assumption) ?_) | (with_reducible refine Kept.alloc ?_ _) | (with_reducible refine Kept.drew ?_) | (with_reducible refine Kept.drewN ?_ _) | (with_reducible refine Kept.setNew ?_ ?_ _) | ((try simp only [World.size_alloc, World.size_setCell, World.size_drew, size_drewN] at *); (try dsimp only); omega)))) (Nat.le_refl _) (by simp only [World.size_alloc]; omega) (by (have := HLL.out); (simp only [List.length_nil, List.length_cons]); omega) ?_)
  intro A6 n6 c6 w6 hn6 own6 owo6 hk6 hg6 hs6 hc6 hr6
  clear hg6
  have R6 := Lib.hid (OwnI.row owo6)
  have C6 := Lib.hid (C2.out A6 c6 n6 w6 (by have := hn6.out; simp at this ⊢; omega) hr6)
  clear own6 owo6 hr6 hn6
  go_wp2_with fail
  (with_reducible refine (C6.out).mono ?_)
  rintro e w7 ⟨rfl, hb7⟩
  have hs7 := hb7.size
  (try simp only [World.size_alloc, World.size_setCell, World.size_drew, size_drewN] at hs7)
  go_wp2_with fail
  (with_reducible refine (C3.out _ (by (repeat' (first | (with_reducible exact Kept.refl _ _) | (with_reducible assumption) | (with_reducible refine Kept.then_ (by with_reducible assumption) ?_) | (with_reducible refine Kept.thenS (by with_reducible assumption) ?_) | (with_reducible refine Kept.alloc ?_ _) | (with_reducible refine Kept.drew ?_) | (with_reducible refine Kept.drewN ?_ _) | (with_reducible refine Kept.setNew ?_ ?_ _) | ((try simp only [World.size_alloc, World.size_setCell, World.size_drew, size_drewN] at *); (try dsimp only); omega))))).mono ?_)
  rintro e w8 ⟨rfl, hb8⟩
  have hs8 := hb8.size
  (try simp only [World.size_alloc, World.size_setCell, World.size_drew, size_drewN] at hs8)
  go_wp2_with (refine app_gen .u64 22 24 8 Try.underlying22 info_u64 (by omega) rfl (.tmp 57) (.tmp 58) rfl W W.heap.size _ [] T rfl (OwnI.made _ (by omega)) A4 n4 c4 HN4.out rfl hc4 (R6.out.keep (by (repeat' (first | (with_reducible exact Kept.refl _ _) | (with_reducible assumption) | (with_reducible refine Kept.then_ (by with_reducible assumption) ?_) | (with_reducible refine Kept.thenS (by with_reducible assumption) ?_) | (with_reducible refine Kept.alloc ?_ _) | (with_reducible refine Kept.drew ?_) | (with_reducible refine Kept.drewN ?_ _) | (with_reducible refine Kept.setNew ?_ ?_ _) | ((try simp only [World.size_alloc, World.size_setCell, World.size_drew, size_drewN] at *); (try dsimp only); omega))))) (by (repeat' (first | (with_reducible exact Kept.refl _ _) | (with_reducible assumption) | (with_reducible refine Kept.then_ (by with_reducible assumption) ?_) | (with_reducible refine Kept.thenS (by with_reducible assumption) ?_) | (with_reducible refine Kept.alloc ?_ _) | (with_reducible refine Kept.drew ?_) | (with_reducible refine Kept.drewN ?_ _) | (with_reducible refine Kept.setNew ?_ ?_ _) | ((try simp only [World.size_alloc, World.size_setCell, World.size_drew, size_drewN] at *); (try dsimp only); omega)))) (Nat.le_refl _) (by simp only [World.size_alloc]; omega) (by (have := HLL.out); (simp only [List.length_nil, List.length_cons]); omega) ?_)
  intro A9 n9 c9 w9 hn9 own9 owo9 hk9 hg9 hs9 hc9 hr9
  clear hg9
  try simp only [List.nil_append] at own9
  go_wp2_with (refine app_gen .u64 22 24 8 Try.underlying22 info_u64 (by omega) rfl (.tmp 59) (.tmp 60) rfl W W.heap.size _ T [1, 1] rfl (own9.kept (by (repeat' (first | (with_reducible exact Kept.refl _ _) | (with_reducible assumption) | (with_reducible refine Kept.then_ (by with_reducible assumption) ?_) | (with_reducible refine Kept.thenS (by with_reducible assumption) ?_) | (with_reducible refine Kept.alloc ?_ _) | (with_reducible refine Kept.drew ?_) | (with_reducible refine Kept.drewN ?_ _) | (with_reducible refine Kept.setNew ?_ ?_ _) | ((try simp only [World.size_alloc, World.size_setCell, World.size_drew, size_drewN] at *); (try dsimp only); omega))))) _ _ _ rfl rfl (fun h => by cases h) (two_row (Blk.new _ _ _)) (by (repeat' (first | (with_reducible exact Kept.refl _ _) | (with_reducible assumption) | (with_reducible refine Kept.then_ (by with_reducible assumption) ?_) | (with_reducible refine Kept.thenS (by with_reducible assumption) ?_) | (with_reducible refine Kept.alloc ?_ _) | (with_reducible refine Kept.drew ?_) | (with_reducible refine Kept.drewN ?_ _) | (with_reducible refine Kept.setNew ?_ ?_ _) | ((try simp only [World.size_alloc, World.size_setCell, World.size_drew, size_drewN] at *); (try dsimp only); omega)))) (Nat.le_refl _) (by simp only [World.size_alloc]; omega) (by (have := HLL.out); (simp only [List.length_nil, List.length_cons]); omega) ?_)
  intro A10 n10 c10 w10 hn10 own10 owo10 hk10 hg10 hs10 hc10 hr10
  clear hg10
  have C10 := Lib.hid (C4.out A10 c10 n10 w10 (by have := hn10.out; simp at this ⊢; omega) hr10)
  clear own9 owo9 hr9 hn9 own10 owo10 hr10 hn10
  go_wp2_with fail
  (with_reducible refine (C10.out).mono ?_)
  rintro e w11 ⟨rfl, hb11⟩
  have hs11 := hb11.size
  (try simp only [World.size_alloc, World.size_setCell, World.size_drew, size_drewN] at hs11)
  go_wp2_with fail
  (with_reducible refine (C5.out _ (by (repeat' (first | (with_reducible exact Kept.refl _ _) | (with_reducible assumption) | (with_reducible refine Kept.then_ (by with_reducible assumption) ?_) | (with_reducible refine Kept.thenS (by with_reducible assumption) ?_) | (with_reducible refine Kept.alloc ?_ _) | (with_reducible refine Kept.drew ?_) | (with_reducible refine Kept.drewN ?_ _) | (with_reducible refine Kept.setNew ?_ ?_ _) | ((try simp only [World.size_alloc, World.size_setCell, World.size_drew, size_drewN] at *); (try dsimp only); omega))))).mono ?_)
  rintro e w12 ⟨rfl, hb12⟩
  have hs12 := hb12.size
  (try simp only [World.size_alloc, World.size_setCell, World.size_drew, size_drewN] at hs12)
  go_wp2_with fail
  (with_reducible refine (CB.out _ (by (repeat' (first | (with_reducible exact Kept.refl _ _) | (with_reducible assumption) | (with_reducible refine Kept.then_ (by with_reducible assumption) ?_) | (with_reducible refine Kept.thenS (by with_reducible assumption) ?_) | (with_reducible refine Kept.alloc ?_ _) | (with_reducible refine Kept.drew ?_) | (with_reducible refine Kept.drewN ?_ _) | (with_reducible refine Kept.setNew ?_ ?_ _) | ((try simp only [World.size_alloc, World.size_setCell, World.size_drew, size_drewN] at *); (try dsimp only); omega))))).mono ?_)
  rintro e w13 ⟨rfl, hb13⟩
  have hs13 := hb13.size
  (try simp only [World.size_alloc, World.size_setCell, World.size_drew, size_drewN] at hs13)
  rcases HP.out with ⟨rfl, rfl, rfl, hp, hp1, hp2, hp3⟩ | ⟨rfl, rfl⟩ | ⟨rfl, rfl, rfl⟩ | ⟨rfl, rfl, rfl, hp, hp1, hp2, hp3, hp4⟩
  · go_wp2_with fail
    go_ret
    exact ⟨rfl, Kept.below (by (repeat' (first | (with_reducible exact Kept.refl _ _) | (with_reducible assumption) | (with_reducible refine Kept.then_ (by with_reducible assumption) ?_) | (with_reducible refine Kept.thenS (by with_reducible assumption) ?_) | (with_reducible refine Kept.alloc ?_ _) | (with_reducible refine Kept.drew ?_) | (with_reducible refine Kept.drewN ?_ _) | (with_reducible refine Kept.setNew ?_ ?_ _) | ((try simp only [World.size_alloc, World.size_setCell, World.size_drew, size_drewN] at *); (try dsimp only); omega))))⟩
  · go_wp2_with fail
    go_ret
    exact ⟨rfl, Kept.below (by (repeat' (first | (with_reducible exact Kept.refl _ _) | (with_reducible assumption) | (with_reducible refine Kept.then_ (by with_reducible assumption) ?_) | (with_reducible refine Kept.thenS (by with_reducible assumption) ?_) | (with_reducible refine Kept.alloc ?_ _) | (with_reducible refine Kept.drew ?_) | (with_reducible refine Kept.drewN ?_ _) | (with_reducible refine Kept.setNew ?_ ?_ _) | ((try simp only [World.size_alloc, World.size_setCell, World.size_drew, size_drewN] at *); (try dsimp only); omega))))⟩
  · go_wp2_with fail
    go_ret
    exact ⟨rfl, Kept.below (by (repeat' (first | (with_reducible exact Kept.refl _ _) | (with_reducible assumption) | (with_reducible refine Kept.then_ (by with_reducible assumption) ?_) | (with_reducible refine Kept.thenS (by with_reducible assumption) ?_) | (with_reducible refine Kept.alloc ?_ _) | (with_reducible refine Kept.drew ?_) | (with_reducible refine Kept.drewN ?_ _) | (with_reducible refine Kept.setNew ?_ ?_ _) | ((try simp only [World.size_alloc, World.size_setCell, World.size_drew, size_drewN] at *); (try dsimp only); omega))))⟩
  · go_wp2_with fail
    go_ret
    exact ⟨rfl, Kept.below (by (repeat' (first | (with_reducible exact Kept.refl _ _) | (with_reducible assumption) | (with_reducible refine Kept.then_ (by with_reducible assumption) ?_) | (with_reducible refine Kept.thenS (by with_reducible assumption) ?_) | (with_reducible refine Kept.alloc ?_ _) | (with_reducible refine Kept.drew ?_) | (with_reducible refine Kept.drewN ?_ _) | (with_reducible refine Kept.setNew ?_ ?_ _) | ((try simp only [World.size_alloc, World.size_setCell, World.size_drew, size_drewN] at *); (try dsimp only); omega))))⟩
set_option maxRecDepth 100000 in
set_option maxHeartbeats 4000000 in
theorem walkC (ad : Addr) (k : Nat) (ys : List Int) (a1 : Int) (W : World) (hl : ys.length = k) (hr : RowX .u64 W (some ad) ys) (hlc : k ≤ k) (hcm : k ≤ 9223372036854775807) (hz : U64s ys) (b1 : 0 ≤ a1 ∧ a1 ≤ 255) (hlen : (k : Int) ≤ 300) (hk : a1 % ((k : Int) + 1) = (k : Int)) (hkl : k ≤ k) :
    Calls Try.prog 8 #[.slice (some ad) k k, .int .u8 a1] W fun e w' => e = .returned (.bool true) ∧ Below W.heap.size W w' := by
  have HN1 : Hid (0 = (ys.drop k).length) := Lib.hid (by simp; (try omega))
  have HN2 : Hid (k = (ys.take k).length) := Lib.hid (by simp; (try omega))
  have HC1 : Hid ((some ad) = none → 0 = 0) := Lib.hid (fun h => by cases h)
  have HC2 : Hid ((some ad) = none → k = 0) := Lib.hid (fun h => by cases h)
  have HD : Hid (RowX .u64 W (some ad) (ys.drop k)) := Lib.hid (by first | exact RowX.nil _ _ _ | (rw [List.drop_eq_nil_of_le (by omega)]; exact RowX.nil _ _ _))
  have HT : Hid (RowX .u64 W (some ad) (ys.take k)) := Lib.hid (RowX.take hr k)
  have hzA : U64s (ys.take k) := fun x hx => hz x (List.mem_of_mem_take hx)
  have hzB : U64s (ys.drop k) := fun x hx => hz x (List.mem_of_mem_drop hx)
  obtain ⟨T, hT⟩ : ∃ T, ys.drop k ++ ys.take k = T := ⟨_, rfl⟩
  have HTT := Lib.hid hT
  have HTL : T.length = k := by rw [← hT, List.length_append, ← HN1.out, ← HN2.out]; (try omega)
  have HLL : Hid (T.length ≤ 300 ∧ ys.length ≤ 300) := Lib.hid (by omega)
  have hzT : U64s T := fun x hx => by
    rw [← hT] at hx
    rcases List.mem_append.1 hx with h | h
    · exact hzB x h
    · exact hzA x h
  have hz0 : U64s (T ++ [0, 0]) := fun x hx => by
    rcases List.mem_append.1 hx with h | h
    · exact hzT x h
    · simp at h; omega
  have hz1 : U64s (T ++ [1, 1]) := fun x hx => by
    rcases List.mem_append.1 hx with h | h
    · exact hzT x h
    · simp at h; omega
  have k1 := sum_turn ys k
  have k2 := mul_turn ys k
  rw [hT] at k1 k2
  have C1 := Lib.hid (fun w (hk : Kept [] W w) => sum_at (some ad) k k ys _ _ hl.symm hz rfl rfl (by omega) w (hr.keep hk))
  have C2 := Lib.hid (fun (A : Option Addr) (c n : Nat) (w : World) (hn : n = (T ++ [0, 0]).length) (hr : RowX .u64 w A (T ++ [0, 0])) => sum_at A c n (T ++ [0, 0]) _ _ hn hz0 k1.1 k1.2 (by simp; omega) w hr)
  have C3 := Lib.hid (fun w (hk : Kept [] W w) => mul_at (some ad) k k ys _ _ hl.symm hz rfl rfl (by omega) w (hr.keep hk))
  have C4 := Lib.hid (fun (A : Option Addr) (c n : Nat) (w : World) (hn : n = (T ++ [1, 1]).length) (hr : RowX .u64 w A (T ++ [1, 1])) => mul_at A c n (T ++ [1, 1]) _ _ hn hz1 k2.1 k2.2 (by simp; omega) w hr)
  have C5 := Lib.hid (fun w (hk : Kept [] W w) => sum_at (some ad) k k (ys.take k) _ _ HN2.out hzA rfl rfl (by rw [← HN2.out]; omega) w (HT.out.keep hk))
  have CB := Lib.hid (fun w (hk : Kept [] W w) => sum_at (some ad) 0 0 (ys.drop k) _ _ HN1.out hzB rfl rfl (by rw [← HN1.out]; omega) w (HD.out.keep hk))
  have HP := Lib.hid (sum_parts ys hz k)
  have q1 : (0 : Int) ≤ (k : Int) := by omega
  have q2 : (k : Int) ≤ (k : Int) := by omega
  have q3 : (k : Int) ≤ (k : Int) := by omega
  clear hr hl k1 k2 hz hzA hzB hzT hz0 hz1 hT HTL
  generalize sumV ys = SV at *
  generalize sumE ys = SE at *
  generalize mulV ys = MV at *
  generalize mulE ys = ME at *
  generalize sumV (ys.take k) = PV at *
  generalize sumE (ys.take k) = PE at *
  generalize sumV (ys.drop k) = QV at *
  generalize sumE (ys.drop k) = QE at *
  go_enter Try.func8, Try.ntmps8
  go_wp2_with fail
  (with_reducible refine (alive_any _).mono ?_)
  rintro e w1 ⟨rfl, hb1⟩
  have hs1 := hb1.size
  (try simp only [World.size_alloc, World.size_setCell, World.size_drew, size_drewN] at hs1)
  go_wp2_with fail
  go_region_held3 (fun _ => True) (trivial) (first | (refine step_app .u64 22 24 8 Try.underlying22 info_u64 (by omega) (by rfl) (.tmp 30) (.tmp 33) (by rfl) W W.heap.size _ [] (ys.drop k) (by rfl) (OwnI.drew (OwnI.made _ (by omega))) _ _ _ (by rfl) HN1.out (fun h => by cases h) (HD.out.keep (by (repeat' (first | (with_reducible exact Kept.refl _ _) | (with_reducible assumption) | (with_reducible refine Kept.then_ (by with_reducible assumption) ?_) | (with_reducible refine Kept.thenS (by with_reducible assumption) ?_) | (with_reducible refine Kept.alloc ?_ _) | (with_reducible refine Kept.drew ?_) | (with_reducible refine Kept.drewN ?_ _) | (with_reducible refine Kept.setNew ?_ ?_ _) | ((try simp only [World.size_alloc, World.size_setCell, World.size_drew, size_drewN] at *); (try dsimp only); omega))))) (by (repeat' (first | (with_reducible exact Kept.refl _ _) | (with_reducible assumption) | (with_reducible refine Kept.then_ (by with_reducible assumption) ?_) | (with_reducible refine Kept.thenS (by with_reducible assumption) ?_) | (with_reducible refine Kept.alloc ?_ _) | (with_reducible refine Kept.drew ?_) | (with_reducible refine Kept.drewN ?_ _) | (with_reducible refine Kept.setNew ?_ ?_ _) | ((try simp only [World.size_alloc, World.size_setCell, World.size_drew, size_drewN] at *); (try dsimp only); omega)))) (Nat.le_refl _) (by simp only [World.size_alloc, World.size_drew]; omega) (by have := HN1.out; simp only [List.length_nil]; omega) ?_; intro A3 n3 c3 w3 hn3 own3 ownx hk3 hs3 hc3 hr3) | (refine step_app .u64 22 24 8 Try.underlying22 info_u64 (by omega) (by rfl) (.tmp 34) (.tmp 37) (by rfl) W W.heap.size _ ([] ++ ys.drop k) (ys.take k) (by rfl) own3 _ _ _ (by rfl) HN2.out (fun h => by cases h) (HT.out.keep (by (repeat' (first | (with_reducible exact Kept.refl _ _) | (with_reducible assumption) | (with_reducible refine Kept.then_ (by with_reducible assumption) ?_) | (with_reducible refine Kept.thenS (by with_reducible assumption) ?_) | (with_reducible refine Kept.alloc ?_ _) | (with_reducible refine Kept.drew ?_) | (with_reducible refine Kept.drewN ?_ _) | (with_reducible refine Kept.setNew ?_ ?_ _) | ((try simp only [World.size_alloc, World.size_setCell, World.size_drew, size_drewN] at *); (try dsimp only); omega))))) (by (repeat' (first | (with_reducible exact Kept.refl _ _) | (with_reducible assumption) | (with_reducible refine Kept.then_ (by with_reducible assumption) ?_) | (with_reducible refine Kept.thenS (by with_reducible assumption) ?_) | (with_reducible refine Kept.alloc ?_ _) | (with_reducible refine Kept.drew ?_) | (with_reducible refine Kept.drewN ?_ _) | (with_reducible refine Kept.setNew ?_ ?_ _) | ((try simp only [World.size_alloc, World.size_setCell, World.size_drew, size_drewN] at *); (try dsimp only); omega)))) (Nat.le_refl _) (by have := hk3.size; omega) (by have := HN1.out; have := HN2.out; simp only [List.nil_append]; omega) ?_; intro A4 n4 c4 w4 hn4 own4 owny hk4 hs4 hc4 hr4))
  have HN4 : Hid (n4 = T.length) := Lib.hid (by have := hn4.out; rw [List.nil_append, HTT.out] at this; exact this)
  have O4 : Hid (OwnI W.heap.size .u64 24 w4 (.slice A4 n4 c4) T) := Lib.hid (by have := own4; rw [List.nil_append, HTT.out] at this; exact this)
  have R4 : Hid (RowX .u64 w4 A4 T) := Lib.hid (by have := hr4; rw [List.nil_append, HTT.out] at this; exact this)
  have hs4' := hk4.size
  clear own4 hr4 hn4 own3 ownx owny hr3 hn3 hs3 hs4 hk3
  go_wp2_with fail
  (with_reducible refine (C1.out _ (by (repeat' (first | (with_reducible exact Kept.refl _ _) | (with_reducible assumption) | (with_reducible refine Kept.then_ (by with_reducible assumption) ?_) | (with_reducible refine Kept.thenS (by with_reducible assumption) ?_) | (with_reducible refine Kept.alloc ?_ _) | (with_reducible refine Kept.drew ?_) | (with_reducible refine Kept.drewN ?_ _) | (with_reducible refine Kept.setNew ?_ ?_ _) | ((try simp only [World.size_alloc, World.size_setCell, World.size_drew, size_drewN] at *); (try dsimp only); omega))))).mono ?_)
  rintro e w5 ⟨rfl, hb5⟩
  have hs5 := hb5.size
  (try simp only [World.size_alloc, World.size_setCell, World.size_drew, size_drewN] at hs5)
  go_wp2_with (refine app_gen .u64 22 24 8 Try.underlying22 info_u64 (by omega) rfl (.tmp 45) (.tmp 46) rfl W W.heap.size _ T [0, 0] rfl (O4.out.kept (by (repeat' (first | (with_reducible exact Kept.refl _ _) | (with_reducible assumption) | (with_reducible refine Kept.then_ (by with_reducible assumption) ?_) | (with_reducible refine Kept.thenS (by with_reducible assumption) ?_) | (with_reducible refine Kept.alloc ?_ _) | (with_reducible refine Kept.drew ?_) | (with_reducible refine Kept.drewN ?_ _) | (with_reducible refine Kept.setNew ?_ ?_ _) | ((try simp only [World.size_alloc, World.size_setCell, World.size_drew, size_drewN] at *); (try dsimp only); omega))))) _ _ _ rfl rfl (fun h => by cases h) (two_row (Blk.new _ _ _)) (by (repeat' (first | (with_reducible exact Kept.refl _ _) | (with_reducible assumption) | (with_reducible refine Kept.then_ (by with_reducible assumption) ?_) | (with_reducible refine Kept.thenS (by with_reducible assumption) ?_) | (with_reducible refine Kept.alloc ?_ _) | (with_reducible refine Kept.drew ?_) | (with_reducible refine Kept.drewN ?_ _) | (with_reducible refine Kept.setNew ?_ ?_ _) | ((try simp only [World.size_alloc, World.size_setCell, World.size_drew, size_drewN] at *); (try dsimp only); omega)))) (Nat.le_refl _) (by simp only [World.size_alloc]; omega) (by (have := HLL.out); (simp only [List.length_nil, List.length_cons]); omega) ?_)
  intro A6 n6 c6 w6 hn6 own6 owo6 hk6 hg6 hs6 hc6 hr6
  clear hg6
  have R6 := Lib.hid (OwnI.row owo6)
  have C6 := Lib.hid (C2.out A6 c6 n6 w6 (by have := hn6.out; simp at this ⊢; omega) hr6)
  clear own6 owo6 hr6 hn6
  go_wp2_with fail
  (with_reducible refine (C6.out).mono ?_)
  rintro e w7 ⟨rfl, hb7⟩
  have hs7 := hb7.size
  (try simp only [World.size_alloc, World.size_setCell, World.size_drew, size_drewN] at hs7)
  go_wp2_with fail
  (with_reducible refine (C3.out _ (by (repeat' (first | (with_reducible exact Kept.refl _ _) | (with_reducible assumption) | (with_reducible refine Kept.then_ (by with_reducible assumption) ?_) | (with_reducible refine Kept.thenS (by with_reducible assumption) ?_) | (with_reducible refine Kept.alloc ?_ _) | (with_reducible refine Kept.drew ?_) | (with_reducible refine Kept.drewN ?_ _) | (with_reducible refine Kept.setNew ?_ ?_ _) | ((try simp only [World.size_alloc, World.size_setCell, World.size_drew, size_drewN] at *); (try dsimp only); omega))))).mono ?_)
  rintro e w8 ⟨rfl, hb8⟩
  have hs8 := hb8.size
  (try simp only [World.size_alloc, World.size_setCell, World.size_drew, size_drewN] at hs8)
  go_wp2_with (refine app_gen .u64 22 24 8 Try.underlying22 info_u64 (by omega) rfl (.tmp 57) (.tmp 58) rfl W W.heap.size _ [] T rfl (OwnI.made _ (by omega)) A4 n4 c4 HN4.out rfl hc4 (R6.out.keep (by (repeat' (first | (with_reducible exact Kept.refl _ _) | (with_reducible assumption) | (with_reducible refine Kept.then_ (by with_reducible assumption) ?_) | (with_reducible refine Kept.thenS (by with_reducible assumption) ?_) | (with_reducible refine Kept.alloc ?_ _) | (with_reducible refine Kept.drew ?_) | (with_reducible refine Kept.drewN ?_ _) | (with_reducible refine Kept.setNew ?_ ?_ _) | ((try simp only [World.size_alloc, World.size_setCell, World.size_drew, size_drewN] at *); (try dsimp only); omega))))) (by (repeat' (first | (with_reducible exact Kept.refl _ _) | (with_reducible assumption) | (with_reducible refine Kept.then_ (by with_reducible assumption) ?_) | (with_reducible refine Kept.thenS (by with_reducible assumption) ?_) | (with_reducible refine Kept.alloc ?_ _) | (with_reducible refine Kept.drew ?_) | (with_reducible refine Kept.drewN ?_ _) | (with_reducible refine Kept.setNew ?_ ?_ _) | ((try simp only [World.size_alloc, World.size_setCell, World.size_drew, size_drewN] at *); (try dsimp only); omega)))) (Nat.le_refl _) (by simp only [World.size_alloc]; omega) (by (have := HLL.out); (simp only [List.length_nil, List.length_cons]); omega) ?_)
  intro A9 n9 c9 w9 hn9 own9 owo9 hk9 hg9 hs9 hc9 hr9
  clear hg9
  try simp only [List.nil_append] at own9
  go_wp2_with (refine app_gen .u64 22 24 8 Try.underlying22 info_u64 (by omega) rfl (.tmp 59) (.tmp 60) rfl W W.heap.size _ T [1, 1] rfl (own9.kept (by (repeat' (first | (with_reducible exact Kept.refl _ _) | (with_reducible assumption) | (with_reducible refine Kept.then_ (by with_reducible assumption) ?_) | (with_reducible refine Kept.thenS (by with_reducible assumption) ?_) | (with_reducible refine Kept.alloc ?_ _) | (with_reducible refine Kept.drew ?_) | (with_reducible refine Kept.drewN ?_ _) | (with_reducible refine Kept.setNew ?_ ?_ _) | ((try simp only [World.size_alloc, World.size_setCell, World.size_drew, size_drewN] at *); (try dsimp only); omega))))) _ _ _ rfl rfl (fun h => by cases h) (two_row (Blk.new _ _ _)) (by (repeat' (first | (with_reducible exact Kept.refl _ _) | (with_reducible assumption) | (with_reducible refine Kept.then_ (by with_reducible assumption) ?_) | (with_reducible refine Kept.thenS (by with_reducible assumption) ?_) | (with_reducible refine Kept.alloc ?_ _) | (with_reducible refine Kept.drew ?_) | (with_reducible refine Kept.drewN ?_ _) | (with_reducible refine Kept.setNew ?_ ?_ _) | ((try simp only [World.size_alloc, World.size_setCell, World.size_drew, size_drewN] at *); (try dsimp only); omega)))) (Nat.le_refl _) (by simp only [World.size_alloc]; omega) (by (have := HLL.out); (simp only [List.length_nil, List.length_cons]); omega) ?_)
  intro A10 n10 c10 w10 hn10 own10 owo10 hk10 hg10 hs10 hc10 hr10
  clear hg10
  have C10 := Lib.hid (C4.out A10 c10 n10 w10 (by have := hn10.out; simp at this ⊢; omega) hr10)
  clear own9 owo9 hr9 hn9 own10 owo10 hr10 hn10
  go_wp2_with fail
  (with_reducible refine (C10.out).mono ?_)
  rintro e w11 ⟨rfl, hb11⟩
  have hs11 := hb11.size
  (try simp only [World.size_alloc, World.size_setCell, World.size_drew, size_drewN] at hs11)
  go_wp2_with fail
  (with_reducible refine (C5.out _ (by (repeat' (first | (with_reducible exact Kept.refl _ _) | (with_reducible assumption) | (with_reducible refine Kept.then_ (by with_reducible assumption) ?_) | (with_reducible refine Kept.thenS (by with_reducible assumption) ?_) | (with_reducible refine Kept.alloc ?_ _) | (with_reducible refine Kept.drew ?_) | (with_reducible refine Kept.drewN ?_ _) | (with_reducible refine Kept.setNew ?_ ?_ _) | ((try simp only [World.size_alloc, World.size_setCell, World.size_drew, size_drewN] at *); (try dsimp only); omega))))).mono ?_)
  rintro e w12 ⟨rfl, hb12⟩
  have hs12 := hb12.size
  (try simp only [World.size_alloc, World.size_setCell, World.size_drew, size_drewN] at hs12)
  go_wp2_with fail
  (with_reducible refine (CB.out _ (by (repeat' (first | (with_reducible exact Kept.refl _ _) | (with_reducible assumption) | (with_reducible refine Kept.then_ (by with_reducible assumption) ?_) | (with_reducible refine Kept.thenS (by with_reducible assumption) ?_) | (with_reducible refine Kept.alloc ?_ _) | (with_reducible refine Kept.drew ?_) | (with_reducible refine Kept.drewN ?_ _) | (with_reducible refine Kept.setNew ?_ ?_ _) | ((try simp only [World.size_alloc, World.size_setCell, World.size_drew, size_drewN] at *); (try dsimp only); omega))))).mono ?_)
  rintro e w13 ⟨rfl, hb13⟩
  have hs13 := hb13.size
  (try simp only [World.size_alloc, World.size_setCell, World.size_drew, size_drewN] at hs13)
  rcases HP.out with ⟨rfl, rfl, rfl, hp, hp1, hp2, hp3⟩ | ⟨rfl, rfl⟩ | ⟨rfl, rfl, rfl⟩ | ⟨rfl, rfl, rfl, hp, hp1, hp2, hp3, hp4⟩
  · go_wp2_with fail
    go_ret
    exact ⟨rfl, Kept.below (by (repeat' (first | (with_reducible exact Kept.refl _ _) | (with_reducible assumption) | (with_reducible refine Kept.then_ (by with_reducible assumption) ?_) | (with_reducible refine Kept.thenS (by with_reducible assumption) ?_) | (with_reducible refine Kept.alloc ?_ _) | (with_reducible refine Kept.drew ?_) | (with_reducible refine Kept.drewN ?_ _) | (with_reducible refine Kept.setNew ?_ ?_ _) | ((try simp only [World.size_alloc, World.size_setCell, World.size_drew, size_drewN] at *); (try dsimp only); omega))))⟩
  · go_wp2_with fail
    go_ret
    exact ⟨rfl, Kept.below (by (repeat' (first | (with_reducible exact Kept.refl _ _) | (with_reducible assumption) | (with_reducible refine Kept.then_ (by with_reducible assumption) ?_) | (with_reducible refine Kept.thenS (by with_reducible assumption) ?_) | (with_reducible refine Kept.alloc ?_ _) | (with_reducible refine Kept.drew ?_) | (with_reducible refine Kept.drewN ?_ _) | (with_reducible refine Kept.setNew ?_ ?_ _) | ((try simp only [World.size_alloc, World.size_setCell, World.size_drew, size_drewN] at *); (try dsimp only); omega))))⟩
  · go_wp2_with fail
    go_ret
    exact ⟨rfl, Kept.below (by (repeat' (first | (with_reducible exact Kept.refl _ _) | (with_reducible assumption) | (with_reducible refine Kept.then_ (by with_reducible assumption) ?_) | (with_reducible refine Kept.thenS (by with_reducible assumption) ?_) | (with_reducible refine Kept.alloc ?_ _) | (with_reducible refine Kept.drew ?_) | (with_reducible refine Kept.drewN ?_ _) | (with_reducible refine Kept.setNew ?_ ?_ _) | ((try simp only [World.size_alloc, World.size_setCell, World.size_drew, size_drewN] at *); (try dsimp only); omega))))⟩
  · go_wp2_with fail
    go_ret
    exact ⟨rfl, Kept.below (by (repeat' (first | (with_reducible exact Kept.refl _ _) | (with_reducible assumption) | (with_reducible refine Kept.then_ (by with_reducible assumption) ?_) | (with_reducible refine Kept.thenS (by with_reducible assumption) ?_) | (with_reducible refine Kept.alloc ?_ _) | (with_reducible refine Kept.drew ?_) | (with_reducible refine Kept.drewN ?_ _) | (with_reducible refine Kept.setNew ?_ ?_ _) | ((try simp only [World.size_alloc, World.size_setCell, World.size_drew, size_drewN] at *); (try dsimp only); omega))))⟩
set_option maxRecDepth 100000 in
set_option maxHeartbeats 4000000 in
theorem walkA (ys : List Int) (a1 : Int) (W : World) (hl : ys.length = 0) (hr : RowX .u64 W none ys) (hz : U64s ys) (b1 : 0 ≤ a1 ∧ a1 ≤ 255) :
    Calls Try.prog 8 #[.slice none 0 0, .int .u8 a1] W fun e w' => e = .returned (.bool true) ∧ Below W.heap.size W w' := by
  have HN1 : Hid (0 = (ys.drop 0).length) := Lib.hid (by simp; (try omega))
  have HN2 : Hid (0 = (ys.take 0).length) := Lib.hid (by simp; (try omega))
  have HD : Hid (RowX .u64 W none (ys.drop 0)) := Lib.hid (by first | exact RowX.nil _ _ _ | (rw [List.drop_eq_nil_of_le (by omega)]; exact RowX.nil _ _ _))
  have HT : Hid (RowX .u64 W none (ys.take 0)) := Lib.hid (RowX.take hr 0)
  have hzA : U64s (ys.take 0) := fun x hx => hz x (List.mem_of_mem_take hx)
  have hzB : U64s (ys.drop 0) := fun x hx => hz x (List.mem_of_mem_drop hx)
  obtain ⟨T, hT⟩ : ∃ T, ys.drop 0 ++ ys.take 0 = T := ⟨_, rfl⟩
  have HTT := Lib.hid hT
  have HTL : T.length = 0 := by rw [← hT, List.length_append, ← HN1.out, ← HN2.out]; (try omega)
  have HLL : Hid (T.length ≤ 300 ∧ ys.length ≤ 300) := Lib.hid (by omega)
  have hzT : U64s T := fun x hx => by
    rw [← hT] at hx
    rcases List.mem_append.1 hx with h | h
    · exact hzB x h
    · exact hzA x h
  have hz0 : U64s (T ++ [0, 0]) := fun x hx => by
    rcases List.mem_append.1 hx with h | h
    · exact hzT x h
    · simp at h; omega
  have hz1 : U64s (T ++ [1, 1]) := fun x hx => by
    rcases List.mem_append.1 hx with h | h
    · exact hzT x h
    · simp at h; omega
  have k1 := sum_turn ys 0
  have k2 := mul_turn ys 0
  rw [hT] at k1 k2
  have C1 := Lib.hid (fun w (hk : Kept [] W w) => sum_at none 0 0 ys _ _ hl.symm hz rfl rfl (by omega) w (hr.keep hk))
  have C2 := Lib.hid (fun (A : Option Addr) (c n : Nat) (w : World) (hn : n = (T ++ [0, 0]).length) (hr : RowX .u64 w A (T ++ [0, 0])) => sum_at A c n (T ++ [0, 0]) _ _ hn hz0 k1.1 k1.2 (by simp; omega) w hr)
  have C3 := Lib.hid (fun w (hk : Kept [] W w) => mul_at none 0 0 ys _ _ hl.symm hz rfl rfl (by omega) w (hr.keep hk))
  have C4 := Lib.hid (fun (A : Option Addr) (c n : Nat) (w : World) (hn : n = (T ++ [1, 1]).length) (hr : RowX .u64 w A (T ++ [1, 1])) => mul_at A c n (T ++ [1, 1]) _ _ hn hz1 k2.1 k2.2 (by simp; omega) w hr)
  have C5 := Lib.hid (fun w (hk : Kept [] W w) => sum_at none 0 0 (ys.take 0) _ _ HN2.out hzA rfl rfl (by rw [← HN2.out]; omega) w (HT.out.keep hk))
  have CB := Lib.hid (fun w (hk : Kept [] W w) => sum_at none 0 0 (ys.drop 0) _ _ HN1.out hzB rfl rfl (by rw [← HN1.out]; omega) w (HD.out.keep hk))
  have HP := Lib.hid (sum_parts ys hz 0)
  clear hr hl k1 k2 hz hzA hzB hzT hz0 hz1 hT HTL
  generalize sumV ys = SV at *
  generalize sumE ys = SE at *
  generalize mulV ys = MV at *
  generalize mulE ys = ME at *
  generalize sumV (ys.take 0) = PV at *
  generalize sumE (ys.take 0) = PE at *
  generalize sumV (ys.drop 0) = QV at *
  generalize sumE (ys.drop 0) = QE at *
  go_enter Try.func8, Try.ntmps8
  go_wp2_with fail
  (with_reducible refine (alive_any _).mono ?_)
  rintro e w1 ⟨rfl, hb1⟩
  have hs1 := hb1.size
  (try simp only [World.size_alloc, World.size_setCell, World.size_drew, size_drewN] at hs1)
  go_wp2_with fail
  go_region_held3 (fun _ => True) (trivial) (first | (refine step_app .u64 22 24 8 Try.underlying22 info_u64 (by omega) (by rfl) (.tmp 30) (.tmp 33) (by rfl) W W.heap.size _ [] (ys.drop 0) (by rfl) (OwnI.drew (OwnI.made _ (by omega))) _ _ _ (by rfl) HN1.out (fun _ => rfl) (HD.out.keep (by (repeat' (first | (with_reducible exact Kept.refl _ _) | (with_reducible assumption) | (with_reducible refine Kept.then_ (by with_reducible assumption) ?_) | (with_reducible refine Kept.thenS (by with_reducible assumption) ?_) | (with_reducible refine Kept.alloc ?_ _) | (with_reducible refine Kept.drew ?_) | (with_reducible refine Kept.drewN ?_ _) | (with_reducible refine Kept.setNew ?_ ?_ _) | ((try simp only [World.size_alloc, World.size_setCell, World.size_drew, size_drewN] at *); (try dsimp only); omega))))) (by (repeat' (first | (with_reducible exact Kept.refl _ _) | (with_reducible assumption) | (with_reducible refine Kept.then_ (by with_reducible assumption) ?_) | (with_reducible refine Kept.thenS (by with_reducible assumption) ?_) | (with_reducible refine Kept.alloc ?_ _) | (with_reducible refine Kept.drew ?_) | (with_reducible refine Kept.drewN ?_ _) | (with_reducible refine Kept.setNew ?_ ?_ _) | ((try simp only [World.size_alloc, World.size_setCell, World.size_drew, size_drewN] at *); (try dsimp only); omega)))) (Nat.le_refl _) (by simp only [World.size_alloc, World.size_drew]; omega) (by have := HN1.out; simp only [List.length_nil]; omega) ?_; intro A3 n3 c3 w3 hn3 own3 ownx hk3 hs3 hc3 hr3) | (refine step_app .u64 22 24 8 Try.underlying22 info_u64 (by omega) (by rfl) (.tmp 34) (.tmp 37) (by rfl) W W.heap.size _ ([] ++ ys.drop 0) (ys.take 0) (by rfl) own3 _ _ _ (by rfl) HN2.out (fun _ => rfl) (HT.out.keep (by (repeat' (first | (with_reducible exact Kept.refl _ _) | (with_reducible assumption) | (with_reducible refine Kept.then_ (by with_reducible assumption) ?_) | (with_reducible refine Kept.thenS (by with_reducible assumption) ?_) | (with_reducible refine Kept.alloc ?_ _) | (with_reducible refine Kept.drew ?_) | (with_reducible refine Kept.drewN ?_ _) | (with_reducible refine Kept.setNew ?_ ?_ _) | ((try simp only [World.size_alloc, World.size_setCell, World.size_drew, size_drewN] at *); (try dsimp only); omega))))) (by (repeat' (first | (with_reducible exact Kept.refl _ _) | (with_reducible assumption) | (with_reducible refine Kept.then_ (by with_reducible assumption) ?_) | (with_reducible refine Kept.thenS (by with_reducible assumption) ?_) | (with_reducible refine Kept.alloc ?_ _) | (with_reducible refine Kept.drew ?_) | (with_reducible refine Kept.drewN ?_ _) | (with_reducible refine Kept.setNew ?_ ?_ _) | ((try simp only [World.size_alloc, World.size_setCell, World.size_drew, size_drewN] at *); (try dsimp only); omega)))) (Nat.le_refl _) (by have := hk3.size; omega) (by have := HN1.out; have := HN2.out; simp only [List.nil_append]; omega) ?_; intro A4 n4 c4 w4 hn4 own4 owny hk4 hs4 hc4 hr4))
  have HN4 : Hid (n4 = T.length) := Lib.hid (by have := hn4.out; rw [List.nil_append, HTT.out] at this; exact this)
  have O4 : Hid (OwnI W.heap.size .u64 24 w4 (.slice A4 n4 c4) T) := Lib.hid (by have := own4; rw [List.nil_append, HTT.out] at this; exact this)
  have R4 : Hid (RowX .u64 w4 A4 T) := Lib.hid (by have := hr4; rw [List.nil_append, HTT.out] at this; exact this)
  have hs4' := hk4.size
  clear own4 hr4 hn4 own3 ownx owny hr3 hn3 hs3 hs4 hk3
  go_wp2_with fail
  (with_reducible refine (C1.out _ (by (repeat' (first | (with_reducible exact Kept.refl _ _) | (with_reducible assumption) | (with_reducible refine Kept.then_ (by with_reducible assumption) ?_) | (with_reducible refine Kept.thenS (by with_reducible assumption) ?_) | (with_reducible refine Kept.alloc ?_ _) | (with_reducible refine Kept.drew ?_) | (with_reducible refine Kept.drewN ?_ _) | (with_reducible refine Kept.setNew ?_ ?_ _) | ((try simp only [World.size_alloc, World.size_setCell, World.size_drew, size_drewN] at *); (try dsimp only); omega))))).mono ?_)
  rintro e w5 ⟨rfl, hb5⟩
  have hs5 := hb5.size
  (try simp only [World.size_alloc, World.size_setCell, World.size_drew, size_drewN] at hs5)
  go_wp2_with (refine app_gen .u64 22 24 8 Try.underlying22 info_u64 (by omega) rfl (.tmp 45) (.tmp 46) rfl W W.heap.size _ T [0, 0] rfl (O4.out.kept (by (repeat' (first | (with_reducible exact Kept.refl _ _) | (with_reducible assumption) | (with_reducible refine Kept.then_ (by with_reducible assumption) ?_) | (with_reducible refine Kept.thenS (by with_reducible assumption) ?_) | (with_reducible refine Kept.alloc ?_ _) | (with_reducible refine Kept.drew ?_) | (with_reducible refine Kept.drewN ?_ _) | (with_reducible refine Kept.setNew ?_ ?_ _) | ((try simp only [World.size_alloc, World.size_setCell, World.size_drew, size_drewN] at *); (try dsimp only); omega))))) _ _ _ rfl rfl (fun h => by cases h) (two_row (Blk.new _ _ _)) (by (repeat' (first | (with_reducible exact Kept.refl _ _) | (with_reducible assumption) | (with_reducible refine Kept.then_ (by with_reducible assumption) ?_) | (with_reducible refine Kept.thenS (by with_reducible assumption) ?_) | (with_reducible refine Kept.alloc ?_ _) | (with_reducible refine Kept.drew ?_) | (with_reducible refine Kept.drewN ?_ _) | (with_reducible refine Kept.setNew ?_ ?_ _) | ((try simp only [World.size_alloc, World.size_setCell, World.size_drew, size_drewN] at *); (try dsimp only); omega)))) (Nat.le_refl _) (by simp only [World.size_alloc]; omega) (by (have := HLL.out); (simp only [List.length_nil, List.length_cons]); omega) ?_)
  intro A6 n6 c6 w6 hn6 own6 owo6 hk6 hg6 hs6 hc6 hr6
  clear hg6
  have R6 := Lib.hid (OwnI.row owo6)
  have C6 := Lib.hid (C2.out A6 c6 n6 w6 (by have := hn6.out; simp at this ⊢; omega) hr6)
  clear own6 owo6 hr6 hn6
  go_wp2_with fail
  (with_reducible refine (C6.out).mono ?_)
  rintro e w7 ⟨rfl, hb7⟩
  have hs7 := hb7.size
  (try simp only [World.size_alloc, World.size_setCell, World.size_drew, size_drewN] at hs7)
  go_wp2_with fail
  (with_reducible refine (C3.out _ (by (repeat' (first | (with_reducible exact Kept.refl _ _) | (with_reducible assumption) | (with_reducible refine Kept.then_ (by with_reducible assumption) ?_) | (with_reducible refine Kept.thenS (by with_reducible assumption) ?_) | (with_reducible refine Kept.alloc ?_ _) | (with_reducible refine Kept.drew ?_) | (with_reducible refine Kept.drewN ?_ _) | (with_reducible refine Kept.setNew ?_ ?_ _) | ((try simp only [World.size_alloc, World.size_setCell, World.size_drew, size_drewN] at *); (try dsimp only); omega))))).mono ?_)
  rintro e w8 ⟨rfl, hb8⟩
  have hs8 := hb8.size
  (try simp only [World.size_alloc, World.size_setCell, World.size_drew, size_drewN] at hs8)
  go_wp2_with (refine app_gen .u64 22 24 8 Try.underlying22 info_u64 (by omega) rfl (.tmp 57) (.tmp 58) rfl W W.heap.size _ [] T rfl (OwnI.made _ (by omega)) A4 n4 c4 HN4.out rfl hc4 (R6.out.keep (by (repeat' (first | (with_reducible exact Kept.refl _ _) | (with_reducible assumption) | (with_reducible refine Kept.then_ (by with_reducible assumption) ?_) | (with_reducible refine Kept.thenS (by with_reducible assumption) ?_) | (with_reducible refine Kept.alloc ?_ _) | (with_reducible refine Kept.drew ?_) | (with_reducible refine Kept.drewN ?_ _) | (with_reducible refine Kept.setNew ?_ ?_ _) | ((try simp only [World.size_alloc, World.size_setCell, World.size_drew, size_drewN] at *); (try dsimp only); omega))))) (by (repeat' (first | (with_reducible exact Kept.refl _ _) | (with_reducible assumption) | (with_reducible refine Kept.then_ (by with_reducible assumption) ?_) | (with_reducible refine Kept.thenS (by with_reducible assumption) ?_) | (with_reducible refine Kept.alloc ?_ _) | (with_reducible refine Kept.drew ?_) | (with_reducible refine Kept.drewN ?_ _) | (with_reducible refine Kept.setNew ?_ ?_ _) | ((try simp only [World.size_alloc, World.size_setCell, World.size_drew, size_drewN] at *); (try dsimp only); omega)))) (Nat.le_refl _) (by simp only [World.size_alloc]; omega) (by (have := HLL.out); (simp only [List.length_nil, List.length_cons]); omega) ?_)
  intro A9 n9 c9 w9 hn9 own9 owo9 hk9 hg9 hs9 hc9 hr9
  clear hg9
  try simp only [List.nil_append] at own9
  go_wp2_with (refine app_gen .u64 22 24 8 Try.underlying22 info_u64 (by omega) rfl (.tmp 59) (.tmp 60) rfl W W.heap.size _ T [1, 1] rfl (own9.kept (by (repeat' (first | (with_reducible exact Kept.refl _ _) | (with_reducible assumption) | (with_reducible refine Kept.then_ (by with_reducible assumption) ?_) | (with_reducible refine Kept.thenS (by with_reducible assumption) ?_) | (with_reducible refine Kept.alloc ?_ _) | (with_reducible refine Kept.drew ?_) | (with_reducible refine Kept.drewN ?_ _) | (with_reducible refine Kept.setNew ?_ ?_ _) | ((try simp only [World.size_alloc, World.size_setCell, World.size_drew, size_drewN] at *); (try dsimp only); omega))))) _ _ _ rfl rfl (fun h => by cases h) (two_row (Blk.new _ _ _)) (by (repeat' (first | (with_reducible exact Kept.refl _ _) | (with_reducible assumption) | (with_reducible refine Kept.then_ (by with_reducible assumption) ?_) | (with_reducible refine Kept.thenS (by with_reducible assumption) ?_) | (with_reducible refine Kept.alloc ?_ _) | (with_reducible refine Kept.drew ?_) | (with_reducible refine Kept.drewN ?_ _) | (with_reducible refine Kept.setNew ?_ ?_ _) | ((try simp only [World.size_alloc, World.size_setCell, World.size_drew, size_drewN] at *); (try dsimp only); omega)))) (Nat.le_refl _) (by simp only [World.size_alloc]; omega) (by (have := HLL.out); (simp only [List.length_nil, List.length_cons]); omega) ?_)
  intro A10 n10 c10 w10 hn10 own10 owo10 hk10 hg10 hs10 hc10 hr10
  clear hg10
  have C10 := Lib.hid (C4.out A10 c10 n10 w10 (by have := hn10.out; simp at this ⊢; omega) hr10)
  clear own9 owo9 hr9 hn9 own10 owo10 hr10 hn10
  go_wp2_with fail
  (with_reducible refine (C10.out).mono ?_)
  rintro e w11 ⟨rfl, hb11⟩
  have hs11 := hb11.size
  (try simp only [World.size_alloc, World.size_setCell, World.size_drew, size_drewN] at hs11)
  go_wp2_with fail
  (with_reducible refine (C5.out _ (by (repeat' (first | (with_reducible exact Kept.refl _ _) | (with_reducible assumption) | (with_reducible refine Kept.then_ (by with_reducible assumption) ?_) | (with_reducible refine Kept.thenS (by with_reducible assumption) ?_) | (with_reducible refine Kept.alloc ?_ _) | (with_reducible refine Kept.drew ?_) | (with_reducible refine Kept.drewN ?_ _) | (with_reducible refine Kept.setNew ?_ ?_ _) | ((try simp only [World.size_alloc, World.size_setCell, World.size_drew, size_drewN] at *); (try dsimp only); omega))))).mono ?_)
  rintro e w12 ⟨rfl, hb12⟩
  have hs12 := hb12.size
  (try simp only [World.size_alloc, World.size_setCell, World.size_drew, size_drewN] at hs12)
  go_wp2_with fail
  (with_reducible refine (CB.out _ (by (repeat' (first | (with_reducible exact Kept.refl _ _) | (with_reducible assumption) | (with_reducible refine Kept.then_ (by with_reducible assumption) ?_) | (with_reducible refine Kept.thenS (by with_reducible assumption) ?_) | (with_reducible refine Kept.alloc ?_ _) | (with_reducible refine Kept.drew ?_) | (with_reducible refine Kept.drewN ?_ _) | (with_reducible refine Kept.setNew ?_ ?_ _) | ((try simp only [World.size_alloc, World.size_setCell, World.size_drew, size_drewN] at *); (try dsimp only); omega))))).mono ?_)
  rintro e w13 ⟨rfl, hb13⟩
  have hs13 := hb13.size
  (try simp only [World.size_alloc, World.size_setCell, World.size_drew, size_drewN] at hs13)
  rcases HP.out with ⟨rfl, rfl, rfl, hp, hp1, hp2, hp3⟩ | ⟨rfl, rfl⟩ | ⟨rfl, rfl, rfl⟩ | ⟨rfl, rfl, rfl, hp, hp1, hp2, hp3, hp4⟩
  · go_wp2_with fail
    go_ret
    exact ⟨rfl, Kept.below (by (repeat' (first | (with_reducible exact Kept.refl _ _) | (with_reducible assumption) | (with_reducible refine Kept.then_ (by with_reducible assumption) ?_) | (with_reducible refine Kept.thenS (by with_reducible assumption) ?_) | (with_reducible refine Kept.alloc ?_ _) | (with_reducible refine Kept.drew ?_) | (with_reducible refine Kept.drewN ?_ _) | (with_reducible refine Kept.setNew ?_ ?_ _) | ((try simp only [World.size_alloc, World.size_setCell, World.size_drew, size_drewN] at *); (try dsimp only); omega))))⟩
  · go_wp2_with fail
    go_ret
    exact ⟨rfl, Kept.below (by (repeat' (first | (with_reducible exact Kept.refl _ _) | (with_reducible assumption) | (with_reducible refine Kept.then_ (by with_reducible assumption) ?_) | (with_reducible refine Kept.thenS (by with_reducible assumption) ?_) | (with_reducible refine Kept.alloc ?_ _) | (with_reducible refine Kept.drew ?_) | (with_reducible refine Kept.drewN ?_ _) | (with_reducible refine Kept.setNew ?_ ?_ _) | ((try simp only [World.size_alloc, World.size_setCell, World.size_drew, size_drewN] at *); (try dsimp only); omega))))⟩
  · go_wp2_with fail
    go_ret
    exact ⟨rfl, Kept.below (by (repeat' (first | (with_reducible exact Kept.refl _ _) | (with_reducible assumption) | (with_reducible refine Kept.then_ (by with_reducible assumption) ?_) | (with_reducible refine Kept.thenS (by with_reducible assumption) ?_) | (with_reducible refine Kept.alloc ?_ _) | (with_reducible refine Kept.drew ?_) | (with_reducible refine Kept.drewN ?_ _) | (with_reducible refine Kept.setNew ?_ ?_ _) | ((try simp only [World.size_alloc, World.size_setCell, World.size_drew, size_drewN] at *); (try dsimp only); omega))))⟩
  · go_wp2_with fail
    go_ret
    exact ⟨rfl, Kept.below (by (repeat' (first | (with_reducible exact Kept.refl _ _) | (with_reducible assumption) | (with_reducible refine Kept.then_ (by with_reducible assumption) ?_) | (with_reducible refine Kept.thenS (by with_reducible assumption) ?_) | (with_reducible refine Kept.alloc ?_ _) | (with_reducible refine Kept.drew ?_) | (with_reducible refine Kept.drewN ?_ _) | (with_reducible refine Kept.setNew ?_ ?_ _) | ((try simp only [World.size_alloc, World.size_setCell, World.size_drew, size_drewN] at *); (try dsimp only); omega))))⟩
theorem walk (a0 : Option Addr) (len0 cap0 : Nat) (z0 : List Int) (a1 : Int) (W : World) (w0 : IsRow .u64 W a0 len0 cap0 z0) (w1 : (Lit.int .u8 a1).wf = true) :
    Calls Try.prog 8 #[.slice a0 len0 cap0, .int .u8 a1] W fun e w' => e = .returned (.bool true) ∧ Below W.heap.size W w' := by
  have b1 := bounds_u8 w1
  obtain ⟨ys, hl, hr, hcap, hwf, hlc, hcm⟩ := w0.seen
  have hz : U64s ys := fun x hx => bounds_u64 (hwf x hx)
  unfold maxLen at hcm
  by_cases hlen : (len0 : Int) ≤ 300
  · have h1 := Int.emod_nonneg a1 (show (len0 : Int) + 1 ≠ 0 by omega)
    have h2 := Int.emod_lt_of_pos a1 (show 0 < (len0 : Int) + 1 by omega)
    obtain ⟨k, hk⟩ : ∃ k : Nat, a1 % ((len0 : Int) + 1) = k := ⟨(a1 % ((len0 : Int) + 1)).toNat, by omega⟩
    cases a0 with
    | none =>
      have := hcap rfl
      subst this
      obtain rfl : len0 = 0 := by omega
      exact walkA ys a1 W hl hr hz b1
    | some ad =>
      by_cases hkc : cap0 = k
      · obtain rfl : cap0 = len0 := by omega
        subst hkc
        exact walkC ad cap0 ys a1 W hl hr hlc hcm hz b1 hlen hk (by omega)
      · exact walkB ad len0 cap0 k ys a1 W hl hr hlc hcm hkc (by simpa using hkc) hz b1 hlen hk (by omega)
  · have hlen' : decide (300 < (len0 : Int)) = true := by simp; omega
    clear w0 hz hwf hr
    go_enter Try.func8, Try.ntmps8
    go_wp2_with fail
    (with_reducible refine (alive_any _).mono ?_)
    rintro e w1 ⟨rfl, hb1⟩
    have hs1 := hb1.size
    (try simp only [World.size_alloc, World.size_setCell, World.size_drew, size_drewN] at hs1)
    go_wp2_with fail
    go_ret
    exact ⟨rfl, Kept.below (by (repeat' (first | (with_reducible exact Kept.refl _ _) | (with_reducible assumption) | (with_reducible refine Kept.then_ (by with_reducible assumption) ?_) | (with_reducible refine Kept.thenS (by with_reducible assumption) ?_) | (with_reducible refine Kept.alloc ?_ _) | (with_reducible refine Kept.drew ?_) | (with_reducible refine Kept.drewN ?_ _) | (with_reducible refine Kept.setNew ?_ ?_ _) | ((try simp only [World.size_alloc, World.size_setCell, World.size_drew, size_drewN] at *); (try dsimp only); omega))))⟩
theorem own : ownKnob Try.prog.godebug = none := by kernel_rfl
theorem laidOut : laidOutB Try.prog = true := by kernel_rfl
set_option maxRecDepth 100000 in
theorem lifted (os : Os) (started : os.Started) (H : Type) (enc : TypeId × Value → H) :
    ReturnsInHanded {} Try.checked os 8 .any (Rows.calcOrdersSpec.pre6 enc Try.prog Try.f8 Rows.calcOrdersRow.domain false) (Rows.calcOrdersSpec.post enc Try.prog Try.f8 false true false false) := by
  refine returnsInHanded_of_change (C := Try.checked) own started (by kernel_rfl) Try.func8
    (ChangeSpec.witness6 (enc := enc) (C := Try.checked) false ⟨#[], #[.slice none 0 0, .int .u8 0], []⟩ 8 (by kernel_rfl) (by kernel_rfl) (by kernel_rfl) (by kernel_rfl)) ?_
  intro W base args ds gs before hval0 hW hcnd _
  have hval : ∀ (j : Nat) t v, Try.f8.params[j]? = some t → args[j]? = some v → Value.okWide Try.prog W .any base t v := hval0
  have hW' := hW
  obtain ⟨p, q, hA0, hV, rfl, hfz, hnd⟩ := hW
  have hA : DataW.TrodAll enc Try.prog W 0 (fun _ => true) true Try.f8.params.toList args.toList ds p := hA0
  rw [Try.params8] at hA hval
  obtain ⟨v0, vs0, d0, ds0, p0, q0, hargs, rfl, rfl, h0, r0⟩ := trodAll_cons hA
  obtain ⟨v1, vs1, d1, ds1, p1, q1, rfl, rfl, rfl, h1, r1⟩ := trodAll_cons r0
  obtain ⟨rfl, rfl, rfl⟩ := trodAll_nil r1
  obtain rfl : args = #[v0, v1] := by cases args; simp_all
  obtain ⟨rfl, rfl⟩ := trodVars_none hV
  have k0 := h0
  have lt0 : ∀ x ∈ p0, x.block < W.heap.size := by obtain ⟨m, hm⟩ := k0; exact DataW.trod_lt m _ _ _ hm
  obtain ⟨a0, len0, cap0, rfl⟩ := okWide_slice Try.underlying22 (hval 0 22 v0 rfl rfl)
  obtain ⟨z0, w0⟩ := isRow_of Try.underlying22 Try.underlying24 (by kernel_rfl) h0
  obtain ⟨a1, rfl, rfl, rfl, w1⟩ := open_int Try.underlying5 (hval 1 5 v1 rfl rfl) h1
  clear hA0 hval0
  refine (walk a0 len0 cap0 z0 a1 W w0 w1).mono fun e W' ⟨he, bel⟩ => ?_
  subst he
  exact ⟨_, rfl, _, _, _, [], _, [], hW', trodAll_mk1 (shut_bool Try.underlying4 _), (trodAll_cons_mk (Below.trod laidOut (by kernel_rfl) (of_decide_eq_true (by kernel_rfl)) k0 bel lt0) (trodAll_cons_mk (shut_int Try.underlying5 w1) trodAll_mk0)), rfl, bel.frame _, fun h => by cases h⟩
theorem over : Rows.calcOrdersRow.holds Try.pinned (OpenSpec.ofChange Rows.calcOrdersSpec) :=
  OpenClaim.holds_of_wide 8 Try.f8 rfl rfl rfl rfl rfl rfl rfl ⟨rfl, rfl, rfl, rfl, rfl⟩ rfl rfl rfl rfl rfl (by kernel_rfl) Try.func8 (by kernel_rfl)
    (of_decide_eq_true (by kernel_rfl)) (by unfold Func.isWrapper; first | (rw [if_pos (by decide +kernel)]; kernel_rfl) | (rw [if_neg (by decide +kernel)]; exact ⟨rfl, rfl⟩))
    (fun os started H enc _ => lifted os started H enc)
theorem proved : Rows.CalcOrdersSaid := over
#print axioms proved
end Go.Proofs.Ytnooelpdoeijbaa.CalcOrders
