/- The greatest and the least of a slice's numbers. -/
import Derived.Test.YtnooelpdoeijbaaLawCalc
import Derived.Shelf.Abstract
set_option linter.unusedVariables false
set_option linter.unusedSimpArgs false
namespace Go.Proofs.Ytnooelpdoeijbaa
open Go.RowKit Go.Shelf
def mxV : List Int → Int | [] => 0 | x :: l => l.foldl max x
def mnV : List Int → Int | [] => 0 | x :: l => l.foldl min x
theorem mxV_take (zs : List Int) (k : Nat) (h0 : 0 < k) (h : k < zs.length) : mxV (zs.take (k + 1)) = max (mxV (zs.take k)) (zs[k]?.getD 0) := by
  rw [take_s zs k h]
  cases zs with
  | nil => simp at h
  | cons x l =>
    obtain ⟨j, rfl⟩ : ∃ j, k = j + 1 := ⟨k - 1, by omega⟩
    simp only [List.take_succ_cons, List.cons_append, mxV, List.foldl_append, List.foldl_cons, List.foldl_nil]
theorem mnV_take (zs : List Int) (k : Nat) (h0 : 0 < k) (h : k < zs.length) : mnV (zs.take (k + 1)) = min (mnV (zs.take k)) (zs[k]?.getD 0) := by
  rw [take_s zs k h]
  cases zs with
  | nil => simp at h
  | cons x l =>
    obtain ⟨j, rfl⟩ : ∃ j, k = j + 1 := ⟨k - 1, by omega⟩
    simp only [List.take_succ_cons, List.cons_append, mnV, List.foldl_append, List.foldl_cons, List.foldl_nil]
theorem mx_spec (l : List Int) (x : Int) : (l.foldl max x = x ∨ l.foldl max x ∈ l) ∧ x ≤ l.foldl max x ∧ ∀ y, y ∈ l → y ≤ l.foldl max x := by
  induction l generalizing x with
  | nil => exact ⟨.inl rfl, Int.le_refl _, fun y hy => by simp at hy⟩
  | cons z l ih =>
    obtain ⟨h1, h2, h3⟩ := ih (max x z)
    simp only [List.foldl_cons]
    refine ⟨?_, by omega, fun y hy => ?_⟩
    · rcases h1 with h1 | h1
      · rcases Int.le_total x z with h | h
        · right; rw [h1]; simp; left; omega
        · left; rw [h1]; omega
      · right; simp [h1]
    · simp at hy
      rcases hy with rfl | hy
      · omega
      · exact h3 y hy
theorem mn_spec (l : List Int) (x : Int) : (l.foldl min x = x ∨ l.foldl min x ∈ l) ∧ l.foldl min x ≤ x ∧ ∀ y, y ∈ l → l.foldl min x ≤ y := by
  induction l generalizing x with
  | nil => exact ⟨.inl rfl, Int.le_refl _, fun y hy => by simp at hy⟩
  | cons z l ih =>
    obtain ⟨h1, h2, h3⟩ := ih (min x z)
    simp only [List.foldl_cons]
    refine ⟨?_, by omega, fun y hy => ?_⟩
    · rcases h1 with h1 | h1
      · rcases Int.le_total x z with h | h
        · left; rw [h1]; omega
        · right; rw [h1]; simp; left; omega
      · right; simp [h1]
    · simp at hy
      rcases hy with rfl | hy
      · omega
      · exact h3 y hy
theorem mxV_mem {zs : List Int} (h : 0 < zs.length) : mxV zs ∈ zs ∧ ∀ y, y ∈ zs → y ≤ mxV zs := by
  cases zs with
  | nil => simp at h
  | cons x l =>
    obtain ⟨h1, h2, h3⟩ := mx_spec l x
    refine ⟨by rcases h1 with h1 | h1 <;> simp [mxV, h1], fun y hy => ?_⟩
    simp at hy
    rcases hy with rfl | hy
    · exact h2
    · exact h3 y hy
theorem mnV_mem {zs : List Int} (h : 0 < zs.length) : mnV zs ∈ zs ∧ ∀ y, y ∈ zs → mnV zs ≤ y := by
  cases zs with
  | nil => simp at h
  | cons x l =>
    obtain ⟨h1, h2, h3⟩ := mn_spec l x
    refine ⟨by rcases h1 with h1 | h1 <;> simp [mnV, h1], fun y hy => ?_⟩
    simp at hy
    rcases hy with rfl | hy
    · exact h2
    · exact h3 y hy
set_option maxHeartbeats 1000000 in
theorem max_any (A : Option Addr) (cap : Nat) (zs : List Int) (h0 : 0 < zs.length) (w : World) (hr : RowX .u64 w A zs) (hn : zs.length ≤ 9223372036854775807) :
    Calls Try.prog 35 #[.slice A zs.length cap] w fun e w' => e = .returned (.int .u64 (mxV zs)) ∧ Kept [] w w' := by
  obtain ⟨ad, rfl, hc⟩ := hr.get h0
  have HC := Lib.hid hc
  have HT := Lib.hid (mxV_take zs)
  have HE : Hid (mxV (zs.take zs.length) = mxV zs) := Lib.hid (by rw [List.take_length])
  have HB : Hid (zs[0]?.getD 0 = mxV (zs.take 1)) := Lib.hid (by cases zs with | nil => simp at h0 | cons x l => rfl)
  have hc0 := hc w (Kept.refl _ _) 0 h0
  rw [Addr.add_zero'] at hc0
  rw [HB.out] at hc0
  obtain ⟨z, hzz⟩ : ∃ z, z = mxV (zs.take 1) := ⟨_, rfl⟩
  rw [← hzz] at hc0
  have HB' := Lib.hid hzz
  clear hzz HB
  clear hc hr
  go_enter Try.func35, Try.ntmps35
  go_wp2
  go_loop [3, 4] (fun c d => ∃ (k : Nat) (m : Int), 1 ≤ k ∧ k ≤ zs.length ∧ c = .int .u64 m ∧ d = .int .i64 k ∧ Hid (m = mxV (zs.take k))) (fun _ d => zs.length - (intOf d).toNat)
  case atStart => exact ⟨1, z, by omega, by omega, rfl, rfl, HB'⟩
  case round =>
    obtain ⟨k, m, h1, hk, rfl, rfl, hm⟩ := hrel
    by_cases hlt : k < zs.length
    · have hcell := HC.out w (Kept.refl _ _) k hlt
      have ht := HT.out k h1 hlt
      rw [← hm.out] at ht
      generalize zs[k]?.getD 0 = x at *
      have HT' := Lib.hid ht
      clear ht
      by_cases hx : m < x
      · go_wp2_with fail
        go_round
        case rel => exact ⟨k + 1, x, by omega, by omega, by go_num, by go_num, Lib.hid (by rw [HT'.out]; omega)⟩
        case measure => simp [intOf]; omega
      · go_wp2_with fail
        go_round
        case rel => exact ⟨k + 1, m, by omega, by omega, by go_num, by go_num, Lib.hid (by rw [HT'.out]; omega)⟩
        case measure => simp [intOf]; omega
    · obtain rfl : k = zs.length := by omega
      have hm' := hm.out
      rw [HE.out] at hm'
      subst hm'
      go_wp2_with fail
      go_ret
      exact ⟨rfl, by (repeat' (first | (with_reducible exact Kept.refl _ _) | (with_reducible assumption) | (with_reducible refine Kept.then_ (by with_reducible assumption) ?_) | (with_reducible refine Kept.thenS (by with_reducible assumption) ?_) | (with_reducible refine Kept.alloc ?_ _) | (with_reducible refine Kept.drew ?_) | (with_reducible refine Kept.drewN ?_ _) | (with_reducible refine Kept.setNew ?_ ?_ _) | ((try simp only [World.size_alloc, World.size_setCell, World.size_drew, size_drewN] at *); (try dsimp only); omega)))⟩
set_option maxHeartbeats 1000000 in
theorem min_any (A : Option Addr) (cap : Nat) (zs : List Int) (h0 : 0 < zs.length) (w : World) (hr : RowX .u64 w A zs) (hn : zs.length ≤ 9223372036854775807) :
    Calls Try.prog 36 #[.slice A zs.length cap] w fun e w' => e = .returned (.int .u64 (mnV zs)) ∧ Kept [] w w' := by
  obtain ⟨ad, rfl, hc⟩ := hr.get h0
  have HC := Lib.hid hc
  have HT := Lib.hid (mnV_take zs)
  have HE : Hid (mnV (zs.take zs.length) = mnV zs) := Lib.hid (by rw [List.take_length])
  have HB : Hid (zs[0]?.getD 0 = mnV (zs.take 1)) := Lib.hid (by cases zs with | nil => simp at h0 | cons x l => rfl)
  have hc0 := hc w (Kept.refl _ _) 0 h0
  rw [Addr.add_zero'] at hc0
  rw [HB.out] at hc0
  obtain ⟨z, hzz⟩ : ∃ z, z = mnV (zs.take 1) := ⟨_, rfl⟩
  rw [← hzz] at hc0
  have HB' := Lib.hid hzz
  clear hzz HB
  clear hc hr
  go_enter Try.func36, Try.ntmps36
  go_wp2
  go_loop [3, 4] (fun c d => ∃ (k : Nat) (m : Int), 1 ≤ k ∧ k ≤ zs.length ∧ c = .int .u64 m ∧ d = .int .i64 k ∧ Hid (m = mnV (zs.take k))) (fun _ d => zs.length - (intOf d).toNat)
  case atStart => exact ⟨1, z, by omega, by omega, rfl, rfl, HB'⟩
  case round =>
    obtain ⟨k, m, h1, hk, rfl, rfl, hm⟩ := hrel
    by_cases hlt : k < zs.length
    · have hcell := HC.out w (Kept.refl _ _) k hlt
      have ht := HT.out k h1 hlt
      rw [← hm.out] at ht
      generalize zs[k]?.getD 0 = x at *
      have HT' := Lib.hid ht
      clear ht
      by_cases hx : x < m
      · go_wp2_with fail
        go_round
        case rel => exact ⟨k + 1, x, by omega, by omega, by go_num, by go_num, Lib.hid (by rw [HT'.out]; omega)⟩
        case measure => simp [intOf]; omega
      · go_wp2_with fail
        go_round
        case rel => exact ⟨k + 1, m, by omega, by omega, by go_num, by go_num, Lib.hid (by rw [HT'.out]; omega)⟩
        case measure => simp [intOf]; omega
    · obtain rfl : k = zs.length := by omega
      have hm' := hm.out
      rw [HE.out] at hm'
      subst hm'
      go_wp2_with fail
      go_ret
      exact ⟨rfl, by (repeat' (first | (with_reducible exact Kept.refl _ _) | (with_reducible assumption) | (with_reducible refine Kept.then_ (by with_reducible assumption) ?_) | (with_reducible refine Kept.thenS (by with_reducible assumption) ?_) | (with_reducible refine Kept.alloc ?_ _) | (with_reducible refine Kept.drew ?_) | (with_reducible refine Kept.drewN ?_ _) | (with_reducible refine Kept.setNew ?_ ?_ _) | ((try simp only [World.size_alloc, World.size_setCell, World.size_drew, size_drewN] at *); (try dsimp only); omega)))⟩
theorem chosen_none (g : Value) (A : Option Addr) (cap : Nat) (w : World) :
    Calls Try.prog 34 #[g, .slice A 0 cap] w fun e w' => e = .returned (.tuple #[.int .u64 0, .int .i64 5]) ∧ Kept [] w w' := by
  go_enter Try.func34, Try.ntmps34
  go_wp2
  go_ret2
  exact ⟨rfl, by (repeat' (first | (with_reducible exact Kept.refl _ _) | (with_reducible assumption) | (with_reducible refine Kept.then_ (by with_reducible assumption) ?_) | (with_reducible refine Kept.thenS (by with_reducible assumption) ?_) | (with_reducible refine Kept.alloc ?_ _) | (with_reducible refine Kept.drew ?_) | (with_reducible refine Kept.drewN ?_ _) | (with_reducible refine Kept.setNew ?_ ?_ _) | ((try simp only [World.size_alloc, World.size_setCell, World.size_drew, size_drewN] at *); (try dsimp only); omega)))⟩
theorem chosen_any (g : FuncId) (A : Option Addr) (cap n : Nat) (r : Int) (h0 : 0 < n) (hn : n ≤ 9223372036854775807) (w : World) (eg : ∀ args w, (callFunc g args).run Try.prog w = .ok (.enter g args) w)
    (hp : Calls Try.prog g #[.slice A n cap] w fun e w' => e = .returned (.int .u64 r) ∧ Kept [] w w') :
    Calls Try.prog 34 #[.func (.func g) #[] #[], .slice A n cap] w fun e w' => e = .returned (.tuple #[.int .u64 r, .int .i64 0]) ∧ Kept [] w w' := by
  have C := Lib.hid hp
  clear hp
  go_enter Try.func34, Try.ntmps34
  go_wp2_with fail
  (with_reducible refine (C.out).mono ?_)
  rintro e w1 ⟨rfl, hb1⟩
  have hs1 := hb1.size
  (try simp only [World.size_alloc, World.size_setCell, World.size_drew, size_drewN] at hs1)
  go_wp2_with fail
  go_ret2
  exact ⟨rfl, by (repeat' (first | (with_reducible exact Kept.refl _ _) | (with_reducible assumption) | (with_reducible refine Kept.then_ (by with_reducible assumption) ?_) | (with_reducible refine Kept.thenS (by with_reducible assumption) ?_) | (with_reducible refine Kept.alloc ?_ _) | (with_reducible refine Kept.drew ?_) | (with_reducible refine Kept.drewN ?_ _) | (with_reducible refine Kept.setNew ?_ ?_ _) | ((try simp only [World.size_alloc, World.size_setCell, World.size_drew, size_drewN] at *); (try dsimp only); omega)))⟩
theorem most_any (A : Option Addr) (cap : Nat) (zs : List Int) (w : World) (hr : RowX .u64 w A zs) (hn : zs.length ≤ 9223372036854775807) :
    Calls Try.prog 21 #[.slice A zs.length cap] w fun e w' => e = .returned (.tuple #[.int .u64 (mxV zs), .int .i64 (if zs.length = 0 then 5 else 0)]) ∧ Kept [] w w' := by
  by_cases h0 : zs.length = 0
  · have : zs = [] := List.eq_nil_of_length_eq_zero h0
    subst this
    go_enter Try.func21, Try.ntmps21
    go_wp2_with fail
    (with_reducible refine (chosen_none _ _ _ _).mono ?_)
    rintro e w1 ⟨rfl, hb1⟩
    have hs1 := hb1.size
    (try simp only [World.size_alloc, World.size_setCell, World.size_drew, size_drewN] at hs1)
    go_wp2_with fail
    go_ret2
    exact ⟨rfl, by (repeat' (first | (with_reducible exact Kept.refl _ _) | (with_reducible assumption) | (with_reducible refine Kept.then_ (by with_reducible assumption) ?_) | (with_reducible refine Kept.thenS (by with_reducible assumption) ?_) | (with_reducible refine Kept.alloc ?_ _) | (with_reducible refine Kept.drew ?_) | (with_reducible refine Kept.drewN ?_ _) | (with_reducible refine Kept.setNew ?_ ?_ _) | ((try simp only [World.size_alloc, World.size_setCell, World.size_drew, size_drewN] at *); (try dsimp only); omega)))⟩
  · rw [if_neg h0]
    have C := Lib.hid (chosen_any 35 A cap zs.length (mxV zs) (by omega) hn w (fun args w => enters_of Try.func35 (by kernel_rfl) rfl args w) (max_any A cap zs (by omega) w hr hn))
    clear hr
    go_enter Try.func21, Try.ntmps21
    go_wp2_with fail
    (with_reducible refine (C.out).mono ?_)
    rintro e w1 ⟨rfl, hb1⟩
    have hs1 := hb1.size
    (try simp only [World.size_alloc, World.size_setCell, World.size_drew, size_drewN] at hs1)
    go_wp2_with fail
    go_ret2
    exact ⟨rfl, by (repeat' (first | (with_reducible exact Kept.refl _ _) | (with_reducible assumption) | (with_reducible refine Kept.then_ (by with_reducible assumption) ?_) | (with_reducible refine Kept.thenS (by with_reducible assumption) ?_) | (with_reducible refine Kept.alloc ?_ _) | (with_reducible refine Kept.drew ?_) | (with_reducible refine Kept.drewN ?_ _) | (with_reducible refine Kept.setNew ?_ ?_ _) | ((try simp only [World.size_alloc, World.size_setCell, World.size_drew, size_drewN] at *); (try dsimp only); omega)))⟩
theorem least_any (A : Option Addr) (cap : Nat) (zs : List Int) (w : World) (hr : RowX .u64 w A zs) (hn : zs.length ≤ 9223372036854775807) :
    Calls Try.prog 22 #[.slice A zs.length cap] w fun e w' => e = .returned (.tuple #[.int .u64 (mnV zs), .int .i64 (if zs.length = 0 then 5 else 0)]) ∧ Kept [] w w' := by
  by_cases h0 : zs.length = 0
  · have : zs = [] := List.eq_nil_of_length_eq_zero h0
    subst this
    go_enter Try.func22, Try.ntmps22
    go_wp2_with fail
    (with_reducible refine (chosen_none _ _ _ _).mono ?_)
    rintro e w1 ⟨rfl, hb1⟩
    have hs1 := hb1.size
    (try simp only [World.size_alloc, World.size_setCell, World.size_drew, size_drewN] at hs1)
    go_wp2_with fail
    go_ret2
    exact ⟨rfl, by (repeat' (first | (with_reducible exact Kept.refl _ _) | (with_reducible assumption) | (with_reducible refine Kept.then_ (by with_reducible assumption) ?_) | (with_reducible refine Kept.thenS (by with_reducible assumption) ?_) | (with_reducible refine Kept.alloc ?_ _) | (with_reducible refine Kept.drew ?_) | (with_reducible refine Kept.drewN ?_ _) | (with_reducible refine Kept.setNew ?_ ?_ _) | ((try simp only [World.size_alloc, World.size_setCell, World.size_drew, size_drewN] at *); (try dsimp only); omega)))⟩
  · rw [if_neg h0]
    have C := Lib.hid (chosen_any 36 A cap zs.length (mnV zs) (by omega) hn w (fun args w => enters_of Try.func36 (by kernel_rfl) rfl args w) (min_any A cap zs (by omega) w hr hn))
    clear hr
    go_enter Try.func22, Try.ntmps22
    go_wp2_with fail
    (with_reducible refine (C.out).mono ?_)
    rintro e w1 ⟨rfl, hb1⟩
    have hs1 := hb1.size
    (try simp only [World.size_alloc, World.size_setCell, World.size_drew, size_drewN] at hs1)
    go_wp2_with fail
    go_ret2
    exact ⟨rfl, by (repeat' (first | (with_reducible exact Kept.refl _ _) | (with_reducible assumption) | (with_reducible refine Kept.then_ (by with_reducible assumption) ?_) | (with_reducible refine Kept.thenS (by with_reducible assumption) ?_) | (with_reducible refine Kept.alloc ?_ _) | (with_reducible refine Kept.drew ?_) | (with_reducible refine Kept.drewN ?_ _) | (with_reducible refine Kept.setNew ?_ ?_ _) | ((try simp only [World.size_alloc, World.size_setCell, World.size_drew, size_drewN] at *); (try dsimp only); omega)))⟩
end Go.Proofs.Ytnooelpdoeijbaa
