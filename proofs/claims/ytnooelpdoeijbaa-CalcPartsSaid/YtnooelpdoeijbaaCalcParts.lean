/- A product is that of its parts, if none of these is beyond; with one number twice as great it is twice as great, or beyond. No condition. -/
import Derived.Test.YtnooelpdoeijbaaLawCalc
import Derived.Test.YtnooelpdoeijbaaApp
set_option linter.unusedVariables false
set_option linter.unusedSimpArgs false
namespace Go.Proofs.Ytnooelpdoeijbaa.CalcParts
open Go.RowKit Go.ChangeShapes Go.WideShapes Go.ChangeAt Go.Joins
theorem mul_at (A : Option Addr) (cap n : Nat) (zs : List Int) (V E : Int) (hn' : n = zs.length) (hz : U64s zs) (hV : mulV zs = V) (hE : mulE zs = E) (hn : zs.length ≤ 1000000) (w : World) (hr : RowX .u64 w A zs) :
    Calls Try.prog 13 #[.slice A n cap] w fun e w' => e = .returned (.tuple #[.int .u64 V, .int .i64 E]) ∧ Kept [] w w' := by
  subst hn' hV hE
  exact mul_any A cap zs hz w hr (by omega)
theorem two_row {w : World} {b : Nat} {t : TypeId} {x y : Int} (h : Blk w b t #[.int .u64 x, .int .u64 y]) : RowX .u64 w (some ⟨b, 0, none⟩) [x, y] :=
  RowX.of_blk h (fun i hi => by
    match i, hi with
    | 0, _ => rfl
    | 1, _ => rfl)
theorem one_row {w : World} {b : Nat} {t : TypeId} {x : Int} (h : Blk w b t #[.int .u64 x]) : RowX .u64 w (some ⟨b, 0, none⟩) [x] :=
  RowX.of_blk h (fun i hi => by
    match i, hi with
    | 0, _ => rfl)
/-- A product, in three kinds. -/
theorem mul_kinds (zs : List Int) (hz : U64s zs) : ((0 : Int) ∈ zs ∧ mulV zs = 0 ∧ mulE zs = 0) ∨ ((0 : Int) ∉ zs ∧ 1 ≤ pr zs ∧ pr zs ≤ 1099511627776 ∧ mulV zs = pr zs ∧ mulE zs = 0) ∨ ((0 : Int) ∉ zs ∧ 1099511627776 < pr zs ∧ mulV zs = 0 ∧ mulE zs = 3) := by
  unfold mulV mulE
  by_cases h0 : (0 : Int) ∈ zs
  · left; simp [h0]
  · have hp := pr_pos zs (fun x hx => by
      have := hz x hx
      rcases Int.lt_or_le 0 x with h | h
      · omega
      · exact absurd (by rw [show (0 : Int) = x by omega]; exact hx) h0)
    by_cases h1 : pr zs ≤ 1099511627776
    · right; left; simp [h0, h1]; omega
    · right; right; simp [h0, h1]; omega
theorem mul_parts (a b : List Int) (ha : U64s a) (hb : U64s b) (h1 : mulE a = 0) (h2 : mulE b = 0) : mulV [mulV a, mulV b] = mulV (a ++ b) ∧ mulE [mulV a, mulV b] = mulE (a ++ b) := by
  have ka := mul_kinds a ha
  have kb := mul_kinds b hb
  rcases ka with ⟨k1, k2, k3⟩ | ⟨k1, k4, k5, k2, k3⟩ | ⟨k1, k4, k2, k3⟩
  · rw [k2]
    unfold mulV mulE
    simp [k1]
  · rcases kb with ⟨l1, l2, l3⟩ | ⟨l1, l4, l5, l2, l3⟩ | ⟨l1, l4, l2, l3⟩
    · rw [l2]
      unfold mulV mulE
      simp [l1]
    · rw [k2, l2]
      unfold mulV mulE
      rw [if_neg (show ¬ (0 : Int) ∈ [pr a, pr b] by simp; omega), if_neg (show ¬ (0 : Int) ∈ a ++ b by simp [k1, l1]), if_neg (show ¬ (0 : Int) ∈ [pr a, pr b] by simp; omega), if_neg (show ¬ (0 : Int) ∈ a ++ b by simp [k1, l1]), pr_app]
      simp [pr]
    · omega
  · omega
theorem mul_twice (zs : List Int) (hz : U64s zs) : (mulE zs ≠ 0 ∧ mulE (zs ++ [2]) = 3) ∨ (mulE zs = 0 ∧ 549755813888 < mulV zs ∧ mulV (zs ++ [2]) = 0 ∧ mulE (zs ++ [2]) = 3) ∨ (mulE zs = 0 ∧ 0 ≤ mulV zs ∧ mulV zs ≤ 549755813888 ∧ mulV (zs ++ [2]) = 2 * mulV zs ∧ mulE (zs ++ [2]) = 0) := by
  have hz2 : U64s (zs ++ [2]) := fun x hx => by
    simp at hx
    rcases hx with hx | rfl
    · exact hz x hx
    · omega
  have e : pr (zs ++ [2]) = pr zs * 2 := by rw [pr_app]; simp [pr]
  have m : (0 : Int) ∈ zs ++ [2] ↔ (0 : Int) ∈ zs := by simp
  have k := mul_kinds (zs ++ [2]) hz2
  rw [e, m] at k
  rcases mul_kinds zs hz with ⟨k1, k2, k3⟩ | ⟨k1, k4, k5, k2, k3⟩ | ⟨k1, k4, k2, k3⟩ <;> rcases k with ⟨l1, l2, l3⟩ | ⟨l1, l4, l5, l2, l3⟩ | ⟨l1, l4, l2, l3⟩ <;> first | (exact absurd l1 k1) | (exact absurd k1 l1) | omega
theorem RowX.take {k : IntKind} {w : World} {A : Option Addr} {zs : List Int} (h : RowX k w A zs) (n : Nat) : RowX k w A (zs.take n) := fun h0 => by
  have hl : zs.take n ≠ [] := by intro h; rw [h] at h0; simp at h0
  obtain ⟨x, rfl, hb, hc⟩ := h (by simp at h0; omega)
  refine ⟨x, rfl, hb, fun i hi => ?_⟩
  simp at hi
  rw [hc i (by omega), List.getElem?_take_of_lt (by omega)]
theorem RowX.drop {k : IntKind} {w : World} {x : Addr} {zs : List Int} (h : RowX k w (some x) zs) (n : Nat) : RowX k w (some (x.add n)) (zs.drop n) := fun h0 => by
  simp at h0
  obtain ⟨y, hy, hb, hc⟩ := h (by omega)
  cases hy
  refine ⟨_, rfl, by rw [add_block]; exact hb, fun i hi => ?_⟩
  simp at hi
  rw [Addr.add_add, hc (n + i) (by omega), List.getElem?_drop]
set_option maxRecDepth 100000 in
set_option maxHeartbeats 2000000 in
theorem walk (a0 : Option Addr) (len0 cap0 : Nat) (z0 : List Int) (a1 : Int) (W : World) (w0 : IsRow .u64 W a0 len0 cap0 z0) (w1 : (Lit.int .u8 a1).wf = true) :
    Calls Try.prog 3 #[.slice a0 len0 cap0, .int .u8 a1] W fun e w' => e = .returned (.bool true) ∧ Below W.heap.size W w' := by
  have b1 := bounds_u8 w1
  clear w1
  obtain ⟨ys, hl, hr, hcap, hwf, hlc, hcm⟩ := w0.seen
  have hz : U64s ys := fun x hx => bounds_u64 (hwf x hx)
  unfold maxLen at hcm
  clear w0 hwf
  by_cases hlen : (len0 : Int) ≤ 100 ∧ ¬ len0 = 0
  · obtain ⟨h1, h2⟩ := hlen
    obtain ⟨k, hk, hk2⟩ : ∃ k : Nat, a1 % ((len0 : Int) + 1) = k ∧ k ≤ len0 := ⟨(a1 % ((len0 : Int) + 1)).toNat, by have := Int.emod_nonneg a1 (show (len0 : Int) + 1 ≠ 0 by omega); omega, by have := Int.emod_lt_of_pos a1 (show 0 < (len0 : Int) + 1 by omega); have := Int.emod_nonneg a1 (show (len0 : Int) + 1 ≠ 0 by omega); omega⟩
    have q0 : ((len0 : Int) == 0) = false := by simp; omega
    obtain ⟨ad, had, _⟩ := hr.get (by omega)
    subst had
    have HR := Lib.hid hr
    have HL := Lib.hid hl
    have C1 := Lib.hid (fun w (hk : Kept [] W w) => mul_at (some ad) cap0 len0 ys _ _ hl.symm hz rfl rfl (by omega) w (hr.keep hk))
    have hzA : U64s (ys.take k) := fun x hx => hz x (List.mem_of_mem_take hx)
    have hzB : U64s (ys.drop k) := fun x hx => hz x (List.mem_of_mem_drop hx)
    have C2 := Lib.hid (fun w (hk : Kept [] W w) => mul_at (some ad) cap0 k (ys.take k) _ _ (by simp; omega) hzA rfl rfl (by simp; omega) w ((RowX.take hr k).keep hk))
    have C3 := Lib.hid (fun (A : Option Addr) (c n : Nat) (w : World) (hn : n = len0 - k) (hr : RowX .u64 w A (ys.drop k)) => mul_at A c n (ys.drop k) _ _ (by simp; omega) hzB rfl rfl (by simp; omega) w hr)
    have HP := Lib.hid (fun (h1 : mulE (ys.take k) = 0) (h2 : mulE (ys.drop k) = 0) => mul_parts _ _ hzA hzB h1 h2)
    rw [List.take_append_drop] at HP
    have HT := Lib.hid (mul_twice ys hz)
    have hzV : (0 ≤ mulV (ys.take k) ∧ mulV (ys.take k) ≤ 1099511627776) ∧ (0 ≤ mulV (ys.drop k) ∧ mulV (ys.drop k) ≤ 1099511627776) := by
      have k1 := mul_kinds _ hzA
      have k2 := mul_kinds _ hzB
      omega
    have HD := Lib.hid ((RowX.drop hr k))
    have H2 : U64s (ys ++ [2]) := fun x hx => by
      simp at hx
      rcases hx with hx | rfl
      · exact hz x hx
      · omega
    have HZ2 := Lib.hid H2
    have HZ := Lib.hid hz
    have H4 : mulE (ys.take k) = 0 → mulE (ys.drop k) = 0 → Hid (∀ (b : Nat) (t : TypeId) (w : World), Blk w b t #[.int .u64 (mulV (ys.take k)), .int .u64 (mulV (ys.drop k))] → Calls Try.prog 13 #[.slice (some ⟨b, 0, none⟩) 2 2] w fun e w' => e = .returned (.tuple #[.int .u64 (mulV ys), .int .i64 (mulE ys)]) ∧ Kept [] w w') := fun h1 h2 =>
      Lib.hid (fun b t w hB => mul_at (some ⟨b, 0, none⟩) 2 2 _ _ _ rfl (fun x hx => by
        simp at hx
        rcases hx with rfl | rfl <;> omega) (HP.out h1 h2).1 (HP.out h1 h2).2 (by simp) w (two_row (t := t) hB))
    have HK := Lib.hid H4
    have C5 := Lib.hid (fun (A : Option Addr) (c n : Nat) (V E : Int) (w : World) (hn : n = (ys ++ [2]).length) (hV : mulV (ys ++ [2]) = V) (hE : mulE (ys ++ [2]) = E) (hr : RowX .u64 w A (ys ++ [2])) => mul_at A c n (ys ++ [2]) V E hn H2 hV hE (by simp; omega) w hr)
    clear hr hz hl hzA hzB HP H2 H4
    generalize mulV (ys.take k) = va at *
    generalize mulE (ys.take k) = ea at *
    generalize mulV (ys.drop k) = vb at *
    generalize mulE (ys.drop k) = eb at *
    generalize mulV ys = V at *
    generalize mulE ys = E at *
    have hcase : (ea = 0 ∧ eb = 0) ∨ ¬ ea = 0 ∨ (ea = 0 ∧ ¬ eb = 0) := by omega
    rcases Nat.lt_or_ge k cap0 with hkc | hkc
    · rcases hcase with ⟨rfl, rfl⟩ | hca | ⟨rfl, hca⟩
      · have HQ := HK.out rfl rfl
        go_enter Try.func3, Try.ntmps3
        go_wp2_with fail
        (with_reducible refine (alive_any _).mono ?_)
        rintro e w1 ⟨rfl, hb1⟩
        have hs1 := hb1.size
        (try simp only [World.size_alloc, World.size_setCell, World.size_drew, size_drewN] at hs1)
        go_wp2_with fail
        (with_reducible refine (C1.out _ (by (repeat' (first | (with_reducible exact Kept.refl _ _) | (with_reducible assumption) | (with_reducible refine Kept.then_ (by with_reducible assumption) ?_) | (with_reducible refine Kept.thenS (by with_reducible assumption) ?_) | (with_reducible refine Kept.alloc ?_ _) | (with_reducible refine Kept.drew ?_) | (with_reducible refine Kept.drewN ?_ _) | (with_reducible refine Kept.setNew ?_ ?_ _) | ((try simp only [World.size_alloc, World.size_setCell, World.size_drew, size_drewN] at *); (try dsimp only); omega))))).mono ?_)
        rintro e w2 ⟨rfl, hb2⟩
        have hs2 := hb2.size
        (try simp only [World.size_alloc, World.size_setCell, World.size_drew, size_drewN] at hs2)
        go_wp2_with fail
        (with_reducible refine (C2.out _ (by (repeat' (first | (with_reducible exact Kept.refl _ _) | (with_reducible assumption) | (with_reducible refine Kept.then_ (by with_reducible assumption) ?_) | (with_reducible refine Kept.thenS (by with_reducible assumption) ?_) | (with_reducible refine Kept.alloc ?_ _) | (with_reducible refine Kept.drew ?_) | (with_reducible refine Kept.drewN ?_ _) | (with_reducible refine Kept.setNew ?_ ?_ _) | ((try simp only [World.size_alloc, World.size_setCell, World.size_drew, size_drewN] at *); (try dsimp only); omega))))).mono ?_)
        rintro e w3 ⟨rfl, hb3⟩
        have hs3 := hb3.size
        (try simp only [World.size_alloc, World.size_setCell, World.size_drew, size_drewN] at hs3)
        go_wp2_with fail
        (with_reducible refine (C3.out _ _ _ _ rfl (HD.out.keep (by (repeat' (first | (with_reducible exact Kept.refl _ _) | (with_reducible assumption) | (with_reducible refine Kept.then_ (by with_reducible assumption) ?_) | (with_reducible refine Kept.thenS (by with_reducible assumption) ?_) | (with_reducible refine Kept.alloc ?_ _) | (with_reducible refine Kept.drew ?_) | (with_reducible refine Kept.drewN ?_ _) | (with_reducible refine Kept.setNew ?_ ?_ _) | ((try simp only [World.size_alloc, World.size_setCell, World.size_drew, size_drewN] at *); (try dsimp only); omega)))))).mono ?_)
        rintro e w4 ⟨rfl, hb4⟩
        have hs4 := hb4.size
        (try simp only [World.size_alloc, World.size_setCell, World.size_drew, size_drewN] at hs4)
        go_wp2_with fail
        (with_reducible refine (HQ.out _ _ _ (Blk.new _ _ _)).mono ?_)
        rintro e w5 ⟨rfl, hb5⟩
        have hs5 := hb5.size
        (try simp only [World.size_alloc, World.size_setCell, World.size_drew, size_drewN] at hs5)
        go_wp2_with (refine append_u64 rfl (.tmp 73) (.tmp 74) rfl W W.heap.size _ [] ys rfl (OwnI.made _ (by omega)) (some ad) _ _ HL.out.symm rfl hcap (HR.out.keep (by (repeat' (first | (with_reducible exact Kept.refl _ _) | (with_reducible assumption) | (with_reducible refine Kept.then_ (by with_reducible assumption) ?_) | (with_reducible refine Kept.thenS (by with_reducible assumption) ?_) | (with_reducible refine Kept.alloc ?_ _) | (with_reducible refine Kept.drew ?_) | (with_reducible refine Kept.drewN ?_ _) | (with_reducible refine Kept.setNew ?_ ?_ _) | ((try simp only [World.size_alloc, World.size_setCell, World.size_drew, size_drewN] at *); (try dsimp only); omega))))) (by (repeat' (first | (with_reducible exact Kept.refl _ _) | (with_reducible assumption) | (with_reducible refine Kept.then_ (by with_reducible assumption) ?_) | (with_reducible refine Kept.thenS (by with_reducible assumption) ?_) | (with_reducible refine Kept.alloc ?_ _) | (with_reducible refine Kept.drew ?_) | (with_reducible refine Kept.drewN ?_ _) | (with_reducible refine Kept.setNew ?_ ?_ _) | ((try simp only [World.size_alloc, World.size_setCell, World.size_drew, size_drewN] at *); (try dsimp only); omega)))) (Nat.le_refl _) (by simp only [World.size_alloc]; omega) (by have := HL.out; simp; omega) ?_)
        intro A1 n1 c1 w6 hn1 own1 hk6 hg6 hs6 hc1 hr1
        try simp only [List.nil_append] at own1 hr1 hn1
        clear hg6
        go_wp2_with (refine append_u64 rfl (.tmp 75) (.tmp 76) rfl W W.heap.size _ ys [2] rfl (own1.kept (by (repeat' (first | (with_reducible exact Kept.refl _ _) | (with_reducible assumption) | (with_reducible refine Kept.then_ (by with_reducible assumption) ?_) | (with_reducible refine Kept.thenS (by with_reducible assumption) ?_) | (with_reducible refine Kept.alloc ?_ _) | (with_reducible refine Kept.drew ?_) | (with_reducible refine Kept.drewN ?_ _) | (with_reducible refine Kept.setNew ?_ ?_ _) | ((try simp only [World.size_alloc, World.size_setCell, World.size_drew, size_drewN] at *); (try dsimp only); omega))))) _ _ _ rfl rfl (fun h => by cases h) (one_row (Blk.new _ _ _)) (by (repeat' (first | (with_reducible exact Kept.refl _ _) | (with_reducible assumption) | (with_reducible refine Kept.then_ (by with_reducible assumption) ?_) | (with_reducible refine Kept.thenS (by with_reducible assumption) ?_) | (with_reducible refine Kept.alloc ?_ _) | (with_reducible refine Kept.drew ?_) | (with_reducible refine Kept.drewN ?_ _) | (with_reducible refine Kept.setNew ?_ ?_ _) | ((try simp only [World.size_alloc, World.size_setCell, World.size_drew, size_drewN] at *); (try dsimp only); omega)))) (Nat.le_refl _) (by simp only [World.size_alloc]; omega) (by have := HL.out; simp; omega) ?_)
        intro A2 n2 c2 w7 hn2 own2 hk7 hg7 hs7 hc2 hr2
        clear hg7 own1 own2 hr1 hn1
        have hn2' : n2 = (ys ++ [2]).length := by have := hn2.out; simp at this ⊢; omega
        rcases HT.out with ⟨t1, t2⟩ | ⟨t1, t2, t3, t4⟩ | ⟨t1, t2, t3, t4, t5⟩
        · have t0 : (E == 0) = false := by simpa using t1
          have C6 := Lib.hid (C5.out A2 c2 n2 _ 3 w7 hn2' rfl t2 hr2)
          generalize mulV (ys ++ [2]) = V2 at *
          clear hr2 hn2' t1 t2 HT
          go_wp2_with fail
          (with_reducible refine (C6.out).mono ?_)
          rintro e w8 ⟨rfl, hb8⟩
          have hs8 := hb8.size
          (try simp only [World.size_alloc, World.size_setCell, World.size_drew, size_drewN] at hs8)
          go_wp2_with fail
          go_ret
          exact ⟨rfl, Kept.below (by (repeat' (first | (with_reducible exact Kept.refl _ _) | (with_reducible assumption) | (with_reducible refine Kept.then_ (by with_reducible assumption) ?_) | (with_reducible refine Kept.thenS (by with_reducible assumption) ?_) | (with_reducible refine Kept.alloc ?_ _) | (with_reducible refine Kept.drew ?_) | (with_reducible refine Kept.drewN ?_ _) | (with_reducible refine Kept.setNew ?_ ?_ _) | ((try simp only [World.size_alloc, World.size_setCell, World.size_drew, size_drewN] at *); (try dsimp only); omega))))⟩
        · have C6 := Lib.hid (C5.out A2 c2 n2 _ _ w7 hn2' t3 t4 hr2)
          subst t1
          clear hr2 hn2' t3 t4 HT
          go_wp2_with fail
          (with_reducible refine (C6.out).mono ?_)
          rintro e w8 ⟨rfl, hb8⟩
          have hs8 := hb8.size
          (try simp only [World.size_alloc, World.size_setCell, World.size_drew, size_drewN] at hs8)
          go_wp2_with fail
          go_ret
          exact ⟨rfl, Kept.below (by (repeat' (first | (with_reducible exact Kept.refl _ _) | (with_reducible assumption) | (with_reducible refine Kept.then_ (by with_reducible assumption) ?_) | (with_reducible refine Kept.thenS (by with_reducible assumption) ?_) | (with_reducible refine Kept.alloc ?_ _) | (with_reducible refine Kept.drew ?_) | (with_reducible refine Kept.drewN ?_ _) | (with_reducible refine Kept.setNew ?_ ?_ _) | ((try simp only [World.size_alloc, World.size_setCell, World.size_drew, size_drewN] at *); (try dsimp only); omega))))⟩
        · have C6 := Lib.hid (C5.out A2 c2 n2 _ _ w7 hn2' t4 t5 hr2)
          subst t1
          clear hr2 hn2' t4 t5 HT
          go_wp2_with fail
          (with_reducible refine (C6.out).mono ?_)
          rintro e w8 ⟨rfl, hb8⟩
          have hs8 := hb8.size
          (try simp only [World.size_alloc, World.size_setCell, World.size_drew, size_drewN] at hs8)
          go_wp2_with fail
          go_ret
          exact ⟨rfl, Kept.below (by (repeat' (first | (with_reducible exact Kept.refl _ _) | (with_reducible assumption) | (with_reducible refine Kept.then_ (by with_reducible assumption) ?_) | (with_reducible refine Kept.thenS (by with_reducible assumption) ?_) | (with_reducible refine Kept.alloc ?_ _) | (with_reducible refine Kept.drew ?_) | (with_reducible refine Kept.drewN ?_ _) | (with_reducible refine Kept.setNew ?_ ?_ _) | ((try simp only [World.size_alloc, World.size_setCell, World.size_drew, size_drewN] at *); (try dsimp only); omega))))⟩
      · have hca' : (ea == 0) = false := by simpa using hca
        go_enter Try.func3, Try.ntmps3
        go_wp2_with fail
        (with_reducible refine (alive_any _).mono ?_)
        rintro e w1 ⟨rfl, hb1⟩
        have hs1 := hb1.size
        (try simp only [World.size_alloc, World.size_setCell, World.size_drew, size_drewN] at hs1)
        go_wp2_with fail
        (with_reducible refine (C1.out _ (by (repeat' (first | (with_reducible exact Kept.refl _ _) | (with_reducible assumption) | (with_reducible refine Kept.then_ (by with_reducible assumption) ?_) | (with_reducible refine Kept.thenS (by with_reducible assumption) ?_) | (with_reducible refine Kept.alloc ?_ _) | (with_reducible refine Kept.drew ?_) | (with_reducible refine Kept.drewN ?_ _) | (with_reducible refine Kept.setNew ?_ ?_ _) | ((try simp only [World.size_alloc, World.size_setCell, World.size_drew, size_drewN] at *); (try dsimp only); omega))))).mono ?_)
        rintro e w2 ⟨rfl, hb2⟩
        have hs2 := hb2.size
        (try simp only [World.size_alloc, World.size_setCell, World.size_drew, size_drewN] at hs2)
        go_wp2_with fail
        (with_reducible refine (C2.out _ (by (repeat' (first | (with_reducible exact Kept.refl _ _) | (with_reducible assumption) | (with_reducible refine Kept.then_ (by with_reducible assumption) ?_) | (with_reducible refine Kept.thenS (by with_reducible assumption) ?_) | (with_reducible refine Kept.alloc ?_ _) | (with_reducible refine Kept.drew ?_) | (with_reducible refine Kept.drewN ?_ _) | (with_reducible refine Kept.setNew ?_ ?_ _) | ((try simp only [World.size_alloc, World.size_setCell, World.size_drew, size_drewN] at *); (try dsimp only); omega))))).mono ?_)
        rintro e w3 ⟨rfl, hb3⟩
        have hs3 := hb3.size
        (try simp only [World.size_alloc, World.size_setCell, World.size_drew, size_drewN] at hs3)
        go_wp2_with fail
        (with_reducible refine (C3.out _ _ _ _ rfl (HD.out.keep (by (repeat' (first | (with_reducible exact Kept.refl _ _) | (with_reducible assumption) | (with_reducible refine Kept.then_ (by with_reducible assumption) ?_) | (with_reducible refine Kept.thenS (by with_reducible assumption) ?_) | (with_reducible refine Kept.alloc ?_ _) | (with_reducible refine Kept.drew ?_) | (with_reducible refine Kept.drewN ?_ _) | (with_reducible refine Kept.setNew ?_ ?_ _) | ((try simp only [World.size_alloc, World.size_setCell, World.size_drew, size_drewN] at *); (try dsimp only); omega)))))).mono ?_)
        rintro e w4 ⟨rfl, hb4⟩
        have hs4 := hb4.size
        (try simp only [World.size_alloc, World.size_setCell, World.size_drew, size_drewN] at hs4)
        go_wp2_with (refine append_u64 rfl (.tmp 73) (.tmp 74) rfl W W.heap.size _ [] ys rfl (OwnI.made _ (by omega)) (some ad) _ _ HL.out.symm rfl hcap (HR.out.keep (by (repeat' (first | (with_reducible exact Kept.refl _ _) | (with_reducible assumption) | (with_reducible refine Kept.then_ (by with_reducible assumption) ?_) | (with_reducible refine Kept.thenS (by with_reducible assumption) ?_) | (with_reducible refine Kept.alloc ?_ _) | (with_reducible refine Kept.drew ?_) | (with_reducible refine Kept.drewN ?_ _) | (with_reducible refine Kept.setNew ?_ ?_ _) | ((try simp only [World.size_alloc, World.size_setCell, World.size_drew, size_drewN] at *); (try dsimp only); omega))))) (by (repeat' (first | (with_reducible exact Kept.refl _ _) | (with_reducible assumption) | (with_reducible refine Kept.then_ (by with_reducible assumption) ?_) | (with_reducible refine Kept.thenS (by with_reducible assumption) ?_) | (with_reducible refine Kept.alloc ?_ _) | (with_reducible refine Kept.drew ?_) | (with_reducible refine Kept.drewN ?_ _) | (with_reducible refine Kept.setNew ?_ ?_ _) | ((try simp only [World.size_alloc, World.size_setCell, World.size_drew, size_drewN] at *); (try dsimp only); omega)))) (Nat.le_refl _) (by simp only [World.size_alloc]; omega) (by have := HL.out; simp; omega) ?_)
        intro A1 n1 c1 w6 hn1 own1 hk6 hg6 hs6 hc1 hr1
        try simp only [List.nil_append] at own1 hr1 hn1
        clear hg6
        go_wp2_with (refine append_u64 rfl (.tmp 75) (.tmp 76) rfl W W.heap.size _ ys [2] rfl (own1.kept (by (repeat' (first | (with_reducible exact Kept.refl _ _) | (with_reducible assumption) | (with_reducible refine Kept.then_ (by with_reducible assumption) ?_) | (with_reducible refine Kept.thenS (by with_reducible assumption) ?_) | (with_reducible refine Kept.alloc ?_ _) | (with_reducible refine Kept.drew ?_) | (with_reducible refine Kept.drewN ?_ _) | (with_reducible refine Kept.setNew ?_ ?_ _) | ((try simp only [World.size_alloc, World.size_setCell, World.size_drew, size_drewN] at *); (try dsimp only); omega))))) _ _ _ rfl rfl (fun h => by cases h) (one_row (Blk.new _ _ _)) (by (repeat' (first | (with_reducible exact Kept.refl _ _) | (with_reducible assumption) | (with_reducible refine Kept.then_ (by with_reducible assumption) ?_) | (with_reducible refine Kept.thenS (by with_reducible assumption) ?_) | (with_reducible refine Kept.alloc ?_ _) | (with_reducible refine Kept.drew ?_) | (with_reducible refine Kept.drewN ?_ _) | (with_reducible refine Kept.setNew ?_ ?_ _) | ((try simp only [World.size_alloc, World.size_setCell, World.size_drew, size_drewN] at *); (try dsimp only); omega)))) (Nat.le_refl _) (by simp only [World.size_alloc]; omega) (by have := HL.out; simp; omega) ?_)
        intro A2 n2 c2 w7 hn2 own2 hk7 hg7 hs7 hc2 hr2
        clear hg7 own1 own2 hr1 hn1
        have hn2' : n2 = (ys ++ [2]).length := by have := hn2.out; simp at this ⊢; omega
        rcases HT.out with ⟨t1, t2⟩ | ⟨t1, t2, t3, t4⟩ | ⟨t1, t2, t3, t4, t5⟩
        · have t0 : (E == 0) = false := by simpa using t1
          have C6 := Lib.hid (C5.out A2 c2 n2 _ 3 w7 hn2' rfl t2 hr2)
          generalize mulV (ys ++ [2]) = V2 at *
          clear hr2 hn2' t1 t2 HT
          go_wp2_with fail
          (with_reducible refine (C6.out).mono ?_)
          rintro e w8 ⟨rfl, hb8⟩
          have hs8 := hb8.size
          (try simp only [World.size_alloc, World.size_setCell, World.size_drew, size_drewN] at hs8)
          go_wp2_with fail
          go_ret
          exact ⟨rfl, Kept.below (by (repeat' (first | (with_reducible exact Kept.refl _ _) | (with_reducible assumption) | (with_reducible refine Kept.then_ (by with_reducible assumption) ?_) | (with_reducible refine Kept.thenS (by with_reducible assumption) ?_) | (with_reducible refine Kept.alloc ?_ _) | (with_reducible refine Kept.drew ?_) | (with_reducible refine Kept.drewN ?_ _) | (with_reducible refine Kept.setNew ?_ ?_ _) | ((try simp only [World.size_alloc, World.size_setCell, World.size_drew, size_drewN] at *); (try dsimp only); omega))))⟩
        · have C6 := Lib.hid (C5.out A2 c2 n2 _ _ w7 hn2' t3 t4 hr2)
          subst t1
          clear hr2 hn2' t3 t4 HT
          go_wp2_with fail
          (with_reducible refine (C6.out).mono ?_)
          rintro e w8 ⟨rfl, hb8⟩
          have hs8 := hb8.size
          (try simp only [World.size_alloc, World.size_setCell, World.size_drew, size_drewN] at hs8)
          go_wp2_with fail
          go_ret
          exact ⟨rfl, Kept.below (by (repeat' (first | (with_reducible exact Kept.refl _ _) | (with_reducible assumption) | (with_reducible refine Kept.then_ (by with_reducible assumption) ?_) | (with_reducible refine Kept.thenS (by with_reducible assumption) ?_) | (with_reducible refine Kept.alloc ?_ _) | (with_reducible refine Kept.drew ?_) | (with_reducible refine Kept.drewN ?_ _) | (with_reducible refine Kept.setNew ?_ ?_ _) | ((try simp only [World.size_alloc, World.size_setCell, World.size_drew, size_drewN] at *); (try dsimp only); omega))))⟩
        · have C6 := Lib.hid (C5.out A2 c2 n2 _ _ w7 hn2' t4 t5 hr2)
          subst t1
          clear hr2 hn2' t4 t5 HT
          go_wp2_with fail
          (with_reducible refine (C6.out).mono ?_)
          rintro e w8 ⟨rfl, hb8⟩
          have hs8 := hb8.size
          (try simp only [World.size_alloc, World.size_setCell, World.size_drew, size_drewN] at hs8)
          go_wp2_with fail
          go_ret
          exact ⟨rfl, Kept.below (by (repeat' (first | (with_reducible exact Kept.refl _ _) | (with_reducible assumption) | (with_reducible refine Kept.then_ (by with_reducible assumption) ?_) | (with_reducible refine Kept.thenS (by with_reducible assumption) ?_) | (with_reducible refine Kept.alloc ?_ _) | (with_reducible refine Kept.drew ?_) | (with_reducible refine Kept.drewN ?_ _) | (with_reducible refine Kept.setNew ?_ ?_ _) | ((try simp only [World.size_alloc, World.size_setCell, World.size_drew, size_drewN] at *); (try dsimp only); omega))))⟩
      · have hca' : (eb == 0) = false := by simpa using hca
        go_enter Try.func3, Try.ntmps3
        go_wp2_with fail
        (with_reducible refine (alive_any _).mono ?_)
        rintro e w1 ⟨rfl, hb1⟩
        have hs1 := hb1.size
        (try simp only [World.size_alloc, World.size_setCell, World.size_drew, size_drewN] at hs1)
        go_wp2_with fail
        (with_reducible refine (C1.out _ (by (repeat' (first | (with_reducible exact Kept.refl _ _) | (with_reducible assumption) | (with_reducible refine Kept.then_ (by with_reducible assumption) ?_) | (with_reducible refine Kept.thenS (by with_reducible assumption) ?_) | (with_reducible refine Kept.alloc ?_ _) | (with_reducible refine Kept.drew ?_) | (with_reducible refine Kept.drewN ?_ _) | (with_reducible refine Kept.setNew ?_ ?_ _) | ((try simp only [World.size_alloc, World.size_setCell, World.size_drew, size_drewN] at *); (try dsimp only); omega))))).mono ?_)
        rintro e w2 ⟨rfl, hb2⟩
        have hs2 := hb2.size
        (try simp only [World.size_alloc, World.size_setCell, World.size_drew, size_drewN] at hs2)
        go_wp2_with fail
        (with_reducible refine (C2.out _ (by (repeat' (first | (with_reducible exact Kept.refl _ _) | (with_reducible assumption) | (with_reducible refine Kept.then_ (by with_reducible assumption) ?_) | (with_reducible refine Kept.thenS (by with_reducible assumption) ?_) | (with_reducible refine Kept.alloc ?_ _) | (with_reducible refine Kept.drew ?_) | (with_reducible refine Kept.drewN ?_ _) | (with_reducible refine Kept.setNew ?_ ?_ _) | ((try simp only [World.size_alloc, World.size_setCell, World.size_drew, size_drewN] at *); (try dsimp only); omega))))).mono ?_)
        rintro e w3 ⟨rfl, hb3⟩
        have hs3 := hb3.size
        (try simp only [World.size_alloc, World.size_setCell, World.size_drew, size_drewN] at hs3)
        go_wp2_with fail
        (with_reducible refine (C3.out _ _ _ _ rfl (HD.out.keep (by (repeat' (first | (with_reducible exact Kept.refl _ _) | (with_reducible assumption) | (with_reducible refine Kept.then_ (by with_reducible assumption) ?_) | (with_reducible refine Kept.thenS (by with_reducible assumption) ?_) | (with_reducible refine Kept.alloc ?_ _) | (with_reducible refine Kept.drew ?_) | (with_reducible refine Kept.drewN ?_ _) | (with_reducible refine Kept.setNew ?_ ?_ _) | ((try simp only [World.size_alloc, World.size_setCell, World.size_drew, size_drewN] at *); (try dsimp only); omega)))))).mono ?_)
        rintro e w4 ⟨rfl, hb4⟩
        have hs4 := hb4.size
        (try simp only [World.size_alloc, World.size_setCell, World.size_drew, size_drewN] at hs4)
        go_wp2_with (refine append_u64 rfl (.tmp 73) (.tmp 74) rfl W W.heap.size _ [] ys rfl (OwnI.made _ (by omega)) (some ad) _ _ HL.out.symm rfl hcap (HR.out.keep (by (repeat' (first | (with_reducible exact Kept.refl _ _) | (with_reducible assumption) | (with_reducible refine Kept.then_ (by with_reducible assumption) ?_) | (with_reducible refine Kept.thenS (by with_reducible assumption) ?_) | (with_reducible refine Kept.alloc ?_ _) | (with_reducible refine Kept.drew ?_) | (with_reducible refine Kept.drewN ?_ _) | (with_reducible refine Kept.setNew ?_ ?_ _) | ((try simp only [World.size_alloc, World.size_setCell, World.size_drew, size_drewN] at *); (try dsimp only); omega))))) (by (repeat' (first | (with_reducible exact Kept.refl _ _) | (with_reducible assumption) | (with_reducible refine Kept.then_ (by with_reducible assumption) ?_) | (with_reducible refine Kept.thenS (by with_reducible assumption) ?_) | (with_reducible refine Kept.alloc ?_ _) | (with_reducible refine Kept.drew ?_) | (with_reducible refine Kept.drewN ?_ _) | (with_reducible refine Kept.setNew ?_ ?_ _) | ((try simp only [World.size_alloc, World.size_setCell, World.size_drew, size_drewN] at *); (try dsimp only); omega)))) (Nat.le_refl _) (by simp only [World.size_alloc]; omega) (by have := HL.out; simp; omega) ?_)
        intro A1 n1 c1 w6 hn1 own1 hk6 hg6 hs6 hc1 hr1
        try simp only [List.nil_append] at own1 hr1 hn1
        clear hg6
        go_wp2_with (refine append_u64 rfl (.tmp 75) (.tmp 76) rfl W W.heap.size _ ys [2] rfl (own1.kept (by (repeat' (first | (with_reducible exact Kept.refl _ _) | (with_reducible assumption) | (with_reducible refine Kept.then_ (by with_reducible assumption) ?_) | (with_reducible refine Kept.thenS (by with_reducible assumption) ?_) | (with_reducible refine Kept.alloc ?_ _) | (with_reducible refine Kept.drew ?_) | (with_reducible refine Kept.drewN ?_ _) | (with_reducible refine Kept.setNew ?_ ?_ _) | ((try simp only [World.size_alloc, World.size_setCell, World.size_drew, size_drewN] at *); (try dsimp only); omega))))) _ _ _ rfl rfl (fun h => by cases h) (one_row (Blk.new _ _ _)) (by (repeat' (first | (with_reducible exact Kept.refl _ _) | (with_reducible assumption) | (with_reducible refine Kept.then_ (by with_reducible assumption) ?_) | (with_reducible refine Kept.thenS (by with_reducible assumption) ?_) | (with_reducible refine Kept.alloc ?_ _) | (with_reducible refine Kept.drew ?_) | (with_reducible refine Kept.drewN ?_ _) | (with_reducible refine Kept.setNew ?_ ?_ _) | ((try simp only [World.size_alloc, World.size_setCell, World.size_drew, size_drewN] at *); (try dsimp only); omega)))) (Nat.le_refl _) (by simp only [World.size_alloc]; omega) (by have := HL.out; simp; omega) ?_)
        intro A2 n2 c2 w7 hn2 own2 hk7 hg7 hs7 hc2 hr2
        clear hg7 own1 own2 hr1 hn1
        have hn2' : n2 = (ys ++ [2]).length := by have := hn2.out; simp at this ⊢; omega
        rcases HT.out with ⟨t1, t2⟩ | ⟨t1, t2, t3, t4⟩ | ⟨t1, t2, t3, t4, t5⟩
        · have t0 : (E == 0) = false := by simpa using t1
          have C6 := Lib.hid (C5.out A2 c2 n2 _ 3 w7 hn2' rfl t2 hr2)
          generalize mulV (ys ++ [2]) = V2 at *
          clear hr2 hn2' t1 t2 HT
          go_wp2_with fail
          (with_reducible refine (C6.out).mono ?_)
          rintro e w8 ⟨rfl, hb8⟩
          have hs8 := hb8.size
          (try simp only [World.size_alloc, World.size_setCell, World.size_drew, size_drewN] at hs8)
          go_wp2_with fail
          go_ret
          exact ⟨rfl, Kept.below (by (repeat' (first | (with_reducible exact Kept.refl _ _) | (with_reducible assumption) | (with_reducible refine Kept.then_ (by with_reducible assumption) ?_) | (with_reducible refine Kept.thenS (by with_reducible assumption) ?_) | (with_reducible refine Kept.alloc ?_ _) | (with_reducible refine Kept.drew ?_) | (with_reducible refine Kept.drewN ?_ _) | (with_reducible refine Kept.setNew ?_ ?_ _) | ((try simp only [World.size_alloc, World.size_setCell, World.size_drew, size_drewN] at *); (try dsimp only); omega))))⟩
        · have C6 := Lib.hid (C5.out A2 c2 n2 _ _ w7 hn2' t3 t4 hr2)
          subst t1
          clear hr2 hn2' t3 t4 HT
          go_wp2_with fail
          (with_reducible refine (C6.out).mono ?_)
          rintro e w8 ⟨rfl, hb8⟩
          have hs8 := hb8.size
          (try simp only [World.size_alloc, World.size_setCell, World.size_drew, size_drewN] at hs8)
          go_wp2_with fail
          go_ret
          exact ⟨rfl, Kept.below (by (repeat' (first | (with_reducible exact Kept.refl _ _) | (with_reducible assumption) | (with_reducible refine Kept.then_ (by with_reducible assumption) ?_) | (with_reducible refine Kept.thenS (by with_reducible assumption) ?_) | (with_reducible refine Kept.alloc ?_ _) | (with_reducible refine Kept.drew ?_) | (with_reducible refine Kept.drewN ?_ _) | (with_reducible refine Kept.setNew ?_ ?_ _) | ((try simp only [World.size_alloc, World.size_setCell, World.size_drew, size_drewN] at *); (try dsimp only); omega))))⟩
        · have C6 := Lib.hid (C5.out A2 c2 n2 _ _ w7 hn2' t4 t5 hr2)
          subst t1
          clear hr2 hn2' t4 t5 HT
          go_wp2_with fail
          (with_reducible refine (C6.out).mono ?_)
          rintro e w8 ⟨rfl, hb8⟩
          have hs8 := hb8.size
          (try simp only [World.size_alloc, World.size_setCell, World.size_drew, size_drewN] at hs8)
          go_wp2_with fail
          go_ret
          exact ⟨rfl, Kept.below (by (repeat' (first | (with_reducible exact Kept.refl _ _) | (with_reducible assumption) | (with_reducible refine Kept.then_ (by with_reducible assumption) ?_) | (with_reducible refine Kept.thenS (by with_reducible assumption) ?_) | (with_reducible refine Kept.alloc ?_ _) | (with_reducible refine Kept.drew ?_) | (with_reducible refine Kept.drewN ?_ _) | (with_reducible refine Kept.setNew ?_ ?_ _) | ((try simp only [World.size_alloc, World.size_setCell, World.size_drew, size_drewN] at *); (try dsimp only); omega))))⟩
    · obtain rfl : k = cap0 := by omega
      have C7 := Lib.hid (fun (A : Option Addr) (c : Nat) (w : World) => C3.out A c 0 w (by omega) (by rw [List.drop_eq_nil_of_le (by have := HL.out; omega)]; exact RowX.nil _ _ _))
      rcases hcase with ⟨rfl, rfl⟩ | hca | ⟨rfl, hca⟩
      · have HQ := HK.out rfl rfl
        go_enter Try.func3, Try.ntmps3
        go_wp2_with fail
        (with_reducible refine (alive_any _).mono ?_)
        rintro e w1 ⟨rfl, hb1⟩
        have hs1 := hb1.size
        (try simp only [World.size_alloc, World.size_setCell, World.size_drew, size_drewN] at hs1)
        go_wp2_with fail
        (with_reducible refine (C1.out _ (by (repeat' (first | (with_reducible exact Kept.refl _ _) | (with_reducible assumption) | (with_reducible refine Kept.then_ (by with_reducible assumption) ?_) | (with_reducible refine Kept.thenS (by with_reducible assumption) ?_) | (with_reducible refine Kept.alloc ?_ _) | (with_reducible refine Kept.drew ?_) | (with_reducible refine Kept.drewN ?_ _) | (with_reducible refine Kept.setNew ?_ ?_ _) | ((try simp only [World.size_alloc, World.size_setCell, World.size_drew, size_drewN] at *); (try dsimp only); omega))))).mono ?_)
        rintro e w2 ⟨rfl, hb2⟩
        have hs2 := hb2.size
        (try simp only [World.size_alloc, World.size_setCell, World.size_drew, size_drewN] at hs2)
        go_wp2_with fail
        (with_reducible refine (C2.out _ (by (repeat' (first | (with_reducible exact Kept.refl _ _) | (with_reducible assumption) | (with_reducible refine Kept.then_ (by with_reducible assumption) ?_) | (with_reducible refine Kept.thenS (by with_reducible assumption) ?_) | (with_reducible refine Kept.alloc ?_ _) | (with_reducible refine Kept.drew ?_) | (with_reducible refine Kept.drewN ?_ _) | (with_reducible refine Kept.setNew ?_ ?_ _) | ((try simp only [World.size_alloc, World.size_setCell, World.size_drew, size_drewN] at *); (try dsimp only); omega))))).mono ?_)
        rintro e w3 ⟨rfl, hb3⟩
        have hs3 := hb3.size
        (try simp only [World.size_alloc, World.size_setCell, World.size_drew, size_drewN] at hs3)
        go_wp2_with fail
        (with_reducible refine (C7.out _ _ _).mono ?_)
        rintro e w4 ⟨rfl, hb4⟩
        have hs4 := hb4.size
        (try simp only [World.size_alloc, World.size_setCell, World.size_drew, size_drewN] at hs4)
        go_wp2_with fail
        (with_reducible refine (HQ.out _ _ _ (Blk.new _ _ _)).mono ?_)
        rintro e w5 ⟨rfl, hb5⟩
        have hs5 := hb5.size
        (try simp only [World.size_alloc, World.size_setCell, World.size_drew, size_drewN] at hs5)
        go_wp2_with (refine append_u64 rfl (.tmp 73) (.tmp 74) rfl W W.heap.size _ [] ys rfl (OwnI.made _ (by omega)) (some ad) _ _ HL.out.symm rfl hcap (HR.out.keep (by (repeat' (first | (with_reducible exact Kept.refl _ _) | (with_reducible assumption) | (with_reducible refine Kept.then_ (by with_reducible assumption) ?_) | (with_reducible refine Kept.thenS (by with_reducible assumption) ?_) | (with_reducible refine Kept.alloc ?_ _) | (with_reducible refine Kept.drew ?_) | (with_reducible refine Kept.drewN ?_ _) | (with_reducible refine Kept.setNew ?_ ?_ _) | ((try simp only [World.size_alloc, World.size_setCell, World.size_drew, size_drewN] at *); (try dsimp only); omega))))) (by (repeat' (first | (with_reducible exact Kept.refl _ _) | (with_reducible assumption) | (with_reducible refine Kept.then_ (by with_reducible assumption) ?_) | (with_reducible refine Kept.thenS (by with_reducible assumption) ?_) | (with_reducible refine Kept.alloc ?_ _) | (with_reducible refine Kept.drew ?_) | (with_reducible refine Kept.drewN ?_ _) | (with_reducible refine Kept.setNew ?_ ?_ _) | ((try simp only [World.size_alloc, World.size_setCell, World.size_drew, size_drewN] at *); (try dsimp only); omega)))) (Nat.le_refl _) (by simp only [World.size_alloc]; omega) (by have := HL.out; simp; omega) ?_)
        intro A1 n1 c1 w6 hn1 own1 hk6 hg6 hs6 hc1 hr1
        try simp only [List.nil_append] at own1 hr1 hn1
        clear hg6
        go_wp2_with (refine append_u64 rfl (.tmp 75) (.tmp 76) rfl W W.heap.size _ ys [2] rfl (own1.kept (by (repeat' (first | (with_reducible exact Kept.refl _ _) | (with_reducible assumption) | (with_reducible refine Kept.then_ (by with_reducible assumption) ?_) | (with_reducible refine Kept.thenS (by with_reducible assumption) ?_) | (with_reducible refine Kept.alloc ?_ _) | (with_reducible refine Kept.drew ?_) | (with_reducible refine Kept.drewN ?_ _) | (with_reducible refine Kept.setNew ?_ ?_ _) | ((try simp only [World.size_alloc, World.size_setCell, World.size_drew, size_drewN] at *); (try dsimp only); omega))))) _ _ _ rfl rfl (fun h => by cases h) (one_row (Blk.new _ _ _)) (by (repeat' (first | (with_reducible exact Kept.refl _ _) | (with_reducible assumption) | (with_reducible refine Kept.then_ (by with_reducible assumption) ?_) | (with_reducible refine Kept.thenS (by with_reducible assumption) ?_) | (with_reducible refine Kept.alloc ?_ _) | (with_reducible refine Kept.drew ?_) | (with_reducible refine Kept.drewN ?_ _) | (with_reducible refine Kept.setNew ?_ ?_ _) | ((try simp only [World.size_alloc, World.size_setCell, World.size_drew, size_drewN] at *); (try dsimp only); omega)))) (Nat.le_refl _) (by simp only [World.size_alloc]; omega) (by have := HL.out; simp; omega) ?_)
        intro A2 n2 c2 w7 hn2 own2 hk7 hg7 hs7 hc2 hr2
        clear hg7 own1 own2 hr1 hn1
        have hn2' : n2 = (ys ++ [2]).length := by have := hn2.out; simp at this ⊢; omega
        rcases HT.out with ⟨t1, t2⟩ | ⟨t1, t2, t3, t4⟩ | ⟨t1, t2, t3, t4, t5⟩
        · have t0 : (E == 0) = false := by simpa using t1
          have C6 := Lib.hid (C5.out A2 c2 n2 _ 3 w7 hn2' rfl t2 hr2)
          generalize mulV (ys ++ [2]) = V2 at *
          clear hr2 hn2' t1 t2 HT
          go_wp2_with fail
          (with_reducible refine (C6.out).mono ?_)
          rintro e w8 ⟨rfl, hb8⟩
          have hs8 := hb8.size
          (try simp only [World.size_alloc, World.size_setCell, World.size_drew, size_drewN] at hs8)
          go_wp2_with fail
          go_ret
          exact ⟨rfl, Kept.below (by (repeat' (first | (with_reducible exact Kept.refl _ _) | (with_reducible assumption) | (with_reducible refine Kept.then_ (by with_reducible assumption) ?_) | (with_reducible refine Kept.thenS (by with_reducible assumption) ?_) | (with_reducible refine Kept.alloc ?_ _) | (with_reducible refine Kept.drew ?_) | (with_reducible refine Kept.drewN ?_ _) | (with_reducible refine Kept.setNew ?_ ?_ _) | ((try simp only [World.size_alloc, World.size_setCell, World.size_drew, size_drewN] at *); (try dsimp only); omega))))⟩
        · have C6 := Lib.hid (C5.out A2 c2 n2 _ _ w7 hn2' t3 t4 hr2)
          subst t1
          clear hr2 hn2' t3 t4 HT
          go_wp2_with fail
          (with_reducible refine (C6.out).mono ?_)
          rintro e w8 ⟨rfl, hb8⟩
          have hs8 := hb8.size
          (try simp only [World.size_alloc, World.size_setCell, World.size_drew, size_drewN] at hs8)
          go_wp2_with fail
          go_ret
          exact ⟨rfl, Kept.below (by (repeat' (first | (with_reducible exact Kept.refl _ _) | (with_reducible assumption) | (with_reducible refine Kept.then_ (by with_reducible assumption) ?_) | (with_reducible refine Kept.thenS (by with_reducible assumption) ?_) | (with_reducible refine Kept.alloc ?_ _) | (with_reducible refine Kept.drew ?_) | (with_reducible refine Kept.drewN ?_ _) | (with_reducible refine Kept.setNew ?_ ?_ _) | ((try simp only [World.size_alloc, World.size_setCell, World.size_drew, size_drewN] at *); (try dsimp only); omega))))⟩
        · have C6 := Lib.hid (C5.out A2 c2 n2 _ _ w7 hn2' t4 t5 hr2)
          subst t1
          clear hr2 hn2' t4 t5 HT
          go_wp2_with fail
          (with_reducible refine (C6.out).mono ?_)
          rintro e w8 ⟨rfl, hb8⟩
          have hs8 := hb8.size
          (try simp only [World.size_alloc, World.size_setCell, World.size_drew, size_drewN] at hs8)
          go_wp2_with fail
          go_ret
          exact ⟨rfl, Kept.below (by (repeat' (first | (with_reducible exact Kept.refl _ _) | (with_reducible assumption) | (with_reducible refine Kept.then_ (by with_reducible assumption) ?_) | (with_reducible refine Kept.thenS (by with_reducible assumption) ?_) | (with_reducible refine Kept.alloc ?_ _) | (with_reducible refine Kept.drew ?_) | (with_reducible refine Kept.drewN ?_ _) | (with_reducible refine Kept.setNew ?_ ?_ _) | ((try simp only [World.size_alloc, World.size_setCell, World.size_drew, size_drewN] at *); (try dsimp only); omega))))⟩
      · have hca' : (ea == 0) = false := by simpa using hca
        go_enter Try.func3, Try.ntmps3
        go_wp2_with fail
        (with_reducible refine (alive_any _).mono ?_)
        rintro e w1 ⟨rfl, hb1⟩
        have hs1 := hb1.size
        (try simp only [World.size_alloc, World.size_setCell, World.size_drew, size_drewN] at hs1)
        go_wp2_with fail
        (with_reducible refine (C1.out _ (by (repeat' (first | (with_reducible exact Kept.refl _ _) | (with_reducible assumption) | (with_reducible refine Kept.then_ (by with_reducible assumption) ?_) | (with_reducible refine Kept.thenS (by with_reducible assumption) ?_) | (with_reducible refine Kept.alloc ?_ _) | (with_reducible refine Kept.drew ?_) | (with_reducible refine Kept.drewN ?_ _) | (with_reducible refine Kept.setNew ?_ ?_ _) | ((try simp only [World.size_alloc, World.size_setCell, World.size_drew, size_drewN] at *); (try dsimp only); omega))))).mono ?_)
        rintro e w2 ⟨rfl, hb2⟩
        have hs2 := hb2.size
        (try simp only [World.size_alloc, World.size_setCell, World.size_drew, size_drewN] at hs2)
        go_wp2_with fail
        (with_reducible refine (C2.out _ (by (repeat' (first | (with_reducible exact Kept.refl _ _) | (with_reducible assumption) | (with_reducible refine Kept.then_ (by with_reducible assumption) ?_) | (with_reducible refine Kept.thenS (by with_reducible assumption) ?_) | (with_reducible refine Kept.alloc ?_ _) | (with_reducible refine Kept.drew ?_) | (with_reducible refine Kept.drewN ?_ _) | (with_reducible refine Kept.setNew ?_ ?_ _) | ((try simp only [World.size_alloc, World.size_setCell, World.size_drew, size_drewN] at *); (try dsimp only); omega))))).mono ?_)
        rintro e w3 ⟨rfl, hb3⟩
        have hs3 := hb3.size
        (try simp only [World.size_alloc, World.size_setCell, World.size_drew, size_drewN] at hs3)
        go_wp2_with fail
        (with_reducible refine (C7.out _ _ _).mono ?_)
        rintro e w4 ⟨rfl, hb4⟩
        have hs4 := hb4.size
        (try simp only [World.size_alloc, World.size_setCell, World.size_drew, size_drewN] at hs4)
        go_wp2_with (refine append_u64 rfl (.tmp 73) (.tmp 74) rfl W W.heap.size _ [] ys rfl (OwnI.made _ (by omega)) (some ad) _ _ HL.out.symm rfl hcap (HR.out.keep (by (repeat' (first | (with_reducible exact Kept.refl _ _) | (with_reducible assumption) | (with_reducible refine Kept.then_ (by with_reducible assumption) ?_) | (with_reducible refine Kept.thenS (by with_reducible assumption) ?_) | (with_reducible refine Kept.alloc ?_ _) | (with_reducible refine Kept.drew ?_) | (with_reducible refine Kept.drewN ?_ _) | (with_reducible refine Kept.setNew ?_ ?_ _) | ((try simp only [World.size_alloc, World.size_setCell, World.size_drew, size_drewN] at *); (try dsimp only); omega))))) (by (repeat' (first | (with_reducible exact Kept.refl _ _) | (with_reducible assumption) | (with_reducible refine Kept.then_ (by with_reducible assumption) ?_) | (with_reducible refine Kept.thenS (by with_reducible assumption) ?_) | (with_reducible refine Kept.alloc ?_ _) | (with_reducible refine Kept.drew ?_) | (with_reducible refine Kept.drewN ?_ _) | (with_reducible refine Kept.setNew ?_ ?_ _) | ((try simp only [World.size_alloc, World.size_setCell, World.size_drew, size_drewN] at *); (try dsimp only); omega)))) (Nat.le_refl _) (by simp only [World.size_alloc]; omega) (by have := HL.out; simp; omega) ?_)
        intro A1 n1 c1 w6 hn1 own1 hk6 hg6 hs6 hc1 hr1
        try simp only [List.nil_append] at own1 hr1 hn1
        clear hg6
        go_wp2_with (refine append_u64 rfl (.tmp 75) (.tmp 76) rfl W W.heap.size _ ys [2] rfl (own1.kept (by (repeat' (first | (with_reducible exact Kept.refl _ _) | (with_reducible assumption) | (with_reducible refine Kept.then_ (by with_reducible assumption) ?_) | (with_reducible refine Kept.thenS (by with_reducible assumption) ?_) | (with_reducible refine Kept.alloc ?_ _) | (with_reducible refine Kept.drew ?_) | (with_reducible refine Kept.drewN ?_ _) | (with_reducible refine Kept.setNew ?_ ?_ _) | ((try simp only [World.size_alloc, World.size_setCell, World.size_drew, size_drewN] at *); (try dsimp only); omega))))) _ _ _ rfl rfl (fun h => by cases h) (one_row (Blk.new _ _ _)) (by (repeat' (first | (with_reducible exact Kept.refl _ _) | (with_reducible assumption) | (with_reducible refine Kept.then_ (by with_reducible assumption) ?_) | (with_reducible refine Kept.thenS (by with_reducible assumption) ?_) | (with_reducible refine Kept.alloc ?_ _) | (with_reducible refine Kept.drew ?_) | (with_reducible refine Kept.drewN ?_ _) | (with_reducible refine Kept.setNew ?_ ?_ _) | ((try simp only [World.size_alloc, World.size_setCell, World.size_drew, size_drewN] at *); (try dsimp only); omega)))) (Nat.le_refl _) (by simp only [World.size_alloc]; omega) (by have := HL.out; simp; omega) ?_)
        intro A2 n2 c2 w7 hn2 own2 hk7 hg7 hs7 hc2 hr2
        clear hg7 own1 own2 hr1 hn1
        have hn2' : n2 = (ys ++ [2]).length := by have := hn2.out; simp at this ⊢; omega
        rcases HT.out with ⟨t1, t2⟩ | ⟨t1, t2, t3, t4⟩ | ⟨t1, t2, t3, t4, t5⟩
        · have t0 : (E == 0) = false := by simpa using t1
          have C6 := Lib.hid (C5.out A2 c2 n2 _ 3 w7 hn2' rfl t2 hr2)
          generalize mulV (ys ++ [2]) = V2 at *
          clear hr2 hn2' t1 t2 HT
          go_wp2_with fail
          (with_reducible refine (C6.out).mono ?_)
          rintro e w8 ⟨rfl, hb8⟩
          have hs8 := hb8.size
          (try simp only [World.size_alloc, World.size_setCell, World.size_drew, size_drewN] at hs8)
          go_wp2_with fail
          go_ret
          exact ⟨rfl, Kept.below (by (repeat' (first | (with_reducible exact Kept.refl _ _) | (with_reducible assumption) | (with_reducible refine Kept.then_ (by with_reducible assumption) ?_) | (with_reducible refine Kept.thenS (by with_reducible assumption) ?_) | (with_reducible refine Kept.alloc ?_ _) | (with_reducible refine Kept.drew ?_) | (with_reducible refine Kept.drewN ?_ _) | (with_reducible refine Kept.setNew ?_ ?_ _) | ((try simp only [World.size_alloc, World.size_setCell, World.size_drew, size_drewN] at *); (try dsimp only); omega))))⟩
        · have C6 := Lib.hid (C5.out A2 c2 n2 _ _ w7 hn2' t3 t4 hr2)
          subst t1
          clear hr2 hn2' t3 t4 HT
          go_wp2_with fail
          (with_reducible refine (C6.out).mono ?_)
          rintro e w8 ⟨rfl, hb8⟩
          have hs8 := hb8.size
          (try simp only [World.size_alloc, World.size_setCell, World.size_drew, size_drewN] at hs8)
          go_wp2_with fail
          go_ret
          exact ⟨rfl, Kept.below (by (repeat' (first | (with_reducible exact Kept.refl _ _) | (with_reducible assumption) | (with_reducible refine Kept.then_ (by with_reducible assumption) ?_) | (with_reducible refine Kept.thenS (by with_reducible assumption) ?_) | (with_reducible refine Kept.alloc ?_ _) | (with_reducible refine Kept.drew ?_) | (with_reducible refine Kept.drewN ?_ _) | (with_reducible refine Kept.setNew ?_ ?_ _) | ((try simp only [World.size_alloc, World.size_setCell, World.size_drew, size_drewN] at *); (try dsimp only); omega))))⟩
        · have C6 := Lib.hid (C5.out A2 c2 n2 _ _ w7 hn2' t4 t5 hr2)
          subst t1
          clear hr2 hn2' t4 t5 HT
          go_wp2_with fail
          (with_reducible refine (C6.out).mono ?_)
          rintro e w8 ⟨rfl, hb8⟩
          have hs8 := hb8.size
          (try simp only [World.size_alloc, World.size_setCell, World.size_drew, size_drewN] at hs8)
          go_wp2_with fail
          go_ret
          exact ⟨rfl, Kept.below (by (repeat' (first | (with_reducible exact Kept.refl _ _) | (with_reducible assumption) | (with_reducible refine Kept.then_ (by with_reducible assumption) ?_) | (with_reducible refine Kept.thenS (by with_reducible assumption) ?_) | (with_reducible refine Kept.alloc ?_ _) | (with_reducible refine Kept.drew ?_) | (with_reducible refine Kept.drewN ?_ _) | (with_reducible refine Kept.setNew ?_ ?_ _) | ((try simp only [World.size_alloc, World.size_setCell, World.size_drew, size_drewN] at *); (try dsimp only); omega))))⟩
      · have hca' : (eb == 0) = false := by simpa using hca
        go_enter Try.func3, Try.ntmps3
        go_wp2_with fail
        (with_reducible refine (alive_any _).mono ?_)
        rintro e w1 ⟨rfl, hb1⟩
        have hs1 := hb1.size
        (try simp only [World.size_alloc, World.size_setCell, World.size_drew, size_drewN] at hs1)
        go_wp2_with fail
        (with_reducible refine (C1.out _ (by (repeat' (first | (with_reducible exact Kept.refl _ _) | (with_reducible assumption) | (with_reducible refine Kept.then_ (by with_reducible assumption) ?_) | (with_reducible refine Kept.thenS (by with_reducible assumption) ?_) | (with_reducible refine Kept.alloc ?_ _) | (with_reducible refine Kept.drew ?_) | (with_reducible refine Kept.drewN ?_ _) | (with_reducible refine Kept.setNew ?_ ?_ _) | ((try simp only [World.size_alloc, World.size_setCell, World.size_drew, size_drewN] at *); (try dsimp only); omega))))).mono ?_)
        rintro e w2 ⟨rfl, hb2⟩
        have hs2 := hb2.size
        (try simp only [World.size_alloc, World.size_setCell, World.size_drew, size_drewN] at hs2)
        go_wp2_with fail
        (with_reducible refine (C2.out _ (by (repeat' (first | (with_reducible exact Kept.refl _ _) | (with_reducible assumption) | (with_reducible refine Kept.then_ (by with_reducible assumption) ?_) | (with_reducible refine Kept.thenS (by with_reducible assumption) ?_) | (with_reducible refine Kept.alloc ?_ _) | (with_reducible refine Kept.drew ?_) | (with_reducible refine Kept.drewN ?_ _) | (with_reducible refine Kept.setNew ?_ ?_ _) | ((try simp only [World.size_alloc, World.size_setCell, World.size_drew, size_drewN] at *); (try dsimp only); omega))))).mono ?_)
        rintro e w3 ⟨rfl, hb3⟩
        have hs3 := hb3.size
        (try simp only [World.size_alloc, World.size_setCell, World.size_drew, size_drewN] at hs3)
        go_wp2_with fail
        (with_reducible refine (C7.out _ _ _).mono ?_)
        rintro e w4 ⟨rfl, hb4⟩
        have hs4 := hb4.size
        (try simp only [World.size_alloc, World.size_setCell, World.size_drew, size_drewN] at hs4)
        go_wp2_with (refine append_u64 rfl (.tmp 73) (.tmp 74) rfl W W.heap.size _ [] ys rfl (OwnI.made _ (by omega)) (some ad) _ _ HL.out.symm rfl hcap (HR.out.keep (by (repeat' (first | (with_reducible exact Kept.refl _ _) | (with_reducible assumption) | (with_reducible refine Kept.then_ (by with_reducible assumption) ?_) | (with_reducible refine Kept.thenS (by with_reducible assumption) ?_) | (with_reducible refine Kept.alloc ?_ _) | (with_reducible refine Kept.drew ?_) | (with_reducible refine Kept.drewN ?_ _) | (with_reducible refine Kept.setNew ?_ ?_ _) | ((try simp only [World.size_alloc, World.size_setCell, World.size_drew, size_drewN] at *); (try dsimp only); omega))))) (by (repeat' (first | (with_reducible exact Kept.refl _ _) | (with_reducible assumption) | (with_reducible refine Kept.then_ (by with_reducible assumption) ?_) | (with_reducible refine Kept.thenS (by with_reducible assumption) ?_) | (with_reducible refine Kept.alloc ?_ _) | (with_reducible refine Kept.drew ?_) | (with_reducible refine Kept.drewN ?_ _) | (with_reducible refine Kept.setNew ?_ ?_ _) | ((try simp only [World.size_alloc, World.size_setCell, World.size_drew, size_drewN] at *); (try dsimp only); omega)))) (Nat.le_refl _) (by simp only [World.size_alloc]; omega) (by have := HL.out; simp; omega) ?_)
        intro A1 n1 c1 w6 hn1 own1 hk6 hg6 hs6 hc1 hr1
        try simp only [List.nil_append] at own1 hr1 hn1
        clear hg6
        go_wp2_with (refine append_u64 rfl (.tmp 75) (.tmp 76) rfl W W.heap.size _ ys [2] rfl (own1.kept (by (repeat' (first | (with_reducible exact Kept.refl _ _) | (with_reducible assumption) | (with_reducible refine Kept.then_ (by with_reducible assumption) ?_) | (with_reducible refine Kept.thenS (by with_reducible assumption) ?_) | (with_reducible refine Kept.alloc ?_ _) | (with_reducible refine Kept.drew ?_) | (with_reducible refine Kept.drewN ?_ _) | (with_reducible refine Kept.setNew ?_ ?_ _) | ((try simp only [World.size_alloc, World.size_setCell, World.size_drew, size_drewN] at *); (try dsimp only); omega))))) _ _ _ rfl rfl (fun h => by cases h) (one_row (Blk.new _ _ _)) (by (repeat' (first | (with_reducible exact Kept.refl _ _) | (with_reducible assumption) | (with_reducible refine Kept.then_ (by with_reducible assumption) ?_) | (with_reducible refine Kept.thenS (by with_reducible assumption) ?_) | (with_reducible refine Kept.alloc ?_ _) | (with_reducible refine Kept.drew ?_) | (with_reducible refine Kept.drewN ?_ _) | (with_reducible refine Kept.setNew ?_ ?_ _) | ((try simp only [World.size_alloc, World.size_setCell, World.size_drew, size_drewN] at *); (try dsimp only); omega)))) (Nat.le_refl _) (by simp only [World.size_alloc]; omega) (by have := HL.out; simp; omega) ?_)
        intro A2 n2 c2 w7 hn2 own2 hk7 hg7 hs7 hc2 hr2
        clear hg7 own1 own2 hr1 hn1
        have hn2' : n2 = (ys ++ [2]).length := by have := hn2.out; simp at this ⊢; omega
        rcases HT.out with ⟨t1, t2⟩ | ⟨t1, t2, t3, t4⟩ | ⟨t1, t2, t3, t4, t5⟩
        · have t0 : (E == 0) = false := by simpa using t1
          have C6 := Lib.hid (C5.out A2 c2 n2 _ 3 w7 hn2' rfl t2 hr2)
          generalize mulV (ys ++ [2]) = V2 at *
          clear hr2 hn2' t1 t2 HT
          go_wp2_with fail
          (with_reducible refine (C6.out).mono ?_)
          rintro e w8 ⟨rfl, hb8⟩
          have hs8 := hb8.size
          (try simp only [World.size_alloc, World.size_setCell, World.size_drew, size_drewN] at hs8)
          go_wp2_with fail
          go_ret
          exact ⟨rfl, Kept.below (by (repeat' (first | (with_reducible exact Kept.refl _ _) | (with_reducible assumption) | (with_reducible refine Kept.then_ (by with_reducible assumption) ?_) | (with_reducible refine Kept.thenS (by with_reducible assumption) ?_) | (with_reducible refine Kept.alloc ?_ _) | (with_reducible refine Kept.drew ?_) | (with_reducible refine Kept.drewN ?_ _) | (with_reducible refine Kept.setNew ?_ ?_ _) | ((try simp only [World.size_alloc, World.size_setCell, World.size_drew, size_drewN] at *); (try dsimp only); omega))))⟩
        · have C6 := Lib.hid (C5.out A2 c2 n2 _ _ w7 hn2' t3 t4 hr2)
          subst t1
          clear hr2 hn2' t3 t4 HT
          go_wp2_with fail
          (with_reducible refine (C6.out).mono ?_)
          rintro e w8 ⟨rfl, hb8⟩
          have hs8 := hb8.size
          (try simp only [World.size_alloc, World.size_setCell, World.size_drew, size_drewN] at hs8)
          go_wp2_with fail
          go_ret
          exact ⟨rfl, Kept.below (by (repeat' (first | (with_reducible exact Kept.refl _ _) | (with_reducible assumption) | (with_reducible refine Kept.then_ (by with_reducible assumption) ?_) | (with_reducible refine Kept.thenS (by with_reducible assumption) ?_) | (with_reducible refine Kept.alloc ?_ _) | (with_reducible refine Kept.drew ?_) | (with_reducible refine Kept.drewN ?_ _) | (with_reducible refine Kept.setNew ?_ ?_ _) | ((try simp only [World.size_alloc, World.size_setCell, World.size_drew, size_drewN] at *); (try dsimp only); omega))))⟩
        · have C6 := Lib.hid (C5.out A2 c2 n2 _ _ w7 hn2' t4 t5 hr2)
          subst t1
          clear hr2 hn2' t4 t5 HT
          go_wp2_with fail
          (with_reducible refine (C6.out).mono ?_)
          rintro e w8 ⟨rfl, hb8⟩
          have hs8 := hb8.size
          (try simp only [World.size_alloc, World.size_setCell, World.size_drew, size_drewN] at hs8)
          go_wp2_with fail
          go_ret
          exact ⟨rfl, Kept.below (by (repeat' (first | (with_reducible exact Kept.refl _ _) | (with_reducible assumption) | (with_reducible refine Kept.then_ (by with_reducible assumption) ?_) | (with_reducible refine Kept.thenS (by with_reducible assumption) ?_) | (with_reducible refine Kept.alloc ?_ _) | (with_reducible refine Kept.drew ?_) | (with_reducible refine Kept.drewN ?_ _) | (with_reducible refine Kept.setNew ?_ ?_ _) | ((try simp only [World.size_alloc, World.size_setCell, World.size_drew, size_drewN] at *); (try dsimp only); omega))))⟩
  · have hq : 100 < (len0 : Int) ∨ len0 = 0 := by omega
    rcases hq with hq | rfl <;>
    · go_enter Try.func3, Try.ntmps3
      go_wp2_with fail
      (with_reducible refine (alive_any _).mono ?_)
      rintro e w1 ⟨rfl, hb1⟩
      have hs1 := hb1.size
      (try simp only [World.size_alloc, World.size_setCell, World.size_drew, size_drewN] at hs1)
      go_wp2_with fail
      go_ret
      exact ⟨rfl, Kept.below (by (repeat' (first | (with_reducible exact Kept.refl _ _) | (with_reducible assumption) | (with_reducible refine Kept.then_ (by with_reducible assumption) ?_) | (with_reducible refine Kept.thenS (by with_reducible assumption) ?_) | (with_reducible refine Kept.alloc ?_ _) | (with_reducible refine Kept.drew ?_) | (with_reducible refine Kept.drewN ?_ _) | (with_reducible refine Kept.setNew ?_ ?_ _) | ((try simp only [World.size_alloc, World.size_setCell, World.size_drew, size_drewN] at *); (try dsimp only); omega))))⟩
theorem own : ownKnob Try.prog.godebug = none := by kernel_rfl
theorem laidOut : laidOutB Try.prog = true := by kernel_rfl
set_option maxRecDepth 100000 in
theorem lifted (os : Os) (started : os.Started) (H : Type) (enc : TypeId × Value → H) :
    ReturnsInHanded {} Try.checked os 3 .any (Rows.calcPartsSpec.pre6 enc Try.prog Try.f3 Rows.calcPartsRow.domain false) (Rows.calcPartsSpec.post enc Try.prog Try.f3 false true false false) := by
  refine returnsInHanded_of_change (C := Try.checked) own started (by kernel_rfl) Try.func3
    (ChangeSpec.witness6 (enc := enc) (C := Try.checked) false ⟨#[], #[.slice none 0 0, .int .u8 0], []⟩ 8 (by kernel_rfl) (by kernel_rfl) (by kernel_rfl) (by kernel_rfl)) ?_
  intro W base args ds gs before hval0 hW hcnd _
  have hval : ∀ (j : Nat) t v, Try.f3.params[j]? = some t → args[j]? = some v → Value.okWide Try.prog W .any base t v := hval0
  have hW' := hW
  obtain ⟨p, q, hA0, hV, rfl, hfz, hnd⟩ := hW
  have hA : DataW.TrodAll enc Try.prog W 0 (fun _ => true) true Try.f3.params.toList args.toList ds p := hA0
  rw [Try.params3] at hA hval
  obtain ⟨v0, vs0, d0, ds0, p0, q0, hargs, rfl, rfl, h0, r0⟩ := trodAll_cons hA
  obtain ⟨v1, vs1, d1, ds1, p1, q1, rfl, rfl, rfl, h1, r1⟩ := trodAll_cons r0
  obtain ⟨rfl, rfl, rfl⟩ := trodAll_nil r1
  obtain rfl : args = #[v0, v1] := by cases args; simp_all
  obtain ⟨rfl, rfl⟩ := trodVars_none hV
  have k0 := h0
  have lt0 : ∀ x ∈ p0, x.block < W.heap.size := by obtain ⟨m, hm⟩ := k0; exact DataW.trod_lt m _ _ _ hm
  obtain ⟨a0, len0, cap0, rfl⟩ := okWide_slice Try.underlying22 (hval 0 22 v0 rfl rfl)
  obtain ⟨z0, w0⟩ := isRow_of Try.underlying22 Try.underlying24 (by kernel_rfl) h0
  obtain ⟨a1, rfl, rfl, rfl, w1⟩ := open_int Try.underlying5 (hval 1 5 v1 rfl rfl) h1
  clear hA0 hval0
  refine (walk a0 len0 cap0 z0 a1 W w0 w1).mono fun e W' ⟨he, bel⟩ => ?_
  subst he
  exact ⟨_, rfl, _, _, _, [], _, [], hW', trodAll_mk1 (shut_bool Try.underlying4 _), (trodAll_cons_mk (Below.trod laidOut (by kernel_rfl) (of_decide_eq_true (by kernel_rfl)) k0 bel lt0) (trodAll_cons_mk (shut_int Try.underlying5 w1) trodAll_mk0)), rfl, bel.frame _, fun h => by cases h⟩
theorem over : Rows.calcPartsRow.holds Try.pinned (OpenSpec.ofChange Rows.calcPartsSpec) :=
  OpenClaim.holds_of_wide 3 Try.f3 rfl rfl rfl rfl rfl rfl rfl ⟨rfl, rfl, rfl, rfl, rfl⟩ rfl rfl rfl rfl rfl (by kernel_rfl) Try.func3 (by kernel_rfl)
    (of_decide_eq_true (by kernel_rfl)) (by unfold Func.isWrapper; first | (rw [if_pos (by decide +kernel)]; kernel_rfl) | (rw [if_neg (by decide +kernel)]; exact ⟨rfl, rfl⟩))
    (fun os started H enc _ => lifted os started H enc)
theorem proved : Rows.CalcPartsSaid := over
#print axioms proved
end Go.Proofs.Ytnooelpdoeijbaa.CalcParts
