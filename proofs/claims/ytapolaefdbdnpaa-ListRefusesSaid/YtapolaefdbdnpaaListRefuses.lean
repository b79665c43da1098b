/- What is at 0, or beyond memory, isn't pushed; what is ahead of it is; the rest of the row isn't. No condition. -/
import Derived.Test.YtapolaefdbdnpaaListH
set_option linter.unusedVariables false
set_option linter.unusedSimpArgs false
namespace Go.Proofs.Ytapolaefdbdnpaa.ListRefuses
open Go.RowKit Go.ChangeShapes Go.WideShapes Go.ChangeAt Go.Joins
set_option maxRecDepth 100000 in
set_option maxHeartbeats 4000000 in
theorem walk0 (a0 : Option Addr) (cap0 : Nat) (a2 : Option Addr) (cap2 : Nat) (ys0 ys2 zs : List Int) (W : World)  (HU : Hid (∀ z, z ∈ ys0 → 0 ≤ z ∧ z ≤ 255)) (HU2 : Hid (∀ z, z ∈ ys2 → 0 ≤ z ∧ z ≤ 255)) (HR : Hid (RowX .u8 W a0 ys0)) (HR2 : Hid (RowX .u8 W a2 ys2)) (hl0 : ys0.length ≤ 9223372036854775807) (hl2 : ys2.length ≤ 9223372036854775807)
    (HZL : Hid (zs.length = 2048)) (C1 : Hid (∀ w : World, Calls Try.prog 11 #[.int .u64 2048] w fun e w' => e = .returned (.tuple #[.pointer (some ⟨w.heap.size + 1, 0, none⟩), .int .i64 0]) ∧ MemB w' (w.heap.size + 1) w.heap.size zs ∧ Kept [] w w')) :
    Calls Try.prog 4 #[.slice a0 ys0.length cap0, .int .u64 0, .slice a2 ys2.length cap2] W fun e W' => e = .returned (.bool true) ∧ Below W.heap.size W W' := by
  go_enter Try.func4, Try.ntmps4
  go_wp2_with fail
  (with_reducible refine (alive_any _).mono ?_)
  rintro e w1 ⟨rfl, hb1⟩
  have hs1 := hb1.size
  (try simp only [World.size_alloc, World.size_setCell, World.size_drew, size_drewN] at hs1)
  go_wp2_with fail
  (with_reducible refine (C1.out _).mono ?_)
  rintro e w2 ⟨rfl, hM2, hb2⟩
  have hs2 := hb2.size
  (try simp only [World.size_alloc, World.size_setCell, World.size_drew, size_drewN] at hs2)
  have M2 := Lib.hid hM2
  have hg2 := hM2.2.1.lt
  clear hM2
  (try simp only [size_drewN, World.size_drew] at M2 hg2)
  have hp2 := M2.out.1.lt
  go_wp2_with fail
  (with_reducible refine (blocks_any _ _ _ HU.out _ (HR.out.keep (hb1.trans0 hb2)) (by omega)).mono ?_)
  rintro e w3 ⟨⟨A, n, c, ns, rfl, hbl, rfl, hO3, hA3⟩, hb3⟩
  have hs3 := hb3.size
  (try simp only [World.size_alloc, World.size_setCell, World.size_drew, size_drewN] at hs3)
  have O3 := Lib.hid hO3
  clear hO3
  (try simp only [size_drewN, World.size_drew] at O3)
  have M3 := Lib.hid (M2.out.keep0 hb3)
  obtain ⟨xs, rfl, hv, hpw⟩ := hbl.nats
  rw [List.length_map]
  have hlen := hbl.len
  rw [List.length_map] at hlen
  have HV := Lib.hid hv
  have K3 : Hid (Kept [] W w3) := Lib.hid (by (repeat' (first | (with_reducible exact Kept.refl _ _) | (with_reducible assumption) | (with_reducible refine Kept.then_ (by with_reducible assumption) ?_) | (with_reducible refine Kept.thenS (by with_reducible assumption) ?_) | (with_reducible refine Kept.thenG (by with_reducible assumption) ?_ ?_) | (with_reducible refine Kept.thenG2 (by with_reducible assumption) ?_ ?_ ?_) | (with_reducible refine Kept.alloc ?_ _) | (with_reducible refine Kept.drew ?_) | (with_reducible refine Kept.drewN ?_ _) | (with_reducible refine Kept.setNew ?_ ?_ _) | ((try simp only [World.size_alloc, World.size_setCell, World.size_drew, size_drewN] at *); (try dsimp only); omega))))
  have hsW3 := K3.out.size
  have R3 := Lib.hid O3.out.row
  have HLL : Hid (xs.length ≤ 120) := Lib.hid hlen
  have HA3 := Lib.hid hA3
  clear hv hpw hbl hA3
  go_wp2_with (refine app_gen .u64 29 28 8 Try.underlying29 info_u64 (by omega) rfl (.tmp 30) (.tmp 31) rfl (w3.alloc (.cells #[.int .u64 0, .int .i64 0] 32)) (w3.heap.size + 1) _ [] (xs.map (fun (x : Nat) => (x : Int))) rfl (OwnI.made' (b := w3.heap.size + 1) _ (by simp) (by omega)) A _ c (List.length_map _).symm rfl (fun h => HA3.out h) (R3.out.keep (((Kept.refl [] w3).alloc _).alloc _)) ((Kept.refl [] _).alloc _) (by simp) (by (try simp only [World.size_alloc]); omega) (by (have := HLL.out); (simp only [List.length_nil, List.length_cons, List.length_append, List.length_map]); omega) ?_)
  intro A4 n4 c4 w4 hn4 own4 owo4 hk4 hg4 hs4 hc4 hr4
  (try simp only [List.nil_append] at hn4 own4 hr4)
  (try simp only [World.size_alloc] at hs4)
  clear hg4 owo4
  go_wp2_with (refine app_gen .u64 29 28 8 Try.underlying29 info_u64 (by omega) rfl (.tmp 32) (.tmp 34) rfl (w3.alloc (.cells #[.int .u64 0, .int .i64 0] 32)) (w3.heap.size + 1) _ (xs.map (fun (x : Nat) => (x : Int))) [0] rfl (own4.kept ((Kept.refl [] w4).alloc _)) _ _ _ rfl rfl (fun h => by cases h) (row1 (Blk.new _ _ _)) (hk4.alloc _) (by simp) (by (try simp only [World.size_alloc]); omega) (by (have := HLL.out); (simp only [List.length_nil, List.length_cons, List.length_append, List.length_map]); omega) ?_)
  intro A5 n5 c5 w5 hn5 own5 owo5 hk5 hg5 hs5 hc5 hr5
  (try simp only [List.nil_append] at hn5 own5 hr5)
  (try simp only [World.size_alloc] at hs5)
  clear hg5 owo5
  have O5 := Lib.hid own5
  have hsv5 := hk5.size
  simp only [World.size_alloc] at hsv5
  clear own4 own5 hr4 hr5
  go_wp2_with fail
  (with_reducible refine (blocks_any _ _ _ HU2.out _ (HR2.out.keep (hk5.then_ (K3.out.alloc _))) (by omega)).mono ?_)
  rintro e w6 ⟨⟨A6, n6, c6, ms, rfl, hbl6, rfl, hO6, hA6⟩, hb6⟩
  have hs6 := hb6.size
  obtain ⟨ys, rfl, _, _⟩ := hbl6.nats
  rw [List.length_map]
  have hlen6 := hbl6.len
  rw [List.length_map] at hlen6
  have HLL : Hid (xs.length ≤ 120 ∧ ys.length ≤ 120) := Lib.hid ⟨hlen, hlen6⟩
  have R6 := Lib.hid hO6.row
  have HA6 := Lib.hid hA6
  have O6 := Lib.hid (O5.out.kept hb6)
  clear hO6 hA6 hbl6
  go_wp2_with (refine app_gen .u64 29 28 8 Try.underlying29 info_u64 (by omega) rfl (.tmp 35) (.tmp 37) rfl (w3.alloc (.cells #[.int .u64 0, .int .i64 0] 32)) (w3.heap.size + 1) _ (xs.map (fun (x : Nat) => (x : Int)) ++ [0]) (ys.map (fun (x : Nat) => (x : Int))) rfl (O6.out) A6 _ c6 (List.length_map _).symm rfl (fun h => HA6.out h) (R6.out) (hk5.trans0 hb6) (by simp) (by (try simp only [World.size_alloc]); omega) (by (have := HLL.out); (simp only [List.length_nil, List.length_cons, List.length_append, List.length_map]); omega) ?_)
  intro A7 n7 c7 w7 hn7 own7 owo7 hk7 hg7 hs7 hc7 hr7
  (try simp only [List.nil_append] at hn7 own7 hr7)
  (try simp only [World.size_alloc] at hs7)
  clear hg7 owo7
  have hsv7 := hk7.size
  simp only [World.size_alloc] at hsv7
  have HN7 : Hid (n7 = (xs ++ (0 :: ys)).length) := Lib.hid (by have := hn7.out; simp at this ⊢; omega)
  have O7 : Hid (OwnI (w3.heap.size + 1) .u64 28 w7 (.slice A7 n7 c7) ((xs ++ (0 :: ys)).map (fun (x : Nat) => (x : Int)))) := Lib.hid (by
    have := own7
    (try rw [List.append_assoc] at this)
    rw [List.map_append, List.map_cons]
    exact this)
  have B7 : Hid (ListB w7 w3.heap.size 0 0) := Lib.hid (ListB.of (Blk.keep0 (Blk.new w3 _ _) hk7))
  have M7 : Hid (MemB w7 (w1.heap.size + 1) w1.heap.size zs) := Lib.hid ((M3.out.keep0 ((Kept.refl [] w3).alloc _)).keep0 hk7)
  have DP : Hid (Calls Try.prog 13 #[.pointer (some ⟨w3.heap.size, 0, none⟩), .pointer (some ⟨w1.heap.size + 1, 0, none⟩), .slice A7 n7 c7] w7 fun e w' => e = .returned (.int .i64 2) ∧ ListB w' w3.heap.size ((pushG zs 0 xs).2 : Int) (xs.length : Int) ∧ Kept [w3.heap.size, w1.heap.size] w7 w') := Lib.hid (by
    have := push_row w7 w3.heap.size (w1.heap.size + 1) w1.heap.size zs 0 0 xs (0 :: ys) 2 A7 n7 c7 M7.out B7.out (by decide) (by omega) (fun a ha => by have := HV.out a ha; have := HZL.out; omega) (.inr ⟨0, ys, rfl, by have := HZL.out; omega⟩)
      (fun w' hk => (O7.out.keepS hk (fun s hs => by simp at hs; omega)).row) HN7.out (by rw [HN7.out]; simp; omega)
    rw [Int.zero_add] at this
    exact this.mono fun e w' h => ⟨h.1, h.2.2.1, h.2.2.2⟩)
  clear own7 hn7 hr7
  go_wp2_with fail
  (with_reducible refine DP.out.mono ?_)
  rintro e w8 ⟨rfl, hB8, hb8⟩
  have d1 := Blk.cell hB8 1
  have d2 := Blk.lt hB8
  have HB8 := Lib.hid hB8
  clear hB8
  go_wp2_with fail
  go_ret
  exact ⟨rfl, Kept.below (hb8.thenG2 (hk7.then_ (K3.out.alloc _)) (by omega) (by omega))⟩
set_option maxRecDepth 100000 in
set_option maxHeartbeats 4000000 in
theorem walk3 (a0 : Option Addr) (cap0 : Nat) (x1 : Nat) (a2 : Option Addr) (cap2 : Nat) (ys0 ys2 zs : List Int) (W : World) (bb : Int) (HB : Hid (bb = (x1 : Int) ∧ 2040 < x1)) (hx : 2040 < bb) (hx2 : bb < 18446744073709551616) (HU : Hid (∀ z, z ∈ ys0 → 0 ≤ z ∧ z ≤ 255)) (HU2 : Hid (∀ z, z ∈ ys2 → 0 ≤ z ∧ z ≤ 255)) (HR : Hid (RowX .u8 W a0 ys0)) (HR2 : Hid (RowX .u8 W a2 ys2)) (hl0 : ys0.length ≤ 9223372036854775807) (hl2 : ys2.length ≤ 9223372036854775807)
    (HZL : Hid (zs.length = 2048)) (C1 : Hid (∀ w : World, Calls Try.prog 11 #[.int .u64 2048] w fun e w' => e = .returned (.tuple #[.pointer (some ⟨w.heap.size + 1, 0, none⟩), .int .i64 0]) ∧ MemB w' (w.heap.size + 1) w.heap.size zs ∧ Kept [] w w')) :
    Calls Try.prog 4 #[.slice a0 ys0.length cap0, .int .u64 bb, .slice a2 ys2.length cap2] W fun e W' => e = .returned (.bool true) ∧ Below W.heap.size W W' := by
  go_enter Try.func4, Try.ntmps4
  go_wp2_with fail
  (with_reducible refine (alive_any _).mono ?_)
  rintro e w1 ⟨rfl, hb1⟩
  have hs1 := hb1.size
  (try simp only [World.size_alloc, World.size_setCell, World.size_drew, size_drewN] at hs1)
  go_wp2_with fail
  (with_reducible refine (C1.out _).mono ?_)
  rintro e w2 ⟨rfl, hM2, hb2⟩
  have hs2 := hb2.size
  (try simp only [World.size_alloc, World.size_setCell, World.size_drew, size_drewN] at hs2)
  have M2 := Lib.hid hM2
  have hg2 := hM2.2.1.lt
  clear hM2
  (try simp only [size_drewN, World.size_drew] at M2 hg2)
  have hp2 := M2.out.1.lt
  go_wp2_with fail
  (with_reducible refine (blocks_any _ _ _ HU.out _ (HR.out.keep (hb1.trans0 hb2)) (by omega)).mono ?_)
  rintro e w3 ⟨⟨A, n, c, ns, rfl, hbl, rfl, hO3, hA3⟩, hb3⟩
  have hs3 := hb3.size
  (try simp only [World.size_alloc, World.size_setCell, World.size_drew, size_drewN] at hs3)
  have O3 := Lib.hid hO3
  clear hO3
  (try simp only [size_drewN, World.size_drew] at O3)
  have M3 := Lib.hid (M2.out.keep0 hb3)
  obtain ⟨xs, rfl, hv, hpw⟩ := hbl.nats
  rw [List.length_map]
  have hlen := hbl.len
  rw [List.length_map] at hlen
  have HV := Lib.hid hv
  have K3 : Hid (Kept [] W w3) := Lib.hid (by (repeat' (first | (with_reducible exact Kept.refl _ _) | (with_reducible assumption) | (with_reducible refine Kept.then_ (by with_reducible assumption) ?_) | (with_reducible refine Kept.thenS (by with_reducible assumption) ?_) | (with_reducible refine Kept.thenG (by with_reducible assumption) ?_ ?_) | (with_reducible refine Kept.thenG2 (by with_reducible assumption) ?_ ?_ ?_) | (with_reducible refine Kept.alloc ?_ _) | (with_reducible refine Kept.drew ?_) | (with_reducible refine Kept.drewN ?_ _) | (with_reducible refine Kept.setNew ?_ ?_ _) | ((try simp only [World.size_alloc, World.size_setCell, World.size_drew, size_drewN] at *); (try dsimp only); omega))))
  have hsW3 := K3.out.size
  have R3 := Lib.hid O3.out.row
  have HLL : Hid (xs.length ≤ 120) := Lib.hid hlen
  have HA3 := Lib.hid hA3
  clear hv hpw hbl hA3
  go_wp2_with (refine app_gen .u64 29 28 8 Try.underlying29 info_u64 (by omega) rfl (.tmp 30) (.tmp 31) rfl (w3.alloc (.cells #[.int .u64 0, .int .i64 0] 32)) (w3.heap.size + 1) _ [] (xs.map (fun (x : Nat) => (x : Int))) rfl (OwnI.made' (b := w3.heap.size + 1) _ (by simp) (by omega)) A _ c (List.length_map _).symm rfl (fun h => HA3.out h) (R3.out.keep (((Kept.refl [] w3).alloc _).alloc _)) ((Kept.refl [] _).alloc _) (by simp) (by (try simp only [World.size_alloc]); omega) (by (have := HLL.out); (simp only [List.length_nil, List.length_cons, List.length_append, List.length_map]); omega) ?_)
  intro A4 n4 c4 w4 hn4 own4 owo4 hk4 hg4 hs4 hc4 hr4
  (try simp only [List.nil_append] at hn4 own4 hr4)
  (try simp only [World.size_alloc] at hs4)
  clear hg4 owo4
  go_wp2_with (refine app_gen .u64 29 28 8 Try.underlying29 info_u64 (by omega) rfl (.tmp 32) (.tmp 34) rfl (w3.alloc (.cells #[.int .u64 0, .int .i64 0] 32)) (w3.heap.size + 1) _ (xs.map (fun (x : Nat) => (x : Int))) [bb] rfl (own4.kept ((Kept.refl [] w4).alloc _)) _ _ _ rfl rfl (fun h => by cases h) (row1 (Blk.new _ _ _)) (hk4.alloc _) (by simp) (by (try simp only [World.size_alloc]); omega) (by (have := HLL.out); (simp only [List.length_nil, List.length_cons, List.length_append, List.length_map]); omega) ?_)
  intro A5 n5 c5 w5 hn5 own5 owo5 hk5 hg5 hs5 hc5 hr5
  (try simp only [List.nil_append] at hn5 own5 hr5)
  (try simp only [World.size_alloc] at hs5)
  clear hg5 owo5
  have O5 := Lib.hid own5
  have hsv5 := hk5.size
  simp only [World.size_alloc] at hsv5
  clear own4 own5 hr4 hr5
  go_wp2_with fail
  (with_reducible refine (blocks_any _ _ _ HU2.out _ (HR2.out.keep (hk5.then_ (K3.out.alloc _))) (by omega)).mono ?_)
  rintro e w6 ⟨⟨A6, n6, c6, ms, rfl, hbl6, rfl, hO6, hA6⟩, hb6⟩
  have hs6 := hb6.size
  obtain ⟨ys, rfl, _, _⟩ := hbl6.nats
  rw [List.length_map]
  have hlen6 := hbl6.len
  rw [List.length_map] at hlen6
  have HLL : Hid (xs.length ≤ 120 ∧ ys.length ≤ 120) := Lib.hid ⟨hlen, hlen6⟩
  have R6 := Lib.hid hO6.row
  have HA6 := Lib.hid hA6
  have O6 := Lib.hid (O5.out.kept hb6)
  clear hO6 hA6 hbl6
  go_wp2_with (refine app_gen .u64 29 28 8 Try.underlying29 info_u64 (by omega) rfl (.tmp 35) (.tmp 37) rfl (w3.alloc (.cells #[.int .u64 0, .int .i64 0] 32)) (w3.heap.size + 1) _ (xs.map (fun (x : Nat) => (x : Int)) ++ [bb]) (ys.map (fun (x : Nat) => (x : Int))) rfl (O6.out) A6 _ c6 (List.length_map _).symm rfl (fun h => HA6.out h) (R6.out) (hk5.trans0 hb6) (by simp) (by (try simp only [World.size_alloc]); omega) (by (have := HLL.out); (simp only [List.length_nil, List.length_cons, List.length_append, List.length_map]); omega) ?_)
  intro A7 n7 c7 w7 hn7 own7 owo7 hk7 hg7 hs7 hc7 hr7
  (try simp only [List.nil_append] at hn7 own7 hr7)
  (try simp only [World.size_alloc] at hs7)
  clear hg7 owo7
  have hsv7 := hk7.size
  simp only [World.size_alloc] at hsv7
  have HN7 : Hid (n7 = (xs ++ (x1 :: ys)).length) := Lib.hid (by have := hn7.out; simp at this ⊢; omega)
  have O7 : Hid (OwnI (w3.heap.size + 1) .u64 28 w7 (.slice A7 n7 c7) ((xs ++ (x1 :: ys)).map (fun (x : Nat) => (x : Int)))) := Lib.hid (by
    have := own7
    rw [HB.out.1] at this
    (try rw [List.append_assoc] at this)
    rw [List.map_append, List.map_cons]
    exact this)
  have B7 : Hid (ListB w7 w3.heap.size 0 0) := Lib.hid (ListB.of (Blk.keep0 (Blk.new w3 _ _) hk7))
  have M7 : Hid (MemB w7 (w1.heap.size + 1) w1.heap.size zs) := Lib.hid ((M3.out.keep0 ((Kept.refl [] w3).alloc _)).keep0 hk7)
  have DP : Hid (Calls Try.prog 13 #[.pointer (some ⟨w3.heap.size, 0, none⟩), .pointer (some ⟨w1.heap.size + 1, 0, none⟩), .slice A7 n7 c7] w7 fun e w' => e = .returned (.int .i64 3) ∧ ListB w' w3.heap.size ((pushG zs 0 xs).2 : Int) (xs.length : Int) ∧ Kept [w3.heap.size, w1.heap.size] w7 w') := Lib.hid (by
    have := push_row w7 w3.heap.size (w1.heap.size + 1) w1.heap.size zs 0 0 xs (x1 :: ys) 3 A7 n7 c7 M7.out B7.out (by decide) (by omega) (fun a ha => by have := HV.out a ha; have := HZL.out; omega) (.inr ⟨x1, ys, rfl, by have := HZL.out; have := HB.out; omega⟩)
      (fun w' hk => (O7.out.keepS hk (fun s hs => by simp at hs; omega)).row) HN7.out (by rw [HN7.out]; simp; omega)
    rw [Int.zero_add] at this
    exact this.mono fun e w' h => ⟨h.1, h.2.2.1, h.2.2.2⟩)
  clear own7 hn7 hr7
  go_wp2_with fail
  (with_reducible refine DP.out.mono ?_)
  rintro e w8 ⟨rfl, hB8, hb8⟩
  have d1 := Blk.cell hB8 1
  have d2 := Blk.lt hB8
  have HB8 := Lib.hid hB8
  clear hB8
  go_wp2_with fail
  go_ret
  exact ⟨rfl, Kept.below (hb8.thenG2 (hk7.then_ (K3.out.alloc _)) (by omega) (by omega))⟩
theorem walk (a0 : Option Addr) (len0 cap0 : Nat) (z0 : List Int) (x1 : Int) (a2 : Option Addr) (len2 cap2 : Nat) (z2 : List Int) (W : World) (w0 : IsRow .u8 W a0 len0 cap0 z0) (w1 : (Lit.int .u64 x1).wf = true) (w2 : IsRow .u8 W a2 len2 cap2 z2) :
    Calls Try.prog 4 #[.slice a0 len0 cap0, .int .u64 x1, .slice a2 len2 cap2] W fun e W' => e = .returned (.bool true) ∧ Below W.heap.size W W' := by
  have b1 := bounds_u64 w1
  obtain ⟨ys0, hl, hr, _, hwf, hlc, hcm⟩ := w0.seen
  obtain ⟨ys2, hl', hr', _, hwf', hlc', hcm'⟩ := w2.seen
  unfold maxLen at hcm hcm'
  have hu : ∀ z, z ∈ ys0 → 0 ≤ z ∧ z ≤ 255 := fun z hz => bounds_u8 (hwf z hz)
  have hu' : ∀ z, z ∈ ys2 → 0 ≤ z ∧ z ≤ 255 := fun z hz => bounds_u8 (hwf' z hz)
  subst hl hl'
  obtain ⟨zs, hzs⟩ : ∃ zs, zeros 2048 = zs := ⟨_, rfl⟩
  have HZL : Hid (zs.length = 2048) := Lib.hid (by rw [← hzs]; exact length_zeros _)
  have C1 : Hid (∀ w : World, Calls Try.prog 11 #[.int .u64 2048] w fun e w' => e = .returned (.tuple #[.pointer (some ⟨w.heap.size + 1, 0, none⟩), .int .i64 0]) ∧ MemB w' (w.heap.size + 1) w.heap.size zs ∧ Kept [] w w') := Lib.hid (by
    intro w; have := new_any w 2048 (by omega) (by omega) (by omega); rw [hzs] at this; exact this)
  clear hzs
  by_cases h0 : x1 = 0
  · subst h0
    exact walk0 a0 cap0 a2 cap2 ys0 ys2 zs W (Lib.hid hu) (Lib.hid hu') (Lib.hid hr) (Lib.hid hr') (by omega) (by omega) HZL C1
  · by_cases h1 : 2040 < x1
    · exact walk3 a0 cap0 x1.toNat a2 cap2 ys0 ys2 zs W x1 (Lib.hid ⟨by omega, by omega⟩) h1 (by omega) (Lib.hid hu) (Lib.hid hu') (Lib.hid hr) (Lib.hid hr') (by omega) (by omega) HZL C1
    · have HU := Lib.hid hu
      have HR := Lib.hid hr
      have q1 : 0 < x1 := by omega
      have q2 : x1 ≤ 2040 := by omega
      clear hu hu' hr hr' hwf hwf' w0 w2
      go_enter Try.func4, Try.ntmps4
      go_wp2_with fail
      (with_reducible refine (alive_any _).mono ?_)
      rintro e w1 ⟨rfl, hb1⟩
      have hs1 := hb1.size
      (try simp only [World.size_alloc, World.size_setCell, World.size_drew, size_drewN] at hs1)
      go_wp2_with fail
      (with_reducible refine (C1.out _).mono ?_)
      rintro e w2 ⟨rfl, hM2, hb2⟩
      have hs2 := hb2.size
      (try simp only [World.size_alloc, World.size_setCell, World.size_drew, size_drewN] at hs2)
      have M2 := Lib.hid hM2
      have hg2 := hM2.2.1.lt
      clear hM2
      (try simp only [size_drewN, World.size_drew] at M2 hg2)
      go_wp2_with fail
      (with_reducible refine (blocks_any _ _ _ HU.out _ (HR.out.keep (hb1.trans0 hb2)) (by omega)).mono ?_)
      rintro e w3 ⟨⟨A, n, c, ns, rfl, hbl, rfl, hO3, hA3⟩, hb3⟩
      have hs3 := hb3.size
      (try simp only [World.size_alloc, World.size_setCell, World.size_drew, size_drewN] at hs3)
      have O3 := Lib.hid hO3
      clear hO3
      (try simp only [size_drewN, World.size_drew] at O3)
      go_wp2_with fail
      go_ret
      exact ⟨rfl, Kept.below (by (repeat' (first | (with_reducible exact Kept.refl _ _) | (with_reducible assumption) | (with_reducible refine Kept.then_ (by with_reducible assumption) ?_) | (with_reducible refine Kept.thenS (by with_reducible assumption) ?_) | (with_reducible refine Kept.thenG (by with_reducible assumption) ?_ ?_) | (with_reducible refine Kept.thenG2 (by with_reducible assumption) ?_ ?_ ?_) | (with_reducible refine Kept.alloc ?_ _) | (with_reducible refine Kept.drew ?_) | (with_reducible refine Kept.drewN ?_ _) | (with_reducible refine Kept.setNew ?_ ?_ _) | ((try simp only [World.size_alloc, World.size_setCell, World.size_drew, size_drewN] at *); (try dsimp only); omega))))⟩
theorem own : ownKnob Try.prog.godebug = none := by kernel_rfl
theorem laidOut : laidOutB Try.prog = true := by kernel_rfl
set_option maxRecDepth 100000 in
theorem lifted (os : Os) (started : os.Started) (H : Type) (enc : TypeId × Value → H) :
    ReturnsInHanded {} Try.checked os 4 .any (Rows.listRefusesSpec.pre6 enc Try.prog Try.f4 Rows.listRefusesRow.domain false) (Rows.listRefusesSpec.post enc Try.prog Try.f4 false true false false) := by
  refine returnsInHanded_of_change (C := Try.checked) own started (by kernel_rfl) Try.func4
    (ChangeSpec.witness6 (enc := enc) (C := Try.checked) false ⟨#[], #[.slice none 0 0, .int .u64 0, .slice none 0 0], []⟩ 8 (by kernel_rfl) (by kernel_rfl) (by kernel_rfl) (by kernel_rfl)) ?_
  intro W base args ds gs before hval0 hW hcnd _
  have hval : ∀ (j : Nat) t v, Try.f4.params[j]? = some t → args[j]? = some v → Value.okWide Try.prog W .any base t v := hval0
  have hW' := hW
  obtain ⟨p, q, hA0, hV, rfl, hfz, hnd⟩ := hW
  have hA : DataW.TrodAll enc Try.prog W 0 (fun _ => true) true Try.f4.params.toList args.toList ds p := hA0
  rw [Try.params4] at hA hval
  obtain ⟨v0, vs0, d0, ds0, p0, q0, hargs, rfl, rfl, h0, r0⟩ := trodAll_cons hA
  obtain ⟨v1, vs1, d1, ds1, p1, q1, rfl, rfl, rfl, h1, r1⟩ := trodAll_cons r0
  obtain ⟨v2, vs2, d2, ds2, p2, q2, rfl, rfl, rfl, h2, r2⟩ := trodAll_cons r1
  obtain ⟨rfl, rfl, rfl⟩ := trodAll_nil r2
  obtain rfl : args = #[v0, v1, v2] := by cases args; simp_all
  obtain ⟨rfl, rfl⟩ := trodVars_none hV
  have k0 := h0
  have lt0 : ∀ x ∈ p0, x.block < W.heap.size := by obtain ⟨m, hm⟩ := k0; exact DataW.trod_lt m _ _ _ hm
  have k2 := h2
  have lt2 : ∀ x ∈ p2, x.block < W.heap.size := by obtain ⟨m, hm⟩ := k2; exact DataW.trod_lt m _ _ _ hm
  obtain ⟨a0, len0, cap0, rfl⟩ := okWide_slice Try.underlying22 (hval 0 22 v0 rfl rfl)
  obtain ⟨z0, w0⟩ := isRow_of Try.underlying22 Try.underlying5 (by kernel_rfl) h0
  obtain ⟨a1, rfl, rfl, rfl, w1⟩ := open_int Try.underlying28 (hval 1 28 v1 rfl rfl) h1
  obtain ⟨a2, len2, cap2, rfl⟩ := okWide_slice Try.underlying22 (hval 2 22 v2 rfl rfl)
  obtain ⟨z2, w2⟩ := isRow_of Try.underlying22 Try.underlying5 (by kernel_rfl) h2
  clear hA0 hval0
  refine (walk a0 len0 cap0 z0 a1 a2 len2 cap2 z2 W w0 w1 w2).mono fun e W' ⟨he, bel⟩ => ?_
  subst he
  exact ⟨_, rfl, _, _, _, [], _, [], hW', trodAll_mk1 (shut_bool Try.underlying4 _), (trodAll_cons_mk (Below.trod laidOut (by kernel_rfl) (of_decide_eq_true (by kernel_rfl)) k0 bel lt0) (trodAll_cons_mk (shut_int Try.underlying28 w1) (trodAll_cons_mk (Below.trod laidOut (by kernel_rfl) (of_decide_eq_true (by kernel_rfl)) k2 bel lt2) trodAll_mk0))), rfl, bel.frame _, fun h => by cases h⟩
theorem over : Rows.listRefusesRow.holds Try.pinned (OpenSpec.ofChange Rows.listRefusesSpec) :=
  OpenClaim.holds_of_wide 4 Try.f4 rfl rfl rfl rfl rfl rfl rfl ⟨rfl, rfl, rfl, rfl, rfl⟩ rfl rfl rfl rfl rfl (by kernel_rfl) Try.func4 (by kernel_rfl)
    (of_decide_eq_true (by kernel_rfl)) (by unfold Func.isWrapper; first | (rw [if_pos (by decide +kernel)]; kernel_rfl) | (rw [if_neg (by decide +kernel)]; exact ⟨rfl, rfl⟩))
    (fun os started H enc _ => lifted os started H enc)
theorem proved : Rows.ListRefusesSaid := over
#print axioms proved
end Go.Proofs.Ytapolaefdbdnpaa.ListRefuses
