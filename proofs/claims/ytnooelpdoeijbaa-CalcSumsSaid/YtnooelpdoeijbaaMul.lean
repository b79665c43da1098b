/- Sum, product of a slice's numbers. -/
import Derived.Test.YtnooelpdoeijbaaCalc
import Derived.Test.YtnooelpdoeijbaaRow
import Derived.Lib.Mul64
set_option linter.unusedVariables false
set_option linter.unusedSimpArgs false
namespace Go.Proofs.Ytnooelpdoeijbaa
open Go.RowKit
theorem mask32 (a : Nat) (ha : a < 18446744073709551616) : bits .and .u64 (a : Int) 4294967295 = ((a % 4294967296 : Nat) : Int) := by
  have h := u64_and_nat a 4294967295 ha (by omega)
  have e : a &&& 4294967295 = a % 4294967296 := Nat.and_two_pow_sub_one_eq_mod a 32
  rw [e] at h
  exact h
theorem div32 (a : Nat) : (a : Int) / 4294967296 = ((a / 4294967296 : Nat) : Int) := by omega
theorem mul_nat (a b : Nat) : (a : Int) * (b : Int) = ((a * b : Nat) : Int) := (Int.natCast_mul a b).symm
theorem add_nat (a b : Nat) : (a : Int) + (b : Int) = ((a + b : Nat) : Int) := (Int.natCast_add a b).symm
theorem wrap_nat (a : Nat) (ha : a < 18446744073709551616) : IntKind.u64.wrap (a : Int) = (a : Int) := by rw [IntKind.wrap_u64]; omega
theorem wrap_mod (a : Nat) : IntKind.u64.wrap (a : Int) = ((a % 18446744073709551616 : Nat) : Int) := by rw [IntKind.wrap_u64]; omega
set_option maxHeartbeats 1000000 in
theorem mul64_nat (x y : Nat) (hx : x < 18446744073709551616) (hy : y < 18446744073709551616) (w : World) :
    Calls Try.prog 27 #[.int .u64 x, .int .u64 y] w fun e w' => e = .returned (.tuple #[.int .u64 ((x * y / 18446744073709551616 : Nat) : Int), .int .u64 ((x * y % 18446744073709551616 : Nat) : Int)]) ∧ Kept [] w w' := by
  obtain ⟨bd, bt, bw, hhi⟩ := Lib.mul64_hi x y hx hy
  have ba := Lib.half_mul_le (a := x / 4294967296) (b := y / 4294967296) (by omega) (by omega)
  have bb := Lib.half_mul_le (a := x / 4294967296) (b := y % 4294967296) (by omega) (by omega)
  have bc := Lib.half_mul_le (a := x % 4294967296) (b := y / 4294967296) (by omega) (by omega)
  have ba' : x / 4294967296 * (y / 4294967296) < 18446744073709551616 := by omega
  have bb' : x / 4294967296 * (y % 4294967296) < 18446744073709551616 := by omega
  have bc' : x % 4294967296 * (y / 4294967296) < 18446744073709551616 := by omega
  have bh1 : x / 4294967296 * (y / 4294967296) + (x / 4294967296 * (y % 4294967296) + x % 4294967296 * (y % 4294967296) / 4294967296) / 4294967296 < 18446744073709551616 := by omega
  have bh : x / 4294967296 * (y / 4294967296) + (x / 4294967296 * (y % 4294967296) + x % 4294967296 * (y % 4294967296) / 4294967296) / 4294967296 + ((x / 4294967296 * (y % 4294967296) + x % 4294967296 * (y % 4294967296) / 4294967296) % 4294967296 + x % 4294967296 * (y / 4294967296)) / 4294967296 < 18446744073709551616 := by omega
  go_enter Try.func27, Try.ntmps27
  go_wp2
  simp only [mask32 x hx, mask32 y hy, div32, mul_nat, add_nat, wrap_nat _ bd, wrap_nat _ bb', wrap_nat _ bt, mask32 _ bt, wrap_nat _ bc', wrap_nat _ bw, wrap_nat _ ba', wrap_nat _ bh1, wrap_nat _ bh, wrap_mod (x * y)]
  rw [hhi]
  go_ret2
  exact ⟨rfl, by (repeat' (first | (with_reducible exact Kept.refl _ _) | (with_reducible assumption) | (with_reducible refine Kept.then_ (by with_reducible assumption) ?_) | (with_reducible refine Kept.thenS (by with_reducible assumption) ?_) | (with_reducible refine Kept.alloc ?_ _) | (with_reducible refine Kept.drew ?_) | (with_reducible refine Kept.drewN ?_ _) | (with_reducible refine Kept.setNew ?_ ?_ _) | ((try simp only [World.size_alloc, World.size_setCell, World.size_drew, size_drewN] at *); (try dsimp only); omega)))⟩
theorem mul64_any (x y : Int) (x0 : 0 ≤ x) (x1 : x < 18446744073709551616) (y0 : 0 ≤ y) (y1 : y < 18446744073709551616) (w : World) :
    Calls Try.prog 27 #[.int .u64 x, .int .u64 y] w fun e w' => e = .returned (.tuple #[.int .u64 (x * y / 18446744073709551616), .int .u64 (x * y % 18446744073709551616)]) ∧ Kept [] w w' := by
  obtain ⟨m, rfl⟩ := Int.eq_ofNat_of_zero_le x0
  obtain ⟨n, rfl⟩ := Int.eq_ofNat_of_zero_le y0
  have c := mul64_nat m n (by omega) (by omega) w
  simpa using c
theorem index0_any (A : Option Addr) (cap : Nat) (zs : List Int) (w : World) (hr : RowX .u64 w A zs) (hn : zs.length ≤ 9223372036854775807) :
    Calls Try.prog 38 #[.slice A zs.length cap, .int .u64 0] w fun e w' => (∃ r, e = .returned (.int .i64 r) ∧ (0 ≤ r ↔ (0 : Int) ∈ zs)) ∧ Kept [] w w' := by
  have Hr := Lib.hid hr
  clear hr
  go_enter Try.func38, Try.ntmps38
  go_wp2
  go_loopw [8] (fun c wr => ∃ k : Nat, k ≤ zs.length ∧ c = .int .i64 k ∧ Hid (∀ j, j < k → zs[j]?.getD 0 ≠ 0) ∧ Kept [] w wr) (fun c _ => zs.length - (intOf c).toNat)
  case atStart => exact ⟨0, Nat.zero_le _, rfl, Lib.hid (fun j hj => by omega), Kept.refl _ _⟩
  case round =>
    obtain ⟨k, hk, rfl, hno, hkw⟩ := hrel
    by_cases hlt : k < zs.length
    · obtain ⟨ad, rfl, hc⟩ := Hr.out.get (by omega)
      have hcell : wr.cell? (ad.add k) = some (.int .u64 (zs[k]?.getD 0)) := hc wr hkw k hlt
      clear hc
      generalize hx : zs[k]?.getD 0 = x at hcell
      have hm : Hid (x ∈ zs) := Lib.hid (by rw [← hx, List.getElem?_eq_getElem hlt]; exact List.getElem_mem hlt)
      have HX := Lib.hid hx
      clear hx
      by_cases h0 : x = 0
      · subst h0
        go_wp2_with fail
        go_ret
        exact ⟨⟨_, rfl, ⟨fun _ => hm.out, fun _ => by omega⟩⟩, hkw⟩
      · have h0' : ¬ (0 : Int) = x := fun h => h0 h.symm
        go_wp2_with fail
        go_roundw
        case rel => exact ⟨k + 1, by omega, by go_num, Lib.hid (fun j hj => by
          by_cases hjk : j < k
          · exact hno.out j hjk
          · obtain rfl : j = k := by omega
            rw [HX.out]; exact h0), hkw⟩
        case measure => simp [intOf]; omega
    · obtain rfl : k = zs.length := by omega
      go_wp2_with fail
      go_ret
      refine ⟨⟨_, rfl, ⟨fun h => ?_, fun h => ?_⟩⟩, hkw⟩
      · exfalso; revert h; go_light; omega
      · exfalso
        obtain ⟨j, hj, he⟩ := List.getElem_of_mem h
        exact hno.out j hj (by rw [List.getElem?_eq_getElem hj, he]; rfl)
theorem contains0_any (A : Option Addr) (cap : Nat) (zs : List Int) (w : World) (hr : RowX .u64 w A zs) (hn : zs.length ≤ 9223372036854775807) :
    Calls Try.prog 26 #[.slice A zs.length cap, .int .u64 0] w fun e w' => e = .returned (.bool (decide ((0 : Int) ∈ zs))) ∧ Kept [] w w' := by
  have c := Lib.hid (index0_any A cap zs w hr hn)
  clear hr
  go_enter Try.func26, Try.ntmps26
  go_wp2_with fail
  (with_reducible refine c.out.mono ?_)
  rintro e w1 ⟨⟨r, rfl, hq⟩, hb1⟩
  go_wp2_with fail
  go_ret
  exact ⟨rfl, hb1⟩
/-- The sum, the product. -/
def su : List Int → Int | [] => 0 | x :: l => x + su l
def pr : List Int → Int | [] => 1 | x :: l => x * pr l
theorem su_app (a b : List Int) : su (a ++ b) = su a + su b := by
  induction a with
  | nil => simp [su]
  | cons x l ih => simp only [List.cons_append, su, ih]; omega
theorem pr_app (a b : List Int) : pr (a ++ b) = pr a * pr b := by
  induction a with
  | nil => simp [pr]
  | cons x l ih => simp only [List.cons_append, pr, ih, Int.mul_assoc]
theorem take_s (zs : List Int) (k : Nat) (h : k < zs.length) : zs.take (k + 1) = zs.take k ++ [zs[k]?.getD 0] := by
  rw [List.take_add_one, List.getElem?_eq_getElem h]; rfl
theorem su_take (zs : List Int) (k : Nat) (h : k < zs.length) : su (zs.take (k + 1)) = su (zs.take k) + zs[k]?.getD 0 := by
  rw [take_s zs k h, su_app]; simp [su]
theorem pr_take (zs : List Int) (k : Nat) (h : k < zs.length) : pr (zs.take (k + 1)) = pr (zs.take k) * zs[k]?.getD 0 := by
  rw [take_s zs k h, pr_app]; simp [pr]
theorem su_nn (zs : List Int) (h : ∀ x, x ∈ zs → 0 ≤ x) : 0 ≤ su zs := by
  induction zs with
  | nil => simp [su]
  | cons x l ih => have := ih (fun y hy => h y (by simp [hy])); have := h x (by simp); simp only [su]; omega
theorem pr_pos (zs : List Int) (h : ∀ x, x ∈ zs → 1 ≤ x) : 1 ≤ pr zs := by
  induction zs with
  | nil => simp [pr]
  | cons x l ih =>
    have h1 := ih (fun y hy => h y (by simp [hy]))
    have h2 := h x (by simp)
    have := Int.mul_le_mul h2 h1 (by omega) (by omega)
    simp only [pr]; omega
theorem su_le (zs : List Int) (k : Nat) (h : ∀ x, x ∈ zs → 0 ≤ x) : su (zs.take k) ≤ su zs := by
  have e := su_app (zs.take k) (zs.drop k)
  rw [List.take_append_drop] at e
  have := su_nn (zs.drop k) (fun x hx => h x (List.mem_of_mem_drop hx))
  omega
theorem pr_le (zs : List Int) (k : Nat) (h : ∀ x, x ∈ zs → 1 ≤ x) : pr (zs.take k) ≤ pr zs := by
  have e := pr_app (zs.take k) (zs.drop k)
  rw [List.take_append_drop] at e
  have h1 := pr_pos (zs.drop k) (fun x hx => h x (List.mem_of_mem_drop hx))
  have h2 := pr_pos (zs.take k) (fun x hx => h x (List.mem_of_mem_take hx))
  have := Int.mul_le_mul_of_nonneg_left h1 (show 0 ≤ pr (zs.take k) by omega)
  omega
def sumV (zs : List Int) : Int := if su zs ≤ 1099511627776 then su zs else 0
def sumE (zs : List Int) : Int := if su zs ≤ 1099511627776 then 0 else 3
noncomputable def mulV (zs : List Int) : Int := if (0 : Int) ∈ zs then 0 else if pr zs ≤ 1099511627776 then pr zs else 0
noncomputable def mulE (zs : List Int) : Int := if (0 : Int) ∈ zs then 0 else if pr zs ≤ 1099511627776 then 0 else 3
/-- What all u64 numbers are. -/
def U64s (zs : List Int) : Prop := ∀ x, x ∈ zs → 0 ≤ x ∧ x ≤ 18446744073709551615
theorem getD_mem {zs : List Int} {k : Nat} (h : k < zs.length) : zs[k]?.getD 0 ∈ zs := by rw [List.getElem?_eq_getElem h]; exact List.getElem_mem h
set_option maxHeartbeats 1000000 in
theorem sum_any (A : Option Addr) (cap : Nat) (zs : List Int) (hz : U64s zs) (w : World) (hr : RowX .u64 w A zs) (hn : zs.length ≤ 9223372036854775807) :
    Calls Try.prog 20 #[.slice A zs.length cap] w fun e w' => e = .returned (.tuple #[.int .u64 (sumV zs), .int .i64 (sumE zs)]) ∧ Kept [] w w' := by
  have Hr := Lib.hid hr
  have HT := Lib.hid (su_take zs)
  have HZ := Lib.hid hz
  have HL := Lib.hid (fun k => su_le zs k (fun x hx => (hz x hx).1))
  have HN := Lib.hid (fun k => su_nn (zs.take k) (fun x hx => (hz x (List.mem_of_mem_take hx)).1))
  have HE : Hid (su (zs.take zs.length) = su zs) := Lib.hid (by rw [List.take_length])
  have H1 : Hid (su zs ≤ 1099511627776 → sumV zs = su zs ∧ sumE zs = 0) := Lib.hid (fun h => by unfold sumV sumE; rw [if_pos h, if_pos h]; exact ⟨rfl, rfl⟩)
  have H2 : Hid (1099511627776 < su zs → sumV zs = 0 ∧ sumE zs = 3) := Lib.hid (fun h => by unfold sumV sumE; rw [if_neg (by omega), if_neg (by omega)]; exact ⟨rfl, rfl⟩)
  generalize sumV zs = V at *
  generalize sumE zs = E at *
  clear hr hz
  go_enter Try.func20, Try.ntmps20
  go_wp2
  go_loopw [4, 5, 10] (fun c d i wr => ∃ (k : Nat) (s : Int) (b : Bool), k ≤ zs.length ∧ c = .int .u64 s ∧ d = .bool b ∧ i = .int .i64 k ∧ 0 ≤ s ∧ s ≤ 1099511627776 ∧ Hid (b = false ∧ s = su (zs.take k) ∨ b = true ∧ 1099511627776 < su (zs.take k)) ∧ Kept [] w wr) (fun _ _ i _ => zs.length - (intOf i).toNat)
  case atStart => exact ⟨0, 0, false, Nat.zero_le _, rfl, rfl, rfl, by omega, by omega, Lib.hid (.inl ⟨rfl, rfl⟩), Kept.refl _ _⟩
  case round =>
    obtain ⟨k, s, b, hk, rfl, rfl, rfl, s0, s1, hs, hkw⟩ := hrel
    by_cases hlt : k < zs.length
    · obtain ⟨ad, rfl, hc⟩ := Hr.out.get (by omega)
      have hcell : wr.cell? (ad.add k) = some (.int .u64 (zs[k]?.getD 0)) := hc wr hkw k hlt
      have ht := HT.out k hlt
      obtain ⟨x0, x1⟩ := HZ.out _ (getD_mem hlt)
      clear hc
      generalize zs[k]?.getD 0 = x at *
      have HT' := Lib.hid ht
      clear ht
      have hm : min s 1099511627776 = s := by omega
      cases b with
      | true =>
        have h2 : 1099511627776 < su (zs.take k) := by
          rcases hs.out with ⟨h, _⟩ | ⟨_, h⟩
          · cases h
          · exact h
        have H3 : Hid (1099511627776 < su (zs.take (k + 1))) := Lib.hid (by rw [HT'.out]; omega)
        clear h2
        go_wp2_with fail
        go_roundw
        case rel => exact ⟨k + 1, s, true, by omega, rfl, rfl, by go_num, s0, s1, Lib.hid (.inr ⟨rfl, H3.out⟩), hkw⟩
        case measure => simp [intOf]; omega
      | false =>
        have h2 : s = su (zs.take k) := by
          rcases hs.out with ⟨_, h⟩ | ⟨h, _⟩
          · exact h
          · cases h
        have H3 : Hid (s + x = su (zs.take (k + 1))) := Lib.hid (by rw [HT'.out, h2])
        clear h2
        by_cases hx : 1099511627776 - s < x
        · go_wp2_with fail
          go_roundw
          case rel => exact ⟨k + 1, s, true, by omega, rfl, rfl, by go_num, s0, s1, Lib.hid (.inr ⟨rfl, by rw [← H3.out]; omega⟩), hkw⟩
          case measure => simp [intOf]; omega
        · go_wp2_with fail
          go_roundw
          case rel => exact ⟨k + 1, s + x, false, by omega, by go_num, rfl, by go_num, by omega, by omega, Lib.hid (.inl ⟨rfl, H3.out⟩), hkw⟩
          case measure => simp [intOf]; omega
    · obtain rfl : k = zs.length := by omega
      cases b with
      | true =>
        have h2 : 1099511627776 < su zs := by
          rcases hs.out with ⟨h, _⟩ | ⟨_, h⟩
          · cases h
          · rw [HE.out] at h; exact h
        obtain ⟨rfl, rfl⟩ := H2.out h2
        clear h2
        go_wp2_with fail
        (with_reducible refine (held_t _ _).mono ?_)
        rintro e w1 ⟨rfl, hb1⟩
        have hs1 := hb1.size
        (try simp only [World.size_alloc, World.size_setCell, World.size_drew, size_drewN] at hs1)
        go_wp2_with fail
        go_ret2
        exact ⟨rfl, by (repeat' (first | (with_reducible exact Kept.refl _ _) | (with_reducible assumption) | (with_reducible refine Kept.then_ (by with_reducible assumption) ?_) | (with_reducible refine Kept.thenS (by with_reducible assumption) ?_) | (with_reducible refine Kept.alloc ?_ _) | (with_reducible refine Kept.drew ?_) | (with_reducible refine Kept.drewN ?_ _) | (with_reducible refine Kept.setNew ?_ ?_ _) | ((try simp only [World.size_alloc, World.size_setCell, World.size_drew, size_drewN] at *); (try dsimp only); omega)))⟩
      | false =>
        have h2 : s = su zs := by
          rcases hs.out with ⟨_, h⟩ | ⟨h, _⟩
          · rw [HE.out] at h; exact h
          · cases h
        obtain ⟨h3, rfl⟩ := H1.out (by omega)
        obtain rfl : V = s := by rw [h3, h2]
        clear h2 h3
        go_wp2_with fail
        (with_reducible refine (held_in _ s1 _).mono ?_)
        rintro e w1 ⟨rfl, hb1⟩
        have hs1 := hb1.size
        (try simp only [World.size_alloc, World.size_setCell, World.size_drew, size_drewN] at hs1)
        go_wp2_with fail
        go_ret2
        exact ⟨rfl, by (repeat' (first | (with_reducible exact Kept.refl _ _) | (with_reducible assumption) | (with_reducible refine Kept.then_ (by with_reducible assumption) ?_) | (with_reducible refine Kept.thenS (by with_reducible assumption) ?_) | (with_reducible refine Kept.alloc ?_ _) | (with_reducible refine Kept.drew ?_) | (with_reducible refine Kept.drewN ?_ _) | (with_reducible refine Kept.setNew ?_ ?_ _) | ((try simp only [World.size_alloc, World.size_setCell, World.size_drew, size_drewN] at *); (try dsimp only); omega)))⟩
set_option maxHeartbeats 1000000 in
theorem mul_any (A : Option Addr) (cap : Nat) (zs : List Int) (hz : U64s zs) (w : World) (hr : RowX .u64 w A zs) (hn : zs.length ≤ 9223372036854775807) :
    Calls Try.prog 13 #[.slice A zs.length cap] w fun e w' => e = .returned (.tuple #[.int .u64 (mulV zs), .int .i64 (mulE zs)]) ∧ Kept [] w w' := by
  have C := Lib.hid (contains0_any A cap zs w hr hn)
  by_cases h0 : (0 : Int) ∈ zs
  · have e1 : mulV zs = 0 := by unfold mulV; rw [if_pos h0]
    have e2 : mulE zs = 0 := by unfold mulE; rw [if_pos h0]
    rw [e1, e2]
    have c := C.out
    rw [decide_eq_true h0] at c
    have C := Lib.hid c
    clear c hr hz e1 e2 h0
    go_enter Try.func13, Try.ntmps13
    go_wp2_with fail
    (with_reducible refine (C.out).mono ?_)
    rintro e w1 ⟨rfl, hb1⟩
    have hs1 := hb1.size
    (try simp only [World.size_alloc, World.size_setCell, World.size_drew, size_drewN] at hs1)
    go_wp2_with fail
    go_ret2
    exact ⟨rfl, by (repeat' (first | (with_reducible exact Kept.refl _ _) | (with_reducible assumption) | (with_reducible refine Kept.then_ (by with_reducible assumption) ?_) | (with_reducible refine Kept.thenS (by with_reducible assumption) ?_) | (with_reducible refine Kept.alloc ?_ _) | (with_reducible refine Kept.drew ?_) | (with_reducible refine Kept.drewN ?_ _) | (with_reducible refine Kept.setNew ?_ ?_ _) | ((try simp only [World.size_alloc, World.size_setCell, World.size_drew, size_drewN] at *); (try dsimp only); omega)))⟩
  · have hp : ∀ x, x ∈ zs → 1 ≤ x := fun x hx => by
      have := hz x hx
      rcases Int.lt_or_le 0 x with h | h
      · omega
      · exact absurd (by rw [show (0 : Int) = x by omega]; exact hx) h0
    have c := C.out
    rw [decide_eq_false h0] at c
    have C := Lib.hid c
    have Hr := Lib.hid hr
    have HT := Lib.hid (pr_take zs)
    have HZ : Hid (∀ x : Int, x ∈ zs → 1 ≤ x ∧ x ≤ 18446744073709551615) := Lib.hid (fun x hx => ⟨hp x hx, (hz x hx).2⟩)
    have HL := Lib.hid (fun k => pr_le zs k hp)
    have HE : Hid (pr (zs.take zs.length) = pr zs) := Lib.hid (by rw [List.take_length])
    have H1 : Hid (pr zs ≤ 1099511627776 → mulV zs = pr zs ∧ mulE zs = 0) := Lib.hid (fun h => by unfold mulV mulE; rw [if_neg h0, if_neg h0, if_pos h, if_pos h]; exact ⟨rfl, rfl⟩)
    have H2 : Hid (1099511627776 < pr zs → mulV zs = 0 ∧ mulE zs = 3) := Lib.hid (fun h => by unfold mulV mulE; rw [if_neg h0, if_neg h0, if_neg (by omega), if_neg (by omega)]; exact ⟨rfl, rfl⟩)
    generalize mulV zs = V at *
    generalize mulE zs = E at *
    clear hr hz c hp h0
    go_enter Try.func13, Try.ntmps13
    go_wp2_with fail
    (with_reducible refine (C.out).mono ?_)
    rintro e w1 ⟨rfl, hb1⟩
    have hs1 := hb1.size
    (try simp only [World.size_alloc, World.size_setCell, World.size_drew, size_drewN] at hs1)
    go_wp2_with fail
    go_loopw [4, 13] (fun c i wr => ∃ (k : Nat) (s : Int), k ≤ zs.length ∧ c = .int .u64 s ∧ i = .int .i64 k ∧ 1 ≤ s ∧ s ≤ 1099511627776 ∧ Hid (s = pr (zs.take k)) ∧ Kept [] w wr) (fun _ i _ => zs.length - (intOf i).toNat)
    case atStart => exact ⟨0, 1, Nat.zero_le _, rfl, rfl, by omega, by omega, Lib.hid rfl, by (repeat' (first | (with_reducible exact Kept.refl _ _) | (with_reducible assumption) | (with_reducible refine Kept.then_ (by with_reducible assumption) ?_) | (with_reducible refine Kept.thenS (by with_reducible assumption) ?_) | (with_reducible refine Kept.alloc ?_ _) | (with_reducible refine Kept.drew ?_) | (with_reducible refine Kept.drewN ?_ _) | (with_reducible refine Kept.setNew ?_ ?_ _) | ((try simp only [World.size_alloc, World.size_setCell, World.size_drew, size_drewN] at *); (try dsimp only); omega)))⟩
    case round =>
      obtain ⟨k, s, hk, rfl, rfl, s0, s1, hs, hkw⟩ := hrel
      by_cases hlt : k < zs.length
      · obtain ⟨ad, rfl, hc⟩ := Hr.out.get (by omega)
        have hcell : wr.cell? (ad.add k) = some (.int .u64 (zs[k]?.getD 0)) := hc wr hkw k hlt
        have ht := HT.out k hlt
        obtain ⟨x0, x1⟩ := HZ.out _ (getD_mem hlt)
        clear hc
        generalize zs[k]?.getD 0 = x at *
        have hl := HL.out (k + 1)
        rw [ht, ← hs.out] at hl
        have HP : Hid (s * x = pr (zs.take (k + 1))) := Lib.hid (by rw [ht, hs.out])
        have p0 : 1 ≤ s * x := by have := Int.mul_le_mul s0 x0 (by omega) (by omega); omega
        have HM := Lib.hid (mul64_any s x (by omega) (by omega) (by omega) (by omega))
        clear ht
        generalize s * x = y at *
        by_cases hb : y ≤ 1099511627776
        · have e1 : y / 18446744073709551616 = 0 := by omega
          have e2 : y % 18446744073709551616 = y := by omega
          have c := HM.out
          rw [e1, e2] at c
          have HM := Lib.hid c
          clear c e1 e2 hl
          go_wp2_with fail
          (with_reducible refine (HM.out _).mono ?_)
          rintro e w2 ⟨rfl, hb2⟩
          have hs2 := hb2.size
          (try simp only [World.size_alloc, World.size_setCell, World.size_drew, size_drewN] at hs2)
          go_wp2_with fail
          go_roundw
          case rel => exact ⟨k + 1, y, by omega, rfl, by go_num, p0, hb, Lib.hid HP.out, by (repeat' (first | (with_reducible exact Kept.refl _ _) | (with_reducible assumption) | (with_reducible refine Kept.then_ (by with_reducible assumption) ?_) | (with_reducible refine Kept.thenS (by with_reducible assumption) ?_) | (with_reducible refine Kept.alloc ?_ _) | (with_reducible refine Kept.drew ?_) | (with_reducible refine Kept.drewN ?_ _) | (with_reducible refine Kept.setNew ?_ ?_ _) | ((try simp only [World.size_alloc, World.size_setCell, World.size_drew, size_drewN] at *); (try dsimp only); omega)))⟩
          case measure => simp [intOf]; omega
        · obtain ⟨rfl, rfl⟩ := H2.out (by omega)
          by_cases h1 : 0 < y / 18446744073709551616
          · go_wp2_with fail
            (with_reducible refine (HM.out _).mono ?_)
            rintro e w2 ⟨rfl, hb2⟩
            have hs2 := hb2.size
            (try simp only [World.size_alloc, World.size_setCell, World.size_drew, size_drewN] at hs2)
            go_wp2_with fail
            (with_reducible refine (held_t _ _).mono ?_)
            rintro e w3 ⟨rfl, hb3⟩
            have hs3 := hb3.size
            (try simp only [World.size_alloc, World.size_setCell, World.size_drew, size_drewN] at hs3)
            go_wp2_with fail
            go_ret2
            exact ⟨rfl, by (repeat' (first | (with_reducible exact Kept.refl _ _) | (with_reducible assumption) | (with_reducible refine Kept.then_ (by with_reducible assumption) ?_) | (with_reducible refine Kept.thenS (by with_reducible assumption) ?_) | (with_reducible refine Kept.alloc ?_ _) | (with_reducible refine Kept.drew ?_) | (with_reducible refine Kept.drewN ?_ _) | (with_reducible refine Kept.setNew ?_ ?_ _) | ((try simp only [World.size_alloc, World.size_setCell, World.size_drew, size_drewN] at *); (try dsimp only); omega)))⟩
          · have e1 : y / 18446744073709551616 = 0 := by omega
            have e2 : y % 18446744073709551616 = y := by omega
            have c := HM.out
            rw [e1, e2] at c
            have HM := Lib.hid c
            clear c e1 e2 hl h1
            go_wp2_with fail
            (with_reducible refine (HM.out _).mono ?_)
            rintro e w2 ⟨rfl, hb2⟩
            have hs2 := hb2.size
            (try simp only [World.size_alloc, World.size_setCell, World.size_drew, size_drewN] at hs2)
            go_wp2_with fail
            (with_reducible refine (held_t _ _).mono ?_)
            rintro e w3 ⟨rfl, hb3⟩
            have hs3 := hb3.size
            (try simp only [World.size_alloc, World.size_setCell, World.size_drew, size_drewN] at hs3)
            go_wp2_with fail
            go_ret2
            exact ⟨rfl, by (repeat' (first | (with_reducible exact Kept.refl _ _) | (with_reducible assumption) | (with_reducible refine Kept.then_ (by with_reducible assumption) ?_) | (with_reducible refine Kept.thenS (by with_reducible assumption) ?_) | (with_reducible refine Kept.alloc ?_ _) | (with_reducible refine Kept.drew ?_) | (with_reducible refine Kept.drewN ?_ _) | (with_reducible refine Kept.setNew ?_ ?_ _) | ((try simp only [World.size_alloc, World.size_setCell, World.size_drew, size_drewN] at *); (try dsimp only); omega)))⟩
      · obtain rfl : k = zs.length := by omega
        have h2 : s = pr zs := by rw [hs.out, HE.out]
        obtain ⟨h3, rfl⟩ := H1.out (by omega)
        obtain rfl : V = s := by rw [h3, h2]
        clear h2 h3
        go_wp2_with fail
        go_ret2
        exact ⟨rfl, by (repeat' (first | (with_reducible exact Kept.refl _ _) | (with_reducible assumption) | (with_reducible refine Kept.then_ (by with_reducible assumption) ?_) | (with_reducible refine Kept.thenS (by with_reducible assumption) ?_) | (with_reducible refine Kept.alloc ?_ _) | (with_reducible refine Kept.drew ?_) | (with_reducible refine Kept.drewN ?_ _) | (with_reducible refine Kept.setNew ?_ ?_ _) | ((try simp only [World.size_alloc, World.size_setCell, World.size_drew, size_drewN] at *); (try dsimp only); omega)))⟩
end Go.Proofs.Ytnooelpdoeijbaa
