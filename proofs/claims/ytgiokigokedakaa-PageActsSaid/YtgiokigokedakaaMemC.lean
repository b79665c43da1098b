/- Load, Store, Get, Put, Copy, Fill, Cas: what each answers, and what memory is behind it. -/
import Derived.Test.YtgiokigokedakaaLe
import Derived.Test.YtgiokigokedakaaOwn
set_option linter.unusedVariables false
set_option linter.unusedSimpArgs false
namespace Go.Proofs.Ytgiokigokedakaa
open Go.RowKit
theorem piece_cells {w : World} {p g : Nat} {zs : List Int} (h : MemB w p g zs) (a n : Nat) (ho : a + n ≤ zs.length) (j : Nat) (hj : j < n) :
    w.cell? ⟨g, offOf zs.length a + j, none⟩ = some (.int .u8 (((zs.drop a).take n)[j]?.getD 0)) := by
  rw [offOf_lt ho (by omega), h.2.1.cell, cellsOf_lt (by omega), List.getElem?_take_of_lt hj, List.getElem?_drop]
theorem piece_len (zs : List Int) (a n : Nat) (ho : a + n ≤ zs.length) : ((zs.drop a).take n).length = n := by simp; omega
/-- The number that stands in n bytes from a on. -/
def ldV (zs : List Int) (a n : Nat) : Int := le ((zs.drop a).take n)
theorem load_in (w : World) (p g : Nat) (zs : List Int) (h : MemB w p g zs) (a n : Nat) (hn : MayN n) (ho : a + n ≤ zs.length) :
    Calls Try.prog 63 #[.pointer (some ⟨p, 0, none⟩), .int .u64 a, .int .i64 n] w fun e w' => e = .returned (.tuple #[.int .u64 (ldV zs a n), .int .i64 0]) ∧ Kept [] w w' := by
  have hn8 : n ≤ 8 := by unfold MayN at hn; omega
  have hl := piece_len zs a n ho
  have hu : U8s ((zs.drop a).take n) := (h.2.2.2.drop a).take n
  have c := load_raw w p g zs h a n hn (by omega) (some ⟨g, offOf zs.length a, none⟩) (zs.length - a) ((zs.drop a).take n) 0
    (.inr ⟨g, _, _, rfl, h.2.1.lt, fun j hj => piece_cells h a n ho j (by omega)⟩) (by omega) (fun w h => by rw [hl]; exact in_in w p g zs h a n ho)
  rw [ld_all _ hu (by omega)] at c
  exact c.mono fun e w' hh => ⟨hh.1, Kept.of_below hh.2⟩
theorem load_1 (w : World) (p g : Nat) (zs : List Int) (h : MemB w p g zs) (a : Nat) (ho : a + 1 ≤ zs.length) :
    Calls Try.prog 63 #[.pointer (some ⟨p, 0, none⟩), .int .u64 a, .int .i64 1] w fun e w' => e = .returned (.tuple #[.int .u64 (ldV zs a 1), .int .i64 0]) ∧ Kept [] w w' := load_in w p g zs h a 1 (by unfold MayN; omega) ho
theorem load_2 (w : World) (p g : Nat) (zs : List Int) (h : MemB w p g zs) (a : Nat) (ho : a + 2 ≤ zs.length) :
    Calls Try.prog 63 #[.pointer (some ⟨p, 0, none⟩), .int .u64 a, .int .i64 2] w fun e w' => e = .returned (.tuple #[.int .u64 (ldV zs a 2), .int .i64 0]) ∧ Kept [] w w' := load_in w p g zs h a 2 (by unfold MayN; omega) ho
theorem load_4 (w : World) (p g : Nat) (zs : List Int) (h : MemB w p g zs) (a : Nat) (ho : a + 4 ≤ zs.length) :
    Calls Try.prog 63 #[.pointer (some ⟨p, 0, none⟩), .int .u64 a, .int .i64 4] w fun e w' => e = .returned (.tuple #[.int .u64 (ldV zs a 4), .int .i64 0]) ∧ Kept [] w w' := load_in w p g zs h a 4 (by unfold MayN; omega) ho
theorem load_8 (w : World) (p g : Nat) (zs : List Int) (h : MemB w p g zs) (a : Nat) (ho : a + 8 ≤ zs.length) :
    Calls Try.prog 63 #[.pointer (some ⟨p, 0, none⟩), .int .u64 a, .int .i64 8] w fun e w' => e = .returned (.tuple #[.int .u64 (ldV zs a 8), .int .i64 0]) ∧ Kept [] w w' := load_in w p g zs h a 8 (by unfold MayN; omega) ho
theorem load_out (w : World) (p g : Nat) (zs : List Int) (h : MemB w p g zs) (a n : Int) (hn : MayN n) (ha : 0 ≤ a) (ho : (zs.length : Int) < a ∨ (zs.length : Int) - a < n) :
    Calls Try.prog 63 #[.pointer (some ⟨p, 0, none⟩), .int .u64 a, .int .i64 n] w fun e w' => e = .returned (.tuple #[.int .u64 0, .int .i64 3]) ∧ Kept [] w w' := by
  have c := load_raw w p g zs h a n hn ha none 0 [] 3 (.inl ⟨rfl, rfl⟩) (by simp) (fun w h => in_out w p g zs h a n ha (by unfold MayN at hn; omega) ho)
  exact c.mono fun e w' hh => ⟨hh.1, Kept.of_below hh.2⟩
theorem load_bad (w : World) (p g : Nat) (zs : List Int) (h : MemB w p g zs) (a n : Int) (hn : ¬ MayN n) :
    Calls Try.prog 63 #[.pointer (some ⟨p, 0, none⟩), .int .u64 a, .int .i64 n] w fun e w' => e = .returned (.tuple #[.int .u64 0, .int .i64 2]) ∧ Kept [] w w' := by
  have HN := Lib.hid hn
  clear hn
  go_enter Try.func63, Try.ntmps63
  go_wp2_with (go_at_call 47; refine (may_f _ _ HN.out).mono ?_; rintro e w' ⟨rfl, rfl⟩)
  refine bodyPost_ret (v := .tuple #[.int .u64 0, .int .i64 2]) ?_ rfl ⟨rfl, by (repeat' (first | (with_reducible exact Kept.refl _ _) | (with_reducible assumption) | (with_reducible refine Kept.then_ (by with_reducible assumption) ?_) | (with_reducible refine Kept.thenS (by with_reducible assumption) ?_) | (with_reducible refine Kept.alloc ?_ _) | (with_reducible refine Kept.drew ?_) | (with_reducible refine Kept.drewN ?_ _) | (with_reducible refine Kept.setNew ?_ ?_ _) | ((try simp only [World.size_alloc, World.size_setCell, World.size_drew, size_drewN] at *); (try dsimp only); omega)))⟩
  simp [results, Try.results63, go_sem]
theorem in_pos (w : World) (p g : Nat) (zs : List Int) (h : MemB w p g zs) (a n : Nat) (ho : a + n ≤ zs.length) (h0 : 0 < n) :
    Calls Try.prog 48 #[.pointer (some ⟨p, 0, none⟩), .int .u64 a, .int .u64 n] w fun e w' => e = .returned (.tuple #[.slice (some ⟨g, a, none⟩) n (zs.length - a), .int .i64 0]) ∧ w = w' := by
  have c := in_in w p g zs h a n ho
  rw [offOf_lt ho h0] at c
  exact c
theorem bytesOf_take (n : Nat) (x : Int) (k : Nat) (h : k < n) : (bytesOf n x).take (k + 1) = (bytesOf n x).take k ++ [x / 256 ^ k % 256] := by
  rw [List.take_succ_eq_append_getElem (by simpa using h)]
  have := bytesOf_get n x k h
  rw [List.getElem?_eq_getElem (by simpa using h)] at this
  injection this with this
  rw [this]
theorem MemB.setB {w : World} {p g : Nat} {zs : List Int} (h : MemB w p g zs) (i : Nat) (v : Int) (h0 : 0 ≤ v) (h1 : v < 256) : MemB (w.setCell ⟨g, i, none⟩ (.int .u8 v)) p g (zs.set i v) := by
  refine ⟨by simpa using h.1.far (p := ⟨g, i, none⟩) h.ne _, h.2.1.set' (cells_set _ _ _), by simpa using h.2.2.1, fun z hz => ?_⟩
  rcases List.mem_or_eq_of_mem_set hz with hz | rfl
  · exact h.2.2.2 z hz
  · exact ⟨h0, h1⟩
theorem pow8 (k : Nat) : (2 : Int) ^ (8 * k) = 256 ^ k := by rw [Int.pow_mul]; rfl
theorem len_tk (n : Nat) (x : Int) (k : Nat) (h : k ≤ n) : ((bytesOf n x).take k).length = k := by simp [h]
theorem store_cell {w : World} {p g : Nat} {zs : List Int} {a n k : Nat} {x : Int} (h : MemB w p g (splice zs a ((bytesOf n x).take k))) (ho : a + n ≤ zs.length) (hk : k < n) : ∃ v, w.cell? ⟨g, a + k, none⟩ = some (.int .u8 v) := by
  have hl : (splice zs a ((bytesOf n x).take k)).length = zs.length := length_splice _ _ _ (by rw [len_tk n x k (by omega)]; omega)
  exact ⟨_, (h.2.1.cell (a + k)).trans (cellsOf_lt (by omega))⟩
theorem store_step {w : World} {p g : Nat} {zs : List Int} {a n k : Nat} {x : Int} (h : MemB w p g (splice zs a ((bytesOf n x).take k))) (ho : a + n ≤ zs.length) (hk : k < n) :
    MemB (w.setCell ⟨g, a + k, none⟩ (.int .u8 (x / 2 ^ (8 * k) % 256))) p g (splice zs a ((bytesOf n x).take (k + 1))) := by
  have hl := len_tk n x k (by omega)
  have e := splice_snoc zs a ((bytesOf n x).take k) (x / 256 ^ k % 256) (by omega)
  rw [hl] at e
  rw [bytesOf_take n x k hk, ← e, pow8]
  exact h.setB (a + k) _ (by omega) (by omega)
set_option maxHeartbeats 1000000 in
theorem store_1 (w : World) (p g : Nat) (zs : List Int) (h : MemB w p g zs) (a : Nat) (x : Int) (ho : a + 1 ≤ zs.length) (hx : 0 ≤ x) (hxn : x < 256 ^ 1) :
    Calls Try.prog 22 #[.pointer (some ⟨p, 0, none⟩), .int .u64 a, .int .i64 1, .int .u64 x] w fun e w' => e = .returned (.int .i64 0) ∧ MemB w' p g (splice zs a (bytesOf 1 x)) ∧ Kept [g] w w' := by
  have HM := Lib.hid h
  clear h
  have hd : x / 256 = 0 := by omega
  clear hxn
  go_enter Try.func22, Try.ntmps22
  go_wp2_with (first | (go_at_call 47; refine (may_t _ _ (by unfold MayN; omega)).mono ?_; rintro e w' ⟨rfl, rfl⟩) | (go_at_call 48; refine (in_pos _ _ _ _ HM.out _ 1 ho (by omega)).mono ?_; rintro e w' ⟨rfl, rfl⟩))
  clear hd
  go_loopw [42] (fun i wr => ∃ k : Nat, k ≤ 1 ∧ i = .int .i64 k ∧ Hid (MemB wr p g (splice zs a ((bytesOf 1 x).take k))) ∧ Kept [g] w wr) (fun i _ => (1 - intOf i).toNat)
  case atStart => exact ⟨0, by omega, rfl, Lib.hid (by simpa [splice_nil] using HM.out), Kept.refl _ _⟩
  case round =>
    obtain ⟨k, hk, rfl, hm, hkw⟩ := hrel
    by_cases hlt : k < 1
    · obtain ⟨v, hcell⟩ := store_cell hm.out ho hlt
      have hfr := hm.out.2.1.frozen (a + k)
      go_wp2
      go_roundw
      case rel => exact ⟨k + 1, by omega, by go_num, Lib.hid (store_step hm.out ho hlt), hkw.setIn (by simp) _⟩
      case measure => simp [intOf]; omega
    · obtain rfl : k = 1 := by omega
      go_wp2
      go_ret
      exact ⟨rfl, by have := hm.out; rwa [List.take_of_length_le (by simp)] at this, hkw⟩
set_option maxHeartbeats 1000000 in
theorem store_2 (w : World) (p g : Nat) (zs : List Int) (h : MemB w p g zs) (a : Nat) (x : Int) (ho : a + 2 ≤ zs.length) (hx : 0 ≤ x) (hxn : x < 256 ^ 2) :
    Calls Try.prog 22 #[.pointer (some ⟨p, 0, none⟩), .int .u64 a, .int .i64 2, .int .u64 x] w fun e w' => e = .returned (.int .i64 0) ∧ MemB w' p g (splice zs a (bytesOf 2 x)) ∧ Kept [g] w w' := by
  have HM := Lib.hid h
  clear h
  have hd : x / 65536 = 0 := by omega
  clear hxn
  go_enter Try.func22, Try.ntmps22
  go_wp2_with (first | (go_at_call 47; refine (may_t _ _ (by unfold MayN; omega)).mono ?_; rintro e w' ⟨rfl, rfl⟩) | (go_at_call 48; refine (in_pos _ _ _ _ HM.out _ 2 ho (by omega)).mono ?_; rintro e w' ⟨rfl, rfl⟩))
  clear hd
  go_loopw [42] (fun i wr => ∃ k : Nat, k ≤ 2 ∧ i = .int .i64 k ∧ Hid (MemB wr p g (splice zs a ((bytesOf 2 x).take k))) ∧ Kept [g] w wr) (fun i _ => (2 - intOf i).toNat)
  case atStart => exact ⟨0, by omega, rfl, Lib.hid (by simpa [splice_nil] using HM.out), Kept.refl _ _⟩
  case round =>
    obtain ⟨k, hk, rfl, hm, hkw⟩ := hrel
    by_cases hlt : k < 2
    · obtain ⟨v, hcell⟩ := store_cell hm.out ho hlt
      have hfr := hm.out.2.1.frozen (a + k)
      go_wp2
      go_roundw
      case rel => exact ⟨k + 1, by omega, by go_num, Lib.hid (store_step hm.out ho hlt), hkw.setIn (by simp) _⟩
      case measure => simp [intOf]; omega
    · obtain rfl : k = 2 := by omega
      go_wp2
      go_ret
      exact ⟨rfl, by have := hm.out; rwa [List.take_of_length_le (by simp)] at this, hkw⟩
set_option maxHeartbeats 1000000 in
theorem store_4 (w : World) (p g : Nat) (zs : List Int) (h : MemB w p g zs) (a : Nat) (x : Int) (ho : a + 4 ≤ zs.length) (hx : 0 ≤ x) (hxn : x < 256 ^ 4) :
    Calls Try.prog 22 #[.pointer (some ⟨p, 0, none⟩), .int .u64 a, .int .i64 4, .int .u64 x] w fun e w' => e = .returned (.int .i64 0) ∧ MemB w' p g (splice zs a (bytesOf 4 x)) ∧ Kept [g] w w' := by
  have HM := Lib.hid h
  clear h
  have hd : x / 4294967296 = 0 := by omega
  clear hxn
  go_enter Try.func22, Try.ntmps22
  go_wp2_with (first | (go_at_call 47; refine (may_t _ _ (by unfold MayN; omega)).mono ?_; rintro e w' ⟨rfl, rfl⟩) | (go_at_call 48; refine (in_pos _ _ _ _ HM.out _ 4 ho (by omega)).mono ?_; rintro e w' ⟨rfl, rfl⟩))
  clear hd
  go_loopw [42] (fun i wr => ∃ k : Nat, k ≤ 4 ∧ i = .int .i64 k ∧ Hid (MemB wr p g (splice zs a ((bytesOf 4 x).take k))) ∧ Kept [g] w wr) (fun i _ => (4 - intOf i).toNat)
  case atStart => exact ⟨0, by omega, rfl, Lib.hid (by simpa [splice_nil] using HM.out), Kept.refl _ _⟩
  case round =>
    obtain ⟨k, hk, rfl, hm, hkw⟩ := hrel
    by_cases hlt : k < 4
    · obtain ⟨v, hcell⟩ := store_cell hm.out ho hlt
      have hfr := hm.out.2.1.frozen (a + k)
      go_wp2
      go_roundw
      case rel => exact ⟨k + 1, by omega, by go_num, Lib.hid (store_step hm.out ho hlt), hkw.setIn (by simp) _⟩
      case measure => simp [intOf]; omega
    · obtain rfl : k = 4 := by omega
      go_wp2
      go_ret
      exact ⟨rfl, by have := hm.out; rwa [List.take_of_length_le (by simp)] at this, hkw⟩
set_option maxHeartbeats 1000000 in
theorem store_8 (w : World) (p g : Nat) (zs : List Int) (h : MemB w p g zs) (a : Nat) (x : Int) (ho : a + 8 ≤ zs.length) (hx : 0 ≤ x) (hxn : x < 256 ^ 8) :
    Calls Try.prog 22 #[.pointer (some ⟨p, 0, none⟩), .int .u64 a, .int .i64 8, .int .u64 x] w fun e w' => e = .returned (.int .i64 0) ∧ MemB w' p g (splice zs a (bytesOf 8 x)) ∧ Kept [g] w w' := by
  have HM := Lib.hid h
  clear h
  clear hxn
  go_enter Try.func22, Try.ntmps22
  go_wp2_with (first | (go_at_call 47; refine (may_t _ _ (by unfold MayN; omega)).mono ?_; rintro e w' ⟨rfl, rfl⟩) | (go_at_call 48; refine (in_pos _ _ _ _ HM.out _ 8 ho (by omega)).mono ?_; rintro e w' ⟨rfl, rfl⟩))
  go_loopw [42] (fun i wr => ∃ k : Nat, k ≤ 8 ∧ i = .int .i64 k ∧ Hid (MemB wr p g (splice zs a ((bytesOf 8 x).take k))) ∧ Kept [g] w wr) (fun i _ => (8 - intOf i).toNat)
  case atStart => exact ⟨0, by omega, rfl, Lib.hid (by simpa [splice_nil] using HM.out), Kept.refl _ _⟩
  case round =>
    obtain ⟨k, hk, rfl, hm, hkw⟩ := hrel
    by_cases hlt : k < 8
    · obtain ⟨v, hcell⟩ := store_cell hm.out ho hlt
      have hfr := hm.out.2.1.frozen (a + k)
      go_wp2
      go_roundw
      case rel => exact ⟨k + 1, by omega, by go_num, Lib.hid (store_step hm.out ho hlt), hkw.setIn (by simp) _⟩
      case measure => simp [intOf]; omega
    · obtain rfl : k = 8 := by omega
      go_wp2
      go_ret
      exact ⟨rfl, by have := hm.out; rwa [List.take_of_length_le (by simp)] at this, hkw⟩
theorem store_in (w : World) (p g : Nat) (zs : List Int) (h : MemB w p g zs) (a n : Nat) (x : Int) (hn : MayN n) (ho : a + n ≤ zs.length) (hx : 0 ≤ x) (hxn : x < 256 ^ n) :
    Calls Try.prog 22 #[.pointer (some ⟨p, 0, none⟩), .int .u64 a, .int .i64 n, .int .u64 x] w fun e w' => e = .returned (.int .i64 0) ∧ MemB w' p g (splice zs a (bytesOf n x)) ∧ Kept [g] w w' := by
  unfold MayN at hn
  have h8 : n = 1 ∨ n = 2 ∨ n = 4 ∨ n = 8 := by omega
  rcases h8 with rfl | rfl | rfl | rfl
  · exact store_1 w p g zs h a x ho hx hxn
  · exact store_2 w p g zs h a x ho hx hxn
  · exact store_4 w p g zs h a x ho hx hxn
  · exact store_8 w p g zs h a x ho hx hxn
theorem store8_out (w : World) (p g : Nat) (zs : List Int) (h : MemB w p g zs) (a x : Int) (ha : 0 ≤ a) (ho : (zs.length : Int) < a ∨ (zs.length : Int) - a < 8) :
    Calls Try.prog 22 #[.pointer (some ⟨p, 0, none⟩), .int .u64 a, .int .i64 8, .int .u64 x] w fun e w' => e = .returned (.int .i64 3) ∧ w = w' := by
  have HO := Lib.hid ho
  clear ho
  go_enter Try.func22, Try.ntmps22
  go_wp2_with (first | (go_at_call 47; refine (may_t _ _ (by unfold MayN; omega)).mono ?_; rintro e w' ⟨rfl, rfl⟩) | (go_at_call 48; refine (in_out _ _ _ _ h _ 8 ha (by omega) HO.out).mono ?_; rintro e w' ⟨rfl, rfl⟩))
  go_loop [42] (fun i => i = .int .i64 0) (fun _ => 0)
  case atStart => rfl
  case round =>
    subst hrel
    go_wp2
    go_ret
    exact ⟨rfl, rfl⟩
end Go.Proofs.Ytgiokigokedakaa
