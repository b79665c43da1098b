/- Put, Copy, Cas. -/
import Derived.Test.YtlcaddedfgndoaaMemD
import Derived.Test.YtlcaddedfgndoaaCopy
set_option linter.unusedVariables false
set_option linter.unusedSimpArgs false
namespace Go.Proofs.Ytlcaddedfgndoaa
open Go.RowKit
theorem size_u8 : (Try.prog.info? 5).map (·.size) = some 1 := by kernel_rfl
theorem row_vals {w : World} {ad : Addr} {ys : List Int} (h : RowX .u8 w (some ad) ys) : ∀ j v, (ys.map (Value.int .u8))[j]? = some v → w.cell? (ad.add j) = some v := by
  intro j u hu
  rw [List.getElem?_map] at hu
  have hj : j < ys.length := by
    rcases Nat.lt_or_ge j ys.length with h1 | h1
    · exact h1
    · rw [List.getElem?_eq_none h1] at hu; cases hu
  obtain ⟨x, h1, _, h2⟩ := h (by omega)
  cases h1
  have := h2 j hj
  rw [List.getElem?_eq_getElem hj] at hu this
  simp at hu this
  rw [this, hu]
theorem one_vals (ys : List Int) : ∀ u ∈ ys.map (Value.int .u8), u.oneCell' = true := by
  intro u hu
  obtain ⟨z, _, rfl⟩ := List.mem_map.1 hu
  rfl
theorem MemB.spliced {w w' : World} {p g : Nat} {zs : List Int} (h : MemB w p g zs) (a : Nat) (ys : List Int) (hy : U8s ys) (ha : a + ys.length ≤ zs.length)
    (hb : Blk w' g 5 (splice (zs.map (Value.int .u8)) a (ys.map (Value.int .u8))).toArray) (hk : Kept [g] w w') : MemB w' p g (splice zs a ys) := by
  refine ⟨?_, ?_, ?_, h.2.2.2.splice hy a⟩
  · rw [length_splice _ _ _ ha]; exact h.1.keep hk (by simpa using h.ne)
  · unfold cellsOf; rw [map_splice]; exact hb
  · rw [length_splice _ _ _ ha]; exact h.2.2.1
theorem row_some {k : IntKind} {w : World} {A : Option Addr} {ys : List Int} (h : RowX k w A ys) (h0 : 0 < ys.length) : ∃ ad, A = some ad := by
  obtain ⟨x, h1, _⟩ := h h0
  exact ⟨x, h1⟩
set_option maxHeartbeats 1000000 in
theorem put_in (w : World) (p g : Nat) (zs : List Int) (h : MemB w p g zs) (a : Nat) (A : Option Addr) (n c : Nat) (ys : List Int) (hn : n = ys.length) (hr : RowX .u8 w A ys) (hy : U8s ys) (ho : a + ys.length ≤ zs.length) :
    Calls Try.prog 14 #[.pointer (some ⟨p, 0, none⟩), .int .u64 a, .slice A n c] w fun e w' => e = .returned (.int .i64 0) ∧ MemB w' p g (splice zs a ys) ∧ Kept [g] w w' := by
  subst hn
  have hz := h.2.2.1
  have HM := Lib.hid h
  have HR := Lib.hid hr
  have c1 := Lib.hid (in_in w p g zs h a ys.length ho)
  clear h hr
  go_enter Try.func14, Try.ntmps14
  go_wp2_with fail
  (with_reducible refine c1.out.mono ?_)
  rintro e w' ⟨rfl, rfl⟩
  go_wp2_with (refine copy_kept rfl (.tmp 18) (.tmp 19) 22 22 rfl 5 Try.underlying22 size_u8 (some ⟨g, offOf zs.length a, none⟩) A _ _ _ _ rfl rfl g a (zs.map (Value.int .u8)) 5 HM.out.2.1 (ys.map (Value.int .u8)) (by simp) (fun h0 => ?hpos) (by simpa using ho) (one_vals ys) ?_)
  case hpos =>
    have h0' : 0 < ys.length := by simpa using h0
    obtain ⟨ad, rfl⟩ := row_some HR.out h0'
    exact ⟨by rw [offOf_lt ho h0'], ad, rfl, row_vals HR.out⟩
  intro w2 hb2 hk2
  go_wp2
  go_ret
  exact ⟨rfl, HM.out.spliced a ys hy ho hb2.out hk2, hk2⟩
theorem put_out (w : World) (p g : Nat) (zs : List Int) (h : MemB w p g zs) (a : Int) (A : Option Addr) (n c : Nat) (ha : 0 ≤ a) (hn : n ≤ 9223372036854775807) (ho : (zs.length : Int) < a ∨ (zs.length : Int) - a < n) :
    Calls Try.prog 14 #[.pointer (some ⟨p, 0, none⟩), .int .u64 a, .slice A n c] w fun e w' => e = .returned (.int .i64 3) ∧ w = w' := by
  have c1 := Lib.hid (in_out w p g zs h a n ha (by omega) ho)
  clear h ho
  go_enter Try.func14, Try.ntmps14
  go_wp2_with fail
  (with_reducible refine c1.out.mono ?_)
  rintro e w' ⟨rfl, rfl⟩
  go_wp2_with (refine wpList_copy_nothing rfl (.tmp 18) (.tmp 19) 22 22 rfl 5 Try.underlying22 size_u8 none A _ _ _ _ rfl rfl (by simp) ?_)
  go_wp2
  go_ret
  exact ⟨rfl, rfl⟩
theorem put_none (w : World) (a : Int) : Calls Try.prog 14 #[.pointer none, .int .u64 a, .slice none 0 0] w fun e w' => e = .returned (.int .i64 1) ∧ w = w' := by
  have c1 := Lib.hid (in_none w a 0)
  go_enter Try.func14, Try.ntmps14
  go_wp2_with fail
  (with_reducible refine c1.out.mono ?_)
  rintro e w' ⟨rfl, rfl⟩
  go_wp2_with (refine wpList_copy_nothing rfl (.tmp 18) (.tmp 19) 22 22 rfl 5 Try.underlying22 size_u8 none none _ _ _ _ rfl rfl (by simp) ?_)
  go_wp2
  go_ret
  exact ⟨rfl, rfl⟩
set_option maxHeartbeats 1000000 in
theorem copy_in (w : World) (p g : Nat) (zs : List Int) (h : MemB w p g zs) (a b n : Nat) (ho : a + n ≤ zs.length) (hf : b + n ≤ zs.length) :
    Calls Try.prog 15 #[.pointer (some ⟨p, 0, none⟩), .int .u64 a, .int .u64 b, .int .u64 n] w fun e w' => e = .returned (.int .i64 0) ∧ MemB w' p g (splice zs a ((zs.drop b).take n)) ∧ Kept [g] w w' := by
  have hz := h.2.2.1
  have HM := Lib.hid h
  have c1 := Lib.hid (in_in w p g zs h b n hf)
  have c2 := Lib.hid (in_in w p g zs h a n ho)
  have hl := piece_len zs b n hf
  have HR := Lib.hid (piece_row h b n hf)
  have hy := (h.2.2.2.drop b).take n
  generalize (zs.drop b).take n = ys at *
  subst hl
  clear h
  go_enter Try.func15, Try.ntmps15
  go_wp2_with fail
  (with_reducible refine c1.out.mono ?_)
  rintro e w' ⟨rfl, rfl⟩
  go_wp2_with fail
  (with_reducible refine c2.out.mono ?_)
  rintro e w' ⟨rfl, rfl⟩
  go_wp2_with (refine copy_kept rfl (.tmp 29) (.tmp 30) 22 22 rfl 5 Try.underlying22 size_u8 (some ⟨g, offOf zs.length a, none⟩) (some ⟨g, offOf zs.length b, none⟩) _ _ _ _ rfl rfl g a (zs.map (Value.int .u8)) 5 HM.out.2.1 (ys.map (Value.int .u8)) (by simp) (fun h0 => ?hpos) (by simpa using ho) (one_vals ys) ?_)
  case hpos =>
    have h0' : 0 < ys.length := by simpa using h0
    exact ⟨by rw [offOf_lt ho h0'], _, rfl, row_vals HR.out⟩
  intro w2 hb2 hk2
  go_wp2
  go_ret
  exact ⟨rfl, HM.out.spliced a ys hy ho hb2.out hk2, hk2⟩
theorem copy_from_out (w : World) (p g : Nat) (zs : List Int) (h : MemB w p g zs) (a b n : Int) (hb : 0 ≤ b) (hn : 0 ≤ n) (ho : (zs.length : Int) < b ∨ (zs.length : Int) - b < n) :
    Calls Try.prog 15 #[.pointer (some ⟨p, 0, none⟩), .int .u64 a, .int .u64 b, .int .u64 n] w fun e w' => e = .returned (.int .i64 3) ∧ w = w' := by
  have c1 := Lib.hid (in_out w p g zs h b n hb hn ho)
  clear h ho
  go_enter Try.func15, Try.ntmps15
  go_wp2_with fail
  (with_reducible refine c1.out.mono ?_)
  rintro e w' ⟨rfl, rfl⟩
  go_wp2
  go_ret
  exact ⟨rfl, rfl⟩
theorem copy_to_out (w : World) (p g : Nat) (zs : List Int) (h : MemB w p g zs) (a : Int) (b n : Nat) (ha : 0 ≤ a) (hf : b + n ≤ zs.length) (ho : (zs.length : Int) < a ∨ (zs.length : Int) - a < n) :
    Calls Try.prog 15 #[.pointer (some ⟨p, 0, none⟩), .int .u64 a, .int .u64 b, .int .u64 n] w fun e w' => e = .returned (.int .i64 3) ∧ w = w' := by
  have c1 := Lib.hid (in_in w p g zs h b n hf)
  have c2 := Lib.hid (in_out w p g zs h a n ha (by omega) ho)
  clear h ho
  go_enter Try.func15, Try.ntmps15
  go_wp2_with fail
  (with_reducible refine c1.out.mono ?_)
  rintro e w' ⟨rfl, rfl⟩
  go_wp2_with fail
  (with_reducible refine c2.out.mono ?_)
  rintro e w' ⟨rfl, rfl⟩
  go_wp2_with (refine wpList_copy_nothing rfl (.tmp 29) (.tmp 30) 22 22 rfl 5 Try.underlying22 size_u8 none (some ⟨g, offOf zs.length b, none⟩) _ _ _ _ rfl rfl (by simp) ?_)
  go_wp2
  go_ret
  exact ⟨rfl, rfl⟩
theorem cas_same (w : World) (p g : Nat) (zs : List Int) (h : MemB w p g zs) (a : Nat) (old x : Int) (ho : a + 8 ≤ zs.length) (hx : 0 ≤ x) (hx8 : x < 18446744073709551616) (he : ldV zs a 8 = old) :
    Calls Try.prog 18 #[.pointer (some ⟨p, 0, none⟩), .int .u64 a, .int .u64 old, .int .u64 x] w fun e w' => e = .returned (.tuple #[.bool true, .int .i64 0]) ∧ MemB w' p g (splice zs a (bytesOf 8 x)) ∧ Kept [g] w w' := by
  have HM := Lib.hid h
  have c1 := Lib.hid (load_8 w p g zs h a ho)
  have c2 := Lib.hid (fun w h => store_8 w p g zs h a x ho hx (by omega))
  rw [he] at c1
  clear h he
  go_enter Try.func18, Try.ntmps18
  go_wp2_with fail
  (with_reducible refine c1.out.mono ?_)
  rintro e w1 ⟨rfl, hk1⟩
  go_wp2_with fail
  (with_reducible refine (c2.out _ (HM.out.keep0 hk1)).mono ?_)
  rintro e w2 ⟨rfl, hm2, hk2⟩
  have HM2 := Lib.hid hm2
  clear hm2
  go_wp2_with fail
  go_ret2
  exact ⟨rfl, HM2.out, hk2.thenS (hk1.mono (by simp))⟩
theorem cas_other (w : World) (p g : Nat) (zs : List Int) (h : MemB w p g zs) (a : Nat) (old x : Int) (ho : a + 8 ≤ zs.length) (he : ldV zs a 8 ≠ old) :
    Calls Try.prog 18 #[.pointer (some ⟨p, 0, none⟩), .int .u64 a, .int .u64 old, .int .u64 x] w fun e w' => e = .returned (.tuple #[.bool false, .int .i64 0]) ∧ Kept [] w w' := by
  have c1 := Lib.hid (load_8 w p g zs h a ho)
  have he' : (ldV zs a 8 != old) = true := by simpa using he
  clear h he
  go_enter Try.func18, Try.ntmps18
  go_wp2_with fail
  (with_reducible refine c1.out.mono ?_)
  rintro e w1 ⟨rfl, hk1⟩
  go_wp2_with fail
  go_ret2
  exact ⟨rfl, hk1⟩
end Go.Proofs.Ytlcaddedfgndoaa
