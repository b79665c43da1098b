/- Words that are apart don't change one another; what is put is got, byte by byte. No condition. -/
import Derived.Test.YtlcaddedfgndoaaMemH
set_option linter.unusedVariables false
set_option linter.unusedSimpArgs false
namespace Go.Proofs.Ytlcaddedfgndoaa.MemWords
open Go.RowKit Go.ChangeShapes Go.WideShapes Go.ChangeAt Go.Joins
set_option maxRecDepth 100000 in
set_option maxHeartbeats 2000000 in
theorem walk1 (X Y a2 a3 : Int) (W : World) (b0 : 0 ≤ X ∧ X ≤ 18446744073709551615) (b1 : 0 ≤ Y ∧ Y ≤ 18446744073709551615) (b2 : 0 ≤ a2 ∧ a2 ≤ 255) (b3 : 0 ≤ a3 ∧ a3 ≤ 255) (A B : Nat) (hA : 8 * (a2 % 128) = (A : Int)) (hB : 8 * (a3 % 128) = (B : Int))
    (V : Int) (hV : (A = B ∧ V = Y) ∨ (A ≠ B ∧ V = X)) (q : Bool) (hq : ((A : Int) == (B : Int)) = q) (hq' : ((A : Int) != (B : Int)) = !q) :
    Calls Try.prog 6 #[.agg #[.int .u64 X, .int .u64 Y, .int .u8 a2, .int .u8 a3]] W fun e W' => e = .returned (.bool true) ∧ Below W.heap.size W W' := by
  obtain ⟨zs, hzs⟩ : ∃ zs, zeros 2048 = zs := ⟨_, rfl⟩
  have hl : Hid (zs.length = 2048) := Lib.hid (by rw [← hzs]; simp [zeros])
  have C1 : Hid (∀ w : World, Calls Try.prog 10 #[.int .u64 2048] w fun e w' => e = .returned (.tuple #[.pointer (some ⟨w.heap.size + 1, 0, none⟩), .int .i64 0]) ∧ MemB w' (w.heap.size + 1) w.heap.size zs ∧ Kept [] w w') := Lib.hid (by
    intro w; have := new_any w 2048 (by omega) (by omega) (by omega); rw [hzs] at this; exact this)
  clear hzs
  have hA1 : A + 8 ≤ 1024 ∧ B + 8 ≤ 1024 ∧ (A = B ∨ A + 8 ≤ B ∨ B + 8 ≤ A) := by omega
  obtain ⟨z1, hz1⟩ : ∃ z1, splice zs A (bytesOf 8 X) = z1 := ⟨_, rfl⟩
  have hl1 : Hid (z1.length = 2048) := Lib.hid (by rw [← hz1, length_splice _ _ _ (by have := hl.out; simp; omega)]; exact hl.out)
  obtain ⟨z2, hz2⟩ : ∃ z2, splice z1 B (bytesOf 8 Y) = z2 := ⟨_, rfl⟩
  have hl2 : Hid (z2.length = 2048) := Lib.hid (by rw [← hz2, length_splice _ _ _ (by have := hl1.out; simp; omega)]; exact hl1.out)
  have C2 : Hid (∀ (w : World) p g, MemB w p g zs → Calls Try.prog 16 #[.pointer (some ⟨p, 0, none⟩), .int .u64 A, .int .i64 8, .int .u64 X] w fun e w' => e = .returned (.int .i64 0) ∧ MemB w' p g z1 ∧ Kept [g] w w') := Lib.hid (by
    intro w p g h; rw [← hz1]; exact store_8 w p g zs h A X (by have := hl.out; omega) b0.1 (by omega))
  have C3 : Hid (∀ (w : World) p g, MemB w p g z1 → Calls Try.prog 16 #[.pointer (some ⟨p, 0, none⟩), .int .u64 B, .int .i64 8, .int .u64 Y] w fun e w' => e = .returned (.int .i64 0) ∧ MemB w' p g z2 ∧ Kept [g] w w') := Lib.hid (by
    intro w p g h; rw [← hz2]; exact store_8 w p g z1 h B Y (by have := hl1.out; omega) b1.1 (by omega))
  have hv : ldV z2 A 8 = V := by
    rw [← hz2]
    rcases hV with ⟨rfl, rfl⟩ | ⟨hne, rfl⟩
    · exact ldV_same z1 A 8 _ (by have := hl1.out; omega) b1.1 (by omega)
    · rw [ldV_far z1 B 8 A 8 Y (by have := hl1.out; omega) (by omega), ← hz1]
      exact ldV_same zs A 8 _ (by have := hl.out; omega) b0.1 (by omega)
  have hy : ldV z2 B 8 = Y := by
    rw [← hz2]
    exact ldV_same z1 B 8 _ (by have := hl1.out; omega) b1.1 (by omega)
  have C4 : Hid (∀ (w : World) p g, MemB w p g z2 → Calls Try.prog 17 #[.pointer (some ⟨p, 0, none⟩), .int .u64 A, .int .i64 8] w fun e w' => e = .returned (.tuple #[.int .u64 V, .int .i64 0]) ∧ Kept [] w w') := Lib.hid (by
    intro w p g h; have := load_8 w p g z2 h A (by have := hl2.out; omega); rw [hv] at this; exact this)
  have C5 : Hid (∀ (w : World) p g, MemB w p g z2 → Calls Try.prog 17 #[.pointer (some ⟨p, 0, none⟩), .int .u64 B, .int .i64 8] w fun e w' => e = .returned (.tuple #[.int .u64 Y, .int .i64 0]) ∧ Kept [] w w') := Lib.hid (by
    intro w p g h; have := load_8 w p g z2 h B (by have := hl2.out; omega); rw [hy] at this; exact this)
  have C6 : Hid (∀ (w : World) p g, MemB w p g z2 → Calls Try.prog 12 #[.pointer (some ⟨p, 0, none⟩), .int .u64 B, .int .u64 8] w (GetAt w 8 (bytesOf 8 Y))) := Lib.hid (by
    intro w p g h; exact get_at w p g z2 h B 8 _ (by have := hl2.out; omega) (by rw [← hz2]; exact word_piece z1 B 8 Y (by have := hl1.out; omega)))
  have C7 : Hid (∀ (w : World) p g S c, MemB w p g z2 → RowX .u8 w S (bytesOf 8 Y) → Calls Try.prog 14 #[.pointer (some ⟨p, 0, none⟩), .int .u64 A, .slice S 8 c] w fun e w' => e = .returned (.int .i64 0) ∧ Kept [g] w w') := Lib.hid (by
    intro w p g S c h hr
    exact (put_in w p g z2 h A S 8 c (bytesOf 8 Y) (by simp) hr (U8s.bytesOf _ _) (by have := hl2.out; simp; omega)).mono fun e w' hh => ⟨hh.1, hh.2.2⟩)
  have HE : Hid (∀ k, k < 8 → (bytesOf 8 Y)[k]?.getD 0 = Y / 2 ^ (8 * k) % 256) := Lib.hid (fun k hk => by rw [bytesOf_get 8 Y k hk, pow8]; rfl)
  have hvv : (A = B ∧ (V != Y) = false) ∨ (A ≠ B ∧ (V != X) = false) := by
    rcases hV with ⟨h, rfl⟩ | ⟨h, rfl⟩
    · exact .inl ⟨h, by simp⟩
    · exact .inr ⟨h, by simp⟩
  clear hz1 hz2 hv hy hV
  go_enter Try.func6, Try.ntmps6
  go_wp2_with fail
  (with_reducible refine (alive_any _).mono ?_)
  rintro e w1 ⟨rfl, hb1⟩
  have hs1 := hb1.size
  (try simp only [World.size_alloc, World.size_setCell, World.size_drew, size_drewN] at hs1)
  have B0 : Blk w1 W.heap.size 47 #[.int .u64 X, .int .u64 Y, .int .u8 a2, .int .u8 a3] := by ((with_reducible apply Blk.cast); (case h => (repeat' (first | (with_reducible assumption) | ((with_reducible apply Blk.keep0); (case hk => (with_reducible assumption))) | (with_reducible exact Blk.new _ _ _) | ((with_reducible apply Blk.new'); (case h => (first | (with_reducible rfl) | (simp only [World.size_alloc, World.size_setCell, World.size_drew, size_drewN]; done)))) | (with_reducible apply Blk.alloc) | (with_reducible apply Blk.set_) | ((with_reducible apply Blk.far); (case hp => (simp only []; omega))) | (with_reducible apply Blk.drew) | (with_reducible apply Blk.drewN)))); (case e => rfl))
  have B0_c := B0.cell
  have B0_f := B0.frozen
  have B0_z := B0.lt
  go_wp2_with fail
  go_quiet (fail)
  go_wp2_with fail
  (with_reducible refine (C1.out _).mono ?_)
  rintro e w2 ⟨rfl, hM2, hb2⟩
  have hs2 := hb2.size
  (try simp only [World.size_alloc, World.size_setCell, World.size_drew, size_drewN] at hs2)
  have M2 := Lib.hid hM2
  have hg2 := hM2.2.1.lt
  clear hM2
  (try simp only [size_drewN, World.size_drew] at M2 hg2)
  go_wp2_with fail
  (with_reducible refine (C2.out _ _ _ M2.out).mono ?_)
  rintro e w3 ⟨rfl, hM3, hb3⟩
  have hs3 := hb3.size
  (try simp only [World.size_alloc, World.size_setCell, World.size_drew, size_drewN] at hs3)
  have M3 := Lib.hid hM3
  have hg3 := hM3.2.1.lt
  clear hM3
  (try simp only [size_drewN, World.size_drew] at M3 hg3)
  go_wp2_with fail
  (with_reducible refine (C3.out _ _ _ M3.out).mono ?_)
  rintro e w4 ⟨rfl, hM4, hb4⟩
  have hs4 := hb4.size
  (try simp only [World.size_alloc, World.size_setCell, World.size_drew, size_drewN] at hs4)
  have M4 := Lib.hid hM4
  have hg4 := hM4.2.1.lt
  clear hM4
  (try simp only [size_drewN, World.size_drew] at M4 hg4)
  clear M2 M3
  go_wp2_with fail
  (with_reducible refine (C4.out _ _ _ M4.out).mono ?_)
  rintro e w5 ⟨rfl, hb5⟩
  have hs5 := hb5.size
  (try simp only [World.size_alloc, World.size_setCell, World.size_drew, size_drewN] at hs5)
  go_wp2_with fail
  (with_reducible refine (C5.out _ _ _ (M4.out.keep0 hb5)).mono ?_)
  rintro e w6 ⟨rfl, hb6⟩
  have hs6 := hb6.size
  (try simp only [World.size_alloc, World.size_setCell, World.size_drew, size_drewN] at hs6)
  cases q with
  | true =>
    have hvq : (V != Y) = false := by
      rcases hvv with ⟨_, h⟩ | ⟨h, _⟩
      · exact h
      · exfalso; simp at hq; omega
    clear hvv
    go_wp2_with fail
    (with_reducible refine (C6.out _ _ _ (M4.out.keep0 (by (repeat' (first | (with_reducible exact Kept.refl _ _) | (with_reducible assumption) | (with_reducible refine Kept.then_ (by with_reducible assumption) ?_) | (with_reducible refine Kept.thenS (by with_reducible assumption) ?_) | (with_reducible refine Kept.alloc ?_ _) | (with_reducible refine Kept.drew ?_) | (with_reducible refine Kept.drewN ?_ _) | (with_reducible refine Kept.setNew ?_ ?_ _) | ((try simp only [World.size_alloc, World.size_setCell, World.size_drew, size_drewN] at *); (try dsimp only); omega)))))).mono ?_)
    rintro e w7 ⟨A7, c7, rfl, hO7, hb7⟩
    have hs7 := hb7.size
    (try simp only [World.size_alloc, World.size_setCell, World.size_drew, size_drewN] at hs7)
    have O7 := Lib.hid hO7
    clear hO7
    (try simp only [size_drewN, World.size_drew] at O7)
    obtain ⟨ad, hA7, hcs⟩ := cells_at O7.out (by simp) (by omega)
    subst hA7
    have M7 := Lib.hid (M4.out.keep0 (by (repeat' (first | (with_reducible exact Kept.refl _ _) | (with_reducible assumption) | (with_reducible refine Kept.then_ (by with_reducible assumption) ?_) | (with_reducible refine Kept.thenS (by with_reducible assumption) ?_) | (with_reducible refine Kept.alloc ?_ _) | (with_reducible refine Kept.drew ?_) | (with_reducible refine Kept.drewN ?_ _) | (with_reducible refine Kept.setNew ?_ ?_ _) | ((try simp only [World.size_alloc, World.size_setCell, World.size_drew, size_drewN] at *); (try dsimp only); omega))) : Kept [] w4 w7))
    have HC := Lib.hid hcs
    clear hcs M4
    go_wp2_with fail
    go_loop [108] (fun i => ∃ k : Nat, k ≤ 8 ∧ i = .int .i64 k) (fun i => (8 - intOf i).toNat)
    case atStart => exact ⟨0, by omega, rfl⟩
    case round =>
      obtain ⟨k, hk, rfl⟩ := hrel
      by_cases hlt : k < 8
      · have hcell := HC.out k hlt
        rw [HE.out k hlt] at hcell
        go_wp2_with fail
        go_round
        case rel => exact ⟨k + 1, by omega, by go_num⟩
        case measure => simp [intOf]; omega
      · obtain rfl : k = 8 := by omega
        go_wp2_with fail
        (with_reducible refine (C7.out _ _ _ _ _ M7.out O7.out.row).mono ?_)
        rintro e w8 ⟨rfl, hb8⟩
        have hs8 := hb8.size
        (try simp only [World.size_alloc, World.size_setCell, World.size_drew, size_drewN] at hs8)
        go_wp2_with fail
        go_ret
        exact ⟨rfl, Kept.below (by (repeat' (first | (with_reducible exact Kept.refl _ _) | (with_reducible assumption) | (with_reducible refine Kept.then_ (by with_reducible assumption) ?_) | (with_reducible refine Kept.thenS (by with_reducible assumption) ?_) | (with_reducible refine Kept.thenG (by with_reducible assumption) ?_ ?_) | (with_reducible refine Kept.alloc ?_ _) | (with_reducible refine Kept.drew ?_) | (with_reducible refine Kept.drewN ?_ _) | (with_reducible refine Kept.setNew ?_ ?_ _) | ((try simp only [World.size_alloc, World.size_setCell, World.size_drew, size_drewN] at *); (try dsimp only); omega))))⟩
  | false =>
    have hvq : (V != X) = false := by
      rcases hvv with ⟨h, _⟩ | ⟨_, h⟩
      · exfalso; simp at hq; omega
      · exact h
    clear hvv
    go_wp2_with fail
    (with_reducible refine (C6.out _ _ _ (M4.out.keep0 (by (repeat' (first | (with_reducible exact Kept.refl _ _) | (with_reducible assumption) | (with_reducible refine Kept.then_ (by with_reducible assumption) ?_) | (with_reducible refine Kept.thenS (by with_reducible assumption) ?_) | (with_reducible refine Kept.alloc ?_ _) | (with_reducible refine Kept.drew ?_) | (with_reducible refine Kept.drewN ?_ _) | (with_reducible refine Kept.setNew ?_ ?_ _) | ((try simp only [World.size_alloc, World.size_setCell, World.size_drew, size_drewN] at *); (try dsimp only); omega)))))).mono ?_)
    rintro e w7 ⟨A7, c7, rfl, hO7, hb7⟩
    have hs7 := hb7.size
    (try simp only [World.size_alloc, World.size_setCell, World.size_drew, size_drewN] at hs7)
    have O7 := Lib.hid hO7
    clear hO7
    (try simp only [size_drewN, World.size_drew] at O7)
    obtain ⟨ad, hA7, hcs⟩ := cells_at O7.out (by simp) (by omega)
    subst hA7
    have M7 := Lib.hid (M4.out.keep0 (by (repeat' (first | (with_reducible exact Kept.refl _ _) | (with_reducible assumption) | (with_reducible refine Kept.then_ (by with_reducible assumption) ?_) | (with_reducible refine Kept.thenS (by with_reducible assumption) ?_) | (with_reducible refine Kept.alloc ?_ _) | (with_reducible refine Kept.drew ?_) | (with_reducible refine Kept.drewN ?_ _) | (with_reducible refine Kept.setNew ?_ ?_ _) | ((try simp only [World.size_alloc, World.size_setCell, World.size_drew, size_drewN] at *); (try dsimp only); omega))) : Kept [] w4 w7))
    have HC := Lib.hid hcs
    clear hcs M4
    go_wp2_with fail
    go_loop [108] (fun i => ∃ k : Nat, k ≤ 8 ∧ i = .int .i64 k) (fun i => (8 - intOf i).toNat)
    case atStart => exact ⟨0, by omega, rfl⟩
    case round =>
      obtain ⟨k, hk, rfl⟩ := hrel
      by_cases hlt : k < 8
      · have hcell := HC.out k hlt
        rw [HE.out k hlt] at hcell
        go_wp2_with fail
        go_round
        case rel => exact ⟨k + 1, by omega, by go_num⟩
        case measure => simp [intOf]; omega
      · obtain rfl : k = 8 := by omega
        go_wp2_with fail
        (with_reducible refine (C7.out _ _ _ _ _ M7.out O7.out.row).mono ?_)
        rintro e w8 ⟨rfl, hb8⟩
        have hs8 := hb8.size
        (try simp only [World.size_alloc, World.size_setCell, World.size_drew, size_drewN] at hs8)
        go_wp2_with fail
        go_ret
        exact ⟨rfl, Kept.below (by (repeat' (first | (with_reducible exact Kept.refl _ _) | (with_reducible assumption) | (with_reducible refine Kept.then_ (by with_reducible assumption) ?_) | (with_reducible refine Kept.thenS (by with_reducible assumption) ?_) | (with_reducible refine Kept.thenG (by with_reducible assumption) ?_ ?_) | (with_reducible refine Kept.alloc ?_ _) | (with_reducible refine Kept.drew ?_) | (with_reducible refine Kept.drewN ?_ _) | (with_reducible refine Kept.setNew ?_ ?_ _) | ((try simp only [World.size_alloc, World.size_setCell, World.size_drew, size_drewN] at *); (try dsimp only); omega))))⟩
theorem walk (a0_0 a0_1 a0_2 a0_3 : Int) (W : World) (w0_0 : (Lit.int .u64 a0_0).wf = true) (w0_1 : (Lit.int .u64 a0_1).wf = true) (w0_2 : (Lit.int .u8 a0_2).wf = true) (w0_3 : (Lit.int .u8 a0_3).wf = true) :
    Calls Try.prog 6 #[.agg #[.int .u64 a0_0, .int .u64 a0_1, .int .u8 a0_2, .int .u8 a0_3]] W fun e W' => e = .returned (.bool true) ∧ Below W.heap.size W W' := by
  have b2 := bounds_u8 w0_2
  have b3 := bounds_u8 w0_3
  obtain ⟨A, hA⟩ : ∃ A : Nat, 8 * (a0_2 % 128) = (A : Int) := ⟨(8 * (a0_2 % 128)).toNat, by omega⟩
  obtain ⟨B, hB⟩ : ∃ B : Nat, 8 * (a0_3 % 128) = (B : Int) := ⟨(8 * (a0_3 % 128)).toNat, by omega⟩
  by_cases h : A = B
  · exact walk1 _ _ _ _ W (bounds_u64 w0_0) (bounds_u64 w0_1) b2 b3 A B hA hB a0_1 (.inl ⟨h, rfl⟩) true (by simp [h]) (by simp [h])
  · exact walk1 _ _ _ _ W (bounds_u64 w0_0) (bounds_u64 w0_1) b2 b3 A B hA hB a0_0 (.inr ⟨h, rfl⟩) false (by simp; omega) (by simp; omega)
theorem own : ownKnob Try.prog.godebug = none := by kernel_rfl
theorem laidOut : laidOutB Try.prog = true := by kernel_rfl
set_option maxRecDepth 100000 in
theorem lifted (os : Os) (started : os.Started) (H : Type) (enc : TypeId × Value → H) :
    ReturnsInHanded {} Try.checked os 6 .any (Rows.memWordsSpec.pre6 enc Try.prog Try.f6 Rows.memWordsRow.domain false) (Rows.memWordsSpec.post enc Try.prog Try.f6 false true false false) := by
  refine returnsInHanded_of_change (C := Try.checked) own started (by kernel_rfl) Try.func6
    (ChangeSpec.witness6 (enc := enc) (C := Try.checked) false ⟨#[], #[.agg #[.int .u64 0, .int .u64 0, .int .u8 0, .int .u8 0]], []⟩ 8 (by kernel_rfl) (by kernel_rfl) (by kernel_rfl) (by kernel_rfl)) ?_
  intro W base args ds gs before hval0 hW hcnd _
  have hval : ∀ (j : Nat) t v, Try.f6.params[j]? = some t → args[j]? = some v → Value.okWide Try.prog W .any base t v := hval0
  have hW' := hW
  obtain ⟨p, q, hA0, hV, rfl, hfz, hnd⟩ := hW
  have hA : DataW.TrodAll enc Try.prog W 0 (fun _ => true) true Try.f6.params.toList args.toList ds p := hA0
  rw [Try.params6] at hA hval
  obtain ⟨v0, vs0, d0, ds0, p0, q0, hargs, rfl, rfl, h0, r0⟩ := trodAll_cons hA
  obtain ⟨rfl, rfl, rfl⟩ := trodAll_nil r0
  obtain rfl : args = #[v0] := by cases args; simp_all
  obtain ⟨rfl, rfl⟩ := trodVars_none hV
  have k0 := h0
  have lt0 : ∀ x ∈ p0, x.block < W.heap.size := by obtain ⟨m, hm⟩ := k0; exact DataW.trod_lt m _ _ _ hm
  obtain ⟨c0_0, c0_1, c0_2, c0_3, y0_0, y0_1, y0_2, y0_3, n0, rfl, rfl, rfl, t0_0, t0_1, t0_2, t0_3⟩ := open_agg4 Try.underlying47 (by kernel_rfl) (by kernel_rfl) (hval 0 47 v0 rfl rfl) h0
  obtain ⟨a0_0, e0_0, _, w0_0⟩ := DataW.trod_int Try.underlying28 t0_0
  simp only [List.cons.injEq, and_true] at e0_0
  subst e0_0
  obtain ⟨a0_1, e0_1, _, w0_1⟩ := DataW.trod_int Try.underlying28 t0_1
  simp only [List.cons.injEq, and_true] at e0_1
  subst e0_1
  obtain ⟨a0_2, e0_2, _, w0_2⟩ := DataW.trod_int Try.underlying5 t0_2
  simp only [List.cons.injEq, and_true] at e0_2
  subst e0_2
  obtain ⟨a0_3, e0_3, _, w0_3⟩ := DataW.trod_int Try.underlying5 t0_3
  simp only [List.cons.injEq, and_true] at e0_3
  subst e0_3
  clear hA0 hval0
  refine (walk a0_0 a0_1 a0_2 a0_3 W w0_0 w0_1 w0_2 w0_3).mono fun e W' ⟨he, bel⟩ => ?_
  subst he
  exact ⟨_, rfl, _, _, _, [], _, [], hW', trodAll_mk1 (shut_bool Try.underlying4 _), (trodAll_cons_mk (Below.trod laidOut (by kernel_rfl) (of_decide_eq_true (by kernel_rfl)) k0 bel lt0) trodAll_mk0), rfl, bel.frame _, fun h => by cases h⟩
theorem over : Rows.memWordsRow.holds Try.pinned (OpenSpec.ofChange Rows.memWordsSpec) :=
  OpenClaim.holds_of_wide 6 Try.f6 rfl rfl rfl rfl rfl rfl rfl ⟨rfl, rfl, rfl, rfl, rfl⟩ rfl rfl rfl rfl rfl (by kernel_rfl) Try.func6 (by kernel_rfl)
    (of_decide_eq_true (by kernel_rfl)) (by unfold Func.isWrapper; first | (rw [if_pos (by decide +kernel)]; kernel_rfl) | (rw [if_neg (by decide +kernel)]; exact ⟨rfl, rfl⟩))
    (fun os started H enc _ => lifted os started H enc)
theorem proved : Rows.MemWordsSaid := over
#print axioms proved
end Go.Proofs.Ytlcaddedfgndoaa.MemWords
