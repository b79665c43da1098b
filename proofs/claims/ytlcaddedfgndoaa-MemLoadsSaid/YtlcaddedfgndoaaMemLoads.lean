/- What was stored is loaded, whole, and in parts, the lowest first; beside it all stays. No condition. -/
import Derived.Test.YtlcaddedfgndoaaMemH
set_option linter.unusedVariables false
set_option linter.unusedSimpArgs false
namespace Go.Proofs.Ytlcaddedfgndoaa.MemLoads
open Go.RowKit Go.ChangeShapes Go.WideShapes Go.ChangeAt Go.Joins
theorem part (L : List Int) (a n : Nat) (x : Int) (h : a + 8 ≤ L.length) (h0 : 0 ≤ x) (hx : x < 256 ^ 8) (hn : n ≤ 8) : ldV (splice L a (bytesOf 8 x)) a n = x % 256 ^ n := by
  have e : ((splice L a (bytesOf 8 x)).drop a).take n = (bytesOf 8 x).take n := by
    have := word_piece L a 8 x h
    have h2 := congrArg (List.take n) this
    rw [List.take_take, Nat.min_eq_left hn] at h2
    exact h2
  unfold ldV
  rw [e, le_take _ (U8s.bytesOf _ _), le_bytesOf 8 x h0 hx]
theorem and255 (y : Int) (h0 : 0 ≤ y) (h1 : y < 18446744073709551616) : bits .and .u64 y 255 = y % 256 := by
  obtain ⟨n, rfl⟩ := Int.eq_ofNat_of_zero_le h0
  have h := u64_and_nat n 255 (by omega) (by omega)
  have e : n &&& 255 = n % 256 := Nat.and_two_pow_sub_one_eq_mod n 8
  rw [e] at h
  have h2 : bits .and .u64 (n : Int) 255 = ((n % 256 : Nat) : Int) := h
  rw [h2]; omega
theorem byte_of (L : List Int) (a k : Nat) (x : Int) (h : a + 8 ≤ L.length) (h0 : 0 ≤ x) (hx : x < 18446744073709551616) (hk : k < 8) : ldV (splice L a (bytesOf 8 x)) (a + k) 1 = bits .and .u64 (x / 2 ^ (8 * k)) 255 := by
  have hp : (0 : Int) < 256 ^ k := Int.pow_pos (by omega)
  have h1 : 0 ≤ x / 256 ^ k := Int.ediv_nonneg h0 (by omega)
  have h2 : x / 256 ^ k ≤ x := Int.ediv_le_self _ h0
  rw [pow8, and255 _ h1 (by omega)]
  have e : ((splice L a (bytesOf 8 x)).drop (a + k)).take 1 = [x / 256 ^ k % 256] := by
    apply List.ext_getElem?
    intro i
    by_cases hi : i < 1
    · obtain rfl : i = 0 := by omega
      rw [List.getElem?_take_of_lt (by omega), List.getElem?_drop, splice_get _ _ _ (by simp; omega), if_neg (by omega), if_pos (by simp; omega), show a + k + 0 - a = k by omega, bytesOf_get 8 x k hk]
      rfl
    · rw [List.getElem?_eq_none (by rw [List.length_take]; omega), List.getElem?_eq_none (by simp; omega)]
  unfold ldV
  rw [e]
  simp [le]
theorem one_of (L : List Int) (b : Nat) (v : Int) (h : L[b]? = some v) : ldV L b 1 = v := by
  have hb : b < L.length := by
    rcases Nat.lt_or_ge b L.length with h1 | h1
    · exact h1
    · rw [List.getElem?_eq_none h1] at h; cases h
  unfold ldV
  rw [List.drop_eq_getElem_cons hb]
  rw [List.getElem?_eq_getElem hb] at h
  injection h with h
  simp [le, h]
theorem beside (zs : List Int) (a b : Nat) (x c : Int) (hl : zs.length = 2048) (ha : a + 8 ≤ 2048) (hb : b < 2048) (hf : b < a ∨ a + 8 ≤ b) : ldV (splice (splice zs 0 (rep [c] 2048)) a (bytesOf 8 x)) b 1 = c := by
  have h1 : (splice zs 0 (rep [c] 2048)).length = 2048 := by rw [length_splice _ _ _ (by simp; omega)]; exact hl
  apply one_of
  rw [splice_get _ _ _ (by simp; omega)]
  have h3 : (splice zs 0 (rep [c] 2048))[b]? = some c := by
    rw [splice_get _ _ _ (by simp; omega), if_neg (by omega), if_pos (by simp; omega), rep_get _ _ _ (by omega)]
    simp [Nat.mod_one]
  simp only [length_bytesOf]
  rcases hf with h | h
  · rw [if_pos h, h3]
  · rw [if_neg (by omega), if_neg (by omega), h3]
set_option maxRecDepth 100000 in
set_option maxHeartbeats 2000000 in
theorem walk (x a1 c : Int) (W : World) (w0 : (Lit.int .u64 x).wf = true) (w1 : (Lit.int .u16 a1).wf = true) (w2 : (Lit.int .u8 c).wf = true) :
    Calls Try.prog 5 #[.int .u64 x, .int .u16 a1, .int .u8 c] W fun e W' => e = .returned (.bool true) ∧ Below W.heap.size W W' := by
  have b0 := bounds_u64 w0
  have b1 := bounds_u16 w1
  have b2 := bounds_u8 w2
  clear w0 w1 w2
  obtain ⟨a, hA⟩ : ∃ a : Nat, a1 % 2000 + 8 = (a : Int) := ⟨(a1 % 2000 + 8).toNat, by omega⟩
  have ha : 8 ≤ a ∧ a ≤ 2007 := by omega
  obtain ⟨zs, hzs⟩ : ∃ zs, zeros 2048 = zs := ⟨_, rfl⟩
  have hl : Hid (zs.length = 2048) := Lib.hid (by rw [← hzs]; exact length_zeros _)
  have C1 : Hid (∀ w : World, Calls Try.prog 10 #[.int .u64 2048] w fun e w' => e = .returned (.tuple #[.pointer (some ⟨w.heap.size + 1, 0, none⟩), .int .i64 0]) ∧ MemB w' (w.heap.size + 1) w.heap.size zs ∧ Kept [] w w') := Lib.hid (by
    intro w; have := new_any w 2048 (by omega) (by omega) (by omega); rw [hzs] at this; exact this)
  clear hzs
  obtain ⟨z1, hz1⟩ : ∃ z1, splice zs 0 (rep [c] 2048) = z1 := ⟨_, rfl⟩
  have hl1 : Hid (z1.length = 2048) := Lib.hid (by rw [← hz1, length_splice _ _ _ (by have := hl.out; simp; omega)]; exact hl.out)
  obtain ⟨z2, hz2⟩ : ∃ z2, splice z1 a (bytesOf 8 x) = z2 := ⟨_, rfl⟩
  have hl2 : Hid (z2.length = 2048) := Lib.hid (by rw [← hz2, length_splice _ _ _ (by have := hl1.out; simp; omega)]; exact hl1.out)
  have C2 : Hid (∀ (w : World) p g b, MemB w p g zs → b ≠ g → Blk w b 5 #[.int .u8 c] → Calls Try.prog 11 #[.pointer (some ⟨p, 0, none⟩), .int .u64 0, .int .u64 2048, .slice (some ⟨b, 0, none⟩) 1 1] w fun e w' => e = .returned (.int .i64 0) ∧ MemB w' p g z1 ∧ Kept [g] w w') := Lib.hid (by
    intro w p g b h hb hB
    rw [← hz1]
    exact fill_in w p g _ h 0 2048 (by have := hl.out; omega) (some ⟨b, 0, none⟩) 1 1 [c] rfl (fun w' hk => row_1 (hB.keep hk (by simpa using hb))) (fun z hz => by simp at hz; omega) (by simp) (by simp))
  have C3 : Hid (∀ (w : World) p g, MemB w p g z1 → Calls Try.prog 16 #[.pointer (some ⟨p, 0, none⟩), .int .u64 a, .int .i64 8, .int .u64 x] w fun e w' => e = .returned (.int .i64 0) ∧ MemB w' p g z2 ∧ Kept [g] w w') := Lib.hid (by
    intro w p g h; rw [← hz2]; exact store_8 w p g z1 h a x (by have := hl1.out; omega) b0.1 (by omega))
  have P : Hid (∀ n, n ≤ 8 → ldV z2 a n = x % 256 ^ n) := Lib.hid (fun n hn => by rw [← hz2]; exact part z1 a n x (by have := hl1.out; omega) b0.1 (by omega) hn)
  have L8 : Hid (∀ (w : World) p g, MemB w p g z2 → Calls Try.prog 17 #[.pointer (some ⟨p, 0, none⟩), .int .u64 a, .int .i64 8] w fun e w' => e = .returned (.tuple #[.int .u64 x, .int .i64 0]) ∧ Kept [] w w') := Lib.hid (by
    intro w p g h; have := load_8 w p g z2 h a (by have := hl2.out; omega); rw [P.out 8 (by omega), show x % 256 ^ 8 = x by omega] at this; exact this)
  have L4 : Hid (∀ (w : World) p g, MemB w p g z2 → Calls Try.prog 17 #[.pointer (some ⟨p, 0, none⟩), .int .u64 a, .int .i64 4] w fun e w' => e = .returned (.tuple #[.int .u64 (x % 4294967296), .int .i64 0]) ∧ Kept [] w w') := Lib.hid (by
    intro w p g h; have := load_4 w p g z2 h a (by have := hl2.out; omega); rw [P.out 4 (by omega), show x % 256 ^ 4 = x % 4294967296 by omega] at this; exact this)
  have L2 : Hid (∀ (w : World) p g, MemB w p g z2 → Calls Try.prog 17 #[.pointer (some ⟨p, 0, none⟩), .int .u64 a, .int .i64 2] w fun e w' => e = .returned (.tuple #[.int .u64 (x % 65536), .int .i64 0]) ∧ Kept [] w w') := Lib.hid (by
    intro w p g h; have := load_2 w p g z2 h a (by have := hl2.out; omega); rw [P.out 2 (by omega), show x % 256 ^ 2 = x % 65536 by omega] at this; exact this)
  have L1 : Hid (∀ (w : World) p g, MemB w p g z2 → Calls Try.prog 17 #[.pointer (some ⟨p, 0, none⟩), .int .u64 a, .int .i64 1] w fun e w' => e = .returned (.tuple #[.int .u64 (x % 256), .int .i64 0]) ∧ Kept [] w w') := Lib.hid (by
    intro w p g h; have := load_1 w p g z2 h a (by have := hl2.out; omega); rw [P.out 1 (by omega), show x % 256 ^ 1 = x % 256 by omega] at this; exact this)
  have LB : Hid (∀ (w : World) (p g k : Nat), k < 8 → MemB w p g z2 → Calls Try.prog 17 #[.pointer (some ⟨p, 0, none⟩), .int .u64 ((a : Int) + (k : Int)), .int .i64 1] w fun e w' => e = .returned (.tuple #[.int .u64 (bits .and .u64 (x / 2 ^ (8 * k)) 255), .int .i64 0]) ∧ Kept [] w w') := Lib.hid (by
    intro w p g k hk h; have := load_1 w p g z2 h (a + k) (by have := hl2.out; omega)
    have e := byte_of z1 a k x (by have := hl1.out; omega) b0.1 (by omega) hk
    rw [hz2] at e
    rw [e, Int.natCast_add] at this; exact this)
  have LP : Hid (∀ (w : World) p g, MemB w p g z2 → Calls Try.prog 17 #[.pointer (some ⟨p, 0, none⟩), .int .u64 ((a : Int) - 1), .int .i64 1] w fun e w' => e = .returned (.tuple #[.int .u64 c, .int .i64 0]) ∧ Kept [] w w') := Lib.hid (by
    intro w p g h; have := load_1 w p g z2 h (a - 1) (by have := hl2.out; omega)
    have e := beside zs a (a - 1) x c hl.out (by omega) (by omega) (by omega)
    rw [hz1, hz2] at e
    rw [e, show ((a - 1 : Nat) : Int) = (a : Int) - 1 by omega] at this; exact this)
  have LQ : Hid (∀ (w : World) p g, MemB w p g z2 → Calls Try.prog 17 #[.pointer (some ⟨p, 0, none⟩), .int .u64 ((a : Int) + 8), .int .i64 1] w fun e w' => e = .returned (.tuple #[.int .u64 c, .int .i64 0]) ∧ Kept [] w w') := Lib.hid (by
    intro w p g h; have := load_1 w p g z2 h (a + 8) (by have := hl2.out; omega)
    have e := beside zs a (a + 8) x c hl.out (by omega) (by omega) (by omega)
    rw [hz1, hz2] at e
    rw [e, show ((a + 8 : Nat) : Int) = (a : Int) + 8 by omega] at this; exact this)
  clear hz1 hz2
  have i0 : ∀ w, (Instr.index 43 (.agg #[.int .i64 1, .int .i64 2, .int .i64 4, .int .i64 8]) (.int .i64 0)).run Try.prog w = .ok (.int .i64 1) w := fun _ => by kernel_rfl
  have i1 : ∀ w, (Instr.index 43 (.agg #[.int .i64 1, .int .i64 2, .int .i64 4, .int .i64 8]) (.int .i64 1)).run Try.prog w = .ok (.int .i64 2) w := fun _ => by kernel_rfl
  have i2 : ∀ w, (Instr.index 43 (.agg #[.int .i64 1, .int .i64 2, .int .i64 4, .int .i64 8]) (.int .i64 2)).run Try.prog w = .ok (.int .i64 4) w := fun _ => by kernel_rfl
  have i3 : ∀ w, (Instr.index 43 (.agg #[.int .i64 1, .int .i64 2, .int .i64 4, .int .i64 8]) (.int .i64 3)).run Try.prog w = .ok (.int .i64 8) w := fun _ => by kernel_rfl
  go_enter Try.func5, Try.ntmps5
  go_wp2_with fail
  (with_reducible refine (alive_any _).mono ?_)
  rintro e w1 ⟨rfl, hb1⟩
  have hs1 := hb1.size
  (try simp only [World.size_alloc, World.size_setCell, World.size_drew, size_drewN] at hs1)
  go_wp2_with fail
  (with_reducible refine (C1.out _).mono ?_)
  rintro e w2 ⟨rfl, hM2, hb2⟩
  have hs2 := hb2.size
  (try simp only [World.size_alloc, World.size_setCell, World.size_drew, size_drewN] at hs2)
  have M2 := Lib.hid hM2
  have hg2 := hM2.2.1.lt
  clear hM2
  (try simp only [size_drewN, World.size_drew] at M2 hg2)
  go_wp2_with fail
  (with_reducible refine (C2.out _ _ _ _ (M2.out.keep0 (by (repeat' (first | (with_reducible exact Kept.refl _ _) | (with_reducible assumption) | (with_reducible refine Kept.then_ (by with_reducible assumption) ?_) | (with_reducible refine Kept.thenS (by with_reducible assumption) ?_) | (with_reducible refine Kept.alloc ?_ _) | (with_reducible refine Kept.drew ?_) | (with_reducible refine Kept.drewN ?_ _) | (with_reducible refine Kept.setNew ?_ ?_ _) | ((try simp only [World.size_alloc, World.size_setCell, World.size_drew, size_drewN] at *); (try dsimp only); omega))))) (by omega) (Blk.new _ _ _)).mono ?_)
  rintro e w3 ⟨rfl, hM3, hb3⟩
  have hs3 := hb3.size
  (try simp only [World.size_alloc, World.size_setCell, World.size_drew, size_drewN] at hs3)
  have M3 := Lib.hid hM3
  have hg3 := hM3.2.1.lt
  clear hM3
  (try simp only [size_drewN, World.size_drew] at M3 hg3)
  go_wp2_with fail
  (with_reducible refine (C3.out _ _ _ M3.out).mono ?_)
  rintro e w4 ⟨rfl, hM4, hb4⟩
  have hs4 := hb4.size
  (try simp only [World.size_alloc, World.size_setCell, World.size_drew, size_drewN] at hs4)
  have M4 := Lib.hid hM4
  have hg4 := hM4.2.1.lt
  clear hM4
  (try simp only [size_drewN, World.size_drew] at M4 hg4)
  clear M2 M3
  go_wp2_with fail
  (with_reducible refine (L8.out _ _ _ M4.out).mono ?_)
  rintro e w5 ⟨rfl, hb5⟩
  have hs5 := hb5.size
  (try simp only [World.size_alloc, World.size_setCell, World.size_drew, size_drewN] at hs5)
  have K5 : Hid (Kept [] W w5) := Lib.hid (by (repeat' (first | (with_reducible exact Kept.refl _ _) | (with_reducible assumption) | (with_reducible refine Kept.then_ (by with_reducible assumption) ?_) | (with_reducible refine Kept.thenS (by with_reducible assumption) ?_) | (with_reducible refine Kept.thenG (by with_reducible assumption) ?_ ?_) | (with_reducible refine Kept.alloc ?_ _) | (with_reducible refine Kept.drew ?_) | (with_reducible refine Kept.drewN ?_ _) | (with_reducible refine Kept.setNew ?_ ?_ _) | ((try simp only [World.size_alloc, World.size_setCell, World.size_drew, size_drewN] at *); (try dsimp only); omega))))
  have M5 := Lib.hid (M4.out.keep0 hb5)
  go_wp2_with fail
  go_loopw [67] (fun i wr => ∃ k : Nat, k ≤ 4 ∧ i = .int .i64 k ∧ Kept [] w5 wr) (fun i _ => (4 - intOf i).toNat)
  case atStart => exact ⟨0, by omega, rfl, Kept.refl _ _⟩
  case round =>
    obtain ⟨k, hk, rfl, hkw⟩ := hrel
    have MR := Lib.hid (M5.out.keep0 hkw)
    have h4 : k = 0 ∨ k = 1 ∨ k = 2 ∨ k = 3 ∨ k = 4 := by omega
    clear hk
    rcases h4 with rfl | rfl | rfl | rfl | rfl
    · go_wp2_with fail
      (with_reducible refine (L1.out _ _ _ MR.out).mono ?_)
      rintro e w6 ⟨rfl, hb6⟩
      have hs6 := hb6.size
      (try simp only [World.size_alloc, World.size_setCell, World.size_drew, size_drewN] at hs6)
      go_wp2_with fail
      go_roundw
      case rel => exact ⟨1, by omega, rfl, hkw.trans0 hb6⟩
      case measure => simp [intOf]
    · go_wp2_with fail
      (with_reducible refine (L2.out _ _ _ MR.out).mono ?_)
      rintro e w6 ⟨rfl, hb6⟩
      have hs6 := hb6.size
      (try simp only [World.size_alloc, World.size_setCell, World.size_drew, size_drewN] at hs6)
      go_wp2_with fail
      go_roundw
      case rel => exact ⟨2, by omega, rfl, hkw.trans0 hb6⟩
      case measure => simp [intOf]
    · go_wp2_with fail
      (with_reducible refine (L4.out _ _ _ MR.out).mono ?_)
      rintro e w6 ⟨rfl, hb6⟩
      have hs6 := hb6.size
      (try simp only [World.size_alloc, World.size_setCell, World.size_drew, size_drewN] at hs6)
      go_wp2_with fail
      go_roundw
      case rel => exact ⟨3, by omega, rfl, hkw.trans0 hb6⟩
      case measure => simp [intOf]
    · go_wp2_with fail
      (with_reducible refine (L8.out _ _ _ MR.out).mono ?_)
      rintro e w6 ⟨rfl, hb6⟩
      have hs6 := hb6.size
      (try simp only [World.size_alloc, World.size_setCell, World.size_drew, size_drewN] at hs6)
      go_wp2_with fail
      go_roundw
      case rel => exact ⟨4, by omega, rfl, hkw.trans0 hb6⟩
      case measure => simp [intOf]
    · obtain ⟨wo, rfl⟩ : ∃ wo : World, wo = wr := ⟨_, rfl⟩
      rw [show ((4 : Nat) : Int) = 4 from rfl]
      go_wp2_with fail
      go_loopw [95] (fun i w2 => ∃ k : Nat, k ≤ 8 ∧ i = .int .u64 k ∧ Kept [] wo w2) (fun i _ => (8 - intOf i).toNat)
      case atStart => exact ⟨0, by omega, rfl, Kept.refl _ _⟩
      case round =>
        obtain ⟨k, hk, rfl, hkq⟩ := hrel
        have MQ := Lib.hid (MR.out.keep0 hkq)
        by_cases hlt : k < 8
        · go_wp2_with fail
          (with_reducible refine (LB.out _ _ _ _ hlt MQ.out).mono ?_)
          rintro e w6 ⟨rfl, hb6⟩
          have hs6 := hb6.size
          (try simp only [World.size_alloc, World.size_setCell, World.size_drew, size_drewN] at hs6)
          go_wp2_with fail
          go_roundw
          case rel => exact ⟨k + 1, by omega, by go_num, hkq.trans0 hb6⟩
          case measure => simp [intOf]; omega
        · obtain rfl : k = 8 := by omega
          go_wp2_with fail
          (with_reducible refine (LP.out _ _ _ MQ.out).mono ?_)
          rintro e w7 ⟨rfl, hb7⟩
          have hs7 := hb7.size
          (try simp only [World.size_alloc, World.size_setCell, World.size_drew, size_drewN] at hs7)
          go_wp2_with fail
          (with_reducible refine (LQ.out _ _ _ (MQ.out.keep0 hb7)).mono ?_)
          rintro e w8 ⟨rfl, hb8⟩
          have hs8 := hb8.size
          (try simp only [World.size_alloc, World.size_setCell, World.size_drew, size_drewN] at hs8)
          go_wp2_with fail
          go_ret
          exact ⟨rfl, ((((K5.out.trans0 hkw).trans0 hkq).trans0 hb7).trans0 hb8).below⟩
theorem own : ownKnob Try.prog.godebug = none := by kernel_rfl
theorem laidOut : laidOutB Try.prog = true := by kernel_rfl
set_option maxRecDepth 100000 in
theorem lifted (os : Os) (started : os.Started) (H : Type) (enc : TypeId × Value → H) :
    ReturnsInHanded {} Try.checked os 5 .any (Rows.memLoadsSpec.pre6 enc Try.prog Try.f5 Rows.memLoadsRow.domain false) (Rows.memLoadsSpec.post enc Try.prog Try.f5 false true false false) := by
  refine returnsInHanded_of_change (C := Try.checked) own started (by kernel_rfl) Try.func5
    (ChangeSpec.witness6 (enc := enc) (C := Try.checked) false ⟨#[], #[.int .u64 0, .int .u16 0, .int .u8 0], []⟩ 8 (by kernel_rfl) (by kernel_rfl) (by kernel_rfl) (by kernel_rfl)) ?_
  intro W base args ds gs before hval0 hW hcnd _
  have hval : ∀ (j : Nat) t v, Try.f5.params[j]? = some t → args[j]? = some v → Value.okWide Try.prog W .any base t v := hval0
  have hW' := hW
  obtain ⟨p, q, hA0, hV, rfl, hfz, hnd⟩ := hW
  have hA : DataW.TrodAll enc Try.prog W 0 (fun _ => true) true Try.f5.params.toList args.toList ds p := hA0
  rw [Try.params5] at hA hval
  obtain ⟨v0, vs0, d0, ds0, p0, q0, hargs, rfl, rfl, h0, r0⟩ := trodAll_cons hA
  obtain ⟨v1, vs1, d1, ds1, p1, q1, rfl, rfl, rfl, h1, r1⟩ := trodAll_cons r0
  obtain ⟨v2, vs2, d2, ds2, p2, q2, rfl, rfl, rfl, h2, r2⟩ := trodAll_cons r1
  obtain ⟨rfl, rfl, rfl⟩ := trodAll_nil r2
  obtain rfl : args = #[v0, v1, v2] := by cases args; simp_all
  obtain ⟨rfl, rfl⟩ := trodVars_none hV
  obtain ⟨a0, rfl, rfl, rfl, w0⟩ := open_int Try.underlying28 (hval 0 28 v0 rfl rfl) h0
  obtain ⟨a1, rfl, rfl, rfl, w1⟩ := open_int Try.underlying39 (hval 1 39 v1 rfl rfl) h1
  obtain ⟨a2, rfl, rfl, rfl, w2⟩ := open_int Try.underlying5 (hval 2 5 v2 rfl rfl) h2
  clear hA0 hval0
  refine (walk a0 a1 a2 W w0 w1 w2).mono fun e W' ⟨he, bel⟩ => ?_
  subst he
  exact ⟨_, rfl, _, _, _, [], _, [], hW', trodAll_mk1 (shut_bool Try.underlying4 _), (trodAll_cons_mk (shut_int Try.underlying28 w0) (trodAll_cons_mk (shut_int Try.underlying39 w1) (trodAll_cons_mk (shut_int Try.underlying5 w2) trodAll_mk0))), rfl, bel.frame _, fun h => by cases h⟩
theorem over : Rows.memLoadsRow.holds Try.pinned (OpenSpec.ofChange Rows.memLoadsSpec) :=
  OpenClaim.holds_of_wide 5 Try.f5 rfl rfl rfl rfl rfl rfl rfl ⟨rfl, rfl, rfl, rfl, rfl⟩ rfl rfl rfl rfl rfl (by kernel_rfl) Try.func5 (by kernel_rfl)
    (of_decide_eq_true (by kernel_rfl)) (by unfold Func.isWrapper; first | (rw [if_pos (by decide +kernel)]; kernel_rfl) | (rw [if_neg (by decide +kernel)]; exact ⟨rfl, rfl⟩))
    (fun os started H enc _ => lifted os started H enc)
theorem proved : Rows.MemLoadsSaid := over
#print axioms proved
end Go.Proofs.Ytlcaddedfgndoaa.MemLoads
