/- The document's sums, products and ends. -/
import Derived.Test.YtnooelpdoeijbaaLongM
import Derived.Test.YtnooelpdoeijbaaLongU
import Derived.Test.YtnooelpdoeijbaaEnds
import Derived.Test.YtnooelpdoeijbaaMul
set_option linter.unusedVariables false
set_option linter.unusedSimpArgs false
namespace Go.Proofs.Ytnooelpdoeijbaa
open Go.RowKit
theorem su_bd (zs : List Int) (h : ∀ z, z ∈ zs → 0 ≤ z ∧ z < 18446744073709551616) : 0 ≤ su zs ∧ su zs ≤ (zs.length : Int) * 18446744073709551616 := by
  induction zs with
  | nil => simp [su]
  | cons z zs ih =>
    have h1 := ih (fun x hx => h x (by simp [hx]))
    have h2 := h z (by simp)
    simp only [su, List.length_cons]
    omega
theorem long6 {ds : List Int} (h : Canon ds) (h1 : dv ds ≤ 5534023222112865484800) : ds.length ≤ 6 := h.len (by
  have : P4 6 = 1000000000000000000000000 := by decide
  omega)
set_option maxRecDepth 100000 in
set_option maxHeartbeats 2000000 in
theorem refsum_any (A : Option Addr) (cap : Nat) (zs : List Int) (hz : ∀ z, z ∈ zs → 0 ≤ z ∧ z < 18446744073709551616) (w : World) (hr : RowX .u64 w A zs) (hn : zs.length ≤ 300) :
    Calls Try.prog 23 #[.slice A zs.length cap] w fun e w' => e = .returned (.tuple #[.int .u64 (bkV (su zs)), .int .i64 (bkE (su zs))]) ∧ Kept [] w w' := by
  have HR := Lib.hid hr
  have HZ := Lib.hid hz
  clear hr hz
  go_enter Try.func23, Try.ntmps23
  go_wp2_with fail
  go_loopw [4, 9] (fun l v wr => ∃ (k : Nat) (A' : Option Addr) (n' c' : Nat) (ds : List Int), k ≤ zs.length ∧ v = .int .i64 k ∧ l = .slice A' n' c' ∧ Hid (Canon ds) ∧ Hid (dv ds = su (zs.take k)) ∧ Hid (LongB wr A' n' c' ds) ∧ Kept [] w wr) (fun _ v _ => zs.length - (intOf v).toNat)
  case atStart => exact ⟨0, none, 0, 0, [], Nat.zero_le _, rfl, rfl, Lib.hid Canon.nil, Lib.hid rfl, Lib.hid ⟨rfl, Nat.le_refl _, by unfold maxLen; omega, RowX.nil _ _ _, fun _ => rfl⟩, Kept.refl _ _⟩
  case round =>
    obtain ⟨k, A', n', c', ds, hk, rfl, rfl, hc, hd, hl, hkw⟩ := hrel
    by_cases hlt : k < zs.length
    · obtain ⟨ad, rfl, hx⟩ := HR.out.get (by omega)
      have c1 := hx wr hkw k hlt
      have l1 := cell_lt c1
      have hb := HZ.out (zs[k]?.getD 0) (by rw [List.getElem?_eq_getElem hlt]; exact List.getElem_mem hlt)
      have HS := Lib.hid (su_take zs k hlt)
      generalize zs[k]?.getD 0 = x at c1 hb HS
      have DO := Lib.hid (of_any x hb.1 hb.2)
      have HSB : Hid (dv ds ≤ 5534023222112865484800) := Lib.hid (by
        rw [hd.out]
        have := su_bd (zs.take k) (fun z hz => HZ.out z (List.mem_of_mem_take hz))
        rw [List.length_take, Nat.min_eq_left hk] at this
        omega)
      clear hx
      go_wp2_with fail
      (with_reducible refine (DO.out _).mono ?_)
      rintro e w2 ⟨⟨A2, n2, c2, d2, rfl, hc2, hd2, hl2⟩, hb2⟩
      have DP : Hid (Calls Try.prog 31 #[.slice A' n' c', .slice A2 n2 c2] w2 fun e w' => OfIs (su (zs.take (k + 1))) e w' ∧ Kept [] w2 w') := Lib.hid (by
        have := plus_any A' n' c' ds A2 n2 c2 d2 w2 (hl.out.keep hb2) hl2 hc.out.1 hc2.1 (by have := long6 hc.out HSB.out; have := hl.out.1; omega) (by have := long64 hc2 (by rw [hd2]; exact hb.2); have := hl2.1; omega)
        rwa [hd.out, hd2, ← HS.out] at this)
      clear hc2 hd2 hl2
      go_wp2_with fail
      (with_reducible refine DP.out.mono ?_)
      rintro e w3 ⟨⟨A3, n3, c3, d3, rfl, hc3, hd3, hl3⟩, hb3⟩
      have HC3 := Lib.hid hc3
      have HD3 := Lib.hid hd3
      have HL3 := Lib.hid hl3
      clear hc3 hd3 hl3
      go_wp2_with fail
      go_roundw
      case rel => exact ⟨k + 1, A3, n3, c3, d3, by omega, by go_num, rfl, HC3, HD3, HL3, (hkw.trans0 hb2).trans0 hb3⟩
      case measure => simp [intOf]; omega
    · obtain rfl : k = zs.length := by omega
      have DB : Hid (Calls Try.prog 32 #[.slice A' n' c'] wr fun e w' => e = .returned (.tuple #[.int .u64 (bkV (su zs)), .int .i64 (bkE (su zs))]) ∧ Kept [] wr w') := Lib.hid (by
        have := back_any A' n' c' ds wr hl.out hc.out
        rwa [hd.out, List.take_of_length_le (Nat.le_refl _)] at this)
      go_wp2_with fail
      (with_reducible refine DB.out.mono ?_)
      rintro e w3 ⟨rfl, hb3⟩
      go_wp2_with fail
      go_ret2
      exact ⟨rfl, hkw.trans0 hb3⟩
/-- The product, or its first digits. -/
def MulInv (p d : Int) : Prop := d = p ∨ (P4 11 ≤ d ∧ d ≤ p)
theorem MulInv.next {p d x : Int} (h : MulInv p d) (hx : 0 ≤ x) : MulInv (p * x) (d * x) := by
  rcases h with rfl | ⟨h1, h2⟩
  · exact .inl rfl
  · rcases Int.lt_or_le 0 x with h3 | h3
    · right
      have h4 : d * 1 ≤ d * x := Int.mul_le_mul_of_nonneg_left (by omega) (by have := P4_pos 11; omega)
      have h5 : d * x ≤ p * x := Int.mul_le_mul_of_nonneg_right h2 hx
      omega
    · obtain rfl : x = 0 := by omega
      left; simp
theorem MulInv.cut {p : Int} {ds : List Int} (h : MulInv p (dv ds)) (hc : Canon ds) (m : Nat) (hm : ds.length = m + 12) : MulInv p (dv (ds.drop m)) := by
  right
  have h1 := (hc.drop m (by omega)).low (by simp; omega)
  have e : (ds.drop m).length - 1 = 11 := by simp; omega
  rw [e] at h1
  refine ⟨h1, ?_⟩
  have h2 := dv_split ds m (by omega)
  have h3 := (hc.1.take m).nn
  have h4 := P4_pos m
  have h5 := (hc.1.drop m).nn
  have h6 : 1 * dv (ds.drop m) ≤ P4 m * dv (ds.drop m) := Int.mul_le_mul_of_nonneg_right h4 h5
  have h7 : dv ds ≤ p := by
    rcases h with h | h <;> omega
  omega
theorem MulInv.back {p d : Int} (h : MulInv p d) (zs : List Int) (hp : p = pr zs) (hz : ∀ x, x ∈ zs → 0 ≤ x) : bkV d = mulV zs ∧ bkE d = mulE zs := by
  have e11 : P4 11 = 100000000000000000000000000000000000000000000 := by decide
  by_cases h0 : (0 : Int) ∈ zs
  · have hp0 : pr zs = 0 := by
      clear hp hz h
      induction zs with
      | nil => cases h0
      | cons z zs ih =>
        rcases List.mem_cons.1 h0 with h1 | h1
        · subst h1; simp [pr]
        · simp [pr, ih h1]
    have hd : d = 0 := by
      rcases h with h | h <;> omega
    unfold bkV bkE mulV mulE
    rw [if_pos h0, if_pos h0, hd]
    decide
  · unfold bkV bkE mulV mulE
    rw [if_neg h0, if_neg h0]
    by_cases h3 : pr zs ≤ 1099511627776
    · have hA : ¬ (1099511627776 < d) := by rcases h with h | h <;> omega
      have hd : d = pr zs := by rcases h with h | h <;> omega
      rw [if_neg hA, if_neg hA, if_pos h3, if_pos h3]
      exact ⟨hd, rfl⟩
    · have hA : 1099511627776 < d := by rcases h with h | h <;> omega
      rw [if_pos hA, if_pos hA, if_neg h3, if_neg h3]
      exact ⟨rfl, rfl⟩
theorem RowX.drop' {k : IntKind} {w : World} {A : Option Addr} {zs : List Int} (h : RowX k w A zs) (n : Nat) : RowX k w (A.map (·.add n)) (zs.drop n) := fun h0 => by
  simp at h0
  obtain ⟨x, rfl, h2, h3⟩ := h (by omega)
  refine ⟨x.add n, rfl, by rw [add_block]; exact h2, fun i hi => ?_⟩
  simp at hi
  rw [Addr.add_add, h3 (n + i) (by omega), List.getElem?_drop]
set_option maxRecDepth 100000 in
set_option maxHeartbeats 2000000 in
theorem refmul_any (A : Option Addr) (cap : Nat) (zs : List Int) (hz : ∀ z, z ∈ zs → 0 ≤ z ∧ z < 18446744073709551616) (w : World) (hr : RowX .u64 w A zs) (hn : zs.length ≤ 300) :
    Calls Try.prog 24 #[.slice A zs.length cap] w fun e w' => e = .returned (.tuple #[.int .u64 (mulV zs), .int .i64 (mulE zs)]) ∧ Kept [] w w' := by
  have HR := Lib.hid hr
  have HZ := Lib.hid hz
  clear hr hz
  have C1 : Canon [1] := ⟨fun d hd => by simp at hd; omega, fun d hd => by simp at hd; omega⟩
  have HC1 := Lib.hid C1
  clear C1
  go_enter Try.func24, Try.ntmps24
  go_wp2_with fail
  go_loopw [4, 10] (fun l v wr => ∃ (k : Nat) (A' : Option Addr) (n' c' : Nat) (ds : List Int), k ≤ zs.length ∧ v = .int .i64 k ∧ l = .slice A' n' c' ∧ n' ≤ 12 ∧ Hid (Canon ds) ∧ Hid (MulInv (pr (zs.take k)) (dv ds)) ∧ Hid (LongB wr A' n' c' ds) ∧ Kept [] w wr) (fun _ v _ => zs.length - (intOf v).toNat)
  case atStart => exact ⟨0, _, 1, 1, [1], Nat.zero_le _, rfl, rfl, by omega, HC1, Lib.hid (.inl rfl), Lib.hid ⟨rfl, Nat.le_refl _, by unfold maxLen; omega, RowX.one (Blk.new w _ _), fun h => by cases h⟩, (Kept.refl [] w).alloc _⟩
  case round =>
    obtain ⟨k, A', n', c', ds, hk, rfl, rfl, hn12, hc, hd, hl, hkw⟩ := hrel
    by_cases hlt : k < zs.length
    · obtain ⟨ad, rfl, hx⟩ := HR.out.get (by omega)
      have c1 := hx wr hkw k hlt
      have l1 := cell_lt c1
      have hb := HZ.out (zs[k]?.getD 0) (by rw [List.getElem?_eq_getElem hlt]; exact List.getElem_mem hlt)
      have HS := Lib.hid (pr_take zs k hlt)
      generalize zs[k]?.getD 0 = x at c1 hb HS
      have DO := Lib.hid (of_any x hb.1 hb.2)
      clear hx
      go_wp2_with fail
      (with_reducible refine (DO.out _).mono ?_)
      rintro e w2 ⟨⟨A2, n2, c2, d2, rfl, hc2, hd2, hl2⟩, hb2⟩
      have DP : Hid (Calls Try.prog 37 #[.slice A' n' c', .slice A2 n2 c2] w2 fun e w' => OfIs (dv ds * x) e w' ∧ Kept [] w2 w') := Lib.hid (by
        have := times_any A' n' c' ds A2 n2 c2 d2 w2 (hl.out.keep hb2) hl2 hc.out.1 hc2.1 (by omega) (by have := long64 hc2 (by rw [hd2]; exact hb.2); have := hl2.1; omega)
        rwa [hd2] at this)
      clear hc2 hd2 hl2
      go_wp2_with fail
      (with_reducible refine DP.out.mono ?_)
      rintro e w3 ⟨⟨A3, n3, c3, d3, rfl, hc3, hd3, hl3⟩, hb3⟩
      have HC3 := Lib.hid hc3
      have HL3 := Lib.hid hl3
      have HM3 : Hid (MulInv (pr (zs.take (k + 1))) (dv d3)) := Lib.hid (by
        rw [hd3, HS.out]
        exact hd.out.next hb.1)
      have hnc := hl3.2.1
      have hcm := hl3.2.2.1
      unfold maxLen at hcm
      clear hc3 hd3 hl3
      by_cases h12 : 12 < n3
      · obtain ⟨m, rfl⟩ : ∃ m, n3 = m + 12 := ⟨n3 - 12, by omega⟩
        have q1 : (12 : Int) < ((m + 12 : Nat) : Int) := by omega
        have hs2 : ∀ w, (Instr.slice 44 (.slice A3 (m + 12) c3) (some (.int .i64 (m : Int))) none none).run Try.prog w = .ok (.slice (A3.map (·.add m)) 12 (c3 - m)) w := fun w => by
          have hne : ¬ c3 = m := by omega
          simp [run_slice_l, Try.underlying44, go_sem, hne]
          try (intro hlt; omega)
        have HL4 : Hid (LongB w3 (A3.map (·.add m)) 12 (c3 - m) (d3.drop m)) := Lib.hid (by
          obtain ⟨h1, h2, h3, h4, h5⟩ := HL3.out
          refine ⟨by simp; omega, by omega, by unfold maxLen at h3 ⊢; omega, h4.drop' m, fun h => ?_⟩
          cases A3 with
          | none => have := h5 rfl; omega
          | some a => cases h)
        have HM4 : Hid (MulInv (pr (zs.take (k + 1))) (dv (d3.drop m))) := Lib.hid (HM3.out.cut HC3.out m (by have := HL3.out.1; omega))
        have HC4 : Hid (Canon (d3.drop m)) := Lib.hid (HC3.out.drop m (by have := HL3.out.1; omega))
        go_wp2_with fail
        go_roundw
        case rel => exact ⟨k + 1, _, 12, c3 - m, d3.drop m, by omega, by go_num, rfl, by omega, HC4, HM4, HL4, (hkw.trans0 hb2).trans0 hb3⟩
        case measure => simp [intOf]; omega
      · have q1 : decide ((12 : Int) < (n3 : Int)) = false := by simp; omega
        go_wp2_with fail
        go_roundw
        case rel => exact ⟨k + 1, A3, n3, c3, d3, by omega, by go_num, rfl, by omega, HC3, HM3, HL3, (hkw.trans0 hb2).trans0 hb3⟩
        case measure => simp [intOf]; omega
    · obtain rfl : k = zs.length := by omega
      have DB : Hid (Calls Try.prog 32 #[.slice A' n' c'] wr fun e w' => e = .returned (.tuple #[.int .u64 (mulV zs), .int .i64 (mulE zs)]) ∧ Kept [] wr w') := Lib.hid (by
        have := back_any A' n' c' ds wr hl.out hc.out
        have h2 := hd.out.back zs (by rw [List.take_of_length_le (Nat.le_refl _)]) (fun x hx => (HZ.out x hx).1)
        rwa [h2.1, h2.2] at this)
      go_wp2_with fail
      (with_reducible refine DB.out.mono ?_)
      rintro e w3 ⟨rfl, hb3⟩
      go_wp2_with fail
      go_ret2
      exact ⟨rfl, hkw.trans0 hb3⟩
def mxT (zs : List Int) (k : Nat) : Int := mxV (zs.take (max k 1))
def mnT (zs : List Int) (k : Nat) : Int := mnV (zs.take (max k 1))
theorem mxT_succ (zs : List Int) (k : Nat) (h : k < zs.length) : mxT zs (k + 1) = max (mxT zs k) (zs[k]?.getD 0) := by
  unfold mxT
  cases k with
  | zero =>
    cases zs with
    | nil => simp at h
    | cons z zs => simp [mxV]
  | succ k =>
    rw [show max (k + 1 + 1) 1 = k + 1 + 1 by omega, show max (k + 1) 1 = k + 1 by omega]
    exact mxV_take zs (k + 1) (by omega) h
theorem mnT_succ (zs : List Int) (k : Nat) (h : k < zs.length) : mnT zs (k + 1) = min (mnT zs k) (zs[k]?.getD 0) := by
  unfold mnT
  cases k with
  | zero =>
    cases zs with
    | nil => simp at h
    | cons z zs => simp [mnV]
  | succ k =>
    rw [show max (k + 1 + 1) 1 = k + 1 + 1 by omega, show max (k + 1) 1 = k + 1 by omega]
    exact mnV_take zs (k + 1) (by omega) h
theorem ret_three {k k' k'' : IntKind} {a b c d e f : Int} (h : a = b) (h' : c = d) (h'' : e = f) : Ending.returned (.tuple #[.int k a, .int k' c, .int k'' e]) = .returned (.tuple #[.int k b, .int k' d, .int k'' f]) := by rw [h, h', h'']
set_option maxRecDepth 100000 in
set_option maxHeartbeats 2000000 in
theorem refends_any (A : Option Addr) (cap : Nat) (zs : List Int) (w : World) (hr : RowX .u64 w A zs) (hn : zs.length ≤ 300) :
    Calls Try.prog 25 #[.slice A zs.length cap] w fun e w' => e = .returned (.tuple #[.int .u64 (mxV zs), .int .u64 (mnV zs), .int .i64 (if zs.length = 0 then 5 else 0)]) ∧ Kept [] w w' := by
  have HR := Lib.hid hr
  clear hr
  by_cases h0 : zs.length = 0
  · obtain rfl := List.length_eq_zero_iff.1 h0
    go_enter Try.func25, Try.ntmps25
    go_wp2_with fail
    go_ret3
    exact ⟨rfl, Kept.refl _ _⟩
  · have HE : Hid ((if zs.length = 0 then (5 : Int) else 0) = 0) := Lib.hid (if_neg h0)
    rw [HE.out]
    have hl : 0 < zs.length := by omega
    have hq : ((zs.length : Int) == 0) = false := by rw [beq_eq_false_iff_ne]; omega
    obtain ⟨ad, rfl, hx⟩ := HR.out.get hl
    have HX := Lib.hid hx
    have c0 := hx w (Kept.refl _ _) 0 hl
    have c0' : w.cell? ad = some (.int .u64 (zs[0]?.getD 0)) := c0
    have l0 : ad.block < w.heap.size := cell_lt c0'
    have HT : Hid (zs[0]?.getD 0 = mxT zs 0 ∧ zs[0]?.getD 0 = mnT zs 0) := Lib.hid (by
      cases zs with
      | nil => simp at hl
      | cons z zs => simp [mxT, mnT, mxV, mnV])
    generalize zs[0]?.getD 0 = z0 at c0 c0' HT
    have q0 : (0 : Int) < (zs.length : Int) := by omega
    clear hx h0
    go_enter Try.func25, Try.ntmps25
    go_wp2_with fail
    go_quiet (fail)
    go_wp2_with fail
    go_loopw [5, 6, 20] (fun a b v wr => ∃ k : Nat, k ≤ zs.length ∧ v = .int .i64 k ∧ a = .int .u64 (mxT zs k) ∧ b = .int .u64 (mnT zs k) ∧ Kept [] w wr) (fun _ _ v _ => zs.length - (intOf v).toNat)
    case atStart => exact ⟨0, Nat.zero_le _, rfl, by rw [← HT.out.1], by rw [← HT.out.2], (Kept.refl [] w).drewN _⟩
    case round =>
      obtain ⟨k, hk, rfl, rfl, rfl, hkw⟩ := hrel
      by_cases hlt : k < zs.length
      · have c1 := HX.out wr hkw k hlt
        have l1 := cell_lt c1
        have HM := Lib.hid (mxT_succ zs k hlt)
        have HN := Lib.hid (mnT_succ zs k hlt)
        generalize zs[k]?.getD 0 = x at c1 HM HN
        generalize hu : mxT zs k = u at *
        generalize hv : mnT zs k = v at *
        have HU := Lib.hid hu
        have HV := Lib.hid hv
        clear hu hv
        go_wp2_with fail
        all_goals
          go_roundw
          case rel => exact ⟨k + 1, by omega, by go_num, by rw [HM.out]; congr 1; omega, by rw [HN.out]; congr 1; omega, hkw⟩
          case measure => simp [intOf]; omega
      · obtain rfl : k = zs.length := by omega
        have HF : Hid (mxT zs zs.length = mxV zs ∧ mnT zs zs.length = mnV zs) := Lib.hid (by
          unfold mxT mnT
          rw [show max zs.length 1 = zs.length by omega, List.take_of_length_le (Nat.le_refl _)]
          exact ⟨rfl, rfl⟩)
        go_wp2_with fail
        go_ret3
        exact ⟨ret_three HF.out.1 HF.out.2 rfl, hkw⟩
end Go.Proofs.Ytnooelpdoeijbaa
