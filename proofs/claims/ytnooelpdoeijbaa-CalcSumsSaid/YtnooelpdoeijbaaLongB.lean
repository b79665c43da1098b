/- The document's long numbers: more, back. -/
import Derived.Test.YtnooelpdoeijbaaLongA
set_option linter.unusedVariables false
set_option linter.unusedSimpArgs false
namespace Go.Proofs.Ytnooelpdoeijbaa
open Go.RowKit
theorem ret_bool' {a b : Bool} (h : a = b) : Ending.returned (.bool a) = .returned (.bool b) := by rw [h]
set_option maxRecDepth 100000 in
set_option maxHeartbeats 4000000 in
theorem more_any (A : Option Addr) (n c : Nat) (a : List Int) (A' : Option Addr) (n' c' : Nat) (b : List Int) (w : World) (ha : LongB w A n c a) (hb : LongB w A' n' c' b) (ca : Canon a) (cb : Canon b) :
    Calls Try.prog 40 #[.slice A n c, .slice A' n' c'] w fun e w' => e = .returned (.bool (decide (dv b < dv a))) ∧ Kept [] w w' := by
  have na := ha.1
  have nb := hb.1
  have hc1 := ha.2.2.1
  have hc2 := ha.2.1
  unfold maxLen at hc1
  by_cases hne : n = n'
  · obtain rfl := hne
    have HA := Lib.hid ha
    have HB := Lib.hid hb
    have NA := Lib.hid na
    have NB := Lib.hid nb
    clear ha hb na nb
    go_enter Try.func40, Try.ntmps40
    go_wp2_with fail
    go_loopw [5] (fun v wr => ∃ m : Nat, m ≤ n ∧ v = .int .i64 ((m : Int) - 1) ∧ Hid (a.drop m = b.drop m) ∧ Kept [] w wr) (fun v _ => (intOf v + 1).toNat)
    case atStart => exact ⟨n, Nat.le_refl _, rfl, Lib.hid (by rw [List.drop_eq_nil_of_le (by rw [NA.out]; exact Nat.le_refl _), List.drop_eq_nil_of_le (by rw [NB.out]; exact Nat.le_refl _)]), Kept.refl _ _⟩
    case round =>
      obtain ⟨m, hmn, rfl, heq, hkw⟩ := hrel
      cases m with
      | zero =>
        have HE : Hid (decide (dv b < dv a) = false) := Lib.hid (by
          have := heq.out
          simp at this
          subst this
          simp)
        go_wp2_with fail
        go_ret
        exact ⟨ret_bool' HE.out.symm, hkw⟩
      | succ m =>
        have e1 : ((m + 1 : Nat) : Int) - 1 = (m : Int) := by omega
        rw [e1]
        obtain ⟨ad, rfl, hx⟩ := HA.out.2.2.2.1.get (by have := NA.out; omega)
        obtain ⟨ad', rfl, hx'⟩ := HB.out.2.2.2.1.get (by have := NB.out; omega)
        have d1 := hx wr hkw m (by have := NA.out; omega)
        have d2 := hx' wr hkw m (by have := NB.out; omega)
        have l1 := cell_lt d1
        have l2 := cell_lt d2
        have HDA := Lib.hid (drop_get a m (by have := NA.out; omega))
        have HDB := Lib.hid (drop_get b m (by have := NB.out; omega))
        have HLT := Lib.hid (fun (h : a[m]?.getD 0 < b[m]?.getD 0) => cmp_at ca.1 cb.1 (by have := NA.out; omega) (by have := NB.out; omega) heq.out h)
        have HGT := Lib.hid (fun (h : b[m]?.getD 0 < a[m]?.getD 0) => cmp_at cb.1 ca.1 (by have := NB.out; omega) (by have := NA.out; omega) heq.out.symm h)
        generalize a[m]?.getD 0 = x at d1 HDA HLT HGT
        generalize b[m]?.getD 0 = y at d2 HDB HLT HGT
        have q1 : (0 : Int) ≤ (m : Int) := by omega
        have q2 : (m : Int) < (n : Int) := by omega
        clear hx hx' e1
        by_cases hxy : x = y
        · subst hxy
          have HD : Hid (a.drop m = b.drop m) := Lib.hid (by rw [HDA.out, HDB.out, heq.out])
          go_wp2_with fail
          go_quiet (fail)
          go_wp2_with fail
          go_roundw
          case rel => exact ⟨m, by omega, rfl, HD, hkw.drewN _⟩
          case measure => simp [intOf] <;> omega
        · have hq : (x != y) = true := by simpa using hxy
          have hq2 : (x == y) = false := by simpa using hxy
          have hq3 : decide (x = y) = false := by simpa using hxy
          have HE : Hid (decide (dv b < dv a) = decide (y < x)) := Lib.hid (by
            rcases Int.lt_or_gt_of_ne hxy with h | h
            · have h1 := HLT.out h
              rw [decide_eq_false (by omega), decide_eq_false (by omega)]
            · have h1 := HGT.out h
              rw [decide_eq_true h1, decide_eq_true h])
          clear hxy
          go_wp2_with fail
          go_quiet (fail)
          go_wp2_with fail
          go_quiet (fail)
          go_wp2_with fail
          go_ret
          exact ⟨ret_bool' HE.out.symm, (hkw.drewN _).drewN _⟩
  · have HE : Hid (decide (dv b < dv a) = decide ((n' : Int) < (n : Int))) := Lib.hid (by
      rcases Nat.lt_or_gt_of_ne hne with h | h
      · have h1 := len_lt ca.1 cb (by omega)
        rw [decide_eq_false (by omega), decide_eq_false (by omega)]
      · have h1 := len_lt cb.1 ca (by omega)
        rw [decide_eq_true h1, decide_eq_true (by omega)])
    have hq : ((n : Int) != (n' : Int)) = true := by simp; omega
    have hq2 : decide (n = n') = false := by simpa using hne
    clear ha hb na nb
    go_enter Try.func40, Try.ntmps40
    go_wp2_with fail
    go_ret
    exact ⟨ret_bool' (by rw [HE.out]; simp), Kept.refl _ _⟩
/-- What back answers. -/
def bkV (x : Int) : Int := if 1099511627776 < x then 0 else x
def bkE (x : Int) : Int := if 1099511627776 < x then 3 else 0
set_option maxRecDepth 100000 in
set_option maxHeartbeats 4000000 in
theorem back_any (A : Option Addr) (n c : Nat) (a : List Int) (w : World) (ha : LongB w A n c a) (ca : Canon a) :
    Calls Try.prog 32 #[.slice A n c] w fun e w' => e = .returned (.tuple #[.int .u64 (bkV (dv a)), .int .i64 (bkE (dv a))]) ∧ Kept [] w w' := by
  have hc1 := ha.2.2.1
  have hc2 := ha.2.1
  unfold maxLen at hc1
  have DO := Lib.hid (of_any 1099511627776 (by omega) (by omega))
  have HA := Lib.hid ha
  have CA := Lib.hid ca
  have NA := Lib.hid ha.1
  have hnn := ca.1.nn
  clear ha ca
  obtain ⟨V, hV⟩ : ∃ V, dv a = V := ⟨_, rfl⟩
  have HV := Lib.hid hV
  rw [hV] at hnn ⊢
  clear hV
  go_enter Try.func32, Try.ntmps32
  go_wp2_with fail
  (with_reducible refine (DO.out w).mono ?_)
  rintro e w1 ⟨⟨B, m, k, bs, rfl, hcb, hdb, hB⟩, hb1⟩
  have DM : Hid (Calls Try.prog 40 #[.slice A n c, .slice B m k] w1 fun e w' => e = .returned (.bool (decide (1099511627776 < dv a))) ∧ Kept [] w1 w') := Lib.hid (by
    have := more_any A n c a B m k bs w1 (HA.out.keep hb1) hB CA.out hcb
    rwa [hdb] at this)
  clear hcb hdb hB
  rw [HV.out] at DM
  by_cases hlt : 1099511627776 < V
  · have e1 : Hid (bkV V = 0 ∧ bkE V = 3) := Lib.hid ⟨if_pos hlt, if_pos hlt⟩
    rw [decide_eq_true hlt] at DM
    go_wp2_with fail
    (with_reducible refine DM.out.mono ?_)
    rintro e w2 ⟨rfl, hb2⟩
    go_wp2_with fail
    go_ret2
    exact ⟨ret_two e1.out.1.symm e1.out.2.symm, hb1.trans0 hb2⟩
  · have e1 : Hid (bkV V = V ∧ bkE V = 0) := Lib.hid ⟨if_neg hlt, if_neg hlt⟩
    rw [decide_eq_false hlt] at DM
    go_wp2_with fail
    (with_reducible refine DM.out.mono ?_)
    rintro e w2 ⟨rfl, hb2⟩
    have K2 := Lib.hid (hb1.trans0 hb2)
    go_wp2_with fail
    go_loopw [4, 5] (fun x v wr => ∃ (m : Nat) (y : Int), m ≤ n ∧ v = .int .i64 ((m : Int) - 1) ∧ x = .int .u64 y ∧ 0 ≤ y ∧ y ≤ V ∧ Hid (dv (a.drop m) = y) ∧ Kept [] w wr) (fun _ v _ => (intOf v + 1).toNat)
    case atStart => exact ⟨n, 0, Nat.le_refl _, rfl, rfl, Int.le_refl _, hnn, Lib.hid (by rw [List.drop_eq_nil_of_le (by rw [NA.out]; exact Nat.le_refl _)]; rfl), K2.out⟩
    case round =>
      obtain ⟨m, y, hmn, rfl, rfl, hy0, hyV, hdy, hkw⟩ := hrel
      cases m with
      | zero =>
        have HY : Hid (y = V) := Lib.hid (by have := hdy.out; rw [List.drop_zero, HV.out] at this; exact this.symm)
        go_wp2_with fail
        go_ret2
        exact ⟨ret_two (HY.out.trans e1.out.1.symm) e1.out.2.symm, hkw⟩
      | succ m =>
        have e2 : ((m + 1 : Nat) : Int) - 1 = (m : Int) := by omega
        rw [e2]
        obtain ⟨ad, rfl, hx⟩ := HA.out.2.2.2.1.get (by have := NA.out; omega)
        have d1 := hx wr hkw m (by have := NA.out; omega)
        have l1 := cell_lt d1
        have HDA := Lib.hid (drop_get a m (by have := NA.out; omega))
        have hdg := CA.out.1.get m
        have HSP := Lib.hid (dv_split a m (by have := NA.out; omega))
        have HTK := Lib.hid (CA.out.1.take m).nn
        generalize a[m]?.getD 0 = x at d1 HDA hdg
        have q1 : (0 : Int) ≤ (m : Int) := by omega
        have q2 : (m : Int) < (n : Int) := by omega
        have HN : Hid (dv (a.drop m) = y * 10000 + x) := Lib.hid (by rw [HDA.out]; simp only [dv]; rw [hdy.out]; omega)
        have hle : y * 10000 + x ≤ V := by
          have h1 := HSP.out
          rw [HV.out, HN.out] at h1
          have h2 := P4_pos m
          have h3 : 1 * (y * 10000 + x) ≤ P4 m * (y * 10000 + x) := Int.mul_le_mul_of_nonneg_right h2 (by omega)
          have h4 := HTK.out
          omega
        clear hx e2
        go_wp2_with fail
        go_roundw
        case rel => exact ⟨m, _, by omega, rfl, rfl, by omega, hle, HN, hkw⟩
        case measure => simp [intOf] <;> omega
end Go.Proofs.Ytnooelpdoeijbaa
