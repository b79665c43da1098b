/- The document's long numbers: of, trim, more, back. -/
import Derived.Test.YtnooelpdoeijbaaOwn
import Derived.Test.YtnooelpdoeijbaaLong
import Derived.Test.YtnooelpdoeijbaaLawCalc
set_option linter.unusedVariables false
set_option linter.unusedSimpArgs false
namespace Go.Proofs.Ytnooelpdoeijbaa
open Go.RowKit
theorem info_int : (Try.prog.info? 3).map (fun i => (i.zero, i.size, i.bytes)) = some (some (.int .i64 0), 1, 8) := by kernel_rfl
/-- A slice value reads as the digits ds. -/
def LongB (w : World) (A : Option Addr) (n c : Nat) (ds : List Int) : Prop := n = ds.length ∧ n ≤ c ∧ c ≤ maxLen ∧ RowX .i64 w A ds ∧ (A = none → c = 0)
theorem LongB.keep {w w' : World} {A : Option Addr} {n c : Nat} {ds : List Int} (h : LongB w A n c ds) (hk : Kept [] w w') : LongB w' A n c ds := ⟨h.1, h.2.1, h.2.2.1, h.2.2.2.1.keep hk, h.2.2.2.2⟩
theorem RowX.one {k : IntKind} {w : World} {b : Nat} {t : TypeId} {x : Int} (h : Blk w b t #[.int k x]) : RowX k w (some ⟨b, 0, none⟩) [x] :=
  RowX.of_blk h (fun i hi => by
    match i, hi with
    | 0, _ => rfl)
theorem RowX.take {k : IntKind} {w : World} {A : Option Addr} {zs : List Int} (h : RowX k w A zs) (n : Nat) : RowX k w A (zs.take n) := fun h0 => by
  have hn : 0 < n ∧ 0 < zs.length := by
    simp at h0
    omega
  obtain ⟨x, h1, h2, h3⟩ := h hn.2
  exact ⟨x, h1, h2, fun i hi => by
    have hi' : i < n ∧ i < zs.length := by
      simp at hi
      omega
    rw [h3 i hi'.2, List.getElem?_take_of_lt hi'.1]⟩
theorem OwnI.long {B : Nat} {e : TypeId} {w : World} {A : Option Addr} {n c : Nat} {zs : List Int} (h : OwnI B .i64 e w (.slice A n c) zs) : LongB w A n c zs := by
  obtain ⟨A', c', h0, h1, h2, _⟩ := h.slice
  cases h0
  rcases h.2 with ⟨h3, h4⟩ | ⟨g, cap, cur, h3, hb, hg, hn, hm, hs, ht⟩
  · injection h3 with h3 h5 h6
    subst h6
    exact ⟨rfl, by omega, by unfold maxLen; omega, h2, h1⟩
  · injection h3 with h3 h5 h6
    subst h6
    exact ⟨rfl, hn, hm, h2, h1⟩
def OfIs (x : Int) (e : Ending) (w' : World) : Prop := ∃ A n c ds, e = .returned (.slice A n c) ∧ Canon ds ∧ dv ds = x ∧ LongB w' A n c ds
set_option maxRecDepth 100000 in
set_option maxHeartbeats 4000000 in
theorem of_any (x : Int) (h0 : 0 ≤ x) (h1 : x < 18446744073709551616) (w : World) :
    Calls Try.prog 30 #[.int .u64 x] w fun e w' => OfIs x e w' ∧ Kept [] w w' := by
  go_enter Try.func30, Try.ntmps30
  go_wp2_with fail
  go_loopw [0, 3] (fun y l wr => ∃ (z : Int) (ds : List Int), y = .int .u64 z ∧ 0 ≤ z ∧ z ≤ x ∧ Hid (dv ds + P4 ds.length * z = x) ∧ Hid (Dig ds) ∧ Hid (z = 0 → Canon ds) ∧ Hid (OwnI w.heap.size .i64 3 wr l ds) ∧ Kept [] w wr) (fun y _ _ => (intOf y).toNat)
  case atStart => exact ⟨x, [], rfl, h0, Int.le_refl _, Lib.hid (by simp [dv, P4]), Lib.hid Dig.nil, Lib.hid (fun _ => Canon.nil), Lib.hid (OwnI.nil _ _ _ _), Kept.refl _ _⟩
  case round =>
    obtain ⟨z, ds, rfl, hz0, hzx, hdv, hdg, hcn, how, hkw⟩ := hrel
    by_cases hz : 0 < z
    · have hsz := hkw.size
      have HLN : Hid (ds.length ≤ 4) := Lib.hid (by
        have h2 := hdv.out
        have h3 := hdg.out.nn
        have h4 := P4_pos ds.length
        have h5 : P4 ds.length * 1 ≤ P4 ds.length * z := Int.mul_le_mul_of_nonneg_left (by omega) (by omega)
        rw [Int.mul_one] at h5
        rcases Nat.lt_or_ge 4 ds.length with h6 | h6
        · have h7 := P4_mono (show 5 ≤ ds.length from h6)
          have h8 : P4 5 = 100000000000000000000 := by decide
          omega
        · exact h6)
      have hq := Int.emod_nonneg z (b := 10000) (by omega)
      have hq2 := Int.emod_lt_of_pos z (b := 10000) (by omega)
      have hd0 : 0 ≤ z / 10000 := by omega
      have HDM := Lib.hid (Int.emod_add_mul_ediv z 10000)
      obtain ⟨d, hd⟩ : ∃ d, z % 10000 = d := ⟨_, rfl⟩
      obtain ⟨q, hqq⟩ : ∃ q, z / 10000 = q := ⟨_, rfl⟩
      rw [hd, hqq] at HDM
      rw [hd] at hq hq2
      rw [hqq] at hd0
      obtain ⟨A0, c0, rfl, _⟩ := how.out.slice
      go_wp2_with (refine app_gen .i64 44 3 8 Try.underlying44 info_int (by omega) rfl (.tmp 6) (.tmp 10) rfl w w.heap.size _ ds [d] rfl (how.out.kept ((Kept.refl [] wr).alloc _)) _ _ _ rfl rfl (fun h => by cases h) (RowX.one (Blk.new _ _ _)) (hkw.alloc _) (Nat.le_refl _) (by simp; omega) (by have := HLN.out; simp; omega) ?_)
      intro A n c w2 hn2 own2 owo2 hk2 hg2 hs2 hc2 hr2
      have O2 := Lib.hid own2
      have HD := Lib.hid hd
      have HQ := Lib.hid hqq
      clear own2 owo2 hg2 hr2 hn2
      have HR : Hid (dv (ds ++ [d]) + P4 (ds ++ [d]).length * q = x) := Lib.hid (by
        rw [dv_snoc, List.length_append, List.length_cons, List.length_nil, P4_succ, ← hdv.out]
        have h2 := HDM.out
        rw [← h2, Int.mul_add, Int.mul_comm 10000 (P4 ds.length), Int.mul_assoc]
        omega)
      have HG : Hid (Dig (ds ++ [d])) := Lib.hid (hdg.out.app (fun y hy => by simp at hy; subst hy; exact ⟨hq, hq2⟩))
      have HC : Hid (q = 0 → Canon (ds ++ [d])) := Lib.hid (fun h => ⟨HG.out, fun y hy => by
        rw [List.getLast?_append] at hy
        simp at hy
        have := HDM.out
        omega⟩)
      go_wp2_with fail
      go_roundw
      case rel => exact ⟨q, ds ++ [d], by rw [HQ.out], hd0, by have := HDM.out; omega, HR, HG, HC, O2, hk2⟩
      case measure => have := HDM.out; simp [intOf]; omega
    · obtain rfl : z = 0 := by omega
      obtain ⟨A0, c0, rfl, _⟩ := how.out.slice
      go_wp2_with fail
      go_ret
      exact ⟨⟨A0, _, c0, ds, rfl, hcn.out (by simp), by have := hdv.out; omega, how.out.long⟩, hkw⟩
set_option maxRecDepth 100000 in
set_option maxHeartbeats 4000000 in
theorem trim_any (A : Option Addr) (n c : Nat) (ds : List Int) (w : World) (h : LongB w A n c ds) (hd : Dig ds) :
    Calls Try.prog 39 #[.slice A n c] w fun e w' => OfIs (dv ds) e w' ∧ Kept [] w w' := by
  obtain ⟨hn, hnc, hcm, hr, hA⟩ := h
  unfold maxLen at hcm
  have HN := Lib.hid hn
  have HR := Lib.hid hr
  have HA := Lib.hid hA
  clear hn hr hA
  go_enter Try.func39, Try.ntmps39
  go_wp2_with fail
  go_loopw [0] (fun v wr => ∃ m : Nat, m ≤ n ∧ v = .slice A m c ∧ Hid (dv (ds.take m) = dv ds) ∧ Kept [] w wr) (fun v _ => match v with | .slice _ m _ => m | _ => 0)
  case atStart => exact ⟨n, Nat.le_refl _, rfl, Lib.hid (by rw [List.take_of_length_le (by rw [HN.out]; exact Nat.le_refl _)]), Kept.refl _ _⟩
  case round =>
    obtain ⟨m, hmn, rfl, hdv, hkw⟩ := hrel
    cases m with
    | zero =>
      go_wp2_with fail
      go_ret
      exact ⟨⟨A, 0, c, [], rfl, Canon.nil, by simpa using hdv.out, rfl, Nat.zero_le _, by unfold maxLen; omega, RowX.nil _ _ _, HA.out⟩, hkw⟩
    | succ m =>
      obtain ⟨ad, rfl, hc⟩ := HR.out.get (by have := HN.out; omega)
      have hcell : wr.cell? (ad.add m) = some (.int .i64 (ds[m]?.getD 0)) := hc wr hkw m (by have := HN.out; omega)
      have HT : Hid (ds.take (m + 1) = ds.take m ++ [ds[m]?.getD 0]) := Lib.hid (by
        have hl : m < ds.length := by have := HN.out; omega
        rw [List.take_add_one, List.getElem?_eq_getElem hl]; rfl)
      generalize ds[m]?.getD 0 = d at hcell HT
      clear hc
      have q1 : (0 : Int) ≤ (m : Int) := by omega
      by_cases hz : d = 0
      · subst hz
        have HD2 : Hid (dv (ds.take m) = dv ds) := Lib.hid (by
          have := hdv.out
          rw [HT.out, dv_snoc] at this
          omega)
        go_wp2_with fail
        go_roundw
        case rel => exact ⟨m, by omega, by (first | rfl | simp), HD2, hkw⟩
        case measure => simp
      · have hq : (d == 0) = false := by simpa using hz
        have hq2 : decide (d = 0) = false := by simpa using hz
        go_wp2_with fail
        go_ret
        refine ⟨⟨_, _, _, ds.take (m + 1), rfl, ⟨hd.take _, fun y hy => ?_⟩, hdv.out, by have := HN.out; simp; omega, by omega, by unfold maxLen; omega, (HR.out.take _).keep hkw, HA.out⟩, hkw⟩
        rw [HT.out] at hy
        simp at hy
        omega
end Go.Proofs.Ytnooelpdoeijbaa
