/- Whether a row of places is free: what MarkLowest asks of each place. -/
import Derived.Test.YthnfhenbkijihaaMarkC
set_option linter.unusedVariables false
set_option linter.unusedSimpArgs false
namespace Go.Proofs.Ythnfhenbkijihaa
open Go.RowKit Go.ChangeShapes Go.WideShapes Go.ChangeAt Go.Joins
set_option maxRecDepth 100000 in
set_option maxHeartbeats 4000000 in
theorem low_one (w : World) (p g B K : Nat) (bs : List Bool) (h : MarkB w p g bs) (hl : bs.length = 64) (hB : Blk w B 23 #[.pointer (some ⟨p, 0, none⟩)]) (a k : Nat) (hK : Blk w K 3 #[.int .i64 (k : Int)]) (ha : a < 64) (hk1 : 1 ≤ k) (hk : k ≤ 64) (v : Bool) (hv : v = true ↔ FreeAt bs a k) :
    Calls Try.prog 16 #[.int .i64 a, .pointer (some ⟨K, 0, none⟩), .pointer (some ⟨B, 0, none⟩)] w fun e w' => e = .returned (.bool v) ∧ Kept [] w w' := by
  have HM := Lib.hid h
  have HL := Lib.hid hl
  have HV := Lib.hid hv
  have HB := Lib.hid hB
  have HK := Lib.hid hK
  clear h hl hv hB hK
  go_enter Try.func16, Try.ntmps16
  go_wp2_with fail
  go_loopw [5] (fun i wr => ∃ j : Nat, j ≤ k ∧ i = .int .i64 ((a : Int) + (j : Int)) ∧ Hid (∀ x, x < j → bs[a + x]? = some false) ∧ Kept [] w wr) (fun i _ => a + k - (intOf i).toNat)
  case atStart => exact ⟨0, Nat.zero_le _, by simp, Lib.hid (fun x hx => by omega), Kept.refl _ _⟩
  case round =>
    obtain ⟨j, hj, rfl, hfr, hkw⟩ := hrel
    have HB3 := HB.out.keep0 hkw
    have HK3 := HK.out.keep0 hkw
    have c5 := HB3.cell 0
    have c6 := HK3.cell 0
    have l5 := HB3.lt
    have l6 := HK3.lt
    have M3 := Lib.hid (HM.out.keep0 hkw)
    clear HB3 HK3
    by_cases hlt : j < k
    · by_cases h64 : (64 : Int) ≤ (a : Int) + (j : Int)
      · have hvf : v = false := by
          cases v with
          | false => rfl
          | true => exact absurd ((HV.out.1 rfl).1) (by have := HL.out; omega)
        subst hvf
        go_wp2_with fail
        go_ret
        exact ⟨rfl, hkw⟩
      · cases hb : bs[a + j]? with
        | none =>
          have := HL.out
          rw [List.getElem?_eq_getElem (by omega)] at hb; cases hb
        | some c =>
          have HC := Lib.hid hb
          clear hb
          cases c with
          | true =>
            have hvf : v = false := by
              cases v with
              | false => rfl
              | true =>
                have := (HV.out.1 rfl).2 j hlt
                rw [HC.out] at this; cases this
            subst hvf
            have HO : Hid (outB bs ((a : Int) + (j : Int)) = !true) := Lib.hid (by rw [← Int.natCast_add, outB_in HC.out]; rfl)
            go_wp2_with fail
            (with_reducible refine (has_one _ _ _ _ _ _ (M3.out.keep0 ((Kept.refl [] wr).alloc _)) _ true HO.out (Blk.new _ _ _)).mono ?_)
            rintro e w6 ⟨rfl, hb6⟩
            go_wp2_with fail
            go_ret
            exact ⟨rfl, hb6.then_ (hkw.alloc _)⟩
          | false =>
            have HO : Hid (outB bs ((a : Int) + (j : Int)) = !false) := Lib.hid (by rw [← Int.natCast_add, outB_free HC.out]; rfl)
            go_wp2_with fail
            (with_reducible refine (has_one _ _ _ _ _ _ (M3.out.keep0 ((Kept.refl [] wr).alloc _)) _ false HO.out (Blk.new _ _ _)).mono ?_)
            rintro e w6 ⟨rfl, hb6⟩
            go_wp2_with fail
            go_roundw
            case rel => exact ⟨j + 1, by omega, by go_num, Lib.hid (fun x hx => by
              rcases Nat.lt_or_ge x j with h1 | h1
              · exact hfr.out x h1
              · rw [show x = j by omega]; exact HC.out), hb6.then_ (hkw.alloc _)⟩
            case measure => simp [intOf]; omega
    · obtain rfl : j = k := by omega
      have hvt : v = true := by
        refine HV.out.2 ⟨?_, hfr.out⟩
        have h1 := HL.out
        have h2 := hfr.out (j - 1) (by omega)
        rcases Nat.lt_or_ge (a + (j - 1)) bs.length with h3 | h3
        · omega
        · rw [List.getElem?_eq_none h3] at h2; cases h2
      subst hvt
      go_wp2_with fail
      go_ret
      exact ⟨rfl, hkw⟩
end Go.Proofs.Ythnfhenbkijihaa
