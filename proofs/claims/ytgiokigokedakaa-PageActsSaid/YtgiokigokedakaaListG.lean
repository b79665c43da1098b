/- alive, of lists. -/
import Derived.Test.YtgiokigokedakaaListP
import Derived.Deep.QuietTactic
import Derived.BigQuiet
set_option linter.unusedVariables false
set_option linter.unusedSimpArgs false
namespace Go.Proofs.Ytgiokigokedakaa
open Go.RowKit
theorem ListB.of {w : World} {b : Nat} {hd n : Int} (h : Blk w b 86 #[.int .u64 hd, .int .i64 n]) : ListB w b hd n := h
theorem OwnI.row {B : Nat} {k : IntKind} {e : TypeId} {w : World} {A : Option Addr} {n c : Nat} {zs : List Int} (h : OwnI B k e w (.slice A n c) zs) : RowX k w A zs := by
  obtain ⟨A', c', h1, _, h2, _⟩ := h.slice
  cases h1
  exact h2
theorem row2 {k : IntKind} {w : World} {b : Nat} {t : TypeId} {x y : Int} (h : Blk w b t #[.int k x, .int k y]) : RowX k w (some ⟨b, 0, none⟩) [x, y] :=
  RowX.of_blk h (fun i hi => by
    match i, hi with
    | 0, _ => rfl
    | 1, _ => rfl)
set_option maxRecDepth 100000 in
set_option maxHeartbeats 2000000 in
theorem same_eq (w : World) (A A' : Option Addr) (n c n' c' : Nat) (ys : List Int) (hn : n = ys.length) (hr : RowX .u64 w A ys) (hn' : n' = ys.length) (hr' : RowX .u64 w A' ys) (hl : ys.length ≤ 9223372036854775807) :
    Calls Try.prog 60 #[.slice A n c, .slice A' n' c'] w fun e w' => e = .returned (.bool true) ∧ Kept [] w w' := by
  subst hn hn'
  have HR := Lib.hid hr
  have HR' := Lib.hid hr'
  clear hr hr'
  go_enter Try.func60, Try.ntmps60
  go_wp2_with fail
  go_loopw [13] (fun i wr => ∃ k : Nat, k ≤ ys.length ∧ i = .int .i64 k ∧ Kept [] w wr) (fun i _ => ys.length - (intOf i).toNat)
  case atStart => exact ⟨0, Nat.zero_le _, rfl, Kept.refl _ _⟩
  case round =>
    obtain ⟨k, hk, rfl, hkw⟩ := hrel
    by_cases hlt : k < ys.length
    · obtain ⟨ad, rfl, hc⟩ := HR.out.get (by omega)
      obtain ⟨ad', rfl, hc'⟩ := HR'.out.get (by omega)
      have c1 := hc wr hkw k hlt
      have c2 := hc' wr hkw k hlt
      clear hc hc'
      generalize ys[k]?.getD 0 = x at c1 c2
      have l1 := cell_lt c1
      have l2 := cell_lt c2
      have q1 : (0 : Int) ≤ (k : Int) := by omega
      have q2 : (k : Int) < (ys.length : Int) := by omega
      go_wp2_with fail
      go_quiet (fail)
      go_wp2_with fail
      go_roundw
      case rel => exact ⟨k + 1, by omega, by go_num, hkw.drewN _⟩
      case measure => simp [intOf]; omega
    · obtain rfl : k = ys.length := by omega
      go_wp2_with fail
      go_ret
      exact ⟨rfl, hkw⟩
set_option maxHeartbeats 1000000 in
theorem push_none (w : World) (p : Option Addr) (A : Option Addr) (n c : Nat) : Calls Try.prog 39 #[.pointer none, .pointer p, .slice A n c] w fun e w' => e = .returned (.int .i64 1) ∧ w = w' := by
  go_enter Try.func39, Try.ntmps39
  go_wp2_with fail
  go_ret
  exact ⟨rfl, rfl⟩
theorem chn_two (zs : List Int) (h : zs.length = 1024) : ∃ z2, pushG zs 0 [16, 32] = (z2, 32) ∧ z2.length = 1024 ∧ Chn z2 32 [32, 16] ∧ lk z2 32 = 16 := by
  refine ⟨_, rfl, ?_, ?_⟩
  · have := pushG_len [16, 32] zs 0 (fun a ha => by simp at ha; omega)
    rw [h] at this
    exact this
  · have hc := Chn.pushG (len := 1024) (by omega) [16, 32] (zs := zs) (hd := 0) (l := []) h rfl (fun a ha => by simp at ha; omega) (by simp) (fun a _ x hx => by cases hx) (by decide)
    have hc' : Chn (pushG zs 0 [16, 32]).1 32 [32, 16] := hc
    exact ⟨hc', hc'.2.2.2.1⟩
end Go.Proofs.Ytgiokigokedakaa
