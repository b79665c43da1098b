/- The document's Of and Blocks; the classes of some. -/
import Derived.Test.YtfgmmehgmepegaaOf
import Derived.Test.YtfgmmehgmepegaaRefFor
import Derived.Test.YtfgmmehgmepegaaOwn
import Derived.Deep.RegionWith
import Derived.Deep.DrawnRows
import Derived.RegionTactic
import Derived.ChangeAlike
set_option linter.unusedVariables false
set_option linter.unusedSimpArgs false
namespace Go.Proofs.Ytfgmmehgmepegaa
open Go.RowKit
attribute [local go_sem ↓] Go.wp_at_zero Go.wp_at_succ
set_option maxHeartbeats 1000000 in
theorem refof_in (n : Int) (k : Nat) (hk : k < 12) (h1 : n ≤ sz k) (h2 : ∀ j, j < k → sz j < n) (w : World) :
    Calls Try.prog 17 #[.int .u64 n] w fun e w' => e = .returned (.tuple #[.int .i64 k, .bool true]) ∧ Kept [] w w' := by
  have H2 := Lib.hid h2
  clear h2
  go_enter Try.func17, Try.ntmps17
  go_wp2_with fail
  (with_reducible refine (refsizes_any _).mono ?_)
  rintro e w1 ⟨rfl, hB, hb1⟩
  have hs1 := hb1.size
  (try simp only [World.size_alloc, World.size_setCell, World.size_drew, size_drewN] at hs1)
  have HB := Lib.hid hB
  have hl := hB.lt
  clear hB
  go_wp2_with fail
  go_loopw [8] (fun v wr => ∃ j : Nat, j ≤ k ∧ v = .int .i64 j ∧ Kept [] w1 wr) (fun v _ => k + 1 - (intOf v).toNat)
  case atStart => exact ⟨0, Nat.zero_le _, rfl, Kept.refl _ _⟩
  case round =>
    obtain ⟨j, hj, rfl, hkw⟩ := hrel
    have c1 := ((HB.out.keep0 hkw).cell j).trans (szA_at j (by omega))
    have l1 := (HB.out.keep0 hkw).lt
    have hb := sz_bd j (by omega)
    by_cases hlt : j < k
    · have h3 := H2.out j hlt
      generalize sz j = s at c1 hb h3
      go_wp2_with fail
      go_roundw
      case rel => exact ⟨j + 1, by omega, by go_num, hkw⟩
      case measure => simp [intOf]; omega
    · obtain rfl : j = k := by omega
      generalize sz j = s at c1 hb h1
      go_wp2_with fail
      go_ret2
      exact ⟨rfl, hb1.trans0 hkw⟩
set_option maxHeartbeats 1000000 in
theorem refof_out (n : Int) (h1 : 1024 < n) (w : World) :
    Calls Try.prog 17 #[.int .u64 n] w fun e w' => e = .returned (.tuple #[.int .i64 0, .bool false]) ∧ Kept [] w w' := by
  go_enter Try.func17, Try.ntmps17
  go_wp2_with fail
  (with_reducible refine (refsizes_any _).mono ?_)
  rintro e w1 ⟨rfl, hB, hb1⟩
  have hs1 := hb1.size
  (try simp only [World.size_alloc, World.size_setCell, World.size_drew, size_drewN] at hs1)
  have HB := Lib.hid hB
  have hl := hB.lt
  clear hB
  go_wp2_with fail
  go_loopw [8] (fun v wr => ∃ j : Nat, j ≤ 12 ∧ v = .int .i64 j ∧ Kept [] w1 wr) (fun v _ => 13 - (intOf v).toNat)
  case atStart => exact ⟨0, Nat.zero_le _, rfl, Kept.refl _ _⟩
  case round =>
    obtain ⟨j, hj, rfl, hkw⟩ := hrel
    by_cases hlt : j < 12
    · have c1 := ((HB.out.keep0 hkw).cell j).trans (szA_at j (by omega))
      have l1 := (HB.out.keep0 hkw).lt
      have hb := sz_bd j (by omega)
      generalize sz j = s at c1 hb
      go_wp2_with fail
      go_roundw
      case rel => exact ⟨j + 1, by omega, by go_num, hkw⟩
      case measure => simp [intOf]; omega
    · obtain rfl : j = 12 := by omega
      go_wp2_with fail
      go_ret2
      exact ⟨rfl, hb1.trans0 hkw⟩
theorem fits_k' (k : Nat) (h : k < 12) : 1 ≤ bkS k ∧ bkS k ≤ 64 ∧ bkS k * sz k ≤ slS k * 1024 ∧ slS k * 1024 < (bkS k + 1) * sz k := by
  have : ∀ k, k < 12 → 1 ≤ bkS k ∧ bkS k ≤ 64 ∧ bkS k * sz k ≤ slS k * 1024 ∧ slS k * 1024 < (bkS k + 1) * sz k := by decide +kernel
  exact this k h
set_option maxRecDepth 100000 in
set_option maxHeartbeats 2000000 in
theorem refblocks_in (k : Nat) (hk : k < 12) (w : World) :
    Calls Try.prog 20 #[.int .i64 k] w fun e w' => e = .returned (.int .i64 (bkS k)) ∧ Kept [] w w' := by
  obtain ⟨f1, f2, f3, f4⟩ := fits_k' k hk
  have hs := sz_bd k hk
  have hl := sl_bd k hk
  have D1 := Lib.hid (refslices_in k hk)
  have HSZ := Lib.hid (szA_at k hk)
  generalize sz k = s at *
  generalize slS k = l at *
  generalize bkS k = b at *
  have F3 := Lib.hid f3
  have F4 := Lib.hid f4
  clear f3 f4
  go_enter Try.func20, Try.ntmps20
  go_wp2_with fail
  go_loopw [3] (fun v wr => ∃ j : Nat, (j : Int) ≤ b ∧ v = .int .i64 j ∧ Kept [] w wr) (fun v _ => 65 - (intOf v).toNat)
  case atStart => exact ⟨0, by omega, rfl, Kept.refl _ _⟩
  case round =>
    obtain ⟨j, hj, rfl, hkw⟩ := hrel
    have p0 : 0 ≤ ((j : Int) + 1) * s := Int.mul_nonneg (by omega) (by omega)
    have p1 : ((j : Int) + 1) * s ≤ 65 * s := Int.mul_le_mul_of_nonneg_right (by omega) (by omega)
    have HCMP : Hid (((j : Int) + 1) * s ≤ 1024 * l ↔ (j : Int) + 1 ≤ b) := Lib.hid (by
      have h3 := F3.out
      have h4 := F4.out
      constructor
      · intro h
        rcases Int.lt_or_le b ((j : Int) + 1) with h5 | h5
        · have : (b + 1) * s ≤ ((j : Int) + 1) * s := Int.mul_le_mul_of_nonneg_right (by omega) (by omega)
          omega
        · exact h5
      · intro h
        have : ((j : Int) + 1) * s ≤ b * s := Int.mul_le_mul_of_nonneg_right h (by omega)
        omega)
    have E1 : Hid (IntKind.u64.wrap (((j : Int) + 1) * s) = ((j : Int) + 1) * s) := Lib.hid (IntWalk.u64_in _ (by omega))
    have E2 : Hid (IntKind.u64.wrap (1024 * l) = 1024 * l) := Lib.hid (IntWalk.u64_in _ (by omega))
    have E3 : Hid (IntKind.i64.wrap ((j : Int) + 1) = (j : Int) + 1) := Lib.hid (IntWalk.i64_in _ (by omega))
    have E4 : Hid (IntKind.u64.wrap ((j : Int) + 1) = (j : Int) + 1) := Lib.hid (IntWalk.u64_in _ (by omega))
    have E5 : Hid (IntKind.u64.wrap l = l) := Lib.hid (IntWalk.u64_in _ (by omega))
    have q1 : (0 : Int) ≤ (k : Int) := by omega
    have q2 : (k : Int) < 12 := by omega
    obtain ⟨p, hp⟩ : ∃ p, ((j : Int) + 1) * s = p := ⟨_, rfl⟩
    have HP := Lib.hid hp
    rw [hp] at E1 HCMP p0 p1
    clear hp
    by_cases hlt : (j : Int) + 1 ≤ b
    · have hle := HCMP.out.2 hlt
      go_wp2_with fail
      have e1 := E1.out
      have e2 := E2.out
      have e3 := E3.out
      have e4 := E4.out
      have e5 := E5.out
      have hp := HP.out
      go_region_with (first | (go_at_call 18; refine (refsizes_any _).mono ?_; rintro e w7 ⟨rfl, hB7, hb7⟩; (try simp only [World.size_drew] at hB7); have hc7 := (hB7.cell k).trans HSZ.out; have hl7 := hB7.lt) | (go_at_call 19; refine (D1.out _).mono ?_; rintro e w8 ⟨rfl, hb8⟩; (try (have hB8 := Blk.keep0 hB7 hb8; have hc8 := (hB8.cell k).trans HSZ.out; have hl8 := hB8.lt))))
      all_goals clear e1 e2 e3 e4 e5 hp
      all_goals go_wp2_with fail
      all_goals
        go_roundw
        case rel => exact ⟨j + 1, by omega, by go_num, by (repeat' (first | (with_reducible exact Kept.refl _ _) | (with_reducible assumption) | (with_reducible refine Kept.then_ (by with_reducible assumption) ?_) | (with_reducible refine Kept.thenS (by with_reducible assumption) ?_) | (with_reducible refine Kept.alloc ?_ _) | (with_reducible refine Kept.drew ?_) | (with_reducible refine Kept.drewN ?_ _) | (with_reducible refine Kept.setNew ?_ ?_ _) | ((try simp only [World.size_alloc, World.size_setCell, World.size_drew, size_drewN] at *); (try dsimp only); omega)))⟩
        case measure => simp [intOf]; omega
    · have hle : ¬ p ≤ 1024 * l := fun h => hlt (HCMP.out.1 h)
      have HBJ : Hid ((j : Int) = b) := Lib.hid (by omega)
      go_wp2_with fail
      have e1 := E1.out
      have e2 := E2.out
      have e3 := E3.out
      have e4 := E4.out
      have e5 := E5.out
      have hp := HP.out
      go_region_with (first | (go_at_call 18; refine (refsizes_any _).mono ?_; rintro e w7 ⟨rfl, hB7, hb7⟩; (try simp only [World.size_drew] at hB7); have hc7 := (hB7.cell k).trans HSZ.out; have hl7 := hB7.lt) | (go_at_call 19; refine (D1.out _).mono ?_; rintro e w8 ⟨rfl, hb8⟩; (try (have hB8 := Blk.keep0 hB7 hb8; have hc8 := (hB8.cell k).trans HSZ.out; have hl8 := hB8.lt))))
      all_goals clear e1 e2 e3 e4 e5 hp
      all_goals go_wp2_with fail
      all_goals
        go_ret
        exact ⟨ret_int HBJ.out, by (repeat' (first | (with_reducible exact Kept.refl _ _) | (with_reducible assumption) | (with_reducible refine Kept.then_ (by with_reducible assumption) ?_) | (with_reducible refine Kept.thenS (by with_reducible assumption) ?_) | (with_reducible refine Kept.alloc ?_ _) | (with_reducible refine Kept.drew ?_) | (with_reducible refine Kept.drewN ?_ _) | (with_reducible refine Kept.setNew ?_ ?_ _) | ((try simp only [World.size_alloc, World.size_setCell, World.size_drew, size_drewN] at *); (try dsimp only); omega)))⟩
/-- The sizes of those that are classes. -/
def picks : List Int → List Int | [] => [] | i :: l => (if 0 ≤ i ∧ i < 12 then [sz i.toNat] else []) ++ picks l
theorem picks_app (a b : List Int) : picks (a ++ b) = picks a ++ picks b := by
  induction a with
  | nil => rfl
  | cons x a ih => simp only [List.cons_append, picks, ih, List.append_assoc]
theorem picks_len (l : List Int) : (picks l).length ≤ l.length := by
  induction l with
  | nil => simp [picks]
  | cons x l ih => simp only [picks, List.length_append, List.length_cons]; split <;> simp <;> omega
theorem info_u64 : (Try.prog.info? 22).map (fun i => (i.zero, i.size, i.bytes)) = some (some (.int .u64 0), 1, 8) := by kernel_rfl
theorem RowX.one {k : IntKind} {w : World} {b : Nat} {t : TypeId} {x : Int} (h : Blk w b t #[.int k x]) : RowX k w (some ⟨b, 0, none⟩) [x] :=
  RowX.of_blk h (fun i hi => by
    match i, hi with
    | 0, _ => rfl)
theorem row_sz {w : World} {b : Nat} {t : TypeId} (h : Blk w b t szA) : RowX .u64 w (some ⟨b, 0, none⟩) szL := RowX.of_blk h (fun i hi => szA_at i hi)
theorem OwnI.row {B : Nat} {k : IntKind} {e : TypeId} {w : World} {A : Option Addr} {n c : Nat} {zs : List Int} (h : OwnI B k e w (.slice A n c) zs) : RowX k w A zs := by
  obtain ⟨A', c', h1, _, h2, _⟩ := h.slice
  cases h1
  exact h2
def RowIs (zs : List Int) (e : Ending) (w' : World) : Prop := ∃ A c, e = .returned (.slice A zs.length c) ∧ RowX .u64 w' A zs
set_option maxRecDepth 100000 in
set_option maxHeartbeats 2000000 in
theorem all_some (A : Option Addr) (cap : Nat) (zs : List Int) (w : World) (hr : RowX .i64 w A zs) (h0 : 0 < zs.length) (hn : zs.length ≤ 300) :
    Calls Try.prog 21 #[.slice A zs.length cap] w fun e w' => RowIs (picks zs) e w' ∧ Kept [] w w' := by
  obtain ⟨ad, rfl, hx⟩ := hr.get h0
  have HX := Lib.hid hx
  have hq : ((zs.length : Int) == 0) = false := by rw [beq_eq_false_iff_ne]; omega
  clear hx hr
  go_enter Try.func21, Try.ntmps21
  go_wp2_with fail
  go_loopw [2, 15] (fun l v wr => ∃ j : Nat, j ≤ zs.length ∧ v = .int .i64 j ∧ Hid (OwnI w.heap.size .u64 22 wr l (picks (zs.take j))) ∧ Kept [] w wr) (fun _ v _ => zs.length - (intOf v).toNat)
  case atStart => exact ⟨0, Nat.zero_le _, rfl, Lib.hid (OwnI.nil _ _ _ _), Kept.refl _ _⟩
  case round =>
    obtain ⟨j, hj, rfl, ho, hkw⟩ := hrel
    obtain ⟨A1, c1, rfl, _⟩ := ho.out.slice
    by_cases hlt : j < zs.length
    · have c2 := HX.out wr hkw j hlt
      have l2 := cell_lt c2
      have HT : Hid (picks (zs.take (j + 1)) = picks (zs.take j) ++ picks [zs[j]?.getD 0]) := Lib.hid (by
        rw [List.take_add_one, List.getElem?_eq_getElem hlt, picks_app]; rfl)
      generalize zs[j]?.getD 0 = x at c2 HT
      by_cases hin : 0 ≤ x ∧ x < 12
      · obtain ⟨k, rfl⟩ : ∃ k : Nat, x = (k : Int) := ⟨x.toNat, by omega⟩
        have HP : Hid (picks (zs.take (j + 1)) = picks (zs.take j) ++ [sz k]) := Lib.hid (by
          rw [HT.out]
          simp [picks, hin.2])
        have DS := Lib.hid (size_in k (by omega))
        have HLN : Hid ((picks (zs.take j)).length ≤ 300) := Lib.hid (by
          have := picks_len (zs.take j)
          rw [List.length_take] at this
          omega)
        generalize sz k = s at HP DS
        have hszw := hkw.size
        go_wp2_with fail
        (with_reducible refine (DS.out _).mono ?_)
        rintro e w3 ⟨rfl, hb3⟩
        have O3 := Lib.hid (ho.out.kept hb3)
        have hs3 := hb3.size
        go_wp2_with (refine app_gen .u64 46 22 8 Try.underlying46 info_u64 (by omega) rfl (.tmp 26) (.tmp 28) rfl w w.heap.size _ (picks (zs.take j)) [s] rfl (O3.out.kept ((Kept.refl [] w3).alloc _)) _ _ _ rfl rfl (fun h => by cases h) (RowX.one (Blk.new _ _ _)) ((hkw.trans0 hb3).alloc _) (Nat.le_refl _) (by simp; omega) (by have := HLN.out; simp; omega) ?_)
        intro A4 n4 c4 w4 hn4 own4 owo4 hk4 hg4 hs4 hc4 hr4
        have O4 : Hid (OwnI w.heap.size .u64 22 w4 (.slice A4 n4 c4) (picks (zs.take (j + 1)))) := Lib.hid (by rw [HP.out]; exact own4)
        clear own4 owo4 hg4 hr4 hn4
        go_wp2_with fail
        go_roundw
        case rel => exact ⟨j + 1, by omega, by go_num, O4, hk4⟩
        case measure => simp [intOf]; omega
      · have HP : Hid (picks (zs.take (j + 1)) = picks (zs.take j)) := Lib.hid (by
          rw [HT.out]
          unfold picks
          rw [if_neg hin]
          simp [picks])
        have DS := Lib.hid (size_out x (by omega))
        go_wp2_with fail
        (with_reducible refine (DS.out _).mono ?_)
        rintro e w3 ⟨rfl, hb3⟩
        go_wp2_with fail
        go_roundw
        case rel => exact ⟨j + 1, by omega, by go_num, Lib.hid (by rw [HP.out]; exact ho.out.kept hb3), hkw.trans0 hb3⟩
        case measure => simp [intOf]; omega
    · obtain rfl : j = zs.length := by omega
      have HT : Hid (zs.take zs.length = zs) := Lib.hid (List.take_of_length_le (Nat.le_refl _))
      go_wp2_with fail
      go_ret
      exact ⟨⟨A1, c1, by rw [HT.out]; rfl, by have := ho.out.row; rwa [HT.out] at this⟩, hkw⟩
set_option maxHeartbeats 1000000 in
theorem all_none (A : Option Addr) (cap : Nat) (w : World) :
    Calls Try.prog 21 #[.slice A 0 cap] w fun e w' => RowIs szL e w' ∧ Kept [] w w' := by
  go_enter Try.func21, Try.ntmps21
  go_wp2_with fail
  (with_reducible refine (sizes_any _).mono ?_)
  rintro e w1 ⟨rfl, hb1⟩
  have hs1 := hb1.size
  (try simp only [World.size_alloc, World.size_setCell, World.size_drew, size_drewN] at hs1)
  go_wp2_with fail
  go_ret
  exact ⟨⟨_, 12, rfl, row_sz (Blk.new _ _ _)⟩, hb1.alloc _⟩
end Go.Proofs.Ytfgmmehgmepegaa
