/- The document's long numbers: times. -/
import Derived.Test.YtnooelpdoeijbaaLongC
import Derived.Test.YtnooelpdoeijbaaLongT
set_option linter.unusedVariables false
set_option linter.unusedSimpArgs false
namespace Go.Proofs.Ytnooelpdoeijbaa
open Go.RowKit
set_option maxRecDepth 100000 in
set_option maxHeartbeats 8000000 in
theorem times_any (A : Option Addr) (n c : Nat) (a : List Int) (A' : Option Addr) (n' c' : Nat) (b : List Int) (w : World) (ha : LongB w A n c a) (hb : LongB w A' n' c' b) (da : Dig a) (db : Dig b) (hn : n ≤ 100000) (hn' : n' ≤ 100000) :
    Calls Try.prog 37 #[.slice A n c, .slice A' n' c'] w fun e w' => OfIs (dv a * dv b) e w' ∧ Kept [] w w' := by
  obtain ⟨i0, hi, hz0, hz1, hz2⟩ := info_parts info_int
  have hmk := fun (w : World) => run_make (P := Try.prog) w 44 3 i0 (.int .i64 0) Try.underlying44 hi hz0 .i64 .i64 ((n : Int) + (n' : Int) + 1) ((n : Int) + (n' : Int) + 1) (by omega) (Int.le_refl _) (by rw [hz2]; omega) (by omega)
  have e1 : ((n : Int) + (n' : Int) + 1).toNat = n + n' + 1 := by omega
  simp only [e1, hz1, made_i] at hmk
  have HA := Lib.hid ha
  have HB := Lib.hid hb
  have na := Lib.hid ha.1
  have nb := Lib.hid hb.1
  clear ha hb e1 hi hz0 hz1 hz2
  have HS := Lib.hid (TimesInv.start a b (n + n' + 1))
  have HLL : Hid (n + n' + 1 = a.length + b.length + 1) := Lib.hid (by rw [na.out, nb.out])
  have BZ : Hid (Blk (w.alloc (.cells (cellsI (List.replicate (n + n' + 1) 0)) 3)) w.heap.size 3 (cellsI (List.replicate (n + n' + 1) 0))) := Lib.hid (Blk.new w _ _)
  go_enter Try.func37, Try.ntmps37
  go_wp2_with fail
  go_loopw [18] (fun v wr => ∃ (i : Nat) (ds : List Int), i ≤ n ∧ v = .int .i64 i ∧ Hid (TimesInv (n + n' + 1) a b i 0 ds) ∧ Hid (Blk wr w.heap.size 3 (cellsI ds)) ∧ Kept [] w wr) (fun v _ => n - (intOf v).toNat)
  case atStart => exact ⟨0, _, Nat.zero_le _, rfl, HS, BZ, (Kept.refl [] w).alloc _⟩
  case round =>
    obtain ⟨wo, rfl⟩ : ∃ wo : World, wo = wr := ⟨_, rfl⟩
    obtain ⟨i, ds, hin, rfl, hI, hB, hkw⟩ := hrel
    by_cases hlt : i < n
    · have HAI : Hid (i < a.length) := Lib.hid (by rw [← na.out]; exact hlt)
      have dga := da.get i
      obtain ⟨ad, rfl, hxa⟩ := HA.out.2.2.2.1.get (by have := HAI.out; omega)
      have HXA := Lib.hid (fun w' hk => hxa w' hk i HAI.out)
      clear hxa
      go_wp2_with fail
      go_loopw [23] (fun v wr => ∃ (k : Nat) (ds : List Int), k ≤ n' ∧ v = .int .i64 k ∧ Hid (TimesInv (n + n' + 1) a b i k ds) ∧ Hid (Blk wr w.heap.size 3 (cellsI ds)) ∧ Kept [] w wr) (fun v _ => n' - (intOf v).toNat)
      case atStart => exact ⟨0, ds, Nat.zero_le _, rfl, hI, hB, hkw⟩
      case round =>
        obtain ⟨k, es, hkn, rfl, hJ, hC, hkr⟩ := hrel
        have hl := hC.out.lt
        by_cases hlk : k < n'
        · have HBK : Hid (k < b.length) := Lib.hid (by rw [← nb.out]; exact hlk)
          have dgb := db.get k
          obtain ⟨ad', rfl, hxb⟩ := HB.out.2.2.2.1.get (by have := HBK.out; omega)
          have c3 := hxb wr hkr k HBK.out
          have c4 := HXA.out wr hkr
          clear hxb
          have l3 := cell_lt c3
          have l4 := cell_lt c4
          have hel := Lib.hid hJ.out.len
          have c1 := (hC.out.cell (i + k)).trans (cellsI_lt (by rw [hel.out]; omega))
          have c2 := (hC.out.cell (i + k + 1)).trans (cellsI_lt (by rw [hel.out]; omega))
          have f1 := hC.out.frozen (i + k)
          have f2 := hC.out.frozen (i + k + 1)
          have HSTP := Lib.hid (fun v hv => hJ.out.step da db HLL.out HAI.out HBK.out v hv)
          have hn1 := hJ.out.nn (i + k)
          have hn2 := hJ.out.bd (i + k)
          have hn3 := hJ.out.nn (i + k + 1)
          have hn4 := hJ.out.bd (i + k + 1)
          have hmb := mul_bd dga dgb
          generalize es[i + k]?.getD 0 = o at c1 HSTP hn1 hn2
          obtain ⟨o1, ho1⟩ : ∃ o1, es[i + k + 1]?.getD 0 = o1 := ⟨_, rfl⟩
          have HO1 := Lib.hid ho1
          rw [ho1] at c2 hn3 hn4
          clear ho1
          generalize a[i]?.getD 0 = x at c4 HSTP hmb dga HXA
          generalize b[k]?.getD 0 = y at c3 HSTP hmb dgb
          obtain ⟨p, hp⟩ : ∃ p, x * y = p := ⟨_, rfl⟩
          rw [hp] at hmb HSTP
          have HN := HSTP.out _ rfl
          rw [HO1.out] at HN
          replace HN := Lib.hid HN
          have q1 : (0 : Int) ≤ (i : Int) := by omega
          have q2 : (i : Int) < (n : Int) := by omega
          have q3 : (0 : Int) ≤ (k : Int) := by omega
          have q4 : (k : Int) < (n' : Int) := by omega
          have q5 : (0 : Int) ≤ (i : Int) + (k : Int) := by omega
          have q6 : (i : Int) + (k : Int) < (n : Int) + (n' : Int) + 1 := by omega
          have q7 : (i : Int) + (k : Int) + 1 < (n : Int) + (n' : Int) + 1 := by omega
          have q8 : (i : Int) + (k : Int) < (n : Int) + (n' : Int) := by omega
          have q9 : (0 : Int) ≤ (i : Int) + (k : Int) + 1 := by omega
          clear HSTP
          obtain ⟨v, hv⟩ : ∃ v, o + p = v := ⟨_, rfl⟩
          have hv0 : 0 ≤ v ∧ v ≤ 100000002 := by omega
          rw [hv] at HN
          have HV := Lib.hid hv
          have HP := Lib.hid hp
          clear hv hp
          have E1 : Hid (IntKind.i64.wrap ((i : Int) + (k : Int)) = (i : Int) + (k : Int)) := Lib.hid (IntWalk.i64_in _ (by omega))
          have E2 : Hid (IntKind.i64.wrap (x * y) = p) := Lib.hid (by rw [HP.out]; exact IntWalk.i64_in _ (by omega))
          have E3 : Hid (IntKind.i64.wrap (o + p) = v) := Lib.hid (by rw [HV.out]; exact IntWalk.i64_in _ (by omega))
          have E4 : Hid (((i : Int) + (k : Int)).toNat = i + k) := Lib.hid (by omega)
          have E5 : Hid (IntKind.i64.wrap ((i : Int) + (k : Int) + 1) = (i : Int) + (k : Int) + 1) := Lib.hid (IntWalk.i64_in _ (by omega))
          have E6 : Hid (((i : Int) + (k : Int) + 1).toNat = i + k + 1) := Lib.hid (by omega)
          have E7 : Hid (v.tdiv 10000 = v / 10000) := Lib.hid (by rw [Int.tdiv_eq_ediv_of_nonneg hv0.1])
          have E8 : Hid (IntKind.i64.wrap (o1 + v / 10000) = o1 + v / 10000) := Lib.hid (IntWalk.i64_in _ (by omega))
          have E9 : Hid (IntKind.i64.wrap (v / 10000) = v / 10000) := Lib.hid (IntWalk.i64_in _ (by omega))
          go_wp2_with fail
          trace "A"
          have e1 := E1.out
          have e2 := E2.out
          have e3 := E3.out
          have e4 := E4.out
          go_still_tail 17, (by kernel_rfl)
          clear e1 e2 e3 e4
          go_wp2_with fail
          have BS : Hid (Blk (wr.setCell ⟨w.heap.size, i + k, none⟩ (.int .i64 v)).drew w.heap.size 3 (cellsI (es.set (i + k) v))) := Lib.hid (by
            refine Blk.drew ?_
            rw [← cellsI_set]
            exact Blk.set_ hC.out _ _)
          have KS : Hid (Kept [] w (wr.setCell ⟨w.heap.size, i + k, none⟩ (.int .i64 v)).drew) := Lib.hid (Kept.drew (Kept.setNew hkr (Nat.le_refl _) _))
          have OS : Hid (∀ B : Nat → Value → Prop, True) := Lib.hid (fun _ => trivial)
          generalize (wr.setCell ⟨w.heap.size, i + k, none⟩ (.int .i64 v)).drew = wS at BS KS ⊢
          have s1 : wS.cell? ⟨w.heap.size, i + k, none⟩ = some (.int .i64 v) := (BS.out.cell (i + k)).trans (by
            rw [cellsI_lt (by rw [List.length_set, hel.out]; omega), get_set _ _ _ _ (by rw [hel.out]; omega), if_pos rfl])
          have s2 : wS.cell? ⟨w.heap.size, i + k + 1, none⟩ = some (.int .i64 o1) := (BS.out.cell (i + k + 1)).trans (by
            rw [cellsI_lt (by rw [List.length_set, hel.out]; omega), get_set _ _ _ _ (by rw [hel.out]; omega), if_neg (by omega), HO1.out])
          have s3 := BS.out.frozen (i + k)
          have s4 := BS.out.frozen (i + k + 1)
          have s5 := BS.out.lt
          have e1 := E1.out
          have e4 := E4.out
          have e5 := E5.out
          have e6 := E6.out
          have e7 := E7.out
          have e8 := E8.out
          have e9 := E9.out
          go_still_tail 16, (by kernel_rfl)
          clear e1 e4 e5 e6 e7 e8 e9
          go_wp2_with fail
          go_roundw
          case rel =>
            refine ⟨k + 1, _, by omega, by go_num, HN, Lib.hid ?_, ?_⟩
            · (repeat (first | (with_reducible refine Blk.drew ?_) | (with_reducible refine Blk.drewN ?_ _)))
              rw [← cellsI_set, ← cellsI_set]
              refine Blk.set_ (Blk.set_ ?_ _ _) _ _
              (repeat (first | (with_reducible refine Blk.drew ?_) | (with_reducible refine Blk.drewN ?_ _)))
              exact BS.out
            · have := KS.out
              (repeat' (first | (with_reducible exact Kept.refl _ _) | (with_reducible assumption) | (with_reducible refine Kept.then_ (by with_reducible assumption) ?_) | (with_reducible refine Kept.thenS (by with_reducible assumption) ?_) | (with_reducible refine Kept.alloc ?_ _) | (with_reducible refine Kept.drew ?_) | (with_reducible refine Kept.drewN ?_ _) | (with_reducible refine Kept.setNew ?_ ?_ _) | ((try simp only [World.size_alloc, World.size_setCell, World.size_drew, size_drewN] at *); (try dsimp only); omega)))
          case measure => simp [intOf]; omega
        · obtain rfl : k = n' := by omega
          have HN : Hid (TimesInv (n + k + 1) a b (i + 1) 0 es) := Lib.hid (by
            have := hJ.out
            have e : k = b.length := nb.out
            subst e
            exact this.row HAI.out)
          go_wp2_with fail
          go_roundw
          case rel => exact ⟨i + 1, es, by omega, by go_num, HN, hC, hkr⟩
          case measure => simp [intOf]; omega
    · have hie : i = n := by omega
      have HC0 : Hid (CarryInv (n + n' + 1) (dv a * dv b) 0 ds) := Lib.hid (by
        have h1 := hI.out
        rw [hie, na.out] at h1
        rw [na.out]
        exact h1.carried (by have := HLL.out; have := na.out; omega))
      clear hI
      subst hie
      go_wp2_with fail
      go_loopw [8] (fun v wr => ∃ (t : Nat) (ds : List Int), t ≤ i + n' ∧ v = .int .i64 t ∧ Hid (CarryInv (i + n' + 1) (dv a * dv b) t ds) ∧ Hid (Blk wr w.heap.size 3 (cellsI ds)) ∧ Kept [] w wr) (fun v _ => i + n' - (intOf v).toNat)
      case atStart => exact ⟨0, ds, Nat.zero_le _, rfl, HC0, hB, hkw⟩
      case round =>
        obtain ⟨t, es, htn, rfl, hJ, hC, hkr⟩ := hrel
        have hl := hC.out.lt
        have hel := Lib.hid hJ.out.len
        by_cases hlt2 : t < i + n'
        · have q0 : (t : Int) + 1 < (i : Int) + (n' : Int) + 1 := by omega
          have q1 : (t : Int) < (i : Int) + (n' : Int) := by omega
          have q2 : (0 : Int) ≤ (t : Int) := by omega
          have q3 : (0 : Int) ≤ (t : Int) + 1 := by omega
          have q4 : (t : Int) < (i : Int) + (n' : Int) + 1 := by omega
          have c1 := (hC.out.cell t).trans (cellsI_lt (by rw [hel.out]; omega))
          have c2 := (hC.out.cell (t + 1)).trans (cellsI_lt (by rw [hel.out]; omega))
          have f1 := hC.out.frozen t
          have f2 := hC.out.frozen (t + 1)
          have hh := hJ.out.high t (Nat.le_refl _)
          have hh2 := hJ.out.high (t + 1) (by omega)
          have HN := Lib.hid (hJ.out.step (by omega))
          generalize es[t]?.getD 0 = o at c1 hh HN
          generalize es[t + 1]?.getD 0 = o1 at c2 hh2 HN
          have E5 : Hid (IntKind.i64.wrap ((t : Int) + 1) = (t : Int) + 1) := Lib.hid (IntWalk.i64_in _ (by omega))
          have E6 : Hid (((t : Int) + 1).toNat = t + 1) := Lib.hid (by omega)
          have E7 : Hid (o.tdiv 10000 = o / 10000) := Lib.hid (by rw [Int.tdiv_eq_ediv_of_nonneg hh.1])
          have E8 : Hid (IntKind.i64.wrap (o1 + o / 10000) = o1 + o / 10000) := Lib.hid (IntWalk.i64_in _ (by omega))
          have E9 : Hid (IntKind.i64.wrap (o / 10000) = o / 10000) := Lib.hid (IntWalk.i64_in _ (by omega))
          go_wp2_with fail
          have e5 := E5.out
          have e6 := E6.out
          have e7 := E7.out
          have e8 := E8.out
          have e9 := E9.out
          go_still_tail 12, (by kernel_rfl)
          clear e5 e6 e7 e8 e9
          go_wp2_with fail
          go_roundw
          case rel =>
            refine ⟨t + 1, _, by omega, by go_num, HN, Lib.hid ?_, ?_⟩
            · (repeat (first | (with_reducible refine Blk.drew ?_) | (with_reducible refine Blk.drewN ?_ _)))
              rw [← cellsI_set, ← cellsI_set]
              refine Blk.set_ (Blk.set_ ?_ _ _) _ _
              (repeat (first | (with_reducible refine Blk.drew ?_) | (with_reducible refine Blk.drewN ?_ _)))
              exact hC.out
            · (repeat' (first | (with_reducible exact Kept.refl _ _) | (with_reducible assumption) | (with_reducible refine Kept.then_ (by with_reducible assumption) ?_) | (with_reducible refine Kept.thenS (by with_reducible assumption) ?_) | (with_reducible refine Kept.alloc ?_ _) | (with_reducible refine Kept.drew ?_) | (with_reducible refine Kept.drewN ?_ _) | (with_reducible refine Kept.setNew ?_ ?_ _) | ((try simp only [World.size_alloc, World.size_setCell, World.size_drew, size_drewN] at *); (try dsimp only); omega)))
          case measure => simp [intOf]; omega
        · obtain rfl : t = i + n' := by omega
          obtain ⟨hdg, hds⟩ := hJ.out.done rfl
          have DT : Hid (Calls Try.prog 39 #[.slice (some ⟨w.heap.size, 0, none⟩) (i + n' + 1) (i + n' + 1)] wr fun e w' => OfIs (dv a * dv b) e w' ∧ Kept [] wr w') := Lib.hid (by
            have := trim_any (some ⟨w.heap.size, 0, none⟩) (i + n' + 1) (i + n' + 1) es wr (LongB.of_blk hC.out hel.out.symm (by unfold maxLen; omega)) hdg
            rwa [hds] at this)
          clear hdg hds
          go_wp2_with fail
          (with_reducible refine DT.out.mono ?_)
          rintro e w9 ⟨⟨A9, n9, c9, d9, rfl, h1, h2, h3⟩, hb9⟩
          have H9 : Hid (OfIs (dv a * dv b) (.returned (.slice A9 n9 c9)) w9) := Lib.hid ⟨A9, n9, c9, d9, rfl, h1, h2, h3⟩
          clear h1 h2 h3
          go_wp2_with fail
          go_ret
          exact ⟨H9.out, hb9.then_ hkr⟩
end Go.Proofs.Ytnooelpdoeijbaa
