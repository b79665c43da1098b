/- DeleteFunc at runs: the walk. -/
import Derived.Test.YtfmgeidlbekfpaaGeoDel
set_option linter.unusedVariables false
set_option linter.unusedSimpArgs false
namespace Go.Proofs.Ytfmgeidlbekfpaa
open Go.RowKit
def DelIs (B g c : Nat) (rs : List RunT) (e : Ending) (w' : World) : Prop := ∃ M, e = .returned (.slice (some ⟨g, 0, none⟩) M c) ∧ OwnS B 43 3 encR w' (.slice (some ⟨g, 0, none⟩) M c) (keepR rs)
set_option maxRecDepth 100000 in
set_option maxHeartbeats 4000000 in
theorem delete_any (B g c : Nat) (rs : List RunT) (w : World) (ho : OwnS B 43 3 encR w (.slice (some ⟨g, 0, none⟩) rs.length c) rs) (hz : ∀ r, r ∈ rs → 0 ≤ r.1 ∧ 0 ≤ r.2.1) (hn : rs.length ≤ 1000000) :
    Calls Try.prog 29 #[.slice (some ⟨g, 0, none⟩) rs.length c, .func (.func 31) #[] #[]] w fun e w' => DelIs B g c rs e w' ∧ Kept [g] w w' := by
  obtain ⟨_, hnc, hcm, hBg, cur0, hb0, hs0, hc0⟩ := ho.cur
  obtain ⟨k, hf⟩ := firstR_ex dropP rs
  obtain ⟨_, _, _, _, _, hrow, _⟩ := ho.slice
  have hcells : CellsR w g rs := ⟨hb0.lt, fun i hi => by
    obtain ⟨a0, a1, a2⟩ := hc0 i hi
    exact ⟨(hb0.cell _).trans a0, (hb0.cell _).trans a1, (hb0.cell _).trans a2⟩⟩
  have DI := Lib.hid (indexR_any g c rs w hcells hz hn k hf)
  have HO := Lib.hid ho
  have HB0 := Lib.hid hb0
  have HC0 := Lib.hid hc0
  have HS0 := Lib.hid hs0
  have HZ := Lib.hid (fun i => run_ok hz i)
  have HF := Lib.hid hf
  have hkl := hf.1
  have heg := eg_meet1
  have HCM := Lib.hid hcm
  unfold maxLen at hcm
  clear ho hz hf hcells hb0 hs0 hc0
  by_cases hk : k < rs.length
  · rw [if_pos hk] at DI
    have HK : Hid (keepR (rs.take k) = rs.take k ∧ dropP (rd rs k) = true) := Lib.hid ⟨keepR_all rs k HF.out.2.1 (by omega), HF.out.2.2 hk⟩
    have q0 : ((k : Int) == -1) = false := by rw [beq_eq_false_iff_ne]; omega
    have q1 : decide ((k : Int) = -1) = false := decide_eq_false (by omega)
    go_enter Try.func29, Try.ntmps29
    go_wp2_with fail
    (with_reducible refine DI.out.mono ?_)
    rintro e w1 ⟨rfl, hb1⟩
    have B1 := Lib.hid (HB0.out.keep0 hb1)
    have HST : Hid (keepR (rs.take (k + 1)) = rs.take k) := Lib.hid (by rw [keepR_snoc rs k hk, HK.out.1, HK.out.2]; simp)
    have K1 := Lib.hid (Kept.mono (T := [g]) hb1 (fun s hs _ => by cases hs))
    go_wp2_with fail
    go_loopw [5, 6] (fun s5 s6 wr => ∃ (i j : Nat) (ds : List RunT) (cur : Array Value), s5 = .int .i64 i ∧ s6 = .int .i64 j ∧ i < j ∧ j ≤ rs.length ∧ ds.length = rs.length ∧ Hid (ds.take i = keepR (rs.take j)) ∧ Hid (ds.drop j = rs.drop j) ∧ Hid (Blk wr g 43 cur) ∧ Hid (cur.size = c * 3) ∧ Hid (CurR cur ds) ∧ Hid (Kept [g] w wr)) (fun _ s6 _ => rs.length - (intOf s6).toNat)
    case atStart => exact ⟨k, k + 1, rs, cur0, rfl, by go_num, by omega, by omega, rfl, Lib.hid HST.out.symm, Lib.hid rfl, B1, HS0, HC0, K1⟩
    case round =>
      obtain ⟨i, j, ds, cur, rfl, rfl, hij, hj, hdl, htk, hdr, hB, hS, hC, hkw⟩ := hrel
      have hgl := hB.out.lt
      by_cases hlt : j < rs.length
      · obtain ⟨a0, a1, a2⟩ := hC.out j (by omega)
        have c0 := (hB.out.cell (j * 3)).trans a0
        have c1 := (hB.out.cell (j * 3 + 1)).trans a1
        have c2 := (hB.out.cell (j * 3 + 2)).trans a2
        obtain ⟨z1, z2⟩ := HZ.out j
        have HRD : Hid (rd ds j = rd rs j) := Lib.hid (rd_drop hdr.out hlt)
        have hzz : rs[j]?.getD (0, 0, 0) = rd rs j := rfl
        rw [hzz] at z1 z2
        rw [HRD.out] at c0 c1 c2
        have HSN := Lib.hid (keepR_snoc rs j hlt)
        generalize rd rs j = q at c0 c1 c2 z1 z2 HSN
        obtain ⟨f, s, n⟩ := q
        dsimp only at c0 c1 c2 z1 z2
        have DM := Lib.hid (meet1_any f s n z1 z2)
        clear a0 a1 a2 hzz
        have q2 : (0 : Int) ≤ (i : Int) := by omega
        have q3 : (i : Int) < (rs.length : Int) := by omega
        cases hp : dropP (f, s, n) with
        | true =>
          rw [hp] at DM HSN
          have HT : Hid (ds.take i = keepR (rs.take (j + 1))) := Lib.hid (by rw [HSN.out, htk.out]; simp)
          have HD : Hid (ds.drop (j + 1) = rs.drop (j + 1)) := Lib.hid (by rw [← List.drop_drop, ← List.drop_drop, hdr.out])
          have HP := Lib.hid hp
          clear hp
          have BV : Hid (Blk (wr.alloc (.cells #[.int .u64 f, .int .u64 s, .int .i64 n] 43)) g 43 cur) := Lib.hid (hB.out.alloc _)
          go_wp2_with fail
          (with_reducible refine (DM.out _).mono ?_)
          rintro e w2 ⟨rfl, hb2⟩
          go_wp2_with fail
          go_roundw
          case rel => exact ⟨i, j + 1, ds, cur, rfl, by go_num, by omega, by omega, hdl, HT, HD, Lib.hid (BV.out.keep0 hb2), hS, hC, Lib.hid (hb2.then_ (hkw.out.alloc _))⟩
          case measure => simp [intOf]; omega
        | false =>
          rw [hp] at DM HSN
          have HT : Hid ((ds.set i (f, s, n)).take (i + 1) = keepR (rs.take (j + 1))) := Lib.hid (by
            rw [HSN.out, ← htk.out, List.take_add_one, List.take_set_of_le (Nat.le_refl _), List.getElem?_set_self (by omega)]
            simp)
          have HD : Hid ((ds.set i (f, s, n)).drop (j + 1) = rs.drop (j + 1)) := Lib.hid (by rw [List.drop_set_of_lt (by omega), ← List.drop_drop, ← List.drop_drop, hdr.out])
          have HP := Lib.hid hp
          have HCS := Lib.hid (hC.out.set (i := i) (by omega) f s n)
          clear hp
          have BV : Hid (Blk (wr.alloc (.cells #[.int .u64 f, .int .u64 s, .int .i64 n] 43)) g 43 cur) := Lib.hid (hB.out.alloc _)
          have NV : Hid (Blk (wr.alloc (.cells #[.int .u64 f, .int .u64 s, .int .i64 n] 43)) wr.heap.size 43 #[.int .u64 f, .int .u64 s, .int .i64 n]) := Lib.hid (Blk.new _ _ _)
          go_wp2_with fail
          (with_reducible refine (DM.out _).mono ?_)
          rintro e w2 ⟨rfl, hb2⟩
          have B2 := Lib.hid (BV.out.keep0 hb2)
          have N2 := Lib.hid (NV.out.keep0 hb2)
          have n0 := N2.out.cell 0
          have n1 := N2.out.cell 1
          have n2 := N2.out.cell 2
          have nl := N2.out.lt
          obtain ⟨b0, b1, b2⟩ := hC.out i (by omega)
          have d0 := (B2.out.cell (i * 3)).trans b0
          have d1 := (B2.out.cell (i * 3 + 1)).trans b1
          have d2 := (B2.out.cell (i * 3 + 2)).trans b2
          have f0 := B2.out.frozen (i * 3)
          have f1 := B2.out.frozen (i * 3 + 1)
          have f2 := B2.out.frozen (i * 3 + 2)
          have bl := B2.out.lt
          have K2 := Lib.hid (hb2.then_ (hkw.out.alloc (.cells #[.int .u64 f, .int .u64 s, .int .i64 n] 43)))
          clear b0 b1 b2
          go_wp2_with fail
          go_roundw
          case rel =>
            refine ⟨i + 1, j + 1, ds.set i (f, s, n), _, by go_num, by go_num, by omega, by omega, by rw [List.length_set]; exact hdl, HT, HD, Lib.hid (Blk.set_ (Blk.set_ (Blk.set_ B2.out _ _) _ _) _ _), Lib.hid (by simp only [Array.size_setIfInBounds]; exact hS.out), HCS, Lib.hid ?_⟩
            exact Kept.setIn (Kept.setIn (Kept.setIn K2.out (by simp) _) (by simp) _) (by simp) _
          case measure => simp [intOf]; omega
      · have hjn : j = rs.length := by omega
        have HT : Hid (ds.take i = keepR rs) := Lib.hid (by rw [htk.out, hjn, List.take_of_length_le (Nat.le_refl _)])
        have HLI : Hid ((keepR rs).length = i) := Lib.hid (by rw [← HT.out, List.length_take]; omega)
        obtain ⟨cs, hcl, hcsz, hcq⟩ := clear_run wr g (i * 3) (rs.length - i) (c - i) cur hB.out (by omega) (by rw [hS.out]; omega) 0
        have HQ := Lib.hid hcq
        have HSZ := Lib.hid hcsz
        clear hcq hcsz
        have q2 : (0 : Int) ≤ (i : Int) := by omega
        have q3 : (i : Int) ≤ (rs.length : Int) := by omega
        have q4 : (i : Int) ≤ (c : Int) := by omega
        have hne : ¬ c = i := by omega
        go_wp2_with fail
        go_ret
        refine ⟨⟨i, rfl, ?_⟩, ?_⟩
        · rw [← HT.out]
          refine OwnS.of_cur (setRow_blk hB.out) (by rw [HSZ.out]; exact hS.out) (fun u hu => ?_) (by rw [List.length_take]; omega) (by omega) HCM.out hBg
          rw [List.length_take] at hu
          have er : rd (ds.take i) u = rd ds u := by
            unfold rd
            rw [List.getElem?_take_of_lt (by omega)]
          obtain ⟨a0, a1, a2⟩ := hC.out u (by omega)
          rw [er, HQ.out _ (by omega), HQ.out _ (by omega), HQ.out _ (by omega)]
          exact ⟨a0, a1, a2⟩
        · exact (setRow_kept wr g cs).thenS hkw.out
  · rw [if_neg hk] at DI
    have HK : Hid (keepR rs = rs) := Lib.hid (by
      have := keepR_all rs rs.length (fun j hj => HF.out.2.1 j (by omega)) (Nat.le_refl _)
      rwa [List.take_of_length_le (Nat.le_refl _)] at this)
    go_enter Try.func29, Try.ntmps29
    go_wp2_with fail
    (with_reducible refine DI.out.mono ?_)
    rintro e w1 ⟨rfl, hb1⟩
    go_wp2_with fail
    go_ret
    exact ⟨⟨rs.length, rfl, by rw [HK.out]; exact HO.out.keep hb1⟩, hb1.mono (fun s hs _ => by cases hs)⟩
end Go.Proofs.Ytfmgeidlbekfpaa
