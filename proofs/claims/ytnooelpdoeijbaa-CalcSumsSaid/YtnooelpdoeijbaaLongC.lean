/- The document's long numbers: plus. -/
import Derived.Test.YtnooelpdoeijbaaLongB
import Derived.Test.YtnooelpdoeijbaaLongP
import Derived.Test.YtnooelpdoeijbaaCopy
import Derived.Laws.MakeOwn
import Derived.StillTailTactics
set_option linter.unusedVariables false
set_option linter.unusedSimpArgs false
namespace Go.Proofs.Ytnooelpdoeijbaa
open Go.RowKit
def cellsI (zs : List Int) : Array Value := (zs.map (Value.int .i64)).toArray
theorem cellsI_lt {zs : List Int} {i : Nat} (h : i < zs.length) : (cellsI zs)[i]? = some (.int .i64 (zs[i]?.getD 0)) := by
  unfold cellsI
  rw [List.getElem?_toArray, List.getElem?_map, List.getElem?_eq_getElem h]; rfl
theorem cellsI_set (zs : List Int) (i : Nat) (v : Int) : (cellsI zs).setIfInBounds i (.int .i64 v) = cellsI (zs.set i v) := by
  unfold cellsI
  simp [List.map_set]
theorem made_i (n : Nat) : madeCells (Value.int .i64 0).cells (n * 1) = cellsI (List.replicate n 0) := by
  apply Array.ext
  · simp [size_madeCells, cellsI]
  · intro i h1 h2
    simp [madeCells, cellsI, Value.cells, Nat.mod_one]
theorem LongB.of_blk {w : World} {g : Nat} {ds : List Int} (h : Blk w g 3 (cellsI ds)) {n : Nat} (hn : n = ds.length) (hm : n ≤ maxLen) : LongB w (some ⟨g, 0, none⟩) n n ds :=
  ⟨hn, Nat.le_refl _, hm, RowX.of_blk h (fun i hi => cellsI_lt hi), fun h => by cases h⟩
theorem size_int : (Try.prog.info? 3).map (·.size) = some 1 := by kernel_rfl
theorem splice_zeros (a : List Int) (L : Nat) (h : a.length ≤ L) : (splice ((List.replicate L (0 : Int)).map (Value.int .i64)) 0 (a.map (Value.int .i64))).toArray = cellsI (a ++ List.replicate (L - a.length) 0) := by
  unfold cellsI splice
  simp
set_option maxRecDepth 100000 in
set_option maxHeartbeats 4000000 in
theorem plus_any (A : Option Addr) (n c : Nat) (a : List Int) (A' : Option Addr) (n' c' : Nat) (b : List Int) (w : World) (ha : LongB w A n c a) (hb : LongB w A' n' c' b) (da : Dig a) (db : Dig b) (hn : n ≤ 100000) (hn' : n' ≤ 100000) :
    Calls Try.prog 31 #[.slice A n c, .slice A' n' c'] w fun e w' => OfIs (dv a + dv b) e w' ∧ Kept [] w w' := by
  obtain ⟨i0, hi, hz0, hz1, hz2⟩ := info_parts info_int
  have hmk := fun (M : Nat) (hM : M ≤ 100000) (w : World) => run_make (P := Try.prog) w 44 3 i0 (.int .i64 0) Try.underlying44 hi hz0 .i64 .i64 ((M : Int) + 1) ((M : Int) + 1) (by omega) (Int.le_refl _) (by rw [hz2]; omega) (by omega)
  have e1 : ∀ M : Nat, ((M : Int) + 1).toNat = M + 1 := fun M => by omega
  simp only [e1, hz1, made_i] at hmk
  have HMK := Lib.hid hmk
  have HA := Lib.hid ha
  have HB := Lib.hid hb
  have na := Lib.hid ha.1
  have nb := Lib.hid hb.1
  clear ha hb e1 hi hz0 hz1 hz2 hmk
  obtain ⟨M, hM⟩ : ∃ M : Nat, (M = n' ∧ n < n') ∨ (M = n ∧ n' ≤ n) := ⟨max n n', by omega⟩
  have hM2 : M = max n n' := by omega
  have hML : M ≤ 100000 := by omega
  have HSRC : Hid (0 < (a.map (Value.int .i64)).length → some (⟨w.heap.size, 0, none⟩ : Addr) = some ⟨w.heap.size, 0, none⟩ ∧ ∃ ad, A = some ad ∧ ∀ (j : Nat) v, (a.map (Value.int .i64))[j]? = some v → (w.alloc (.cells (cellsI (List.replicate (M + 1) 0)) 3)).cell? (ad.add j) = some v) := Lib.hid (fun h => by
    obtain ⟨x, h1, hbk, h2⟩ := HA.out.2.2.2.1 (by simpa using h)
    refine ⟨rfl, x, h1, fun j v hv => ?_⟩
    have hj : j < a.length := by
      rcases Nat.lt_or_ge j a.length with h3 | h3
      · exact h3
      · rw [List.getElem?_eq_none (by simpa using h3)] at hv; cases hv
    have h4 := h2 j hj
    rw [List.getElem?_map, List.getElem?_eq_getElem hj] at hv
    rw [List.getElem?_eq_getElem hj] at h4
    simp at hv h4
    subst hv
    exact (World.cell?_of_block (by rw [add_block]; exact Below.heap_alloc w _ _ hbk)).trans h4)
  have HMK1 := HMK.out M hML
  have HZB : Hid (Blk (w.alloc (.cells (cellsI (List.replicate (M + 1) 0)) 3)) w.heap.size 3 ((List.replicate (M + 1) (0 : Int)).map (Value.int .i64)).toArray) := Lib.hid (Blk.new w _ _)
  have hal : a.length ≤ M := by have := na.out; omega
  have hbl : b.length ≤ M := by have := nb.out; omega
  have HL2 := Lib.hid (show M + 1 = max a.length b.length + 1 by have := na.out; have := nb.out; omega)
  have HLC : Hid ((a.map (Value.int .i64)).length = a.length) := Lib.hid (by simp)
  have HLZ : Hid (((List.replicate (M + 1) (0 : Int)).map (Value.int .i64)).length = M + 1) := Lib.hid (by simp)
  have HST := Lib.hid (PlusInv.start (b := b) da HL2.out)
  have HSPZ : Hid ((splice (List.replicate (M + 1) (Value.int .i64 0)) 0 (a.map (Value.int .i64))).toArray = cellsI (a ++ List.replicate (M + 1 - a.length) 0)) := Lib.hid (by
    have := splice_zeros a (M + 1) (by omega)
    rwa [List.map_replicate] at this)
  clear HL2 hM2
  have HCNT : Hid ((a.map (Value.int .i64)).length = Nat.min n (M + 1)) := Lib.hid (by rw [HLC.out, ← na.out]; show n = min n (M + 1); omega)
  have HONE : Hid (∀ v, v ∈ a.map (Value.int .i64) → v.oneCell' = true) := Lib.hid (fun v hv => by obtain ⟨y, _, rfl⟩ := List.mem_map.1 hv; rfl)
  have HFIT : Hid (0 + (a.map (Value.int .i64)).length ≤ ((List.replicate (M + 1) (0 : Int)).map (Value.int .i64)).length) := Lib.hid (by rw [HLC.out, HLZ.out]; omega)
  clear HLC HLZ HMK
  rcases hM with ⟨rfl, hM⟩ | ⟨rfl, hM⟩
  · go_enter Try.func31, Try.ntmps31
    go_wp2_with (with_reducible refine copy_kept rfl (.tmp 14) (.tmp 15) 44 44 rfl 3 Try.underlying44 size_int _ _ _ _ _ _ rfl rfl w.heap.size 0 _ 3 HZB.out _ HCNT.out HSRC.out HFIT.out HONE.out ?_)
    intro w2 hB2 hk2
    have B2 : Hid (Blk w2 w.heap.size 3 (cellsI (a ++ List.replicate (M + 1 - a.length) 0))) := Lib.hid (by rw [← HSPZ.out]; exact hB2.out)
    have K2 : Hid (Kept [] w w2) := Lib.hid (hk2.thenG ((Kept.refl [] w).alloc _) (Nat.le_refl _))
    clear hB2 hk2 HSPZ HSRC HCNT HZB HFIT HONE HMK1
    go_wp2_with fail
    go_loopw [19] (fun v wr => ∃ (i : Nat) (ds : List Int), i ≤ M + 1 ∧ v = .int .i64 i ∧ Hid (PlusInv (M + 1) b (dv a + dv b) i ds) ∧ Hid (Blk wr w.heap.size 3 (cellsI ds)) ∧ Kept [] w wr) (fun v _ => M + 1 - (intOf v).toNat)
    case atStart => exact ⟨0, _, Nat.zero_le _, rfl, HST, B2, K2.out⟩
    case round =>
      obtain ⟨i, ds, hiM, rfl, hI, hB, hkw⟩ := hrel
      have hdl := Lib.hid hI.out.len
      have hl := hB.out.lt
      by_cases hlt : i < M + 1
      · have c1 := (hB.out.cell i).trans (cellsI_lt (by rw [hdl.out]; omega))
        have f1 := hB.out.frozen i
        have hcu := hI.out.cur
        have HSTP := Lib.hid (fun v hv => hI.out.step db hlt v hv)
        have hbd := db.get i
        have q1 : (0 : Int) ≤ (i : Int) := by omega
        have q3 : (i : Int) < (M : Int) + 1 := by omega
        by_cases hib : i < b.length
        · obtain ⟨ad, rfl, hx⟩ := HB.out.2.2.2.1.get (by omega)
          have c2 := hx wr hkw i hib
          have l2 := cell_lt c2
          have q2 : (i : Int) < (M : Int) := by have := nb.out; omega
          have q4 : i < M := by omega
          generalize hy : b[i]?.getD 0 = y at c2 hbd HSTP
          generalize ho : ds[i]?.getD 0 = o at c1 hcu HSTP
          clear hy ho hx
          by_cases hv : o + y < 10000
          · have HN := Lib.hid ((HSTP.out _ rfl).1 hv)
            go_wp2_with fail
            go_still_tail 10, (by kernel_rfl)
            go_wp2_with fail
            go_roundw
            case rel => exact ⟨i + 1, ds.set i (o + y), by omega, by go_num, HN, Lib.hid (by (repeat (first | (with_reducible refine Blk.drew ?_) | (with_reducible refine Blk.drewN ?_ _))); rw [← cellsI_set]; refine Blk.set_ ?_ _ _; (repeat (first | (with_reducible refine Blk.drew ?_) | (with_reducible refine Blk.drewN ?_ _))); exact hB.out), by (repeat' (first | (with_reducible exact Kept.refl _ _) | (with_reducible assumption) | (with_reducible refine Kept.then_ (by with_reducible assumption) ?_) | (with_reducible refine Kept.thenS (by with_reducible assumption) ?_) | (with_reducible refine Kept.alloc ?_ _) | (with_reducible refine Kept.drew ?_) | (with_reducible refine Kept.drewN ?_ _) | (with_reducible refine Kept.setNew ?_ ?_ _) | ((try simp only [World.size_alloc, World.size_setCell, World.size_drew, size_drewN] at *); (try dsimp only); omega)))⟩
            case measure => simp [intOf]; omega
          · have hv2 : 10000 ≤ o + y := by omega
            obtain ⟨hi1, hv3, hN⟩ := (HSTP.out _ rfl).2 hv2
            have HN := Lib.hid hN
            have c3 := (hB.out.cell (i + 1)).trans (cellsI_lt (by rw [hdl.out]; omega))
            have f3 := hB.out.frozen (i + 1)
            have hh := hI.out.high (i + 1) (by omega)
            generalize ds[i + 1]?.getD 0 = z at c3 hh HN
            clear hN
            go_wp2_with fail
            go_still_tail 10, (by kernel_rfl)
            go_wp2_with fail
            go_roundw
            case rel => exact ⟨i + 1, ((ds.set i (o + y)).set i (o + y - 10000)).set (i + 1) (z + 1), by omega, by go_num, HN, Lib.hid (by (repeat (first | (with_reducible refine Blk.drew ?_) | (with_reducible refine Blk.drewN ?_ _))); rw [← cellsI_set, ← cellsI_set, ← cellsI_set]; refine Blk.set_ (Blk.set_ (Blk.set_ ?_ _ _) _ _) _ _; (repeat (first | (with_reducible refine Blk.drew ?_) | (with_reducible refine Blk.drewN ?_ _))); exact hB.out), by (repeat' (first | (with_reducible exact Kept.refl _ _) | (with_reducible assumption) | (with_reducible refine Kept.then_ (by with_reducible assumption) ?_) | (with_reducible refine Kept.thenS (by with_reducible assumption) ?_) | (with_reducible refine Kept.alloc ?_ _) | (with_reducible refine Kept.drew ?_) | (with_reducible refine Kept.drewN ?_ _) | (with_reducible refine Kept.setNew ?_ ?_ _) | ((try simp only [World.size_alloc, World.size_setCell, World.size_drew, size_drewN] at *); (try dsimp only); omega)))⟩
            case measure => simp [intOf]; omega
        · have q2 : ¬ (i : Int) < (M : Int) := by have := nb.out; omega
          have q4 : decide ((i : Int) < (M : Int)) = false := decide_eq_false q2
          have q5 : decide (i < M) = false := decide_eq_false (by omega)
          have hy0 : b[i]?.getD 0 = 0 := by rw [List.getElem?_eq_none (by omega)]; rfl
          rw [hy0] at HSTP hbd
          generalize ho : ds[i]?.getD 0 = o at c1 hcu HSTP
          clear hy0
          have HO := Lib.hid ho
          clear ho
          by_cases hv : o < 10000
          · have HN : Hid (PlusInv (M + 1) b (dv a + dv b) (i + 1) ds) := Lib.hid (by
              have := (HSTP.out o (by omega)).1 hv
              have e : ds.set i o = ds := by
                have h1 : i < ds.length := by rw [hdl.out]; omega
                have h2 := HO.out
                rw [List.getElem?_eq_getElem h1] at h2
                have h3 : ds[i] = o := h2
                rw [← h3]; exact List.set_getElem_self h1
              rwa [e] at this)
            go_wp2_with fail
            go_roundw
            case rel => exact ⟨i + 1, ds, by omega, by go_num, HN, hB, hkw⟩
            case measure => simp [intOf]; omega
          · exact absurd ((HSTP.out o (by omega)).2 (by omega)).1 (by omega)
      · obtain rfl : i = M + 1 := by omega
        obtain ⟨hdg, hds⟩ := hI.out.done
        have DT : Hid (Calls Try.prog 39 #[.slice (some ⟨w.heap.size, 0, none⟩) (M + 1) (M + 1)] wr fun e w' => OfIs (dv a + dv b) e w' ∧ Kept [] wr w') := Lib.hid (by
          have := trim_any (some ⟨w.heap.size, 0, none⟩) (M + 1) (M + 1) ds wr (LongB.of_blk hB.out hdl.out.symm (by unfold maxLen; omega)) hdg
          rwa [hds] at this)
        clear hdg hds
        go_wp2_with fail
        (with_reducible refine DT.out.mono ?_)
        rintro e w9 ⟨⟨A9, n9, c9, d9, rfl, h1, h2, h3⟩, hb9⟩
        have H9 : Hid (OfIs (dv a + dv b) (.returned (.slice A9 n9 c9)) w9) := Lib.hid ⟨A9, n9, c9, d9, rfl, h1, h2, h3⟩
        clear h1 h2 h3
        go_wp2_with fail
        go_ret
        exact ⟨H9.out, hb9.then_ hkw⟩
  · go_enter Try.func31, Try.ntmps31
    go_wp2_with (with_reducible refine copy_kept rfl (.tmp 14) (.tmp 15) 44 44 rfl 3 Try.underlying44 size_int _ _ _ _ _ _ rfl rfl w.heap.size 0 _ 3 HZB.out _ HCNT.out HSRC.out HFIT.out HONE.out ?_)
    intro w2 hB2 hk2
    have B2 : Hid (Blk w2 w.heap.size 3 (cellsI (a ++ List.replicate (M + 1 - a.length) 0))) := Lib.hid (by rw [← HSPZ.out]; exact hB2.out)
    have K2 : Hid (Kept [] w w2) := Lib.hid (hk2.thenG ((Kept.refl [] w).alloc _) (Nat.le_refl _))
    clear hB2 hk2 HSPZ HSRC HCNT HZB HFIT HONE HMK1
    go_wp2_with fail
    go_loopw [19] (fun v wr => ∃ (i : Nat) (ds : List Int), i ≤ M + 1 ∧ v = .int .i64 i ∧ Hid (PlusInv (M + 1) b (dv a + dv b) i ds) ∧ Hid (Blk wr w.heap.size 3 (cellsI ds)) ∧ Kept [] w wr) (fun v _ => M + 1 - (intOf v).toNat)
    case atStart => exact ⟨0, _, Nat.zero_le _, rfl, HST, B2, K2.out⟩
    case round =>
      obtain ⟨i, ds, hiM, rfl, hI, hB, hkw⟩ := hrel
      have hdl := Lib.hid hI.out.len
      have hl := hB.out.lt
      by_cases hlt : i < M + 1
      · have c1 := (hB.out.cell i).trans (cellsI_lt (by rw [hdl.out]; omega))
        have f1 := hB.out.frozen i
        have hcu := hI.out.cur
        have HSTP := Lib.hid (fun v hv => hI.out.step db hlt v hv)
        have hbd := db.get i
        have q1 : (0 : Int) ≤ (i : Int) := by omega
        have q3 : (i : Int) < (M : Int) + 1 := by omega
        by_cases hib : i < b.length
        · obtain ⟨ad, rfl, hx⟩ := HB.out.2.2.2.1.get (by omega)
          have c2 := hx wr hkw i hib
          have l2 := cell_lt c2
          have q2 : (i : Int) < (n' : Int) := by have := nb.out; omega
          have q4 : i < n' := by omega
          generalize hy : b[i]?.getD 0 = y at c2 hbd HSTP
          generalize ho : ds[i]?.getD 0 = o at c1 hcu HSTP
          clear hy ho hx
          by_cases hv : o + y < 10000
          · have HN := Lib.hid ((HSTP.out _ rfl).1 hv)
            go_wp2_with fail
            go_still_tail 10, (by kernel_rfl)
            go_wp2_with fail
            go_roundw
            case rel => exact ⟨i + 1, ds.set i (o + y), by omega, by go_num, HN, Lib.hid (by (repeat (first | (with_reducible refine Blk.drew ?_) | (with_reducible refine Blk.drewN ?_ _))); rw [← cellsI_set]; refine Blk.set_ ?_ _ _; (repeat (first | (with_reducible refine Blk.drew ?_) | (with_reducible refine Blk.drewN ?_ _))); exact hB.out), by (repeat' (first | (with_reducible exact Kept.refl _ _) | (with_reducible assumption) | (with_reducible refine Kept.then_ (by with_reducible assumption) ?_) | (with_reducible refine Kept.thenS (by with_reducible assumption) ?_) | (with_reducible refine Kept.alloc ?_ _) | (with_reducible refine Kept.drew ?_) | (with_reducible refine Kept.drewN ?_ _) | (with_reducible refine Kept.setNew ?_ ?_ _) | ((try simp only [World.size_alloc, World.size_setCell, World.size_drew, size_drewN] at *); (try dsimp only); omega)))⟩
            case measure => simp [intOf]; omega
          · have hv2 : 10000 ≤ o + y := by omega
            obtain ⟨hi1, hv3, hN⟩ := (HSTP.out _ rfl).2 hv2
            have HN := Lib.hid hN
            have c3 := (hB.out.cell (i + 1)).trans (cellsI_lt (by rw [hdl.out]; omega))
            have f3 := hB.out.frozen (i + 1)
            have hh := hI.out.high (i + 1) (by omega)
            generalize ds[i + 1]?.getD 0 = z at c3 hh HN
            clear hN
            go_wp2_with fail
            go_still_tail 10, (by kernel_rfl)
            go_wp2_with fail
            go_roundw
            case rel => exact ⟨i + 1, ((ds.set i (o + y)).set i (o + y - 10000)).set (i + 1) (z + 1), by omega, by go_num, HN, Lib.hid (by (repeat (first | (with_reducible refine Blk.drew ?_) | (with_reducible refine Blk.drewN ?_ _))); rw [← cellsI_set, ← cellsI_set, ← cellsI_set]; refine Blk.set_ (Blk.set_ (Blk.set_ ?_ _ _) _ _) _ _; (repeat (first | (with_reducible refine Blk.drew ?_) | (with_reducible refine Blk.drewN ?_ _))); exact hB.out), by (repeat' (first | (with_reducible exact Kept.refl _ _) | (with_reducible assumption) | (with_reducible refine Kept.then_ (by with_reducible assumption) ?_) | (with_reducible refine Kept.thenS (by with_reducible assumption) ?_) | (with_reducible refine Kept.alloc ?_ _) | (with_reducible refine Kept.drew ?_) | (with_reducible refine Kept.drewN ?_ _) | (with_reducible refine Kept.setNew ?_ ?_ _) | ((try simp only [World.size_alloc, World.size_setCell, World.size_drew, size_drewN] at *); (try dsimp only); omega)))⟩
            case measure => simp [intOf]; omega
        · have q2 : ¬ (i : Int) < (n' : Int) := by have := nb.out; omega
          have q4 : decide ((i : Int) < (n' : Int)) = false := decide_eq_false q2
          have q5 : decide (i < n') = false := decide_eq_false (by omega)
          have hy0 : b[i]?.getD 0 = 0 := by rw [List.getElem?_eq_none (by omega)]; rfl
          rw [hy0] at HSTP hbd
          generalize ho : ds[i]?.getD 0 = o at c1 hcu HSTP
          clear hy0
          have HO := Lib.hid ho
          clear ho
          by_cases hv : o < 10000
          · have HN : Hid (PlusInv (M + 1) b (dv a + dv b) (i + 1) ds) := Lib.hid (by
              have := (HSTP.out o (by omega)).1 hv
              have e : ds.set i o = ds := by
                have h1 : i < ds.length := by rw [hdl.out]; omega
                have h2 := HO.out
                rw [List.getElem?_eq_getElem h1] at h2
                have h3 : ds[i] = o := h2
                rw [← h3]; exact List.set_getElem_self h1
              rwa [e] at this)
            go_wp2_with fail
            go_roundw
            case rel => exact ⟨i + 1, ds, by omega, by go_num, HN, hB, hkw⟩
            case measure => simp [intOf]; omega
          · have hv2 : 10000 ≤ o := by omega
            obtain ⟨hi1, hv3, hN⟩ := (HSTP.out o (by omega)).2 hv2
            have HN : Hid (PlusInv (M + 1) b (dv a + dv b) (i + 1) ((ds.set i (o - 10000)).set (i + 1) (ds[i + 1]?.getD 0 + 1))) := Lib.hid (by rwa [List.set_set] at hN)
            have c3 := (hB.out.cell (i + 1)).trans (cellsI_lt (by rw [hdl.out]; omega))
            have f3 := hB.out.frozen (i + 1)
            have hh := hI.out.high (i + 1) (by omega)
            generalize ds[i + 1]?.getD 0 = z at c3 hh HN
            clear hN
            go_wp2_with fail
            go_roundw
            case rel => exact ⟨i + 1, (ds.set i (o - 10000)).set (i + 1) (z + 1), by omega, by go_num, HN, Lib.hid (by (repeat (first | (with_reducible refine Blk.drew ?_) | (with_reducible refine Blk.drewN ?_ _))); rw [← cellsI_set, ← cellsI_set]; refine Blk.set_ (Blk.set_ ?_ _ _) _ _; (repeat (first | (with_reducible refine Blk.drew ?_) | (with_reducible refine Blk.drewN ?_ _))); exact hB.out), by (repeat' (first | (with_reducible exact Kept.refl _ _) | (with_reducible assumption) | (with_reducible refine Kept.then_ (by with_reducible assumption) ?_) | (with_reducible refine Kept.thenS (by with_reducible assumption) ?_) | (with_reducible refine Kept.alloc ?_ _) | (with_reducible refine Kept.drew ?_) | (with_reducible refine Kept.drewN ?_ _) | (with_reducible refine Kept.setNew ?_ ?_ _) | ((try simp only [World.size_alloc, World.size_setCell, World.size_drew, size_drewN] at *); (try dsimp only); omega)))⟩
            case measure => simp [intOf]; omega
      · obtain rfl : i = M + 1 := by omega
        obtain ⟨hdg, hds⟩ := hI.out.done
        have DT : Hid (Calls Try.prog 39 #[.slice (some ⟨w.heap.size, 0, none⟩) (M + 1) (M + 1)] wr fun e w' => OfIs (dv a + dv b) e w' ∧ Kept [] wr w') := Lib.hid (by
          have := trim_any (some ⟨w.heap.size, 0, none⟩) (M + 1) (M + 1) ds wr (LongB.of_blk hB.out hdl.out.symm (by unfold maxLen; omega)) hdg
          rwa [hds] at this)
        clear hdg hds
        go_wp2_with fail
        (with_reducible refine DT.out.mono ?_)
        rintro e w9 ⟨⟨A9, n9, c9, d9, rfl, h1, h2, h3⟩, hb9⟩
        have H9 : Hid (OfIs (dv a + dv b) (.returned (.slice A9 n9 c9)) w9) := Lib.hid ⟨A9, n9, c9, d9, rfl, h1, h2, h3⟩
        clear h1 h2 h3
        go_wp2_with fail
        go_ret
        exact ⟨H9.out, hb9.then_ hkw⟩
end Go.Proofs.Ytnooelpdoeijbaa
