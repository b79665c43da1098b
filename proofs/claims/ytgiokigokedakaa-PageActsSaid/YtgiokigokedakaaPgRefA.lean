/- The document's page: Alloc. PRINTED BY mkrefalloc.py. -/
import Derived.Test.YtgiokigokedakaaPgRef
import Derived.Deep.RegionHeld3
set_option linter.unusedVariables false
set_option linter.unusedSimpArgs false
namespace Go.Proofs.Ytgiokigokedakaa
open Go.RowKit
theorem taken_cells (b : PgA) (x : Nat) (r : List Nat) (v5 v6 v7 u5 : Value) : ((b.rcells v5 v6 v7).setIfInBounds 5 u5).setIfInBounds 4 (.int .i64 ((b.po.length : Int) + (b.us.length : Int) + 1)) = (b.taken x r).rcells u5 v6 v7 := by
  simp [PgA.rcells, PgA.taken]
  omega
theorem swap_ne (a : PgA) (h : a.fr ≠ []) : a.swap = a ∧ a.ready = a := by
  have e1 : a.swap = a := by unfold PgA.swap; rw [if_neg h]
  exact ⟨e1, by unfold PgA.ready; rw [e1, if_neg h]⟩
theorem swap_cells (a : PgA) (v5 v6 v7 : Value) (h : a.fr = []) : ((a.rcells v5 v6 v7).setIfInBounds 5 v6).setIfInBounds 6 (.slice none 0 0) = a.swap.rcells v6 (.slice none 0 0) v7 := by
  unfold PgA.swap
  rw [if_pos h]
  simp [PgA.rcells]
set_option maxRecDepth 100000 in
set_option maxHeartbeats 4000000 in
theorem r_allocA {X : List Nat} {B : Nat} {w : World} {o : Nat} {a : PgA} (h : RefX X B w o a) (x : Nat) (r : List Nat) (hfr : a.fr = x :: r) (hl : a.fr.length ≤ 1024) (hu : a.us.length ≤ 1024 ∧ a.po.length ≤ 1024) :
    Calls Try.prog 34 #[.pointer (some ⟨o, 0, none⟩)] w fun e w' => e = .returned (.tuple #[.int .u64 (x : Int), .int .i64 0]) ∧ RefX X B w' o (a.ready.taken x r) ∧ Kept [o] w w' := by
  rw [(swap_ne a (by rw [hfr]; simp)).2]
  obtain ⟨v5, v6, v7, h, hav⟩ := h
  have AV := Lib.hid hav
  have H := Lib.hid h
  clear hav
  have HFR := Lib.hid hfr
  have HLEN := Lib.hid hu
  have HUS : Hid (a.us = a.us) := Lib.hid rfl
  have HRL : Hid (r.length ≤ 1024) := Lib.hid (by rw [hfr] at hl; simp at hl; omega)
  clear h hfr hl hu
  obtain ⟨gv, ov, cv, hv5, gvB, gvl, nv, mv, fv⟩ := TolN.first (show TolN B w v5 (x :: r) by have := H.out.fr; rwa [HFR.out] at this)
  obtain ⟨A', c', hv', hov, hrun⟩ := TolN.tail (show TolN B w v5 (x :: r) by have := H.out.fr; rwa [HFR.out] at this)
  have V' := Lib.hid hv'
  have HU : Hid ((a).us.length ≤ 1024 ∧ (a).po.length ≤ 1024) := Lib.hid (by first | exact HLEN.out | (rw [HUS.out]; exact HLEN.out))
  have z4 := H.out.c4
  have z5 := H.out.c5
  have f4 := H.out.blk.frozen 4
  have f5 := H.out.blk.frozen 5
  have olx := H.out.blk.lt
  have rl : r.length ≤ 1000000 := by have := HRL.out; omega
  have ql : (((r.length : Int) + 1 == 0) : Bool) = false := by rw [beq_eq_false_iff_ne]; omega
  have ql2 : (((r.length + 1 : Nat) : Int) == 0) = false := by rw [beq_eq_false_iff_ne]; omega
  have hwu : IntKind.i64.wrap (((a).po.length : Int) + ((a).us.length : Int) + 1) = ((a).po.length : Int) + ((a).us.length : Int) + 1 := IntWalk.i64_in _ (by have := HU.out; omega)
  have HOV := Lib.hid hov
  subst hv5
  have hrun' := hrun
  clear hrun hv' hov
  go_enter Try.func34, Try.ntmps34
  go_wp2_with fail
  (first | go_ret2 | go_ret)
  have K2 : Kept [o] w ((w.setCell ⟨o, 5, none⟩ (.slice A' r.length c')).setCell ⟨o, 4, none⟩ (.int .i64 (((a).po.length : Int) + ((a).us.length : Int) + 1))) := ((Kept.refl [o] w).setIn (by simp) _).setIn (by simp) _
  exact ⟨rfl, ⟨_, _, _, H.out.turn (b := a.taken x r) (((H.out.blk.set_ 5 (.slice A' r.length c')).set_ 4 (.int .i64 ((a.po.length : Int) + (a.us.length : Int) + 1))).cast (taken_cells a x r _ _ _ _)) K2 V'.out H.out.lo H.out.po, fun s hs => by have h1 := AV.out s hs; have h2 := K2.size; exact ⟨by omega, by rw [HOV.out]; exact h1.2.1, h1.2.2⟩⟩, K2⟩
theorem swap_fr (a : PgA) (h : a.fr = []) : a.swap.fr = a.lo ∧ a.swap.lo = [] ∧ a.swap.po = a.po ∧ a.swap.us = a.us := by
  unfold PgA.swap
  rw [if_pos h]
  exact ⟨rfl, rfl, rfl, rfl⟩
set_option maxRecDepth 100000 in
set_option maxHeartbeats 4000000 in
theorem r_allocB {X : List Nat} {B : Nat} {w : World} {o : Nat} {a : PgA} (h : RefX X B w o a) (x : Nat) (r : List Nat) (hf0 : a.fr = []) (hlo : a.lo = x :: r) (hl : a.lo.length ≤ 1024) (hu : a.us.length ≤ 1024 ∧ a.po.length ≤ 1024) :
    Calls Try.prog 34 #[.pointer (some ⟨o, 0, none⟩)] w fun e w' => e = .returned (.tuple #[.int .u64 (x : Int), .int .i64 0]) ∧ RefX X B w' o (a.ready.taken x r) ∧ Kept [o] w w' := by
  obtain ⟨s1, s2, s3, s4⟩ := swap_fr a hf0
  have er : a.ready = a.swap := by unfold PgA.ready; rw [if_neg (by rw [s1, hlo]; simp)]
  rw [er]
  obtain ⟨w5, w6, v7, h, hav⟩ := h
  obtain ⟨A5, c5, A6, c6, A7, c7, rfl, rfl, rfl⟩ := h.forms
  have AV := Lib.hid hav
  clear hav
  have HFR : Hid (a.swap.fr = x :: r) := Lib.hid (by rw [s1]; exact hlo)
  have HLEN := Lib.hid hu
  have HUS : Hid (a.swap.us.length ≤ 1024 ∧ a.swap.po.length ≤ 1024 ↔ a.us.length ≤ 1024 ∧ a.po.length ≤ 1024) := Lib.hid (by rw [s3, s4])
  have HRL : Hid (r.length ≤ 1024) := Lib.hid (by rw [hlo] at hl; simp at hl; omega)
  have k5 := h.c5
  have k6 := h.c6
  have g5 := h.blk.frozen 5
  have g6 := h.blk.frozen 6
  have ol := h.blk.lt
  have l0 : (a.fr.length : Int) = 0 := by rw [hf0]; rfl
  rw [hf0] at k5
  simp only [List.length_nil] at k5
  obtain ⟨wS, hwS⟩ : ∃ wS, (w.setCell ⟨o, 5, none⟩ (.slice A6 a.lo.length c6)).setCell ⟨o, 6, none⟩ (.slice none 0 0) = wS := ⟨_, rfl⟩
  have KS : Hid (Kept [o] w wS) := Lib.hid (by rw [← hwS]; exact ((Kept.refl [o] w).setIn (by simp) _).setIn (by simp) _)
  have HS0 : Hid (RefP B wS o a.swap (.slice A6 a.lo.length c6) (.slice none 0 0) (.slice A7 a.po.length c7)) := Lib.hid (h.turn (by rw [← hwS]; exact ((h.blk.set_ 5 _).set_ 6 _).cast (swap_cells a _ _ _ hf0)) KS.out (by rw [s1]; exact h.lo) (by rw [s2]; exact TolN.nil _ _) (by rw [s3]; exact h.po))
  obtain ⟨v5, hv5e⟩ : ∃ v5, v5 = Value.slice A6 a.lo.length c6 := ⟨_, rfl⟩
  have HS : Hid (RefP B wS o a.swap v5 (.slice none 0 0) (.slice A7 a.po.length c7)) := Lib.hid (by rw [hv5e]; exact HS0.out)
  have HV5 := Lib.hid hv5e
  have AVS : Hid (AvX X wS v5 (.slice none 0 0) (.slice A7 a.po.length c7)) := Lib.hid (fun s hs => by
    obtain ⟨a1, a2, a3, a4⟩ := AV.out s hs
    exact ⟨Nat.lt_of_lt_of_le a1 KS.out.size, by rw [hv5e]; exact a3, by simp [own, Value.ownBlock], a4⟩)
  clear h hl hu s1 s2 s3 s4 er l0 hf0 hlo hv5e HS0
  obtain ⟨gv, ov, cv, hv5, gvB, gvl, nv, mv, fv⟩ := TolN.first (show TolN B wS v5 (x :: r) by have := HS.out.fr; rwa [HFR.out] at this)
  obtain ⟨A', c', hv', hov, hrun⟩ := TolN.tail (show TolN B wS v5 (x :: r) by have := HS.out.fr; rwa [HFR.out] at this)
  have V' := Lib.hid hv'
  have HU : Hid ((a.swap).us.length ≤ 1024 ∧ (a.swap).po.length ≤ 1024) := Lib.hid (HUS.out.2 HLEN.out)
  have z4 := HS.out.c4
  have z5 := HS.out.c5
  have f4 := HS.out.blk.frozen 4
  have f5 := HS.out.blk.frozen 5
  have olx := HS.out.blk.lt
  have rl : r.length ≤ 1000000 := by have := HRL.out; omega
  have ql : (((r.length : Int) + 1 == 0) : Bool) = false := by rw [beq_eq_false_iff_ne]; omega
  have ql2 : (((r.length + 1 : Nat) : Int) == 0) = false := by rw [beq_eq_false_iff_ne]; omega
  have hwu : IntKind.i64.wrap (((a.swap).po.length : Int) + ((a.swap).us.length : Int) + 1) = ((a.swap).po.length : Int) + ((a.swap).us.length : Int) + 1 := IntWalk.i64_in _ (by have := HU.out; omega)
  have HOV := Lib.hid hov
  have hv5' := HV5.out
  rw [hv5] at hv5'
  injection hv5' with e1 e2 e3
  subst e1 e3
  rw [← e2] at k6 hwS
  subst hv5
  clear e2
  have hrun' := hrun
  clear hrun hv' hov
  go_enter Try.func34, Try.ntmps34
  go_wp2_with fail
  (first | go_ret2 | go_ret)
  have K2 : Kept [o] wS ((wS.setCell ⟨o, 5, none⟩ (.slice A' r.length c')).setCell ⟨o, 4, none⟩ (.int .i64 (((a.swap).po.length : Int) + ((a.swap).us.length : Int) + 1))) := ((Kept.refl [o] wS).setIn (by simp) _).setIn (by simp) _
  exact ⟨rfl, ⟨_, _, _, HS.out.turn (b := a.swap.taken x r) (((HS.out.blk.set_ 5 (.slice A' r.length c')).set_ 4 (.int .i64 ((a.swap.po.length : Int) + (a.swap.us.length : Int) + 1))).cast (taken_cells a.swap x r _ _ _ _)) K2 V'.out HS.out.lo HS.out.po, fun s hs => by have h1 := AVS.out s hs; have h2 := K2.size; exact ⟨by omega, by rw [HOV.out]; exact h1.2.1, h1.2.2⟩⟩, KS.out.trans K2 (fun x hx _ => hx)⟩
theorem blk_at {a : PgA} (hm : MayP a.F a.Z a.N) {i : Nat} (hi : i < a.N) (w : World) : Calls Try.prog 59 #[.agg #[.int .u64 (a.F : Int), .int .u64 (a.Z : Int), .int .i64 (a.N : Int)], .int .i64 (i : Int)] w fun e w' => e = .returned (.tuple #[.int .u64 ((a.bl i : Nat) : Int), .int .i64 0]) ∧ Kept [] w w' := by
  have h := refblock_any (a.F : Int) (a.Z : Int) (a.N : Int) (i : Int) (by omega) (by omega) w
  have e1 : blkV (a.F : Int) (a.Z : Int) (a.N : Int) (i : Int) = ((a.bl i : Nat) : Int) := by
    unfold blkV PgA.bl
    rw [if_pos ⟨hm, by omega, by omega⟩]
    simp
  have e2 : blkE (a.F : Int) (a.Z : Int) (a.N : Int) (i : Int) = 0 := by
    unfold blkE
    rw [if_pos hm, if_pos (by omega)]
  rwa [e1, e2] at h
def PgA.lay (a : PgA) (j : Nat) : PgA := { a with fr := (List.range' a.made j).map a.bl, lo := [], made := a.made + j }
theorem lay_more (a : PgA) (hf : a.fr = []) (hl : a.lo = []) : a.lay a.moreN = a.ready := by
  have es : a.swap = a := by
    unfold PgA.swap
    rw [if_pos hf]
    cases a
    simp only at hf hl ⊢
    rw [hf, hl]
  unfold PgA.ready
  rw [es, if_pos hf]
  unfold PgA.lay PgA.more PgA.some_
  rw [Nat.add_zero, Nat.sub_zero]
  cases a
  simp only at hl ⊢
  rw [hl]
def AllocRR (X : List Nat) (B : Nat) (w : World) (o : Nat) (a : PgA) (e : Ending) (w' : World) : Prop := ((a.ready.fr = [] ∧ e = .returned (.tuple #[.int .u64 0, .int .i64 4]) ∧ RefX X B w' o a.ready) ∨ ∃ x r, a.ready.fr = x :: r ∧ e = .returned (.tuple #[.int .u64 (x : Int), .int .i64 0]) ∧ RefX X B w' o (a.ready.taken x r)) ∧ Kept [o] w w'
theorem lay_cells (a : PgA) (j : Nat) (v5 v6 v7 u5 : Value) : ((((a.lay j).rcells v5 v6 v7).setIfInBounds 5 u5).setIfInBounds 3 (.int .i64 ((a.made : Int) + (j : Int) + 1))) = (a.lay (j + 1)).rcells u5 v6 v7 := by
  simp [PgA.rcells, PgA.lay]
  omega
set_option maxRecDepth 100000 in
set_option maxHeartbeats 8000000 in
theorem r_allocC {X : List Nat} {B : Nat} {w : World} {o : Nat} {a : PgA} (h : RefX X B w o a) (hf0 : a.fr = []) (hlo : a.lo = []) (hm : MayP a.F a.Z a.N) (hmN : a.made ≤ a.N) (hu : a.us.length ≤ 1024 ∧ a.po.length ≤ 1024) :
    Calls Try.prog 34 #[.pointer (some ⟨o, 0, none⟩)] w (AllocRR X B w o a) := by
  obtain ⟨w5, w6, v7, h, hav⟩ := h
  obtain ⟨A5, c5, A6, c6, A7, c7, rfl, rfl, rfl⟩ := h.forms
  have AV := Lib.hid hav
  clear hav
  rw [hf0, hlo] at h
  simp only [List.length_nil] at h
  have HLEN := Lib.hid hu
  have HM : Hid (MayP a.F a.Z a.N) := Lib.hid hm
  have hN : a.N ≤ 1024 := by unfold MayP at hm; omega
  have k5 := h.c5
  have k6 := h.c6
  have g5 := h.blk.frozen 5
  have g6 := h.blk.frozen 6
  have ol := h.blk.lt
  obtain ⟨wS, hwS⟩ : ∃ wS, (w.setCell ⟨o, 5, none⟩ (.slice A6 0 c6)).setCell ⟨o, 6, none⟩ (.slice none 0 0) = wS := ⟨_, rfl⟩
  have KS : Hid (Kept [o] w wS) := Lib.hid (by rw [← hwS]; exact ((Kept.refl [o] w).setIn (by simp) _).setIn (by simp) _)
  have hl6 := h.lo
  rw [hlo] at hl6
  have e0 : a.swap = a.lay 0 := by
    unfold PgA.swap PgA.lay
    rw [if_pos hf0, hlo]
    rfl
  have HS0 : Hid (RefP B wS o (a.lay 0) (.slice A6 0 c6) (.slice none 0 0) (.slice A7 a.po.length c7)) := Lib.hid (h.turn (by rw [← hwS, ← e0]; exact ((h.blk.set_ 5 _).set_ 6 _).cast (swap_cells a _ _ _ hf0)) KS.out hl6 (TolN.nil _ _) h.po)
  have AV0 : Hid (AvX X wS (.slice A6 0 c6) (.slice none 0 0) (.slice A7 a.po.length c7)) := Lib.hid (fun s hs => by
    obtain ⟨a1, a2, a3, a4⟩ := AV.out s hs
    exact ⟨Nat.lt_of_lt_of_le a1 KS.out.size, by rw [own_len _ _ a.lo.length c6 c6]; exact a3, by simp [own, Value.ownBlock], a4⟩)
  have HRD : Hid (a.lay a.moreN = a.ready) := Lib.hid (lay_more a hf0 hlo)
  have mN : a.moreN ≤ 4 ∧ a.made + a.moreN ≤ a.N := by unfold PgA.moreN; omega
  have mC : a.moreN = 4 ∨ (a.moreN < 4 ∧ a.made + a.moreN = a.N) := by unfold PgA.moreN; omega
  have s5 : wS.cell? ⟨o, 5, none⟩ = some (.slice A6 0 c6) := HS0.out.c5
  have olS := HS0.out.blk.lt
  clear h hu hf0 hlo hm hl6 e0
  go_enter Try.func34, Try.ntmps34
  go_wp2_with fail
  clear s5 olS hwS
  go_loopw [4] (fun m wr => ∃ (j : Nat) (u5 : Value), j ≤ a.moreN ∧ m = .int .i64 j ∧ Hid (RefP B wr o (a.lay j) u5 (.slice none 0 0) (.slice A7 a.po.length c7)) ∧ Hid (Kept [o] w wr) ∧ Hid (AvX X wr u5 (.slice none 0 0) (.slice A7 a.po.length c7))) (fun m _ => (4 - intOf m).toNat)
  case atStart => exact ⟨0, _, Nat.zero_le _, rfl, HS0, KS, AV0⟩
  case round =>
    obtain ⟨j, u5, hj, rfl, hP, hK, hA⟩ := hrel
    obtain ⟨A8, c8, hu5, _⟩ := hP.out.fr.len
    have hlj : ((a.lay j).fr).length = j := by simp [PgA.lay]
    rw [hlj] at hu5
    subst hu5
    have k0 : wr.cell? ⟨o, 0, none⟩ = some (.int .u64 (a.F : Int)) := hP.out.c0
    have k1 : wr.cell? ⟨o, 1, none⟩ = some (.int .u64 (a.Z : Int)) := hP.out.c1
    have k2 : wr.cell? ⟨o, 2, none⟩ = some (.int .i64 (a.N : Int)) := hP.out.c2
    have k3 : wr.cell? ⟨o, 3, none⟩ = some (.int .i64 ((a.made : Int) + (j : Int))) := by
      have := hP.out.c3
      simpa [PgA.lay] using this
    have olr := hP.out.blk.lt
    by_cases hjm : j < a.moreN
    · have d1 : decide ((j : Int) < 4) = true := by rw [decide_eq_true_iff]; omega
      have d2 : decide ((a.made : Int) + (j : Int) < (a.N : Int)) = true := by rw [decide_eq_true_iff]; omega
      have DB : Hid (∀ w, Calls Try.prog 59 #[.agg #[.int .u64 (a.F : Int), .int .u64 (a.Z : Int), .int .i64 (a.N : Int)], .int .i64 ((a.made : Int) + (j : Int))] w fun e w' => e = .returned (.tuple #[.int .u64 ((a.bl (a.made + j) : Nat) : Int), .int .i64 0]) ∧ Kept [] w w') := Lib.hid (fun w => by
        have := blk_at HM.out (i := a.made + j) (by omega) w
        simpa using this)
      have HFJ : Hid ((a.lay (j + 1)).fr = (a.lay j).fr ++ [a.bl (a.made + j)]) := Lib.hid (by
        show (List.range' a.made (j + 1)).map a.bl = (List.range' a.made j).map a.bl ++ _
        rw [List.range'_concat, List.map_append]; simp)
      have HLJ := Lib.hid hlj
      generalize a.bl (a.made + j) = x at *
      clear hlj
      go_wp2_with fail
      refine wp_region_kept (by kernel_rfl) (by kernel_rfl) ?_
      intro TT FF hne hFF hcl
      have q_c0 := fun x => (hFF x).at_ olr k3
      have q_c1 := fun x => (hFF x).at_ olr k2
      repeat (first | go_big_quiet_step (fail) | quiet_step (fail))
      refine wpQuiet_nil ?_
      rintro w2 ⟨x, hx⟩
      have hb2 := hFF x
      rw [← hx] at hb2
      clear hx x hne hFF hcl q_c0 q_c1
      have hs2 := hb2.size
      (try simp only [World.size_alloc, World.size_setCell, World.size_drew, size_drewN] at hs2)
      have H2 := Lib.hid (hP.out.keep0 hb2)
      have K2 := Lib.hid (hb2.mono (T := [o]) (fun x hx _ => by cases hx))
      have q0 : w2.cell? ⟨o, 0, none⟩ = some (.int .u64 (a.F : Int)) := H2.out.c0
      have q1 : w2.cell? ⟨o, 1, none⟩ = some (.int .u64 (a.Z : Int)) := H2.out.c1
      have q2 : w2.cell? ⟨o, 2, none⟩ = some (.int .i64 (a.N : Int)) := H2.out.c2
      have q3 : w2.cell? ⟨o, 3, none⟩ = some (.int .i64 ((a.made : Int) + (j : Int))) := hb2.at_ olr k3
      have ol2 := H2.out.blk.lt
      clear hb2 k0 k1 k2 k3 olr
      go_wp2_with fail
      refine wp_region_kept (by kernel_rfl) (by kernel_rfl) ?_
      intro TT FF hne hFF hcl
      have q_c0 := fun x => (hFF x).at_ ol2 q0
      have q_c1 := fun x => (hFF x).at_ ol2 q1
      have q_c2 := fun x => (hFF x).at_ ol2 q2
      have q_c3 := fun x => (hFF x).at_ ol2 q3
      repeat (first | go_big_quiet_step ((first | (go_at_call 59; (with_reducible refine kept_call hcl (DB.out _))))) | quiet_step ((first | (go_at_call 59; (with_reducible refine kept_call hcl (DB.out _))))))
      refine wpQuiet_nil ?_
      rintro w3 ⟨x, hx⟩
      have hb3 := hFF x
      rw [← hx] at hb3
      clear hx x hne hFF hcl q_c0 q_c1 q_c2 q_c3
      have hs3 := hb3.size
      (try simp only [World.size_alloc, World.size_setCell, World.size_drew, size_drewN] at hs3)
      have H3 := Lib.hid (H2.out.keep0 hb3)
      have K3 := Lib.hid (hb3.mono (T := [o]) (fun x hx _ => by cases hx))
      have p5 : w3.cell? ⟨o, 5, none⟩ = some (.slice A8 j c8) := H3.out.c5
      have p3 : w3.cell? ⟨o, 3, none⟩ = some (.int .i64 ((a.made : Int) + (j : Int))) := hb3.at_ ol2 q3
      have ol3 := H3.out.blk.lt
      clear hb3 q0 q1 q2 q3 ol2
      have T0 : Hid (TolN B w3 (.slice A8 j c8) (a.lay j).fr) := Lib.hid (H3.out.fr)
      have hwm : IntKind.i64.wrap ((a.made : Int) + (j : Int) + 1) = (a.made : Int) + (j : Int) + 1 := IntWalk.i64_in _ (by omega)
      go_wp2_with (first
        | (refine app_tolN rfl (.tmp 59) (.tmp 63) rfl w3.heap.size (.slice (some ⟨w3.heap.size, 0, none⟩) 0 0) [] (a.lay j).fr rfl (tol_made _ (Blk.new w3 _ _) (Nat.le_refl _)) B A8 j c8 rfl HLJ.out.symm (T0.out.keep0 ((Kept.refl [] w3).alloc _)) (by simp) (by rw [HLJ.out]; simp; omega) ?_; intro A9 c9 w9 T9 hk9 own9; have K9 : Kept [] w3 w9 := ((Kept.refl [] w3).alloc (.cells #[] 26)).trans hk9 (fun y hy hl => by (simp [own, Value.ownBlock] at hy; omega)); have KK9 := Lib.hid K9; have TT9 : Hid (TolN w3.heap.size w9 (.slice A9 j c9) (a.lay j).fr) := Lib.hid (by rw [HLJ.out] at T9; simpa using T9); have G9 : Hid (∀ g, g ∈ own (.slice A9 j c9) → w3.heap.size ≤ g) := Lib.hid (fun g hg => by rcases own9 g (by rw [own_len _ _ j c9 c9]; exact hg) with h | h <;> (simp [own, Value.ownBlock] at h; omega)); rw [HLJ.out]; clear T9 hk9 own9 K9)
        | (refine app_tol1 (w0 := w9) rfl (.tmp 64) (.tmp 66) rfl w3.heap.size (.slice A9 j c9) (a.lay j).fr x rfl (TT9.out.keep0 ((Kept.refl [] w9).alloc _)) w9.heap.size _ _ rfl rfl (by have := KK9.out.size; simp; omega) (Blk.new w9 _ _) (by rw [HLJ.out]; omega) ?_; intro A10 c10 w10 T10 hk10 own10; have K10 : Kept [] w3 w10 := Kept.trans (S := []) (KK9.out.alloc (.cells #[.int .u64 (x : Int)] 26)) hk10 (fun y hy hl => by have := G9.out y hy; omega); have KK10 := Lib.hid K10; have TT10 := Lib.hid T10; have OW10 : Hid (∀ g, g ∈ own (.slice A10 ((a.lay j).fr.length + 1) c10) → w3.heap.size ≤ g) := Lib.hid (fun g hg => by rcases own10 g hg with h | h; exact G9.out g h; (have := KK9.out.size; simp at h; omega)); have H10 := Lib.hid (H3.out.keep0 K10); have r5 : w10.cell? ⟨o, 5, none⟩ = some (.slice A8 j c8) := H10.out.c5; have r3 : w10.cell? ⟨o, 3, none⟩ = some (.int .i64 ((a.made : Int) + (j : Int))) := K10.at_ ol3 p3; have h5 := H10.out.blk.frozen 5; have h3 := H10.out.blk.frozen 3; have ol10 := H10.out.blk.lt; clear T10 hk10 own10 K10))
      have KS : Kept [o] w10 ((w10.setCell ⟨o, 5, none⟩ (.slice A10 ((a.lay j).fr.length + 1) c10)).setCell ⟨o, 3, none⟩ (.int .i64 ((a.made : Int) + (j : Int) + 1))) := ((Kept.refl [o] w10).setIn (by simp) _).setIn (by simp) _
      have HN : Hid (RefP B ((w10.setCell ⟨o, 5, none⟩ (.slice A10 ((a.lay j).fr.length + 1) c10)).setCell ⟨o, 3, none⟩ (.int .i64 ((a.made : Int) + (j : Int) + 1))) o (a.lay (j + 1)) (.slice A10 ((a.lay j).fr.length + 1) c10) (.slice none 0 0) (.slice A7 a.po.length c7)) := Lib.hid (H10.out.turn (((H10.out.blk.set_ 5 (.slice A10 ((a.lay j).fr.length + 1) c10)).set_ 3 (.int .i64 ((a.made : Int) + (j : Int) + 1))).cast (lay_cells a j _ _ _ _)) KS (by rw [HFJ.out]; exact TolN.less TT10.out (by have := H3.out.Bw; omega)) (TolN.nil _ _) H10.out.po)
      have KN : Hid (Kept [o] w ((w10.setCell ⟨o, 5, none⟩ (.slice A10 ((a.lay j).fr.length + 1) c10)).setCell ⟨o, 3, none⟩ (.int .i64 ((a.made : Int) + (j : Int) + 1)))) := Lib.hid ((((hK.out.trans K2.out (fun x hx _ => hx)).trans K3.out (fun x hx _ => hx)).trans (KK10.out.mono (S := []) (T := [o]) (fun x hx _ => by cases hx)) (fun x hx _ => hx)).trans KS (fun x hx _ => hx))
      have AN : Hid (AvX X ((w10.setCell ⟨o, 5, none⟩ (.slice A10 ((a.lay j).fr.length + 1) c10)).setCell ⟨o, 3, none⟩ (.int .i64 ((a.made : Int) + (j : Int) + 1))) (.slice A10 ((a.lay j).fr.length + 1) c10) (.slice none 0 0) (.slice A7 a.po.length c7)) := Lib.hid (fun s hs => by
        obtain ⟨a1, a2, a3, a4⟩ := hA.out s hs
        have h1 := K2.out.size
        have h2 := K3.out.size
        have h3 := KK10.out.size
        have h4 := KS.size
        exact ⟨by omega, fun h => by have := OW10.out s h; omega, a3, a4⟩)
      go_roundw
      case rel => first | exact ⟨j + 1, _, by omega, by go_num, HN, KN, AN⟩ | ((repeat apply Exists.intro); exact ⟨⟨j + 1, _, by omega, by go_num, HN, KN, AN⟩, rfl⟩)
      case measure => simp [intOf]; omega
    · obtain rfl : j = a.moreN := by omega
      have HP0 : Hid (RefP B wr o a.ready (.slice A8 a.moreN c8) (.slice none 0 0) (.slice A7 a.po.length c7)) := Lib.hid (by rw [← HRD.out]; exact hP.out)
      have HFL : Hid (a.ready.fr.length = a.moreN) := Lib.hid (by rw [← HRD.out]; exact hlj)
      have HUS : Hid (a.ready.us.length ≤ 1024 ∧ a.ready.po.length ≤ 1024) := Lib.hid (by
        obtain ⟨_, _, _, _, _, h6, h7⟩ := ready_all a
        rw [h6, h7]; exact HLEN.out)
      have d0 : (decide ((a.moreN : Int) < 4) = false) ∨ (decide ((a.moreN : Int) < 4) = true ∧ decide ((a.made : Int) + (a.moreN : Int) < (a.N : Int)) = false) := by
        rcases mC with h | ⟨h1, h2⟩
        · left; rw [decide_eq_false_iff_not]; omega
        · right; rw [decide_eq_true_iff, decide_eq_false_iff_not]; omega
      clear k0 k1 hlj
      rcases hfr : a.ready.fr with _ | ⟨x, r⟩
      · have m0 : a.moreN = 0 := by have := HFL.out; rw [hfr] at this; simpa using this.symm
        have qz : (((a.moreN : Int) == 0) : Bool) = true := by rw [m0]; rfl
        have HFR := Lib.hid hfr
        clear hfr m0
        rcases d0 with hd | ⟨hd, hd'⟩
        all_goals
          go_wp2_with fail
          refine wp_region_kept (by kernel_rfl) (by kernel_rfl) ?_
          intro TT FF hne hFF hcl
          have q_c0 := fun x => (hFF x).at_ olr k3
          have q_c1 := fun x => (hFF x).at_ olr k2
          repeat (first | go_big_quiet_step (fail) | quiet_step (fail))
          refine wpQuiet_nil ?_
          rintro w2 ⟨x, hx⟩
          have hb2 := hFF x
          rw [← hx] at hb2
          clear hx x hne hFF hcl q_c0 q_c1
          have hs2 := hb2.size
          (try simp only [World.size_alloc, World.size_setCell, World.size_drew, size_drewN] at hs2)
          have H2 := Lib.hid (HP0.out.keep0 hb2)
          have K2 := Lib.hid (hb2.mono (T := [o]) (fun x hx _ => by cases hx))
          have q5 : w2.cell? ⟨o, 5, none⟩ = some (.slice A8 a.moreN c8) := H2.out.c5
          have ol2 := H2.out.blk.lt
          clear hb2
          go_wp2_with fail
          (first | go_ret2 | go_ret)
          exact ⟨.inl ⟨HFR.out, rfl, ⟨_, _, _, H2.out, hA.out.mono K2.out.size⟩⟩, hK.out.trans K2.out (fun x hx _ => hx)⟩
      · have HFR : Hid (a.ready.fr = x :: r) := Lib.hid hfr
        have hm1 : r.length + 1 = a.moreN := by have := HFL.out; rw [hfr] at this; simpa using this
        have HRL : Hid (r.length ≤ 1024) := Lib.hid (by omega)
        clear hfr hm1
        rcases d0 with hd | ⟨hd, hd'⟩
        all_goals
          go_wp2_with fail
          refine wp_region_kept (by kernel_rfl) (by kernel_rfl) ?_
          intro TT FF hne hFF hcl
          have q_c0 := fun x => (hFF x).at_ olr k3
          have q_c1 := fun x => (hFF x).at_ olr k2
          repeat (first | go_big_quiet_step (fail) | quiet_step (fail))
          refine wpQuiet_nil ?_
          rintro w2 ⟨x, hx⟩
          have hb2 := hFF x
          rw [← hx] at hb2
          clear hx x hne hFF hcl q_c0 q_c1
          have hs2 := hb2.size
          (try simp only [World.size_alloc, World.size_setCell, World.size_drew, size_drewN] at hs2)
          have KW := Lib.hid (hK.out.trans hb2 (fun x hx _ => by cases hx))
          obtain ⟨v5, hv5e⟩ : ∃ v5, v5 = Value.slice A8 a.moreN c8 := ⟨_, rfl⟩
          have HS : Hid (RefP B w2 o a.ready v5 (.slice none 0 0) (.slice A7 a.po.length c7)) := Lib.hid (by rw [hv5e]; exact HP0.out.keep0 hb2)
          have HV5 := Lib.hid hv5e
          have AVW : Hid (AvX X w2 v5 (.slice none 0 0) (.slice A7 a.po.length c7)) := Lib.hid (by rw [hv5e]; exact hA.out.mono hb2.size)
          clear hb2 k3 k2 olr hv5e
          obtain ⟨gv, ov, cv, hv5, gvB, gvl, nv, mv, fv⟩ := TolN.first (show TolN B w2 v5 (x :: r) by have := HS.out.fr; rwa [HFR.out] at this)
          obtain ⟨A', c', hv', hov, hrun⟩ := TolN.tail (show TolN B w2 v5 (x :: r) by have := HS.out.fr; rwa [HFR.out] at this)
          have V' := Lib.hid hv'
          have HU : Hid ((a.ready).us.length ≤ 1024 ∧ (a.ready).po.length ≤ 1024) := Lib.hid (HUS.out)
          have z4 := HS.out.c4
          have z5 := HS.out.c5
          have f4 := HS.out.blk.frozen 4
          have f5 := HS.out.blk.frozen 5
          have olx := HS.out.blk.lt
          have rl : r.length ≤ 1000000 := by have := HRL.out; omega
          have ql : (((r.length : Int) + 1 == 0) : Bool) = false := by rw [beq_eq_false_iff_ne]; omega
          have ql2 : (((r.length + 1 : Nat) : Int) == 0) = false := by rw [beq_eq_false_iff_ne]; omega
          have hwu : IntKind.i64.wrap (((a.ready).po.length : Int) + ((a.ready).us.length : Int) + 1) = ((a.ready).po.length : Int) + ((a.ready).us.length : Int) + 1 := IntWalk.i64_in _ (by have := HU.out; omega)
          have HOV := Lib.hid hov
          have hv5' := HV5.out
          rw [hv5] at hv5'
          injection hv5' with e1 e2 e3
          subst e1 e3
          subst hv5
          clear e2
          have hrun' := hrun
          clear hrun hv' hov
          go_wp2_with fail
          (first | go_ret2 | go_ret)
          have K2 : Kept [o] w2 ((w2.setCell ⟨o, 5, none⟩ (.slice A' r.length c')).setCell ⟨o, 4, none⟩ (.int .i64 (((a.ready).po.length : Int) + ((a.ready).us.length : Int) + 1))) := ((Kept.refl [o] w2).setIn (by simp) _).setIn (by simp) _
          exact ⟨.inr ⟨x, r, HFR.out, rfl, ⟨_, _, _, HS.out.turn (b := a.ready.taken x r) (((HS.out.blk.set_ 5 (.slice A' r.length c')).set_ 4 (.int .i64 ((a.ready.po.length : Int) + (a.ready.us.length : Int) + 1))).cast (taken_cells a.ready x r _ _ _ _)) K2 V'.out HS.out.lo HS.out.po, fun s hs => by have h1 := AVW.out s hs; have h2 := K2.size; exact ⟨by omega, by rw [HOV.out]; exact h1.2.1, h1.2.2⟩⟩⟩, KW.out.trans K2 (fun x hx _ => hx)⟩
end Go.Proofs.Ytgiokigokedakaa
