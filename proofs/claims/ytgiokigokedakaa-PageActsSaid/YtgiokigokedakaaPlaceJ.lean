/- Join: a list that lies within a block. PRINTED BY mkplace.py. -/
import Derived.Test.YtgiokigokedakaaPlaceA
import Derived.Test.YtgiokigokedakaaJoin
set_option linter.unusedVariables false
set_option linter.unusedSimpArgs false
namespace Go.Proofs.Ytgiokigokedakaa
open Go.RowKit
attribute [local go_sem ↓] Go.wp_at_zero Go.wp_at_succ
theorem eqIn_ptrAt (w : World) (d a o b : Nat) (h : a ≠ b) {ca cb : Array Value} {ta tb : TypeId} (ha : Blk w a ta ca) (hb : Blk w b tb cb) : (Op.equalIn (d + 1) 102 (.pointer (some ⟨a, o, none⟩)) (.pointer (some ⟨b, 0, none⟩))).run Try.prog w = .ok false w := by
  simp [Op.equalIn, run_underlying Try.underlying102, run_sameAddr_other (P := Try.prog) (w := w) (a := ⟨a, o, none⟩) (b := ⟨b, 0, none⟩) (by simp [h]) ha hb]
theorem eql_ptrAt (w : World) (a o b : Nat) (h : a ≠ b) {ca cb : Array Value} {ta tb : TypeId} (ha : Blk w a ta ca) (hb : Blk w b tb cb) : (binOp .eql 102 (.pointer (some ⟨a, o, none⟩)) (.pointer (some ⟨b, 0, none⟩))).run Try.prog w = .ok (.bool false) w := by
  have h1 : (Op.equal 102 (.pointer (some ⟨a, o, none⟩)) (.pointer (some ⟨b, 0, none⟩))).run Try.prog w = .ok false w := eqIn_ptrAt w 9999 a o b h ha hb
  simp only [binOp]
  simp [h1]
set_option maxRecDepth 100000 in
set_option maxHeartbeats 4000000 in
theorem join_nilAt (w : World) (b o bo p g : Nat) (t : TypeId) (cs : Array Value) (zs : List Int) (hd n : Int) (hM : MemB w p g zs) (hl : LAt w b o t cs hd n) (hlo : ListB w bo 0 0) (hne : b ≠ bo) :
    Calls Try.prog 46 #[.pointer (some ⟨b, o, none⟩), .pointer (some ⟨p, 0, none⟩), .pointer (some ⟨bo, 0, none⟩)] w fun e w' => e = .returned (.int .i64 0) ∧ ListB w' bo 0 0 ∧ Kept [bo] w w' := by
  have DA : Hid (Calls Try.prog 52 #[.pointer (some ⟨bo, 0, none⟩), .pointer (some ⟨p, 0, none⟩)] w fun e w' => (∃ A c, e = .returned (.tuple #[.slice A 0 c, .int .i64 0])) ∧ Kept [] w w') := Lib.hid ((all_chn w bo p g zs 0 [] hM hlo rfl (Nat.zero_le _)).mono fun e w' h => ⟨by obtain ⟨A, c, h1, _⟩ := h.1; exact ⟨A, c, h1⟩, h.2⟩)
  have HLO := Lib.hid hlo
  have hbp : (b == bo) = false := by simp [hne]
  have hdb : decide (b = bo) = false := by simp [hne]
  have hpt := eql_ptrAt w b o bo hne hl.blk hlo
  clear hM hl hlo
  go_enter Try.func46, Try.ntmps46
  go_wp2_with fail
  (with_reducible refine DA.out.mono ?_)
  rintro e w1 ⟨⟨A, c, rfl⟩, hb1⟩
  have B1 := Lib.hid (HLO.out.keep0 hb1)
  have d0 := Blk.cell B1.out 0
  have d1 := Blk.cell B1.out 1
  have e0 := Blk.frozen B1.out 0
  have e1 := Blk.frozen B1.out 1
  have dl := Blk.lt B1.out
  go_wp2_with fail
  go_ret
  exact ⟨rfl, ((Blk.set_ B1.out 0 _).set' rfl), ((Kept.mono hb1 (fun _ h _ => by cases h)).setIn (by simp) _).setIn (by simp) _⟩
set_option maxRecDepth 100000 in
set_option maxHeartbeats 4000000 in
theorem join_at (w : World) (b o bo p g : Nat) (t : TypeId) (cs : Array Value) (ht1 : t ≠ 111) (ht2 : t ≠ 5) (zs : List Int) (hd ho a : Nat) (n : Int) (P : List Nat) (hM : MemB w p g zs) (hl : LAt w b o t cs hd n) (hlo : ListB w bo ho ((P ++ [a]).length : Int)) (hne : b ≠ bo) (hc : Chn zs ho (P ++ [a])) (hd64 : (hd : Int) < 18446744073709551616) (hn : 0 ≤ n ∧ n ≤ 1000000000) (hlen : (P ++ [a]).length ≤ zs.length) :
    Calls Try.prog 46 #[.pointer (some ⟨b, o, none⟩), .pointer (some ⟨p, 0, none⟩), .pointer (some ⟨bo, 0, none⟩)] w fun e w' => e = .returned (.int .i64 0) ∧ MemB w' p g (splice zs a (bytesOf 8 (hd : Int))) ∧ Blk w' b t (put2 cs o (ho : Int) (n + ((P ++ [a]).length : Int))) ∧ ListB w' bo 0 0 ∧ Kept [b, bo, g] w w' := by
  obtain ⟨N, hN⟩ : ∃ N : Nat, P.length = N := ⟨_, rfl⟩
  obtain ⟨N1, hNl⟩ : ∃ N1 : Nat, (P ++ [a]).length = N1 := ⟨_, rfl⟩
  have hN1 : N1 = N + 1 := by rw [← hNl]; simp [hN]
  have hq1 : (N1 : Int) - 1 = (N : Int) := by omega
  have ha8 := (hc.len a (by simp)).2
  have hzl := hM.2.2.1
  have hgl := hM.2.1.lt
  have DA : Hid (Calls Try.prog 52 #[.pointer (some ⟨bo, 0, none⟩), .pointer (some ⟨p, 0, none⟩)] w fun e w' => (∃ x c, e = .returned (.tuple #[.slice (some x) N1 c, .int .i64 0]) ∧ ∀ w'', Kept [g] w' w'' → w''.cell? (x.add N) = some (.int .u64 (a : Int))) ∧ Kept [] w w') := Lib.hid ((all_chn w bo p g zs ho _ hM hlo hc hlen).mono fun e w' h => ⟨by
    obtain ⟨A, c, h1, h2, _⟩ := h.1
    obtain ⟨x, rfl, _, _⟩ := h2.row (by simp)
    rw [hNl] at h1
    refine ⟨x, c, h1, fun w'' hk => ?_⟩
    obtain ⟨x', hx', _, hcc⟩ := (h2.keepS hk (fun s hs => by simp at hs; omega)).row (by simp)
    cases hx'
    have := hcc N (by simp [hN])
    rw [getD_map, ← hN, List.getElem?_append_right (Nat.le_refl _)] at this
    simpa [hN] using this, h.2⟩)
  have HM := Lib.hid hM
  have HL := Lib.hid hl
  have HLO := Lib.hid hlo
  have HC := Lib.hid hc
  have HNE := Lib.hid hne
  have HLM := Lib.hid (show b ≠ p ∧ b ≠ g from ⟨hl.blk.ne_ hM.1 ht1, hl.blk.ne_ hM.2.1 ht2⟩)
  have HLOM := Lib.hid (hlo.ne hM)
  have hpt := eql_ptrAt w b o bo hne hl.blk hlo
  have q0 : (0 : Int) ≤ (N : Int) := by omega
  have q1 : (N : Int) < (N1 : Int) := by omega
  have q2 : 0 < N1 := by omega
  have q6 : N < N1 := by omega
  have hwr : IntKind.i64.wrap (N : Int) = (N : Int) := by rw [IntKind.wrap_i64]; omega
  have q4 : (0 : Int) ≤ (N1 : Int) - 1 := by omega
  have q5 : (N1 : Int) - 1 < (N1 : Int) := by omega
  have q7 : N1 ≤ 1048576 := by omega
  have HN1 := Lib.hid hN1
  rw [hNl] at hlo ⊢
  have HLO := Lib.hid hlo
  clear hM hl hlo hc hlen hN1 hN hNl
  go_enter Try.func46, Try.ntmps46
  go_wp2_with fail
  (with_reducible refine DA.out.mono ?_)
  rintro e w1 ⟨⟨x, c, rfl, hxx⟩, hb1⟩
  have HX := Lib.hid hxx
  have hx := hxx w1 (Kept.refl _ _)
  clear hxx
  have L1 := Lib.hid (HL.out.keep0 hb1)
  have O1 := Lib.hid (HLO.out.keep0 hb1)
  have M1 := Lib.hid (HM.out.keep0 hb1)
  have d0 := (L1.out).cell0
  have dl := (L1.out).blk.lt
  have xl := cell_lt hx
  have DS : Hid (Calls Try.prog 22 #[.pointer (some ⟨p, 0, none⟩), .int .u64 (a : Int), .int .i64 8, .int .u64 (hd : Int)] w1.drew fun e w' => e = .returned (.int .i64 0) ∧ MemB w' p g (splice zs a (bytesOf 8 (hd : Int))) ∧ Kept [g] w1 w') := Lib.hid ((store_8 w1.drew p g zs M1.out a hd ha8 (by omega) (by rw [pow64]; omega)).mono fun e w' h => ⟨h.1, h.2.1, h.2.2.thenS ((Kept.refl [g] w1).drew)⟩)
  go_wp2_with fail
  go_region_held3 (fun w' => w'.cell? ⟨b, o, none⟩ = some (.int .u64 (hd : Int)) ∧ w'.cell? (x.add N) = some (.int .u64 (a : Int))) (first | go_keep | exact ⟨d0, hx⟩ | exact ⟨(L1.out.keep hb2 (by have := HLM.out.2; simp; omega)).cell0, HX.out _ hb2⟩) ((go_at_call 22; refine DS.out.mono ?_; rintro e w2 ⟨rfl, hM2, hb2⟩))
  have M2 := Lib.hid hM2
  have L2 : Hid (LAt w2 b o t cs (hd : Int) n) := Lib.hid (L1.out.keep hb2 (by have := HLM.out.2; simp; omega))
  have O2 : Hid (ListB w2 bo (ho : Int) (N1 : Int)) := Lib.hid (Blk.keep O1.out hb2 (by have := HLOM.out.2; simp; omega))
  have g0 := (L2.out).cell0
  have g1 := (L2.out).cell1
  have f0 := (L2.out).frozen0
  have f1 := (L2.out).frozen1
  have k0 := Blk.cell O2.out 0
  have k1 := Blk.cell O2.out 1
  have j0 := Blk.frozen O2.out 0
  have j1 := Blk.frozen O2.out 1
  have gl := (L2.out).blk.lt
  have kl := Blk.lt O2.out
  have hne1 := HNE.out
  clear hM2
  go_wp2_with fail
  go_region
  go_wp2_with fail
  go_ret
  have n1 := HLM.out
  have n2 := HLOM.out
  refine ⟨rfl, ?_, ?_, ?_, ?_⟩
  · refine MemB.keep0 ?_ (Kept.drew (Kept.refl [] _))
    exact ((((M2.out.far (by simp; omega) (by simp; omega) _).far (by simp; omega) (by simp; omega) _).far (by simp; omega) (by simp; omega) _).far (by simp; omega) (by simp; omega) _)
  · refine Blk.drew ?_
    refine Blk.far ?_ (by simpa using hne1) _
    refine Blk.far ?_ (by simpa using hne1) _
    exact (Blk.set_ (Blk.set_ L2.out.blk o _) (o + 1) _).cast rfl
  · refine Blk.drew ?_
    refine (Blk.set_ (Blk.set_ (Blk.far (Blk.far O2.out ?_ _) ?_ _) 0 _) 1 _).cast rfl
    · simpa using hne1.symm
    · simpa using hne1.symm
  · refine Kept.drew ?_
    refine Kept.setIn (Kept.setIn (Kept.setIn (Kept.setIn ?_ ?_ _) ?_ _) ?_ _) ?_ _
    · exact Kept.trans (T := [g]) (Kept.mono (T := [b, bo, g]) hb1 (fun _ h _ => by cases h)) hb2 (fun y hy _ => by simp at hy ⊢; right; right; exact hy)
    all_goals simp
end Go.Proofs.Ytgiokigokedakaa
