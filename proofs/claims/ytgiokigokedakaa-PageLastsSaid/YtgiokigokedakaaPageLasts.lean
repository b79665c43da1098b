/- What users write into used blocks stays, whatever is freed, posted and gathered beside them. No condition. -/
import Derived.Test.YtgiokigokedakaaPgLast
import Derived.Test.YtgiokigokedakaaActs3
import Derived.Deep.RegionHeld3
import Derived.Deep.DeepCutAuto
import Derived.Deep.CutBlock
import Derived.StillTailTactics
import Derived.Deep.DrawnRows
import Derived.RegionTactic
set_option linter.unusedVariables false
set_option linter.unusedSimpArgs false
namespace Go.Proofs.Ytgiokigokedakaa
open Go.RowKit
namespace PageLasts
open Go.RowKit Go.ChangeShapes Go.WideShapes Go.ChangeAt Go.Joins
theorem own_cnil {B : Nat} {k : IntKind} {e : TypeId} {w : World} {A : Option Addr} {n c : Nat} {zs : List Int} (h : OwnI B k e w (.slice A n c) zs) : A = none → c = 0 := by
  obtain ⟨A', c', e1, h1, _⟩ := h.slice
  injection e1 with e1 e2 e3
  subst e1 e3
  exact h1
set_option maxRecDepth 100000 in
set_option maxHeartbeats 8000000 in
theorem walk (x0 : Int) (a1 : Option Addr) (len1 cap1 : Nat) (z1 : Nat → Act3) (W : World) (w0 : (Lit.int .u8 x0).wf = true) (w1 : IsActs W a1 len1 cap1 z1) :
    Calls Try.prog 7 #[.int .u8 x0, .slice a1 len1 cap1] W fun e W' => e = .returned (.bool true) ∧ Below W.heap.size W W' := by
  have bx := bounds_u8 w0
  obtain ⟨Z, hZ⟩ : ∃ Z : Nat, (Z : Int) = 16 * (x0 % 16 + 1) := ⟨(16 * (x0 % 16 + 1)).toNat, by omega⟩
  have hmm := @run_makeMap Try.prog
  have C1 := Lib.hid (alive_any W)
  have C2 := Lib.hid (fun w => made_any w x0 30 bx (by omega) Z 31 hZ (by omega))
  have hZ256 : 16 ≤ Z ∧ Z ≤ 256 := by omega
  have HZ8 : Hid (Z % 8 = 0) := Lib.hid (by omega)
  have HI := Lib.hid w1
  have hl47 : (len1 : Int) ≤ 9223372036854775807 := by
    have := w1.cap
    unfold maxLen at this
    omega
  clear w0 w1 hZ
  go_enter Try.func7, Try.ntmps7
  go_wp2_with fail
  (with_reducible refine (C1.out).mono ?_)
  rintro e w1 ⟨rfl, hb1⟩
  have hs1 := hb1.size
  (try simp only [World.size_alloc, World.size_setCell, World.size_drew, size_drewN] at hs1)
  go_wp2_with fail
  (with_reducible refine (C2.out _).mono ?_)
  rintro e w2 ⟨p, mp, g, rfl, hP2⟩
  have HB1 := Lib.hid hb1
  have P2 := Lib.hid hP2
  clear hb1 hP2
  by_cases hq : len1 ≤ 100
  case neg =>
    have q0 : decide (100 < (len1 : Int)) = true := by simp; omega
    go_wp2_with fail
    go_ret
    exact ⟨rfl, (((P2.out.kept.then_ HB1.out)).alloc _).below⟩
  have q0 : (len1 : Int) ≤ 100 := by omega
  have q1 : decide (100 < (len1 : Int)) = false := by simp; omega
  obtain ⟨wm, hwm⟩ : ∃ wm, (w2.alloc (.cells #[.int .u64 1024, .int .u64 (Z : Int), .int .i64 31] 28)).alloc (.map #[] 0) = wm := ⟨_, rfl⟩
  obtain ⟨zs0, hPz⟩ := PgZ.ofX (show PgX w1 wm p mp g (PgA.new 1024 Z 31) by rw [← hwm]; exact P2.out.keep0 (((Kept.refl [] w2).alloc _).alloc _))
  have hms : wm.heap.size = w2.heap.size + 1 + 1 := by rw [← hwm]; simp
  have R0 : Blk wm w2.heap.size 28 #[.int .u64 1024, .int .u64 (Z : Int), .int .i64 31] := by rw [← hwm]; exact (Blk.new w2 _ _).alloc _
  have M0 : MapU wm (w2.heap.size + 1) 0 (fun _ => none) := by
    rw [← hwm]
    have := MapU.made (w2.alloc (.cells #[.int .u64 1024, .int .u64 (Z : Int), .int .i64 31] 28))
    simpa using this
  have P3 := Lib.hid hPz
  have HR0 := Lib.hid R0
  have HM0 := Lib.hid M0
  obtain ⟨B, hB⟩ : ∃ B, wm.heap.size = B := ⟨_, rfl⟩
  obtain ⟨rb, hrb⟩ : ∃ rb, w2.heap.size = rb := ⟨_, rfl⟩
  obtain ⟨mb, hmb⟩ : ∃ mb, rb + 1 = mb := ⟨_, rfl⟩
  have hlt := P2.out.lt
  have HB : Hid (p < rb ∧ mp < rb ∧ g < rb ∧ rb < mb ∧ mb < B ∧ w1.heap.size ≤ rb) := Lib.hid (by have := P2.out.kept.size; omega)
  have HWM : Hid (B ≤ wm.heap.size) := Lib.hid (by omega)
  rw [hrb] at HR0 HM0
  rw [hmb] at HM0
  clear hPz R0 M0 hms hlt hB P2
  go_wp2_with fail
  clear hwm hrb hmb
  go_loopw [51, 10] (fun m v wr => ∃ (k : Nat) (a : PgA) (U : List Nat) (f : Int → Option Int) (zs : List Int) (n : Nat), k ≤ len1 ∧ m = .int .i64 k ∧ Hid (PgZ w1 wr p mp g a zs) ∧ Hid (Sl Z k a U f zs) ∧ Hid (OwnI B .u64 26 wr v (toI U)) ∧ Hid (MapU wr mb n f) ∧ n ≤ k ∧ Hid (Blk wr rb 28 #[.int .u64 1024, .int .u64 (Z : Int), .int .i64 31]) ∧ Hid (B ≤ wr.heap.size)) (fun m _ _ => (len1 - intOf m).toNat)
  case atStart => exact ⟨0, _, [], _, zs0, 0, Nat.zero_le _, rfl, P3, Lib.hid (Sl.new Z zs0), Lib.hid (OwnI.nil _ _ _ _), HM0, Nat.le_refl _, HR0, HWM⟩
  case round =>
    obtain ⟨k, a, U, f, zs, n, hk, rfl, hP, hS, hO, hM, hn, hR, hsz⟩ := hrel
    by_cases hi : k < len1
    case neg =>
      obtain rfl : k = len1 := by omega
      have K := Lib.hid (hP.out.kept.then_ HB1.out)
      go_wp2_with fail
      go_ret
      exact ⟨rfl, K.out.below⟩
    obtain ⟨xa, rfl, hxl, hxc, y0, y1, y2⟩ := HI.out.get hi
    obtain ⟨z0, z1', z2'⟩ := hxc wr (hP.out.kept.then_ HB1.out)
    have zl : xa.block < wr.heap.size := Nat.lt_of_lt_of_le hxl (hP.out.kept.then_ HB1.out).size
    have di : decide ((k : Int) < (len1 : Int)) = true := by simp; omega
    have dk : (0 : Int) ≤ (k : Int) := by omega
    clear hxc
    go_upto_block 2 with fail
    have hlen := hS.out.few hP.out.ok
    go_cut [51, 10] (fun s51 s10 wx => s51 = .int .i64 k ∧ ∃ (a : PgA) (U : List Nat) (f : Int → Option Int) (zs : List Int) (n : Nat), Hid (PgZ w1 wx p mp g a zs) ∧ Hid (Sl Z (k + 1) a U f zs) ∧ Hid (OwnI B .u64 26 wx s10 (toI U)) ∧ Hid (MapU wx mb n f) ∧ n ≤ k + 1 ∧ Hid (Blk wx rb 28 #[.int .u64 1024, .int .u64 (Z : Int), .int .i64 31]) ∧ Hid (B ≤ wx.heap.size))
    case first =>
      have tg := hS.out.tg
      have ak := hS.out.ak
      have eZ := hS.out.eZ
      generalize (z1 k).k = kk at *
      generalize (z1 k).n = nn at *
      generalize (z1 k).a = aa at *
      obtain ⟨wq, hwq⟩ : ∃ wq, wr.alloc (.cells #[.int .i64 kk, .int .i64 nn, .int .u64 aa] 62) = wq := ⟨_, rfl⟩
      have KA : Hid (Kept [] wr wq) := Lib.hid (by rw [← hwq]; exact (Kept.refl [] wr).alloc _)
      have BA : Hid (Blk wq wr.heap.size 62 #[.int .i64 kk, .int .i64 nn, .int .u64 aa]) := Lib.hid (by rw [← hwq]; exact Blk.new _ _ _)
      have PA := Lib.hid (hP.out.keep0 KA.out)
      have OA := Lib.hid (hO.out.kept KA.out)
      have MA := Lib.hid (hM.out.keep KA.out (by simp))
      have RA := Lib.hid (hR.out.keep0 KA.out)
      have SA : Hid (B ≤ wq.heap.size) := Lib.hid (by have h1 := KA.out.size; have h2 := hsz.out; omega)
      have HWQ := Lib.hid hwq
      have OK := Lib.hid hP.out.ok
      clear hwq
      rw [HWQ.out]
      have b0 := BA.out.cell 0
      have b1 := BA.out.cell 1
      have bl := BA.out.lt
      have NXT : Hid (∀ w', Kept [p, g] wq w' → OwnI B .u64 26 w' u10 (toI U) ∧ MapU w' mb n f ∧ Blk w' rb 28 #[.int .u64 1024, .int .u64 (Z : Int), .int .i64 31] ∧ B ≤ w'.heap.size) := Lib.hid (fun w' hk => ⟨OA.out.keepS hk (fun s hs => by have := HB.out; simp at hs; omega), MA.out.keep hk (by have := HB.out; simp; omega), RA.out.keep hk (by have := HB.out; simp; omega), by have h1 := SA.out; have h2 := hk.size; omega⟩)
      have hcase : kk = 4 ∨ ((1 ≤ kk ∧ kk ≤ 3) ∧ U ≠ []) ∨ kk = 0 ∨ (kk ≠ 4 ∧ kk ≠ 0 ∧ ((kk < 1 ∨ 3 < kk) ∨ U = [])) := by
        by_cases hu : U = []
        · simp [hu]; omega
        · simp [hu]; omega
      rcases hcase with hkk | ⟨hkk, hu⟩ | hkk | ⟨hk4, hk0, hno⟩
      · as_aux_lemma =>
          have DG := Lib.hid (z_gather PA.out (by omega) (by omega))
          have e4 : ((kk == 4) : Bool) = true := by rw [hkk]; simp
          clear hkk
          go_wp2_with fail
          (with_reducible refine DG.out.mono ?_)
          rintro e w4 ⟨rfl, ⟨z, hP4, hr4⟩, hk4⟩
          obtain ⟨O4, M4, R4, S4⟩ := NXT.out w4 hk4
          have P4 := Lib.hid hP4
          have S' := Lib.hid (hS.out.gath OK.out hr4)
          have O4h := Lib.hid O4
          have M4h := Lib.hid M4
          have R4h := Lib.hid R4
          have S4h := Lib.hid S4
          clear hP4 hk4 hr4 O4 M4 R4 S4
          go_wp2_with fail
          go_meet
          exact ⟨rfl, _, _, _, _, _, P4, S', O4h, M4h, by omega, R4h, S4h⟩
      · as_aux_lemma =>
          obtain ⟨hk1, hk3⟩ := hkk
          have U0 : 0 < U.length := List.length_pos_iff.2 hu
          have e4 : ((kk == 4) : Bool) = false := by rw [beq_eq_false_iff_ne]; omega
          have g1 : decide (1 ≤ kk) = true := by rw [decide_eq_true_iff]; omega
          have g2 : decide (kk ≤ 3) = true := by rw [decide_eq_true_iff]; omega
          have g3 : decide ((0 : Int) < (U.length : Int)) = true := by rw [decide_eq_true_iff]; omega
          have n0 : ((U.length : Int) == 0) = false := by rw [beq_eq_false_iff_ne]; omega
          have n1 : ¬ ((U.length : Int) = 0) := by omega
          obtain ⟨m, hm⟩ : ∃ m, Int.tmod nn (U.length : Int) = m := ⟨_, rfl⟩
          obtain ⟨q, hqm, hqU⟩ : ∃ q : Nat, max 0 m = (q : Int) ∧ q < U.length := by
            have h1 : m < (U.length : Int) := by rw [← hm]; exact Int.tmod_lt_of_pos nn (by omega)
            exact ⟨(max 0 m).toNat, by omega, by omega⟩
          obtain ⟨A, c, hv, hA0, hrow, _⟩ := hO.out.slice
          rw [toI_len] at hv
          subst hv
          obtain ⟨xb, hxb, hxb1, hxc⟩ := hrow (by rw [toI_len]; omega)
          subst hxb
          have c1 := hxc q (by rw [toI_len]; exact hqU)
          rw [toI_get hqU] at c1
          have cq : wq.cell? (xb.add q) = some (.int .u64 ((U[q]?.getD 0 : Nat) : Int)) := (World.cell?_of_block (by rw [add_block]; exact KA.out.block xb.block hxb1 (by simp))).trans c1
          have cql : xb.block < wq.heap.size := Nat.lt_of_lt_of_le hxb1 KA.out.size
          obtain ⟨y, hy⟩ : ∃ y, U[q]?.getD 0 = y := ⟨_, rfl⟩
          rw [hy] at cq
          have HY := Lib.hid hy
          have hyU : y ∈ U := by rw [← hy, List.getElem?_eq_getElem hqU]; exact List.getElem_mem hqU
          have hyus := hS.out.mem hyU
          have hy64 : y < 1048576 := by have h1 := OK.out.mem_us hyus; have h2 := hP.out.lens; omega
          have hwf : (Lit.int .u64 (y : Int)).wf = true := WalkArith.wf_u64 (by omega)
          have hqm' : q < (toI U).length := by rw [toI_len]; exact hqU
          obtain ⟨⟨hT5, hA0', hr3⟩, _⟩ := own_cuts encU_k 31 26 Try.underlying31 (fun w => by simp [go_sem]) (ownU.1 OA.out) q (by omega)
          obtain ⟨_, A2, c2', hD5, hc2, hr2'⟩ := own_cuts encU_k 31 26 Try.underlying31 (fun w => by simp [go_sem]) (ownU.1 OA.out) (q + 1) hqm'
          have hr2 : ∀ w, (Instr.slice 31 (.slice (some xb) U.length c) (some (.int .i64 ((q : Int) + 1))) none none).run Try.prog w = .ok (.slice A2 (U.length - (q + 1)) c2') w := fun w => hr2' w
          have HN1 : Hid (U.length - (q + 1) = ((toI U).drop (q + 1)).length) := Lib.hid (by simp [toI])
          have HN2 : Hid (q = ((toI U).take q).length) := Lib.hid (by simp; omega)
          have HE : Hid ((toI U).take q ++ (toI U).drop (q + 1) = toI (U.eraseIdx q)) := Lib.hid (by rw [toI_take, toI_drop, ← toI_app, List.eraseIdx_eq_take_drop_succ])
          have HT5 := Lib.hid hT5
          have HD5 := Lib.hid hD5
          have HU := Lib.hid hu
          obtain ⟨i0, hi', hz0, hz1, hz2⟩ := info_parts info_u64
          have hI := Lib.hid hi'
          have hZ0 := Lib.hid hz0
          have hw1 : IntKind.i64.wrap ((q : Int) + 1) = (q : Int) + 1 := IntWalk.i64_in _ (by omega)
          have q1' : (0 : Int) ≤ (q : Int) := by omega
          have q2 : (q : Int) < (U.length : Int) := by omega
          have q2' : (q : Int) ≤ (U.length : Int) := by omega
          have q3 : (0 : Int) ≤ (q : Int) + 1 := by omega
          have q4 : (q : Int) + 1 ≤ (U.length : Int) := by omega
          have HYU := Lib.hid hyus
          have HQ : Hid (q < U.length) := Lib.hid hqU
          clear hi' hz0 hT5 hD5 hr2' hA0' hy hyU hyus hrow hxc c1 hu
          go_upto_region 16 with fail
          go_cut [51, 10, 11, 12, 15] (fun s51 s10 s11 s12 s15 wx => s51 = .int .i64 k ∧ s10 = .slice (some xb) U.length c ∧ s11 = .int .i64 k ∧ s12 = .pointer (some ⟨wr.heap.size, 0, none⟩) ∧ s15 = .int .i64 q ∧ wx = wq)
          case first =>
            rcases (show 0 < m ∨ m ≤ 0 by omega) with hm0 | hm0
            · obtain rfl : m = (q : Int) := by omega
              clear hqm
              go_wp2_with fail
              go_meet
              exact ⟨rfl, rfl, rfl, rfl, rfl, rfl⟩
            · obtain rfl : q = 0 := by omega
              clear hqm
              go_wp2_with fail
              go_meet
              exact ⟨rfl, rfl, rfl, rfl, rfl, rfl⟩
          case rest =>
            obtain ⟨rfl, rfl, rfl, rfl, rfl, rfl⟩ := hcut
            clear hqm n0 n1 hm
            go_wp2_with fail
            go_region_held3 (fun _ => True) (trivial) (first | (refine step_app_S encU_k 31 26 i0 _ 8 Try.underlying31 hI.out hZ0.out hz1 hz2 rfl (by omega) (by rfl) (.tmp 91) (.tmp 94) (by rfl) wc wc.heap.size _ [] ((toI U).take q) (by rfl) (OwnS.drew (OwnS.made _ (by simp) (by simp))) _ _ _ HN2.out (by rfl) hA0 (HT5.out.keep (by (repeat' (first | (with_reducible exact Kept.refl _ _) | (with_reducible assumption) | (with_reducible refine Kept.then_ (by with_reducible assumption) ?_) | (with_reducible refine Kept.thenS (by with_reducible assumption) ?_) | (with_reducible refine Kept.alloc ?_ _) | (with_reducible refine Kept.drew ?_) | (with_reducible refine Kept.drewN ?_ _) | (with_reducible refine Kept.setNew ?_ ?_ _) | ((try simp only [World.size_alloc, World.size_setCell, World.size_drew, size_drewN] at *); (try dsimp only); omega))))) (by (repeat' (first | (with_reducible exact Kept.refl _ _) | (with_reducible assumption) | (with_reducible refine Kept.then_ (by with_reducible assumption) ?_) | (with_reducible refine Kept.thenS (by with_reducible assumption) ?_) | (with_reducible refine Kept.alloc ?_ _) | (with_reducible refine Kept.drew ?_) | (with_reducible refine Kept.drewN ?_ _) | (with_reducible refine Kept.setNew ?_ ?_ _) | ((try simp only [World.size_alloc, World.size_setCell, World.size_drew, size_drewN] at *); (try dsimp only); omega)))) (Nat.le_refl _) (by simp only [World.size_alloc, World.size_drew]; omega) (by have := HN2.out; simp only [List.length_nil]; omega) ?_; intro A6 n6 c6 w6 hn6 own6 hk6 ho6 hs6) | (refine step_app_S encU_k 31 26 i0 _ 8 Try.underlying31 hI.out hZ0.out hz1 hz2 rfl (by omega) (by rfl) (.tmp 95) (.tmp 99) (by rfl) wc wc.heap.size _ ([] ++ (toI U).take q) ((toI U).drop (q + 1)) (by rfl) own6 _ _ _ HN1.out (by rfl) hc2 (HD5.out.keep (by (repeat' (first | (with_reducible exact Kept.refl _ _) | (with_reducible assumption) | (with_reducible refine Kept.then_ (by with_reducible assumption) ?_) | (with_reducible refine Kept.thenS (by with_reducible assumption) ?_) | (with_reducible refine Kept.alloc ?_ _) | (with_reducible refine Kept.drew ?_) | (with_reducible refine Kept.drewN ?_ _) | (with_reducible refine Kept.setNew ?_ ?_ _) | ((try simp only [World.size_alloc, World.size_setCell, World.size_drew, size_drewN] at *); (try dsimp only); omega))))) (by (repeat' (first | (with_reducible exact Kept.refl _ _) | (with_reducible assumption) | (with_reducible refine Kept.then_ (by with_reducible assumption) ?_) | (with_reducible refine Kept.thenS (by with_reducible assumption) ?_) | (with_reducible refine Kept.alloc ?_ _) | (with_reducible refine Kept.drew ?_) | (with_reducible refine Kept.drewN ?_ _) | (with_reducible refine Kept.setNew ?_ ?_ _) | ((try simp only [World.size_alloc, World.size_setCell, World.size_drew, size_drewN] at *); (try dsimp only); omega)))) (Nat.le_refl _) (by have := hk6.size; omega) (by have := HN1.out; have := HN2.out; simp only [List.nil_append]; omega) ?_; intro A7 n7 c7 w7 hn7 own7 hk7 ho7 hs7))
            have O7 : Hid (OwnI B .u64 26 w7 (.slice A7 n7 c7) (toI (U.eraseIdx q))) := Lib.hid (OwnI.less (by rw [← HE.out]; exact ownU.2 own7) SA.out)
            have K7 := Lib.hid hk7
            have P7 := Lib.hid (PA.out.keep0 hk7)
            have M7 := Lib.hid (MA.out.keep hk7 (by simp))
            have R7 := Lib.hid (RA.out.keep0 hk7)
            have A7' := Lib.hid (BA.out.keep0 hk7)
            have hbnd : Hid (wr.heap.size ≠ mb ∧ wr.heap.size ≠ p ∧ wr.heap.size ≠ g) := Lib.hid (by have h1 := hsz.out; have h2 := HB.out; omega)
            clear own6 own7 hk6 hk7 ho6 ho7 hs6 hs7 hn6 hn7 b0 b1 bl cq cql
            by_cases hkk1 : kk = 1
            · have e1 : ((kk == 1) : Bool) = true := by rw [hkk1]; simp
              clear hkk1
              go_wp2_with (first | (at_delete; refine mapU_del rfl _ _ rfl mb n f rfl M7.out (y : Int) rfl hwf ?_; intro w8 M8 hk8; have A8 := A7'.out.keep hk8 (by have := hbnd.out; simp; omega); have b8 := A8.cell 0; have l8 := A8.lt) | fail)
              have M8h := Lib.hid M8
              have K8 := Lib.hid hk8
              have P8 := Lib.hid (P7.out.keepN hk8 (show p < mb ∧ mp < mb ∧ g < mb by have := HB.out; omega) (fun s hs => by simp at hs; omega) (by have := HB.out; omega))
              have O8 := Lib.hid (O7.out.keepS hk8 (fun s hs => by have := HB.out; simp at hs; omega))
              have R8 := Lib.hid (R7.out.keep hk8 (by have := HB.out; simp; omega))
              have S8 : Hid (B ≤ w8.heap.size) := Lib.hid (by have h1 := hk8.size; have h2 := K7.out.size; have h3 := SA.out; omega)
              clear M8 hk8 A8
              have DF := Lib.hid (z_free1 (P8.out.keep0 ((Kept.refl [] w8).alloc (.cells #[.int .u64 (y : Int)] 26))) y w8.heap.size 1 HYU.out (Blk.new w8 _ _))
              clear b8 l8
              (with_reducible refine DF.out.mono ?_)
              rintro e w9 ⟨rfl, ⟨z, hP9, hr9⟩, hk9⟩
              have P9 := Lib.hid hP9
              have S' := Lib.hid (hS.out.free OK.out HQ.out HY.out hr9)
              have K9 : Hid (Kept [p, g] w8 w9) := Lib.hid (((Kept.refl [p, g] w8).alloc (.cells #[.int .u64 (y : Int)] 26)).trans hk9 (fun y hy _ => hy))
              have O9 := Lib.hid (O8.out.keepS K9.out (fun s hs => by have := HB.out; simp at hs; omega))
              have M9 := Lib.hid (M8h.out.keep K9.out (by have := HB.out; simp; omega))
              have R9 := Lib.hid (R8.out.keep K9.out (by have := HB.out; simp; omega))
              have S9 : Hid (B ≤ w9.heap.size) := Lib.hid (by have h1 := K9.out.size; have h2 := S8.out; omega)
              clear hP9 hr9 hk9
              go_wp2_with fail
              go_meet
              exact ⟨rfl, _, _, _, _, _, P9, S', O9, M9, by omega, R9, S9⟩
            · have e1 : ((kk == 1) : Bool) = false := by rw [beq_eq_false_iff_ne]; exact hkk1
              clear hkk1
              go_wp2_with (first | (at_delete; refine mapU_del rfl _ _ rfl mb n f rfl M7.out (y : Int) rfl hwf ?_; intro w8 M8 hk8; have A8 := A7'.out.keep hk8 (by have := hbnd.out; simp; omega); have b8 := A8.cell 0; have l8 := A8.lt) | fail)
              have M8h := Lib.hid M8
              have K8 := Lib.hid hk8
              have P8 := Lib.hid (P7.out.keepN hk8 (show p < mb ∧ mp < mb ∧ g < mb by have := HB.out; omega) (fun s hs => by simp at hs; omega) (by have := HB.out; omega))
              have O8 := Lib.hid (O7.out.keepS hk8 (fun s hs => by have := HB.out; simp at hs; omega))
              have R8 := Lib.hid (R7.out.keep hk8 (by have := HB.out; simp; omega))
              have S8 : Hid (B ≤ w8.heap.size) := Lib.hid (by have h1 := hk8.size; have h2 := K7.out.size; have h3 := SA.out; omega)
              clear M8 hk8 A8
              have DC := Lib.hid (x_cell P8.out.x)
              have DL := Lib.hid (fun w z hd (h : PgZH w1 w p mp g a z hd) => z_look h (show a.ask ≤ 1000000000 by omega))
              have DP : Hid (∀ w z hd, PgZH w1 w p mp g a.late z hd → Calls Try.prog 20 #[.pointer (some ⟨p, 0, none⟩), .int .u64 (y : Int), .int .u64 (hd : Int), .int .u64 (a.tag : Int)] w fun e w' => e = .returned (.tuple #[.bool true, .int .i64 0]) ∧ Left w1 w p mp g (a.late.post y) z [y] w') := Lib.hid (fun w z hd h => z_post h y HYU.out (show a.tag ≤ 1000000000 by omega) (show a.ask + 1 ≤ 1000000000 by omega))
              clear b8 l8
              (with_reducible refine DC.out.mono ?_)
              rintro e wa ⟨rfl, hka⟩
              obtain ⟨hd, hPh⟩ := (P8.out.keep0 hka).hd
              have Pa := Lib.hid hPh
              have Ka : Hid (Kept [p, g] w8 wa) := Lib.hid (hka.mono (fun x hx _ => by cases hx))
              clear hPh hka
              go_wp2_with fail
              (with_reducible refine (DL.out _ _ _ Pa.out).mono ?_)
              rintro e wb ⟨rfl, hPb, hkb⟩
              have Pb := Lib.hid hPb
              have Kb := Lib.hid (Ka.out.trans hkb (fun y hy _ => hy))
              clear hPb hkb
              go_wp2_with fail
              (with_reducible refine (DP.out _ _ _ Pb.out).mono ?_)
              rintro e w9 ⟨rfl, ⟨z, hP9, hr9⟩, hk9⟩
              have P9 := Lib.hid hP9
              have S' := Lib.hid (hS.out.post OK.out HQ.out HY.out hr9)
              have K9 : Hid (Kept [p, g] w8 w9) := Lib.hid (Kb.out.trans hk9 (fun y hy _ => hy))
              have O9 := Lib.hid (O8.out.keepS K9.out (fun s hs => by have := HB.out; simp at hs; omega))
              have M9 := Lib.hid (M8h.out.keep K9.out (by have := HB.out; simp; omega))
              have R9 := Lib.hid (R8.out.keep K9.out (by have := HB.out; simp; omega))
              have S9 : Hid (B ≤ w9.heap.size) := Lib.hid (by have h1 := K9.out.size; have h2 := S8.out; omega)
              clear hP9 hr9 hk9
              go_wp2_with fail
              go_meet
              exact ⟨rfl, _, _, _, _, _, P9, S', O9, M9, by omega, R9, S9⟩
      · as_aux_lemma =>
          obtain ⟨A, c, hv, _⟩ := hO.out.slice
          rw [toI_len] at hv
          subst hv
          have e4 : ((kk == 4) : Bool) = false := by rw [beq_eq_false_iff_ne]; omega
          have g1 : decide (1 ≤ kk) = false := by rw [decide_eq_false_iff_not]; omega
          have e0 : ((kk == 0) : Bool) = true := by rw [hkk]; simp
          clear hkk
          rcases hfr : a.ready.fr with _ | ⟨x, r⟩
          · have DA := Lib.hid (z_full PA.out hfr)
            go_wp2_with fail
            (with_reducible refine DA.out.mono ?_)
            rintro e w4 ⟨rfl, ⟨z, hP4, hr4⟩, hk4⟩
            obtain ⟨O4, M4, R4, S4⟩ := NXT.out w4 hk4
            have P4 := Lib.hid hP4
            have S' := Lib.hid (hS.out.full OK.out hr4)
            have O4h := Lib.hid O4
            have M4h := Lib.hid M4
            have R4h := Lib.hid R4
            have S4h := Lib.hid S4
            clear hP4 hk4 hr4 O4 M4 R4 S4 hfr
            go_wp2_with fail
            go_meet
            exact ⟨rfl, _, _, _, _, _, P4, S', O4h, M4h, by omega, R4h, S4h⟩
          · have DA := Lib.hid (z_alloc PA.out x r hfr)
            have HFR := Lib.hid hfr
            have hfn := hS.out.none_ OK.out hfr
            have HFN := Lib.hid hfn
            clear hfr hfn
            go_wp2_with fail
            (with_reducible refine DA.out.mono ?_)
            rintro e w4 ⟨rfl, ⟨z, hP4, hr4⟩, hk4⟩
            obtain ⟨O4, M4, R4, S4⟩ := NXT.out w4 hk4
            have P4 := Lib.hid hP4
            have HR4 := Lib.hid hr4
            have O4h := Lib.hid O4
            have M4h := Lib.hid M4
            have R4h := Lib.hid R4
            have S4h := Lib.hid S4
            have hxu : x ∈ (a.ready.taken x r).us := by show x ∈ x :: a.ready.us; simp
            have hx64 : x < 1048576 := by have h1 := hP4.ok.mem_us hxu; have h2 := hP4.lens; omega
            have hxZ : x + Z ≤ z.length ∧ (a.ready.taken x r).Z = Z := by
              have e2 : (a.ready.taken x r).Z = Z := (ready_all a).2.1.trans eZ
              obtain ⟨i, hi', e⟩ := hP4.ok.mem_all (x := x) (by simp [hxu])
              have h1 := hP4.ok.bl_lt (i := i) (by have := hP4.ok.made; omega)
              rw [e2, ← e] at h1
              exact ⟨h1.2, e2⟩
            have hwf : (Lit.int .u64 (x : Int)).wf = true := WalkArith.wf_u64 (by omega)
            have hwk : (Lit.int .u8 (k : Int)).wf = true := WalkArith.wf_u8 (by omega)
            have wk : IntKind.u8.wrap (k : Int) = (k : Int) := by rw [IntKind.wrap_u8]; omega
            have DFl : Hid (∀ y c, Blk (w4.alloc (.cells #[.int .u8 (k : Int)] 5)) y 5 #[.int .u8 (k : Int)] → y ≠ g → Calls Try.prog 24 #[.pointer (some ⟨mp, 0, none⟩), .int .u64 (x : Int), .int .u64 (Z : Int), .slice (some ⟨y, 0, none⟩) 1 c] (w4.alloc (.cells #[.int .u8 (k : Int)] 5)) fun e w' => e = .returned (.int .i64 0) ∧ (∃ z2, PgZ w1 w' p mp g (a.ready.taken x r) z2 ∧ Rest (words x Z) z z2 ∧ ∀ i, i < Z → z2[x + i]? = some (k : Int)) ∧ Kept [g] (w4.alloc (.cells #[.int .u8 (k : Int)] 5)) w') := Lib.hid (fun y c hy hyg => by
              have := z_fill (P4.out.keep0 ((Kept.refl [] w4).alloc (.cells #[.int .u8 (k : Int)] 5))) x y c hxu (k : Int) (by omega) (by rw [hxZ.2]; exact HZ8.out) (by rw [hxZ.2]; exact hxZ.1) hy hyg
              rwa [hxZ.2] at this)
            have r1 := R4h.out.cell 1
            have rl := R4h.out.lt
            have hgl : w4.heap.size ≠ g := by have h1 := S4h.out; have h2 := HB.out; omega
            have HOK4 := Lib.hid hP4.ok
            have HNG := Lib.hid hgl
            clear hP4 hk4 hr4 O4 M4 R4 S4 hxZ hxu hgl
            go_wp2_with (first | (at_lookup; refine mapU_no rfl _ _ rfl mb n f rfl M4h.out (x : Int) rfl hwf HFN.out ?_; intro cz) | fail)
            (with_reducible refine (DFl.out _ _ (Blk.new w4 _ _) HNG.out).mono ?_)
            rintro e w5 ⟨rfl, ⟨z2, hP5, hr5, hh5⟩, hk5⟩
            have K5 : Hid (Kept [p, g] w4 w5) := Lib.hid (((Kept.refl [p, g] w4).alloc (.cells #[.int .u8 (k : Int)] 5)).trans hk5 (fun y hy _ => by simp at hy; simp [hy]))
            have P5 := Lib.hid hP5
            have S' := Lib.hid (hS.out.alloc OK.out HFR.out HR4.out HOK4.out (k : Int) (by omega) hr5 hh5)
            have O5 := Lib.hid (O4h.out.keepS K5.out (fun s hs => by have := HB.out; simp at hs; omega))
            have M5 := Lib.hid (M4h.out.keep K5.out (by have := HB.out; simp; omega))
            have R5 := Lib.hid (R4h.out.keep K5.out (by have := HB.out; simp; omega))
            have S5 : Hid (B ≤ w5.heap.size) := Lib.hid (by have h1 := K5.out.size; have h2 := S4h.out; omega)
            clear hP5 hr5 hh5 hk5 r1 rl
            go_wp2_with (first
              | (refine mapU_put rfl _ _ _ rfl mb n f rfl M5.out (by omega) (x : Int) (k : Int) rfl hwf rfl hwk ?_; intro w6 M6 hk6; have M6h := Lib.hid M6; have K6 := Lib.hid hk6; have P6 := Lib.hid (P5.out.keepN hk6 (show p < mb ∧ mp < mb ∧ g < mb by have := HB.out; omega) (fun s hs => by simp at hs; omega) (by have := HB.out; omega)); have O6 := Lib.hid (O5.out.keepS hk6 (fun s hs => by have := HB.out; simp at hs; omega)); have S6 : Hid (B ≤ w6.heap.size) := Lib.hid (by have h1 := hk6.size; have h2 := S5.out; omega); have R6 := Lib.hid (R5.out.keep hk6 (by have := HB.out; simp; omega)); clear M6 hk6)
              | (refine app_gen .u64 31 26 8 Try.underlying31 info_u64 (by omega) rfl (.tmp 164) (.tmp 166) rfl w1 B _ (toI U) [(x : Int)] rfl (O6.out.kept ((Kept.refl [] w6).alloc _)) _ _ _ rfl rfl (fun h => by cases h) (rowI1 (Blk.new w6 _ _)) (P6.out.kept.alloc _) (by have := HB.out; omega) (by have h2 := S6.out; simp; omega) (by rw [toI_len]; simp; omega) ?_; intro A7 n7 c7 w7 hn7 own7 owo7 hk7 hg7 hs7 hc7 hr7))
            have K7 : Hid (Kept (ownI (.slice A U.length c)) w6 w7) := Lib.hid (((Kept.refl _ w6).alloc (.cells #[.int .u64 (x : Int)] 26)).trans (kept_ownI hg7) (fun y hy _ => hy))
            have hne : ∀ s, s ∈ ownI (.slice A U.length c) → B ≤ s := fun s hs => (own_in O6.out s hs).1
            have P7 := Lib.hid (P6.out.keepN K7.out (show p < B ∧ mp < B ∧ g < B by have := HB.out; omega) hne (by have := HB.out; omega))
            have M7 := Lib.hid (M6h.out.keep K7.out (fun h => by have := hne _ h; have := HB.out; omega))
            have R7 := Lib.hid (R6.out.keep K7.out (fun h => by have := hne _ h; have := HB.out; omega))
            have S7 : Hid (B ≤ w7.heap.size) := Lib.hid (by have h1 := K7.out.size; have h2 := S6.out; omega)
            have O7 : Hid (OwnI B .u64 26 w7 (.slice A7 n7 c7) (toI (U ++ [x]))) := Lib.hid (by rw [toI_app]; exact own7)
            clear own7 owo7 hk7 hg7 hs7 hc7 hr7 hn7 hne
            go_wp2_with fail
            go_meet
            exact ⟨rfl, _, _, _, _, _, P7, S', O7, M7, by omega, R7, S7⟩
      · as_aux_lemma =>
          have S' := Lib.hid hS.out.more
          obtain ⟨O4, M4, R4, S4⟩ := NXT.out _ (Kept.refl _ _)
          have O4h := Lib.hid O4
          have M4h := Lib.hid M4
          have R4h := Lib.hid R4
          have S4h := Lib.hid S4
          have e4 : ((kk == 4) : Bool) = false := by rw [beq_eq_false_iff_ne]; omega
          have e0 : ((kk == 0) : Bool) = false := by rw [beq_eq_false_iff_ne]; omega
          clear O4 M4 R4 S4
          rcases hno with hk13 | hu
          · rcases hk13 with hk1 | hk3
            · have g1 : decide (1 ≤ kk) = false := by rw [decide_eq_false_iff_not]; omega
              go_wp2_with fail
              go_meet
              exact ⟨rfl, _, _, _, _, _, PA, S', O4h, M4h, by omega, R4h, S4h⟩
            · have g1 : decide (1 ≤ kk) = true := by rw [decide_eq_true_iff]; omega
              have g2 : decide (kk ≤ 3) = false := by rw [decide_eq_false_iff_not]; omega
              go_wp2_with fail
              go_meet
              exact ⟨rfl, _, _, _, _, _, PA, S', O4h, M4h, by omega, R4h, S4h⟩
          · subst hu
            obtain ⟨A, c, hv, _⟩ := hO.out.slice
            simp only [toI, List.map_nil, List.length_nil] at hv
            subst hv
            by_cases hk1 : 1 ≤ kk
            · have g1 : decide (1 ≤ kk) = true := by rw [decide_eq_true_iff]; omega
              by_cases hk3 : kk ≤ 3
              · have g2 : decide (kk ≤ 3) = true := by rw [decide_eq_true_iff]; omega
                go_wp2_with fail
                go_meet
                exact ⟨rfl, _, _, _, _, _, PA, S', O4h, M4h, by omega, R4h, S4h⟩
              · have g2 : decide (kk ≤ 3) = false := by rw [decide_eq_false_iff_not]; omega
                go_wp2_with fail
                go_meet
                exact ⟨rfl, _, _, _, _, _, PA, S', O4h, M4h, by omega, R4h, S4h⟩
            · have g1 : decide (1 ≤ kk) = false := by rw [decide_eq_false_iff_not]; omega
              go_wp2_with fail
              go_meet
              exact ⟨rfl, _, _, _, _, _, PA, S', O4h, M4h, by omega, R4h, S4h⟩
    case rest =>
      as_aux_lemma =>
        clear hP hS hO hM hR hsz hlen y0 y1 y2 z0 z1' z2' zl hxl hn
        obtain ⟨rfl, a, U, f, zs, n, hP, hS, hO, hM, hn, hR, hsz⟩ := hcut
        obtain ⟨w5, hw5⟩ : ∃ w5, w5 = wc := ⟨_, rfl⟩
        subst hw5
        go_wp2_with (first | (at_range; refine mapU_range rfl _ rfl mb n f rfl hM.out ?_; intro w6 hrg hk6 hlt6) | fail)
        go_frame
        have RG := Lib.hid hrg
        have P6 := Lib.hid (hP.out.keep0 hk6)
        have O6 := Lib.hid (hO.out.kept hk6)
        have R6 := Lib.hid (hR.out.keep0 hk6)
        have S6 : Hid (B ≤ w5.heap.size ∧ w5.heap.size < w6.heap.size) := Lib.hid (by have h1 := hsz.out; omega)
        obtain ⟨rr, hrr⟩ : ∃ rr, w5.heap.size = rr := ⟨_, rfl⟩
        have HRR := Lib.hid hrr
        rw [hrr] at S6 RG
        rw [hrr]
        obtain ⟨wA, hwA⟩ : ∃ wA, wA = wr := ⟨_, rfl⟩
        subst hwA
        clear hrg hk6 hlt6 hrr
        go_loopw [25] (fun _ wr => Hid (RngU wr mb rr n f) ∧ Hid (Kept [rr] w6 wr)) (fun _ wr => wr.rangeLeft mb rr)
        case atStart => exact ⟨RG, Lib.hid (Kept.refl _ _)⟩
        case round =>
          obtain ⟨hrg, hK⟩ := hrel
          have hmb := HB.out
          have Pj := Lib.hid (P6.out.keepN hK.out (show p < rr ∧ mp < rr ∧ g < rr by have h1 := S6.out; omega) (fun s hs => by simp at hs; omega) (by have h1 := S6.out; omega))
          have Rj := Lib.hid (R6.out.keep hK.out (by have h1 := S6.out; simp; omega))
          clear hmb
          go_wp2_with (first | (at_next; refine mapU_next rfl _ rfl mb rr n f rfl hrg.out ?_ ?_) | fail)
          · intro hmap
            have Mj := Lib.hid hmap
            have Oj := Lib.hid (OwnI.keepN O6.out hK.out (fun s hs => .inr (fun hx => by
              simp at hs
              subst hs
              have h1 := HRR.out
              have h2 := (own_in hO.out s (by unfold ownI; rw [← hx]; simp)).2
              omega)))
            have sj : Hid (B ≤ wr.heap.size) := Lib.hid (by have h1 := hK.out.size; have h2 := S6.out; omega)
            clear hmap
            go_wp2_with fail
            go_roundw
            case rel => first | exact ⟨k + 1, a, U, f, zs, n, by omega, by go_num, Pj, hS, Oj, Mj, hn, Rj, sj⟩ | ((repeat apply Exists.intro); exact ⟨⟨k + 1, a, U, f, zs, n, by omega, by go_num, Pj, hS, Oj, Mj, hn, Rj, sj⟩, rfl⟩)
            case measure => simp [intOf]; omega
          · intro x c w7 hwx hwc hfx hrg7 hlt7 hk7 hen
            obtain ⟨xn, hxU, rfl⟩ := hS.out.f2 x c hfx
            obtain ⟨c', hc', hfx', hhas⟩ := hS.out.f1 xn hxU
            rw [hfx] at hfx'
            injection hfx' with hcc
            subst hcc
            have hxus := hS.out.mem hxU
            have hxZ : xn + Z ≤ zs.length := by
              obtain ⟨i, hi', e⟩ := hP.out.ok.mem_all (x := xn) (by simp [hxus])
              have h1 := hP.out.ok.bl_lt (i := i) (by have := hP.out.ok.made; omega)
              rw [hS.out.eZ, ← e] at h1
              exact h1.2
            have P7 := Lib.hid (Pj.out.keepN hk7 (show p < rr ∧ mp < rr ∧ g < rr by have h1 := S6.out; have h2 := HB.out; omega) (fun s hs => by simp at hs; omega) (by have h1 := S6.out; have h2 := HB.out; omega))
            have R7 := Lib.hid (Rj.out.keep hk7 (by have h1 := S6.out; have h2 := HB.out; simp; omega))
            have RG7 := Lib.hid hrg7
            have K7 := Lib.hid hk7
            have HLT := Lib.hid hlt7
            have HYS : Hid (((zs.drop xn).take Z).length = Z) := Lib.hid (by simp; omega)
            have HYC : Hid (∀ i, i < Z → ((zs.drop xn).take Z)[i]?.getD 0 = c) := Lib.hid (fun i hi' => by
              rw [List.getElem?_take_of_lt hi', List.getElem?_drop, hhas i hi']
              rfl)
            have DG := Lib.hid (z_get P7.out xn Z hxZ)
            generalize (zs.drop xn).take Z = ys at *
            have r1 := R7.out.cell 1
            have rl := R7.out.lt
            clear hxU hfx hxus hxZ hhas hrg7 hlt7 hk7
            go_wp2_with fail
            (with_reducible refine DG.out.mono ?_)
            rintro e w8 ⟨A8, c8, rfl, hO8, hk8⟩
            rw [HYS.out]
            have O8 := Lib.hid hO8
            have R8 := Lib.hid (R7.out.keep0 hk8)
            have r8 := R8.out.cell 1
            have rl8 := R8.out.lt
            obtain ⟨RG8, hleft⟩ := RG7.out.keep hk8 (by simp) (by simp)
            have RG8h := Lib.hid RG8
            have HLEFT := Lib.hid hleft
            have K8 : Hid (Kept [rr] w6 w8) := Lib.hid ((hK.out.trans K7.out (fun x hx _ => hx)).trans hk8 (fun x hx _ => by cases hx))
            have wz : IntKind.i64.wrap (Z : Int) = (Z : Int) := IntWalk.i64_in _ (by omega)
            have nz : (((Z : Int) != (Z : Int)) : Bool) = false := by simp
            have nc : ((c != c) : Bool) = false := by simp
            obtain ⟨xb, hxb, hxbl, hxbc⟩ := (OwnI.row (by rw [HYS.out] at O8; exact O8.out : OwnI w7.heap.size .u8 5 w8 (.slice A8 Z c8) ys)) (by rw [HYS.out]; omega)
            have HXB := Lib.hid hxbc
            subst hxb
            clear hO8 hk8 RG8 hleft r1 rl hen hxbc
            go_wp2_with fail
            go_loop [195] (fun v => ∃ j : Nat, j ≤ Z ∧ v = .int .i64 j) (fun v => (Z - intOf v).toNat)
            case atStart => exact ⟨0, Nat.zero_le _, rfl⟩
            case round =>
              obtain ⟨j, hj, rfl⟩ := hrel
              by_cases hjl : j < Z
              · have xc := HXB.out j (by rw [HYS.out]; exact hjl)
                rw [HYC.out j hjl] at xc
                have dj : decide ((j : Int) < (Z : Int)) = true := by simp; omega
                go_wp2_with fail
                go_round
                case rel => exact ⟨j + 1, by omega, by go_num⟩
                case measure => simp [intOf]; omega
              · obtain rfl : j = Z := by omega
                have dj : decide ((j : Int) < (j : Int)) = false := by simp
                go_wp2_with fail
                go_roundw
                case rel => first | exact ⟨RG8h, K8⟩ | ((repeat apply Exists.intro); exact ⟨⟨RG8h, K8⟩, rfl⟩)
                case measure => rw [HLEFT.out]; exact HLT.out
theorem own : ownKnob Try.prog.godebug = none := by kernel_rfl
theorem laidOut : laidOutB Try.prog = true := by kernel_rfl
set_option maxRecDepth 100000 in
theorem lifted (os : Os) (started : os.Started) (H : Type) (enc : TypeId × Value → H) :
    ReturnsInHanded {} Try.checked os 7 .any (Rows.pageLastsSpec.pre6 enc Try.prog Try.f7 Rows.pageLastsRow.domain false) (Rows.pageLastsSpec.post enc Try.prog Try.f7 false true false false) := by
  refine returnsInHanded_of_change (C := Try.checked) own started (by kernel_rfl) Try.func7
    (ChangeSpec.witness6 (enc := enc) (C := Try.checked) false ⟨#[], #[.int .u8 0, .slice none 0 0], []⟩ 8 (by kernel_rfl) (by kernel_rfl) (by kernel_rfl) (by kernel_rfl)) ?_
  intro W base args ds gs before hval0 hW hcnd _
  have hval : ∀ (j : Nat) t v, Try.f7.params[j]? = some t → args[j]? = some v → Value.okWide Try.prog W .any base t v := hval0
  have hW' := hW
  obtain ⟨p, q, hA0, hV, rfl, hfz, hnd⟩ := hW
  have hA : DataW.TrodAll enc Try.prog W 0 (fun _ => true) true Try.f7.params.toList args.toList ds p := hA0
  rw [Try.params7] at hA hval
  obtain ⟨v0, vs0, d0, ds0, p0, q0, hargs, rfl, rfl, h0, r0⟩ := trodAll_cons hA
  obtain ⟨v1, vs1, d1, ds1, p1, q1, rfl, rfl, rfl, h1, r1⟩ := trodAll_cons r0
  obtain ⟨rfl, rfl, rfl⟩ := trodAll_nil r1
  obtain rfl : args = #[v0, v1] := by cases args; simp_all
  obtain ⟨rfl, rfl⟩ := trodVars_none hV
  have k1 := h1
  have lt1 : ∀ x ∈ p1, x.block < W.heap.size := by obtain ⟨m, hm⟩ := k1; exact DataW.trod_lt m _ _ _ hm
  obtain ⟨a0, rfl, rfl, rfl, w0⟩ := open_int Try.underlying5 (hval 0 5 v0 rfl rfl) h0
  obtain ⟨a1, len1, cap1, rfl⟩ := okWide_slice Try.underlying59 (hval 1 59 v1 rfl rfl)
  obtain ⟨z1, w1⟩ := isT59_of h1
  clear hA0 hval0
  refine (walk a0 a1 len1 cap1 z1 W w0 w1).mono fun e W' ⟨he, bel⟩ => ?_
  subst he
  exact ⟨_, rfl, _, _, _, [], _, [], hW', trodAll_mk1 (shut_bool Try.underlying4 _), (trodAll_cons_mk (shut_int Try.underlying5 w0) (trodAll_cons_mk (Below.trod laidOut (by kernel_rfl) (of_decide_eq_true (by kernel_rfl)) k1 bel lt1) trodAll_mk0)), rfl, bel.frame _, fun h => by cases h⟩
theorem over : Rows.pageLastsRow.holds Try.pinned (OpenSpec.ofChange Rows.pageLastsSpec) :=
  OpenClaim.holds_of_wide 7 Try.f7 rfl rfl rfl rfl rfl rfl rfl ⟨rfl, rfl, rfl, rfl, rfl⟩ rfl rfl rfl rfl rfl (by kernel_rfl) Try.func7 (by kernel_rfl)
    (of_decide_eq_true (by kernel_rfl)) (by unfold Func.isWrapper; first | (rw [if_pos (by decide +kernel)]; kernel_rfl) | (rw [if_neg (by decide +kernel)]; exact ⟨rfl, rfl⟩))
    (fun os started H enc _ => lifted os started H enc)
theorem proved : Rows.PageLastsSaid := over
#print axioms proved
end PageLasts
end Go.Proofs.Ytgiokigokedakaa
