/- Each block comes once, till all are used; freed, all come again. No condition. -/
import Derived.Test.YtgiokigokedakaaPgLaw
import Derived.Deep.RegionHeld3
import Derived.StillTailTactics
import Derived.Deep.DrawnRows
import Derived.RegionTactic
set_option linter.unusedVariables false
set_option linter.unusedSimpArgs false
namespace Go.Proofs.Ytgiokigokedakaa
open Go.RowKit
namespace PageFills
open Go.RowKit Go.ChangeShapes Go.WideShapes Go.ChangeAt Go.Joins
theorem ready_po (a : PgA) : a.ready.po = a.po := by
  unfold PgA.ready PgA.swap
  repeat' split
  all_goals rfl
theorem ready_lo (a : PgA) (h : Next a []) : a.ready.lo = [] := by
  have hl : a.lo = [] := by rcases h.2 with ⟨_, h2⟩ | ⟨_, h2⟩ <;> exact h2
  unfold PgA.ready PgA.swap
  repeat' split
  all_goals first | rfl | exact hl
theorem ready_N (a : PgA) : a.ready.N = a.N := by
  unfold PgA.ready PgA.swap
  repeat' split
  all_goals rfl
set_option maxRecDepth 100000 in
set_option maxHeartbeats 4000000 in
theorem walk (x0 x1 x2 : Int) (W : World) (w0 : (Lit.int .u8 x0).wf = true) (w1 : (Lit.int .u8 x1).wf = true) (w2 : (Lit.int .u8 x2).wf = true) :
    Calls Try.prog 4 #[.int .u8 x0, .int .u8 x1, .int .u8 x2] W fun e W' => e = .returned (.bool true) ∧ Below W.heap.size W W' := by
  have bx := bounds_u8 w0
  have by' := bounds_u8 w1
  have bz := bounds_u8 w2
  obtain ⟨Z, hZ⟩ : ∃ Z : Nat, (Z : Int) = 16 * (x0 % 16 + 1) := ⟨(16 * (x0 % 16 + 1)).toNat, by omega⟩
  obtain ⟨N, hN⟩ : ∃ N : Nat, (N : Int) = x1 % 60 + 1 := ⟨(x1 % 60 + 1).toNat, by omega⟩
  have hmm := @run_makeMap Try.prog
  have C1 := Lib.hid (alive_any W)
  have C2 := Lib.hid (fun w => made_any w x0 x1 bx by' Z N hZ hN)
  have hN60 : 1 ≤ N ∧ N ≤ 60 := by omega
  have hZ256 : 1 ≤ Z ∧ Z ≤ 256 := by omega
  clear w0 w1 w2 hZ hN
  go_enter Try.func4, Try.ntmps4
  go_wp2_with fail
  (with_reducible refine (C1.out).mono ?_)
  rintro e w1 ⟨rfl, hb1⟩
  have hs1 := hb1.size
  (try simp only [World.size_alloc, World.size_setCell, World.size_drew, size_drewN] at hs1)
  go_wp2_with fail
  (with_reducible refine (C2.out _).mono ?_)
  rintro e w2 ⟨p, mp, g, rfl, hP2⟩
  have HB1 := Lib.hid hb1
  obtain ⟨wm, hwm⟩ : ∃ wm, w2.alloc (.cells #[.int .u64 1024, .int .u64 (Z : Int), .int .i64 (N : Int)] 28) = wm := ⟨_, rfl⟩
  have hlt := hP2.lt
  have hP3 : PgX w1 wm p mp g (PgA.new 1024 Z N) := by rw [← hwm]; exact hP2.keep0 ((Kept.refl [] w2).alloc _)
  have hms : wm.heap.size = w2.heap.size + 1 := by rw [← hwm]; simp
  have B9 : Blk wm w2.heap.size 28 #[.int .u64 1024, .int .u64 (Z : Int), .int .i64 (N : Int)] := by rw [← hwm]; exact Blk.new _ _ _
  have hl9 : w2.heap.size < wm.heap.size := B9.lt
  have h9 : w2.heap.size ∉ [p, g] := by
    obtain ⟨h1, h2⟩ := hP3.blk B9 (by decide) (by decide)
    simp; exact ⟨fun h => h1 h, fun h => h2 h⟩
  have H9 := Lib.hid h9
  have b9 := B9.cell
  have HB9 := Lib.hid B9
  have hB : p < wm.heap.size ∧ mp < wm.heap.size ∧ g < wm.heap.size := by omega
  have P3 := Lib.hid hP3
  have HB := Lib.hid hB
  have hW1 := hP3.kept.size
  have FN := Lib.hid (Fsh.new 1024 Z N)
  have hNn : (0 : Int) < (N : Int) := by omega
  obtain ⟨bl, hbl⟩ : ∃ bl : Nat → Nat, bl = fun k => 1024 + k * Z := ⟨_, rfl⟩
  have HBL := Lib.hid hbl
  clear hbl hP2 hP3 hlt hms B9 h9
  have b0 := b9 0
  have b1 := b9 1
  have b2 := b9 2
  clear b9
  go_wp2_with fail
  clear b0 b1 b2 hwm
  generalize w2.heap.size = b at *
  go_loopw [11, 39] (fun u v wr => ∃ (i : Nat) (a : PgA), i ≤ N ∧ v = .int .i64 i ∧ Hid (PgX w1 wr p mp g a) ∧ Hid (Fsh 1024 Z N a i) ∧ Hid (OwnI wm.heap.size .u64 26 wr u (toI ((List.range i).map bl))) ∧ Hid (Blk wr b 28 #[.int .u64 1024, .int .u64 (Z : Int), .int .i64 (N : Int)]) ∧ wm.heap.size ≤ wr.heap.size) (fun _ v _ => (N - intOf v).toNat)
  case atStart => exact ⟨0, _, Nat.zero_le _, rfl, P3, FN, Lib.hid (OwnI.nil _ _ _ _), HB9, Nat.le_refl _⟩
  case round =>
    obtain ⟨i, a, hin, rfl, hP, hF, hO, hB9, hsz⟩ := hrel
    have hlr := hP.out.lt
    by_cases hi : i < N
    · obtain ⟨r, hrd, hF'⟩ := hF.out.step hi
      have DA := Lib.hid (x_alloc hP.out _ r hrd)
      have HF' := Lib.hid hF'
      have DI := Lib.hid (fun w => index_bl Z N i hZ256 hN60.2 hi _ rfl w)
      have HE : Hid (toI ((List.range (i + 1)).map bl) = toI ((List.range i).map bl) ++ [((1024 + i * Z : Nat) : Int)]) := Lib.hid (by rw [List.range_succ, List.map_append, toI_app, HBL.out]; rfl)
      have hlen : (toI ((List.range i).map bl)).length = i := by simp [toI]
      have HLEN := Lib.hid hlen
      have HU : Hid (((a.ready.taken (1024 + i * Z) r).po.length : Int) + ((a.ready.taken (1024 + i * Z) r).us.length : Int) = (i : Int) + 1) := Lib.hid (by rw [hF'.po, hF'.us]; simp)
      generalize 1024 + i * Z = x at *
      have di : decide ((i : Int) < (N : Int)) = true := by simp; omega
      clear hrd hF' hlen
      go_wp2_with fail
      (with_reducible refine DA.out.mono ?_)
      rintro e w4 ⟨rfl, hP4, hk4⟩
      have P4 := Lib.hid hP4
      have hs4 := hk4.size
      have hkw := hP4.kept
      have O4 := Lib.hid (hO.out.keepS hk4 (fun s hs => by have := HB.out; simp at hs; omega))
      have B4 := Lib.hid (hB9.out.keep hk4 H9.out)
      obtain ⟨A4, c4, hv4, _⟩ := O4.out.slice
      rw [hv4] at O4
      have y0 := B4.out.cell 0
      have y1 := B4.out.cell 1
      have y2 := B4.out.cell 2
      have yl := B4.out.lt
      clear hP4 hk4
      go_wp2_with fail
      (with_reducible refine (DI.out _).mono ?_)
      rintro e w5 ⟨rfl, hk5⟩
      have hs5 := hk5.size
      have DU := Lib.hid (x_used (P4.out.keep0 hk5) _ HU.out)
      have K5 := Lib.hid hk5
      have HK5 := Lib.hid (hk5.then_ hkw)
      have hne : ((i : Int) != (i : Int)) = false := by simp
      have hw1 : IntKind.i64.wrap ((i : Int) + 1) = (i : Int) + 1 := IntWalk.i64_in _ (by omega)
      clear hk5 y0 y1 y2 yl
      go_wp2_with fail
      (with_reducible refine DU.out.mono ?_)
      rintro e w6 ⟨rfl, hk6⟩
      have hs6 := hk6.size
      have K6 := Lib.hid (hk6.then_ K5.out)
      have HK6 := Lib.hid (hk6.then_ HK5.out)
      have hne2 : ((i : Int) + 1 != (i : Int) + 1) = false := by simp
      clear hk6
      go_wp2_with (refine app_gen .u64 31 26 8 Try.underlying31 info_u64 (by omega) rfl (.tmp 71) (.tmp 73) rfl w1 wm.heap.size _ _ [(x : Int)] rfl (O4.out.kept (K6.out.alloc _)) _ _ _ rfl rfl (fun h => by cases h) (rowI1 (Blk.new _ _ _)) (HK6.out.alloc _) hW1 (by simp; omega) (by have := HLEN.out; simp; omega) ?_)
      intro A7 n7 c7 w7 hn7 own7 owo7 hk7 hg7 hs7 hc7 hr7
      have HE7 : Hid (OwnI wm.heap.size .u64 26 w7 (.slice A7 n7 c7) (toI ((List.range (i + 1)).map bl))) := Lib.hid (by rw [HE.out]; exact own7)
      have P7 : Hid (PgX w1 w7 p mp g (a.ready.taken x r)) := Lib.hid (PgX.keepN (P4.out.keep0 (K6.out.alloc _)) (kept_ownI hg7) HB.out (fun s hs => (own_in O4.out s hs).1) hW1)
      have B7 := Lib.hid ((B4.out.keep0 (K6.out.alloc _)).keep (kept_ownI hg7) (fun h => by have := (own_in O4.out _ h).1; omega))
      have hz7 : wm.heap.size ≤ w7.heap.size := by first | omega | (simp at hs7; omega)
      clear own7 owo7 hk7 hg7 hs7 hc7 hr7 hn7
      go_wp2_with fail
      go_roundw
      case rel => first | exact ⟨i + 1, _, by omega, by go_num, P7, HF', HE7, B7, hz7⟩ | ((repeat apply Exists.intro); exact ⟨⟨i + 1, _, by omega, by go_num, P7, HF', HE7, B7, hz7⟩, rfl⟩)
      case measure => simp [intOf]; omega
    · obtain rfl : i = N := by omega
      have hnx := hF.out.all
      have hus := hF.out.us
      have hpo := hF.out.po
      rw [← HBL.out] at hus
      obtain ⟨len, _, hok⟩ := hP.out.ok
      have hnd : ((List.range i).map bl).Nodup := by
        have := hok.nodup_us
        rw [hus] at this
        exact (List.reverse_perm _).nodup_iff.1 this
      obtain ⟨U, hU⟩ : ∃ U, (List.range i).map bl = U := ⟨_, rfl⟩
      have HUB : Hid (∀ x, x ∈ U → x < 100000) := Lib.hid (fun x hx => by
        rw [← hU] at hx
        obtain ⟨k, hk, rfl⟩ := List.mem_map.1 hx
        have hk' := List.mem_range.1 hk
        have h1 : k * Z ≤ 60 * 256 := Nat.mul_le_mul (by omega) hZ256.2
        rw [HBL.out]
        show 1024 + k * Z < 100000
        omega)
      rw [hU] at hO hus hnd
      have hUl : U.length = i := by rw [← hU]; simp
      have HND := Lib.hid hnd
      have HUS := Lib.hid hus
      have HPO := Lib.hid hpo
      have HNX := Lib.hid hnx
      have HNN : Hid (i = a.N) := Lib.hid (by rw [hF.out.h3])
      obtain ⟨wA, hwA⟩ : ∃ wA, wA = wr := ⟨_, rfl⟩
      subst hwA
      have DF := Lib.hid (x_full hP.out hnx.none.1)
      have hmade : a.ready.made = i := by rw [hnx.none.2.1, hnx.1, hF.out.h3]
      have husr := hnx.none.2.2
      have hfr : a.ready.fr = [] := hnx.none.1
      have HM := Lib.hid hmade
      have HUR := Lib.hid husr
      have HFR := Lib.hid hfr
      have HUL := Lib.hid hUl
      clear hnx hus hpo hok hnd hU hF hmade husr hfr
      obtain ⟨A, c, hv, hA0, _⟩ := hO.out.slice
      rw [toI_len, HUL.out] at hv
      subst hv
      clear hUl
      go_wp2_with fail
      (with_reducible refine DF.out.mono ?_)
      rintro e w4 ⟨rfl, hP4, hk4⟩
      have P4 := Lib.hid hP4
      have hs4 := hk4.size
      have O4 := Lib.hid (hO.out.keepS hk4 (fun s hs => by have := HB.out; simp at hs; omega))
      have B4 := Lib.hid (hB9.out.keep hk4 H9.out)
      have DM := Lib.hid (fun w (hk : Kept [] w4 w) => x_made (P4.out.keep0 hk))
      rw [HM.out] at DM
      have hne2 : ((i : Int) != (i : Int)) = false := by simp
      clear hP4 hk4
      go_wp2_with fail
      refine wp_region_kept (by kernel_rfl) (by kernel_rfl) ?_
      intro TT FF hne hFF hcl
      have q_r0 := fun x => (Blk.keep0 (B4.out) (hFF x)).cell
      repeat (first | go_big_quiet_step ((first | (go_at_call 16; (with_reducible refine kept_call hcl (DM.out _ (hFF _)))))) | quiet_step ((first | (go_at_call 16; (with_reducible refine kept_call hcl (DM.out _ (hFF _)))))))
      refine wpQuiet_nil ?_
      rintro w5 ⟨x, hx⟩
      have hb5 := hFF x
      rw [← hx] at hb5
      clear hx x hne hFF hcl q_r0
      have hs5 := hb5.size
      (try simp only [World.size_alloc, World.size_setCell, World.size_drew, size_drewN] at hs5)
      have hs5 := hb5.size
      have P5 := Lib.hid (P4.out.keep0 hb5)
      have O5 := Lib.hid (O4.out.kept hb5)
      have B5 := Lib.hid (B4.out.keep0 hb5)
      clear hb5
      obtain ⟨k, hk⟩ : ∃ k : Nat, x2 % (i : Int) = (k : Int) := ⟨(x2 % (i : Int)).toNat, by
        have := Int.emod_nonneg x2 (show (i : Int) ≠ 0 by omega)
        omega⟩
      have hki : k < i := by have := Int.emod_lt_of_pos x2 (show 0 < (i : Int) by omega); omega
      have t6 : Int.tmod x2 (i : Int) = (k : Int) := by rw [Int.tmod_eq_emod_of_nonneg bz.1]; exact hk
      have n1 : ¬ ((i : Int) = 0) := by omega
      have n0 : ((i : Int) == 0) = false := by rw [beq_eq_false_iff_ne]; omega
      have y2 := B5.out.cell 2
      have yl := B5.out.lt
      obtain ⟨⟨hT5, hA0', hr3⟩, A2, c2, hD5, hc2, hr2⟩ := own_cuts encU_k 31 26 Try.underlying31 (fun w => by simp [go_sem]) (ownU.1 O5.out) k (by rw [toI_len, HUL.out]; omega)
      have HN1 : Hid (i - k = ((toI U).drop k).length) := Lib.hid (by have := HUL.out; simp [toI]; omega)
      have HN2 : Hid (k = ((toI U).take k).length) := Lib.hid (by have := HUL.out; simp [toI]; omega)
      obtain ⟨V, hV⟩ : ∃ V, U.drop k ++ U.take k = V := ⟨_, rfl⟩
      have HV : Hid ((toI U).drop k ++ (toI U).take k = toI V) := Lib.hid (by rw [toI_take, toI_drop, ← toI_app, hV])
      have HVP : Hid (V.Perm U) := Lib.hid (by
        rw [← hV]
        exact List.perm_append_comm.trans (by rw [List.take_append_drop]))
      have HT5 := Lib.hid hT5
      have HD5 := Lib.hid hD5
      have q1 : (0 : Int) ≤ (k : Int) := by omega
      have q2 : (k : Int) ≤ (i : Int) := by omega
      obtain ⟨i0, hi', hz0, hz1, hz2⟩ := info_parts info_u64
      have hI := Lib.hid hi'
      have hZ0 := Lib.hid hz0
      have HV9 : Hid (V.Nodup ∧ (∀ x, x ∈ V → x ∈ a.ready.us) ∧ V.length = i ∧ a.ready.us.length = i ∧ a.ready.po = []) := Lib.hid (by
        refine ⟨HVP.out.nodup_iff.2 HND.out, fun x hx => ?_, ?_, ?_, ?_⟩
        · rw [HUR.out, HUS.out]; simpa using HVP.out.mem_iff.1 hx
        · rw [HVP.out.length_eq, HUL.out]
        · rw [HUR.out, HUS.out, List.length_reverse, HUL.out]
        · rw [ready_po]; exact HPO.out)
      clear hi' hz0 hT5 hD5 hA0' hk hV
      go_wp2_with fail
      go_region_held3 (fun _ => True) (trivial) (first
        | (refine step_app_S encU_k 31 26 i0 _ 8 Try.underlying31 hI.out hZ0.out hz1 hz2 rfl (by omega) (by rfl) (.tmp 96) (.tmp 99) (by rfl) w5 w5.heap.size _ [] ((toI U).drop k) (by rfl) (OwnS.drew (OwnS.made _ (by simp) (by simp))) _ _ _ HN1.out (by rfl) hc2 (HD5.out.keep (by (repeat' (first | (with_reducible exact Kept.refl _ _) | (with_reducible assumption) | (with_reducible refine Kept.then_ (by with_reducible assumption) ?_) | (with_reducible refine Kept.thenS (by with_reducible assumption) ?_) | (with_reducible refine Kept.alloc ?_ _) | (with_reducible refine Kept.drew ?_) | (with_reducible refine Kept.drewN ?_ _) | (with_reducible refine Kept.setNew ?_ ?_ _) | ((try simp only [World.size_alloc, World.size_setCell, World.size_drew, size_drewN] at *); (try dsimp only); omega))))) (by (repeat' (first | (with_reducible exact Kept.refl _ _) | (with_reducible assumption) | (with_reducible refine Kept.then_ (by with_reducible assumption) ?_) | (with_reducible refine Kept.thenS (by with_reducible assumption) ?_) | (with_reducible refine Kept.alloc ?_ _) | (with_reducible refine Kept.drew ?_) | (with_reducible refine Kept.drewN ?_ _) | (with_reducible refine Kept.setNew ?_ ?_ _) | ((try simp only [World.size_alloc, World.size_setCell, World.size_drew, size_drewN] at *); (try dsimp only); omega)))) (Nat.le_refl _) (by simp only [World.size_alloc, World.size_drew]; omega) (by have := HN1.out; simp only [List.length_nil]; omega) ?_; intro A6 n6 c6 w6 hn6 own6 hk6 ho6 hs6)
        | (refine step_app_S encU_k 31 26 i0 _ 8 Try.underlying31 hI.out hZ0.out hz1 hz2 rfl (by omega) (by rfl) (.tmp 100) (.tmp 103) (by rfl) w5 w5.heap.size _ ([] ++ (toI U).drop k) ((toI U).take k) (by rfl) own6 _ _ _ HN2.out (by rfl) hA0 (HT5.out.keep (by (repeat' (first | (with_reducible exact Kept.refl _ _) | (with_reducible assumption) | (with_reducible refine Kept.then_ (by with_reducible assumption) ?_) | (with_reducible refine Kept.thenS (by with_reducible assumption) ?_) | (with_reducible refine Kept.alloc ?_ _) | (with_reducible refine Kept.drew ?_) | (with_reducible refine Kept.drewN ?_ _) | (with_reducible refine Kept.setNew ?_ ?_ _) | ((try simp only [World.size_alloc, World.size_setCell, World.size_drew, size_drewN] at *); (try dsimp only); omega))))) (by (repeat' (first | (with_reducible exact Kept.refl _ _) | (with_reducible assumption) | (with_reducible refine Kept.then_ (by with_reducible assumption) ?_) | (with_reducible refine Kept.thenS (by with_reducible assumption) ?_) | (with_reducible refine Kept.alloc ?_ _) | (with_reducible refine Kept.drew ?_) | (with_reducible refine Kept.drewN ?_ _) | (with_reducible refine Kept.setNew ?_ ?_ _) | ((try simp only [World.size_alloc, World.size_setCell, World.size_drew, size_drewN] at *); (try dsimp only); omega)))) (Nat.le_refl _) (by have := hk6.size; omega) (by have := HN1.out; have := HN2.out; simp only [List.nil_append]; omega) ?_; intro A7 n7 c7 w7 hn7 own7 hk7 ho7 hs7; have O7 : Hid (OwnI w5.heap.size .u64 26 w7 (.slice A7 n7 c7) (toI V)) := Lib.hid (by rw [← HV.out]; exact ownU.2 own7); have K7 := Lib.hid hk7; have HN7 : Hid (n7 = V.length) := Lib.hid (by rw [hn7.out]; have := congrArg List.length HV.out; rw [toI_len] at this; simpa using this))
        | (go_at_call 13; refine (x_freeL (P5.out.keep0 K7.out) V HV9.out.1 HV9.out.2.1 A7 n7 c7 HN7.out (fun w' hk' => OwnI.row (O7.out.keepS hk' (fun s hs => by have := HB.out; simp at hs; omega)))).mono ?_; rintro e w8 ⟨rfl, hP8, hk8⟩; have P8 := Lib.hid hP8; have K8 := Lib.hid hk8; have hs8 := hk8.size; clear hP8 hk8)
        | (go_at_call 15; refine (x_used P8.out 0 (by have h1 := freeL_len V a.ready HV9.out.1 HV9.out.2.1; have h2 := (freeL_is V a.ready).2.2.1; obtain ⟨_, _, h3, h4, h5⟩ := HV9.out; rw [h2, h5, List.length_nil]; omega)).mono ?_; rintro e w9 ⟨rfl, hk9⟩))
      have P9 := Lib.hid (P8.out.keep0 hk9)
      have hs7' := hk7.size
      have hs9 := hk9.size
      have O9 := Lib.hid (((O5.out.kept hk7).keepS K8.out (fun s hs => by have := HB.out; simp at hs; omega)).kept hk9)
      have B9 := Lib.hid (((B5.out.keep0 hk7).keep K8.out H9.out).keep0 hk9)
      obtain ⟨L, hL⟩ : ∃ L, V.reverse = L := ⟨_, rfl⟩
      have NX9 : Hid (Next (a.ready.freeL V) L) := Lib.hid (by
        obtain ⟨h1, h2, h3, h4, h5⟩ := freeL_is V a.ready
        have hlo : a.ready.lo = [] := ready_lo a HNX.out
        refine ⟨by rw [h4, h5, ready_N, HM.out]; exact HNN.out, .inr ⟨by rw [h1, HFR.out], by rw [h2, hlo, List.append_nil, hL]⟩⟩)
      have HL : Hid (L.Nodup ∧ L.length = i ∧ ∀ x, x ∈ L → (x : Int) ∈ toI U ∧ x < 100000) := Lib.hid (by
        obtain ⟨h1, _, h3, _⟩ := HV9.out
        rw [← hL]
        refine ⟨(List.reverse_perm _).nodup_iff.2 h1, by rw [List.length_reverse, h3], fun x hx => ?_⟩
        have hxU := HVP.out.mem_iff.1 (by simpa using hx : x ∈ V)
        exact ⟨List.mem_map.2 ⟨x, hxU, rfl⟩, HUB.out x hxU⟩)
      have z2 := B9.out.cell 2
      have zl := B9.out.lt
      have hwm9 : wm.heap.size ≤ w9.heap.size := by omega
      have HK : Hid (OwnI wm.heap.size .u64 26 w9 (.slice A i c) (toI U)) := O9
      have HNE : Hid (some w9.heap.size ≠ (Value.slice A i c).ownBlock) := Lib.hid (OwnI.new_ne HK.out (Nat.le_refl _))
      clear hL hk9 hk7 ho6 ho7 hs6 hs7 hn6 hn7 own6 own7 hk6 y2 yl hr2 hr3
      go_wp2_with fail
      go_loopw [115] (fun v wr => ∃ (m n : Nat) (a : PgA) (S : Int → Bool), m ≤ i ∧ n ≤ m ∧ v = .int .i64 m ∧ Hid (PgX w1 wr p mp g a) ∧ Hid (Next a (L.drop m)) ∧ Hid (SetI Try.prog 26 .u64 wr w9.heap.size n S) ∧ Hid (∀ j, m ≤ j → j < i → S ((L[j]?.getD 0 : Nat) : Int) = false) ∧ Hid (OwnI wm.heap.size .u64 26 wr (.slice A i c) (toI U)) ∧ w9.heap.size < wr.heap.size) (fun v _ => (i - intOf v).toNat)
      case atStart => exact ⟨0, 0, _, _, Nat.zero_le _, Nat.le_refl _, rfl, Lib.hid (P9.out.keep0 ((Kept.refl [] w9).alloc _)), NX9, Lib.hid (SetI.made _ _ _ _), Lib.hid (fun _ _ _ => rfl), Lib.hid (HK.out.kept ((Kept.refl [] w9).alloc _)), by simp⟩
      case round =>
        obtain ⟨m, n, q, S, hmi, hnm, rfl, hPq, hNq, hSq, hSS, hOq, hsq⟩ := hrel
        by_cases hlt : m < i
        · have hml : m < L.length := by rw [HL.out.2.1]; exact hlt
          have hLd : L.drop m = (L[m]?.getD 0) :: L.drop (m + 1) := by
            rw [List.getElem?_eq_getElem hml]
            exact List.drop_eq_getElem_cons hml
          have hNq' := hNq.out
          rw [hLd] at hNq'
          obtain ⟨h1, h2, _, _⟩ := hNq'.step
          have DA := Lib.hid (x_alloc hPq.out _ _ h1)
          have HN2 := Lib.hid h2
          have hf := hSS.out m (Nat.le_refl _) hlt
          have HMEM : Hid (((L[m]?.getD 0 : Nat) : Int) ∈ toI U) := Lib.hid (HL.out.2.2 _ (by rw [List.getElem?_eq_getElem hml]; exact List.getElem_mem hml)).1
          have HOTH : Hid (∀ j, m + 1 ≤ j → j < i → (L[j]?.getD 0) ≠ (L[m]?.getD 0)) := Lib.hid (fun j hj hji => by
            have hjl : j < L.length := by rw [HL.out.2.1]; exact hji
            rw [List.getElem?_eq_getElem hjl, List.getElem?_eq_getElem hml]
            exact fun e => List.pairwise_iff_getElem.1 HL.out.1 m j hml hjl (by omega) e.symm)
          have HX64 : Hid (L[m]?.getD 0 < 18446744073709551616) := Lib.hid (by have := (HL.out.2.2 (L[m]?.getD 0) (by rw [List.getElem?_eq_getElem hml]; exact List.getElem_mem hml)).2; omega)
          generalize L[m]?.getD 0 = x at *
          have hwf : (Lit.int .u64 (x : Int)).wf = true := WalkArith.wf_u64 (by have := HX64.out; omega)
          have di : decide ((m : Int) < (i : Int)) = true := by simp; omega
          clear hLd hNq' h1 h2 hml
          go_wp2_with fail
          (with_reducible refine DA.out.mono ?_)
          rintro e w10 ⟨rfl, hP10, hk10⟩
          have P10 := Lib.hid hP10
          have hs10 := hk10.size
          have O10 := Lib.hid (hOq.out.keepS hk10 (fun s hs => by have := HB.out; simp at hs; omega))
          have S10 := Lib.hid (hSq.out.keep hk10 (by have := HB.out; simp; omega))
          have hlook := S10.out.look Try.underlying26 Try.underlying40 (zero_bool w10) (x : Int) hwf
          rw [hf] at hlook
          have DN := Lib.hid (inlist_any A c (toI U) w10 (OwnI.row O10.out) (by rw [toI_len, HUL.out]; omega) (x : Int) true (by simpa using HMEM.out))
          rw [toI_len, HUL.out] at DN
          clear hP10 hk10
          go_wp2_with fail
          (with_reducible refine DN.out.mono ?_)
          rintro e w11 ⟨rfl, hk11⟩
          have hs11 := hk11.size
          obtain ⟨w12, hput, hst12, hk12⟩ := (S10.out.keep hk11 (by simp)).put Try.underlying26 Try.underlying40 (by unfold maxLen; omega) (x : Int) hwf true
          have hs12 := hk12.size
          have P12 := Lib.hid (PgX.keepN (P10.out.keep0 hk11) hk12 HB.out (fun s hs => by simp at hs; omega) hW1)
          have O12 := Lib.hid (OwnI.keepN (O10.out.kept hk11) hk12 (fun s hs => .inr (by simp at hs; rw [hs]; exact HNE.out)))
          have S12 := Lib.hid hst12
          have SS12 : Hid (∀ j, m + 1 ≤ j → j < i → (fun y => if y = (x : Int) then true else S y) ((L[j]?.getD 0 : Nat) : Int) = false) := Lib.hid (fun j hj hji => by
            have h1 := HOTH.out j hj hji
            show (if ((L[j]?.getD 0 : Nat) : Int) = (x : Int) then true else S _) = false
            rw [if_neg (by omega)]
            exact hSS.out j (by omega) hji)
          clear hst12 hk12 hk11 hlook
          go_wp2_with fail
          go_roundw
          case rel => first | exact ⟨m + 1, n + 1, _, _, by omega, by omega, by go_num, P12, HN2, S12, SS12, O12, by omega⟩ | ((repeat apply Exists.intro); exact ⟨⟨m + 1, n + 1, _, _, by omega, by omega, by go_num, P12, HN2, S12, SS12, O12, by omega⟩, rfl⟩)
          case measure => simp [intOf]; omega
        · obtain rfl : m = i := by omega
          have hLd : L.drop m = [] := List.drop_eq_nil_of_le (by rw [HL.out.2.1]; exact Nat.le_refl _)
          have hNq' := hNq.out
          rw [hLd] at hNq'
          have DX := Lib.hid (x_full hPq.out hNq'.none.1)
          clear hLd hNq'
          go_wp2_with fail
          (with_reducible refine DX.out.mono ?_)
          rintro e w13 ⟨rfl, hP13, _⟩
          have K13 := Lib.hid (hP13.kept.then_ HB1.out)
          clear hP13
          go_wp2_with fail
          go_ret
          exact ⟨rfl, K13.out.below⟩
theorem own : ownKnob Try.prog.godebug = none := by kernel_rfl
theorem laidOut : laidOutB Try.prog = true := by kernel_rfl
set_option maxRecDepth 100000 in
theorem lifted (os : Os) (started : os.Started) (H : Type) (enc : TypeId × Value → H) :
    ReturnsInHanded {} Try.checked os 4 .any (Rows.pageFillsSpec.pre6 enc Try.prog Try.f4 Rows.pageFillsRow.domain false) (Rows.pageFillsSpec.post enc Try.prog Try.f4 false true false false) := by
  refine returnsInHanded_of_change (C := Try.checked) own started (by kernel_rfl) Try.func4
    (ChangeSpec.witness6 (enc := enc) (C := Try.checked) false ⟨#[], #[.int .u8 0, .int .u8 0, .int .u8 0], []⟩ 8 (by kernel_rfl) (by kernel_rfl) (by kernel_rfl) (by kernel_rfl)) ?_
  intro W base args ds gs before hval0 hW hcnd _
  have hval : ∀ (j : Nat) t v, Try.f4.params[j]? = some t → args[j]? = some v → Value.okWide Try.prog W .any base t v := hval0
  have hW' := hW
  obtain ⟨p, q, hA0, hV, rfl, hfz, hnd⟩ := hW
  have hA : DataW.TrodAll enc Try.prog W 0 (fun _ => true) true Try.f4.params.toList args.toList ds p := hA0
  rw [Try.params4] at hA hval
  obtain ⟨v0, vs0, d0, ds0, p0, q0, hargs, rfl, rfl, h0, r0⟩ := trodAll_cons hA
  obtain ⟨v1, vs1, d1, ds1, p1, q1, rfl, rfl, rfl, h1, r1⟩ := trodAll_cons r0
  obtain ⟨v2, vs2, d2, ds2, p2, q2, rfl, rfl, rfl, h2, r2⟩ := trodAll_cons r1
  obtain ⟨rfl, rfl, rfl⟩ := trodAll_nil r2
  obtain rfl : args = #[v0, v1, v2] := by cases args; simp_all
  obtain ⟨rfl, rfl⟩ := trodVars_none hV
  obtain ⟨a0, rfl, rfl, rfl, w0⟩ := open_int Try.underlying5 (hval 0 5 v0 rfl rfl) h0
  obtain ⟨a1, rfl, rfl, rfl, w1⟩ := open_int Try.underlying5 (hval 1 5 v1 rfl rfl) h1
  obtain ⟨a2, rfl, rfl, rfl, w2⟩ := open_int Try.underlying5 (hval 2 5 v2 rfl rfl) h2
  clear hA0 hval0
  refine (walk a0 a1 a2 W w0 w1 w2).mono fun e W' ⟨he, bel⟩ => ?_
  subst he
  exact ⟨_, rfl, _, _, _, [], _, [], hW', trodAll_mk1 (shut_bool Try.underlying4 _), (trodAll_cons_mk (shut_int Try.underlying5 w0) (trodAll_cons_mk (shut_int Try.underlying5 w1) (trodAll_cons_mk (shut_int Try.underlying5 w2) trodAll_mk0))), rfl, bel.frame _, fun h => by cases h⟩
theorem over : Rows.pageFillsRow.holds Try.pinned (OpenSpec.ofChange Rows.pageFillsSpec) :=
  OpenClaim.holds_of_wide 4 Try.f4 rfl rfl rfl rfl rfl rfl rfl ⟨rfl, rfl, rfl, rfl, rfl⟩ rfl rfl rfl rfl rfl (by kernel_rfl) Try.func4 (by kernel_rfl)
    (of_decide_eq_true (by kernel_rfl)) (by unfold Func.isWrapper; first | (rw [if_pos (by decide +kernel)]; kernel_rfl) | (rw [if_neg (by decide +kernel)]; exact ⟨rfl, rfl⟩))
    (fun os started H enc _ => lifted os started H enc)
theorem proved : Rows.PageFillsSaid := over
#print axioms proved
end PageFills
end Go.Proofs.Ytgiokigokedakaa
