/- Through any acts what each answers, the three rows, how many are used and made, and how often the cell was asked, are the document's. No condition. -/
import Derived.Test.YtgiokigokedakaaPgRows
import Derived.Test.YtgiokigokedakaaPgIn
import Derived.Test.YtgiokigokedakaaActs3
import Derived.Deep.RegionHeld3
import Derived.Deep.DeepCutAuto
import Derived.Deep.CutBlock
import Derived.StillTailTactics
import Derived.Deep.DrawnRows
import Derived.RegionTactic
set_option linter.unusedVariables false
set_option linter.unusedSimpArgs false
namespace Go.Proofs.Ytgiokigokedakaa
open Go.RowKit
namespace PageActs
open Go.RowKit Go.ChangeShapes Go.WideShapes Go.ChangeAt Go.Joins
structure Sa (k : Nat) (a : PgA) (U : List Nat) : Prop where
  tg : a.tag ≤ k
  ak : a.ask ≤ 2 * k
  us : U.Perm a.us
  ul : U.length ≤ k
theorem in_row {B : Nat} {w : World} {A : Option Addr} {c : Nat} {l : List Nat} (h : TolN B w (.slice A l.length c) l) (hn : l.length ≤ 1000000) (x : Nat) (b : Bool) (hb : decide (x ∈ l) = b) :
    Calls Try.prog 17 #[.slice A l.length c, .int .u64 (x : Int)] w fun e w' => e = .returned (.bool b) ∧ Kept [] w w' := by
  have := inlist_any A c (toI l) w (TolN.row h) (by rw [toI_len]; exact hn) (x : Int) b (by
    rw [← hb]
    refine decide_eq_decide.2 ?_
    simp only [toI, List.mem_map]
    exact ⟨fun h => ⟨x, h, rfl⟩, fun ⟨y, h, e⟩ => by rw [← Int.ofNat_inj.1 e]; exact h⟩)
  rw [toI_len] at this
  exact this
set_option maxRecDepth 100000 in
set_option maxHeartbeats 8000000 in
theorem walk (f s n : Int) (a1 : Option Addr) (len1 cap1 : Nat) (z1 : Nat → Act3) (W : World) (wf : (Lit.int .u64 f).wf = true) (ws : (Lit.int .u64 s).wf = true) (wn : (Lit.int .i64 n).wf = true) (w1 : IsActs W a1 len1 cap1 z1) :
    Calls Try.prog 9 #[.agg #[.int .u64 f, .int .u64 s, .int .i64 n], .slice a1 len1 cap1] W fun e W' => e = .returned (.bool true) ∧ Below W.heap.size W W' := by
  have bf := bounds_u64 wf
  have bs := bounds_u64 ws
  have C1 := Lib.hid (fun w => alive_any w)
  have HI := Lib.hid w1
  have hl47 : (len1 : Int) ≤ 9223372036854775807 := by
    have := w1.cap
    unfold maxLen at this
    omega
  obtain ⟨zs, hzs⟩ : ∃ zs, zeros 16384 = zs := ⟨_, rfl⟩
  have HZL : zs.length = 16384 := by rw [← hzs]; exact length_zeros _
  have C2 : Hid (∀ w, Calls Try.prog 27 #[.int .u64 16384] w fun e w' => e = .returned (.tuple #[.pointer (some ⟨w.heap.size + 1, 0, none⟩), .int .i64 0]) ∧ MemB w' (w.heap.size + 1) w.heap.size zs ∧ Kept [] w w') := Lib.hid (fun w => by
    have := new_any w 16384 (by omega) (by omega) (by omega); rw [hzs] at this; exact this)
  clear wf ws wn w1 hzs
  by_cases hq : len1 ≤ 100
  case neg =>
    have q0 : decide (100 < (len1 : Int)) = true := by simp; omega
    go_enter Try.func9, Try.ntmps9
    go_wp2_with fail
    (with_reducible refine (C1.out _).mono ?_)
    rintro e w1 ⟨rfl, hb1⟩
    have K1 : Kept [] W w1 := by (repeat' (first | (with_reducible exact Kept.refl _ _) | (with_reducible assumption) | (with_reducible refine Kept.then_ (by with_reducible assumption) ?_) | (with_reducible refine Kept.thenS (by with_reducible assumption) ?_) | (with_reducible refine Kept.alloc ?_ _) | (with_reducible refine Kept.drew ?_) | (with_reducible refine Kept.drewN ?_ _) | (with_reducible refine Kept.setNew ?_ ?_ _) | ((try simp only [World.size_alloc, World.size_setCell, World.size_drew, size_drewN] at *); (try dsimp only); omega)))
    go_wp2_with fail
    go_ret
    exact ⟨rfl, K1.below⟩
  have q1 : decide (100 < (len1 : Int)) = false := by simp; omega
  by_cases hok : OkR f s n 16384
  case neg =>
    have C3 := Lib.hid (fun w mp g (hM : MemB w mp g zs) => newp_bad w mp g zs hM f s n bf.1 bs.1 (by rw [HZL]; exact hok))
    have C4 : Hid (∀ w, Calls Try.prog 29 #[.agg #[.int .u64 f, .int .u64 s, .int .i64 n], .int .u64 16384] w fun e w' => e = .returned (.bool false) ∧ Kept [] w w') := Lib.hid (fun w => rmayp_any w f s n 16384 (by omega) bf.1 bs.1 false (by simpa using hok))
    clear hok
    go_enter Try.func9, Try.ntmps9
    go_wp2_with fail
    (with_reducible refine (C1.out _).mono ?_)
    rintro e w1 ⟨rfl, hb1⟩
    have K1 : Hid (Kept [] W w1) := Lib.hid (by (repeat' (first | (with_reducible exact Kept.refl _ _) | (with_reducible assumption) | (with_reducible refine Kept.then_ (by with_reducible assumption) ?_) | (with_reducible refine Kept.thenS (by with_reducible assumption) ?_) | (with_reducible refine Kept.alloc ?_ _) | (with_reducible refine Kept.drew ?_) | (with_reducible refine Kept.drewN ?_ _) | (with_reducible refine Kept.setNew ?_ ?_ _) | ((try simp only [World.size_alloc, World.size_setCell, World.size_drew, size_drewN] at *); (try dsimp only); omega))))
    have R1 := Lib.hid ((Blk.new W 71 #[.int .u64 f, .int .u64 s, .int .i64 n]).keep0 hb1)
    clear hb1
    go_wp2_with fail
    (with_reducible refine (C2.out _).mono ?_)
    rintro e w2 ⟨rfl, hM2, hb2⟩
    have M2 := Lib.hid hM2
    have R2 := Lib.hid (R1.out.keep0 hb2)
    have K2 := Lib.hid (hb2.then_ K1.out)
    have r0 := R2.out.cell 0
    have r1 := R2.out.cell 1
    have r2 := R2.out.cell 2
    have rl := R2.out.lt
    clear hM2 hb2
    go_wp2_with fail
    (with_reducible refine (C3.out _ _ _ M2.out).mono ?_)
    rintro e w3 ⟨rfl, hb3⟩
    have R3 := Lib.hid (R2.out.keep0 hb3)
    have K3 := Lib.hid (hb3.then_ K2.out)
    have r30 := R3.out.cell 0
    have r31 := R3.out.cell 1
    have r32 := R3.out.cell 2
    have r3l := R3.out.lt
    clear hb3 r0 r1 r2 rl
    go_wp2_with fail
    (with_reducible refine (C4.out _).mono ?_)
    rintro e w4 ⟨rfl, hb4⟩
    have K4 := Lib.hid (hb4.then_ K3.out)
    clear hb4 r30 r31 r32 r3l
    go_wp2_with fail
    go_ret
    exact ⟨rfl, K4.out.below⟩
  have C4 : Hid (∀ w, Calls Try.prog 29 #[.agg #[.int .u64 f, .int .u64 s, .int .i64 n], .int .u64 16384] w fun e w' => e = .returned (.bool true) ∧ Kept [] w w') := Lib.hid (fun w => rmayp_any w f s n 16384 (by omega) bf.1 bs.1 true (by simpa using hok))
  obtain ⟨F, rfl⟩ : ∃ F : Nat, f = (F : Int) := ⟨f.toNat, by omega⟩
  obtain ⟨Z, rfl⟩ : ∃ Z : Nat, s = (Z : Int) := ⟨s.toNat, by omega⟩
  obtain ⟨N, rfl⟩ : ∃ N : Nat, n = (N : Int) := ⟨n.toNat, by have := hok.2.2.2.1; omega⟩
  have hbn : 1 ≤ F ∧ 16 ≤ Z ∧ 1 ≤ N ∧ N ≤ 1024 ∧ F + N * Z ≤ zs.length := by
    obtain ⟨h1, h2, h3, h4, h5⟩ := hok
    unfold MayP at h1
    have : ((N * Z : Nat) : Int) = (N : Int) * (Z : Int) := Int.natCast_mul N Z
    omega
  have C3 := Lib.hid (fun w mp g (hM : MemB w mp g zs) => newp_ok w mp g zs hM F Z N hbn)
  clear hok bf bs hbn
  go_enter Try.func9, Try.ntmps9
  go_wp2_with fail
  (with_reducible refine (C1.out _).mono ?_)
  rintro e w1 ⟨rfl, hb1⟩
  have K1 : Hid (Kept [] W w1) := Lib.hid (by (repeat' (first | (with_reducible exact Kept.refl _ _) | (with_reducible assumption) | (with_reducible refine Kept.then_ (by with_reducible assumption) ?_) | (with_reducible refine Kept.thenS (by with_reducible assumption) ?_) | (with_reducible refine Kept.alloc ?_ _) | (with_reducible refine Kept.drew ?_) | (with_reducible refine Kept.drewN ?_ _) | (with_reducible refine Kept.setNew ?_ ?_ _) | ((try simp only [World.size_alloc, World.size_setCell, World.size_drew, size_drewN] at *); (try dsimp only); omega))))
  have R1 := Lib.hid ((Blk.new W 71 #[.int .u64 (F : Int), .int .u64 (Z : Int), .int .i64 (N : Int)]).keep0 hb1)
  clear hb1
  go_wp2_with fail
  (with_reducible refine (C2.out _).mono ?_)
  rintro e w2 ⟨rfl, hM2, hb2⟩
  have M2 := Lib.hid hM2
  have R2 := Lib.hid (R1.out.keep0 hb2)
  have K2 := Lib.hid hb2
  have r0 := R2.out.cell 0
  have r1 := R2.out.cell 1
  have r2 := R2.out.cell 2
  have rl := R2.out.lt
  clear hM2 hb2
  go_wp2_with fail
  (with_reducible refine (C3.out _ _ _ M2.out).mono ?_)
  rintro e w3 ⟨p, rfl, hp, hP3, hb3⟩
  have P3 : Hid (PgX w1 w3 p (w1.heap.size + 1) w1.heap.size (PgA.new F Z N)) := Lib.hid ⟨⟨zs, hP3⟩, hb3.then_ K2.out, by have := K2.out.size; omega, Nat.le_refl _⟩
  have R3 := Lib.hid (R2.out.keep0 hb3)
  have r30 := R3.out.cell 0
  have r31 := R3.out.cell 1
  have r32 := R3.out.cell 2
  have r3l := R3.out.lt
  clear hP3 hb3 r0 r1 r2 rl hp
  go_wp2_with fail
  (with_reducible refine (C4.out _).mono ?_)
  rintro e w4 ⟨rfl, hb4⟩
  have P4 := Lib.hid (P3.out.keep0 hb4)
  have R4 := Lib.hid (R3.out.keep0 hb4)
  have DR : Hid (∀ w, Kept [] w4 w → Calls Try.prog 30 #[.pointer (some ⟨p, 0, none⟩)] w fun e w' => e = .returned (.agg #[.int .u64 (F : Int), .int .u64 (Z : Int), .int .i64 (N : Int)]) ∧ Kept [] w w') := Lib.hid (fun w hk => by
    obtain ⟨⟨z, ⟨fh, lh, hd, hR⟩, _⟩, _⟩ := P4.out.keep0 hk
    exact run_is w p _ (F : Int) (Z : Int) (N : Int) hR.blk rfl rfl rfl)
  have r40 := R4.out.cell 0
  have r41 := R4.out.cell 1
  have r42 := R4.out.cell 2
  have r4l := R4.out.lt
  clear hb4 r30 r31 r32 r3l
  go_wp2_with fail
  refine wp_region_kept (by kernel_rfl) (by kernel_rfl) ?_
  intro TT FF hne hFF hcl
  have q_r0 := fun x => (Blk.keep0 (R4.out) (hFF x)).cell
  repeat (first | go_big_quiet_step ((first | (go_at_call 30; (with_reducible refine kept_call hcl (DR.out _ (hFF _)))))) | quiet_step ((first | (go_at_call 30; (with_reducible refine kept_call hcl (DR.out _ (hFF _)))))))
  refine wpQuiet_nil ?_
  rintro w5 ⟨x, hx⟩
  have hb5 := hFF x
  rw [← hx] at hb5
  clear hx x hne hFF hcl q_r0
  have hs5 := hb5.size
  (try simp only [World.size_alloc, World.size_setCell, World.size_drew, size_drewN] at hs5)
  have R5 := Lib.hid (R4.out.keep0 hb5)
  have P5 := Lib.hid (P4.out.keep0 hb5)
  have r50 := R5.out.cell 0
  have r51 := R5.out.cell 1
  have r52 := R5.out.cell 2
  have r5l := R5.out.lt
  clear hb5 r40 r41 r42 r4l
  go_wp2_with fail
  obtain ⟨wm, hwm⟩ : ∃ wm, w5.alloc (.cells #[.int .u64 (F : Int), .int .u64 (Z : Int), .int .i64 (N : Int), .int .i64 0, .int .i64 0, .slice none 0 0, .slice none 0 0, .slice none 0 0, .int .u64 0, .int .i64 0] 80) = wm := ⟨_, rfl⟩
  have hlt := P5.out.lt
  have P6 : Hid (PgX w1 wm p (w1.heap.size + 1) w1.heap.size (PgA.new F Z N)) := Lib.hid (by rw [← hwm]; exact P5.out.keep0 ((Kept.refl [] w5).alloc _))
  have O6 : Blk wm w5.heap.size 80 ((PgA.new F Z N).rcells (.slice none 0 0) (.slice none 0 0) (.slice none 0 0)) := by rw [← hwm]; exact (Blk.new w5 _ _).cast rfl
  have hms : wm.heap.size = w5.heap.size + 1 := by rw [← hwm]; simp
  obtain ⟨B, hB⟩ : ∃ B, wm.heap.size = B := ⟨_, rfl⟩
  have X6 : Hid (RefX [] B wm w5.heap.size (PgA.new F Z N)) := Lib.hid ⟨_, _, _, ⟨O6, TolN.nil _ _, TolN.nil _ _, TolN.nil _ _, by omega, by omega⟩, fun s hs => by cases hs⟩
  have HWP : Hid (w1.heap.size ≤ p) := Lib.hid P5.out.2.2.1
  rw [hwm]
  clear hwm O6 r50 r51 r52 r5l P5
  generalize w5.heap.size = o at *
  obtain ⟨mp, hmp⟩ : ∃ mp, w1.heap.size + 1 = mp := ⟨_, rfl⟩
  obtain ⟨g, hg⟩ : ∃ g, w1.heap.size = g := ⟨_, rfl⟩
  have HO : Hid (p < o ∧ mp < o ∧ g < o ∧ o < B ∧ w1.heap.size ≤ p) := Lib.hid (by have := HWP.out; omega)
  have HWM : Hid (B ≤ wm.heap.size) := Lib.hid (by omega)
  rw [hmp, hg] at P6
  rw [hmp]
  clear hmp hg hms hlt hB
  go_loopw [65, 10] (fun m v wr => ∃ (k : Nat) (a : PgA) (U : List Nat), k ≤ len1 ∧ m = .int .i64 k ∧ Hid (PgX w1 wr p mp g a) ∧ Hid (RefX (own v) B wr o a) ∧ Hid (TolN B wr v U) ∧ Hid (Sa k a U)) (fun m _ _ => (len1 - intOf m).toNat)
  case atStart => exact ⟨0, _, [], Nat.zero_le _, rfl, P6, X6, Lib.hid (TolN.nil _ _), Lib.hid ⟨Nat.le_refl _, Nat.le_refl _, List.Perm.refl _, Nat.le_refl _⟩⟩
  case round =>
    obtain ⟨k, a, U, hk, rfl, hP, hX, hO, hS⟩ := hrel
    by_cases hi : k < len1
    case neg =>
      obtain rfl : k = len1 := by omega
      have K := Lib.hid (hP.out.kept.then_ K1.out)
      go_wp2_with fail
      go_ret
      exact ⟨rfl, K.out.below⟩
    obtain ⟨xa, rfl, hxl, hxc, y0, y1, y2⟩ := HI.out.get hi
    obtain ⟨z0, z1', z2'⟩ := hxc wr (hP.out.kept.then_ K1.out)
    have zl : xa.block < wr.heap.size := Nat.lt_of_lt_of_le hxl (hP.out.kept.then_ K1.out).size
    have di : decide ((k : Int) < (len1 : Int)) = true := by simp; omega
    have dk : (0 : Int) ≤ (k : Int) := by omega
    have ba := bounds_u64 y2
    generalize (z1 k).k = kk at *
    generalize (z1 k).n = nn at *
    generalize (z1 k).a = aa at *
    obtain ⟨aa, rfl⟩ : ∃ x : Nat, aa = (x : Int) := ⟨aa.toNat, by omega⟩
    clear hxc
    obtain ⟨A, c, hv, _⟩ := hO.out.len
    subst hv
    have hlen : U.length ≤ 1024 := by
      obtain ⟨len, hlen, hok⟩ := hP.out.ok
      have := hok.short
      rw [hS.out.us.length_eq]
      omega
    obtain ⟨q, hqU⟩ : ∃ q : Nat, (U = [] ∧ q = 0) ∨ (U ≠ [] ∧ q < U.length ∧ max 0 (Int.tmod nn (U.length : Int)) = (q : Int)) := by
      by_cases hu : U = []
      · exact ⟨0, .inl ⟨hu, rfl⟩⟩
      · have hU0 : 0 < U.length := List.length_pos_iff.2 hu
        have h1 : Int.tmod nn (U.length : Int) < (U.length : Int) := Int.tmod_lt_of_pos nn (by omega)
        exact ⟨(max 0 (Int.tmod nn (U.length : Int))).toNat, .inr ⟨hu, by omega, by omega⟩⟩
    obtain ⟨wq, hwq⟩ : ∃ wq, wr.alloc (.cells #[.int .i64 kk, .int .i64 nn, .int .u64 (aa : Int)] 62) = wq := ⟨_, rfl⟩
    have KA : Hid (Kept [] wr wq) := Lib.hid (by rw [← hwq]; exact (Kept.refl [] wr).alloc _)
    have BA : Hid (Blk wq wr.heap.size 62 #[.int .i64 kk, .int .i64 nn, .int .u64 (aa : Int)]) := Lib.hid (by rw [← hwq]; exact Blk.new _ _ _)
    have BQ := BA.out.cell 1
    have BQl := BA.out.lt
    go_upto_if 71 with fail
    clear BQ BQl
    have b0 := BA.out.cell 0
    have b1 := BA.out.cell 1
    have b2 := BA.out.cell 2
    have bl := BA.out.lt
    clear hwq
    go_cut [65, 10, 12, 13] (fun s65 s10 s12 s13 wx => s65 = .int .i64 k ∧ s10 = .slice A U.length c ∧ s12 = .pointer (some ⟨wr.heap.size, 0, none⟩) ∧ s13 = .int .i64 q ∧ wx = wq)
    case first =>
      rcases hqU with ⟨rfl, rfl⟩ | ⟨hu, hqU, hmax⟩
      · have d0 : decide ((0 : Int) < ((0 : Nat) : Int)) = false := by simp
        simp only [List.length_nil]
        go_wp2_with fail
        go_meet
        exact ⟨rfl, rfl, rfl, rfl, rfl⟩
      · have g3 : decide ((0 : Int) < (U.length : Int)) = true := by rw [decide_eq_true_iff]; omega
        have n0 : ((U.length : Int) == 0) = false := by rw [beq_eq_false_iff_ne]; omega
        have n1 : ¬ ((U.length : Int) = 0) := by omega
        obtain ⟨m, hm⟩ : ∃ m, Int.tmod nn (U.length : Int) = m := ⟨_, rfl⟩
        rw [hm] at hmax
        clear hu
        rcases (show 0 < m ∨ m ≤ 0 by omega) with hm0 | hm0
        · obtain rfl : m = (q : Int) := by omega
          clear hmax
          go_wp2_with fail
          go_meet
          exact ⟨rfl, rfl, rfl, rfl, rfl⟩
        · obtain rfl : q = 0 := by omega
          clear hmax
          go_wp2_with fail
          go_meet
          exact ⟨rfl, rfl, rfl, rfl, rfl⟩
    case rest =>
      obtain ⟨rfl, rfl, rfl, rfl, rfl⟩ := hcut
      have PA := Lib.hid (hP.out.keep0 KA.out)
      have XA := Lib.hid (hX.out.keep0 KA.out)
      have OA := Lib.hid (hO.out.keep0 KA.out)
      have hWB : w1.heap.size ≤ B ∧ B ≤ wc.heap.size := by
        have h1 := XA.out.lt
        have h2 := HO.out
        have h3 := hP.out.2.2.1
        have h4 := hP.out.lt
        omega
      have HWB := Lib.hid hWB
      have HWR : Hid (B ≤ wr.heap.size) := Lib.hid (by have h1 := hX.out.lt; omega)
      clear hX hO hWB
      go_upto_block 2 with fail
      go_cut [65, 10] (fun s65 s10 wx => s65 = .int .i64 k ∧ ∃ (a : PgA) (U : List Nat), Hid (PgX w1 wx p mp g a) ∧ Hid (RefX (own s10) B wx o a) ∧ Hid (TolN B wx s10 U) ∧ Hid (Sa (k + 1) a U))
      case rest =>
        clear PA XA OA hP hS b0 b1 b2 bl BA KA HWB hqU hlen y0 y1 y2 z0 z1' z2' zl hxl
        obtain ⟨rfl, a, U, hP, hX, hO, hS⟩ := hcut
        have DR := Lib.hid (rows_is hP.out hX.out (by have := hS.out.ak; omega))
        go_wp2_with fail
        (with_reducible refine DR.out.mono ?_)
        rintro e w6 ⟨rfl, hk6⟩
        have P6 := Lib.hid (hP.out.keep0 hk6)
        have X6 := Lib.hid (hX.out.keep0 hk6)
        have O6 := Lib.hid (hO.out.keep0 hk6)
        clear hk6
        go_wp2_with fail
        go_roundw
        case rel => first | exact ⟨k + 1, a, U, by omega, by go_num, P6, X6, O6, hS⟩ | ((repeat apply Exists.intro); exact ⟨⟨k + 1, a, U, by omega, by go_num, P6, X6, O6, hS⟩, rfl⟩)
        case measure => simp [intOf]; omega
      case first =>
        have tg := hS.out.tg
        have ak := hS.out.ak
        have hfg : p < o ∧ mp < o ∧ g < o := ⟨HO.out.1, HO.out.2.1, HO.out.2.2.1⟩
        have NXO : Hid (∀ w', Kept [p, g, o] wc w' → TolN B w' (.slice A U.length c) U) := Lib.hid (fun w' hk => OA.out.keepS hk (fun s hs => .inl (by have := HO.out; simp at hs; omega)))
        rcases (show kk = 4 ∨ (kk = 5 ∨ kk = 6) ∨ (1 ≤ kk ∧ kk ≤ 3) ∨ (kk ≠ 4 ∧ kk ≠ 5 ∧ kk ≠ 6 ∧ (kk < 1 ∨ 3 < kk)) by omega) with hkk | hkk | hkk | hkk
        · as_aux_lemma =>
            have DG := Lib.hid (x_gather PA.out (a.po.length : Int) rfl (by omega) (by omega))
            have hsh : a.po.length ≤ 1024 ∧ a.lo.length ≤ 1024 ∧ a.us.length ≤ 1024 := by
              obtain ⟨len, _, hok⟩ := PA.out.ok
              have := hok.short
              omega
            have DRg := Lib.hid (fun w' (hr : RefX (own (.slice A U.length c)) B w' o a) => r_gather hr hsh (by omega) (by omega))
            have S' : Hid (Sa (k + 1) a.gath U) := Lib.hid ⟨show a.tag + 1 ≤ k + 1 by omega, show a.ask + 1 ≤ 2 * (k + 1) by omega, hS.out.us, by have := hS.out.ul; omega⟩
            have e4 : ((kk == 4) : Bool) = true := by rw [hkk]; simp
            have hpp : (((a.po.length : Int) != (a.po.length : Int)) : Bool) = false := by simp
            clear hkk
            go_wp2_with fail
            (with_reducible refine DG.out.mono ?_)
            rintro e w4 ⟨rfl, hP4, hk4⟩
            have P4 := Lib.hid hP4
            have D4 := Lib.hid (DRg.out _ (XA.out.keepS hk4 (fun s hs => by have := HO.out; simp at hs; omega) (by simp; omega)))
            have K4 : Hid (Kept [p, g, o] wc w4) := Lib.hid (hk4.mono (fun y hy _ => by simp at hy; simp; omega))
            clear hP4 hk4
            go_wp2_with fail
            (with_reducible refine D4.out.mono ?_)
            rintro e w5 ⟨rfl, hX5, hk5⟩
            have X5 := Lib.hid hX5
            have P5 := Lib.hid (PgX.keepN P4.out hk5 (B := o) hfg (fun s hs => by simp at hs; omega) (by have h2 := HO.out; omega))
            have K5 : Hid (Kept [p, g, o] wc w5) := Lib.hid (K4.out.trans hk5 (fun y hy _ => by simp at hy; simp [hy]))
            have O5 := Lib.hid (NXO.out _ K5.out)
            clear hX5 hk5
            go_wp2_with fail
            go_meet
            exact ⟨rfl, _, _, P5, X5, O5, S'⟩
        · rcases hkk with hkk | hkk
          · as_aux_lemma =>
              have e4 : ((kk == 4) : Bool) = false := by rw [beq_eq_false_iff_ne]; omega
              have e5 : ((kk == 5) : Bool) = true := by rw [hkk]; simp
              have e6 : ((kk == 6) : Bool) = false := by rw [beq_eq_false_iff_ne]; omega
              clear hkk
              have S' : Hid (Sa (k + 1) a U) := Lib.hid ⟨by omega, by omega, hS.out.us, by have := hS.out.ul; omega⟩
              obtain ⟨len2, hlen2, hok⟩ := PA.out.ok
              obtain ⟨v5, v6, v7, hPf, hav⟩ := XA.out
              obtain ⟨A5, c5, h5, _⟩ := hPf.fr.len
              obtain ⟨A6, c6, h6, _⟩ := hPf.lo.len
              obtain ⟨A7, c7, h7, _⟩ := hPf.po.len
              subst h5 h6 h7
              clear hav
              have hsh := hok.short
              obtain ⟨bU, hbU⟩ : ∃ b, decide (aa ∈ U) = b := ⟨_, rfl⟩
              obtain ⟨b5, hb5⟩ : ∃ b, decide (aa ∈ a.fr) = b := ⟨_, rfl⟩
              obtain ⟨b6, hb6⟩ : ∃ b, decide (aa ∈ a.lo) = b := ⟨_, rfl⟩
              obtain ⟨b7, hb7⟩ : ∃ b, decide (aa ∈ a.po) = b := ⟨_, rfl⟩
              have CU := Lib.hid (fun w (hk : Kept [] wc w) => in_row (OA.out.keep0 hk) (by omega) aa bU hbU)
              have C5' := Lib.hid (fun w (hk : Kept [] wc w) => in_row (hPf.fr.keep0 hk) (by omega) aa b5 hb5)
              have C6' := Lib.hid (fun w (hk : Kept [] wc w) => in_row (hPf.lo.keep0 hk) (by omega) aa b6 hb6)
              have C7' := Lib.hid (fun w (hk : Kept [] wc w) => in_row (hPf.po.keep0 hk) (by omega) aa b7 hb7)
              have q5 := hPf.c5
              have q6 := hPf.c6
              have q7 := hPf.c7
              have ql := hPf.blk.lt
              obtain ⟨r, hr⟩ : ∃ r, a.giv (aa : Int) = r := ⟨_, rfl⟩
              have hr0 : Hid (¬ (aa ∈ U ∨ aa ∈ a.fr ∨ aa ∈ a.lo ∨ aa ∈ a.po) → r ≠ 0) := Lib.hid (fun hn h0 => by
                have := hok.giv_mem hlen2 (hr.trans h0)
                simp only [List.mem_append] at this
                exact hn (by rcases this with h | h | h | h; exact .inr (.inl h); exact .inr (.inr (.inl h)); exact .inr (.inr (.inr h)); exact .inl (hS.out.us.mem_iff.2 h)))
              have HBs : Hid (decide (aa ∈ U) = bU ∧ decide (aa ∈ a.fr) = b5 ∧ decide (aa ∈ a.lo) = b6 ∧ decide (aa ∈ a.po) = b7) := Lib.hid ⟨hbU, hb5, hb6, hb7⟩
              have HR := Lib.hid hr
              clear hbU hb5 hb6 hb7 hr hPf hsh hok hlen2
              rcases (show bU = true ∨ (bU = false ∧ b5 = true) ∨ (bU = false ∧ b5 = false ∧ b6 = true) ∨ (bU = false ∧ b5 = false ∧ b6 = false ∧ b7 = true) ∨ (bU = false ∧ b5 = false ∧ b6 = false ∧ b7 = false) by cases bU <;> cases b5 <;> cases b6 <;> cases b7 <;> simp) with rfl | ⟨rfl, rfl⟩ | ⟨rfl, rfl, rfl⟩ | ⟨rfl, rfl, rfl, rfl⟩ | ⟨rfl, rfl, rfl, rfl⟩
              · skip
                go_wp2_with fail
                refine wp_region_kept (by kernel_rfl) (by kernel_rfl) ?_
                intro TT FF hne hFF hcl
                have q_c0 := fun x => (hFF x).at_ ql q5
                have q_c1 := fun x => (hFF x).at_ ql q6
                have q_c2 := fun x => (hFF x).at_ ql q7
                have q_r0 := fun x => (Blk.keep0 (BA.out) (hFF x)).cell
                repeat (first | go_big_quiet_step ((first | (go_at_call 17; (with_reducible refine kept_call hcl (CU.out _ (hFF _)))) | (go_at_call 17; (with_reducible refine kept_call hcl (C5'.out _ (hFF _)))) | (go_at_call 17; (with_reducible refine kept_call hcl (C6'.out _ (hFF _)))) | (go_at_call 17; (with_reducible refine kept_call hcl (C7'.out _ (hFF _)))))) | quiet_step ((first | (go_at_call 17; (with_reducible refine kept_call hcl (CU.out _ (hFF _)))) | (go_at_call 17; (with_reducible refine kept_call hcl (C5'.out _ (hFF _)))) | (go_at_call 17; (with_reducible refine kept_call hcl (C6'.out _ (hFF _)))) | (go_at_call 17; (with_reducible refine kept_call hcl (C7'.out _ (hFF _)))))))
                refine wpQuiet_nil ?_
                rintro w30 ⟨x, hx⟩
                have hb30 := hFF x
                rw [← hx] at hb30
                clear hx x hne hFF hcl q_r0 q_c0 q_c1 q_c2
                have hs30 := hb30.size
                (try simp only [World.size_alloc, World.size_setCell, World.size_drew, size_drewN] at hs30)
                have P30 := Lib.hid (PA.out.keep0 hb30)
                have X30 := Lib.hid (XA.out.keep0 hb30)
                have O30 := Lib.hid (OA.out.keep0 hb30)
                clear hb30
                go_wp2_with fail
                go_roundw
                case rel => first | exact ⟨k + 1, a, U, by omega, by go_num, P30, X30, O30, S'⟩ | ((repeat apply Exists.intro); exact ⟨⟨k + 1, a, U, by omega, by go_num, P30, X30, O30, S'⟩, rfl⟩)
                case measure => simp [intOf]; omega
              · skip
                go_wp2_with fail
                refine wp_region_kept (by kernel_rfl) (by kernel_rfl) ?_
                intro TT FF hne hFF hcl
                have q_c0 := fun x => (hFF x).at_ ql q5
                have q_c1 := fun x => (hFF x).at_ ql q6
                have q_c2 := fun x => (hFF x).at_ ql q7
                have q_r0 := fun x => (Blk.keep0 (BA.out) (hFF x)).cell
                repeat (first | go_big_quiet_step ((first | (go_at_call 17; (with_reducible refine kept_call hcl (CU.out _ (hFF _)))) | (go_at_call 17; (with_reducible refine kept_call hcl (C5'.out _ (hFF _)))) | (go_at_call 17; (with_reducible refine kept_call hcl (C6'.out _ (hFF _)))) | (go_at_call 17; (with_reducible refine kept_call hcl (C7'.out _ (hFF _)))))) | quiet_step ((first | (go_at_call 17; (with_reducible refine kept_call hcl (CU.out _ (hFF _)))) | (go_at_call 17; (with_reducible refine kept_call hcl (C5'.out _ (hFF _)))) | (go_at_call 17; (with_reducible refine kept_call hcl (C6'.out _ (hFF _)))) | (go_at_call 17; (with_reducible refine kept_call hcl (C7'.out _ (hFF _)))))))
                refine wpQuiet_nil ?_
                rintro w30 ⟨x, hx⟩
                have hb30 := hFF x
                rw [← hx] at hb30
                clear hx x hne hFF hcl q_r0 q_c0 q_c1 q_c2
                have hs30 := hb30.size
                (try simp only [World.size_alloc, World.size_setCell, World.size_drew, size_drewN] at hs30)
                have P30 := Lib.hid (PA.out.keep0 hb30)
                have X30 := Lib.hid (XA.out.keep0 hb30)
                have O30 := Lib.hid (OA.out.keep0 hb30)
                clear hb30
                go_wp2_with fail
                go_roundw
                case rel => first | exact ⟨k + 1, a, U, by omega, by go_num, P30, X30, O30, S'⟩ | ((repeat apply Exists.intro); exact ⟨⟨k + 1, a, U, by omega, by go_num, P30, X30, O30, S'⟩, rfl⟩)
                case measure => simp [intOf]; omega
              · skip
                go_wp2_with fail
                refine wp_region_kept (by kernel_rfl) (by kernel_rfl) ?_
                intro TT FF hne hFF hcl
                have q_c0 := fun x => (hFF x).at_ ql q5
                have q_c1 := fun x => (hFF x).at_ ql q6
                have q_c2 := fun x => (hFF x).at_ ql q7
                have q_r0 := fun x => (Blk.keep0 (BA.out) (hFF x)).cell
                repeat (first | go_big_quiet_step ((first | (go_at_call 17; (with_reducible refine kept_call hcl (CU.out _ (hFF _)))) | (go_at_call 17; (with_reducible refine kept_call hcl (C5'.out _ (hFF _)))) | (go_at_call 17; (with_reducible refine kept_call hcl (C6'.out _ (hFF _)))) | (go_at_call 17; (with_reducible refine kept_call hcl (C7'.out _ (hFF _)))))) | quiet_step ((first | (go_at_call 17; (with_reducible refine kept_call hcl (CU.out _ (hFF _)))) | (go_at_call 17; (with_reducible refine kept_call hcl (C5'.out _ (hFF _)))) | (go_at_call 17; (with_reducible refine kept_call hcl (C6'.out _ (hFF _)))) | (go_at_call 17; (with_reducible refine kept_call hcl (C7'.out _ (hFF _)))))))
                refine wpQuiet_nil ?_
                rintro w30 ⟨x, hx⟩
                have hb30 := hFF x
                rw [← hx] at hb30
                clear hx x hne hFF hcl q_r0 q_c0 q_c1 q_c2
                have hs30 := hb30.size
                (try simp only [World.size_alloc, World.size_setCell, World.size_drew, size_drewN] at hs30)
                have P30 := Lib.hid (PA.out.keep0 hb30)
                have X30 := Lib.hid (XA.out.keep0 hb30)
                have O30 := Lib.hid (OA.out.keep0 hb30)
                clear hb30
                go_wp2_with fail
                go_roundw
                case rel => first | exact ⟨k + 1, a, U, by omega, by go_num, P30, X30, O30, S'⟩ | ((repeat apply Exists.intro); exact ⟨⟨k + 1, a, U, by omega, by go_num, P30, X30, O30, S'⟩, rfl⟩)
                case measure => simp [intOf]; omega
              · skip
                go_wp2_with fail
                refine wp_region_kept (by kernel_rfl) (by kernel_rfl) ?_
                intro TT FF hne hFF hcl
                have q_c0 := fun x => (hFF x).at_ ql q5
                have q_c1 := fun x => (hFF x).at_ ql q6
                have q_c2 := fun x => (hFF x).at_ ql q7
                have q_r0 := fun x => (Blk.keep0 (BA.out) (hFF x)).cell
                repeat (first | go_big_quiet_step ((first | (go_at_call 17; (with_reducible refine kept_call hcl (CU.out _ (hFF _)))) | (go_at_call 17; (with_reducible refine kept_call hcl (C5'.out _ (hFF _)))) | (go_at_call 17; (with_reducible refine kept_call hcl (C6'.out _ (hFF _)))) | (go_at_call 17; (with_reducible refine kept_call hcl (C7'.out _ (hFF _)))))) | quiet_step ((first | (go_at_call 17; (with_reducible refine kept_call hcl (CU.out _ (hFF _)))) | (go_at_call 17; (with_reducible refine kept_call hcl (C5'.out _ (hFF _)))) | (go_at_call 17; (with_reducible refine kept_call hcl (C6'.out _ (hFF _)))) | (go_at_call 17; (with_reducible refine kept_call hcl (C7'.out _ (hFF _)))))))
                refine wpQuiet_nil ?_
                rintro w30 ⟨x, hx⟩
                have hb30 := hFF x
                rw [← hx] at hb30
                clear hx x hne hFF hcl q_r0 q_c0 q_c1 q_c2
                have hs30 := hb30.size
                (try simp only [World.size_alloc, World.size_setCell, World.size_drew, size_drewN] at hs30)
                have P30 := Lib.hid (PA.out.keep0 hb30)
                have X30 := Lib.hid (XA.out.keep0 hb30)
                have O30 := Lib.hid (OA.out.keep0 hb30)
                clear hb30
                go_wp2_with fail
                go_roundw
                case rel => first | exact ⟨k + 1, a, U, by omega, by go_num, P30, X30, O30, S'⟩ | ((repeat apply Exists.intro); exact ⟨⟨k + 1, a, U, by omega, by go_num, P30, X30, O30, S'⟩, rfl⟩)
                case measure => simp [intOf]; omega
              · skip
                have hr0' : r ≠ 0 := hr0.out (by have h := HBs.out; simp only [decide_eq_false_iff_not] at h; rintro (h1 | h1 | h1 | h1); exact h.1 h1; exact h.2.1 h1; exact h.2.2.1 h1; exact h.2.2.2 h1)
                have DGv := Lib.hid (fun w' (h : RefX (own (.slice A U.length c)) B w' o a) => r_given h (aa : Int) (by omega) r HR.out)
                have DF := Lib.hid (fun w' (h : PgX w1 w' p mp g a) (y c : Nat) (hy : w'.cell? ⟨y, 0, none⟩ = some (.int .u64 (aa : Int))) => x_freebad h (aa : Int) r y c (by omega) HR.out hr0' hy)
                have DP := Lib.hid (fun w' (h : PgX w1 w' p mp g a) => x_postbad h (aa : Int) 0 1000 r (by omega) HR.out hr0')
                have err : ((r != r) : Bool) = false := by simp
                clear hr0'
                go_wp2_with fail
                refine wp_region_kept (by kernel_rfl) (by kernel_rfl) ?_
                intro TT FF hne hFF hcl
                have q_c0 := fun x => (hFF x).at_ ql q5
                have q_c1 := fun x => (hFF x).at_ ql q6
                have q_c2 := fun x => (hFF x).at_ ql q7
                have q_r0 := fun x => (Blk.keep0 (BA.out) (hFF x)).cell
                repeat (first | go_big_quiet_step ((first | (go_at_call 17; (with_reducible refine kept_call hcl (CU.out _ (hFF _)))) | (go_at_call 17; (with_reducible refine kept_call hcl (C5'.out _ (hFF _)))) | (go_at_call 17; (with_reducible refine kept_call hcl (C6'.out _ (hFF _)))) | (go_at_call 17; (with_reducible refine kept_call hcl (C7'.out _ (hFF _)))))) | quiet_step ((first | (go_at_call 17; (with_reducible refine kept_call hcl (CU.out _ (hFF _)))) | (go_at_call 17; (with_reducible refine kept_call hcl (C5'.out _ (hFF _)))) | (go_at_call 17; (with_reducible refine kept_call hcl (C6'.out _ (hFF _)))) | (go_at_call 17; (with_reducible refine kept_call hcl (C7'.out _ (hFF _)))))))
                refine wpQuiet_nil ?_
                rintro w30 ⟨x, hx⟩
                have hb30 := hFF x
                rw [← hx] at hb30
                clear hx x hne hFF hcl q_r0 q_c0 q_c1 q_c2
                have hs30 := hb30.size
                (try simp only [World.size_alloc, World.size_setCell, World.size_drew, size_drewN] at hs30)
                have P30 := Lib.hid (PA.out.keep0 hb30)
                have X30 := Lib.hid (XA.out.keep0 hb30)
                have O30 := Lib.hid (OA.out.keep0 hb30)
                have A30 := Lib.hid (BA.out.keep0 hb30)
                have d0 := A30.out.cell 0
                have d2 := A30.out.cell 2
                have dl := A30.out.lt
                clear hb30 b0 b1 b2 bl q5 q6 q7 ql
                go_wp2_with fail
                (with_reducible refine (DGv.out _ X30.out).mono ?_)
                rintro e w4 ⟨rfl, hk4⟩
                have P4 := Lib.hid (P30.out.keep0 hk4)
                have X4 := Lib.hid (X30.out.keep0 hk4)
                have O4 := Lib.hid (O30.out.keep0 hk4)
                have A4 := Lib.hid (A30.out.keep0 hk4)
                have d40 := A4.out.cell 0
                have d42 := A4.out.cell 2
                have d4l := A4.out.lt
                clear hk4 d0 d2 dl
                go_wp2_with fail
                (with_reducible refine (DF.out _ (P4.out.keep0 ((Kept.refl [] w4).alloc _)) _ _ ((Blk.new w4 _ _).cell 0)).mono ?_)
                rintro e w5 ⟨rfl, hk5⟩
                have hk5' := ((Kept.refl [] w4).alloc (.cells #[.int .u64 (aa : Int)] 26)).trans hk5 (fun y hy _ => hy)
                have P5 := Lib.hid (P4.out.keep0 hk5')
                have X5 := Lib.hid (X4.out.keep0 hk5')
                have O5 := Lib.hid (O4.out.keep0 hk5')
                have A5 := Lib.hid (A4.out.keep0 hk5')
                have d50 := A5.out.cell 0
                have d52 := A5.out.cell 2
                have d5l := A5.out.lt
                clear hk5 hk5' d40 d42 d4l
                go_wp2_with fail
                (with_reducible refine (DP.out _ P5.out).mono ?_)
                rintro e w6 ⟨rfl, hk6⟩
                have P6 := Lib.hid (P5.out.keep0 hk6)
                have X6 := Lib.hid (X5.out.keep0 hk6)
                have O6 := Lib.hid (O5.out.keep0 hk6)
                have A6 := Lib.hid (A5.out.keep0 hk6)
                have d60 := A6.out.cell 0
                have d62 := A6.out.cell 2
                have d6l := A6.out.lt
                clear hk6 d50 d52 d5l
                go_wp2_with fail
                go_meet
                exact ⟨rfl, _, _, P6, X6, O6, S'⟩
          · as_aux_lemma =>
              have e4 : ((kk == 4) : Bool) = false := by rw [beq_eq_false_iff_ne]; omega
              have e5 : ((kk == 5) : Bool) = false := by rw [beq_eq_false_iff_ne]; omega
              have e6 : ((kk == 6) : Bool) = true := by rw [hkk]; simp
              clear hkk
              have S' : Hid (Sa (k + 1) a U) := Lib.hid ⟨by omega, by omega, hS.out.us, by have := hS.out.ul; omega⟩
              obtain ⟨len2, hlen2, hok⟩ := PA.out.ok
              obtain ⟨v5, v6, v7, hPf, hav⟩ := XA.out
              obtain ⟨A5, c5, h5, _⟩ := hPf.fr.len
              obtain ⟨A6, c6, h6, _⟩ := hPf.lo.len
              obtain ⟨A7, c7, h7, _⟩ := hPf.po.len
              subst h5 h6 h7
              clear hav
              have hsh := hok.short
              obtain ⟨bU, hbU⟩ : ∃ b, decide (aa ∈ U) = b := ⟨_, rfl⟩
              obtain ⟨b5, hb5⟩ : ∃ b, decide (aa ∈ a.fr) = b := ⟨_, rfl⟩
              obtain ⟨b6, hb6⟩ : ∃ b, decide (aa ∈ a.lo) = b := ⟨_, rfl⟩
              obtain ⟨b7, hb7⟩ : ∃ b, decide (aa ∈ a.po) = b := ⟨_, rfl⟩
              have CU := Lib.hid (fun w (hk : Kept [] wc w) => in_row (OA.out.keep0 hk) (by omega) aa bU hbU)
              have C5' := Lib.hid (fun w (hk : Kept [] wc w) => in_row (hPf.fr.keep0 hk) (by omega) aa b5 hb5)
              have C6' := Lib.hid (fun w (hk : Kept [] wc w) => in_row (hPf.lo.keep0 hk) (by omega) aa b6 hb6)
              have C7' := Lib.hid (fun w (hk : Kept [] wc w) => in_row (hPf.po.keep0 hk) (by omega) aa b7 hb7)
              have q5 := hPf.c5
              have q6 := hPf.c6
              have q7 := hPf.c7
              have ql := hPf.blk.lt
              obtain ⟨r, hr⟩ : ∃ r, a.giv (aa : Int) = r := ⟨_, rfl⟩
              have hr0 : Hid (¬ (aa ∈ U ∨ aa ∈ a.fr ∨ aa ∈ a.lo ∨ aa ∈ a.po) → r ≠ 0) := Lib.hid (fun hn h0 => by
                have := hok.giv_mem hlen2 (hr.trans h0)
                simp only [List.mem_append] at this
                exact hn (by rcases this with h | h | h | h; exact .inr (.inl h); exact .inr (.inr (.inl h)); exact .inr (.inr (.inr h)); exact .inl (hS.out.us.mem_iff.2 h)))
              have HBs : Hid (decide (aa ∈ U) = bU ∧ decide (aa ∈ a.fr) = b5 ∧ decide (aa ∈ a.lo) = b6 ∧ decide (aa ∈ a.po) = b7) := Lib.hid ⟨hbU, hb5, hb6, hb7⟩
              have HR := Lib.hid hr
              clear hbU hb5 hb6 hb7 hr hPf hsh hok hlen2
              rcases (show bU = true ∨ (bU = false ∧ b5 = true) ∨ (bU = false ∧ b5 = false ∧ b6 = true) ∨ (bU = false ∧ b5 = false ∧ b6 = false ∧ b7 = true) ∨ (bU = false ∧ b5 = false ∧ b6 = false ∧ b7 = false) by cases bU <;> cases b5 <;> cases b6 <;> cases b7 <;> simp) with rfl | ⟨rfl, rfl⟩ | ⟨rfl, rfl, rfl⟩ | ⟨rfl, rfl, rfl, rfl⟩ | ⟨rfl, rfl, rfl, rfl⟩
              · skip
                go_wp2_with fail
                refine wp_region_kept (by kernel_rfl) (by kernel_rfl) ?_
                intro TT FF hne hFF hcl
                have q_c0 := fun x => (hFF x).at_ ql q5
                have q_c1 := fun x => (hFF x).at_ ql q6
                have q_c2 := fun x => (hFF x).at_ ql q7
                have q_r0 := fun x => (Blk.keep0 (BA.out) (hFF x)).cell
                repeat (first | go_big_quiet_step ((first | (go_at_call 17; (with_reducible refine kept_call hcl (CU.out _ (hFF _)))) | (go_at_call 17; (with_reducible refine kept_call hcl (C5'.out _ (hFF _)))) | (go_at_call 17; (with_reducible refine kept_call hcl (C6'.out _ (hFF _)))) | (go_at_call 17; (with_reducible refine kept_call hcl (C7'.out _ (hFF _)))))) | quiet_step ((first | (go_at_call 17; (with_reducible refine kept_call hcl (CU.out _ (hFF _)))) | (go_at_call 17; (with_reducible refine kept_call hcl (C5'.out _ (hFF _)))) | (go_at_call 17; (with_reducible refine kept_call hcl (C6'.out _ (hFF _)))) | (go_at_call 17; (with_reducible refine kept_call hcl (C7'.out _ (hFF _)))))))
                refine wpQuiet_nil ?_
                rintro w30 ⟨x, hx⟩
                have hb30 := hFF x
                rw [← hx] at hb30
                clear hx x hne hFF hcl q_r0 q_c0 q_c1 q_c2
                have hs30 := hb30.size
                (try simp only [World.size_alloc, World.size_setCell, World.size_drew, size_drewN] at hs30)
                have P30 := Lib.hid (PA.out.keep0 hb30)
                have X30 := Lib.hid (XA.out.keep0 hb30)
                have O30 := Lib.hid (OA.out.keep0 hb30)
                clear hb30
                go_wp2_with fail
                go_roundw
                case rel => first | exact ⟨k + 1, a, U, by omega, by go_num, P30, X30, O30, S'⟩ | ((repeat apply Exists.intro); exact ⟨⟨k + 1, a, U, by omega, by go_num, P30, X30, O30, S'⟩, rfl⟩)
                case measure => simp [intOf]; omega
              · skip
                go_wp2_with fail
                refine wp_region_kept (by kernel_rfl) (by kernel_rfl) ?_
                intro TT FF hne hFF hcl
                have q_c0 := fun x => (hFF x).at_ ql q5
                have q_c1 := fun x => (hFF x).at_ ql q6
                have q_c2 := fun x => (hFF x).at_ ql q7
                have q_r0 := fun x => (Blk.keep0 (BA.out) (hFF x)).cell
                repeat (first | go_big_quiet_step ((first | (go_at_call 17; (with_reducible refine kept_call hcl (CU.out _ (hFF _)))) | (go_at_call 17; (with_reducible refine kept_call hcl (C5'.out _ (hFF _)))) | (go_at_call 17; (with_reducible refine kept_call hcl (C6'.out _ (hFF _)))) | (go_at_call 17; (with_reducible refine kept_call hcl (C7'.out _ (hFF _)))))) | quiet_step ((first | (go_at_call 17; (with_reducible refine kept_call hcl (CU.out _ (hFF _)))) | (go_at_call 17; (with_reducible refine kept_call hcl (C5'.out _ (hFF _)))) | (go_at_call 17; (with_reducible refine kept_call hcl (C6'.out _ (hFF _)))) | (go_at_call 17; (with_reducible refine kept_call hcl (C7'.out _ (hFF _)))))))
                refine wpQuiet_nil ?_
                rintro w30 ⟨x, hx⟩
                have hb30 := hFF x
                rw [← hx] at hb30
                clear hx x hne hFF hcl q_r0 q_c0 q_c1 q_c2
                have hs30 := hb30.size
                (try simp only [World.size_alloc, World.size_setCell, World.size_drew, size_drewN] at hs30)
                have P30 := Lib.hid (PA.out.keep0 hb30)
                have X30 := Lib.hid (XA.out.keep0 hb30)
                have O30 := Lib.hid (OA.out.keep0 hb30)
                clear hb30
                go_wp2_with fail
                go_roundw
                case rel => first | exact ⟨k + 1, a, U, by omega, by go_num, P30, X30, O30, S'⟩ | ((repeat apply Exists.intro); exact ⟨⟨k + 1, a, U, by omega, by go_num, P30, X30, O30, S'⟩, rfl⟩)
                case measure => simp [intOf]; omega
              · skip
                go_wp2_with fail
                refine wp_region_kept (by kernel_rfl) (by kernel_rfl) ?_
                intro TT FF hne hFF hcl
                have q_c0 := fun x => (hFF x).at_ ql q5
                have q_c1 := fun x => (hFF x).at_ ql q6
                have q_c2 := fun x => (hFF x).at_ ql q7
                have q_r0 := fun x => (Blk.keep0 (BA.out) (hFF x)).cell
                repeat (first | go_big_quiet_step ((first | (go_at_call 17; (with_reducible refine kept_call hcl (CU.out _ (hFF _)))) | (go_at_call 17; (with_reducible refine kept_call hcl (C5'.out _ (hFF _)))) | (go_at_call 17; (with_reducible refine kept_call hcl (C6'.out _ (hFF _)))) | (go_at_call 17; (with_reducible refine kept_call hcl (C7'.out _ (hFF _)))))) | quiet_step ((first | (go_at_call 17; (with_reducible refine kept_call hcl (CU.out _ (hFF _)))) | (go_at_call 17; (with_reducible refine kept_call hcl (C5'.out _ (hFF _)))) | (go_at_call 17; (with_reducible refine kept_call hcl (C6'.out _ (hFF _)))) | (go_at_call 17; (with_reducible refine kept_call hcl (C7'.out _ (hFF _)))))))
                refine wpQuiet_nil ?_
                rintro w30 ⟨x, hx⟩
                have hb30 := hFF x
                rw [← hx] at hb30
                clear hx x hne hFF hcl q_r0 q_c0 q_c1 q_c2
                have hs30 := hb30.size
                (try simp only [World.size_alloc, World.size_setCell, World.size_drew, size_drewN] at hs30)
                have P30 := Lib.hid (PA.out.keep0 hb30)
                have X30 := Lib.hid (XA.out.keep0 hb30)
                have O30 := Lib.hid (OA.out.keep0 hb30)
                clear hb30
                go_wp2_with fail
                go_roundw
                case rel => first | exact ⟨k + 1, a, U, by omega, by go_num, P30, X30, O30, S'⟩ | ((repeat apply Exists.intro); exact ⟨⟨k + 1, a, U, by omega, by go_num, P30, X30, O30, S'⟩, rfl⟩)
                case measure => simp [intOf]; omega
              · skip
                go_wp2_with fail
                refine wp_region_kept (by kernel_rfl) (by kernel_rfl) ?_
                intro TT FF hne hFF hcl
                have q_c0 := fun x => (hFF x).at_ ql q5
                have q_c1 := fun x => (hFF x).at_ ql q6
                have q_c2 := fun x => (hFF x).at_ ql q7
                have q_r0 := fun x => (Blk.keep0 (BA.out) (hFF x)).cell
                repeat (first | go_big_quiet_step ((first | (go_at_call 17; (with_reducible refine kept_call hcl (CU.out _ (hFF _)))) | (go_at_call 17; (with_reducible refine kept_call hcl (C5'.out _ (hFF _)))) | (go_at_call 17; (with_reducible refine kept_call hcl (C6'.out _ (hFF _)))) | (go_at_call 17; (with_reducible refine kept_call hcl (C7'.out _ (hFF _)))))) | quiet_step ((first | (go_at_call 17; (with_reducible refine kept_call hcl (CU.out _ (hFF _)))) | (go_at_call 17; (with_reducible refine kept_call hcl (C5'.out _ (hFF _)))) | (go_at_call 17; (with_reducible refine kept_call hcl (C6'.out _ (hFF _)))) | (go_at_call 17; (with_reducible refine kept_call hcl (C7'.out _ (hFF _)))))))
                refine wpQuiet_nil ?_
                rintro w30 ⟨x, hx⟩
                have hb30 := hFF x
                rw [← hx] at hb30
                clear hx x hne hFF hcl q_r0 q_c0 q_c1 q_c2
                have hs30 := hb30.size
                (try simp only [World.size_alloc, World.size_setCell, World.size_drew, size_drewN] at hs30)
                have P30 := Lib.hid (PA.out.keep0 hb30)
                have X30 := Lib.hid (XA.out.keep0 hb30)
                have O30 := Lib.hid (OA.out.keep0 hb30)
                clear hb30
                go_wp2_with fail
                go_roundw
                case rel => first | exact ⟨k + 1, a, U, by omega, by go_num, P30, X30, O30, S'⟩ | ((repeat apply Exists.intro); exact ⟨⟨k + 1, a, U, by omega, by go_num, P30, X30, O30, S'⟩, rfl⟩)
                case measure => simp [intOf]; omega
              · skip
                have hr0' : r ≠ 0 := hr0.out (by have h := HBs.out; simp only [decide_eq_false_iff_not] at h; rintro (h1 | h1 | h1 | h1); exact h.1 h1; exact h.2.1 h1; exact h.2.2.1 h1; exact h.2.2.2 h1)
                have DGv := Lib.hid (fun w' (h : RefX (own (.slice A U.length c)) B w' o a) => r_given h (aa : Int) (by omega) r HR.out)
                have DF := Lib.hid (fun w' (h : PgX w1 w' p mp g a) (y c : Nat) (hy : w'.cell? ⟨y, 0, none⟩ = some (.int .u64 (aa : Int))) => x_freebad h (aa : Int) r y c (by omega) HR.out hr0' hy)
                have DP := Lib.hid (fun w' (h : PgX w1 w' p mp g a) => x_postbad h (aa : Int) 0 1000 r (by omega) HR.out hr0')
                have err : ((r != r) : Bool) = false := by simp
                clear hr0'
                go_wp2_with fail
                refine wp_region_kept (by kernel_rfl) (by kernel_rfl) ?_
                intro TT FF hne hFF hcl
                have q_c0 := fun x => (hFF x).at_ ql q5
                have q_c1 := fun x => (hFF x).at_ ql q6
                have q_c2 := fun x => (hFF x).at_ ql q7
                have q_r0 := fun x => (Blk.keep0 (BA.out) (hFF x)).cell
                repeat (first | go_big_quiet_step ((first | (go_at_call 17; (with_reducible refine kept_call hcl (CU.out _ (hFF _)))) | (go_at_call 17; (with_reducible refine kept_call hcl (C5'.out _ (hFF _)))) | (go_at_call 17; (with_reducible refine kept_call hcl (C6'.out _ (hFF _)))) | (go_at_call 17; (with_reducible refine kept_call hcl (C7'.out _ (hFF _)))))) | quiet_step ((first | (go_at_call 17; (with_reducible refine kept_call hcl (CU.out _ (hFF _)))) | (go_at_call 17; (with_reducible refine kept_call hcl (C5'.out _ (hFF _)))) | (go_at_call 17; (with_reducible refine kept_call hcl (C6'.out _ (hFF _)))) | (go_at_call 17; (with_reducible refine kept_call hcl (C7'.out _ (hFF _)))))))
                refine wpQuiet_nil ?_
                rintro w30 ⟨x, hx⟩
                have hb30 := hFF x
                rw [← hx] at hb30
                clear hx x hne hFF hcl q_r0 q_c0 q_c1 q_c2
                have hs30 := hb30.size
                (try simp only [World.size_alloc, World.size_setCell, World.size_drew, size_drewN] at hs30)
                have P30 := Lib.hid (PA.out.keep0 hb30)
                have X30 := Lib.hid (XA.out.keep0 hb30)
                have O30 := Lib.hid (OA.out.keep0 hb30)
                have A30 := Lib.hid (BA.out.keep0 hb30)
                have d0 := A30.out.cell 0
                have d2 := A30.out.cell 2
                have dl := A30.out.lt
                clear hb30 b0 b1 b2 bl q5 q6 q7 ql
                go_wp2_with fail
                (with_reducible refine (DGv.out _ X30.out).mono ?_)
                rintro e w4 ⟨rfl, hk4⟩
                have P4 := Lib.hid (P30.out.keep0 hk4)
                have X4 := Lib.hid (X30.out.keep0 hk4)
                have O4 := Lib.hid (O30.out.keep0 hk4)
                have A4 := Lib.hid (A30.out.keep0 hk4)
                have d40 := A4.out.cell 0
                have d42 := A4.out.cell 2
                have d4l := A4.out.lt
                clear hk4 d0 d2 dl
                go_wp2_with fail
                (with_reducible refine (DP.out _ P4.out).mono ?_)
                rintro e w6 ⟨rfl, hk6⟩
                have P6 := Lib.hid (P4.out.keep0 hk6)
                have X6 := Lib.hid (X4.out.keep0 hk6)
                have O6 := Lib.hid (O4.out.keep0 hk6)
                have A6 := Lib.hid (A4.out.keep0 hk6)
                have d60 := A6.out.cell 0
                have d62 := A6.out.cell 2
                have d6l := A6.out.lt
                clear hk6 d40 d42 d4l
                go_wp2_with fail
                go_meet
                exact ⟨rfl, _, _, P6, X6, O6, S'⟩
        · as_aux_lemma =>
            have e4 : ((kk == 4) : Bool) = false := by rw [beq_eq_false_iff_ne]; omega
            have e5 : ((kk == 5) : Bool) = false := by rw [beq_eq_false_iff_ne]; omega
            have e6 : ((kk == 6) : Bool) = false := by rw [beq_eq_false_iff_ne]; omega
            have g1 : decide (1 ≤ kk) = true := by rw [decide_eq_true_iff]; omega
            have g2 : decide (kk ≤ 3) = true := by rw [decide_eq_true_iff]; omega
            rcases hqU with ⟨rfl, rfl⟩ | ⟨hu, hqU, _⟩
            · have S' : Hid (Sa (k + 1) a []) := Lib.hid ⟨by omega, by omega, hS.out.us, Nat.zero_le _⟩
              simp only [List.length_nil]
              have OA0 : Hid (TolN B wc (.slice A 0 c) []) := OA
              have XA0 : Hid (RefX (own (.slice A 0 c)) B wc o a) := XA
              go_wp2_with fail
              go_roundw
              case rel => first | exact ⟨k + 1, a, [], by omega, by go_num, PA, XA0, OA0, S'⟩ | ((repeat apply Exists.intro); exact ⟨⟨k + 1, a, [], by omega, by go_num, PA, XA0, OA0, S'⟩, rfl⟩)
              case measure => simp [intOf]; omega
            · obtain ⟨gv, ov, cv, hv, gvl, fv⟩ := TolV.cell OA.out q (by rw [toV_len]; exact hqU)
              rw [toV_len] at hv
              injection hv with hA hn' hc'
              subst hA hc'
              have hx : (toV U)[q]? = some (.int .u64 ((U[q]?.getD 0 : Nat) : Int)) := by simp [toV, hqU]
              rw [hx] at fv
              have hmem : U[q]?.getD 0 ∈ U := by rw [List.getElem?_eq_getElem hqU]; exact List.getElem_mem hqU
              obtain ⟨x, hxe⟩ : ∃ x, U[q]?.getD 0 = x := ⟨_, rfl⟩
              rw [hxe] at fv hmem
              have hxu : x ∈ a.us := hS.out.us.mem_iff.1 hmem
              have HER : Hid ((U.eraseIdx q).Perm (a.us.erase x)) := Lib.hid (by
                have hxq : U[q] = x := by rw [List.getElem?_eq_getElem hqU] at hxe; exact hxe
                have e : U = U.take q ++ U[q] :: U.drop (q + 1) := by rw [← List.drop_eq_getElem_cons hqU, List.take_append_drop]
                have hp : (x :: U.eraseIdx q).Perm U := by
                  rw [List.eraseIdx_eq_take_drop_succ, ← hxq]
                  conv => rhs; rw [e]
                  exact List.perm_middle.symm
                exact List.Perm.cons_inv (hp.trans (hS.out.us.trans (List.perm_cons_erase hxu))))
              have HBN : Hid (wr.heap.size ≠ p ∧ wr.heap.size ≠ g ∧ wr.heap.size ≠ o) := Lib.hid (by
                have h1 := hP.out.lt
                have h2 := KA.out
                have h3 := HO.out
                have h4 := HWR.out
                omega)
              have g3 : ((U.length : Int) == 0) = false := by rw [beq_eq_false_iff_ne]; omega
              have cq : (q : Int) < (U.length : Int) := by omega
              have q0' : (0 : Int) ≤ (q : Int) := by omega
              clear hu hn' hx hmem hxe
              rcases (show kk = 1 ∨ kk = 2 ∨ kk = 3 by omega) with rfl | rfl | rfl
              · have DG := Lib.hid (given_free PA.out XA.out hfg x hxu)
                go_wp2_with fail
                (with_reducible refine DG.out.mono ?_)
                rintro e w4 ⟨rfl, hP4, hX4, hk4⟩
                have P4 := Lib.hid hP4
                have X4 := Lib.hid hX4
                have O4 := Lib.hid (NXO.out _ hk4)
                have A4 := Lib.hid (BA.out.keep hk4 (by simp; exact HBN.out))
                have S4 : Hid (B ≤ w4.heap.size) := Lib.hid (by have h1 := hk4.size; have h2 := HWB.out; omega)
                have b40 := A4.out.cell 0
                have bl4 := A4.out.lt
                clear hP4 hX4 hk4 b0 b1 b2 bl fv gvl cq
                have S' : Hid (Sa (k + 1) (a.free1 x) (U.eraseIdx q)) := Lib.hid ⟨show a.tag ≤ k + 1 by omega, show a.ask ≤ 2 * (k + 1) by omega, HER.out, by have := hS.out.ul; rw [List.length_eraseIdx_of_lt hqU]; omega⟩
                obtain ⟨⟨T1, hr1⟩, _⟩ := O4.out.cuts rfl q (by omega)
                obtain ⟨_, A2, c2, T2, hr2'⟩ := O4.out.cuts rfl (q + 1) (by omega)
                have hr2 : ∀ w, (Instr.slice 31 (.slice (some ⟨gv, ov, none⟩) U.length c) (some (.int .i64 ((q : Int) + 1))) none none).run Try.prog w = .ok (.slice A2 (U.length - (q + 1)) c2) w := fun w => hr2' w
                have HL1 : Hid ((U.take q).length = q) := Lib.hid (by simp; omega)
                have HL2 : Hid ((U.drop (q + 1)).length = U.length - (q + 1)) := Lib.hid (by simp)
                have HE : Hid (U.take q ++ U.drop (q + 1) = U.eraseIdx q) := Lib.hid (by rw [List.eraseIdx_eq_take_drop_succ])
                generalize U.take q = L1 at *
                generalize U.drop (q + 1) = L2 at *
                have HT1 := Lib.hid T1
                have HT2 := Lib.hid T2
                have hw1 : IntKind.i64.wrap ((q : Int) + 1) = (q : Int) + 1 := IntWalk.i64_in _ (by omega)
                have q1' : (0 : Int) ≤ (q : Int) := by omega
                have q2' : (q : Int) ≤ (U.length : Int) := by omega
                have q3 : (0 : Int) ≤ (q : Int) + 1 := by omega
                have q4 : (q : Int) + 1 ≤ (U.length : Int) := by omega
                clear T1 T2 hr2'
                go_wp2_with fail
                go_region_held3 (fun _ => True) (trivial) (first
                  | (refine step_app_tolL rfl (.tmp 216) (.tmp 219) rfl w4.heap.size (.slice (some ⟨w4.heap.size, 0, none⟩) 0 0) [] L1 (by rfl) (tol_made _ (by first | exact Blk.new w4 _ _ | exact (Blk.new' w4.drew _ _ (by simp)) | exact Blk.drew (Blk.new w4 _ _)) (Nat.le_refl _)) B (some ⟨gv, ov, none⟩) q c (by rfl) HL1.out.symm (HT1.out.keep0 (by (repeat' (first | (with_reducible exact Kept.refl _ _) | (with_reducible assumption) | (with_reducible refine Kept.then_ (by with_reducible assumption) ?_) | (with_reducible refine Kept.thenS (by with_reducible assumption) ?_) | (with_reducible refine Kept.alloc ?_ _) | (with_reducible refine Kept.drew ?_) | (with_reducible refine Kept.drewN ?_ _) | (with_reducible refine Kept.setNew ?_ ?_ _) | ((try simp only [World.size_alloc, World.size_setCell, World.size_drew, size_drewN] at *); (try dsimp only); omega))))) (by simp) (by rw [HL1.out]; simp; omega) ?_; intro A8 n8 c8 w8 T8 hk8 own8; have K8 : Kept [] w4 w8 := Kept.trans (S := []) (by (repeat' (first | (with_reducible exact Kept.refl _ _) | (with_reducible assumption) | (with_reducible refine Kept.then_ (by with_reducible assumption) ?_) | (with_reducible refine Kept.thenS (by with_reducible assumption) ?_) | (with_reducible refine Kept.alloc ?_ _) | (with_reducible refine Kept.drew ?_) | (with_reducible refine Kept.drewN ?_ _) | (with_reducible refine Kept.setNew ?_ ?_ _) | ((try simp only [World.size_alloc, World.size_setCell, World.size_drew, size_drewN] at *); (try dsimp only); omega)))) hk8 (fun y hy hl => by simp [own, Value.ownBlock] at hy; omega); have G8 : Hid (∀ g, g ∈ own (.slice A8 n8 c8) → w4.heap.size ≤ g) := Lib.hid (fun g hg => by rcases own8 g hg with h | h <;> (simp [own, Value.ownBlock] at h; omega)); have KK8 := Lib.hid K8; have TT8 : Hid (TolN w4.heap.size w8 (.slice A8 n8 c8) L1) := Lib.hid (by simpa using T8); clear T8 hk8 own8 K8)
                  | (refine step_app_tolL rfl (.tmp 220) (.tmp 224) rfl w4.heap.size (.slice A8 n8 c8) L1 L2 (by rfl) TT8.out B A2 (U.length - (q + 1)) c2 (by rfl) HL2.out.symm (HT2.out.keep0 KK8.out) KK8.out.size (by rw [HL1.out, HL2.out]; omega) ?_; intro A9 n9 c9 w9 T9 hk9 own9; have K9 : Kept [] w4 w9 := Kept.trans (S := []) KK8.out hk9 (fun y hy hl => by have := G8.out y hy; omega); have KK9 := Lib.hid K9; have TT9 := Lib.hid T9; have OW9 : Hid (∀ g, g ∈ own (.slice A9 n9 c9) → w4.heap.size ≤ g) := Lib.hid (fun g hg => by rcases own9 g hg with h | h; exact G8.out g h; (have := KK8.out.size; omega)); clear T9 hk9 own9 K9))
                have O9 : Hid (TolN B w9 (.slice A9 n9 c9) (U.eraseIdx q)) := Lib.hid (by rw [← HE.out]; exact TolN.less TT9.out S4.out)
                have P9 := Lib.hid (P4.out.keep0 KK9.out)
                have X9 := Lib.hid (RefX.other X4.out KK9.out (fun s hs => by cases hs) (by simp) (fun s hs => ⟨(O9.out.lt s hs).2, .inr (OW9.out s hs)⟩))
                go_wp2_with fail
                go_meet
                exact ⟨rfl, _, _, P9, X9, O9, S'⟩
              · have DG := Lib.hid (given_post PA.out XA.out hfg x hxu (by omega) (by omega))
                go_wp2_with fail
                (with_reducible refine DG.out.mono ?_)
                rintro e w4 ⟨rfl, hP4, hX4, hk4⟩
                have P4 := Lib.hid hP4
                have X4 := Lib.hid hX4
                have O4 := Lib.hid (NXO.out _ hk4)
                have A4 := Lib.hid (BA.out.keep hk4 (by simp; exact HBN.out))
                have S4 : Hid (B ≤ w4.heap.size) := Lib.hid (by have h1 := hk4.size; have h2 := HWB.out; omega)
                have b40 := A4.out.cell 0
                have bl4 := A4.out.lt
                clear hP4 hX4 hk4 b0 b1 b2 bl fv gvl cq
                have S' : Hid (Sa (k + 1) (a.late.post x) (U.eraseIdx q)) := Lib.hid ⟨show a.tag + 1 ≤ k + 1 by omega, show a.ask + 1 + 1 ≤ 2 * (k + 1) by omega, HER.out, by have := hS.out.ul; rw [List.length_eraseIdx_of_lt hqU]; omega⟩
                obtain ⟨⟨T1, hr1⟩, _⟩ := O4.out.cuts rfl q (by omega)
                obtain ⟨_, A2, c2, T2, hr2'⟩ := O4.out.cuts rfl (q + 1) (by omega)
                have hr2 : ∀ w, (Instr.slice 31 (.slice (some ⟨gv, ov, none⟩) U.length c) (some (.int .i64 ((q : Int) + 1))) none none).run Try.prog w = .ok (.slice A2 (U.length - (q + 1)) c2) w := fun w => hr2' w
                have HL1 : Hid ((U.take q).length = q) := Lib.hid (by simp; omega)
                have HL2 : Hid ((U.drop (q + 1)).length = U.length - (q + 1)) := Lib.hid (by simp)
                have HE : Hid (U.take q ++ U.drop (q + 1) = U.eraseIdx q) := Lib.hid (by rw [List.eraseIdx_eq_take_drop_succ])
                generalize U.take q = L1 at *
                generalize U.drop (q + 1) = L2 at *
                have HT1 := Lib.hid T1
                have HT2 := Lib.hid T2
                have hw1 : IntKind.i64.wrap ((q : Int) + 1) = (q : Int) + 1 := IntWalk.i64_in _ (by omega)
                have q1' : (0 : Int) ≤ (q : Int) := by omega
                have q2' : (q : Int) ≤ (U.length : Int) := by omega
                have q3 : (0 : Int) ≤ (q : Int) + 1 := by omega
                have q4 : (q : Int) + 1 ≤ (U.length : Int) := by omega
                clear T1 T2 hr2'
                go_wp2_with fail
                go_region_held3 (fun _ => True) (trivial) (first
                  | (refine step_app_tolL rfl (.tmp 216) (.tmp 219) rfl w4.heap.size (.slice (some ⟨w4.heap.size, 0, none⟩) 0 0) [] L1 (by rfl) (tol_made _ (by first | exact Blk.new w4 _ _ | exact (Blk.new' w4.drew _ _ (by simp)) | exact Blk.drew (Blk.new w4 _ _)) (Nat.le_refl _)) B (some ⟨gv, ov, none⟩) q c (by rfl) HL1.out.symm (HT1.out.keep0 (by (repeat' (first | (with_reducible exact Kept.refl _ _) | (with_reducible assumption) | (with_reducible refine Kept.then_ (by with_reducible assumption) ?_) | (with_reducible refine Kept.thenS (by with_reducible assumption) ?_) | (with_reducible refine Kept.alloc ?_ _) | (with_reducible refine Kept.drew ?_) | (with_reducible refine Kept.drewN ?_ _) | (with_reducible refine Kept.setNew ?_ ?_ _) | ((try simp only [World.size_alloc, World.size_setCell, World.size_drew, size_drewN] at *); (try dsimp only); omega))))) (by simp) (by rw [HL1.out]; simp; omega) ?_; intro A8 n8 c8 w8 T8 hk8 own8; have K8 : Kept [] w4 w8 := Kept.trans (S := []) (by (repeat' (first | (with_reducible exact Kept.refl _ _) | (with_reducible assumption) | (with_reducible refine Kept.then_ (by with_reducible assumption) ?_) | (with_reducible refine Kept.thenS (by with_reducible assumption) ?_) | (with_reducible refine Kept.alloc ?_ _) | (with_reducible refine Kept.drew ?_) | (with_reducible refine Kept.drewN ?_ _) | (with_reducible refine Kept.setNew ?_ ?_ _) | ((try simp only [World.size_alloc, World.size_setCell, World.size_drew, size_drewN] at *); (try dsimp only); omega)))) hk8 (fun y hy hl => by simp [own, Value.ownBlock] at hy; omega); have G8 : Hid (∀ g, g ∈ own (.slice A8 n8 c8) → w4.heap.size ≤ g) := Lib.hid (fun g hg => by rcases own8 g hg with h | h <;> (simp [own, Value.ownBlock] at h; omega)); have KK8 := Lib.hid K8; have TT8 : Hid (TolN w4.heap.size w8 (.slice A8 n8 c8) L1) := Lib.hid (by simpa using T8); clear T8 hk8 own8 K8)
                  | (refine step_app_tolL rfl (.tmp 220) (.tmp 224) rfl w4.heap.size (.slice A8 n8 c8) L1 L2 (by rfl) TT8.out B A2 (U.length - (q + 1)) c2 (by rfl) HL2.out.symm (HT2.out.keep0 KK8.out) KK8.out.size (by rw [HL1.out, HL2.out]; omega) ?_; intro A9 n9 c9 w9 T9 hk9 own9; have K9 : Kept [] w4 w9 := Kept.trans (S := []) KK8.out hk9 (fun y hy hl => by have := G8.out y hy; omega); have KK9 := Lib.hid K9; have TT9 := Lib.hid T9; have OW9 : Hid (∀ g, g ∈ own (.slice A9 n9 c9) → w4.heap.size ≤ g) := Lib.hid (fun g hg => by rcases own9 g hg with h | h; exact G8.out g h; (have := KK8.out.size; omega)); clear T9 hk9 own9 K9))
                have O9 : Hid (TolN B w9 (.slice A9 n9 c9) (U.eraseIdx q)) := Lib.hid (by rw [← HE.out]; exact TolN.less TT9.out S4.out)
                have P9 := Lib.hid (P4.out.keep0 KK9.out)
                have X9 := Lib.hid (RefX.other X4.out KK9.out (fun s hs => by cases hs) (by simp) (fun s hs => ⟨(O9.out.lt s hs).2, .inr (OW9.out s hs)⟩))
                go_wp2_with fail
                go_meet
                exact ⟨rfl, _, _, P9, X9, O9, S'⟩
              · have DG := Lib.hid (given_late PA.out XA.out hfg x hxu (by omega) (by omega))
                go_wp2_with fail
                (with_reducible refine DG.out.mono ?_)
                rintro e w4 ⟨rfl, hP4, hX4, hk4⟩
                have P4 := Lib.hid hP4
                have X4 := Lib.hid hX4
                have O4 := Lib.hid (NXO.out _ hk4)
                have A4 := Lib.hid (BA.out.keep hk4 (by simp; exact HBN.out))
                have S4 : Hid (B ≤ w4.heap.size) := Lib.hid (by have h1 := hk4.size; have h2 := HWB.out; omega)
                have b40 := A4.out.cell 0
                have bl4 := A4.out.lt
                clear hP4 hX4 hk4 b0 b1 b2 bl fv gvl cq
                have S' : Hid (Sa (k + 1) a.late.late U) := Lib.hid ⟨show a.tag ≤ k + 1 by omega, show a.ask + 1 + 1 ≤ 2 * (k + 1) by omega, hS.out.us, by have := hS.out.ul; omega⟩
                go_wp2_with fail
                go_meet
                exact ⟨rfl, _, _, P4, X4, O4, S'⟩
        · as_aux_lemma =>
            have e4 : ((kk == 4) : Bool) = false := by rw [beq_eq_false_iff_ne]; omega
            have e5 : ((kk == 5) : Bool) = false := by rw [beq_eq_false_iff_ne]; omega
            have e6 : ((kk == 6) : Bool) = false := by rw [beq_eq_false_iff_ne]; omega
            obtain ⟨len2, hlen2, hok⟩ := PA.out.ok
            have hl1000 : U.length ≤ 1000 := by have := hS.out.ul; omega
            rcases hkk.2.2.2 with hlt | hgt
            · have g1 : decide (1 ≤ kk) = false := by rw [decide_eq_false_iff_not]; omega
              rcases hfr : a.ready.fr with _ | ⟨x, r⟩
              · skip
                have DA := Lib.hid (x_full PA.out hfr)
                have DR := Lib.hid (fun w' (hr : RefX (own (.slice A U.length c)) B w' o a) => r_full hr hok hlen2 hfr)
                have S' : Hid (Sa (k + 1) a.ready U) := Lib.hid (by
                  obtain ⟨_, _, _, h4, h5, h6, h7⟩ := ready_all a
                  exact ⟨by rw [h4]; omega, by rw [h5]; omega, by rw [h7]; exact hS.out.us, by have := hS.out.ul; omega⟩)
                have ez : (((0 : Int) != 0) : Bool) = false := by simp
                clear hfr hok hlen2
                go_wp2_with fail
                (with_reducible refine DA.out.mono ?_)
                rintro e w4 ⟨rfl, hP4, hk4⟩
                have P4 := Lib.hid hP4
                have D4 := Lib.hid (DR.out _ (XA.out.keepS hk4 (fun s hs => by have := HO.out; simp at hs; omega) (by simp; omega)))
                have K4 : Hid (Kept [p, g, o] wc w4) := Lib.hid (hk4.mono (fun y hy _ => by simp at hy; simp; omega))
                clear hP4 hk4
                go_wp2_with fail
                (with_reducible refine D4.out.mono ?_)
                rintro e w5 ⟨rfl, hX5, hk5⟩
                have X5 := Lib.hid hX5
                have P5 := Lib.hid (PgX.keepN P4.out hk5 (B := o) hfg (fun s hs => by simp at hs; omega) (by have h2 := HO.out; omega))
                have O5 := Lib.hid (NXO.out _ (K4.out.trans hk5 (fun y hy _ => by simp at hy; simp [hy])))
                clear hX5 hk5
                go_wp2_with fail
                go_meet
                exact ⟨rfl, _, _, P5, X5, O5, S'⟩
              · skip
                have DA := Lib.hid (x_alloc PA.out x r hfr)
                have DR := Lib.hid (fun w' (hr : RefX (own (.slice A U.length c)) B w' o a) => r_take hr hok hlen2 x r hfr)
                have S' : Hid (Sa (k + 1) (a.ready.taken x r) (U ++ [x])) := Lib.hid (by
                  obtain ⟨_, _, _, h4, h5, h6, h7⟩ := ready_all a
                  refine ⟨show a.ready.tag ≤ k + 1 by rw [h4]; omega, show a.ready.ask ≤ 2 * (k + 1) by rw [h5]; omega, ?_, by have := hS.out.ul; simp; omega⟩
                  show (U ++ [x]).Perm (x :: a.ready.us)
                  rw [h7]
                  exact List.perm_append_comm.trans (List.Perm.cons x hS.out.us))
                have ex : (((x : Int) != (x : Int)) : Bool) = false := by simp
                clear hfr hok hlen2
                go_wp2_with fail
                (with_reducible refine DA.out.mono ?_)
                rintro e w4 ⟨rfl, hP4, hk4⟩
                have P4 := Lib.hid hP4
                have D4 := Lib.hid (DR.out _ (XA.out.keepS hk4 (fun s hs => by have := HO.out; simp at hs; omega) (by simp; omega)))
                have K4 : Hid (Kept [p, g, o] wc w4) := Lib.hid (hk4.mono (fun y hy _ => by simp at hy; simp; omega))
                clear hP4 hk4
                go_wp2_with fail
                (with_reducible refine D4.out.mono ?_)
                rintro e w5 ⟨rfl, hX5, hk5⟩
                have X5 := Lib.hid hX5
                have P5 := Lib.hid (PgX.keepN P4.out hk5 (B := o) hfg (fun s hs => by simp at hs; omega) (by have h2 := HO.out; omega))
                have O5 := Lib.hid (NXO.out _ (K4.out.trans hk5 (fun y hy _ => by simp at hy; simp [hy])))
                have S5 : Hid (B ≤ w5.heap.size) := Lib.hid hX5.lt.2
                clear hX5 hk5
                go_wp2_with (refine app_tol1 (w0 := w5) rfl (.tmp 98) (.tmp 100) rfl B (.slice A U.length c) U x rfl (O5.out.keep0 ((Kept.refl [] w5).alloc _)) w5.heap.size _ _ rfl rfl (by have := S5.out; simp; omega) (Blk.new w5 _ _) hl1000 ?_; intro A7 c7 w7 T7 hk7 own7)
                have K7 : Hid (Kept (own (.slice A U.length c)) w5 w7) := Lib.hid (((Kept.refl _ w5).alloc (.cells #[.int .u64 (x : Int)] 26)).trans hk7 (fun y hy _ => hy))
                have hne : ∀ s, s ∈ own (.slice A U.length c) → B ≤ s := fun s hs => (O5.out.lt s hs).1
                have P7 := Lib.hid (PgX.keepN P5.out K7.out (show p < B ∧ mp < B ∧ g < B by have := HO.out; omega) hne (by have h1 := HO.out; omega))
                have T7h := Lib.hid T7
                have X7 := Lib.hid (RefX.other X5.out K7.out (fun s hs => .inr hs) (fun h => by have h1 := hne _ h; have h2 := HO.out; omega) (fun s hs => ⟨(T7h.out.lt s hs).2, by
                  rcases own7 s hs with h | h
                  · exact .inl h
                  · right; simp only [World.size_alloc] at h; omega⟩))
                clear T7 hk7 own7 hne
                go_wp2_with fail
                go_meet
                exact ⟨rfl, _, _, P7, X7, T7h, S'⟩
            · have g1 : decide (1 ≤ kk) = true := by rw [decide_eq_true_iff]; omega
              have g2 : decide (kk ≤ 3) = false := by rw [decide_eq_false_iff_not]; omega
              rcases hfr : a.ready.fr with _ | ⟨x, r⟩
              · skip
                have DA := Lib.hid (x_full PA.out hfr)
                have DR := Lib.hid (fun w' (hr : RefX (own (.slice A U.length c)) B w' o a) => r_full hr hok hlen2 hfr)
                have S' : Hid (Sa (k + 1) a.ready U) := Lib.hid (by
                  obtain ⟨_, _, _, h4, h5, h6, h7⟩ := ready_all a
                  exact ⟨by rw [h4]; omega, by rw [h5]; omega, by rw [h7]; exact hS.out.us, by have := hS.out.ul; omega⟩)
                have ez : (((0 : Int) != 0) : Bool) = false := by simp
                clear hfr hok hlen2
                go_wp2_with fail
                (with_reducible refine DA.out.mono ?_)
                rintro e w4 ⟨rfl, hP4, hk4⟩
                have P4 := Lib.hid hP4
                have D4 := Lib.hid (DR.out _ (XA.out.keepS hk4 (fun s hs => by have := HO.out; simp at hs; omega) (by simp; omega)))
                have K4 : Hid (Kept [p, g, o] wc w4) := Lib.hid (hk4.mono (fun y hy _ => by simp at hy; simp; omega))
                clear hP4 hk4
                go_wp2_with fail
                (with_reducible refine D4.out.mono ?_)
                rintro e w5 ⟨rfl, hX5, hk5⟩
                have X5 := Lib.hid hX5
                have P5 := Lib.hid (PgX.keepN P4.out hk5 (B := o) hfg (fun s hs => by simp at hs; omega) (by have h2 := HO.out; omega))
                have O5 := Lib.hid (NXO.out _ (K4.out.trans hk5 (fun y hy _ => by simp at hy; simp [hy])))
                clear hX5 hk5
                go_wp2_with fail
                go_meet
                exact ⟨rfl, _, _, P5, X5, O5, S'⟩
              · skip
                have DA := Lib.hid (x_alloc PA.out x r hfr)
                have DR := Lib.hid (fun w' (hr : RefX (own (.slice A U.length c)) B w' o a) => r_take hr hok hlen2 x r hfr)
                have S' : Hid (Sa (k + 1) (a.ready.taken x r) (U ++ [x])) := Lib.hid (by
                  obtain ⟨_, _, _, h4, h5, h6, h7⟩ := ready_all a
                  refine ⟨show a.ready.tag ≤ k + 1 by rw [h4]; omega, show a.ready.ask ≤ 2 * (k + 1) by rw [h5]; omega, ?_, by have := hS.out.ul; simp; omega⟩
                  show (U ++ [x]).Perm (x :: a.ready.us)
                  rw [h7]
                  exact List.perm_append_comm.trans (List.Perm.cons x hS.out.us))
                have ex : (((x : Int) != (x : Int)) : Bool) = false := by simp
                clear hfr hok hlen2
                go_wp2_with fail
                (with_reducible refine DA.out.mono ?_)
                rintro e w4 ⟨rfl, hP4, hk4⟩
                have P4 := Lib.hid hP4
                have D4 := Lib.hid (DR.out _ (XA.out.keepS hk4 (fun s hs => by have := HO.out; simp at hs; omega) (by simp; omega)))
                have K4 : Hid (Kept [p, g, o] wc w4) := Lib.hid (hk4.mono (fun y hy _ => by simp at hy; simp; omega))
                clear hP4 hk4
                go_wp2_with fail
                (with_reducible refine D4.out.mono ?_)
                rintro e w5 ⟨rfl, hX5, hk5⟩
                have X5 := Lib.hid hX5
                have P5 := Lib.hid (PgX.keepN P4.out hk5 (B := o) hfg (fun s hs => by simp at hs; omega) (by have h2 := HO.out; omega))
                have O5 := Lib.hid (NXO.out _ (K4.out.trans hk5 (fun y hy _ => by simp at hy; simp [hy])))
                have S5 : Hid (B ≤ w5.heap.size) := Lib.hid hX5.lt.2
                clear hX5 hk5
                go_wp2_with (refine app_tol1 (w0 := w5) rfl (.tmp 98) (.tmp 100) rfl B (.slice A U.length c) U x rfl (O5.out.keep0 ((Kept.refl [] w5).alloc _)) w5.heap.size _ _ rfl rfl (by have := S5.out; simp; omega) (Blk.new w5 _ _) hl1000 ?_; intro A7 c7 w7 T7 hk7 own7)
                have K7 : Hid (Kept (own (.slice A U.length c)) w5 w7) := Lib.hid (((Kept.refl _ w5).alloc (.cells #[.int .u64 (x : Int)] 26)).trans hk7 (fun y hy _ => hy))
                have hne : ∀ s, s ∈ own (.slice A U.length c) → B ≤ s := fun s hs => (O5.out.lt s hs).1
                have P7 := Lib.hid (PgX.keepN P5.out K7.out (show p < B ∧ mp < B ∧ g < B by have := HO.out; omega) hne (by have h1 := HO.out; omega))
                have T7h := Lib.hid T7
                have X7 := Lib.hid (RefX.other X5.out K7.out (fun s hs => .inr hs) (fun h => by have h1 := hne _ h; have h2 := HO.out; omega) (fun s hs => ⟨(T7h.out.lt s hs).2, by
                  rcases own7 s hs with h | h
                  · exact .inl h
                  · right; simp only [World.size_alloc] at h; omega⟩))
                clear T7 hk7 own7 hne
                go_wp2_with fail
                go_meet
                exact ⟨rfl, _, _, P7, X7, T7h, S'⟩
theorem own : ownKnob Try.prog.godebug = none := by kernel_rfl
theorem laidOut : laidOutB Try.prog = true := by kernel_rfl
set_option maxRecDepth 100000 in
theorem lifted (os : Os) (started : os.Started) (H : Type) (enc : TypeId × Value → H) :
    ReturnsInHanded {} Try.checked os 9 .any (Rows.pageActsSpec.pre6 enc Try.prog Try.f9 Rows.pageActsRow.domain false) (Rows.pageActsSpec.post enc Try.prog Try.f9 false true false false) := by
  refine returnsInHanded_of_change (C := Try.checked) own started (by kernel_rfl) Try.func9
    (ChangeSpec.witness6 (enc := enc) (C := Try.checked) false ⟨#[], #[.agg #[.int .u64 0, .int .u64 0, .int .i64 0], .slice none 0 0], []⟩ 8 (by kernel_rfl) (by kernel_rfl) (by kernel_rfl) (by kernel_rfl)) ?_
  intro W base args ds gs before hval0 hW hcnd _
  have hval : ∀ (j : Nat) t v, Try.f9.params[j]? = some t → args[j]? = some v → Value.okWide Try.prog W .any base t v := hval0
  have hW' := hW
  obtain ⟨p, q, hA0, hV, rfl, hfz, hnd⟩ := hW
  have hA : DataW.TrodAll enc Try.prog W 0 (fun _ => true) true Try.f9.params.toList args.toList ds p := hA0
  rw [Try.params9] at hA hval
  obtain ⟨v0, vs0, d0, ds0, p0, q0, hargs, rfl, rfl, h0, r0⟩ := trodAll_cons hA
  obtain ⟨v1, vs1, d1, ds1, p1, q1, rfl, rfl, rfl, h1, r1⟩ := trodAll_cons r0
  obtain ⟨rfl, rfl, rfl⟩ := trodAll_nil r1
  obtain rfl : args = #[v0, v1] := by cases args; simp_all
  obtain ⟨rfl, rfl⟩ := trodVars_none hV
  have k0 := h0
  have lt0 : ∀ x ∈ p0, x.block < W.heap.size := by obtain ⟨m, hm⟩ := k0; exact DataW.trod_lt m _ _ _ hm
  have k1 := h1
  have lt1 : ∀ x ∈ p1, x.block < W.heap.size := by obtain ⟨m, hm⟩ := k1; exact DataW.trod_lt m _ _ _ hm
  obtain ⟨c0_0, c0_1, c0_2, y0_0, y0_1, y0_2, n0, rfl, rfl, rfl, t0_0, t0_1, t0_2⟩ := open_agg3 Try.underlying71 (by kernel_rfl) (by kernel_rfl) (hval 0 71 v0 rfl rfl) h0
  obtain ⟨a0_0, e0_0, _, w0_0⟩ := DataW.trod_int Try.underlying26 t0_0
  simp only [List.cons.injEq, and_true] at e0_0
  subst e0_0
  obtain ⟨a0_1, e0_1, _, w0_1⟩ := DataW.trod_int Try.underlying26 t0_1
  simp only [List.cons.injEq, and_true] at e0_1
  subst e0_1
  obtain ⟨a0_2, e0_2, _, w0_2⟩ := DataW.trod_int Try.underlying3 t0_2
  simp only [List.cons.injEq, and_true] at e0_2
  subst e0_2
  obtain ⟨a1, len1, cap1, rfl⟩ := okWide_slice Try.underlying59 (hval 1 59 v1 rfl rfl)
  obtain ⟨z1, w1⟩ := isT59_of h1
  clear hA0 hval0
  refine (walk a0_0 a0_1 a0_2 a1 len1 cap1 z1 W w0_0 w0_1 w0_2 w1).mono fun e W' ⟨he, bel⟩ => ?_
  subst he
  exact ⟨_, rfl, _, _, _, [], _, [], hW', trodAll_mk1 (shut_bool Try.underlying4 _), (trodAll_cons_mk (Below.trod laidOut (by kernel_rfl) (of_decide_eq_true (by kernel_rfl)) k0 bel lt0) (trodAll_cons_mk (Below.trod laidOut (by kernel_rfl) (of_decide_eq_true (by kernel_rfl)) k1 bel lt1) trodAll_mk0)), rfl, bel.frame _, fun h => by cases h⟩
theorem over : Rows.pageActsRow.holds Try.pinned (OpenSpec.ofChange Rows.pageActsSpec) :=
  OpenClaim.holds_of_wide 9 Try.f9 rfl rfl rfl rfl rfl rfl rfl ⟨rfl, rfl, rfl, rfl, rfl⟩ rfl rfl rfl rfl rfl (by kernel_rfl) Try.func9 (by kernel_rfl)
    (of_decide_eq_true (by kernel_rfl)) (by unfold Func.isWrapper; first | (rw [if_pos (by decide +kernel)]; kernel_rfl) | (rw [if_neg (by decide +kernel)]; exact ⟨rfl, rfl⟩))
    (fun os started H enc _ => lifted os started H enc)
theorem proved : Rows.PageActsSaid := over
#print axioms proved
end PageActs
end Go.Proofs.Ytgiokigokedakaa
