/- As many are made as are in the rows, or used but not posted; never more than there are; no block is in two. No condition. -/
import Derived.Test.YtgiokigokedakaaPgAct
import Derived.Test.YtgiokigokedakaaActs3
import Derived.Deep.RegionHeld3
import Derived.Deep.DeepCutAuto
import Derived.Deep.CutBlock
import Derived.StillTailTactics
import Derived.Deep.DrawnRows
import Derived.RegionTactic
set_option linter.unusedVariables false
set_option linter.unusedSimpArgs false
namespace Go.Proofs.Ytgiokigokedakaa
open Go.RowKit
namespace PageAdds
open Go.RowKit Go.ChangeShapes Go.WideShapes Go.ChangeAt Go.Joins
/-- Where it stands behind k acts. -/
structure St (Z N k : Nat) (a : PgA) (U : List Nat) : Prop where
  F : a.F = 1024
  Z : a.Z = Z
  N : a.N = N
  tg : a.tag ≤ k
  ak : a.ask ≤ 2 * k
  us : U.Perm a.us
namespace St
variable {Z N k x : Nat} {a : PgA} {U r : List Nat}
theorem new (Z N : Nat) : St Z N 0 (PgA.new 1024 Z N) [] := ⟨rfl, rfl, rfl, Nat.le_refl _, Nat.le_refl _, List.Perm.refl _⟩
theorem more (h : St Z N k a U) : St Z N (k + 1) a U := ⟨h.F, h.Z, h.N, by have := h.tg; omega, by have := h.ak; omega, h.us⟩
theorem full (h : St Z N k a U) : St Z N (k + 1) a.ready U := by
  obtain ⟨h1, h2, h3, h4, h5, h6, h7⟩ := ready_all a
  exact ⟨h1.trans h.F, h2.trans h.Z, h3.trans h.N, by rw [h4]; have := h.tg; omega, by rw [h5]; have := h.ak; omega, by rw [h7]; exact h.us⟩
theorem alloc (h : St Z N k a U) (l : List Nat) : St Z N (k + 1) (a.ready.taken x l) (U ++ [x]) := by
  obtain ⟨h1, h2, h3, h4, h5, h6⟩ := h.full
  refine ⟨h1, h2, h3, h4, h5, ?_⟩
  show (U ++ [x]).Perm (x :: a.ready.us)
  exact List.perm_append_comm.trans (List.Perm.cons x h6)
theorem mem (h : St Z N k a (x :: r)) : x ∈ a.us := h.us.mem_iff.1 (by simp)
theorem er (h : St Z N k a (x :: r)) : r.Perm (a.us.erase x) := by
  have := h.us.erase x
  rwa [List.erase_cons_head] at this
theorem free (h : St Z N k a (x :: r)) : St Z N (k + 1) (a.free1 x) r := ⟨h.F, h.Z, h.N, by have := h.tg; show a.tag ≤ k + 1; omega, by have := h.ak; show a.ask ≤ 2 * (k + 1); omega, h.er⟩
theorem post (h : St Z N k a (x :: r)) : St Z N (k + 1) (a.late.post x) r := ⟨h.F, h.Z, h.N, by have := h.tg; show a.tag + 1 ≤ k + 1; omega, by have := h.ak; show a.ask + 1 + 1 ≤ 2 * (k + 1); omega, h.er⟩
theorem gath (h : St Z N k a U) : St Z N (k + 1) a.gath U := ⟨h.F, h.Z, h.N, by have := h.tg; show a.tag + 1 ≤ k + 1; omega, by have := h.ak; show a.ask + 1 ≤ 2 * (k + 1); omega, h.us⟩
end St
theorem own_cnil {B : Nat} {k : IntKind} {e : TypeId} {w : World} {A : Option Addr} {n c : Nat} {zs : List Int} (h : OwnI B k e w (.slice A n c) zs) : A = none → c = 0 := by
  obtain ⟨A', c', e1, h1, _⟩ := h.slice
  injection e1 with e1 e2 e3
  subst e1 e3
  exact h1
theorem tol_cnil {B : Nat} {w : World} {A : Option Addr} {n c : Nat} {l : List Nat} (h : TolN B w (.slice A n c) l) : A = none → c = 0 := by
  intro hA
  subst hA
  rcases h with ⟨h1, _⟩ | ⟨g, off, c', cur, h1, _⟩
  · cases h1; rfl
  · cases h1
theorem zero_bool (w : World) : (zeroValue 4).run Try.prog w = .ok (.bool false) w := by kernel_rfl
set_option maxRecDepth 100000 in
set_option maxHeartbeats 4000000 in
theorem walk (x0 x1 : Int) (a2 : Option Addr) (len2 cap2 : Nat) (z2 : Nat → Act3) (W : World) (w0 : (Lit.int .u8 x0).wf = true) (w1 : (Lit.int .u8 x1).wf = true) (w2 : IsActs W a2 len2 cap2 z2) :
    Calls Try.prog 8 #[.int .u8 x0, .int .u8 x1, .slice a2 len2 cap2] W fun e W' => e = .returned (.bool true) ∧ Below W.heap.size W W' := by
  have bx := bounds_u8 w0
  have by' := bounds_u8 w1
  obtain ⟨Z, hZ⟩ : ∃ Z : Nat, (Z : Int) = 16 * (x0 % 16 + 1) := ⟨(16 * (x0 % 16 + 1)).toNat, by omega⟩
  obtain ⟨N, hN⟩ : ∃ N : Nat, (N : Int) = x1 % 60 + 1 := ⟨(x1 % 60 + 1).toNat, by omega⟩
  have hmm := @run_makeMap Try.prog
  have C1 := Lib.hid (alive_any W)
  have C2 := Lib.hid (fun w => made_any w x0 x1 bx by' Z N hZ hN)
  have hN60 : 1 ≤ N ∧ N ≤ 60 := by omega
  have hZ256 : 1 ≤ Z ∧ Z ≤ 256 := by omega
  have HI := Lib.hid w2
  have hl47 : (len2 : Int) ≤ 9223372036854775807 := by
    have := w2.cap
    unfold maxLen at this
    omega
  clear w0 w1 w2 hZ hN
  go_enter Try.func8, Try.ntmps8
  go_wp2_with fail
  (with_reducible refine (C1.out).mono ?_)
  rintro e w1 ⟨rfl, hb1⟩
  have hs1 := hb1.size
  (try simp only [World.size_alloc, World.size_setCell, World.size_drew, size_drewN] at hs1)
  go_wp2_with fail
  (with_reducible refine (C2.out _).mono ?_)
  rintro e w2 ⟨p, mp, g, rfl, hP2⟩
  have HB1 := Lib.hid hb1
  have P2 := Lib.hid hP2
  clear hb1 hP2
  by_cases hq : len2 ≤ 100
  case neg =>
    have q0 : decide (100 < (len2 : Int)) = true := by simp; omega
    go_wp2_with fail
    go_ret
    exact ⟨rfl, (((P2.out.kept.then_ HB1.out)).alloc _).below⟩
  have q0 : (len2 : Int) ≤ 100 := by omega
  have q1 : decide (100 < (len2 : Int)) = false := by simp; omega
  obtain ⟨wm, hwm⟩ : ∃ wm, w2.alloc (.cells #[.int .u64 1024, .int .u64 (Z : Int), .int .i64 (N : Int)] 28) = wm := ⟨_, rfl⟩
  have hP3 : PgX w1 wm p mp g (PgA.new 1024 Z N) := by rw [← hwm]; exact P2.out.keep0 ((Kept.refl [] w2).alloc _)
  have hms : wm.heap.size = w2.heap.size + 1 := by rw [← hwm]; simp
  have R0 : Blk wm w2.heap.size 28 #[.int .u64 1024, .int .u64 (Z : Int), .int .i64 (N : Int)] := by rw [← hwm]; exact Blk.new _ _ _
  have P3 := Lib.hid hP3
  have HR0 := Lib.hid R0
  have hW1 := hP3.kept.size
  obtain ⟨B, hB⟩ : ∃ B, wm.heap.size = B := ⟨_, rfl⟩
  obtain ⟨rb, hrb⟩ : ∃ rb, w2.heap.size = rb := ⟨_, rfl⟩
  have hlt := P2.out.lt
  have HB : Hid (p < rb ∧ mp < rb ∧ g < rb ∧ rb < B ∧ w1.heap.size ≤ rb) := Lib.hid (by have := P2.out.kept.size; omega)
  have HWM : Hid (B ≤ wm.heap.size) := Lib.hid (by omega)
  rw [hrb] at HR0
  clear hP3 R0 hms hlt hB P2 hW1
  go_wp2_with fail
  clear hwm hrb
  go_loopw [48, 11] (fun m v wr => ∃ (k : Nat) (a : PgA) (U : List Nat), k ≤ len2 ∧ m = .int .i64 k ∧ Hid (PgX w1 wr p mp g a) ∧ Hid (St Z N k a U) ∧ Hid (TolN B wr v U) ∧ Hid (Blk wr rb 28 #[.int .u64 1024, .int .u64 (Z : Int), .int .i64 (N : Int)]) ∧ Hid (B ≤ wr.heap.size)) (fun m _ _ => (len2 - intOf m).toNat)
  case atStart => exact ⟨0, _, [], Nat.zero_le _, rfl, P3, Lib.hid (St.new Z N), Lib.hid (TolN.nil _ _), HR0, HWM⟩
  case round =>
    obtain ⟨k, a, U, hk, rfl, hP, hS, hV, hR, hsz⟩ := hrel
    by_cases hi : k < len2
    case neg =>
      obtain rfl : k = len2 := by omega
      have K := Lib.hid (hP.out.kept.then_ HB1.out)
      go_wp2_with fail
      go_ret
      exact ⟨rfl, K.out.below⟩
    obtain ⟨xa, rfl, hxl, hxc, y0, y1, y2⟩ := HI.out.get hi
    obtain ⟨z0, z1, z2'⟩ := hxc wr (hP.out.kept.then_ HB1.out)
    have zl : xa.block < wr.heap.size := Nat.lt_of_lt_of_le hxl (hP.out.kept.then_ HB1.out).size
    have di : decide ((k : Int) < (len2 : Int)) = true := by simp; omega
    have dk : (0 : Int) ≤ (k : Int) := by omega
    clear hxc
    go_upto_block 2 with fail
    have hlen : U.length ≤ 100 := by
      obtain ⟨len, _, hok⟩ := hP.out.ok
      have h1 := hS.out.us.length_eq
      have h2 := hok.all.length_eq
      have h3 := hok.made
      have h4 := hS.out.N
      simp at h2
      omega
    go_cut [48, 11] (fun s48 s11 wx => s48 = .int .i64 k ∧ ∃ (a : PgA) (U : List Nat), Hid (PgX w1 wx p mp g a) ∧ Hid (St Z N (k + 1) a U) ∧ Hid (TolN B wx s11 U) ∧ Hid (Blk wx rb 28 #[.int .u64 1024, .int .u64 (Z : Int), .int .i64 (N : Int)]) ∧ Hid (B ≤ wx.heap.size))
    case first =>
      have tg := hS.out.tg
      have ak := hS.out.ak
      generalize (z2 k).k = kk at *
      generalize (z2 k).n = nn at *
      generalize (z2 k).a = aa at *
      have KA : Hid (Kept [] wr (wr.alloc (.cells #[.int .i64 kk, .int .i64 nn, .int .u64 aa] 62))) := Lib.hid ((Kept.refl [] wr).alloc _)
      have PA := Lib.hid (hP.out.keep0 KA.out)
      have VA := Lib.hid (hV.out.keep0 KA.out)
      have RA := Lib.hid (hR.out.keep0 KA.out)
      have SA : Hid (B ≤ (wr.alloc (.cells #[.int .i64 kk, .int .i64 nn, .int .u64 aa] 62)).heap.size) := Lib.hid (by have := hsz.out; simp; omega)
      have NXT : Hid (∀ w' a', PgX w1 w' p mp g a' → Kept [p, g] (wr.alloc (.cells #[.int .i64 kk, .int .i64 nn, .int .u64 aa] 62)) w' → TolN B w' u11 U ∧ Blk w' rb 28 #[.int .u64 1024, .int .u64 (Z : Int), .int .i64 (N : Int)] ∧ B ≤ w'.heap.size) := Lib.hid (fun w' a' hp hk => ⟨VA.out.keepS hk (fun s hs => by have := HB.out; simp at hs; omega), RA.out.keep hk (by have := HB.out; simp; omega), by have := SA.out; have := hk.size; omega⟩)
      have hcase : kk = 4 ∨ (kk = 1 ∧ U ≠ []) ∨ (kk = 2 ∧ U ≠ []) ∨ kk = 0 ∨ (kk ≠ 4 ∧ kk ≠ 0 ∧ ((kk ≠ 1 ∧ kk ≠ 2) ∨ U = [])) := by
        by_cases hu : U = []
        · simp [hu]; omega
        · simp [hu]; omega
      rcases hcase with hkk | ⟨hkk, hu⟩ | ⟨hkk, hu⟩ | hkk | ⟨hk4, hk0, hno⟩
      · have DG := Lib.hid (x_gather PA.out (a.po.length : Int) rfl (by omega) (by omega))
        have e4 : ((kk == 4) : Bool) = true := by rw [hkk]; simp
        have e1 : ((kk == 1) : Bool) = false := by rw [beq_eq_false_iff_ne]; omega
        have e2 : ((kk == 2) : Bool) = false := by rw [beq_eq_false_iff_ne]; omega
        have e0 : ((kk == 0) : Bool) = false := by rw [beq_eq_false_iff_ne]; omega
        clear hkk
        go_wp2_with fail
        (with_reducible refine DG.out.mono ?_)
        rintro e w4 ⟨rfl, hP4, hk4⟩
        obtain ⟨V4, R4, S4⟩ := NXT.out w4 _ hP4 hk4
        have P4 := Lib.hid hP4
        have S' := Lib.hid hS.out.gath
        clear hP4 hk4
        go_wp2_with fail
        go_meet
        exact ⟨rfl, _, _, P4, S', Lib.hid V4, Lib.hid R4, Lib.hid S4⟩
      · obtain ⟨x, r, rfl⟩ : ∃ x r, U = x :: r := by
          cases U with
          | nil => exact absurd rfl hu
          | cons x r => exact ⟨x, r, rfl⟩
        obtain ⟨gv, ov, cv, hv, gvB, gvl, nv, mv, fv⟩ := TolN.first hV.out
        obtain ⟨A', c', hv', hov, hrun⟩ := TolN.tail hV.out
        have V' := Lib.hid (TolN.keep0 hv' KA.out)
        have hxu := hS.out.mem
        have rl : r.length ≤ 100 := by simp at hlen; omega
        have ql : decide ((0 : Int) < (r.length : Int) + 1) = true := by rw [decide_eq_true_iff]; omega
        have ql2 : decide (0 < r.length + 1) = true := by rw [decide_eq_true_iff]; omega
        subst hv
        have hrun' := hrun
        clear hrun hu hv' hlen
        have e4 : ((kk == 4) : Bool) = false := by rw [beq_eq_false_iff_ne]; omega
        have e1 : ((kk == 1) : Bool) = true := by rw [hkk]; simp
        have e2 : ((kk == 2) : Bool) = false := by rw [beq_eq_false_iff_ne]; omega
        have e0 : ((kk == 0) : Bool) = false := by rw [beq_eq_false_iff_ne]; omega
        have OWN : Hid (∀ s, s ∈ own (.slice A' r.length c') → s ∈ own (.slice (some ⟨gv, ov, none⟩) (r.length + 1) cv)) := Lib.hid (by rw [hov]; exact fun s hs => hs)
        have S' := Lib.hid hS.out.free
        clear hkk hov
        have DF := Lib.hid (x_free1 (PA.out.keep0 ((Kept.refl [] _).alloc (.cells #[.int .u64 (x : Int)] 26))) x (wr.heap.size + 1) 1 hxu (Blk.new' _ _ _ (by simp)))
        go_wp2_with fail
        (with_reducible refine DF.out.mono ?_)
        rintro e w4 ⟨rfl, hP4, hk4⟩
        have P4 := Lib.hid hP4
        have K4 : Hid (Kept [p, g] (wr.alloc (.cells #[.int .i64 kk, .int .i64 nn, .int .u64 aa] 62)) w4) := Lib.hid (((Kept.refl [p, g] _).alloc (.cells #[.int .u64 (x : Int)] 26)).trans hk4 (fun y hy _ => hy))
        have V4 := V'.out.keepS K4.out (fun s hs => by have := HB.out; simp at hs; omega)
        obtain ⟨_, R4, S4⟩ := NXT.out w4 _ P4.out K4.out
        have V4h := Lib.hid V4
        clear hP4 hk4 V4 fv gvl nv mv hrun' 
        go_wp2_with fail
        go_meet
        exact ⟨rfl, _, r, P4, S', V4h, Lib.hid R4, Lib.hid S4⟩
      · obtain ⟨x, r, rfl⟩ : ∃ x r, U = x :: r := by
          cases U with
          | nil => exact absurd rfl hu
          | cons x r => exact ⟨x, r, rfl⟩
        obtain ⟨gv, ov, cv, hv, gvB, gvl, nv, mv, fv⟩ := TolN.first hV.out
        obtain ⟨A', c', hv', hov, hrun⟩ := TolN.tail hV.out
        have V' := Lib.hid (TolN.keep0 hv' KA.out)
        have hxu := hS.out.mem
        have rl : r.length ≤ 100 := by simp at hlen; omega
        have ql : decide ((0 : Int) < (r.length : Int) + 1) = true := by rw [decide_eq_true_iff]; omega
        have ql2 : decide (0 < r.length + 1) = true := by rw [decide_eq_true_iff]; omega
        subst hv
        have hrun' := hrun
        clear hrun hu hv' hlen
        have e4 : ((kk == 4) : Bool) = false := by rw [beq_eq_false_iff_ne]; omega
        have e1 : ((kk == 1) : Bool) = false := by rw [beq_eq_false_iff_ne]; omega
        have e2 : ((kk == 2) : Bool) = true := by rw [hkk]; simp
        have e0 : ((kk == 0) : Bool) = false := by rw [beq_eq_false_iff_ne]; omega
        have S' := Lib.hid hS.out.post
        clear hkk hov
        have DC := Lib.hid (x_cell PA.out)
        have DL := Lib.hid (fun w hd (h : PgH w1 w p mp g a hd) => h.look (show a.ask ≤ 1000000000 by omega))
        have DP : Hid (∀ w hd, PgH w1 w p mp g a.late hd → Calls Try.prog 20 #[.pointer (some ⟨p, 0, none⟩), .int .u64 (x : Int), .int .u64 (hd : Int), .int .u64 (a.tag : Int)] w fun e w' => e = .returned (.tuple #[.bool true, .int .i64 0]) ∧ PgH w1 w' p mp g (a.late.post x) x ∧ Kept [p, g] w w') := Lib.hid (fun w hd h => h.post x hxu (show a.tag ≤ 1000000000 by omega) (show a.ask + 1 ≤ 1000000000 by omega))
        go_wp2_with fail
        (with_reducible refine DC.out.mono ?_)
        rintro e w4 ⟨rfl, hk4⟩
        obtain ⟨hd, hPh⟩ := (PA.out.keep0 hk4).h
        have P4 := Lib.hid hPh
        have K4 : Hid (Kept [p, g] (wr.alloc (.cells #[.int .i64 kk, .int .i64 nn, .int .u64 aa] 62)) w4) := Lib.hid (hk4.mono (fun x hx _ => by cases hx))
        clear hPh hk4 fv gvl nv mv hrun'
        go_wp2_with fail
        (with_reducible refine (DL.out _ _ P4.out).mono ?_)
        rintro e w5 ⟨rfl, hP5, hk5⟩
        have P5 := Lib.hid hP5
        have K5 := Lib.hid (K4.out.trans hk5 (fun y hy _ => hy))
        clear hP5 hk5
        go_wp2_with fail
        (with_reducible refine (DP.out _ _ P5.out).mono ?_)
        rintro e w6 ⟨rfl, hP6, hk6⟩
        have P6 := Lib.hid hP6.x
        have K6 := Lib.hid (K5.out.trans hk6 (fun y hy _ => hy))
        have V4 := V'.out.keepS K6.out (fun s hs => by have := HB.out; simp at hs; omega)
        obtain ⟨_, R4, S4⟩ := NXT.out w6 _ P6.out K6.out
        have V4h := Lib.hid V4
        clear hP6 hk6 V4
        go_wp2_with fail
        go_meet
        exact ⟨rfl, _, r, P6, S', V4h, Lib.hid R4, Lib.hid S4⟩
      · obtain ⟨A, c, hv, _⟩ := hV.out.len
        subst hv
        have e4 : ((kk == 4) : Bool) = false := by rw [beq_eq_false_iff_ne]; omega
        have e1 : ((kk == 1) : Bool) = false := by rw [beq_eq_false_iff_ne]; omega
        have e2 : ((kk == 2) : Bool) = false := by rw [beq_eq_false_iff_ne]; omega
        have e0 : ((kk == 0) : Bool) = true := by rw [hkk]; simp
        clear hkk
        rcases hfr : a.ready.fr with _ | ⟨x, r⟩
        · have DA := Lib.hid (x_full PA.out hfr)
          have S' := Lib.hid hS.out.full
          clear hfr
          go_wp2_with fail
          (with_reducible refine DA.out.mono ?_)
          rintro e w4 ⟨rfl, hP4, hk4⟩
          obtain ⟨V4, R4, S4⟩ := NXT.out w4 _ hP4 hk4
          have P4 := Lib.hid hP4
          have V4h := Lib.hid V4
          have R4h := Lib.hid R4
          have S4h := Lib.hid S4
          clear hP4 hk4 V4 R4 S4
          go_wp2_with fail
          go_meet
          exact ⟨rfl, _, _, P4, S', V4h, R4h, S4h⟩
        · have DA := Lib.hid (x_alloc PA.out x r hfr)
          have S' := Lib.hid (hS.out.alloc (x := x) r)
          clear hfr
          go_wp2_with fail
          (with_reducible refine DA.out.mono ?_)
          rintro e w4 ⟨rfl, hP4, hk4⟩
          obtain ⟨V4, R4, S4⟩ := NXT.out w4 _ hP4 hk4
          have P4 := Lib.hid hP4
          have V4h := Lib.hid V4
          have R4h := Lib.hid R4
          have S4h := Lib.hid S4
          clear hP4 hk4 V4 R4 S4
          go_wp2_with (refine app_tol1 (w0 := w4) rfl (.tmp 106) (.tmp 108) rfl B (.slice A U.length c) U x rfl (V4h.out.keep0 ((Kept.refl [] w4).alloc _)) w4.heap.size _ _ rfl rfl (by have := S4h.out; simp; omega) (Blk.new w4 _ _) (by omega) ?_)
          intro A5 c5 w5 V5 hk5 own5
          have hne : ∀ s, s ∈ own (.slice A U.length c) → B ≤ s := fun s hs => (V4h.out.lt s hs).1
          have P5 := Lib.hid (PgX.keepN (P4.out.keep0 ((Kept.refl [] w4).alloc _)) hk5 (show p < B ∧ mp < B ∧ g < B by have := HB.out; omega) hne (by have := HB.out; omega))
          have R5 := Lib.hid ((R4h.out.alloc _).keep hk5 (fun h => by have := hne _ h; have := HB.out; omega))
          have S5 : Hid (B ≤ w5.heap.size) := Lib.hid (by have h1 := hk5.size; have h2 := S4h.out; simp only [World.size_alloc] at h1; omega)
          have V5h := Lib.hid V5
          clear V5 hk5 own5 hne
          go_wp2_with fail
          go_meet
          exact ⟨rfl, _, _, P5, S', V5h, R5, S5⟩
      · have S' := Lib.hid hS.out.more
        obtain ⟨V4, R4, S4⟩ := NXT.out _ _ PA.out (Kept.refl _ _)
        have V4h := Lib.hid V4
        have R4h := Lib.hid R4
        have S4h := Lib.hid S4
        have e4 : ((kk == 4) : Bool) = false := by rw [beq_eq_false_iff_ne]; omega
        have e0 : ((kk == 0) : Bool) = false := by rw [beq_eq_false_iff_ne]; omega
        clear V4 R4 S4
        rcases hno with ⟨hk1, hk2⟩ | hu
        · have e1 : ((kk == 1) : Bool) = false := by rw [beq_eq_false_iff_ne]; omega
          have e2 : ((kk == 2) : Bool) = false := by rw [beq_eq_false_iff_ne]; omega
          go_wp2_with fail
          go_meet
          exact ⟨rfl, _, _, PA, S', V4h, R4h, S4h⟩
        · subst hu
          obtain ⟨A, c, hv, _⟩ := hV.out.len
          simp only [List.length_nil] at hv
          subst hv
          by_cases hk1 : kk = 1
          · have e1 : ((kk == 1) : Bool) = true := by rw [hk1]; simp
            clear hk1
            go_wp2_with fail
            go_meet
            exact ⟨rfl, _, _, PA, S', V4h, R4h, S4h⟩
          · have e1 : ((kk == 1) : Bool) = false := by rw [beq_eq_false_iff_ne]; omega
            by_cases hk2 : kk = 2
            · have e2 : ((kk == 2) : Bool) = true := by rw [hk2]; simp
              clear hk2 hk1
              go_wp2_with fail
              go_meet
              exact ⟨rfl, _, _, PA, S', V4h, R4h, S4h⟩
            · have e2 : ((kk == 2) : Bool) = false := by rw [beq_eq_false_iff_ne]; omega
              go_wp2_with fail
              go_meet
              exact ⟨rfl, _, _, PA, S', V4h, R4h, S4h⟩
    case rest =>
      clear hP hS hV hR hsz hlen y0 y1 y2 z0 z1 z2' zl hxl
      obtain ⟨rfl, a, U, hP, hS, hV, hR, hsz⟩ := hcut
      obtain ⟨w5, hw5⟩ : ∃ w5, w5 = wc := ⟨_, rfl⟩
      subst hw5
      obtain ⟨len, hlen, hok⟩ := hP.out.ok
      have hsum : a.made = a.fr.length + a.lo.length + (a.po.length + a.us.length) := by
        have := hok.all.length_eq
        simp at this
        omega
      have hmN : a.made ≤ N := by have h1 := hok.made; have h2 := hS.out.N; omega
      have hUl : U.length = a.us.length := hS.out.us.length_eq
      have HND : Hid ((a.fr ++ a.lo ++ a.po ++ U).Nodup ∧ ∀ x, x ∈ a.fr ++ a.lo ++ a.po ++ U → ∃ i, i < N ∧ x = 1024 + i * Z) := Lib.hid (by
        have hp : (a.fr ++ a.lo ++ a.po ++ U).Perm (a.fr ++ (a.lo ++ (a.po ++ a.us))) := by
          rw [List.append_assoc, List.append_assoc]
          exact List.Perm.append_left _ (List.Perm.append_left _ (List.Perm.append_left _ hS.out.us))
        refine ⟨hp.nodup_iff.2 hok.nodup, fun x hx => ?_⟩
        obtain ⟨i, hi', rfl⟩ := hok.mem_all (hp.mem_iff.1 hx)
        exact ⟨i, by omega, by unfold PgA.bl; rw [hS.out.F, hS.out.Z]⟩)
      obtain ⟨A, cU, hv, _⟩ := hV.out.len
      subst hv
      have DL := Lib.hid (x_lists hP.out)
      clear hok hlen
      go_wp2_with fail
      (with_reducible refine DL.out.mono ?_)
      rintro e w6 ⟨⟨A1, c1, A2, c2, A3, c3, rfl, hO1, hO2, hO3⟩, hk6⟩
      have hs6 := hk6.size
      have O1 := Lib.hid hO1
      have O2 := Lib.hid hO2
      have O3 := Lib.hid hO3
      have P6 := Lib.hid (hP.out.keep0 hk6)
      have V6 := Lib.hid (hV.out.keep0 hk6)
      have R6 := Lib.hid (hR.out.keep0 hk6)
      have S6 : Hid (B ≤ w6.heap.size) := Lib.hid (by have := hsz.out; omega)
      clear hO1 hO2 hO3 hk6 hs6
      obtain ⟨lf, hlf⟩ : ∃ lf, a.fr.length = lf := ⟨_, rfl⟩
      obtain ⟨ll, hll⟩ : ∃ ll, a.lo.length = ll := ⟨_, rfl⟩
      obtain ⟨lp, hlp⟩ : ∃ lp, a.po.length = lp := ⟨_, rfl⟩
      obtain ⟨lu, hlu⟩ : ∃ lu, U.length = lu := ⟨_, rfl⟩
      rw [hlf] at O1 
      rw [hll] at O2 
      rw [hlp] at O3 
      rw [hlu] at V6
      rw [hlf, hll, hlp, hlu]
      have HLF := Lib.hid hlf
      have HLL := Lib.hid hll
      have HLP := Lib.hid hlp
      have HLU := Lib.hid hlu
      have hsum' : (a.made : Int) = (lf : Int) + (ll : Int) + ((lp : Int) + (lu : Int)) := by omega
      obtain ⟨M, hM⟩ : ∃ M : Int, (a.made : Int) = M := ⟨_, rfl⟩
      obtain ⟨Q, hQ⟩ : ∃ Q : Int, (a.po.length : Int) + (a.us.length : Int) = Q := ⟨_, rfl⟩
      have DM : Hid (∀ w, Kept [] w6 w → Calls Try.prog 16 #[.pointer (some ⟨p, 0, none⟩)] w fun e w' => e = .returned (.int .i64 M) ∧ Kept [] w w') := Lib.hid (fun w hk => by
        have := x_made (P6.out.keep0 hk)
        rwa [hM] at this)
      have DU := Lib.hid (fun w (hk : Kept [] w6 w) => x_used (P6.out.keep0 hk) Q hQ)
      have b1 : (0 : Int) ≤ (lf : Int) + (ll : Int) ∧ (lf : Int) + (ll : Int) ≤ 100 := by omega
      have b2 : IntKind.i64.wrap ((lf : Int) + (ll : Int)) = (lf : Int) + (ll : Int) := IntWalk.i64_in _ (by omega)
      have b3 : IntKind.i64.wrap ((lf : Int) + (ll : Int) + Q) = (lf : Int) + (ll : Int) + Q := IntWalk.i64_in _ (by omega)
      have b4 : IntKind.i64.wrap ((lu : Int) + (lp : Int)) = (lu : Int) + (lp : Int) := IntWalk.i64_in _ (by omega)
      have t1 : ((M != (lf : Int) + (ll : Int) + Q) : Bool) = false := by rw [bne_eq_false_iff_eq]; omega
      have t2 : ((Q != (lu : Int) + (lp : Int)) : Bool) = false := by rw [bne_eq_false_iff_eq]; omega
      have t3 : decide ((N : Int) < M) = false := by simp; omega
      have LB : Hid (lf ≤ 100 ∧ ll ≤ 100 ∧ lp ≤ 100 ∧ lu ≤ 100) := Lib.hid (by omega)
      clear hM hQ hsum' hsum hUl hlf hll hlp hlu
      go_wp2_with fail
      refine wp_region_kept (by kernel_rfl) (by kernel_rfl) ?_
      intro TT FF hne hFF hcl
      have q_r0 := fun x => (Blk.keep0 (R6.out) (hFF x)).cell
      repeat (first | go_big_quiet_step ((first | (go_at_call 16; (with_reducible refine kept_call hcl (DM.out _ (hFF _)))) | (go_at_call 15; (with_reducible refine kept_call hcl (DU.out _ (hFF _)))))) | quiet_step ((first | (go_at_call 16; (with_reducible refine kept_call hcl (DM.out _ (hFF _)))) | (go_at_call 15; (with_reducible refine kept_call hcl (DU.out _ (hFF _)))))))
      refine wpQuiet_nil ?_
      rintro w7 ⟨x, hx⟩
      have hb7 := hFF x
      rw [← hx] at hb7
      clear hx x hne hFF hcl q_r0
      have hs7 := hb7.size
      (try simp only [World.size_alloc, World.size_setCell, World.size_drew, size_drewN] at hs7)
      have hs7 := hb7.size
      have HS67 : Hid (w6.heap.size ≤ w7.heap.size) := Lib.hid hs7
      have P7 := Lib.hid (P6.out.keep0 hb7)
      obtain ⟨wM, hwM⟩ : ∃ wM, w7.alloc (.map #[] 0) = wM := ⟨_, rfl⟩
      obtain ⟨mb, hmb⟩ : ∃ mb, w7.heap.size = mb := ⟨_, rfl⟩
      have SM : Hid (SetI Try.prog 26 .u64 wM mb 0 (fun _ => false)) := Lib.hid (by rw [← hwM, ← hmb]; exact SetI.made _ _ _ _)
      have hsM : wM.heap.size = mb + 1 := by rw [← hwM, ← hmb]; simp
      have KM : Hid (Kept [] w6 wM) := Lib.hid (by rw [← hwM]; exact hb7.alloc _)
      have HSM := Lib.hid hsM
      have HKW := Lib.hid (hP.out.kept)
      have cn1 := own_cnil O1.out
      have cn2 := own_cnil O2.out
      have cn3 := own_cnil O3.out
      have hl1 : Hid (lf = (toI a.fr).length) := Lib.hid (by rw [toI_len]; exact HLF.out.symm)
      have hl2 : Hid (ll = (toI a.lo).length) := Lib.hid (by rw [toI_len]; exact HLL.out.symm)
      have hl3 : Hid (lp = (toI a.po).length) := Lib.hid (by rw [toI_len]; exact HLP.out.symm)
      have hl4 : Hid (lu = (toI U).length) := Lib.hid (by rw [toI_len]; exact HLU.out.symm)
      have CN : Hid ((A1 = none → c1 = 0) ∧ (A2 = none → c2 = 0) ∧ (A3 = none → c3 = 0) ∧ (A = none → cU = 0)) := Lib.hid ⟨cn1, cn2, cn3, tol_cnil V6.out⟩
      clear cn1 cn2 cn3 hb7 hs7 hsM
      go_wp2_with (first
        | (refine app_gen .u64 31 26 8 Try.underlying31 info_u64 (by omega) rfl (.tmp 150) (.tmp 151) rfl wM wM.heap.size _ [] (toI a.fr) rfl (OwnI.made' wM (by first | rfl | (have := HSM.out; omega)) (Nat.le_refl _)) A1 lf c1 hl1.out rfl CN.out.1 ((OwnI.row O1.out).keep (KM.out.alloc _)) ((Kept.refl [] wM).alloc _) (Nat.le_refl _) (by simp) (by have h0 := LB.out; have h1 := hl1.out; have h2 := hl2.out; have h3 := hl3.out; have h4 := hl4.out; simp only [List.length_nil, List.length_append]; omega) ?_; intro A8 n8 c8 w8 hn8 own8 owo8 hk8 hg8 hs8 hc8 hr8; clear owo8 hg8 hc8 hr8; have OW8 := Lib.hid own8; have KW8 := Lib.hid hk8; have HN8 := hn8; clear own8 hk8 hn8 hs8)
        | (refine app_gen .u64 31 26 8 Try.underlying31 info_u64 (by omega) rfl (.tmp 152) (.tmp 153) rfl wM wM.heap.size _ ([] ++ toI a.fr) (toI a.lo) rfl OW8.out A2 ll c2 hl2.out rfl CN.out.2.1 ((OwnI.row O2.out).keep (KW8.out.then_ KM.out)) KW8.out (Nat.le_refl _) KW8.out.size (by have h0 := LB.out; have h1 := hl1.out; have h2 := hl2.out; have h3 := hl3.out; have h4 := hl4.out; simp only [List.length_nil, List.length_append]; omega) ?_; intro A9 n9 c9 w9 hn9 own9 owo9 hk9 hg9 hs9 hc9 hr9; clear owo9 hg9 hc9 hr9; have OW9 := Lib.hid own9; have KW9 := Lib.hid hk9; have HN9 := hn9; clear own9 hk9 hn9 hs9)
        | (refine app_gen .u64 31 26 8 Try.underlying31 info_u64 (by omega) rfl (.tmp 154) (.tmp 155) rfl wM wM.heap.size _ ([] ++ toI a.fr ++ toI a.lo) (toI a.po) rfl OW9.out A3 lp c3 hl3.out rfl CN.out.2.2.1 ((OwnI.row O3.out).keep (KW9.out.then_ KM.out)) KW9.out (Nat.le_refl _) KW9.out.size (by have h0 := LB.out; have h1 := hl1.out; have h2 := hl2.out; have h3 := hl3.out; have h4 := hl4.out; simp only [List.length_nil, List.length_append]; omega) ?_; intro A10 n10 c10 w10 hn10 own10 owo10 hk10 hg10 hs10 hc10 hr10; clear owo10 hg10 hc10 hr10; have OW10 := Lib.hid own10; have KW10 := Lib.hid hk10; have HN10 := hn10; clear own10 hk10 hn10 hs10)
        | (refine app_gen .u64 31 26 8 Try.underlying31 info_u64 (by omega) rfl (.tmp 156) (.tmp 157) rfl wM wM.heap.size _ ([] ++ toI a.fr ++ toI a.lo ++ toI a.po) (toI U) rfl OW10.out A lu cU hl4.out rfl CN.out.2.2.2 ((TolN.row V6.out).keep (KW10.out.then_ KM.out)) KW10.out (Nat.le_refl _) KW10.out.size (by have h0 := LB.out; have h1 := hl1.out; have h2 := hl2.out; have h3 := hl3.out; have h4 := hl4.out; simp only [List.length_nil, List.length_append]; omega) ?_; intro A11 n11 c11 w11 hn11 own11 owo11 hk11 hg11 hs11 hc11 hr11; clear owo11 hg11 hc11 hr11; have OW11 := Lib.hid own11; have KW11 := Lib.hid hk11; have HN11 := hn11; clear own11 hk11 hn11 hs11))
      obtain ⟨L, hL⟩ : ∃ L, a.fr ++ a.lo ++ a.po ++ U = L := ⟨_, rfl⟩
      have HEL : Hid ([] ++ toI a.fr ++ toI a.lo ++ toI a.po ++ toI U = toI L) := Lib.hid (by rw [← hL, toI_app, toI_app, toI_app, List.nil_append])
      have OL : Hid (OwnI wM.heap.size .u64 26 w11 (.slice A11 n11 c11) (toI L)) := Lib.hid (by rw [← HEL.out]; exact OW11.out)
      have hn11 : n11 = L.length := by
        have := HN11.out
        rw [HEL.out, toI_len] at this
        exact this
      rw [hL] at HND
      have hLN : L.length ≤ 60 := by
        have hk : L.length ≤ N := by
          have h1 := HND.out.1
          have h2 : ∀ y, y ∈ L.map (fun x => (x - 1024) / Z) → y < N := fun y hy => by
            obtain ⟨x, hx, rfl⟩ := List.mem_map.1 hy
            obtain ⟨i, hi', rfl⟩ := HND.out.2 x hx
            rw [show 1024 + i * Z - 1024 = i * Z by omega, Nat.mul_div_cancel _ (by omega)]
            exact hi'
          have h3 : (L.map (fun x => (x - 1024) / Z)).Nodup := by
            rw [List.nodup_iff_pairwise_ne, List.pairwise_map]
            refine List.Pairwise.imp_of_mem ?_ h1
            intro x y hx hy hne he
            obtain ⟨i, hi', rfl⟩ := HND.out.2 x hx
            obtain ⟨j, hj', rfl⟩ := HND.out.2 y hy
            rw [show 1024 + i * Z - 1024 = i * Z by omega, show 1024 + j * Z - 1024 = j * Z by omega, Nat.mul_div_cancel _ (by omega), Nat.mul_div_cancel _ (by omega)] at he
            exact hne (by rw [he])
          have := nodup_le N _ h3 h2
          simpa using this
        omega
      subst hn11
      have P11 := Lib.hid (P7.out.keep0 (show Kept [] w7 w11 from KW11.out.then_ (by rw [← hwM]; exact (Kept.refl [] w7).alloc _)))
      have KT : Hid (Kept [] w6 w11) := Lib.hid (KW11.out.then_ KM.out)
      have V11 := Lib.hid (V6.out.keep0 KT.out)
      have R11 := Lib.hid (R6.out.keep0 KT.out)
      have S11 := Lib.hid (SM.out.keep KW11.out (by simp))
      have hs11 : Hid (B ≤ w11.heap.size) := Lib.hid (by have h1 := KT.out.size; have h2 := S6.out; omega)
      have HMB : Hid (B ≤ mb ∧ mb < wM.heap.size ∧ w6.heap.size ≤ mb) := Lib.hid (by
        have h1 := HSM.out
        refine ⟨?_, by omega, by rw [← hmb]; exact HS67.out⟩
        have h2 := S6.out
        have h3 := P7.out
        rw [← hmb]
        exact Nat.le_trans h2 HS67.out)
      obtain ⟨wA, hwA⟩ : ∃ wA, wA = wr := ⟨_, rfl⟩
      subst hwA
      clear hL hwM hmb
      go_loopw [160] (fun v wr => ∃ (j : Nat) (S : Int → Bool), j ≤ L.length ∧ v = .int .i64 j ∧ Hid (SetI Try.prog 26 .u64 wr mb j S) ∧ Hid (∀ i, j ≤ i → i < L.length → S ((L[i]?.getD 0 : Nat) : Int) = false) ∧ Hid (Kept [mb] w11 wr)) (fun v _ => (L.length - intOf v).toNat)
      case atStart => exact ⟨0, _, Nat.zero_le _, rfl, S11, Lib.hid (fun _ _ _ => rfl), Lib.hid (Kept.refl _ _)⟩
      case round =>
        obtain ⟨j, S, hj, rfl, hSj, hSS, hKj⟩ := hrel
        have Pj := Lib.hid (PgX.keepN P11.out hKj.out (show p < mb ∧ mp < mb ∧ g < mb by have h1 := HMB.out; have h2 := HB.out; omega) (fun s hs => by simp at hs; omega) (by have h1 := HMB.out; have h2 := HB.out; omega))
        have Rj := Lib.hid (R11.out.keep hKj.out (by have h1 := HMB.out; have h2 := HB.out; simp; omega))
        have sj : Hid (B ≤ wr.heap.size) := Lib.hid (by have h1 := hKj.out.size; have h2 := hs11.out; omega)
        by_cases hlt : j < L.length
        · have hLd : L[j]? = some (L[j]?.getD 0) := by rw [List.getElem?_eq_getElem hlt]; rfl
          obtain ⟨i, hiN, hix⟩ := HND.out.2 (L[j]?.getD 0) (by rw [List.getElem?_eq_getElem hlt]; exact List.getElem_mem hlt)
          have DI := Lib.hid (fun w => index_bl Z N i hZ256 hN60.2 hiN _ hix w)
          obtain ⟨xb, hxb, hxbl, hxbc⟩ := (OwnI.row (OwnI.keepN OL.out hKj.out (fun s hs => .inl (by simp at hs; have := HMB.out; omega)))) (by rw [toI_len]; omega)
          have xc := hxbc j (by rw [toI_len]; exact hlt)
          rw [toI_get hlt] at xc
          subst hxb
          have hf := hSS.out j (Nat.le_refl _) hlt
          have HOTH : Hid (∀ i, j + 1 ≤ i → i < L.length → (L[i]?.getD 0) ≠ (L[j]?.getD 0)) := Lib.hid (fun i hi' hil => by
            rw [List.getElem?_eq_getElem hil, List.getElem?_eq_getElem hlt]
            exact fun e => List.pairwise_iff_getElem.1 HND.out.1 j i hlt hil (by omega) e.symm)
          have hx64 : L[j]?.getD 0 < 100000 := by
            rw [hix]
            have h1 : i * Z ≤ 60 * 256 := Nat.mul_le_mul (by omega) hZ256.2
            omega
          generalize L[j]?.getD 0 = x at *
          have hwf : (Lit.int .u64 (x : Int)).wf = true := WalkArith.wf_u64 (by omega)
          have dj : decide ((j : Int) < (L.length : Int)) = true := by simp; omega
          have r0 := Rj.out.cell 0
          have r1 := Rj.out.cell 1
          have r2 := Rj.out.cell 2
          have rl := Rj.out.lt
          clear hLd hxbc hix
          go_wp2_with fail
          (with_reducible refine (DI.out _).mono ?_)
          rintro e w12 ⟨rfl, hk12⟩
          have S12 := Lib.hid (hSj.out.keep hk12 (by simp))
          have hlook := S12.out.look Try.underlying26 Try.underlying40 (zero_bool w12) (x : Int) hwf
          rw [hf] at hlook
          obtain ⟨w13, hput, hst13, hk13⟩ := S12.out.put Try.underlying26 Try.underlying40 (by unfold maxLen; omega) (x : Int) hwf true
          have S13 := Lib.hid hst13
          have K13 : Hid (Kept [mb] w11 w13) := Lib.hid ((hKj.out.trans hk12 (fun x hx _ => by cases hx)).trans hk13 (fun x hx _ => hx))
          have SS13 : Hid (∀ i, j + 1 ≤ i → i < L.length → (fun y => if y = (x : Int) then true else S y) ((L[i]?.getD 0 : Nat) : Int) = false) := Lib.hid (fun i hi' hil => by
            have h1 := HOTH.out i hi' hil
            show (if ((L[i]?.getD 0 : Nat) : Int) = (x : Int) then true else S _) = false
            rw [if_neg (by omega)]
            exact hSS.out i (by omega) hil)
          clear hst13 hk13 hk12 hf
          go_wp2_with fail
          go_roundw
          case rel => first | exact ⟨j + 1, _, by omega, by go_num, S13, SS13, K13⟩ | ((repeat apply Exists.intro); exact ⟨⟨j + 1, _, by omega, by go_num, S13, SS13, K13⟩, rfl⟩)
          case measure => simp [intOf]; omega
        · obtain rfl : j = L.length := by omega
          have Vj := Lib.hid (V11.out.keepS hKj.out (fun s hs => .inr (fun hx => by
            have h1 := (V6.out.lt _ hx).2
            simp at hs
            have h2 := HMB.out
            omega)))
          have dj : decide ((L.length : Int) < (L.length : Int)) = false := by simp
          go_wp2_with fail
          go_roundw
          case rel => first | exact ⟨k + 1, a, U, by omega, by go_num, Pj, hS, Vj, Rj, sj⟩ | ((repeat apply Exists.intro); exact ⟨⟨k + 1, a, U, by omega, by go_num, Pj, hS, Vj, Rj, sj⟩, rfl⟩)
          case measure => simp [intOf]; omega
theorem own : ownKnob Try.prog.godebug = none := by kernel_rfl
theorem laidOut : laidOutB Try.prog = true := by kernel_rfl
set_option maxRecDepth 100000 in
theorem lifted (os : Os) (started : os.Started) (H : Type) (enc : TypeId × Value → H) :
    ReturnsInHanded {} Try.checked os 8 .any (Rows.pageAddsSpec.pre6 enc Try.prog Try.f8 Rows.pageAddsRow.domain false) (Rows.pageAddsSpec.post enc Try.prog Try.f8 false true false false) := by
  refine returnsInHanded_of_change (C := Try.checked) own started (by kernel_rfl) Try.func8
    (ChangeSpec.witness6 (enc := enc) (C := Try.checked) false ⟨#[], #[.int .u8 0, .int .u8 0, .slice none 0 0], []⟩ 8 (by kernel_rfl) (by kernel_rfl) (by kernel_rfl) (by kernel_rfl)) ?_
  intro W base args ds gs before hval0 hW hcnd _
  have hval : ∀ (j : Nat) t v, Try.f8.params[j]? = some t → args[j]? = some v → Value.okWide Try.prog W .any base t v := hval0
  have hW' := hW
  obtain ⟨p, q, hA0, hV, rfl, hfz, hnd⟩ := hW
  have hA : DataW.TrodAll enc Try.prog W 0 (fun _ => true) true Try.f8.params.toList args.toList ds p := hA0
  rw [Try.params8] at hA hval
  obtain ⟨v0, vs0, d0, ds0, p0, q0, hargs, rfl, rfl, h0, r0⟩ := trodAll_cons hA
  obtain ⟨v1, vs1, d1, ds1, p1, q1, rfl, rfl, rfl, h1, r1⟩ := trodAll_cons r0
  obtain ⟨v2, vs2, d2, ds2, p2, q2, rfl, rfl, rfl, h2, r2⟩ := trodAll_cons r1
  obtain ⟨rfl, rfl, rfl⟩ := trodAll_nil r2
  obtain rfl : args = #[v0, v1, v2] := by cases args; simp_all
  obtain ⟨rfl, rfl⟩ := trodVars_none hV
  have k2 := h2
  have lt2 : ∀ x ∈ p2, x.block < W.heap.size := by obtain ⟨m, hm⟩ := k2; exact DataW.trod_lt m _ _ _ hm
  obtain ⟨a0, rfl, rfl, rfl, w0⟩ := open_int Try.underlying5 (hval 0 5 v0 rfl rfl) h0
  obtain ⟨a1, rfl, rfl, rfl, w1⟩ := open_int Try.underlying5 (hval 1 5 v1 rfl rfl) h1
  obtain ⟨a2, len2, cap2, rfl⟩ := okWide_slice Try.underlying59 (hval 2 59 v2 rfl rfl)
  obtain ⟨z2, w2⟩ := isT59_of h2
  clear hA0 hval0
  refine (walk a0 a1 a2 len2 cap2 z2 W w0 w1 w2).mono fun e W' ⟨he, bel⟩ => ?_
  subst he
  exact ⟨_, rfl, _, _, _, [], _, [], hW', trodAll_mk1 (shut_bool Try.underlying4 _), (trodAll_cons_mk (shut_int Try.underlying5 w0) (trodAll_cons_mk (shut_int Try.underlying5 w1) (trodAll_cons_mk (Below.trod laidOut (by kernel_rfl) (of_decide_eq_true (by kernel_rfl)) k2 bel lt2) trodAll_mk0))), rfl, bel.frame _, fun h => by cases h⟩
theorem over : Rows.pageAddsRow.holds Try.pinned (OpenSpec.ofChange Rows.pageAddsSpec) :=
  OpenClaim.holds_of_wide 8 Try.f8 rfl rfl rfl rfl rfl rfl rfl ⟨rfl, rfl, rfl, rfl, rfl⟩ rfl rfl rfl rfl rfl (by kernel_rfl) Try.func8 (by kernel_rfl)
    (of_decide_eq_true (by kernel_rfl)) (by unfold Func.isWrapper; first | (rw [if_pos (by decide +kernel)]; kernel_rfl) | (rw [if_neg (by decide +kernel)]; exact ⟨rfl, rfl⟩))
    (fun os started H enc _ => lifted os started H enc)
theorem proved : Rows.PageAddsSaid := over
#print axioms proved
end PageAdds
end Go.Proofs.Ytgiokigokedakaa
