/- With all used, blocks that are freed come again, the last one first. No condition. -/
import Derived.Test.YtgiokigokedakaaPgRun
import Derived.Test.YtgiokigokedakaaCutS
import Derived.Deep.RegionHeld3
import Derived.StillTailTactics
import Derived.Deep.DrawnRows
import Derived.RegionTactic
set_option linter.unusedVariables false
set_option linter.unusedSimpArgs false
namespace Go.Proofs.Ytgiokigokedakaa
open Go.RowKit
namespace PageOrders
open Go.RowKit Go.ChangeShapes Go.WideShapes Go.ChangeAt Go.Joins
def ownI (v : Value) : List Nat := v.ownBlock.toList
theorem kept_ownI {v : Value} {w w' : World} (h : w.grownBy w' v.ownBlock) : Kept (ownI v) w w' :=
  (Kept.refl (ownI v) w).grown h (fun k hk => .inr (by unfold ownI; rw [hk]; simp))
theorem own_in {B : Nat} {k : IntKind} {e : TypeId} {w : World} {v : Value} {zs : List Int} (h : OwnI B k e w v zs) : ∀ s, s ∈ ownI v → B ≤ s ∧ s < w.heap.size := fun s hs => by
  rcases h.2 with ⟨rfl, _⟩ | ⟨g, cap, cur, rfl, hb, hg, _⟩
  · simp [ownI, Value.ownBlock] at hs
  · simp [ownI, Value.ownBlock] at hs
    subst hs
    exact ⟨hb, (Array.getElem?_eq_some_iff.1 hg).1⟩
theorem PgX.keepN {S : List Nat} {W w w' : World} {p mp g : Nat} {a : PgA} (h : PgX W w p mp g a) (hk : Kept S w w') {B : Nat} (hB : p < B ∧ mp < B ∧ g < B) (hS : ∀ s, s ∈ S → B ≤ s) (hW : W.heap.size ≤ B) : PgX W w' p mp g a := by
  obtain ⟨⟨zs, h1⟩, h2, h3⟩ := h
  exact ⟨⟨zs, h1.keepS hk (fun h => by have := hS _ h; omega) (fun h => by have := hS _ h; omega) (fun h => by have := hS _ h; omega)⟩, h2.trans hk (fun x hx hl => by have := hS x hx; omega), h3⟩
def toI (l : List Nat) : List Int := l.map (fun (x : Nat) => (x : Int))
theorem toI_app (l m : List Nat) : toI (l ++ m) = toI l ++ toI m := List.map_append
theorem toI_get {l : List Nat} {j : Nat} (h : j < l.length) : ((toI l)[j]?.getD 0) = ((l[j]?.getD 0 : Nat) : Int) := getD_map l j
theorem row1 {w : World} {g : Nat} {z : Int} (hb : Blk w g 26 #[.int .u64 z]) : RowX .u64 w (some ⟨g, 0, none⟩) [z] := RowX.of_blk hb (fun i hi => by
  have : i = 0 := by simpa using hi
  subst this
  rfl)
def encU (z : Int) : List Value := [.int .u64 z]
theorem encU_k : EncK encU 1 := ⟨by omega, fun _ => rfl, fun x v hv => by
  simp [encU] at hv
  rw [hv]; rfl⟩
theorem flat_encU (zs : List Int) : zs.flatMap encU = zs.map (Value.int .u64) := by
  induction zs with
  | nil => rfl
  | cons z zs ih => rw [List.flatMap_cons, ih]; rfl
theorem ownU {B : Nat} {E : TypeId} {w : World} {v : Value} {zs : List Int} : OwnI B .u64 E w v zs ↔ OwnS B E 1 encU w v zs := by
  unfold OwnI OwnS
  rw [flat_encU]
theorem rowU {w : World} {A : Option Addr} {zs : List Int} (h : RowS encU w A zs) : RowX .u64 w A zs := fun h0 => by
  obtain ⟨x, rfl, hb, hc⟩ := h h0
  refine ⟨x, rfl, hb, fun i hi => hc i _ ?_⟩
  rw [flat_encU, List.getElem?_map, List.getElem?_eq_getElem hi]; rfl
theorem toI_len (l : List Nat) : (toI l).length = l.length := by simp [toI]
theorem toI_take (l : List Nat) (k : Nat) : (toI l).take k = toI (l.take k) := List.map_take.symm
theorem toI_drop (l : List Nat) (k : Nat) : (toI l).drop k = toI (l.drop k) := List.map_drop.symm
theorem mem_eraseIdx_ne {l : List Nat} (h : l.Nodup) {q : Nat} (hq : q < l.length) {y : Nat} (hy : y ∈ l.eraseIdx q) : y ∈ l ∧ y ≠ l[q]?.getD 0 := by
  refine ⟨List.mem_of_mem_eraseIdx hy, fun e => ?_⟩
  rw [List.mem_eraseIdx_iff_getElem] at hy
  obtain ⟨i, hi, hne, hv⟩ := hy
  rw [List.getElem?_eq_getElem hq] at e
  have := List.pairwise_iff_getElem.1 h
  rcases Nat.lt_or_ge i q with h1 | h1
  · exact this i q hi hq h1 (hv.trans e)
  · exact this q i hq hi (by omega) (hv.trans e).symm
set_option maxRecDepth 100000 in
set_option maxHeartbeats 4000000 in
theorem walk (x0 x1 : Int) (a2 : Option Addr) (len2 cap2 : Nat) (z2 : List Int) (W : World) (w0 : (Lit.int .u8 x0).wf = true) (w1 : (Lit.int .u8 x1).wf = true) (w2 : IsRow .u8 W a2 len2 cap2 z2) :
    Calls Try.prog 3 #[.int .u8 x0, .int .u8 x1, .slice a2 len2 cap2] W fun e W' => e = .returned (.bool true) ∧ Below W.heap.size W W' := by
  have bx := bounds_u8 w0
  have by' := bounds_u8 w1
  obtain ⟨ys, hl, hr, _, hwf, hlc, hcm⟩ := w2.seen
  unfold maxLen at hcm
  have hu : ∀ z, z ∈ ys → 0 ≤ z ∧ z ≤ 255 := fun z hz => bounds_u8 (hwf z hz)
  subst hl
  have HU := Lib.hid hu
  have HR := Lib.hid hr
  obtain ⟨Z, hZ⟩ : ∃ Z : Nat, (Z : Int) = 16 * (x0 % 16 + 1) := ⟨(16 * (x0 % 16 + 1)).toNat, by omega⟩
  obtain ⟨N, hN⟩ : ∃ N : Nat, (N : Int) = x1 % 60 + 1 := ⟨(x1 % 60 + 1).toNat, by omega⟩
  have C1 := Lib.hid (alive_any W)
  have C2 := Lib.hid (fun w => made_any w x0 x1 bx by' Z N hZ hN)
  have hN60 : 1 ≤ N ∧ N ≤ 60 := by omega
  clear w0 w1 w2 hr hwf hu hZ hN
  go_enter Try.func3, Try.ntmps3
  go_wp2_with fail
  (with_reducible refine (C1.out).mono ?_)
  rintro e w1 ⟨rfl, hb1⟩
  have hs1 := hb1.size
  (try simp only [World.size_alloc, World.size_setCell, World.size_drew, size_drewN] at hs1)
  go_wp2_with fail
  (with_reducible refine (C2.out _).mono ?_)
  rintro e w2 ⟨p, mp, g, rfl, hP2⟩
  have K2 := Lib.hid (hP2.kept.then_ hb1)
  have HB1 := Lib.hid hb1
  obtain ⟨wm, hwm⟩ : ∃ wm, w2.alloc (.cells #[.int .u64 1024, .int .u64 (Z : Int), .int .i64 (N : Int)] 28) = wm := ⟨_, rfl⟩
  have hlt := hP2.lt
  have hP3 : PgX w1 wm p mp g (PgA.new 1024 Z N) := by rw [← hwm]; exact hP2.keep0 ((Kept.refl [] w2).alloc _)
  have hms : wm.heap.size = w2.heap.size + 1 := by rw [← hwm]; simp
  have B9 : Blk wm w2.heap.size 28 #[.int .u64 1024, .int .u64 (Z : Int), .int .i64 (N : Int)] := by rw [← hwm]; exact Blk.new _ _ _
  have b9 := B9.cell 2
  have l9 := B9.lt
  have HB9 := Lib.hid B9
  clear B9
  have HWM := Lib.hid hwm
  have P3 := Lib.hid hP3
  have hB : p < wm.heap.size ∧ mp < wm.heap.size ∧ g < wm.heap.size := by omega
  have HB := Lib.hid hB
  have hW1 := hP3.kept.size
  clear hP2 hP3 hlt hms
  by_cases hq : ys.length ≤ 100
  case neg =>
    have q0 : decide (100 < (ys.length : Int)) = true := by simp; omega
    have hW1W := hb1
    clear hwm
    go_wp2_with fail
    go_ret
    exact ⟨rfl, (K2.out.alloc _).below⟩
  have q0 : (ys.length : Int) ≤ 100 := by omega
  have FN := Lib.hid (Fsh.new 1024 Z N)
  have hNn : (0 : Int) < (N : Int) := by omega
  obtain ⟨bl, hbl⟩ : ∃ bl : Nat → Nat, bl = fun k => 1024 + k * Z := ⟨_, rfl⟩
  have HBL := Lib.hid hbl
  clear hbl
  go_wp2_with fail
  go_loopw [11, 43] (fun u v wr => ∃ (i : Nat) (a : PgA), i ≤ N ∧ v = .int .i64 i ∧ Hid (PgX w1 wr p mp g a) ∧ Hid (Fsh 1024 Z N a i) ∧ Hid (OwnI wm.heap.size .u64 26 wr u (toI ((List.range i).map bl))) ∧ wm.heap.size ≤ wr.heap.size) (fun _ v _ => (N - intOf v).toNat)
  case atStart => exact ⟨0, _, Nat.zero_le _, rfl, P3, FN, Lib.hid (OwnI.nil _ _ _ _), Nat.le_refl _⟩
  case round =>
    obtain ⟨i, a, hin, rfl, hP, hF, hO, hsz⟩ := hrel
    have hlr := hP.out.lt
    by_cases hi : i < N
    · obtain ⟨r, hrd, hF'⟩ := hF.out.step hi
      have DA := Lib.hid (x_alloc hP.out _ r hrd)
      have HF' := Lib.hid hF'
      have HE : Hid (toI ((List.range (i + 1)).map bl) = toI ((List.range i).map bl) ++ [((1024 + i * Z : Nat) : Int)]) := Lib.hid (by rw [List.range_succ, List.map_append, toI_app, HBL.out]; rfl)
      have hlen : (toI ((List.range i).map bl)).length = i := by simp [toI]
      have HLEN := Lib.hid hlen
      generalize 1024 + i * Z = x at *
      have di : decide ((i : Int) < (N : Int)) = true := by simp; omega
      clear hrd hF' hlen
      go_wp2_with fail
      (with_reducible refine DA.out.mono ?_)
      rintro e w4 ⟨rfl, hP4, hk4⟩
      have P4 := Lib.hid hP4
      have hs4 := hk4.size
      have hkw := hP4.kept
      have O4 := Lib.hid (hO.out.keepS hk4 (fun s hs => by have := HB.out; simp at hs; omega))
      obtain ⟨A4, c4, hv4, _⟩ := O4.out.slice
      rw [hv4] at O4
      clear hP4 hk4
      go_wp2_with (refine app_gen .u64 31 26 8 Try.underlying31 info_u64 (by omega) rfl (.tmp 52) (.tmp 54) rfl w1 wm.heap.size _ _ [(x : Int)] rfl (O4.out.kept ((Kept.refl [] w4).alloc _)) _ _ _ rfl rfl (fun h => by cases h) (row1 (Blk.new _ _ _)) (hkw.alloc _) hW1 (by simp; omega) (by have := HLEN.out; simp; omega) ?_)
      intro A5 n5 c5 w5 hn5 own5 owo5 hk5 hg5 hs5 hc5 hr5
      have HE5 : Hid (OwnI wm.heap.size .u64 26 w5 (.slice A5 n5 c5) (toI ((List.range (i + 1)).map bl))) := Lib.hid (by rw [HE.out]; exact own5)
      have P5 : Hid (PgX w1 w5 p mp g (a.ready.taken x r)) := Lib.hid (PgX.keepN (P4.out.keep0 ((Kept.refl [] w4).alloc _)) (kept_ownI hg5) HB.out (fun s hs => (own_in O4.out s hs).1) hW1)
      have hz5 : wm.heap.size ≤ w5.heap.size := by first | omega | (simp at hs5; omega)
      clear own5 owo5 hk5 hg5 hs5 hc5 hr5 hn5
      go_wp2_with fail
      go_roundw
      case rel => first | exact ⟨i + 1, _, by omega, by go_num, P5, HF', HE5, hz5⟩ | ((repeat apply Exists.intro); exact ⟨⟨i + 1, _, by omega, by go_num, P5, HF', HE5, hz5⟩, rfl⟩)
      case measure => simp [intOf]; omega
    · obtain rfl : i = N := by omega
      have hnx := hF.out.all
      have hus := hF.out.us
      rw [← HBL.out] at hus
      have hok := hP.out.ok
      obtain ⟨len, _, hok⟩ := hok
      have hnd : ((List.range i).map bl).Nodup := by
        have := hok.nodup_us
        rw [hus] at this
        exact (List.reverse_perm _).nodup_iff.1 this
      obtain ⟨U, hU⟩ : ∃ U, (List.range i).map bl = U := ⟨_, rfl⟩
      rw [hU] at hO hus hnd
      have hUl : U.length = i := by rw [← hU]; simp
      have hmem : ∀ x, x ∈ U → x ∈ a.us := fun x hx => by rw [hus]; simpa using hx
      have hfr : a.fr = [] ∧ a.lo = [] := by rcases hnx.2 with ⟨h1, h2⟩ | ⟨h1, h2⟩ <;> exact ⟨h1, h2⟩
      have HS0 : Hid (a.fr = [] ∧ a.lo = ([] : List Nat).reverse ∧ a.made = a.N ∧ U.Nodup ∧ (∀ x, x ∈ U → x ∈ a.us)) := Lib.hid ⟨hfr.1, hfr.2, hnx.1, hnd, hmem⟩
      obtain ⟨wA, hwA⟩ : ∃ wA, wA = wr := ⟨_, rfl⟩
      subst hwA
      have O0 := Lib.hid hO.out
      have P0 := Lib.hid hP.out
      clear hnx hus hok hnd hU hmem hfr hF hO hP
      go_wp2_with fail
      go_loopw [11, 14, 59] (fun u f v wr => ∃ (j : Nat) (U fr : List Nat) (a : PgA) (Bu : Nat), j ≤ ys.length ∧ v = .int .i64 j ∧ Hid (OwnI Bu .u64 26 wr u (toI U)) ∧ Hid (OwnI wm.heap.size .u64 26 wr f (toI fr)) ∧ Hid (∀ s, s ∈ ownI f → s < Bu) ∧ (wm.heap.size ≤ Bu ∧ Bu ≤ wr.heap.size) ∧ Hid (PgX w1 wr p mp g a) ∧ Hid (a.fr = [] ∧ a.lo = fr.reverse ∧ a.made = a.N ∧ U.Nodup ∧ (∀ x, x ∈ U → x ∈ a.us)) ∧ U.length + fr.length = i) (fun _ _ v _ => (ys.length - intOf v).toNat)
      case atStart => exact ⟨0, U, [], a, wm.heap.size, Nat.zero_le _, rfl, O0, Lib.hid (OwnI.nil _ _ _ _), Lib.hid (fun s hs => by simp [ownI, Value.ownBlock] at hs), ⟨Nat.le_refl _, hsz⟩, P0, HS0, by simpa using hUl⟩
      case round =>
        obtain ⟨j, U, fr, a, Bu, hj, rfl, hO, hF, hD, hBu, hP, hS, hUf⟩ := hrel
        by_cases hgo : j < ys.length ∧ 0 < U.length
        · obtain ⟨hjl, hU0⟩ := hgo
          obtain ⟨x, rfl, hxl, hcs⟩ := HR.out (by omega)
          have c0 : wr.cell? (x.add j) = some (.int .u8 (ys[j]?.getD 0)) := (World.cell?_of_block (by rw [add_block]; exact (hP.out.kept.then_ (HB1.out)).block x.block hxl (by simp))).trans (hcs j hjl)
          have hk := HU.out (ys[j]?.getD 0) (by rw [List.getElem?_eq_getElem hjl]; exact List.getElem_mem hjl)
          have hxr : x.block < wr.heap.size := by have := (hP.out.kept.then_ (HB1.out)).size; omega
          generalize ys[j]?.getD 0 = k at *
          obtain ⟨q, hq⟩ : ∃ q : Nat, k % (U.length : Int) = (q : Int) := ⟨(k % (U.length : Int)).toNat, by
            have := Int.emod_nonneg k (show (U.length : Int) ≠ 0 by omega)
            omega⟩
          have hqU : q < U.length := by have := Int.emod_lt_of_pos k (show 0 < (U.length : Int) by omega); omega
          have t6 : Int.tmod k (U.length : Int) = (q : Int) := by rw [Int.tmod_eq_emod_of_nonneg hk.1]; exact hq
          have n0 : ((U.length : Int) == 0) = false := by rw [beq_eq_false_iff_ne]; omega
          have n1 : ¬ ((U.length : Int) = 0) := by omega
          have dj : decide ((j : Int) < (ys.length : Int)) = true := by simp; omega
          have hyU : U[q]?.getD 0 ∈ U := by rw [List.getElem?_eq_getElem hqU]; exact List.getElem_mem hqU
          have hyus := hS.out.2.2.2.2 _ hyU
          obtain ⟨A, c, hv, hA0, hrow, _⟩ := hO.out.slice
          rw [toI_len] at hv
          subst hv
          obtain ⟨Af, cf, hvf, _⟩ := hF.out.slice
          rw [toI_len] at hvf
          subst hvf
          obtain ⟨xa, hxa, hxb, hxc⟩ := hrow (by rw [toI_len]; omega)
          subst hxa
          have c1 := hxc q (by rw [toI_len]; exact hqU)
          rw [toI_get hqU] at c1
          have HMEM := Lib.hid (fun y (hy : y ∈ U.eraseIdx q) => mem_eraseIdx_ne hS.out.2.2.2.1 hqU hy)
          obtain ⟨y, hy⟩ : ∃ y, U[q]?.getD 0 = y := ⟨_, rfl⟩
          rw [hy] at c1 hyU hyus
          rw [hy] at HMEM
          have HY := Lib.hid hy
          have hqm : q < (toI U).length := by rw [toI_len]; exact hqU
          have hqk := Lib.hid hqm
          obtain ⟨wq, hwq⟩ : ∃ wq, wr.alloc (.cells #[.int .u64 (y : Int)] 26) = wq := ⟨_, rfl⟩
          have hkq : Kept [] wr wq := by rw [← hwq]; exact (Kept.refl [] wr).alloc _
          have DF := Lib.hid (x_free1 (hP.out.keep0 hkq) y wr.heap.size 1 hyus (by rw [← hwq]; exact Blk.new _ _ _))
          have HKQ := Lib.hid hkq
          have HYU := Lib.hid hyus
          clear hrow hxc hy hyU hyus hqm hkq hq
          have HWQ := Lib.hid hwq
          have q1 : (0 : Int) ≤ (q : Int) := by omega
          have q2 : (q : Int) < (U.length : Int) := by omega
          clear hwq
          go_wp2_with fail
          rw [HWQ.out]
          (with_reducible refine DF.out.mono ?_)
          rintro e w4 ⟨rfl, hP4, hk4⟩
          have P4 := Lib.hid hP4
          have hs4 := hk4.size
          have hkw := hP4.kept
          have hsq := HKQ.out.size
          have O4 := Lib.hid ((hO.out.kept HKQ.out).keepS hk4 (fun s hs => by have := HB.out; simp at hs; omega))
          have F4 := Lib.hid ((hF.out.kept HKQ.out).keepS hk4 (fun s hs => by have := HB.out; simp at hs; omega))
          obtain ⟨xb, hxb', hxb2, hxc2⟩ := (OwnI.row O4.out) (by have := hqk.out; omega)
          cases hxb'
          have c2 := hxc2 q hqk.out
          rw [toI_get hqU, HY.out] at c2
          clear hP4 hk4 hxc2 c1
          go_wp2_with (refine app_gen .u64 31 26 8 Try.underlying31 info_u64 (by omega) rfl (.tmp 79) (.tmp 84) rfl w1 wm.heap.size _ _ [(y : Int)] rfl (F4.out.kept ((Kept.refl [] w4).alloc _)) _ _ _ rfl rfl (fun h => by cases h) (row1 (Blk.new _ _ _)) (hkw.alloc _) hW1 (by simp; omega) (by have := toI_len fr; simp only [List.length_cons, List.length_nil]; omega) ?_)
          intro A5 n5 c5 w5 hn5 own5 owo5 hk5 hg5 hs5 hc5 hr5
          have F5 : Hid (OwnI wm.heap.size .u64 26 w5 (.slice A5 n5 c5) (toI (fr ++ [y]))) := Lib.hid (by rw [toI_app]; exact own5)
          have O5 : Hid (OwnI Bu .u64 26 w5 (.slice (some xa) U.length c) (toI U)) := Lib.hid ((O4.out.kept ((Kept.refl [] w4).alloc _)).keepS (kept_ownI hg5) (fun s hs => hD.out s hs))
          have P5 : Hid (PgX w1 w5 p mp g (a.free1 y)) := Lib.hid (PgX.keepN (P4.out.keep0 ((Kept.refl [] w4).alloc _)) (kept_ownI hg5) HB.out (fun s hs => (own_in F4.out s hs).1) hW1)
          have hz5 : wm.heap.size ≤ w5.heap.size ∧ Bu ≤ w5.heap.size := by first | omega | (simp at hs5; omega)
          have D5 : Hid (∀ s, s ∈ ownI (.slice A5 n5 c5) → s < w5.heap.size) := Lib.hid (fun s hs => (own_in F5.out s hs).2)
          obtain ⟨⟨hT5, hA0', hr3⟩, _⟩ := own_cuts encU_k 31 26 Try.underlying31 (fun w => by simp [go_sem]) (ownU.1 O5.out) q (by have := hqk.out; omega)
          obtain ⟨_, A2, c2', hD5, hc2, hr2'⟩ := own_cuts encU_k 31 26 Try.underlying31 (fun w => by simp [go_sem]) (ownU.1 O5.out) (q + 1) hqk.out
          have hr2 : ∀ w, (Instr.slice 31 (.slice (some xa) U.length c) (some (.int .i64 ((q : Int) + 1))) none none).run Try.prog w = .ok (.slice A2 (U.length - (q + 1)) c2') w := fun w => hr2' w
          have HN1 : Hid (U.length - (q + 1) = ((toI U).drop (q + 1)).length) := Lib.hid (by simp [toI])
          have HN2 : Hid (q = ((toI U).take q).length) := Lib.hid (by have := hqk.out; simp; omega)
          have HE : Hid ((toI U).take q ++ (toI U).drop (q + 1) = toI (U.eraseIdx q)) := Lib.hid (by rw [toI_take, toI_drop, ← toI_app, List.eraseIdx_eq_take_drop_succ])
          have HT5 := Lib.hid hT5
          have HD5 := Lib.hid hD5
          have hUN : U.length ≤ 1000 := by omega
          have HUE : Hid ((U.eraseIdx q).length + (fr ++ [y]).length = i) := Lib.hid (by rw [List.length_eraseIdx_of_lt hqU]; simp; omega)
          clear own5 owo5 hk5 hg5 hs5 hc5 hr5 hn5 hT5 hD5 hr2' hA0' hO hF hP hD
          obtain ⟨i0, hi, hz0, hz1, hz2⟩ := info_parts info_u64
          have hI := Lib.hid hi
          have hZ0 := Lib.hid hz0
          clear hi hz0
          have hw1 : IntKind.i64.wrap ((q : Int) + 1) = (q : Int) + 1 := IntWalk.i64_in _ (by omega)
          have q3 : (0 : Int) ≤ (q : Int) + 1 := by omega
          have q4 : (q : Int) + 1 ≤ (U.length : Int) := by omega
          go_wp2_with fail
          go_region_held3 (fun _ => True) (trivial) (first | (refine step_app_S encU_k 31 26 i0 _ 8 Try.underlying31 hI.out hZ0.out hz1 hz2 rfl (by omega) (by rfl) (.tmp 86) (.tmp 89) (by rfl) w5 w5.heap.size _ [] ((toI U).take q) (by rfl) (OwnS.drew (OwnS.made _ (by simp) (by simp))) _ _ _ HN2.out (by rfl) hA0 (HT5.out.keep (by (repeat' (first | (with_reducible exact Kept.refl _ _) | (with_reducible assumption) | (with_reducible refine Kept.then_ (by with_reducible assumption) ?_) | (with_reducible refine Kept.thenS (by with_reducible assumption) ?_) | (with_reducible refine Kept.alloc ?_ _) | (with_reducible refine Kept.drew ?_) | (with_reducible refine Kept.drewN ?_ _) | (with_reducible refine Kept.setNew ?_ ?_ _) | ((try simp only [World.size_alloc, World.size_setCell, World.size_drew, size_drewN] at *); (try dsimp only); omega))))) (by (repeat' (first | (with_reducible exact Kept.refl _ _) | (with_reducible assumption) | (with_reducible refine Kept.then_ (by with_reducible assumption) ?_) | (with_reducible refine Kept.thenS (by with_reducible assumption) ?_) | (with_reducible refine Kept.alloc ?_ _) | (with_reducible refine Kept.drew ?_) | (with_reducible refine Kept.drewN ?_ _) | (with_reducible refine Kept.setNew ?_ ?_ _) | ((try simp only [World.size_alloc, World.size_setCell, World.size_drew, size_drewN] at *); (try dsimp only); omega)))) (Nat.le_refl _) (by simp only [World.size_alloc, World.size_drew]; omega) (by have := HN2.out; simp only [List.length_nil]; omega) ?_; intro A6 n6 c6 w6 hn6 own6 hk6 ho6 hs6) | (refine step_app_S encU_k 31 26 i0 _ 8 Try.underlying31 hI.out hZ0.out hz1 hz2 rfl (by omega) (by rfl) (.tmp 90) (.tmp 94) (by rfl) w5 w5.heap.size _ ([] ++ (toI U).take q) ((toI U).drop (q + 1)) (by rfl) own6 _ _ _ HN1.out (by rfl) hc2 (HD5.out.keep (by (repeat' (first | (with_reducible exact Kept.refl _ _) | (with_reducible assumption) | (with_reducible refine Kept.then_ (by with_reducible assumption) ?_) | (with_reducible refine Kept.thenS (by with_reducible assumption) ?_) | (with_reducible refine Kept.alloc ?_ _) | (with_reducible refine Kept.drew ?_) | (with_reducible refine Kept.drewN ?_ _) | (with_reducible refine Kept.setNew ?_ ?_ _) | ((try simp only [World.size_alloc, World.size_setCell, World.size_drew, size_drewN] at *); (try dsimp only); omega))))) (by (repeat' (first | (with_reducible exact Kept.refl _ _) | (with_reducible assumption) | (with_reducible refine Kept.then_ (by with_reducible assumption) ?_) | (with_reducible refine Kept.thenS (by with_reducible assumption) ?_) | (with_reducible refine Kept.alloc ?_ _) | (with_reducible refine Kept.drew ?_) | (with_reducible refine Kept.drewN ?_ _) | (with_reducible refine Kept.setNew ?_ ?_ _) | ((try simp only [World.size_alloc, World.size_setCell, World.size_drew, size_drewN] at *); (try dsimp only); omega)))) (Nat.le_refl _) (by have := hk6.size; omega) (by have := HN1.out; have := HN2.out; simp only [List.nil_append]; omega) ?_; intro A7 n7 c7 w7 hn7 own7 hk7 ho7 hs7))
          have O7 : Hid (OwnI w5.heap.size .u64 26 w7 (.slice A7 n7 c7) (toI (U.eraseIdx q))) := Lib.hid (by rw [← HE.out]; exact ownU.2 own7)
          have F7 := Lib.hid (F5.out.kept hk7)
          have P7 := Lib.hid (P5.out.keep0 hk7)
          have hs7' := hk7.size
          have S7 : Hid ((a.free1 y).fr = [] ∧ (a.free1 y).lo = (fr ++ [y]).reverse ∧ (a.free1 y).made = (a.free1 y).N ∧ (U.eraseIdx q).Nodup ∧ (∀ x, x ∈ U.eraseIdx q → x ∈ (a.free1 y).us)) := by
            obtain ⟨s1, s2, s3, s4, s5⟩ := hS.out
            refine Lib.hid ⟨s1, ?_, s3, s4.sublist (List.eraseIdx_sublist U q), fun z hz => ?_⟩
            · show y :: a.lo = _
              rw [s2, List.reverse_append]; rfl
            · obtain ⟨h1, h2⟩ := HMEM.out z hz
              exact (List.mem_erase_of_ne h2).2 (s5 z h1)
          clear own6 own7 hk6 hk7 ho6 ho7 hs6 hs7 hn6 hn7
          go_wp2_with fail
          go_roundw
          case rel => first | exact ⟨j + 1, U.eraseIdx q, fr ++ [y], a.free1 y, w5.heap.size, by omega, by go_num, O7, F7, D5, ⟨hz5.1, hs7'⟩, P7, S7, HUE.out⟩ | ((repeat apply Exists.intro); exact ⟨⟨j + 1, U.eraseIdx q, fr ++ [y], a.free1 y, w5.heap.size, by omega, by go_num, O7, F7, D5, ⟨hz5.1, hs7'⟩, P7, S7, HUE.out⟩, rfl⟩)
          case measure => simp [intOf]; omega
        · have hcase : ¬ (j < ys.length) ∨ (j < ys.length ∧ U.length = 0) := by omega
          obtain ⟨A, c, hv, hA0, hrow, _⟩ := hO.out.slice
          rw [toI_len] at hv
          subst hv
          obtain ⟨Af, cf, hvf, _⟩ := hF.out.slice
          rw [toI_len] at hvf
          subst hvf
          have NX : Hid (Next a fr.reverse) := Lib.hid ⟨hS.out.2.2.1, .inr ⟨hS.out.1, hS.out.2.1⟩⟩
          obtain ⟨wB, hwB⟩ : ∃ wB, wB = wr := ⟨_, rfl⟩
          subst hwB
          refine hcase.elim (fun hcase => ?way1) (fun hcase => ?way2)
          case' way1 =>
            have dj : decide ((j : Int) < (ys.length : Int)) = false := by simp; omega
            clear hrow
            go_wp2_with fail
          case' way2 =>
            have dj : decide ((j : Int) < (ys.length : Int)) = true := by simp; omega
            obtain ⟨x, rfl, hxl, hcs⟩ := HR.out (by omega)
            have c0 : wB.cell? (x.add j) = some (.int .u8 (ys[j]?.getD 0)) := (World.cell?_of_block (by rw [add_block]; exact (hP.out.kept.then_ (HB1.out)).block x.block hxl (by simp))).trans (hcs j hcase.1)
            have hxr : x.block < wB.heap.size := by have := (hP.out.kept.then_ (HB1.out)).size; omega
            obtain ⟨_, hU0⟩ := hcase
            generalize ys[j]?.getD 0 = k at *
            have q1 : (0 : Int) ≤ (j : Int) := by omega
            have n0 : ((U.length : Int) == 0) = true := by rw [hU0]; rfl
            clear hrow hcs hU0
            go_wp2_with fail
          all_goals (
            have HSZ := Lib.hid hBu
            clear hO hD hS hBu
            have hw1 : IntKind.i64.wrap ((fr.length : Int) - 1) = (fr.length : Int) - 1 := IntWalk.i64_in _ (by omega)
            go_wp2_with fail
            go_loopw [18] (fun v wr => ∃ (m : Nat) (a : PgA), m ≤ fr.length ∧ v = .int .i64 ((m : Int) - 1) ∧ Hid (PgX w1 wr p mp g a) ∧ Hid (Next a (fr.take m).reverse) ∧ Hid (OwnI wm.heap.size .u64 26 wr (.slice Af fr.length cf) (toI fr)) ∧ wm.heap.size ≤ wr.heap.size) (fun v _ => (intOf v + 1).toNat)
            case atStart => exact ⟨fr.length, a, Nat.le_refl _, rfl, hP, Lib.hid (by rw [List.take_length]; exact NX.out), hF, by have := HSZ.out; omega⟩
            case round =>
              obtain ⟨m, b, hm, rfl, hPb, hN, hFb, hsb⟩ := hrel
              rcases m with _ | m
              · have hnn := hN.out.none
                have DX := Lib.hid (x_full hPb.out hnn.1)
                clear hnn
                go_wp2_with fail
                (with_reducible refine DX.out.mono ?_)
                rintro e w9 ⟨rfl, hP9, _⟩
                have K9 := Lib.hid (hP9.kept.then_ HB1.out)
                clear hP9
                go_wp2_with fail
                go_ret
                exact ⟨rfl, K9.out.below⟩
              · rw [show (((m + 1 : Nat) : Int) - 1) = (m : Int) by omega]
                have hmf : m < fr.length := by omega
                have hmf2 : m < (toI fr).length := by rw [toI_len]; exact hmf
                obtain ⟨xf, hxf, hxf2, hxc2⟩ := (OwnI.row hFb.out) (by omega)
                subst hxf
                have hx9 : (fr.take (m + 1)).reverse = (fr[m]?.getD 0) :: (fr.take m).reverse := by
                  rw [List.take_add_one, List.getElem?_eq_getElem hmf, List.reverse_append]; rfl
                have hN2 := hN.out
                rw [hx9] at hN2
                obtain ⟨h1, h2, _, _⟩ := hN2.step
                have DA := Lib.hid (x_alloc hPb.out _ _ h1)
                have HN9 := Lib.hid h2
                have HX9 := Lib.hid (fun w (h : RowX .u64 w (some xf) (toI fr)) => by
                  obtain ⟨x, hx, hb, hc⟩ := h (by omega)
                  cases hx
                  have := hc m hmf2
                  rw [toI_get hmf] at this
                  exact (⟨hb, this⟩ : xf.block < w.heap.size ∧ w.cell? (xf.add m) = some (.int .u64 ((fr[m]?.getD 0 : Nat) : Int))))
                generalize fr[m]?.getD 0 = y at *
                have q1 : (0 : Int) ≤ (m : Int) := by omega
                have q2 : (m : Int) < (fr.length : Int) := by omega
                clear hx9 hN2 h1 h2 hxc2 hmf2 hxf2
                have hw2 : IntKind.i64.wrap ((m : Int) - 1) = (m : Int) - 1 := IntWalk.i64_in _ (by omega)
                go_wp2_with fail
                (with_reducible refine DA.out.mono ?_)
                rintro e w9 ⟨rfl, hP9, hk9⟩
                have hs9 := hk9.size
                have P9 := Lib.hid hP9
                have F9 := Lib.hid (hFb.out.keepS hk9 (fun s hs => by have := HB.out; simp at hs; omega))
                obtain ⟨hxl9, c9⟩ := HX9.out _ (OwnI.row F9.out)
                clear hP9 hk9
                go_wp2_with fail
                go_roundw
                case rel => first | exact ⟨m, _, by omega, rfl, P9, HN9, F9, by omega⟩ | ((repeat apply Exists.intro); exact ⟨⟨m, _, by omega, rfl, P9, HN9, F9, by omega⟩, rfl⟩)
                case measure => first | (simp [intOf]; done) | (simp [intOf]; omega))
theorem own : ownKnob Try.prog.godebug = none := by kernel_rfl
theorem laidOut : laidOutB Try.prog = true := by kernel_rfl
set_option maxRecDepth 100000 in
theorem lifted (os : Os) (started : os.Started) (H : Type) (enc : TypeId × Value → H) :
    ReturnsInHanded {} Try.checked os 3 .any (Rows.pageOrdersSpec.pre6 enc Try.prog Try.f3 Rows.pageOrdersRow.domain false) (Rows.pageOrdersSpec.post enc Try.prog Try.f3 false true false false) := by
  refine returnsInHanded_of_change (C := Try.checked) own started (by kernel_rfl) Try.func3
    (ChangeSpec.witness6 (enc := enc) (C := Try.checked) false ⟨#[], #[.int .u8 0, .int .u8 0, .slice none 0 0], []⟩ 8 (by kernel_rfl) (by kernel_rfl) (by kernel_rfl) (by kernel_rfl)) ?_
  intro W base args ds gs before hval0 hW hcnd _
  have hval : ∀ (j : Nat) t v, Try.f3.params[j]? = some t → args[j]? = some v → Value.okWide Try.prog W .any base t v := hval0
  have hW' := hW
  obtain ⟨p, q, hA0, hV, rfl, hfz, hnd⟩ := hW
  have hA : DataW.TrodAll enc Try.prog W 0 (fun _ => true) true Try.f3.params.toList args.toList ds p := hA0
  rw [Try.params3] at hA hval
  obtain ⟨v0, vs0, d0, ds0, p0, q0, hargs, rfl, rfl, h0, r0⟩ := trodAll_cons hA
  obtain ⟨v1, vs1, d1, ds1, p1, q1, rfl, rfl, rfl, h1, r1⟩ := trodAll_cons r0
  obtain ⟨v2, vs2, d2, ds2, p2, q2, rfl, rfl, rfl, h2, r2⟩ := trodAll_cons r1
  obtain ⟨rfl, rfl, rfl⟩ := trodAll_nil r2
  obtain rfl : args = #[v0, v1, v2] := by cases args; simp_all
  obtain ⟨rfl, rfl⟩ := trodVars_none hV
  have k2 := h2
  have lt2 : ∀ x ∈ p2, x.block < W.heap.size := by obtain ⟨m, hm⟩ := k2; exact DataW.trod_lt m _ _ _ hm
  obtain ⟨a0, rfl, rfl, rfl, w0⟩ := open_int Try.underlying5 (hval 0 5 v0 rfl rfl) h0
  obtain ⟨a1, rfl, rfl, rfl, w1⟩ := open_int Try.underlying5 (hval 1 5 v1 rfl rfl) h1
  obtain ⟨a2, len2, cap2, rfl⟩ := okWide_slice Try.underlying22 (hval 2 22 v2 rfl rfl)
  obtain ⟨z2, w2⟩ := isRow_of Try.underlying22 Try.underlying5 (by kernel_rfl) h2
  clear hA0 hval0
  refine (walk a0 a1 a2 len2 cap2 z2 W w0 w1 w2).mono fun e W' ⟨he, bel⟩ => ?_
  subst he
  exact ⟨_, rfl, _, _, _, [], _, [], hW', trodAll_mk1 (shut_bool Try.underlying4 _), (trodAll_cons_mk (shut_int Try.underlying5 w0) (trodAll_cons_mk (shut_int Try.underlying5 w1) (trodAll_cons_mk (Below.trod laidOut (by kernel_rfl) (of_decide_eq_true (by kernel_rfl)) k2 bel lt2) trodAll_mk0))), rfl, bel.frame _, fun h => by cases h⟩
theorem over : Rows.pageOrdersRow.holds Try.pinned (OpenSpec.ofChange Rows.pageOrdersSpec) :=
  OpenClaim.holds_of_wide 3 Try.f3 rfl rfl rfl rfl rfl rfl rfl ⟨rfl, rfl, rfl, rfl, rfl⟩ rfl rfl rfl rfl rfl (by kernel_rfl) Try.func3 (by kernel_rfl)
    (of_decide_eq_true (by kernel_rfl)) (by unfold Func.isWrapper; first | (rw [if_pos (by decide +kernel)]; kernel_rfl) | (rw [if_neg (by decide +kernel)]; exact ⟨rfl, rfl⟩))
    (fun os started H enc _ => lifted os started H enc)
theorem proved : Rows.PageOrdersSaid := over
#print axioms proved
end PageOrders
end Go.Proofs.Ytgiokigokedakaa
