/- A segment's slices stand one behind the other. -/
import Derived.Test.YtfmgeidlbekfpaaGeoMt
import Derived.Deep.RegionHeld3
set_option linter.unusedVariables false
set_option linter.unusedSimpArgs false
namespace Go.Proofs.Ytfmgeidlbekfpaa.GeoSlices
open Go.RowKit Go.ChangeShapes Go.WideShapes Go.ChangeAt Go.Joins
theorem may_s (s : Int) (h : 0 ≤ s ∧ s < 63) : MayP (s * 16384) 1024 16 := by unfold MayP; omega
section
variable {s : Int} (h : 0 ≤ s ∧ s < 63)
include h
theorem addr_in (i : Int) (hi : 0 ≤ i ∧ i < 16) (w : World) : Calls Try.prog 13 #[.agg #[.int .i64 s, .int .i64 i, .int .u64 0]] w fun e w' => e = .returned (.tuple #[.int .u64 (s * 16384 + i * 1024), .int .i64 0]) ∧ Kept [] w w' := by
  have c := addr_any s i 0 (by omega) w
  have hp : addrP s i 0 := by unfold addrP; omega
  rw [show addrV s i 0 = s * 16384 + i * 1024 by unfold addrV; rw [if_pos hp]; omega, show addrE s i 0 = 0 by unfold addrE; rw [if_pos hp]] at c
  exact c
theorem addr_nx (w : World) : Calls Try.prog 13 #[.agg #[.int .i64 (s + 1), .int .i64 0, .int .u64 0]] w fun e w' => e = .returned (.tuple #[.int .u64 (s * 16384 + 16384), .int .i64 0]) ∧ Kept [] w w' := by
  have c := addr_any (s + 1) 0 0 (by omega) w
  have hp : addrP (s + 1) 0 0 := by unfold addrP; omega
  rw [show addrV (s + 1) 0 0 = s * 16384 + 16384 by unfold addrV; rw [if_pos hp]; omega, show addrE (s + 1) 0 0 = 0 by unfold addrE; rw [if_pos hp]] at c
  exact c
theorem block_in (i : Int) (hi : 0 ≤ i ∧ i < 16) (w : World) : Calls Try.prog 15 #[.agg #[.int .u64 (s * 16384), .int .u64 1024, .int .i64 16], .int .i64 i] w fun e w' => e = .returned (.tuple #[.int .u64 (s * 16384 + i * 1024), .int .i64 0]) ∧ Kept [] w w' := by
  have c := block_any (s * 16384) 1024 16 i (by omega) (by omega) w
  rw [show blkV (s * 16384) 1024 16 i = s * 16384 + i * 1024 by unfold blkV; rw [if_pos ⟨may_s s h, hi.1, hi.2⟩], show blkE (s * 16384) 1024 16 i = 0 by unfold blkE; rw [if_pos (may_s s h), if_pos hi]] at c
  exact c
theorem index_in (i : Int) (hi : 0 ≤ i ∧ i < 16) (w : World) : Calls Try.prog 17 #[.agg #[.int .u64 (s * 16384), .int .u64 1024, .int .i64 16], .int .u64 (s * 16384 + i * 1024)] w fun e w' => e = .returned (.tuple #[.int .i64 i, .int .i64 0]) ∧ Kept [] w w' := by
  have c := index_any (s * 16384) 1024 16 (s * 16384 + i * 1024) (by omega) (by omega) (by omega) w
  have e1 : idxE (s * 16384) 1024 16 (s * 16384 + i * 1024) = 0 := by unfold idxE; rw [if_pos (may_s s h), if_neg (by omega), if_neg (by omega)]
  have e2 : idxV (s * 16384) 1024 16 (s * 16384 + i * 1024) = i := by unfold idxV; rw [if_pos e1]; omega
  rw [e1, e2] at c
  exact c
theorem in_in (i o : Int) (hi : 0 ≤ i ∧ i < 16) (ho : 0 ≤ o ∧ o < 1024) (b : Nat) (w : World) (hb : Blk w b 22 #[.int .u64 (s * 16384 + i * 1024 + o)]) : Calls Try.prog 19 #[.agg #[.int .u64 (s * 16384), .int .u64 1024, .int .i64 16], .slice (some ⟨b, 0, none⟩) 1 1] w fun e w' => e = .returned (.bool true) ∧ Kept [] w w' := by
  have c := in_any (s * 16384) 1024 16 (some ⟨b, 0, none⟩) 1 [s * 16384 + i * 1024 + o] (by omega) (by omega) (by intro x hx; simp at hx; omega) w (RowI.of_blk hb (by intro i hi; simp at hi; subst hi; rfl)) (by simp)
  have e : (decide (MayP (s * 16384) 1024 16) && ![s * 16384 + i * 1024 + o].any fun a => outB (s * 16384) 1024 16 a) = true := by
    have e1 : outB (s * 16384) 1024 16 (s * 16384 + i * 1024 + o) = false := by
      unfold outB endV
      rw [if_pos (may_s s h), decide_eq_false (by omega), decide_eq_false (by omega)]; rfl
    rw [decide_eq_true (may_s s h)]
    simp [e1]
  rw [e] at c
  exact c
theorem end_in (w : World) : Calls Try.prog 21 #[.agg #[.int .u64 (s * 16384), .int .u64 1024, .int .i64 16]] w fun e w' => e = .returned (.int .u64 (s * 16384 + 16384)) ∧ Kept [] w w' := by
  have c := end_any (s * 16384) 1024 16 (by omega) (by omega) w
  rw [if_pos (may_s s h), show s * 16384 + 16 * 1024 = s * 16384 + 16384 by omega] at c
  exact c
theorem meet_in (b : Nat) (w : World) (hb : Blk w b 43 #[.int .u64 (s * 16384), .int .u64 1024, .int .i64 16, .int .u64 (s * 16384 + 16384), .int .u64 1024, .int .i64 1]) : Calls Try.prog 25 #[.slice (some ⟨b, 0, none⟩) 2 2] w fun e w' => e = .returned (.bool false) ∧ Kept [] w w' := by
  have c := meet_any (some ⟨b, 0, none⟩) 2 2 [(s * 16384, 1024, 16), (s * 16384 + 16384, 1024, 1)] w rfl (fun h => by cases h) (fun _ => ⟨_, rfl, hb.lt, fun j u hu => by
    rw [Addr.add_lit, hb.cell]
    simpa [encR] using hu⟩) (by intro r hr; simp at hr; rcases hr with rfl | rfl <;> constructor <;> simp <;> omega) (by omega)
  have e : (!decide (Sep [(s * 16384, 1024, 16), (s * 16384 + 16384, 1024, 1)])) = false := by
    have h1 : endV (s * 16384) 1024 16 ≤ s * 16384 + 16384 := by unfold endV; rw [if_pos (may_s s h)]; omega
    have : Sep [(s * 16384, 1024, 16), (s * 16384 + 16384, 1024, 1)] := by
      unfold Sep
      simp [ov]
      exact fun _ _ _ => h1
    simp [this]
  rw [e] at c
  exact c
end
set_option maxRecDepth 100000 in
set_option maxHeartbeats 2000000 in
theorem walk (a0 a1 : Int) (W : World) (w0 : (Lit.int .u8 a0).wf = true) (w1 : (Lit.int .u16 a1).wf = true) :
    Calls Try.prog 9 #[.int .u8 a0, .int .u16 a1] W fun e w' => e = .returned (.bool true) ∧ Below W.heap.size W w' := by
  have b0 := bounds_u8 w0
  have b1 := bounds_u16 w1
  have hs : 0 ≤ a0 % 63 ∧ a0 % 63 < 63 := by omega
  have ho : 0 ≤ a1 % 1024 ∧ a1 % 1024 < 1024 := by omega
  clear w0 w1
  have DA := Lib.hid (addr_in hs 0 (by omega))
  have DA1 := Lib.hid (fun i hi => addr_in hs i hi)
  have DB1 := Lib.hid (fun i hi => block_in hs i hi)
  have DX1 := Lib.hid (fun i hi => index_in hs i hi)
  have DI1 := Lib.hid (fun i hi b w hb => in_in hs i (a1 % 1024) hi ho b w hb)
  have DN := Lib.hid (addr_nx hs)
  have DE := Lib.hid (end_in hs)
  have DM := Lib.hid (meet_in hs)
  rw [show a0 % 63 * 16384 + 0 * 1024 = a0 % 63 * 16384 by omega] at DA
  go_enter Try.func9, Try.ntmps9
  go_wp2_with fail
  (with_reducible refine (alive_any _).mono ?_)
  rintro e w1 ⟨rfl, hb1⟩
  have hs1 := hb1.size
  (try simp only [World.size_alloc, World.size_setCell, World.size_drew, size_drewN] at hs1)
  go_wp2_with fail
  (with_reducible refine (DA.out _).mono ?_)
  rintro e w2 ⟨rfl, hb2⟩
  have hs2 := hb2.size
  (try simp only [World.size_alloc, World.size_setCell, World.size_drew, size_drewN] at hs2)
  go_wp2_with fail
  have B0 : Hid (Blk (((w2.alloc (.cells #[.int .u64 (a0 % 63 * 16384), .int .u64 1024, .int .i64 16] 43)))) w2.heap.size 43 #[.int .u64 (a0 % 63 * 16384), .int .u64 1024, .int .i64 16]) := Lib.hid (Blk.new _ _ _)
  go_loopw [31] (fun c wr => ∃ k : Nat, k ≤ 16 ∧ c = .int .i64 k ∧ Kept [] W wr ∧ Blk wr w2.heap.size 43 #[.int .u64 (a0 % 63 * 16384), .int .u64 1024, .int .i64 16]) (fun c _ => (16 - intOf c).toNat)
  case atStart => exact ⟨0, by omega, rfl, by (repeat' (first | (with_reducible exact Kept.refl _ _) | (with_reducible assumption) | (with_reducible refine Kept.then_ (by with_reducible assumption) ?_) | (with_reducible refine Kept.thenS (by with_reducible assumption) ?_) | (with_reducible refine Kept.alloc ?_ _) | (with_reducible refine Kept.drew ?_) | (with_reducible refine Kept.drewN ?_ _) | (with_reducible refine Kept.setNew ?_ ?_ _) | ((try simp only [World.size_alloc, World.size_setCell, World.size_drew, size_drewN] at *); (try dsimp only); omega))), B0.out⟩
  case round =>
    obtain ⟨k, hk, rfl, hkw, B1⟩ := hrel
    have B1_z := B1.lt
    have B1_f := B1.frozen
    have B1_c := B1.cell
    by_cases hlt : (k : Int) < 16
    · have hki : 0 ≤ (k : Int) ∧ (k : Int) < 16 := by omega
      go_wp2_with fail
      (with_reducible refine (DA1.out k hki _).mono ?_)
      rintro e w3 ⟨rfl, hb3⟩
      have hs3 := hb3.size
      (try simp only [World.size_alloc, World.size_setCell, World.size_drew, size_drewN] at hs3)
      have B1 : Blk w3 w2.heap.size 43 #[.int .u64 (a0%63*16384), .int .u64 1024, .int .i64 16] := by ((with_reducible apply Blk.cast); (case h => (repeat' (first | (with_reducible assumption) | ((with_reducible apply Blk.keep0); (case hk => (with_reducible assumption))) | (with_reducible exact Blk.new _ _ _) | ((with_reducible apply Blk.new'); (case h => (first | (with_reducible rfl) | (simp only [World.size_alloc, World.size_setCell, World.size_drew, size_drewN]; done)))) | (with_reducible apply Blk.alloc) | (with_reducible apply Blk.set_) | ((with_reducible apply Blk.far); (case hp => (simp only []; omega))) | (with_reducible apply Blk.drew) | (with_reducible apply Blk.drewN)))); (case e => rfl))
      have B1_c := B1.cell
      have B1_f := B1.frozen
      have B1_z := B1.lt
      go_wp2_with fail
      (with_reducible refine (DB1.out k hki _).mono ?_)
      rintro e w4 ⟨rfl, hb4⟩
      have hs4 := hb4.size
      (try simp only [World.size_alloc, World.size_setCell, World.size_drew, size_drewN] at hs4)
      clear B1_c B1_f B1_z
      replace B1 : Blk w4 w2.heap.size 43 #[.int .u64 (a0%63*16384), .int .u64 1024, .int .i64 16] := by ((with_reducible apply Blk.cast); (case h => (repeat' (first | (with_reducible assumption) | ((with_reducible apply Blk.keep0); (case hk => (with_reducible assumption))) | (with_reducible exact Blk.new _ _ _) | ((with_reducible apply Blk.new'); (case h => (first | (with_reducible rfl) | (simp only [World.size_alloc, World.size_setCell, World.size_drew, size_drewN]; done)))) | (with_reducible apply Blk.alloc) | (with_reducible apply Blk.set_) | ((with_reducible apply Blk.far); (case hp => (simp only []; omega))) | (with_reducible apply Blk.drew) | (with_reducible apply Blk.drewN)))); (case e => rfl))
      have B1_c := B1.cell
      have B1_f := B1.frozen
      have B1_z := B1.lt
      go_wp2_with fail
      (with_reducible refine (DX1.out k hki _).mono ?_)
      rintro e w5 ⟨rfl, hb5⟩
      have hs5 := hb5.size
      (try simp only [World.size_alloc, World.size_setCell, World.size_drew, size_drewN] at hs5)
      clear B1_c B1_f B1_z
      replace B1 : Blk w5 w2.heap.size 43 #[.int .u64 (a0%63*16384), .int .u64 1024, .int .i64 16] := by ((with_reducible apply Blk.cast); (case h => (repeat' (first | (with_reducible assumption) | ((with_reducible apply Blk.keep0); (case hk => (with_reducible assumption))) | (with_reducible exact Blk.new _ _ _) | ((with_reducible apply Blk.new'); (case h => (first | (with_reducible rfl) | (simp only [World.size_alloc, World.size_setCell, World.size_drew, size_drewN]; done)))) | (with_reducible apply Blk.alloc) | (with_reducible apply Blk.set_) | ((with_reducible apply Blk.far); (case hp => (simp only []; omega))) | (with_reducible apply Blk.drew) | (with_reducible apply Blk.drewN)))); (case e => rfl))
      have B1_c := B1.cell
      have B1_f := B1.frozen
      have B1_z := B1.lt
      go_wp2_with fail
      (with_reducible refine (DI1.out k hki _ _ (by ((with_reducible apply Blk.cast); (case h => (repeat' (first | (with_reducible assumption) | ((with_reducible apply Blk.keep0); (case hk => (with_reducible assumption))) | (with_reducible exact Blk.new _ _ _) | ((with_reducible apply Blk.new'); (case h => (first | (with_reducible rfl) | (simp only [World.size_alloc, World.size_setCell, World.size_drew, size_drewN]; done)))) | (with_reducible apply Blk.alloc) | (with_reducible apply Blk.set_) | ((with_reducible apply Blk.far); (case hp => (simp only []; omega))) | (with_reducible apply Blk.drew) | (with_reducible apply Blk.drewN)))); (case e => rfl)))).mono ?_)
      rintro e w6 ⟨rfl, hb6⟩
      have hs6 := hb6.size
      (try simp only [World.size_alloc, World.size_setCell, World.size_drew, size_drewN] at hs6)
      clear B1_c B1_f B1_z
      replace B1 : Blk w6 w2.heap.size 43 #[.int .u64 (a0%63*16384), .int .u64 1024, .int .i64 16] := by ((with_reducible apply Blk.cast); (case h => (repeat' (first | (with_reducible assumption) | ((with_reducible apply Blk.keep0); (case hk => (with_reducible assumption))) | (with_reducible exact Blk.new _ _ _) | ((with_reducible apply Blk.new'); (case h => (first | (with_reducible rfl) | (simp only [World.size_alloc, World.size_setCell, World.size_drew, size_drewN]; done)))) | (with_reducible apply Blk.alloc) | (with_reducible apply Blk.set_) | ((with_reducible apply Blk.far); (case hp => (simp only []; omega))) | (with_reducible apply Blk.drew) | (with_reducible apply Blk.drewN)))); (case e => rfl))
      have B1_c := B1.cell
      have B1_f := B1.frozen
      have B1_z := B1.lt
      go_wp2_with fail
      go_roundw
      case rel => exact ⟨k + 1, by omega, by go_num, by (repeat' (first | (with_reducible exact Kept.refl _ _) | (with_reducible assumption) | (with_reducible refine Kept.then_ (by with_reducible assumption) ?_) | (with_reducible refine Kept.thenS (by with_reducible assumption) ?_) | (with_reducible refine Kept.alloc ?_ _) | (with_reducible refine Kept.drew ?_) | (with_reducible refine Kept.drewN ?_ _) | (with_reducible refine Kept.setNew ?_ ?_ _) | ((try simp only [World.size_alloc, World.size_setCell, World.size_drew, size_drewN] at *); (try dsimp only); omega))), B1⟩
      case measure => simp [intOf]; omega
    · go_wp2_with fail
      (with_reducible refine (DN.out _).mono ?_)
      rintro e w3 ⟨rfl, hb3⟩
      have hs3 := hb3.size
      (try simp only [World.size_alloc, World.size_setCell, World.size_drew, size_drewN] at hs3)
      have B1 : Blk w3 w2.heap.size 43 #[.int .u64 (a0%63*16384), .int .u64 1024, .int .i64 16] := by ((with_reducible apply Blk.cast); (case h => (repeat' (first | (with_reducible assumption) | ((with_reducible apply Blk.keep0); (case hk => (with_reducible assumption))) | (with_reducible exact Blk.new _ _ _) | ((with_reducible apply Blk.new'); (case h => (first | (with_reducible rfl) | (simp only [World.size_alloc, World.size_setCell, World.size_drew, size_drewN]; done)))) | (with_reducible apply Blk.alloc) | (with_reducible apply Blk.set_) | ((with_reducible apply Blk.far); (case hp => (simp only []; omega))) | (with_reducible apply Blk.drew) | (with_reducible apply Blk.drewN)))); (case e => rfl))
      have B1_c := B1.cell
      have B1_f := B1.frozen
      have B1_z := B1.lt
      go_wp2_with fail
      (with_reducible refine (DE.out _).mono ?_)
      rintro e w4 ⟨rfl, hb4⟩
      have hs4 := hb4.size
      (try simp only [World.size_alloc, World.size_setCell, World.size_drew, size_drewN] at hs4)
      clear B1_c B1_f B1_z
      replace B1 : Blk w4 w2.heap.size 43 #[.int .u64 (a0%63*16384), .int .u64 1024, .int .i64 16] := by ((with_reducible apply Blk.cast); (case h => (repeat' (first | (with_reducible assumption) | ((with_reducible apply Blk.keep0); (case hk => (with_reducible assumption))) | (with_reducible exact Blk.new _ _ _) | ((with_reducible apply Blk.new'); (case h => (first | (with_reducible rfl) | (simp only [World.size_alloc, World.size_setCell, World.size_drew, size_drewN]; done)))) | (with_reducible apply Blk.alloc) | (with_reducible apply Blk.set_) | ((with_reducible apply Blk.far); (case hp => (simp only []; omega))) | (with_reducible apply Blk.drew) | (with_reducible apply Blk.drewN)))); (case e => rfl))
      have B1_c := B1.cell
      have B1_f := B1.frozen
      have B1_z := B1.lt
      go_wp2_with fail
      (with_reducible refine (DM.out _ _ (by ((with_reducible apply Blk.cast); (case h => (repeat' (first | (with_reducible assumption) | ((with_reducible apply Blk.keep0); (case hk => (with_reducible assumption))) | (with_reducible exact Blk.new _ _ _) | ((with_reducible apply Blk.new'); (case h => (first | (with_reducible rfl) | (simp only [World.size_alloc, World.size_setCell, World.size_drew, size_drewN]; done)))) | (with_reducible apply Blk.alloc) | (with_reducible apply Blk.set_) | ((with_reducible apply Blk.far); (case hp => (simp only []; omega))) | (with_reducible apply Blk.drew) | (with_reducible apply Blk.drewN)))); (case e => rfl)))).mono ?_)
      rintro e w5 ⟨rfl, hb5⟩
      have hs5 := hb5.size
      (try simp only [World.size_alloc, World.size_setCell, World.size_drew, size_drewN] at hs5)
      clear B1_c B1_f B1_z
      replace B1 : Blk w5 w2.heap.size 43 #[.int .u64 (a0%63*16384), .int .u64 1024, .int .i64 16] := by ((with_reducible apply Blk.cast); (case h => (repeat' (first | (with_reducible assumption) | ((with_reducible apply Blk.keep0); (case hk => (with_reducible assumption))) | (with_reducible exact Blk.new _ _ _) | ((with_reducible apply Blk.new'); (case h => (first | (with_reducible rfl) | (simp only [World.size_alloc, World.size_setCell, World.size_drew, size_drewN]; done)))) | (with_reducible apply Blk.alloc) | (with_reducible apply Blk.set_) | ((with_reducible apply Blk.far); (case hp => (simp only []; omega))) | (with_reducible apply Blk.drew) | (with_reducible apply Blk.drewN)))); (case e => rfl))
      have B1_c := B1.cell
      have B1_f := B1.frozen
      have B1_z := B1.lt
      go_wp2_with fail
      go_ret
      exact ⟨rfl, Kept.below (by (repeat' (first | (with_reducible exact Kept.refl _ _) | (with_reducible assumption) | (with_reducible refine Kept.then_ (by with_reducible assumption) ?_) | (with_reducible refine Kept.thenS (by with_reducible assumption) ?_) | (with_reducible refine Kept.alloc ?_ _) | (with_reducible refine Kept.drew ?_) | (with_reducible refine Kept.drewN ?_ _) | (with_reducible refine Kept.setNew ?_ ?_ _) | ((try simp only [World.size_alloc, World.size_setCell, World.size_drew, size_drewN] at *); (try dsimp only); omega))))⟩
theorem own : ownKnob Try.prog.godebug = none := by kernel_rfl
theorem laidOut : laidOutB Try.prog = true := by kernel_rfl
set_option maxRecDepth 100000 in
theorem lifted (os : Os) (started : os.Started) (H : Type) (enc : TypeId × Value → H) :
    ReturnsInHanded {} Try.checked os 9 .any (Rows.geoSlicesSpec.pre6 enc Try.prog Try.f9 Rows.geoSlicesRow.domain false) (Rows.geoSlicesSpec.post enc Try.prog Try.f9 false true false false) := by
  refine returnsInHanded_of_change (C := Try.checked) own started (by kernel_rfl) Try.func9
    (ChangeSpec.witness6 (enc := enc) (C := Try.checked) false ⟨#[], #[.int .u8 0, .int .u16 0], []⟩ 8 (by kernel_rfl) (by kernel_rfl) (by kernel_rfl) (by kernel_rfl)) ?_
  intro W base args ds gs before hval0 hW hcnd _
  have hval : ∀ (j : Nat) t v, Try.f9.params[j]? = some t → args[j]? = some v → Value.okWide Try.prog W .any base t v := hval0
  have hW' := hW
  obtain ⟨p, q, hA0, hV, rfl, hfz, hnd⟩ := hW
  have hA : DataW.TrodAll enc Try.prog W 0 (fun _ => true) true Try.f9.params.toList args.toList ds p := hA0
  rw [Try.params9] at hA hval
  obtain ⟨v0, vs0, d0, ds0, p0, q0, hargs, rfl, rfl, h0, r0⟩ := trodAll_cons hA
  obtain ⟨v1, vs1, d1, ds1, p1, q1, rfl, rfl, rfl, h1, r1⟩ := trodAll_cons r0
  obtain ⟨rfl, rfl, rfl⟩ := trodAll_nil r1
  obtain rfl : args = #[v0, v1] := by cases args; simp_all
  obtain ⟨rfl, rfl⟩ := trodVars_none hV
  obtain ⟨a0, rfl, rfl, rfl, w0⟩ := open_int Try.underlying5 (hval 0 5 v0 rfl rfl) h0
  obtain ⟨a1, rfl, rfl, rfl, w1⟩ := open_int Try.underlying37 (hval 1 37 v1 rfl rfl) h1
  clear hA0 hval0
  refine (walk a0 a1 W w0 w1).mono fun e W' ⟨he, bel⟩ => ?_
  subst he
  exact ⟨_, rfl, _, _, _, [], _, [], hW', trodAll_mk1 (shut_bool Try.underlying4 _), (trodAll_cons_mk (shut_int Try.underlying5 w0) (trodAll_cons_mk (shut_int Try.underlying37 w1) trodAll_mk0)), rfl, bel.frame _, fun h => by cases h⟩
theorem over : Rows.geoSlicesRow.holds Try.pinned (OpenSpec.ofChange Rows.geoSlicesSpec) :=
  OpenClaim.holds_of_wide 9 Try.f9 rfl rfl rfl rfl rfl rfl rfl ⟨rfl, rfl, rfl, rfl, rfl⟩ rfl rfl rfl rfl rfl (by kernel_rfl) Try.func9 (by kernel_rfl)
    (of_decide_eq_true (by kernel_rfl)) (by unfold Func.isWrapper; first | (rw [if_pos (by decide +kernel)]; kernel_rfl) | (rw [if_neg (by decide +kernel)]; exact ⟨rfl, rfl⟩))
    (fun os started H enc _ => lifted os started H enc)
theorem proved : Rows.GeoSlicesSaid := over
#print axioms proved
end Go.Proofs.Ytfmgeidlbekfpaa.GeoSlices
