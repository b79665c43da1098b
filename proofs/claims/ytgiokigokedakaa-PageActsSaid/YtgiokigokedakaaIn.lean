/- Whether an address is in a block of a run, through the library's ContainsFunc; the document's loops. -/
import Derived.Test.YtgiokigokedakaaGeoRef
import Derived.Shelf.Abstract
set_option linter.unusedVariables false
set_option linter.unusedSimpArgs false
namespace Go.Proofs.Ytgiokigokedakaa
open Go.RowKit Go.Shelf

/-- slices.IndexFunc at []uint64, a predicate that only makes new memory. -/
def firstAt (p : Int → Bool) (zs : List Int) : Int := match zs.findIdx? p with | some i => i | none => -1
theorem find_none (p : Int → Bool) (zs : List Int) (h : ∀ j, j < zs.length → p (zs[j]?.getD 0) = false) : zs.findIdx? p = none := by
  rw [List.findIdx?_eq_none_iff]
  intro x hx
  obtain ⟨j, hj, rfl⟩ := List.getElem_of_mem hx
  have := h j hj
  simpa [hj] using this
theorem find_some (p : Int → Bool) (zs : List Int) (i : Nat) (hi : i < zs.length) (h : ∀ j, j < i → p (zs[j]?.getD 0) = false) (hp : p (zs[i]?.getD 0) = true) : zs.findIdx? p = some i := by
  rw [List.findIdx?_eq_some_iff_getElem]
  refine ⟨hi, by simpa [hi] using hp, fun j hj => ?_⟩
  have := h j hj
  simpa [show j < zs.length by omega] using this
theorem indexFunc_any (p : Int → Bool) (g : FuncId) (lb : Array Value) (A : Option Addr) (cap : Nat) (zs : List Int) (w : World) (hr : RowI .u64 w A zs) (hn : zs.length ≤ 9223372036854775807)
    (eg : ∀ args w, (callFunc g args).run Try.prog w = .ok (.enter g args) w) (hp : ∀ x, x ∈ zs → ∀ W, Kept [] w W → Calls Try.prog g (#[.int .u64 x] ++ lb) W fun e w' => e = .returned (.bool (p x)) ∧ Kept [] W w') :
    Calls Try.prog 66 #[.slice A zs.length cap, .func (.func g) #[] lb] w fun e w' => e = .returned (.int .i64 (firstAt p zs)) ∧ Kept [] w w' := by
  have Hr := Lib.hid hr
  have Hp := Lib.hid hp
  clear hr hp
  go_enter Try.func66, Try.ntmps66
  go_wp2
  go_loopw [8] (fun c wr => ∃ k : Nat, k ≤ zs.length ∧ c = .int .i64 k ∧ Hid (∀ j, j < k → p (zs[j]?.getD 0) = false) ∧ Kept [] w wr) (fun c _ => zs.length - (intOf c).toNat)
  case atStart => exact ⟨0, Nat.zero_le _, rfl, Lib.hid (fun j hj => by omega), Kept.refl _ _⟩
  case round =>
    obtain ⟨k, hk, rfl, hno, hkw⟩ := hrel
    have hno' := hno
    by_cases hlt : k < zs.length
    · obtain ⟨b, off, rfl, hb, hc⟩ := Hr.out (by omega)
      have hcell : wr.cell? ⟨b, off + k, none⟩ = some (.int .u64 (zs[k]?.getD 0)) := (World.cell?_of_block (hkw.block b hb (by simp))).trans (hc k hlt)
      clear hc
      generalize hx : zs[k]?.getD 0 = x at hcell
      have hm : x ∈ zs := by rw [← hx, List.getElem?_eq_getElem hlt]; exact List.getElem_mem hlt
      have HX := Lib.hid hx
      clear hx
      go_wp2_with fail
      (with_reducible refine (Hp.out _ hm _ hkw).mono ?_)
      rintro e w1 ⟨rfl, hk1⟩
      cases hpx : p x
      · go_wp2_with fail
        go_roundw
        case rel => exact ⟨k + 1, by omega, by go_num, Lib.hid (fun j hj => by
          by_cases hjk : j < k
          · exact hno'.out j hjk
          · obtain rfl : j = k := by omega
            rw [HX.out]; exact hpx), hk1.then_ hkw⟩
        case measure => simp [intOf]; omega
      · go_wp2_with fail
        go_ret
        refine ⟨ret_int ?_, hk1.then_ hkw⟩
        go_light
        unfold firstAt
        rw [find_some p zs k hlt hno'.out (by rw [HX.out]; exact hpx)]
    · obtain rfl : k = zs.length := by omega
      go_wp2_with fail
      go_ret
      refine ⟨ret_int ?_, hkw⟩
      go_light
      unfold firstAt
      rw [find_none p zs hno'.out]
theorem firstAt_any (p : Int → Bool) (zs : List Int) : decide (0 ≤ firstAt p zs) = zs.any p := by
  unfold firstAt
  cases h : zs.findIdx? p with
  | none =>
    rw [List.findIdx?_eq_none_iff] at h
    have : zs.any p = false := by rw [List.any_eq_false]; intro x hx; simp [h x hx]
    rw [this]; rfl
  | some i =>
    rw [List.findIdx?_eq_some_iff_getElem] at h
    obtain ⟨hi, hp, _⟩ := h
    have : zs.any p = true := by rw [List.any_eq_true]; exact ⟨_, List.getElem_mem hi, hp⟩
    rw [this]; exact decide_eq_true (Int.natCast_nonneg i)
theorem containsFunc_any (p : Int → Bool) (g : FuncId) (lb : Array Value) (A : Option Addr) (cap : Nat) (zs : List Int) (w : World) (hr : RowI .u64 w A zs) (hn : zs.length ≤ 9223372036854775807)
    (eg : ∀ args w, (callFunc g args).run Try.prog w = .ok (.enter g args) w) (hp : ∀ x, x ∈ zs → ∀ W, Kept [] w W → Calls Try.prog g (#[.int .u64 x] ++ lb) W fun e w' => e = .returned (.bool (p x)) ∧ Kept [] W w') :
    Calls Try.prog 49 #[.slice A zs.length cap, .func (.func g) #[] lb] w fun e w' => e = .returned (.bool (zs.any p)) ∧ Kept [] w w' := by
  have c := indexFunc_any p g lb A cap zs w hr hn eg hp
  have C := Lib.hid c
  clear c hr hp eg
  rw [← firstAt_any]
  go_enter Try.func49, Try.ntmps49
  go_wp2_with fail
  (with_reducible refine C.out.mono ?_)
  rintro e w1 ⟨rfl, hb1⟩
  go_wp2_with fail
  go_ret
  exact ⟨rfl, hb1⟩
def endV (f s n : Int) : Int := if MayP f s n then f + n * s else 0
def outB (f s n a : Int) : Bool := decide (a < f) || decide (endV f s n ≤ a)
theorem closure_any (f s n a : Int) (rb : Nat) (hf: 0 ≤ f) (hs : 0 ≤ s) (ha : 0 ≤ a) (w : World) (B : Blk w rb 28 #[.int .u64 f, .int .u64 s, .int .i64 n]) :
    Calls Try.prog 50 #[.int .u64 a, .pointer (some ⟨rb, 0, none⟩)] w fun e w' => e = .returned (.bool (outB f s n a)) ∧ Kept [] w w' := by
  have B_c := B.cell
  have B_f := B.frozen
  have B_z := B.lt
  have c := end_any f s n hf hs
  have C : ∀ w, Calls Try.prog 41 #[.agg #[.int .u64 f, .int .u64 s, .int .i64 n]] w fun e w' => e = .returned (.int .u64 (endV f s n)) ∧ Kept [] w w' := c
  have HC := Lib.hid C
  clear c C
  unfold outB
  by_cases h : a < f
  · go_enter Try.func50, Try.ntmps50
    go_wp2_with fail
    go_ret
    exact ⟨ret_bool (by simp [h]), Kept.refl _ _⟩
  · go_enter Try.func50, Try.ntmps50
    go_wp2_with fail
    (with_reducible refine (HC.out _).mono ?_)
    rintro e w1 ⟨rfl, hb1⟩
    go_wp2_with fail
    go_ret
    exact ⟨ret_bool (by simp [show ¬ a < f by omega]), hb1⟩
theorem eg_in (args : Array Value) (w : World) : (callFunc 50 args).run Try.prog w = .ok (.enter 50 args) w :=
  enters_of Try.func50 (by kernel_rfl) rfl args w
theorem in_any (f s n : Int) (A : Option Addr) (cap : Nat) (zs : List Int) (hf: 0 ≤ f) (hs : 0 ≤ s) (hz : ∀ x, x ∈ zs → 0 ≤ x) (w : World) (hr : RowI .u64 w A zs) (hn : zs.length ≤ 9223372036854775807) :
    Calls Try.prog 23 #[.agg #[.int .u64 f, .int .u64 s, .int .i64 n], .slice A zs.length cap] w fun e w' => e = .returned (.bool (decide (MayP f s n) && !zs.any fun a => outB f s n a)) ∧ Kept [] w w' := by
  have Hr := Lib.hid hr
  have Hz := Lib.hid hz
  clear hr hz
  have eg := eg_in
  by_cases hm : MayP f s n
  · go_enter Try.func23, Try.ntmps23
    go_wp2_with fail
    (with_reducible refine (may_any _ _ _ (by omega) (by omega) _).mono ?_)
    rintro e w1 ⟨rfl, hb1⟩
    have hs1 := hb1.size
    (try simp only [World.size_alloc, World.size_setCell, World.size_drew, size_drewN] at hs1)
    have P : Blk w1 w.heap.size 28 #[.int .u64 f, .int .u64 s, .int .i64 n] := by ((with_reducible apply Blk.cast); (case h => (repeat' (first | (with_reducible assumption) | ((with_reducible apply Blk.keep0); (case hk => (with_reducible assumption))) | (with_reducible exact Blk.new _ _ _) | ((with_reducible apply Blk.new'); (case h => (first | (with_reducible rfl) | (simp only [World.size_alloc, World.size_setCell, World.size_drew, size_drewN]; done)))) | (with_reducible apply Blk.alloc) | (with_reducible apply Blk.set_) | ((with_reducible apply Blk.far); (case hp => (simp only []; omega))) | (with_reducible apply Blk.drew) | (with_reducible apply Blk.drewN)))); (case e => rfl))
    have P_c := P.cell
    have P_f := P.frozen
    have P_z := P.lt
    have hk1 : Kept [] w w1 := by (repeat' (first | (with_reducible exact Kept.refl _ _) | (with_reducible assumption) | (with_reducible refine Kept.then_ (by with_reducible assumption) ?_) | (with_reducible refine Kept.thenS (by with_reducible assumption) ?_) | (with_reducible refine Kept.alloc ?_ _) | (with_reducible refine Kept.drew ?_) | (with_reducible refine Kept.drewN ?_ _) | (with_reducible refine Kept.setNew ?_ ?_ _) | ((try simp only [World.size_alloc, World.size_setCell, World.size_drew, size_drewN] at *); (try dsimp only); omega)))
    have hc := containsFunc_any (fun a => outB f s n a) 50 #[.pointer (some ⟨w.heap.size, 0, none⟩)] A cap zs w1 (Hr.out.keep hk1) hn eg
      (fun x hx W hW => closure_any f s n x w.heap.size hf hs (Hz.out x hx) W (P.keep0 hW))
    have HC := Lib.hid hc
    clear hc eg
    go_wp2_with fail
    (with_reducible refine HC.out.mono ?_)
    rintro e w2 ⟨rfl, hb2⟩
    generalize hr : (zs.any fun a => outB f s n a) = r
    have HR := Lib.hid hr
    clear hr
    go_wp2_with fail
    go_ret
    exact ⟨ret_bool (by rw [HR.out]; simp [hm]), by (repeat' (first | (with_reducible exact Kept.refl _ _) | (with_reducible assumption) | (with_reducible refine Kept.then_ (by with_reducible assumption) ?_) | (with_reducible refine Kept.thenS (by with_reducible assumption) ?_) | (with_reducible refine Kept.alloc ?_ _) | (with_reducible refine Kept.drew ?_) | (with_reducible refine Kept.drewN ?_ _) | (with_reducible refine Kept.setNew ?_ ?_ _) | ((try simp only [World.size_alloc, World.size_setCell, World.size_drew, size_drewN] at *); (try dsimp only); omega)))⟩
  · go_enter Try.func23, Try.ntmps23
    go_wp2_with fail
    (with_reducible refine (may_any _ _ _ (by omega) (by omega) _).mono ?_)
    rintro e w1 ⟨rfl, hb1⟩
    have hs1 := hb1.size
    (try simp only [World.size_alloc, World.size_setCell, World.size_drew, size_drewN] at hs1)
    have P : Blk w1 w.heap.size 28 #[.int .u64 f, .int .u64 s, .int .i64 n] := by ((with_reducible apply Blk.cast); (case h => (repeat' (first | (with_reducible assumption) | ((with_reducible apply Blk.keep0); (case hk => (with_reducible assumption))) | (with_reducible exact Blk.new _ _ _) | ((with_reducible apply Blk.new'); (case h => (first | (with_reducible rfl) | (simp only [World.size_alloc, World.size_setCell, World.size_drew, size_drewN]; done)))) | (with_reducible apply Blk.alloc) | (with_reducible apply Blk.set_) | ((with_reducible apply Blk.far); (case hp => (simp only []; omega))) | (with_reducible apply Blk.drew) | (with_reducible apply Blk.drewN)))); (case e => rfl))
    have P_c := P.cell
    have P_f := P.frozen
    have P_z := P.lt
    go_wp2_with fail
    go_ret
    exact ⟨ret_bool (by simp [hm]), by (repeat' (first | (with_reducible exact Kept.refl _ _) | (with_reducible assumption) | (with_reducible refine Kept.then_ (by with_reducible assumption) ?_) | (with_reducible refine Kept.thenS (by with_reducible assumption) ?_) | (with_reducible refine Kept.alloc ?_ _) | (with_reducible refine Kept.drew ?_) | (with_reducible refine Kept.drewN ?_ _) | (with_reducible refine Kept.setNew ?_ ?_ _) | ((try simp only [World.size_alloc, World.size_setCell, World.size_drew, size_drewN] at *); (try dsimp only); omega)))⟩

/-! The document's. -/
theorem refend_any (f s n : Int) (hf: 0 ≤ f) (hs : 0 ≤ s) (w : World) : Calls Try.prog 55 #[.agg #[.int .u64 f, .int .u64 s, .int .i64 n]] w fun e w' => e = .returned (.int .u64 (endV f s n)) ∧ Kept [] w w' := by
  unfold endV
  by_cases hm : MayP f s n
  · have hm' := hm
    unfold MayP at hm'
    have hb := mul_bd n s (by omega) (by omega) (by omega) (by omega)
    rw [if_pos hm]
    go_enter Try.func55, Try.ntmps55
    go_wp2_with (go_at_call 54; ((with_reducible refine (refmay_any _ _ _ (by omega) (by omega) _).mono ?_); rintro e w1 ⟨rfl, hb1⟩); have hz1 := hb1.size; (try simp only [World.size_alloc, World.size_setCell, World.size_drew, size_drewN] at hz1); have P : Blk w1 (w.heap.size) 71 #[.int .u64 f, .int .u64 s, .int .i64 n] := (by ((with_reducible apply Blk.cast); (case h => (repeat' (first | (with_reducible assumption) | ((with_reducible apply Blk.keep0); (case hk => (with_reducible assumption))) | (with_reducible exact Blk.new _ _ _) | ((with_reducible apply Blk.new'); (case h => (first | (with_reducible rfl) | (simp only [World.size_alloc, World.size_setCell, World.size_drew, size_drewN]; done)))) | (with_reducible apply Blk.alloc) | (with_reducible apply Blk.set_) | ((with_reducible apply Blk.far); (case hp => (simp only []; omega))) | (with_reducible apply Blk.drew) | (with_reducible apply Blk.drewN)))); (case e => rfl))); have P_c := P.cell; have P_f := P.frozen; have P_z := P.lt)
    go_ret
    exact ⟨rfl, by (repeat' (first | (with_reducible exact Kept.refl _ _) | (with_reducible assumption) | (with_reducible refine Kept.then_ (by with_reducible assumption) ?_) | (with_reducible refine Kept.thenS (by with_reducible assumption) ?_) | (with_reducible refine Kept.alloc ?_ _) | (with_reducible refine Kept.drew ?_) | (with_reducible refine Kept.drewN ?_ _) | (with_reducible refine Kept.setNew ?_ ?_ _) | ((try simp only [World.size_alloc, World.size_setCell, World.size_drew, size_drewN] at *); (try dsimp only); omega)))⟩
  · rw [if_neg hm]
    go_enter Try.func55, Try.ntmps55
    go_wp2_with (go_at_call 54; ((with_reducible refine (refmay_any _ _ _ (by omega) (by omega) _).mono ?_); rintro e w1 ⟨rfl, hb1⟩); have hz1 := hb1.size; (try simp only [World.size_alloc, World.size_setCell, World.size_drew, size_drewN] at hz1); have P : Blk w1 (w.heap.size) 71 #[.int .u64 f, .int .u64 s, .int .i64 n] := (by ((with_reducible apply Blk.cast); (case h => (repeat' (first | (with_reducible assumption) | ((with_reducible apply Blk.keep0); (case hk => (with_reducible assumption))) | (with_reducible exact Blk.new _ _ _) | ((with_reducible apply Blk.new'); (case h => (first | (with_reducible rfl) | (simp only [World.size_alloc, World.size_setCell, World.size_drew, size_drewN]; done)))) | (with_reducible apply Blk.alloc) | (with_reducible apply Blk.set_) | ((with_reducible apply Blk.far); (case hp => (simp only []; omega))) | (with_reducible apply Blk.drew) | (with_reducible apply Blk.drewN)))); (case e => rfl))); have P_c := P.cell; have P_f := P.frozen; have P_z := P.lt)
    go_ret
    exact ⟨rfl, by (repeat' (first | (with_reducible exact Kept.refl _ _) | (with_reducible assumption) | (with_reducible refine Kept.then_ (by with_reducible assumption) ?_) | (with_reducible refine Kept.thenS (by with_reducible assumption) ?_) | (with_reducible refine Kept.alloc ?_ _) | (with_reducible refine Kept.drew ?_) | (with_reducible refine Kept.drewN ?_ _) | (with_reducible refine Kept.setNew ?_ ?_ _) | ((try simp only [World.size_alloc, World.size_setCell, World.size_drew, size_drewN] at *); (try dsimp only); omega)))⟩
theorem refblock_any (f s n i : Int) (hf: 0 ≤ f) (hs : 0 ≤ s) (w : World) : Calls Try.prog 59 #[.agg #[.int .u64 f, .int .u64 s, .int .i64 n], .int .i64 i] w fun e w' => e = .returned (.tuple #[.int .u64 (blkV f s n i), .int .i64 (blkE f s n i)]) ∧ Kept [] w w' := by
  unfold blkV blkE
  by_cases hm : MayP f s n
  · by_cases hi : 0 ≤ i ∧ i < n
    · have hm' := hm
      unfold MayP at hm'
      have hb := mul_bd i s (by omega) (by omega) (by omega) (by omega)
      rw [if_pos ⟨hm, hi⟩, if_pos hm, if_pos hi]
      go_enter Try.func59, Try.ntmps59
      go_wp2_with (go_at_call 54; ((with_reducible refine (refmay_any _ _ _ (by omega) (by omega) _).mono ?_); rintro e w1 ⟨rfl, hb1⟩); have hz1 := hb1.size; (try simp only [World.size_alloc, World.size_setCell, World.size_drew, size_drewN] at hz1); have P : Blk w1 (w.heap.size) 71 #[.int .u64 f, .int .u64 s, .int .i64 n] := (by ((with_reducible apply Blk.cast); (case h => (repeat' (first | (with_reducible assumption) | ((with_reducible apply Blk.keep0); (case hk => (with_reducible assumption))) | (with_reducible exact Blk.new _ _ _) | ((with_reducible apply Blk.new'); (case h => (first | (with_reducible rfl) | (simp only [World.size_alloc, World.size_setCell, World.size_drew, size_drewN]; done)))) | (with_reducible apply Blk.alloc) | (with_reducible apply Blk.set_) | ((with_reducible apply Blk.far); (case hp => (simp only []; omega))) | (with_reducible apply Blk.drew) | (with_reducible apply Blk.drewN)))); (case e => rfl))); have P_c := P.cell; have P_f := P.frozen; have P_z := P.lt)
      go_ret2
      exact ⟨rfl, by (repeat' (first | (with_reducible exact Kept.refl _ _) | (with_reducible assumption) | (with_reducible refine Kept.then_ (by with_reducible assumption) ?_) | (with_reducible refine Kept.thenS (by with_reducible assumption) ?_) | (with_reducible refine Kept.alloc ?_ _) | (with_reducible refine Kept.drew ?_) | (with_reducible refine Kept.drewN ?_ _) | (with_reducible refine Kept.setNew ?_ ?_ _) | ((try simp only [World.size_alloc, World.size_setCell, World.size_drew, size_drewN] at *); (try dsimp only); omega)))⟩
    · rw [if_neg (fun h => hi h.2), if_pos hm, if_neg hi]
      go_enter Try.func59, Try.ntmps59
      go_wp2_with (go_at_call 54; ((with_reducible refine (refmay_any _ _ _ (by omega) (by omega) _).mono ?_); rintro e w1 ⟨rfl, hb1⟩); have hz1 := hb1.size; (try simp only [World.size_alloc, World.size_setCell, World.size_drew, size_drewN] at hz1); have P : Blk w1 (w.heap.size) 71 #[.int .u64 f, .int .u64 s, .int .i64 n] := (by ((with_reducible apply Blk.cast); (case h => (repeat' (first | (with_reducible assumption) | ((with_reducible apply Blk.keep0); (case hk => (with_reducible assumption))) | (with_reducible exact Blk.new _ _ _) | ((with_reducible apply Blk.new'); (case h => (first | (with_reducible rfl) | (simp only [World.size_alloc, World.size_setCell, World.size_drew, size_drewN]; done)))) | (with_reducible apply Blk.alloc) | (with_reducible apply Blk.set_) | ((with_reducible apply Blk.far); (case hp => (simp only []; omega))) | (with_reducible apply Blk.drew) | (with_reducible apply Blk.drewN)))); (case e => rfl))); have P_c := P.cell; have P_f := P.frozen; have P_z := P.lt)
      all_goals
        first | (exfalso; omega) | skip
        go_ret2
        exact ⟨rfl, by (repeat' (first | (with_reducible exact Kept.refl _ _) | (with_reducible assumption) | (with_reducible refine Kept.then_ (by with_reducible assumption) ?_) | (with_reducible refine Kept.thenS (by with_reducible assumption) ?_) | (with_reducible refine Kept.alloc ?_ _) | (with_reducible refine Kept.drew ?_) | (with_reducible refine Kept.drewN ?_ _) | (with_reducible refine Kept.setNew ?_ ?_ _) | ((try simp only [World.size_alloc, World.size_setCell, World.size_drew, size_drewN] at *); (try dsimp only); omega)))⟩
  · rw [if_neg (fun h => hm h.1), if_neg hm]
    go_enter Try.func59, Try.ntmps59
    go_wp2_with (go_at_call 54; ((with_reducible refine (refmay_any _ _ _ (by omega) (by omega) _).mono ?_); rintro e w1 ⟨rfl, hb1⟩); have hz1 := hb1.size; (try simp only [World.size_alloc, World.size_setCell, World.size_drew, size_drewN] at hz1); have P : Blk w1 (w.heap.size) 71 #[.int .u64 f, .int .u64 s, .int .i64 n] := (by ((with_reducible apply Blk.cast); (case h => (repeat' (first | (with_reducible assumption) | ((with_reducible apply Blk.keep0); (case hk => (with_reducible assumption))) | (with_reducible exact Blk.new _ _ _) | ((with_reducible apply Blk.new'); (case h => (first | (with_reducible rfl) | (simp only [World.size_alloc, World.size_setCell, World.size_drew, size_drewN]; done)))) | (with_reducible apply Blk.alloc) | (with_reducible apply Blk.set_) | ((with_reducible apply Blk.far); (case hp => (simp only []; omega))) | (with_reducible apply Blk.drew) | (with_reducible apply Blk.drewN)))); (case e => rfl))); have P_c := P.cell; have P_f := P.frozen; have P_z := P.lt)
    go_ret2
    exact ⟨rfl, by (repeat' (first | (with_reducible exact Kept.refl _ _) | (with_reducible assumption) | (with_reducible refine Kept.then_ (by with_reducible assumption) ?_) | (with_reducible refine Kept.thenS (by with_reducible assumption) ?_) | (with_reducible refine Kept.alloc ?_ _) | (with_reducible refine Kept.drew ?_) | (with_reducible refine Kept.drewN ?_ _) | (with_reducible refine Kept.setNew ?_ ?_ _) | ((try simp only [World.size_alloc, World.size_setCell, World.size_drew, size_drewN] at *); (try dsimp only); omega)))⟩
theorem mul_lt {n s : Int} {k : Nat} (hs : 0 ≤ s) (h : (k : Int) < n) : (k : Int) * s + s ≤ n * s := by
  have h1 : ((k : Int) + 1) * s ≤ n * s := Int.mul_le_mul_of_nonneg_right (by omega) hs
  have h2 : ((k : Int) + 1) * s = k * s + s := by rw [Int.add_mul, Int.one_mul]
  omega
theorem idx_hit {f s n a : Int} {k : Nat} (hm : MayP f s n) (hk : (k : Int) < n) (e : a = f + k * s) : idxE f s n a = 0 ∧ idxV f s n a = k := by
  have hm' := hm
  unfold MayP at hm'
  have h1 := mul_lt (s := s) (by omega) hk
  have h2 : 0 ≤ (k : Int) * s := Int.mul_nonneg (by omega) (by omega)
  have e0 : a - f = (k : Int) * s := by omega
  have h3 : idxE f s n a = 0 := by
    unfold idxE
    rw [if_pos hm, if_neg (by omega), if_neg (by rw [e0, Int.mul_emod_left]; omega)]
  refine ⟨h3, ?_⟩
  unfold idxV
  rw [if_pos h3, e0, Int.mul_ediv_cancel _ (by omega)]
theorem idx_mid {f s n a : Int} {k : Nat} (hm : MayP f s n) (hk : (k : Int) < n) (h : f + k * s < a) (h' : a < f + k * s + s) : idxE f s n a = 5 ∧ idxV f s n a = 0 := by
  have hm' := hm
  unfold MayP at hm'
  have h1 := mul_lt (s := s) (by omega) hk
  have h2 : 0 ≤ (k : Int) * s := Int.mul_nonneg (by omega) (by omega)
  have e0 : (a - f) % s = a - f - k * s := by
    rw [show a - f = (a - f - k * s) + k * s by omega, Int.add_mul_emod_self_right, Int.emod_eq_of_lt (by omega) (by omega)]
    omega
  have h3 : idxE f s n a = 5 := by
    unfold idxE
    rw [if_pos hm, if_neg (by omega), if_pos (by omega)]
  exact ⟨h3, by unfold idxV; rw [if_neg (by omega)]⟩
theorem idx_out {f s n a : Int} (hm : MayP f s n) (h : a < f ∨ f + n * s ≤ a) : idxE f s n a = 3 ∧ idxV f s n a = 0 := by
  have h3 : idxE f s n a = 3 := by unfold idxE; rw [if_pos hm, if_pos h]
  exact ⟨h3, by unfold idxV; rw [if_neg (by omega)]⟩
theorem idx_no {f s n a : Int} (hm : ¬ MayP f s n) : idxE f s n a = 2 ∧ idxV f s n a = 0 := by
  have h3 : idxE f s n a = 2 := by unfold idxE; rw [if_neg hm]
  exact ⟨h3, by unfold idxV; rw [if_neg (by omega)]⟩
theorem refindex_any (f s n a : Int) (hf: 0 ≤ f) (hs : 0 ≤ s) (ha : 0 ≤ a) (w : World) : Calls Try.prog 56 #[.agg #[.int .u64 f, .int .u64 s, .int .i64 n], .int .u64 a] w fun e w' => e = .returned (.tuple #[.int .i64 (idxV f s n a), .int .i64 (idxE f s n a)]) ∧ Kept [] w w' := by
  by_cases hm : MayP f s n
  · have hm' := hm
    unfold MayP at hm'
    go_enter Try.func56, Try.ntmps56
    go_wp2_with fail
    (with_reducible refine (refmay_any _ _ _ (by omega) (by omega) _).mono ?_)
    rintro e w1 ⟨rfl, hb1⟩
    have hs1 := hb1.size
    (try simp only [World.size_alloc, World.size_setCell, World.size_drew, size_drewN] at hs1)
    have P : Blk w1 w.heap.size 71 #[.int .u64 f, .int .u64 s, .int .i64 n] := by ((with_reducible apply Blk.cast); (case h => (repeat' (first | (with_reducible assumption) | ((with_reducible apply Blk.keep0); (case hk => (with_reducible assumption))) | (with_reducible exact Blk.new _ _ _) | ((with_reducible apply Blk.new'); (case h => (first | (with_reducible rfl) | (simp only [World.size_alloc, World.size_setCell, World.size_drew, size_drewN]; done)))) | (with_reducible apply Blk.alloc) | (with_reducible apply Blk.set_) | ((with_reducible apply Blk.far); (case hp => (simp only []; omega))) | (with_reducible apply Blk.drew) | (with_reducible apply Blk.drewN)))); (case e => rfl))
    have P_c := P.cell
    have P_f := P.frozen
    have P_z := P.lt
    have hk1 : Kept [] w w1 := by (repeat' (first | (with_reducible exact Kept.refl _ _) | (with_reducible assumption) | (with_reducible refine Kept.then_ (by with_reducible assumption) ?_) | (with_reducible refine Kept.thenS (by with_reducible assumption) ?_) | (with_reducible refine Kept.alloc ?_ _) | (with_reducible refine Kept.drew ?_) | (with_reducible refine Kept.drewN ?_ _) | (with_reducible refine Kept.setNew ?_ ?_ _) | ((try simp only [World.size_alloc, World.size_setCell, World.size_drew, size_drewN] at *); (try dsimp only); omega)))
    go_wp2_with fail
    go_loop [6] (fun i => ∃ k : Nat, (k : Int) ≤ n ∧ i = .int .i64 k ∧ (a < f ∨ f + k * s ≤ a)) (fun i => (n - intOf i).toNat)
    case atStart => exact ⟨0, by omega, rfl, by omega⟩
    case round =>
      obtain ⟨k, hk, rfl, hrow⟩ := hrel
      by_cases hlt : (k : Int) < n
      · have hb := mul_bd k s (by omega) (by omega) (by omega) (by omega)
        have hb2 := mul_lt (show 0 ≤ s by omega) hlt
        by_cases h1 : a = f + k * s
        · have h1b : (a == f + k * s) = true := by simp [h1]
          have e := idx_hit hm hlt h1
          have E := Lib.hid e
          clear e h1
          go_wp2_with fail
          go_ret2
          exact ⟨by rw [E.out.1, E.out.2]; rfl, hk1⟩
        · have h1b : (a == f + k * s) = false := by simp [h1]
          by_cases h2 : f + k * s < a ∧ a < f + k * s + s
          · obtain ⟨h2, h3⟩ := h2
            have e := idx_mid hm hlt h2 h3
            have E := Lib.hid e
            clear e h1
            go_wp2_with fail
            go_ret2
            exact ⟨by rw [E.out.1, E.out.2]; rfl, hk1⟩
          · have h4 : a < f ∨ f + ((k + 1 : Nat) : Int) * s ≤ a := by
              rw [show ((k + 1 : Nat) : Int) * s = k * s + s by rw [Int.natCast_add, Int.add_mul]; simp]
              omega
            have H4 := Lib.hid h4
            clear h4 h1 hrow
            by_cases h5 : f + k * s < a
            · have h6 : ¬ a < f + k * s + s := fun h => h2 ⟨h5, h⟩
              clear h2
              go_wp2_with fail
              go_round
              case rel => exact ⟨k + 1, by omega, by go_num, H4.out⟩
              case measure => simp [intOf]; omega
            · clear h2
              go_wp2_with fail
              go_round
              case rel => exact ⟨k + 1, by omega, by go_num, H4.out⟩
              case measure => simp [intOf]; omega
      · obtain e1 : (k : Int) = n := by omega
        have e := idx_out hm (a := a) (by rw [← e1]; exact hrow)
        have E := Lib.hid e
        clear e e1 hrow
        go_wp2_with fail
        go_ret2
        exact ⟨by rw [E.out.1, E.out.2]; rfl, hk1⟩
  · have e := idx_no (a := a) hm
    rw [e.1, e.2]
    clear e
    go_enter Try.func56, Try.ntmps56
    go_wp2_with fail
    (with_reducible refine (refmay_any _ _ _ (by omega) (by omega) _).mono ?_)
    rintro e w1 ⟨rfl, hb1⟩
    have hs1 := hb1.size
    (try simp only [World.size_alloc, World.size_setCell, World.size_drew, size_drewN] at hs1)
    have P : Blk w1 w.heap.size 71 #[.int .u64 f, .int .u64 s, .int .i64 n] := by ((with_reducible apply Blk.cast); (case h => (repeat' (first | (with_reducible assumption) | ((with_reducible apply Blk.keep0); (case hk => (with_reducible assumption))) | (with_reducible exact Blk.new _ _ _) | ((with_reducible apply Blk.new'); (case h => (first | (with_reducible rfl) | (simp only [World.size_alloc, World.size_setCell, World.size_drew, size_drewN]; done)))) | (with_reducible apply Blk.alloc) | (with_reducible apply Blk.set_) | ((with_reducible apply Blk.far); (case hp => (simp only []; omega))) | (with_reducible apply Blk.drew) | (with_reducible apply Blk.drewN)))); (case e => rfl))
    have P_c := P.cell
    have P_f := P.frozen
    have P_z := P.lt
    go_wp2_with fail
    go_ret2
    exact ⟨rfl, by (repeat' (first | (with_reducible exact Kept.refl _ _) | (with_reducible assumption) | (with_reducible refine Kept.then_ (by with_reducible assumption) ?_) | (with_reducible refine Kept.thenS (by with_reducible assumption) ?_) | (with_reducible refine Kept.alloc ?_ _) | (with_reducible refine Kept.drew ?_) | (with_reducible refine Kept.drewN ?_ _) | (with_reducible refine Kept.setNew ?_ ?_ _) | ((try simp only [World.size_alloc, World.size_setCell, World.size_drew, size_drewN] at *); (try dsimp only); omega)))⟩
end Go.Proofs.Ytgiokigokedakaa
