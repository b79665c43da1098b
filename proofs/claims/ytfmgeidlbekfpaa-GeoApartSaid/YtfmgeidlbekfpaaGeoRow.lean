/- Runs in rows: Clone, the closures of Meet, IndexFunc. -/
import Derived.Test.YtfmgeidlbekfpaaRowS
import Derived.Test.YtfmgeidlbekfpaaIn
import Derived.Lib.SliceRun
set_option linter.unusedVariables false
set_option linter.unusedSimpArgs false
namespace Go.Proofs.Ytfmgeidlbekfpaa
open Go.RowKit
abbrev RunT := Int × Int × Int
def encR (r : RunT) : List Value := [.int .u64 r.1, .int .u64 r.2.1, .int .i64 r.2.2]
theorem encR_k : EncK encR 3 := ⟨by omega, fun _ => rfl, fun x v hv => by
  simp [encR] at hv
  rcases hv with rfl | rfl | rfl <;> rfl⟩
theorem info_run : (Try.prog.info? 43).map (fun i => (i.zero, i.size, i.bytes)) = some (some (.agg #[.int .u64 0, .int .u64 0, .int .i64 0]), 3, 24) := by kernel_rfl
/-- The runs rs lie in block g. -/
def CellsR (w : World) (g : Nat) (rs : List RunT) : Prop :=
  g < w.heap.size ∧ ∀ i : Nat, i < rs.length → w.cell? ⟨g, i * 3, none⟩ = some (.int .u64 (rs[i]?.getD (0, 0, 0)).1) ∧ w.cell? ⟨g, i * 3 + 1, none⟩ = some (.int .u64 (rs[i]?.getD (0, 0, 0)).2.1) ∧ w.cell? ⟨g, i * 3 + 2, none⟩ = some (.int .i64 (rs[i]?.getD (0, 0, 0)).2.2)
theorem CellsR.keep {w w' : World} {g : Nat} {rs : List RunT} (h : CellsR w g rs) (hk : Kept [] w w') : CellsR w' g rs := by
  have hb := hk.block g h.1 (by simp)
  exact ⟨Nat.lt_of_lt_of_le h.1 hk.size, fun i hi => by
    obtain ⟨h1, h2, h3⟩ := h.2 i hi
    exact ⟨(World.cell?_of_block hb).trans h1, (World.cell?_of_block hb).trans h2, (World.cell?_of_block hb).trans h3⟩⟩
theorem row_cells {w : World} {x : Addr} {rs : List RunT} (h : RowS encR w (some x) rs) {i : Nat} (hi : i < rs.length) :
    w.cell? (x.add (i * 3)) = some (.int .u64 (rs[i]?.getD (0, 0, 0)).1) ∧ w.cell? (x.add (i * 3 + 1)) = some (.int .u64 (rs[i]?.getD (0, 0, 0)).2.1) ∧ w.cell? (x.add (i * 3 + 2)) = some (.int .i64 (rs[i]?.getD (0, 0, 0)).2.2) := by
  obtain ⟨y, hy, hb, hc⟩ := h (by omega)
  cases hy
  have e : rs[i]? = some rs[i] := List.getElem?_eq_getElem hi
  have g := fun j hj => encR_k.flat_get rs i j hj
  rw [e]
  refine ⟨hc _ _ ?_, hc _ _ ?_, hc _ _ ?_⟩
  · have := g 0 (by omega)
    rw [e] at this
    simpa [encR] using this
  · have := g 1 (by omega)
    rw [e] at this
    simpa [encR] using this
  · have := g 2 (by omega)
    rw [e] at this
    simpa [encR] using this
theorem CellsR.of_row {w : World} {g : Nat} {rs : List RunT} (h : RowS encR w (some ⟨g, 0, none⟩) rs) (hg : g < w.heap.size) : CellsR w g rs := ⟨hg, fun i hi => by
  obtain ⟨h1, h2, h3⟩ := row_cells h hi
  rw [Addr.add_lit, Nat.zero_add] at h1 h2 h3
  exact ⟨h1, h2, h3⟩⟩
set_option maxHeartbeats 1000000 in
theorem clone_nil (w : World) (c : Nat) : Calls Try.prog 30 #[.slice none 0 c] w fun e w' => e = .returned (.slice none 0 0) ∧ w = w' := by
  have heq := fun (w : World) => Lib.run_eql_slice_nil (P := Try.prog) w 55 43 none 0 c 0 0 Try.underlying55
  go_enter Try.func30, Try.ntmps30
  go_wp2_with fail
  go_ret
  exact ⟨rfl, rfl⟩
def CloneIs (W : World) (rs : List RunT) (e : Ending) (w' : World) : Prop := ∃ v, e = .returned v ∧ OwnS W.heap.size 43 3 encR w' v rs
set_option maxHeartbeats 1000000 in
theorem clone_some (ad : Addr) (n c : Nat) (rs : List RunT) (w : World) (hn : n = rs.length) (hr : RowS encR w (some ad) rs) (hl : n ≤ 1000000) :
    Calls Try.prog 30 #[.slice (some ad) n c] w fun e w' => CloneIs w rs e w' ∧ Kept [] w w' := by
  obtain ⟨i0, hi, hz0, hz1, hz2⟩ := info_parts info_run
  have HN := Lib.hid hn
  have HR := Lib.hid hr
  clear hn hr
  have heq := fun (w : World) => Lib.run_eql_slice_nil (P := Try.prog) w 55 43 (some ad) n c 0 0 Try.underlying55
  go_enter Try.func30, Try.ntmps30
  go_wp2_with (refine app_S encR_k 55 43 i0 _ 24 Try.underlying55 hi hz0 hz1 hz2 rfl (by omega) (by rfl) (.tmp 5) (.tmp 6) rfl w w.heap.size _ [] rs rfl (OwnS.made (b := w.heap.size) _ rfl (Nat.le_refl _)) _ _ _ HN.out rfl (fun h => by cases h) (HR.out.keep ((Kept.refl [] w).alloc _)) ((Kept.refl [] w).alloc _) (Nat.le_refl _) (by simp) (by have := HN.out; simp; omega) ?_)
  intro v w2 own2 hk2 hg2 hs2
  have O2 := Lib.hid own2
  clear own2 hg2
  go_wp2_with fail
  go_ret
  exact ⟨⟨v, rfl, by simpa using O2.out⟩, hk2⟩
/-- What Meet leaves out. -/
def dropP (r : RunT) : Bool := !decide (MayP r.1 r.2.1 r.2.2) || (r.2.2 == 0)
set_option maxHeartbeats 1000000 in
theorem meet1_any (f s n : Int) (hf : 0 ≤ f) (hs : 0 ≤ s) (w : World) : Calls Try.prog 31 #[.agg #[.int .u64 f, .int .u64 s, .int .i64 n]] w fun e w' => e = .returned (.bool (dropP (f, s, n))) ∧ Kept [] w w' := by
  have hq : dropP (f, s, n) = (!decide (MayP f s n) || (n == 0)) := rfl
  rw [hq]
  have DM := Lib.hid (may_any f s n hf hs)
  generalize decide (MayP f s n) = b at DM
  cases b with
  | false =>
    go_enter Try.func31, Try.ntmps31
    go_wp2_with fail
    (with_reducible refine (DM.out _).mono ?_)
    rintro e w1 ⟨rfl, hb1⟩
    have hs1 := hb1.size
    (try simp only [World.size_alloc, World.size_setCell, World.size_drew, size_drewN] at hs1)
    go_wp2_with fail
    go_ret
    exact ⟨rfl, by (repeat' (first | (with_reducible exact Kept.refl _ _) | (with_reducible assumption) | (with_reducible refine Kept.then_ (by with_reducible assumption) ?_) | (with_reducible refine Kept.thenS (by with_reducible assumption) ?_) | (with_reducible refine Kept.alloc ?_ _) | (with_reducible refine Kept.drew ?_) | (with_reducible refine Kept.drewN ?_ _) | (with_reducible refine Kept.setNew ?_ ?_ _) | ((try simp only [World.size_alloc, World.size_setCell, World.size_drew, size_drewN] at *); (try dsimp only); omega)))⟩
  | true =>
    have B0 : Hid (Blk (w.alloc (.cells #[.int .u64 f, .int .u64 s, .int .i64 n] 43)) w.heap.size 43 #[.int .u64 f, .int .u64 s, .int .i64 n]) := Lib.hid (Blk.new _ _ _)
    go_enter Try.func31, Try.ntmps31
    go_wp2_with fail
    (with_reducible refine (DM.out _).mono ?_)
    rintro e w1 ⟨rfl, hb1⟩
    have B1 := B0.out.keep0 hb1
    have c2 := B1.cell 2
    have l2 := B1.lt
    go_wp2_with fail
    go_ret
    exact ⟨ret_bool (by simp), by (repeat' (first | (with_reducible exact Kept.refl _ _) | (with_reducible assumption) | (with_reducible refine Kept.then_ (by with_reducible assumption) ?_) | (with_reducible refine Kept.thenS (by with_reducible assumption) ?_) | (with_reducible refine Kept.alloc ?_ _) | (with_reducible refine Kept.drew ?_) | (with_reducible refine Kept.drewN ?_ _) | (with_reducible refine Kept.setNew ?_ ?_ _) | ((try simp only [World.size_alloc, World.size_setCell, World.size_drew, size_drewN] at *); (try dsimp only); omega)))⟩
theorem eg_meet1 (args : Array Value) (w : World) : (callFunc 31 args).run Try.prog w = .ok (.enter 31 args) w := enters_of Try.func31 (by kernel_rfl) rfl args w
/-- The first that p takes. -/
def firstR (p : RunT → Bool) (rs : List RunT) (k : Nat) : Prop := k ≤ rs.length ∧ (∀ j : Nat, j < k → p (rs[j]?.getD (0, 0, 0)) = false) ∧ (k < rs.length → p (rs[k]?.getD (0, 0, 0)) = true)
theorem firstR_ex (p : RunT → Bool) (rs : List RunT) : ∃ k, firstR p rs k := by
  induction rs with
  | nil => exact ⟨0, Nat.le_refl _, fun j hj => by omega, fun h => by simp at h⟩
  | cons r rs ih =>
    by_cases hp : p r = true
    · exact ⟨0, Nat.zero_le _, fun j hj => by omega, fun _ => hp⟩
    · obtain ⟨k, h1, h2, h3⟩ := ih
      refine ⟨k + 1, by simp; omega, fun j hj => ?_, fun h => ?_⟩
      · cases j with
        | zero => simpa using hp
        | succ j => exact h2 j (by omega)
      · exact h3 (by simpa using h)
theorem run_ok {rs : List RunT} (h : ∀ r, r ∈ rs → 0 ≤ r.1 ∧ 0 ≤ r.2.1) (i : Nat) : 0 ≤ (rs[i]?.getD (0, 0, 0)).1 ∧ 0 ≤ (rs[i]?.getD (0, 0, 0)).2.1 := by
  rcases Nat.lt_or_ge i rs.length with h1 | h1
  · rw [List.getElem?_eq_getElem h1]; exact h _ (List.getElem_mem h1)
  · rw [List.getElem?_eq_none h1]; exact ⟨by decide, by decide⟩
set_option maxRecDepth 100000 in
set_option maxHeartbeats 2000000 in
theorem indexR_any (g cap : Nat) (rs : List RunT) (w : World) (hc : CellsR w g rs) (hz : ∀ r, r ∈ rs → 0 ≤ r.1 ∧ 0 ≤ r.2.1) (hn : rs.length ≤ 1000000) (k : Nat) (hf : firstR dropP rs k) :
    Calls Try.prog 36 #[.slice (some ⟨g, 0, none⟩) rs.length cap, .func (.func 31) #[] #[]] w fun e w' => e = .returned (.int .i64 (if k < rs.length then (k : Int) else -1)) ∧ Kept [] w w' := by
  have HC := Lib.hid hc
  have HZ := Lib.hid (fun i => run_ok hz i)
  have HF := Lib.hid hf
  have heg := eg_meet1
  have hkl := hf.1
  clear hc hz hf
  go_enter Try.func36, Try.ntmps36
  go_wp2_with fail
  go_loopw [8] (fun v wr => ∃ j : Nat, j ≤ k ∧ v = .int .i64 j ∧ Kept [] w wr) (fun v _ => rs.length - (intOf v).toNat)
  case atStart => exact ⟨0, Nat.zero_le _, rfl, Kept.refl _ _⟩
  case round =>
    obtain ⟨j, hj, rfl, hkw⟩ := hrel
    by_cases hlt : j < rs.length
    · obtain ⟨c1, c2, c3⟩ := (HC.out.keep hkw).2 j hlt
      have hl := (HC.out.keep hkw).1
      obtain ⟨z1, z2⟩ := HZ.out j
      have HP1 := Lib.hid (fun h => HF.out.2.1 j h)
      have HP2 := Lib.hid (fun (e : j = k) (h : k < rs.length) => HF.out.2.2 h)
      obtain ⟨q, hq⟩ : ∃ q, rs[j]?.getD (0, 0, 0) = q := ⟨_, rfl⟩
      have HP3 : Hid (j = k → dropP q = true) := Lib.hid (fun e => by
        have := HF.out.2.2 (by omega)
        rw [← e, hq] at this; exact this)
      have HP4 : Hid (j < k → dropP q = false) := Lib.hid (fun e => by
        have := HF.out.2.1 j e
        rw [hq] at this; exact this)
      rw [hq] at c1 c2 c3 z1 z2
      clear hq HP1 HP2
      obtain ⟨f, s, n⟩ := q
      dsimp only at c1 c2 c3 z1 z2
      have DM := Lib.hid (meet1_any f s n z1 z2)
      by_cases hjk : j < k
      · rw [HP4.out hjk] at DM
        go_wp2_with fail
        (with_reducible refine (DM.out _).mono ?_)
        rintro e w1 ⟨rfl, hb1⟩
        go_wp2_with fail
        go_roundw
        case rel => exact ⟨j + 1, by omega, by go_num, hkw.trans0 hb1⟩
        case measure => simp [intOf]; omega
      · obtain rfl : j = k := by omega
        rw [HP3.out rfl] at DM
        have HI : Hid ((if j < rs.length then (j : Int) else -1) = (j : Int)) := Lib.hid (if_pos hlt)
        go_wp2_with fail
        (with_reducible refine (DM.out _).mono ?_)
        rintro e w1 ⟨rfl, hb1⟩
        go_wp2_with fail
        go_ret
        exact ⟨rfl, hkw.trans0 hb1⟩
    · have hjl : j = rs.length := by omega
      have HI : Hid ((if k < rs.length then (k : Int) else -1) = -1) := Lib.hid (if_neg (by omega))
      go_wp2_with fail
      go_ret
      exact ⟨rfl, hkw⟩
end Go.Proofs.Ytfmgeidlbekfpaa
