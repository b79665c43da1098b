/- Whether any two meet is the document's. -/
import Derived.Test.YtfmgeidlbekfpaaGeoRefM
set_option linter.unusedVariables false
set_option linter.unusedSimpArgs false
namespace Go.Proofs.Ytfmgeidlbekfpaa.GeoMeets
open Go.RowKit
section
open Go.ChangeShapes Go.WideShapes Go.Deep
variable {H : Type} {enc : TypeId × Value → H} {P : Program} {w : World} {base : Nat} {spare : Nat → Bool} {held : Bool}
theorem open_slice_fields {t e : TypeId} {fs : Array Field} {fuel : Nat} {cs : List Value} {x : DataW H × List MemPlace} (ht : P.underlying t = some (.slice e)) (he : P.underlying e = some (.struct fs))
    (hone : oneCellFields P fs = true) (hC : P.cellsOf e = fs.size) (h : DataW.trod enc P w base spare held fuel t cs = some x) :
    (cs = [.slice none 0 0] ∧ x = (.nil, [])) ∨
    ∃ (a : Addr) (len cap m : Nat) (D : Nat → DataW H) (Pl : Nat → List MemPlace), cs = [.slice (some a) len cap] ∧ base ≤ a.block ∧ len ≤ cap ∧ cap ≤ maxLen ∧ m = (if spare a.block then cap else len) ∧
      x = (.slice ((List.range len).map D) ((List.range (m - len)).map fun j => D (len + j)), MemPlace.row a (m * fs.size) ++ (List.range m).flatMap Pl) ∧
      ∀ i, i < m → ∃ (ys : List (DataW H × List MemPlace)) (n : Nat), D i = .agg (ys.map (·.1)) ∧ Pl i = ys.flatMap (·.2) ∧ ys.length = fs.size ∧
        ∀ (j : Nat) (f : Field), fs[j]? = some f → ∃ (v : Value) (y : DataW H × List MemPlace), w.cell? (a.add (i * fs.size + j)) = some v ∧ ys[j]? = some y ∧ DataW.trod enc P w base spare held n f.type [v] = some y := by
  rcases open_slice ht h with h0 | ⟨a, len, cap, m, n, D, Pl, hcs, hb, hl, hm, hmm, hx, hi⟩
  · exact .inl h0
  · refine .inr ⟨a, len, cap, m, D, Pl, hcs, hb, hl, hm, hmm, by rw [hC] at hx; exact hx, fun i him => ?_⟩
    obtain ⟨cs', hc, ht'⟩ := hi i him
    rw [hC] at hc
    obtain ⟨ys, n', hn', hy, hlen, hyl, hf⟩ := DataW.trod_struct he ht'
    obtain ⟨_, hcl, hat⟩ := World.cells?_some hc
    simp only [Prod.mk.injEq] at hy
    refine ⟨ys, n', hy.1, hy.2, hyl, fun j f hj => ?_⟩
    obtain ⟨ho, hk⟩ := hone_of hone j f hj
    have hjl : j < fs.size := (Array.getElem?_eq_some_iff.1 hj).1
    have hcell := hat j hjl
    have hv : cs'[j]? = some (cs'[j]'(by omega)) := List.getElem?_eq_getElem (by omega)
    have h1 := hf j f hj
    rw [ho, hk] at h1
    have hone' : (cs'.drop j).take 1 = [cs'[j]'(by omega)] := by
      rw [List.drop_eq_getElem_cons (by omega)]
      rfl
    rw [hone'] at h1
    have hys : ys[j]? = some (ys[j]'(by omega)) := List.getElem?_eq_getElem (by omega)
    refine ⟨_, _, ?_, hys, h1.trans hys⟩
    rw [← Go.Deep.add_add, hcell, hv]
end
/-- Runs that came in: nil, or rows of three numbers. -/
def IsRuns (w : World) (a : Option Addr) (len cap : Nat) (zs : List RunT) : Prop :=
  (a = none ∧ len = 0 ∧ cap = 0 ∧ zs = []) ∨
  ∃ x : Addr, a = some x ∧ len ≤ cap ∧ cap ≤ maxLen ∧ zs.length = len ∧ ∀ i, i < len → ∃ z, zs[i]? = some z ∧ w.cell? (x.add (i * 3)) = some (.int .u64 z.1) ∧ w.cell? (x.add (i * 3 + 1)) = some (.int .u64 z.2.1) ∧ w.cell? (x.add (i * 3 + 2)) = some (.int .i64 z.2.2) ∧ (Lit.int .u64 z.1).wf = true ∧ (Lit.int .u64 z.2.1).wf = true
section
open Go.ChangeShapes Go.WideShapes Go.Deep
variable {H : Type} {enc : TypeId × Value → H} {w : World} {base : Nat} {held : Bool}
theorem isT54_trod {fuel : Nat} {v : Value} {x : DataW H × List MemPlace} (h : DataW.trod enc Try.prog w base (fun _ => true) held fuel 54 [v] = some x) : ∃ a len cap zs, [v] = [.slice a len cap] ∧ IsRuns w a len cap zs := by
  rcases open_slice_fields Try.underlying54 Try.underlying42 (by kernel_rfl) (by kernel_rfl) h with ⟨hcs, _⟩ | ⟨a, len, cap, m, D, Pl, hcs, hb, hl, hm, hmm, hx, hi⟩
  · exact ⟨none, 0, 0, [], hcs, .inl ⟨rfl, rfl, rfl, rfl⟩⟩
  · simp only [if_true] at hmm
    have hk' : ∀ i, i < len → ∃ z : RunT, w.cell? (a.add (i * 3)) = some (.int .u64 z.1) ∧ w.cell? (a.add (i * 3 + 1)) = some (.int .u64 z.2.1) ∧ w.cell? (a.add (i * 3 + 2)) = some (.int .i64 z.2.2) ∧ (Lit.int .u64 z.1).wf = true ∧ (Lit.int .u64 z.2.1).wf = true := by
      intro i hlt
      obtain ⟨ys, n, _, _, _, hf⟩ := hi i (by omega)
      obtain ⟨v0, y0, c0, _, t0⟩ := hf 0 _ rfl
      obtain ⟨v1, y1, c1, _, t1⟩ := hf 1 _ rfl
      obtain ⟨v2, y2, c2, _, t2⟩ := hf 2 _ rfl
      obtain ⟨k, e0, _, w0⟩ := DataW.trod_int Try.underlying22 t0
      obtain ⟨p, e1, _, w1⟩ := DataW.trod_int Try.underlying22 t1
      obtain ⟨r, e2, _, w2⟩ := DataW.trod_int Try.underlying3 t2
      simp only [List.cons.injEq, and_true] at e0 e1 e2
      subst e0 e1 e2
      exact ⟨(k, p, r), c0, c1, c2, w0, w1⟩
    clear hi
    have hgen : ∀ n, n ≤ len → ∃ zs : List RunT, zs.length = n ∧ ∀ i, i < n → ∃ z, zs[i]? = some z ∧ w.cell? (a.add (i * 3)) = some (.int .u64 z.1) ∧ w.cell? (a.add (i * 3 + 1)) = some (.int .u64 z.2.1) ∧ w.cell? (a.add (i * 3 + 2)) = some (.int .i64 z.2.2) ∧ (Lit.int .u64 z.1).wf = true ∧ (Lit.int .u64 z.2.1).wf = true := by
      intro n
      induction n with
      | zero => exact fun _ => ⟨[], rfl, fun i hi => by omega⟩
      | succ n ih =>
        intro hn
        obtain ⟨zs, hl, hz⟩ := ih (by omega)
        obtain ⟨z, hh⟩ := hk' n (by omega)
        refine ⟨zs ++ [z], by simp [hl], fun i hi => ?_⟩
        rcases Nat.lt_or_ge i n with h1 | h1
        · obtain ⟨z', h2, h3⟩ := hz i h1
          exact ⟨z', by rw [List.getElem?_append_left (by omega)]; exact h2, h3⟩
        · obtain rfl : i = n := by omega
          exact ⟨z, by rw [List.getElem?_append_right (by omega)]; simp [hl], hh⟩
    obtain ⟨zs, hzl, hzs⟩ := hgen len (Nat.le_refl _)
    exact ⟨some a, len, cap, zs, hcs, .inr ⟨a, rfl, hl, hm, hzl, hzs⟩⟩
theorem isT54_of {a : Option Addr} {len cap : Nat} {d : DataW H} {p : List MemPlace} (h : DataW.Trod enc Try.prog w base (fun _ => true) held 54 (.slice a len cap) d p) : ∃ zs, IsRuns w a len cap zs := by
  obtain ⟨fuel, hf⟩ := h
  obtain ⟨a', l', c', zs, he, hr⟩ := isT54_trod (v := .slice a len cap) (by simpa [Value.cells] using hf)
  simp only [List.cons.injEq, Value.slice.injEq, and_true] at he
  obtain ⟨rfl, rfl, rfl⟩ := he
  exact ⟨zs, hr⟩
end
/-- What the law reads. -/
def Reads (w : World) (a : Option Addr) (zs : List RunT) : Prop := 0 < zs.length → ∃ x : Addr, a = some x ∧ x.block < w.heap.size ∧ ∀ i : Nat, i < zs.length → w.cell? (x.add (i * 3)) = some (.int .u64 (rd zs i).1) ∧ w.cell? (x.add (i * 3 + 1)) = some (.int .u64 (rd zs i).2.1) ∧ w.cell? (x.add (i * 3 + 2)) = some (.int .i64 (rd zs i).2.2)
theorem Reads.keep {w w' : World} {a : Option Addr} {zs : List RunT} (h : Reads w a zs) (hk : Kept [] w w') : Reads w' a zs := fun h0 => by
  obtain ⟨x, rfl, hb, hc⟩ := h h0
  have e := hk.block x.block hb (by simp)
  refine ⟨x, rfl, Nat.lt_of_lt_of_le hb hk.size, fun i hi => ?_⟩
  obtain ⟨c0, c1, c2⟩ := hc i hi
  exact ⟨(World.cell?_of_block (by rw [add_block]; exact e)).trans c0, (World.cell?_of_block (by rw [add_block]; exact e)).trans c1, (World.cell?_of_block (by rw [add_block]; exact e)).trans c2⟩
theorem IsRuns.reads {w : World} {a : Option Addr} {len cap : Nat} {zs : List RunT} (h : IsRuns w a len cap zs) : len = zs.length ∧ len ≤ cap ∧ (∀ r, r ∈ zs → 0 ≤ r.1 ∧ 0 ≤ r.2.1) ∧ Reads w a zs := by
  rcases h with ⟨rfl, rfl, rfl, rfl⟩ | ⟨x, rfl, hl, hm, hz, hc⟩
  · exact ⟨rfl, Nat.le_refl _, fun r hr => (by cases hr), fun h => (by simp at h)⟩
  · refine ⟨hz.symm, hl, fun r hr => ?_, fun h0 => ?_⟩
    · obtain ⟨i, hi, rfl⟩ := List.getElem_of_mem hr
      obtain ⟨z, e, _, _, _, w1, w2⟩ := hc i (by omega)
      rw [List.getElem?_eq_getElem hi] at e
      cases e
      exact ⟨(bounds_u64 w1).1, (bounds_u64 w2).1⟩
    · refine ⟨x, rfl, ?_, fun i hi => ?_⟩
      · obtain ⟨z, _, c0, _⟩ := hc 0 (by omega)
        have := cell_lt c0
        rwa [add_block] at this
      · obtain ⟨z, e, c0, c1, c2, _, _⟩ := hc i (by omega)
        unfold rd
        rw [e]
        exact ⟨c0, c1, c2⟩
/-- What the law has gathered: behind the first i, of the i-th the first j. -/
def metB (zs : List RunT) (i j : Nat) : Bool := !decide (Sep (zs.take i)) || (zs.take j).any (fun s => ov (rd zs i) s)
theorem metB_zero (zs : List RunT) : (!decide (Sep (zs.take 0))) = false := by simp [Sep]
theorem metB_step (zs : List RunT) (i j : Nat) (hj : j < zs.length) : metB zs i (j + 1) = (metB zs i j || ov (rd zs i) (rd zs j)) := by
  unfold metB
  have e : zs.take (j + 1) = zs.take j ++ [rd zs j] := by
    unfold rd
    rw [List.take_add_one, List.getElem?_eq_getElem hj]; rfl
  rw [e, List.any_append]
  simp [Bool.or_assoc]
theorem metB_end (zs : List RunT) (i : Nat) (hi : i < zs.length) : metB zs i i = !decide (Sep (zs.take (i + 1))) := by
  unfold metB
  have e : zs.take (i + 1) = zs.take i ++ [rd zs i] := by
    unfold rd
    rw [List.take_add_one, List.getElem?_eq_getElem hi]; rfl
  rw [e]
  have h : Sep (zs.take i ++ [rd zs i]) ↔ Sep (zs.take i) ∧ ∀ s, s ∈ zs.take i → ov (rd zs i) s = false := by
    unfold Sep
    rw [List.pairwise_append]
    constructor
    · rintro ⟨h1, _, h2⟩
      exact ⟨h1, fun s hs => by rw [ov_symm]; exact h2 s hs _ (by simp)⟩
    · rintro ⟨h1, h2⟩
      refine ⟨h1, by simp, fun a ha b hb => ?_⟩
      simp at hb
      subst hb
      rw [ov_symm]; exact h2 a ha
  have h3 : decide (Sep (zs.take i ++ [rd zs i])) = (decide (Sep (zs.take i)) && !(zs.take i).any (fun s => ov (rd zs i) s)) := by
    cases ha : (zs.take i).any (fun s => ov (rd zs i) s) with
    | true =>
      rw [List.any_eq_true] at ha
      obtain ⟨s, hs, hv⟩ := ha
      rw [Bool.not_true, Bool.and_false]
      refine decide_eq_false (fun hq => ?_)
      rw [(h.1 hq).2 s hs] at hv
      cases hv
    | false =>
      rw [List.any_eq_false] at ha
      have : ∀ s, s ∈ zs.take i → ov (rd zs i) s = false := fun s hs => by simpa using ha s hs
      rw [Bool.not_false, Bool.and_true]
      exact decide_eq_decide.2 ⟨fun hq => (h.1 hq).1, fun hq => h.2 ⟨hq, this⟩⟩
  rw [h3]
  cases decide (Sep (zs.take i)) <;> simp
theorem add_off (x : Addr) (i j : Nat) (hj : 0 < j) : (⟨(x.add i).block, (x.add i).off + j, none⟩ : Addr) = x.add (i + j) := by
  unfold Addr.add
  by_cases hi : i = 0
  · subst hi; simp; intro h; omega
  · simp [hi, Nat.add_assoc]
theorem metB_start (zs : List RunT) (i : Nat) : metB zs i 0 = !decide (Sep (zs.take i)) := by simp [metB]
theorem row_one {w : World} {b : Nat} {f s n : Int} (hb : Blk w b 43 #[.int .u64 f, .int .u64 s, .int .i64 n]) : RowS encR w (some ⟨b, 0, none⟩) [(f, s, n)] := fun _ => ⟨_, rfl, hb.lt, fun j u hu => by
  rw [Addr.add_lit, hb.cell]
  simpa [encR] using hu⟩
theorem blk_grown {B k : Nat} {t : TypeId} {w w1 w2 : World} {v : Value} {xs : List RunT} {cs : Array Value} (ho : OwnS B 43 3 encR w v xs) (hk : w.heap.size = k) (h : Blk w1 k t cs) (hg : w1.grownBy w2 v.ownBlock) : Blk w2 k t cs :=
  (hg.block k h.lt (fun he => by
    have := World.ownsRow.lt ho k he.symm
    omega)).trans h
set_option maxRecDepth 100000 in
set_option maxHeartbeats 4000000 in
theorem walk (a0 : Option Addr) (len0 cap0 : Nat) (z0 : List RunT) (W : World) (w0 : IsRuns W a0 len0 cap0 z0) :
    Calls Try.prog 7 #[.slice a0 len0 cap0] W fun e w' => e = .returned (.bool true) ∧ Below W.heap.size W w' := by
  obtain ⟨i0, hi, hz0, hz1, hz2⟩ := info_parts info_run
  obtain ⟨rfl, hlc, hz, hrd⟩ := w0.reads
  have HZ := Lib.hid hz
  have HR := Lib.hid hrd
  have hc0 : cap0 ≤ 9223372036854775807 := by
    rcases w0 with ⟨_, _, h, _⟩ | ⟨_, _, _, h, _⟩
    · omega
    · exact h
  clear w0 hz hrd
  by_cases h60 : 60 < (z0.length : Int)
  · go_enter Try.func7, Try.ntmps7
    go_wp2_with fail
    (with_reducible refine (alive_any _).mono ?_)
    rintro e w1 ⟨rfl, hb1⟩
    have hs1 := hb1.size
    (try simp only [World.size_alloc, World.size_setCell, World.size_drew, size_drewN] at hs1)
    go_wp2_with fail
    go_ret
    exact ⟨rfl, Kept.below (by (repeat' (first | (with_reducible exact Kept.refl _ _) | (with_reducible assumption) | (with_reducible refine Kept.then_ (by with_reducible assumption) ?_) | (with_reducible refine Kept.thenS (by with_reducible assumption) ?_) | (with_reducible refine Kept.alloc ?_ _) | (with_reducible refine Kept.drew ?_) | (with_reducible refine Kept.drewN ?_ _) | (with_reducible refine Kept.setNew ?_ ?_ _) | ((try simp only [World.size_alloc, World.size_setCell, World.size_drew, size_drewN] at *); (try dsimp only); omega))))⟩
  go_enter Try.func7, Try.ntmps7
  go_wp2_with fail
  (with_reducible refine (alive_any _).mono ?_)
  rintro e w1 ⟨rfl, hb1⟩
  have hs1 := hb1.size
  (try simp only [World.size_alloc, World.size_setCell, World.size_drew, size_drewN] at hs1)
  go_wp2_with fail
  go_loopw [3, 4, 16] (fun v3 v4 v16 wr => ∃ (i : Nat) (s3 : Value), s3 = v3 ∧ i ≤ z0.length ∧ v4 = .bool (!decide (Sep (z0.take i))) ∧ v16 = .int .i64 i ∧ Hid (OwnS W.heap.size 43 3 encR wr s3 (z0.take i)) ∧ Hid (Kept [] W wr)) (fun _ _ v16 _ => z0.length - (intOf v16).toNat)
  case atStart => exact ⟨0, _, rfl, Nat.zero_le _, by rw [metB_zero], rfl, Lib.hid (OwnS.nil _ _ _), Lib.hid hb1⟩
  case round =>
    obtain ⟨i, s3, h3, hi16, rfl, rfl, hown, hkw⟩ := hrel
    subst h3
    by_cases hlt : i < z0.length
    · obtain ⟨x, rfl, hxb, hxc⟩ := HR.out.keep hkw.out (by omega)
      have HXC := Lib.hid hxc
      obtain ⟨c0, c1, c2⟩ := hxc i hlt
      rw [← add_off _ _ _ (by omega)] at c1 c2
      clear hxc
      have h16 : (i : Int) ≤ (z0.length : Int) := by omega
      have HSN : Hid (z0.take (i + 1) = z0.take i ++ [rd z0 i]) := Lib.hid (by
        unfold rd
        rw [List.take_add_one, List.getElem?_eq_getElem hlt]; rfl)
      have HQ : Hid (0 ≤ (rd z0 i).1 ∧ 0 ≤ (rd z0 i).2.1) := Lib.hid (run_ok HZ.out i)
      have HST : Hid (∀ j : Nat, j < z0.length → metB z0 i (j + 1) = (metB z0 i j || ov (rd z0 i) (rd z0 j))) := Lib.hid (fun j hj => metB_step z0 i j hj)
      have HEN := Lib.hid (metB_end z0 i hlt)
      rw [← metB_start]
      generalize rd z0 i = q at c0 c1 c2 HSN HQ HST
      obtain ⟨f, s, n⟩ := q
      dsimp only at c0 c1 c2 HQ
      have BX : Hid (Blk ((wr.alloc (.cells #[.int .u64 f, .int .u64 s, .int .i64 n] 42)).alloc (.cells #[.int .u64 f, .int .u64 s, .int .i64 n] 43)) wr.heap.size 42 #[.int .u64 f, .int .u64 s, .int .i64 n]) := Lib.hid ((Blk.new _ _ _).alloc _)
      have BY : Hid (Blk ((wr.alloc (.cells #[.int .u64 f, .int .u64 s, .int .i64 n] 42)).alloc (.cells #[.int .u64 f, .int .u64 s, .int .i64 n] 43)) (wr.heap.size + 1) 43 #[.int .u64 f, .int .u64 s, .int .i64 n]) := Lib.hid (by rw [← World.size_alloc wr (.cells #[.int .u64 f, .int .u64 s, .int .i64 n] 42)]; exact Blk.new _ _ _)
      have KY : Hid (Kept [] wr ((wr.alloc (.cells #[.int .u64 f, .int .u64 s, .int .i64 n] 42)).alloc (.cells #[.int .u64 f, .int .u64 s, .int .i64 n] 43))) := Lib.hid (((Kept.refl [] wr).alloc _).alloc _)
      have hsz := hkw.out.size
      have OY : Hid (OwnS W.heap.size 43 3 encR ((wr.alloc (.cells #[.int .u64 f, .int .u64 s, .int .i64 n] 42)).alloc (.cells #[.int .u64 f, .int .u64 s, .int .i64 n] 43)) s3 (z0.take i)) := Lib.hid (hown.out.keep KY.out)
      have KW : Hid (Kept [] W ((wr.alloc (.cells #[.int .u64 f, .int .u64 s, .int .i64 n] 42)).alloc (.cells #[.int .u64 f, .int .u64 s, .int .i64 n] 43))) := Lib.hid (KY.out.then_ hkw.out)
      have HTL : Hid ((z0.take i).length = i) := Lib.hid (by rw [List.length_take]; omega)
      have HS2 : Hid (W.heap.size ≤ ((wr.alloc (.cells #[.int .u64 f, .int .u64 s, .int .i64 n] 42)).alloc (.cells #[.int .u64 f, .int .u64 s, .int .i64 n] 43)).heap.size) := Lib.hid KW.out.size
      go_wp2_with (refine app_S encR_k 55 43 i0 _ 24 Try.underlying55 hi hz0 hz1 hz2 rfl (by omega) (by rfl) (.tmp 21) (.tmp 23) rfl W W.heap.size s3 (z0.take i) [(f, s, n)] rfl OY.out (some ⟨wr.heap.size + 1, 0, none⟩) 1 1 rfl rfl (fun h => by cases h) (row_one BY.out) KW.out (Nat.le_refl _) HS2.out (by rw [HTL.out]; simp; omega) ?_)
      intro v2 w2 own2 hk2 hg2 hs2
      rw [← HSN.out] at own2
      have O2 := Lib.hid own2
      have B2 := Lib.hid (blk_grown hown.out rfl BX.out hg2)
      have K2 := Lib.hid hk2
      clear own2 hg2 hk2 hs2
      have q2 : (0 : Int) ≤ (i : Int) := by omega
      have q3 : (i : Int) ≤ (cap0 : Int) := by omega
      go_wp2_with fail
      go_loopw [4, 29] (fun v4 v29 wq => ∃ j : Nat, j ≤ i ∧ v4 = .bool (metB z0 i j) ∧ v29 = .int .i64 j ∧ Hid (Blk wq wr.heap.size 42 #[.int .u64 f, .int .u64 s, .int .i64 n]) ∧ Hid (Kept [] w2 wq)) (fun _ v29 _ => i - (intOf v29).toNat)
      case atStart => exact ⟨0, Nat.zero_le _, rfl, rfl, B2, Lib.hid (Kept.refl _ _)⟩
      case round =>
        obtain ⟨j, hji, rfl, rfl, hbq, hkq⟩ := hrel
        by_cases hjl : j < i
        · obtain ⟨d0, d1, d2⟩ := ((HR.out.keep (hkq.out.then_ K2.out)) (by omega)).elim (fun y hy => by
            obtain ⟨e, _, h⟩ := hy
            cases e
            exact h j (by omega))
          rw [← add_off _ _ _ (by omega)] at d1 d2
          have HQJ : Hid (0 ≤ (rd z0 j).1 ∧ 0 ≤ (rd z0 j).2.1) := Lib.hid (run_ok HZ.out j)
          have HMB := Lib.hid (HST.out j (by omega))
          generalize rd z0 j = q at d0 d1 d2 HQJ HMB
          obtain ⟨f', s', n'⟩ := q
          dsimp only at d0 d1 d2 HQJ
          have BR : Hid (Blk (wr.alloc (.cells #[.int .u64 f', .int .u64 s', .int .i64 n'] 42)) _ 42 #[.int .u64 f, .int .u64 s, .int .i64 n]) := Lib.hid (hbq.out.alloc _)
          have BS : Hid (Blk (wr.alloc (.cells #[.int .u64 f', .int .u64 s', .int .i64 n'] 42)) wr.heap.size 42 #[.int .u64 f', .int .u64 s', .int .i64 n']) := Lib.hid (Blk.new _ _ _)
          have KS : Hid (Kept [] w2 (wr.alloc (.cells #[.int .u64 f', .int .u64 s', .int .i64 n'] 42))) := Lib.hid (hkq.out.alloc _)
          have r0 := BR.out.cell 0
          have r1 := BR.out.cell 1
          have r2 := BR.out.cell 2
          have rl := BR.out.lt
          have DM := Lib.hid (refmeet_any (f, s, n) (f', s', n') HQ.out HQJ.out)
          have q4 : (0 : Int) ≤ (j : Int) := by omega
          have q5 : (j : Int) < (i : Int) := by omega
          cases hb : metB z0 i j with
          | true =>
            have HE : Hid (metB z0 i (j + 1) = true) := Lib.hid (by rw [HMB.out, hb]; rfl)
            clear hb
            go_wp2_with fail
            go_roundw
            case rel => exact ⟨j + 1, by omega, by rw [HE.out], by go_num, BR, KS⟩
            case measure => simp [intOf]; omega
          | false =>
            have HE : Hid (metB z0 i (j + 1) = ov (f, s, n) (f', s', n')) := Lib.hid (by rw [HMB.out, hb]; rfl)
            clear hb
            generalize ov (f, s, n) (f', s', n') = bb at DM HE
            go_wp2_with fail
            (with_reducible refine (DM.out _).mono ?_)
            rintro e w5 ⟨rfl, hb5⟩
            have BR5 := Lib.hid (BR.out.keep0 hb5)
            have KS5 := Lib.hid (hb5.then_ KS.out)
            clear hb5
            go_wp2_with fail
            go_roundw
            case rel => exact ⟨j + 1, by omega, by rw [HE.out], by go_num, BR5, KS5⟩
            case measure => simp [intOf]; omega
        · obtain rfl : j = i := by omega
          go_wp2_with fail
          go_roundw
          case rel => exact ⟨j + 1, _, rfl, by omega, by rw [HEN.out], by go_num, Lib.hid (O2.out.keep hkq.out), Lib.hid (hkq.out.then_ K2.out)⟩
          case measure => simp [intOf]; omega
    · obtain rfl : i = z0.length := by omega
      have HL : Hid (z0.take z0.length = z0) := Lib.hid (List.take_of_length_le (Nat.le_refl _))
      rw [HL.out] at hown ⊢
      obtain ⟨A, c, rfl, hA, hnc, _, hrow, _⟩ := hown.out.slice
      have DM := Lib.hid (meet_any A z0.length c z0 wr rfl (fun e => by have := hA e; omega) hrow HZ.out (by omega))
      clear hA hrow
      go_wp2_with fail
      (with_reducible refine DM.out.mono ?_)
      rintro e w2 ⟨rfl, hb2⟩
      have K2 := Lib.hid (hb2.then_ hkw.out)
      generalize (!decide (Sep z0)) = b
      clear hb2 DM HL
      cases b with
      | true =>
        go_wp2_with fail
        go_ret
        exact ⟨rfl, Kept.below K2.out⟩
      | false =>
        go_wp2_with fail
        go_ret
        exact ⟨rfl, Kept.below K2.out⟩
end Go.Proofs.Ytfmgeidlbekfpaa.GeoMeets
namespace Go.Proofs.Ytfmgeidlbekfpaa.GeoMeets
open Go.RowKit Go.ChangeShapes Go.WideShapes Go.ChangeAt Go.Joins
theorem own : ownKnob Try.prog.godebug = none := by kernel_rfl
theorem laidOut : laidOutB Try.prog = true := by kernel_rfl
set_option maxRecDepth 100000 in
theorem lifted (os : Os) (started : os.Started) (H : Type) (enc : TypeId × Value → H) :
    ReturnsInHanded {} Try.checked os 7 .any (Rows.geoMeetsSpec.pre6 enc Try.prog Try.f7 Rows.geoMeetsRow.domain false) (Rows.geoMeetsSpec.post enc Try.prog Try.f7 false true false false) := by
  refine returnsInHanded_of_change (C := Try.checked) own started (by kernel_rfl) Try.func7
    (ChangeSpec.witness6 (enc := enc) (C := Try.checked) false ⟨#[], #[.slice none 0 0], []⟩ 8 (by kernel_rfl) (by kernel_rfl) (by kernel_rfl) (by kernel_rfl)) ?_
  intro W base args ds gs before hval0 hW hcnd _
  have hval : ∀ (j : Nat) t v, Try.f7.params[j]? = some t → args[j]? = some v → Value.okWide Try.prog W .any base t v := hval0
  have hW' := hW
  obtain ⟨p, q, hA0, hV, rfl, hfz, hnd⟩ := hW
  have hA : DataW.TrodAll enc Try.prog W 0 (fun _ => true) true Try.f7.params.toList args.toList ds p := hA0
  rw [Try.params7] at hA hval
  obtain ⟨v0, vs0, d0, ds0, p0, q0, hargs, rfl, rfl, h0, r0⟩ := trodAll_cons hA
  obtain ⟨rfl, rfl, rfl⟩ := trodAll_nil r0
  obtain rfl : args = #[v0] := by cases args; simp_all
  obtain ⟨rfl, rfl⟩ := trodVars_none hV
  have k0 := h0
  have lt0 : ∀ x ∈ p0, x.block < W.heap.size := by obtain ⟨m, hm⟩ := k0; exact DataW.trod_lt m _ _ _ hm
  obtain ⟨a0, len0, cap0, rfl⟩ := okWide_slice Try.underlying54 (hval 0 54 v0 rfl rfl)
  obtain ⟨z0, w0⟩ := isT54_of h0
  clear hA0 hval0
  refine (walk a0 len0 cap0 z0 W w0).mono fun e W' ⟨he, bel⟩ => ?_
  subst he
  exact ⟨_, rfl, _, _, _, [], _, [], hW', trodAll_mk1 (shut_bool Try.underlying4 _), (trodAll_cons_mk (Below.trod laidOut (by kernel_rfl) (of_decide_eq_true (by kernel_rfl)) k0 bel lt0) trodAll_mk0), rfl, bel.frame _, fun h => by cases h⟩
theorem over : Rows.geoMeetsRow.holds Try.pinned (OpenSpec.ofChange Rows.geoMeetsSpec) :=
  OpenClaim.holds_of_wide 7 Try.f7 rfl rfl rfl rfl rfl rfl rfl ⟨rfl, rfl, rfl, rfl, rfl⟩ rfl rfl rfl rfl rfl (by kernel_rfl) Try.func7 (by kernel_rfl)
    (of_decide_eq_true (by kernel_rfl)) (by unfold Func.isWrapper; first | (rw [if_pos (by decide +kernel)]; kernel_rfl) | (rw [if_neg (by decide +kernel)]; exact ⟨rfl, rfl⟩))
    (fun os started H enc _ => lifted os started H enc)
theorem proved : Rows.GeoMeetsSaid := over
#print axioms proved
end Go.Proofs.Ytfmgeidlbekfpaa.GeoMeets
