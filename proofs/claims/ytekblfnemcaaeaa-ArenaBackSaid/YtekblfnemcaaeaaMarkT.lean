/- The longest row; the lowest row that is long enough. -/
import Derived.Test.YtekblfnemcaaeaaMarkB
import Derived.Sort.QuietIn
set_option linter.unusedVariables false
set_option linter.unusedSimpArgs false
namespace Go.Proofs.Ytekblfnemcaaeaa
open Go.RowKit Go.Shelf
attribute [local go_sem] Oper.semAt_some
set_option maxHeartbeats 1000000 in
theorem rows_in (n : Nat) (p : Nat) (w : World) :
    CallsIn Fence.wide n Try.prog 36 #[.pointer (some ⟨p, 0, none⟩)] w fun e w' => e = .returned (.func (.func 45) #[] #[.pointer (some ⟨w.heap.size, 0, none⟩)]) ∧ w' = w.alloc (.cells #[.pointer (some ⟨p, 0, none⟩)] 58) := by
  refine callsIn_of_wp Try.func36 rfl trivial ?_ rfl
  simp only [Try.ntmps36, List.size_toArray, List.length_cons, List.length_nil, Nat.reduceAdd, Nat.reduceSub, Array.replicate_succ, Array.replicate_zero, List.push_toArray, List.append_toArray, List.nil_append, List.cons_append]
  gi_wp2
  go_ret
  exact ⟨rfl, rfl⟩
theorem rows_stops (n : Nat) (hn : 1 ≤ n) (Bs n₀ p g : Nat) (bs : List Bool) (hp : p < n₀) (hg : g < n₀) (w : World) (hn₀ : n₀ ≤ w.heap.size) (hc : Blk w Bs 58 #[.pointer (some ⟨p, 0, none⟩)]) (hM : MarkB w p g bs) :
    SeqStopsK Fence.wide n Try.prog 45 #[.pointer (some ⟨Bs, 0, none⟩)] (fun x : Rw bs => #[Value.int .i64 (x.1.1 : Int), Value.int .i64 (x.1.2 : Int)]) (KpB n₀ Bs) (fun ys => ys.map Subtype.val = rowsL bs)
      (fun pre => ∃ t, pre.map Subtype.val ++ t = rowsL bs) (rowsL bs).length w := fun l J Jx W hW _ _ hY h0 => by
  have hc' : Blk W Bs 58 #[.pointer (some ⟨p, 0, none⟩)] := (hW.block Bs hc.lt).trans hc
  exact rows1_in n hn l Bs n₀ p g bs hp hg J Jx hY W hc' (hM.below hW (by omega) (by omega)) h0
def mxS {bs : List Bool} (pre : List (Rw bs)) : Int := pre.foldl (fun a x => max a (x.1.2 : Int)) 0
theorem mxS_snoc {bs : List Bool} (pre : List (Rw bs)) (x : Rw bs) : mxS (pre ++ [x]) = max (mxS pre) (x.1.2 : Int) := by simp [mxS]
/-- How long the longest row is. -/
def longV (bs : List Bool) : Int := (rowsL bs).foldl (fun a x => max a (x.2 : Int)) 0
theorem mxS_all {bs : List Bool} (ys : List (Rw bs)) (h : ys.map Subtype.val = rowsL bs) : mxS ys = longV bs := by
  have e : (ys.map Subtype.val).foldl (fun (a : Int) (x : Nat × Nat) => max a (x.2 : Int)) 0 = mxS ys := List.foldl_map
  rw [h] at e
  exact e.symm
theorem set_one {w : World} {g : Nat} {t : TypeId} {u v v' : Value} (h : Blk w g t #[u]) (e : v = v') : Blk (w.setCell ⟨g, 0, none⟩ v) g t #[v'] := h.set' (by rw [e]; rfl)
theorem ownBlk {B g : Nat} {t : TypeId} {cs : Array Value} {s W W' : World} {row : Option Nat} (h : Blk W g t cs) (hg : W.grownBy W' row) (hr : ∀ r, row = some r → B ≤ r ∧ ∃ o : Obj, W.heap[r]? = some o ∧ o.isCells = false) : Blk W' g t cs := by
  refine (hg.block g h.lt (fun e => ?_)).trans h
  obtain ⟨_, o, ho, hc⟩ := hr g e.symm
  have h' := h
  unfold Blk at h'
  rw [h'] at ho
  injection ho with ho
  rw [← ho] at hc
  cases hc
def AllLt {bs : List Bool} (r : Nat) (pre : List (Rw bs)) : Prop := ∀ y : Rw bs, y ∈ pre → y.1.2 < r
/-- What Take answers: a row that is long enough, the first; or that there is none. -/
def TakeIs (W : World) (p g : Nat) (bs : List Bool) (r : Nat) (e : Ending) (w' : World) : Prop :=
  (∃ (ini : List (Nat × Nat)) (x : Nat × Nat) (t : List (Nat × Nat)), e = .returned (.tuple #[.int .i64 (x.1 : Int), .int .i64 0]) ∧ rowsL bs = ini ++ x :: t ∧ (∀ y, y ∈ ini → y.2 < r) ∧ r ≤ x.2 ∧ MarkB w' p g (put bs x.1 r true) ∧ Kept [p, g] W w') ∨
  (e = .returned (.tuple #[.int .i64 0, .int .i64 4]) ∧ (∀ y, y ∈ rowsL bs → y.2 < r) ∧ Kept [] W w')
/-- A row of free places. -/
def FreeAt (bs : List Bool) (a r : Nat) : Prop := a + r ≤ bs.length ∧ AllAt bs a r false
theorem rowsG_free (bs : List Bool) : ∀ (l : List Bool) (at_ n : Nat), l = bs.drop (at_ + n) → at_ + n ≤ bs.length → AllAt bs at_ n false →
    ∀ x, x ∈ rowsG at_ n l → at_ ≤ x.1 ∧ 0 < x.2 ∧ FreeAt bs x.1 x.2 := by
  intro l
  induction l with
  | nil =>
    intro at_ n hl hn ha x hx
    simp only [rowsG] at hx
    split at hx
    · simp at hx; subst hx; exact ⟨Nat.le_refl _, by assumption, hn, ha⟩
    · simp at hx
  | cons b l ih =>
    intro at_ n hl hn ha x hx
    have hlt : at_ + n < bs.length := by
      rcases Nat.lt_or_ge (at_ + n) bs.length with h | h
      · exact h
      · rw [List.drop_eq_nil_of_le h] at hl; cases hl
    rw [List.drop_eq_getElem_cons hlt] at hl
    injection hl with hb hl
    cases b with
    | true =>
      simp only [rowsG, List.mem_append] at hx
      rcases hx with hx | hx
      · split at hx
        · simp at hx; subst hx; exact ⟨Nat.le_refl _, by assumption, hn, ha⟩
        · simp at hx
      · have := ih (at_ + n + 1) 0 (by simpa using hl) (by omega) (fun i hi => by omega) x hx
        exact ⟨by omega, this.2⟩
    | false =>
      simp only [rowsG] at hx
      exact ih at_ (n + 1) (by rw [hl, Nat.add_assoc]) (by omega) (fun i hi => by
        rcases Nat.lt_or_ge i n with h | h
        · exact ha i h
        · rw [show i = n by omega, List.getElem?_eq_getElem hlt, ← hb]) x hx
theorem rowsL_free {bs : List Bool} {x : Nat × Nat} (h : x ∈ rowsL bs) : 0 < x.2 ∧ FreeAt bs x.1 x.2 :=
  (rowsG_free bs bs 0 0 (by simp) (by omega) (fun i hi => by omega) x h).2
theorem FreeAt.less {bs : List Bool} {a r r' : Nat} (h : FreeAt bs a r) (hr : r' ≤ r) : FreeAt bs a r' := ⟨by have := h.1; omega, fun i hi => h.2 i (by omega)⟩
theorem MarkR.far {w : World} {p g : Nat} {bs : List Bool} {l : Int} (h : MarkR w p g bs l) {q : Addr} (hp : p ≠ q.block) (hg : g ≠ q.block) (u : Value) : MarkR (w.setCell q u) p g bs l := ⟨h.1.far hp u, h.2.1.far hg u, h.2.2⟩
theorem MarkB.far {w : World} {p g : Nat} {bs : List Bool} (h : MarkB w p g bs) {q : Addr} (hp : p ≠ q.block) (hg : g ≠ q.block) (u : Value) : MarkB (w.setCell q u) p g bs := MarkR.far h hp hg u
theorem take_arg (w : World) (p g : Nat) (bs : List Bool) (h : MarkB w p g bs) (run : Int) (ho : run < 1 ∨ (bs.length : Int) < run) :
    Calls Try.prog 28 #[.pointer (some ⟨p, 0, none⟩), .int .i64 run] w fun e w' => e = .returned (.tuple #[.int .i64 0, .int .i64 2]) ∧ Kept [] w w' := by
  have hplt := h.ltp
  have hmc := h.1.cell
  have hp1 : p < w.heap.size + 1 := by omega
  have hp2 : p < w.heap.size + 1 + 1 := by omega
  have hp3 : p < w.heap.size + 1 + 1 + 1 := by omega
  have hl256 := h.2.2
  clear h
  by_cases q : run < 1
  · have q1 : decide (run < 1) = true := by simp; omega
    clear ho
    go_enter Try.func28, Try.ntmps28
    go_wp2_with fail
    go_quiet (fail)
    go_wp2_with fail
    refine bodyPost_ret (v := .tuple #[.int .i64 0, .int .i64 2]) ?_ rfl ⟨rfl, by (repeat' (first | (with_reducible exact Kept.refl _ _) | (with_reducible assumption) | (with_reducible refine Kept.then_ (by with_reducible assumption) ?_) | (with_reducible refine Kept.thenS (by with_reducible assumption) ?_) | (with_reducible refine Kept.alloc ?_ _) | (with_reducible refine Kept.drew ?_) | (with_reducible refine Kept.drewN ?_ _) | (with_reducible refine Kept.setNew ?_ ?_ _) | ((try simp only [World.size_alloc, World.size_setCell, World.size_drew, size_drewN] at *); (try dsimp only); omega)))⟩
    simp [results, Try.results28, go_sem]
  · have q1 : decide (run < 1) = false := by simp; omega
    have q2 : (bs.length : Int) < run := by omega
    clear ho
    go_enter Try.func28, Try.ntmps28
    go_wp2_with fail
    go_quiet (fail)
    go_wp2_with fail
    refine bodyPost_ret (v := .tuple #[.int .i64 0, .int .i64 2]) ?_ rfl ⟨rfl, by (repeat' (first | (with_reducible exact Kept.refl _ _) | (with_reducible assumption) | (with_reducible refine Kept.then_ (by with_reducible assumption) ?_) | (with_reducible refine Kept.thenS (by with_reducible assumption) ?_) | (with_reducible refine Kept.alloc ?_ _) | (with_reducible refine Kept.drew ?_) | (with_reducible refine Kept.drewN ?_ _) | (with_reducible refine Kept.setNew ?_ ?_ _) | ((try simp only [World.size_alloc, World.size_setCell, World.size_drew, size_drewN] at *); (try dsimp only); omega)))⟩
    simp [results, Try.results28, go_sem]
theorem take_none (w : World) (run : Int) :
    Calls Try.prog 28 #[.pointer none, .int .i64 run] w fun e w' => e = .returned (.tuple #[.int .i64 0, .int .i64 1]) ∧ Kept [] w w' := by
  go_enter Try.func28, Try.ntmps28
  go_wp2
  refine bodyPost_ret (v := .tuple #[.int .i64 0, .int .i64 1]) ?_ rfl ⟨rfl, by (repeat' (first | (with_reducible exact Kept.refl _ _) | (with_reducible assumption) | (with_reducible refine Kept.then_ (by with_reducible assumption) ?_) | (with_reducible refine Kept.thenS (by with_reducible assumption) ?_) | (with_reducible refine Kept.alloc ?_ _) | (with_reducible refine Kept.drew ?_) | (with_reducible refine Kept.drewN ?_ _) | (with_reducible refine Kept.setNew ?_ ?_ _) | ((try simp only [World.size_alloc, World.size_setCell, World.size_drew, size_drewN] at *); (try dsimp only); omega)))⟩
  simp [results, Try.results28, go_sem]
set_option maxRecDepth 100000 in
set_option maxHeartbeats 2000000 in
theorem take_any (w : World) (p g : Nat) (bs : List Bool) (h : MarkB w p g bs) (r : Nat) (h1 : 1 ≤ r) (h2 : r ≤ bs.length) :
    Calls Try.prog 28 #[.pointer (some ⟨p, 0, none⟩), .int .i64 r] w (TakeIs w p g bs r) := by
  have HMB := Lib.hid h
  have hplt := h.ltp
  have hglt := h.lt
  have hmc := h.1.cell
  have q1 : decide ((r : Int) < 1) = false := by simp; omega
  have q2 : decide ((bs.length : Int) < (r : Int)) = false := by simp; omega
  have hl256 := h.2.2
  have hp1 : p < w.heap.size + 1 := by omega
  have hp2 : p < w.heap.size + 1 + 1 := by omega
  have hp3 : p < w.heap.size + 1 + 1 + 1 := by omega
  clear h
  refine (callsIn_wide (n := 3)).1 ?_
  have hro : Fence.wide.round = none := rfl
  refine callsIn_of_wp_marks Try.func28 rfl trivial ?_ hro
  simp only [Try.ntmps28, List.size_toArray, List.length_cons, List.length_nil, Nat.reduceAdd, Nat.reduceSub, Array.replicate_succ, Array.replicate_zero, List.push_toArray, List.append_toArray, List.nil_append, List.cons_append]
  gi_wp2
  gi_quiet (fail)
  gi_wp2_with ((try (refine ⟨trivial, ?_⟩)); gi_at_call 36; refine (rows_in _ _ _).mono ?_; rintro e w' ⟨rfl, rfl⟩)
  have F : ∃ W0, ((((((w.alloc (.cells #[.pointer (some ⟨p, 0, none⟩)] 58)).alloc (.cells #[.int .i64 (r : Int)] 3)).alloc (.cells #[.int .i64 0] 3)).alloc (.cells #[.int .i64 0] 24)).drewN nq).alloc (.cells #[.pointer (some ⟨p, 0, none⟩)] 58)) = W0 ∧ Blk W0 w.heap.size 58 #[.pointer (some ⟨p, 0, none⟩)] ∧ Blk W0 (w.heap.size + 1) 3 #[.int .i64 (r : Int)] ∧ Blk W0 (w.heap.size + 1 + 1) 3 #[.int .i64 0] ∧ Blk W0 (w.heap.size + 1 + 1 + 1) 24 #[.int .i64 0] ∧
      Blk W0 (w.heap.size + 1 + 1 + 1 + 1) 58 #[.pointer (some ⟨p, 0, none⟩)] ∧ W0.heap.size = w.heap.size + 5 ∧ Kept [] w W0 := by
    refine ⟨_, rfl, ?_, ?_, ?_, ?_, ?_, by simp [size_drewN], by (repeat' (first | (with_reducible exact Kept.refl _ _) | (with_reducible assumption) | (with_reducible refine Kept.then_ (by with_reducible assumption) ?_) | (with_reducible refine Kept.thenS (by with_reducible assumption) ?_) | (with_reducible refine Kept.alloc ?_ _) | (with_reducible refine Kept.drew ?_) | (with_reducible refine Kept.drewN ?_ _) | (with_reducible refine Kept.setNew ?_ ?_ _) | ((try simp only [World.size_alloc, World.size_setCell, World.size_drew, size_drewN] at *); (try dsimp only); omega)))⟩
    · exact (((((Blk.new w _ _).alloc _).alloc _).alloc _).drewN nq).alloc _
    · exact ((((Blk.new' (b := w.heap.size + 1) _ _ _ (by simp)).alloc _).alloc _).drewN nq).alloc _
    · exact (((Blk.new' (b := w.heap.size + 1 + 1) _ _ _ (by simp)).alloc _).drewN nq).alloc _
    · exact ((Blk.new' (b := w.heap.size + 1 + 1 + 1) _ _ _ (by simp)).drewN nq).alloc _
    · exact Blk.new' (b := w.heap.size + 1 + 1 + 1 + 1) _ _ _ (by simp [size_drewN])
  obtain ⟨W0, hW0, b0, b1, b2, b3, b4, hsz, hK0⟩ := F
  rw [hW0]
  have hB0 : Below w.heap.size w W0 := hK0.below
  have HMC := Lib.hid hmc
  clear hW0 hmc
  refine wpIn_rangeFunc_ownG hro (by omega) (gf := 45) (lb := #[.pointer (some ⟨w.heap.size + 1 + 1 + 1 + 1, 0, none⟩)]) rfl trivial (enters_of Try.func45 (by kernel_rfl) rfl)
    (rows_stops 2 (by omega) (w.heap.size + 1 + 1 + 1 + 1) w.heap.size p g bs hplt hglt _ (by omega) b4 (HMB.out.below hB0 hplt hglt)) KpB.trans (KpB.b (by omega)) (Below.refl _ _) (fun _ => rfl)
    (fun pre W => (Blk W w.heap.size 58 #[.pointer (some ⟨p, 0, none⟩)] ∧ Blk W (w.heap.size + 1) 3 #[.int .i64 (r : Int)] ∧ Blk W (w.heap.size + 1 + 1) 3 #[.int .i64 0] ∧ Blk W (w.heap.size + 1 + 1 + 1) 24 #[.int .i64 0] ∧ AllLt r pre) ∧ Below w.heap.size w W)
    (fun c pre W => c = .ret ∧ ∃ (ini : List (Rw bs)) (last : Rw bs), pre = ini ++ [last] ∧ AllLt r ini ∧ r ≤ last.1.2 ∧ Blk W (w.heap.size + 1 + 1) 3 #[.int .i64 (last.1.1 : Int)] ∧ Blk W (w.heap.size + 1 + 1 + 1) 24 #[.int .i64 0] ∧ MarkB W p g (put bs last.1.1 r true) ∧ Kept [p, g] w W)
    (fun s A B row hs hg hr => ⟨⟨ownBlk (s := A) hs.1.1 hg hr, ownBlk (s := A) hs.1.2.1 hg hr, ownBlk (s := A) hs.1.2.2.1 hg hr, ownBlk (s := A) hs.1.2.2.2.1 hg hr, hs.1.2.2.2.2⟩, ownFrom_below (B := w.heap.size) (Nat.le_refl _) (Nat.le_refl _) s A B row hs.2 hg (fun r e => ⟨by have := (hr r e).1; omega, (hr r e).2⟩)⟩)
    (fun c s A B row hs hg hr => by
      obtain ⟨hc, ini, last, e1, e2, e3, e4, e5, e6, e7⟩ := hs
      exact ⟨hc, ini, last, e1, e2, e3, ownBlk (s := A) e4 hg hr, ownBlk (s := A) e5 hg hr, ⟨ownBlk (s := A) e6.1 hg hr, ownBlk (s := A) e6.2.1 hg hr, e6.2.2⟩, e7.grown hg (fun k e => .inl (by have := (hr k e).1; omega))⟩)
    ⟨⟨b0, b1, b2, b3, fun y hy => by cases hy⟩, hB0⟩
    (fun x => { tmps := #[.pointer (some ⟨p, 0, none⟩), .int .i64 (r : Int), .pointer (some ⟨w.heap.size, 0, none⟩), .pointer (some ⟨w.heap.size + 1, 0, none⟩), .pointer (some ⟨w.heap.size + 1 + 1, 0, none⟩), .pointer (some ⟨w.heap.size + 1 + 1 + 1, 0, none⟩), .int .i64 (x.1.1 : Int), .int .i64 (x.1.2 : Int), .bool false,
          .pointer (some ⟨p, 0, none⟩), .bool false, .bool false, .int .i64 (r : Int), .bool false, .bool false, .int .i64 (r : Int), .pointer (some ⟨p, 0, none⟩), .pointer (some ⟨p, 0, none⟩), .pointer (some ⟨p, 0, none⟩),
          .slice (some ⟨g, 0, none⟩) bs.length bs.length, .int .i64 (bs.length : Int), .bool false, .bool false, .pointer (some ⟨p, 0, none⟩),
          .func (.func 45) #[] #[.pointer (some ⟨w.heap.size + 1 + 1 + 1 + 1, 0, none⟩)], .int .i64 (x.1.1 : Int), .int .i64 (x.1.2 : Int), undef, undef, undef, undef, undef, undef, undef, undef], defers := [] }) ?assign ?body ?done ?stop
  case assign =>
    intro l x W K hK
    gi_wp2
    exact hK
  case body =>
    rintro l pre x W ⟨⟨c0, c1, c2, c3, hlt⟩, hB⟩ _
    have HL := Lib.hid hlt
    clear hlt b0 b1 b2 b3 b4
    have c0c := c0.cell 0
    have c1c := c1.cell 0
    have MW := Lib.hid (HMB.out.below hB hplt hglt)
    by_cases hx : r ≤ x.1.2
    · have hfr := (rowsL_free x.2).2.less hx
      have CM := Lib.hid (mark_ok W p g bs MW.out x.1.1 r h1 hfr.1 hfr.2)
      have hx' : (r : Int) ≤ (x.1.2 : Int) := by omega
      clear hfr
      gi_wp2_with ((try (refine ⟨trivial, ?_⟩)); gi_at_call 37; refine (CallsIn.inRound l (callsIn_wide.2 CM.out)).mono ?_; rintro e w4 ⟨rfl, hm4, hk4⟩; have M4 := Lib.hid hm4; clear hm4; have c2' := c2.keep hk4 (by simp; omega); have c3' := c3.keep hk4 (by simp; omega); have c2c := c2'.cell 0; have c2f := c2'.frozen 0; have c3c := c3'.cell 0; have c3f := c3'.frozen 0)
      have K4 : Kept [] W w4 → True := fun _ => trivial
      have hKo : KeepsFrom W0.heap.size W w4 := ⟨hk4.size, fun k o hk ho _ => (hk4.block k (Array.getElem?_eq_some_iff.1 ho).1 (by simp; omega)).trans ho⟩
      refine ⟨(hKo.trans ((KeepsOthers.setCell _ _ _).from _)).trans ((KeepsOthers.setCell _ _ _).from _), rfl, pre, x, rfl, HL.out, hx, ?_, ?_, ?_, ?_⟩
      · exact (set_one c2' rfl).far (by simp) _
      · exact set_one (c3'.far (by simp) _) rfl
      · exact (M4.out.far (by simp; omega) (by simp; omega) _).far (by simp; omega) (by simp; omega) _
      · exact ((hk4.thenS ((Kept.of_below hB).mono (by simp))).setNew (by simp; omega) _).setNew (by simp; omega) _
    · have hx' : ¬ (r : Int) ≤ (x.1.2 : Int) := by omega
      gi_wp2
      exact ⟨KeepsFrom.refl _ _, KpB.refl _ _ _, ⟨c0, c1, c2, c3, fun y hy => by
        rcases List.mem_append.1 hy with h | h
        · exact HL.out y h
        · simp at h; subst h; omega⟩, hB⟩
  case done =>
    rintro D ys W hD hys ⟨⟨c0, c1, c2, c3, hlt⟩, hB⟩ hK
    have HL := Lib.hid hlt
    clear hlt b0 b1 b2 b3 b4
    have c2c := c2.cell 0
    have c2f := c2.frozen 0
    have c3c := c3.cell 0
    have c3f := c3.frozen 0
    gi_wp2
    have hW2 : Blk ((W.setCell ⟨w.heap.size + 1 + 1, 0, none⟩ (.int .i64 0)).setCell ⟨w.heap.size + 1 + 1 + 1, 0, none⟩ (.int .i64 4)) (w.heap.size + 1 + 1) 3 #[.int .i64 0] := (set_one c2 rfl).far (by simp) _
    have hW3 : Blk ((W.setCell ⟨w.heap.size + 1 + 1, 0, none⟩ (.int .i64 0)).setCell ⟨w.heap.size + 1 + 1 + 1, 0, none⟩ (.int .i64 4)) (w.heap.size + 1 + 1 + 1) 24 #[.int .i64 4] := set_one (c3.far (by simp) _) rfl
    have hKd : ((W.setCell ⟨w.heap.size + 1 + 1, 0, none⟩ (.int .i64 0)).setCell ⟨w.heap.size + 1 + 1 + 1, 0, none⟩ (.int .i64 4)).heap[D]? = some (.deferred (some [])) := (Below.heap_setCell _ _ _ D (by simp; omega)).trans ((Below.heap_setCell W _ _ D (by simp; omega)).trans hK)
    have hBd : Below w.heap.size w ((W.setCell ⟨w.heap.size + 1 + 1, 0, none⟩ (.int .i64 0)).setCell ⟨w.heap.size + 1 + 1 + 1, 0, none⟩ (.int .i64 4)) := (hB.setCell (p := ⟨w.heap.size + 1 + 1, 0, none⟩) (by simp; omega) _).setCell (p := ⟨w.heap.size + 1 + 1 + 1, 0, none⟩) (by simp; omega) _
    generalize ((W.setCell ⟨w.heap.size + 1 + 1, 0, none⟩ (.int .i64 0)).setCell ⟨w.heap.size + 1 + 1 + 1, 0, none⟩ (.int .i64 4)) = Wd at hW2 hW3 hKd hBd ⊢
    have h2c : (Wd.putObj D (.deferred none)).cell? ⟨w.heap.size + 1 + 1, 0, none⟩ = some (.int .i64 0) := (Blk.cell (show Blk _ _ _ _ from (World.putObj_heap_other (by omega)).trans hW2) 0)
    have h3c : (Wd.putObj D (.deferred none)).cell? ⟨w.heap.size + 1 + 1 + 1, 0, none⟩ = some (.int .i64 4) := (Blk.cell (show Blk _ _ _ _ from (World.putObj_heap_other (by omega)).trans hW3) 0)
    refine ⟨by simp, .inl ⟨_, _, rfl, run_takeDeferred hKd, ?_⟩⟩
    refine ⟨.tuple #[.int .i64 0, .int .i64 4], ?_, .inr ⟨rfl, ?_, Kept.of_below (hBd.trans (belowK_b (w := w) (Nat.le_refl _) _ D _ _ (by omega) hKd rfl rfl))⟩⟩
    · simp [results, Try.results28, go_sem, h2c, h3c]
    · intro y hy
      rw [← hys] at hy
      obtain ⟨z, hz, rfl⟩ := List.mem_map.1 hy
      exact HL.out z hz
  case stop =>
    rintro D c pre W hD ⟨t, ht⟩ ⟨rfl, ini, last, rfl, e2, e3, e4, e5, e6, e7⟩ hK
    clear b0 b1 b2 b3 b4
    have HE := Lib.hid e2
    have HT := Lib.hid ht
    clear e2 ht
    gi_wp2
    have h2c : (W.putObj D (.deferred none)).cell? ⟨w.heap.size + 1 + 1, 0, none⟩ = some (.int .i64 (last.1.1 : Int)) := (Blk.cell (show Blk _ _ _ _ from (World.putObj_heap_other (by omega)).trans e4) 0)
    have h3c : (W.putObj D (.deferred none)).cell? ⟨w.heap.size + 1 + 1 + 1, 0, none⟩ = some (.int .i64 0) := (Blk.cell (show Blk _ _ _ _ from (World.putObj_heap_other (by omega)).trans e5) 0)
    have hKp : Kept [] W (W.putObj D (.deferred none)) → True := fun _ => trivial
    have hBK : Below w.heap.size W (W.putObj D (.deferred none)) := belowK_b (w := w) (Nat.le_refl _) W D _ _ (by omega) hK rfl rfl
    refine ⟨by simp, .inl ⟨_, _, rfl, run_takeDeferred hK, ?_⟩⟩
    refine ⟨.tuple #[.int .i64 (last.1.1 : Int), .int .i64 0], ?_, .inl ⟨ini.map Subtype.val, last.1, t, rfl, ?_, ?_, e3, e6.below hBK hplt hglt, ?_⟩⟩
    · simp [results, Try.results28, go_sem, h2c, h3c]
    · have e := HT.out.symm
      simp only [List.map_append, List.map_cons, List.map_nil, List.append_assoc, List.cons_append, List.nil_append] at e
      exact e
    · intro y hy
      obtain ⟨z, hz, rfl⟩ := List.mem_map.1 hy
      exact HE.out z hz
    · exact ⟨hBK.os.trans e7.os, hBK.tape.trans e7.tape, hBK.output.trans e7.output, Nat.le_trans e7.size hBK.size, fun k hk hn => (hBK.block k hk).trans (e7.block k hk hn)⟩
end Go.Proofs.Ytekblfnemcaaeaa