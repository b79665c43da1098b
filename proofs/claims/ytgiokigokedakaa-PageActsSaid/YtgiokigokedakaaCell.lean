/- A cell that lies within a block. -/
import Derived.Test.YtgiokigokedakaaBase
set_option linter.unusedVariables false
set_option linter.unusedSimpArgs false
namespace Go.Proofs.Ytgiokigokedakaa
open Go.RowKit
/-- The cell at ⟨b, o⟩, in the block b of the cells cs: its word, its tag, how often it was asked. -/
structure CAt (w : World) (b o : Nat) (t : TypeId) (cs : Array Value) (wd tg : Int) (ak : Int) : Prop where
  blk : Blk w b t cs
  c0 : cs[o]? = some (.int .u64 wd)
  c1 : cs[o + 1]? = some (.int .u64 tg)
  c2 : cs[o + 2]? = some (.int .i64 ak)
def put3 (cs : Array Value) (o : Nat) (wd tg ak : Int) : Array Value := ((cs.setIfInBounds o (.int .u64 wd)).setIfInBounds (o + 1) (.int .u64 tg)).setIfInBounds (o + 2) (.int .i64 ak)
theorem put3_put3 (cs : Array Value) (o : Nat) (a b c d e f : Int) : put3 (put3 cs o a b c) o d e f = put3 cs o d e f := by
  unfold put3
  apply Array.ext_getElem?
  intro i
  simp only [Array.getElem?_setIfInBounds, Array.size_setIfInBounds]
  by_cases h1 : o + 2 = i
  · simp [h1]
  · by_cases h2 : o + 1 = i
    · simp [h1, h2]
    · by_cases h3 : o = i
      · simp [h1, h2, h3]
      · simp [h1, h2, h3]
namespace CAt
variable {w w' : World} {b o : Nat} {t : TypeId} {cs : Array Value} {wd tg ak : Int}
theorem cell0 (h : CAt w b o t cs wd tg ak) : w.cell? ⟨b, o, none⟩ = some (.int .u64 wd) := (h.blk.cell o).trans h.c0
theorem cell1 (h : CAt w b o t cs wd tg ak) : w.cell? ⟨b, o + 1, none⟩ = some (.int .u64 tg) := (h.blk.cell (o + 1)).trans h.c1
theorem cell2 (h : CAt w b o t cs wd tg ak) : w.cell? ⟨b, o + 2, none⟩ = some (.int .i64 ak) := (h.blk.cell (o + 2)).trans h.c2
theorem keep0 (h : CAt w b o t cs wd tg ak) (hk : Kept [] w w') : CAt w' b o t cs wd tg ak := ⟨h.blk.keep0 hk, h.c0, h.c1, h.c2⟩
theorem lt0 (h : CAt w b o t cs wd tg ak) : o + 2 < cs.size := (Array.getElem?_eq_some_iff.1 h.c2).1
theorem of_put (h : CAt w b o t cs wd tg ak) {a c d : Int} (hb : Blk w' b t (put3 cs o a c d)) : CAt w' b o t (put3 cs o a c d) a c d := by
  have hl := h.lt0
  refine ⟨hb, ?_, ?_, ?_⟩ <;> unfold put3 <;> simp only [Array.getElem?_setIfInBounds, Array.size_setIfInBounds]
  · rw [if_neg (by omega), if_neg (by omega), if_pos trivial, if_pos (by omega)]
  · rw [if_neg (by omega), if_pos trivial, if_pos (by omega)]
  · rw [if_pos trivial, if_pos (by omega)]
theorem put_ask (h : CAt w b o t cs wd tg ak) (d : Int) : cs.setIfInBounds (o + 2) (.int .i64 d) = put3 cs o wd tg d := by
  have hl := h.lt0
  have h0 := h.c0
  have h1 := h.c1
  unfold put3
  apply Array.ext_getElem?
  intro i
  simp only [Array.getElem?_setIfInBounds, Array.size_setIfInBounds]
  by_cases h4 : o + 2 = i
  · simp [h4]
  · by_cases h2 : o + 1 = i
    · subst h2
      simp [h1]
      omega
    · by_cases h3 : o = i
      · subst h3
        simp [h0]
        omega
      · simp [h4, h2, h3]
theorem put_write (h : CAt w b o t cs wd tg ak) (x d : Int) : (cs.setIfInBounds o (.int .u64 x)).setIfInBounds (o + 1) (.int .u64 d) = put3 cs o x d ak := by
  have hl := h.lt0
  have h2 := h.c2
  unfold put3
  apply Array.ext_getElem?
  intro i
  simp only [Array.getElem?_setIfInBounds, Array.size_setIfInBounds]
  by_cases h4 : o + 2 = i
  · subst h4
    simp [h2]
    omega
  · simp [h4]
end CAt
theorem Kept.at_ {w w' : World} {a : Addr} {v : Value} (hk : Kept [] w w') (hl : a.block < w.heap.size) (h : w.cell? a = some v) : w'.cell? a = some v := (World.cell?_of_block (hk.block a.block hl (by simp))).trans h
set_option maxHeartbeats 1000000 in
theorem ask_at (w : World) (b o : Nat) (t : TypeId) (cs : Array Value) (wd tg ak : Int) (h : CAt w b o t cs wd tg ak) (ha : 0 ≤ ak ∧ ak ≤ 1000000000) :
    Calls Try.prog 42 #[.pointer (some ⟨b, o, none⟩)] w fun e w' => e = .returned (.bool true) ∧ CAt w' b o t (put3 cs o wd tg (ak + 1)) wd tg (ak + 1) ∧ Kept [b] w w' := by
  have HC := Lib.hid h
  have c2 := h.cell2
  have f2 := h.blk.frozen (o + 2)
  have hl := h.blk.lt
  clear h
  go_enter Try.func42, Try.ntmps42
  go_wp2_with fail
  go_ret
  refine ⟨rfl, HC.out.of_put ?_, (Kept.refl [b] w).setIn (by simp) _⟩
  exact (HC.out.blk.set_ (o + 2) _).cast (HC.out.put_ask _)
set_option maxHeartbeats 1000000 in
theorem write_at (w : World) (b o : Nat) (t : TypeId) (cs : Array Value) (wd tg ak x : Int) (h : CAt w b o t cs wd tg ak) (ht : 0 ≤ tg ∧ tg ≤ 1000000000) :
    Calls Try.prog 64 #[.pointer (some ⟨b, o, none⟩), .int .u64 x] w fun e w' => e = .returned (.tuple #[]) ∧ CAt w' b o t (put3 cs o x (tg + 1) ak) x (tg + 1) ak ∧ Kept [b] w w' := by
  have HC := Lib.hid h
  have c0 := h.cell0
  have c1 := h.cell1
  have f0 := h.blk.frozen o
  have f1 := h.blk.frozen (o + 1)
  have hl := h.blk.lt
  clear h
  go_enter Try.func64, Try.ntmps64
  go_wp2_with fail
  first | go_end0 | go_ret | trace_state
  refine ⟨rfl, HC.out.of_put ?_, ((Kept.refl [b] w).setIn (by simp) _).setIn (by simp) _⟩
  exact ((HC.out.blk.set_ o _).set_ (o + 1) _).cast (HC.out.put_write _ _)
set_option maxHeartbeats 1000000 in
theorem load_at (w : World) (b o : Nat) (t : TypeId) (cs : Array Value) (wd tg ak : Int) (h : CAt w b o t cs wd tg ak) (ha : 0 ≤ ak ∧ ak ≤ 1000000000) :
    Calls Try.prog 19 #[.pointer (some ⟨b, o, none⟩)] w fun e w' => e = .returned (.tuple #[.int .u64 wd, .int .u64 tg]) ∧ CAt w' b o t (put3 cs o wd tg (ak + 1)) wd tg (ak + 1) ∧ Kept [b] w w' := by
  have DA := Lib.hid (ask_at w b o t cs wd tg ak h ha)
  have hl := h.blk.lt
  clear h
  go_enter Try.func19, Try.ntmps19
  go_wp2_with fail
  (with_reducible refine DA.out.mono ?_)
  rintro e w1 ⟨rfl, hC1, hk1⟩
  have C1 := Lib.hid hC1
  have c0 := hC1.cell0
  have c1 := hC1.cell1
  have l1 := hC1.blk.lt
  clear hC1
  go_wp2_with fail
  refine wp_region_kept (by kernel_rfl) (by kernel_rfl) ?_
  intro TT FF hne hFF hcl
  have q_c0 := fun x => (hFF x).at_ l1 c0
  have q_c1 := fun x => (hFF x).at_ l1 c1
  repeat (first | go_big_quiet_step (fail) | quiet_step (fail))
  refine wpQuiet_nil ?_
  rintro w3 ⟨x, hx⟩
  have hb3 := hFF x
  rw [← hx] at hb3
  clear hx x hne hFF hcl q_c0 q_c1
  have hs3 := hb3.size
  (try simp only [World.size_alloc, World.size_setCell, World.size_drew, size_drewN] at hs3)
  go_wp2_with fail
  (first | go_ret2 | go_ret)
  exact ⟨rfl, C1.out.keep0 hb3, hk1.trans hb3 (fun x hx _ => by cases hx)⟩
set_option maxHeartbeats 1000000 in
theorem swap_at (w : World) (b o : Nat) (t : TypeId) (cs : Array Value) (wd tg ak x : Int) (h : CAt w b o t cs wd tg ak) (ha : 0 ≤ ak ∧ ak ≤ 1000000000) (ht : 0 ≤ tg ∧ tg ≤ 1000000000) :
    Calls Try.prog 44 #[.pointer (some ⟨b, o, none⟩), .int .u64 x] w fun e w' => e = .returned (.int .u64 wd) ∧ CAt w' b o t (put3 cs o x (tg + 1) (ak + 1)) x (tg + 1) (ak + 1) ∧ Kept [b] w w' := by
  have DA := Lib.hid (ask_at w b o t cs wd tg ak h ha)
  have hl := h.blk.lt
  clear h
  go_enter Try.func44, Try.ntmps44
  go_wp2_with fail
  (with_reducible refine DA.out.mono ?_)
  rintro e w1 ⟨rfl, hC1, hk1⟩
  have DW := Lib.hid (write_at w1 b o t _ wd tg (ak + 1) x hC1 ht)
  have c0 := hC1.cell0
  have l1 := hC1.blk.lt
  clear hC1
  go_wp2_with fail
  (with_reducible refine DW.out.mono ?_)
  rintro e w2 ⟨rfl, hC2, hk2⟩
  rw [put3_put3] at hC2
  have C2 := Lib.hid hC2
  clear hC2
  go_wp2_with fail
  (first | go_ret2 | go_ret)
  exact ⟨rfl, C2.out, hk1.trans hk2 (fun x hx _ => hx)⟩
set_option maxHeartbeats 1000000 in
theorem cas_at (w : World) (b o : Nat) (t : TypeId) (cs : Array Value) (wd tg ak x : Int) (h : CAt w b o t cs wd tg ak) (ha : 0 ≤ ak ∧ ak ≤ 1000000000) (ht : 0 ≤ tg ∧ tg ≤ 1000000000) :
    Calls Try.prog 43 #[.pointer (some ⟨b, o, none⟩), .int .u64 tg, .int .u64 x] w fun e w' => e = .returned (.bool true) ∧ CAt w' b o t (put3 cs o x (tg + 1) (ak + 1)) x (tg + 1) (ak + 1) ∧ Kept [b] w w' := by
  have DA := Lib.hid (ask_at w b o t cs wd tg ak h ha)
  have hl := h.blk.lt
  clear h
  go_enter Try.func43, Try.ntmps43
  go_wp2_with fail
  (with_reducible refine DA.out.mono ?_)
  rintro e w1 ⟨rfl, hC1, hk1⟩
  have DW := Lib.hid (write_at w1 b o t _ wd tg (ak + 1) x hC1 ht)
  have c1 := hC1.cell1
  have l1 := hC1.blk.lt
  clear hC1
  go_wp2_with fail
  (with_reducible refine DW.out.mono ?_)
  rintro e w2 ⟨rfl, hC2, hk2⟩
  rw [put3_put3] at hC2
  have C2 := Lib.hid hC2
  clear hC2
  go_wp2_with fail
  (first | go_ret2 | go_ret)
  exact ⟨rfl, C2.out, hk1.trans hk2 (fun x hx _ => hx)⟩
set_option maxHeartbeats 1000000 in
theorem casN_at (w : World) (b o : Nat) (t : TypeId) (cs : Array Value) (wd tg ak x tg' : Int) (h : CAt w b o t cs wd tg ak) (ha : 0 ≤ ak ∧ ak ≤ 1000000000) (hne : tg ≠ tg') :
    Calls Try.prog 43 #[.pointer (some ⟨b, o, none⟩), .int .u64 tg', .int .u64 x] w fun e w' => e = .returned (.bool false) ∧ CAt w' b o t (put3 cs o wd tg (ak + 1)) wd tg (ak + 1) ∧ Kept [b] w w' := by
  have DA := Lib.hid (ask_at w b o t cs wd tg ak h ha)
  have hq : (tg != tg') = true := by rw [bne_iff_ne]; exact hne
  have hl := h.blk.lt
  clear h
  go_enter Try.func43, Try.ntmps43
  go_wp2_with fail
  (with_reducible refine DA.out.mono ?_)
  rintro e w1 ⟨rfl, hC1, hk1⟩
  have C1 := Lib.hid hC1
  have c1 := hC1.cell1
  have l1 := hC1.blk.lt
  clear hC1
  go_wp2_with fail
  (first | go_ret2 | go_ret)
  exact ⟨rfl, C1.out, hk1⟩
end Go.Proofs.Ytgiokigokedakaa
