/- Taken and given back, by rows; the rows of free places, one by one. -/
import Derived.Test.YtekblfnemcaaeaaMarkA
import Derived.RangeFuncBox
import Derived.RangeFuncNested
import Derived.RangeFuncLeaves
import Derived.RangeFuncWrites
import Derived.Shelf.Abstract
import Derived.WalkKit
import Derived.OwnWalkIn
import Derived.TacticsInMore
import Derived.LoopNIn
import Derived.LoopIn
set_option linter.unusedVariables false
set_option linter.unusedSimpArgs false
namespace Go.Proofs.Ytekblfnemcaaeaa
open Go.RowKit Go.Shelf
attribute [local go_sem] Oper.semAt_some
theorem put_same (bs : List Bool) (a r : Nat) (v : Bool) (h : a + r ≤ bs.length) (ha : AllAt bs a r v) : put bs a r v = bs := by
  apply List.ext_getElem?
  intro i
  rw [put_get bs a r v h]
  by_cases h1 : a ≤ i ∧ i < a + r
  · rw [if_pos h1]
    have := ha (i - a) (by omega)
    rw [show a + (i - a) = i by omega] at this
    exact this.symm
  · rw [if_neg h1]
theorem cntF_put (bs : List Bool) (a r : Nat) (v : Bool) (h : a + r ≤ bs.length) : cntF (put bs a r v) = cntF (bs.take a) + (if v then 0 else r) + cntF (bs.drop (a + r)) := by
  unfold cntF put splice
  simp only [List.countP_append, List.countP_replicate, List.length_replicate]
  cases v <;> simp <;> omega
theorem cntF_le (bs : List Bool) : cntF bs ≤ bs.length := List.countP_le_length
theorem cntF_took (bs : List Bool) (a r : Nat) (h : a + r ≤ bs.length) (ha : AllAt bs a r false) : (cntF (put bs a r true) : Int) = cntF bs - r ∧ r ≤ cntF bs := by
  have h1 := cntF_put bs a r true h
  have h2 := cntF_put bs a r false h
  rw [put_same bs a r false h ha] at h2
  simp at h1 h2
  omega
theorem cntF_gave (bs : List Bool) (a r : Nat) (h : a + r ≤ bs.length) (ha : AllAt bs a r true) : (cntF (put bs a r false) : Int) = cntF bs + r := by
  have h1 := cntF_put bs a r false h
  have h2 := cntF_put bs a r true h
  rw [put_same bs a r true h ha] at h2
  simp at h1 h2
  omega
theorem mark_ok (w : World) (p g : Nat) (bs : List Bool) (h : MarkB w p g bs) (a r : Nat) (hr : 1 ≤ r) (ho : a + r ≤ bs.length) (hall : AllAt bs a r false) :
    Calls Try.prog 37 #[.pointer (some ⟨p, 0, none⟩), .int .i64 a, .int .i64 r] w fun e w' => e = .returned (.int .i64 0) ∧ MarkB w' p g (put bs a r true) ∧ Kept [p, g] w w' := by
  have c1 := Lib.hid (row_ok w p g bs _ h a r 6 true hr ho hall)
  have c2 := Lib.hid (set_any w p g bs _ h a r (bs.length - a) true ho (by have := cntF_le bs; have := h.2.2; omega))
  have h1 := Lib.hid (cntF_took bs a r ho hall)
  clear h hall
  go_enter Try.func37, Try.ntmps37
  go_wp2_with fail
  (with_reducible refine c1.out.mono ?_)
  rintro e w' ⟨rfl, rfl⟩
  go_wp2_with fail
  (with_reducible refine c2.out.mono ?_)
  rintro e w1 ⟨rfl, hm, hk⟩
  have HM := Lib.hid hm
  clear hm
  go_wp2_with fail
  go_ret
  exact ⟨rfl, by unfold MarkB; rw [h1.out.1]; exact HM.out, hk⟩
theorem mark_arg (w : World) (p g : Nat) (bs : List Bool) (h : MarkB w p g bs) (at_ run : Int) (ho : run < 1 ∨ at_ < 0 ∨ (bs.length : Int) ≤ at_ ∨ (bs.length : Int) - at_ < run) :
    Calls Try.prog 37 #[.pointer (some ⟨p, 0, none⟩), .int .i64 at_, .int .i64 run] w fun e w' => e = .returned (.int .i64 2) ∧ w = w' := by
  have c1 := Lib.hid (row_arg w p g bs _ h at_ run 6 true ho)
  clear h ho
  go_enter Try.func37, Try.ntmps37
  go_wp2_with fail
  (with_reducible refine c1.out.mono ?_)
  rintro e w' ⟨rfl, rfl⟩
  go_wp2_with fail
  go_ret
  exact ⟨rfl, rfl⟩
theorem mark_no (w : World) (p g : Nat) (bs : List Bool) (h : MarkB w p g bs) (a r : Nat) (hr : 1 ≤ r) (ho : a + r ≤ bs.length) (hno : ¬ AllAt bs a r false) :
    Calls Try.prog 37 #[.pointer (some ⟨p, 0, none⟩), .int .i64 a, .int .i64 r] w fun e w' => e = .returned (.int .i64 6) ∧ w = w' := by
  have c1 := Lib.hid (row_no w p g bs _ h a r 6 true hr ho hno)
  clear h hno
  go_enter Try.func37, Try.ntmps37
  go_wp2_with fail
  (with_reducible refine c1.out.mono ?_)
  rintro e w' ⟨rfl, rfl⟩
  go_wp2_with fail
  go_ret
  exact ⟨rfl, rfl⟩
theorem free_ok (w : World) (p g : Nat) (bs : List Bool) (h : MarkB w p g bs) (a r : Nat) (hr : 1 ≤ r) (ho : a + r ≤ bs.length) (hall : AllAt bs a r true) :
    Calls Try.prog 31 #[.pointer (some ⟨p, 0, none⟩), .int .i64 a, .int .i64 r] w fun e w' => e = .returned (.int .i64 0) ∧ MarkB w' p g (put bs a r false) ∧ Kept [p, g] w w' := by
  have c1 := Lib.hid (row_ok w p g bs _ h a r 5 false hr ho hall)
  have c2 := Lib.hid (set_any w p g bs _ h a r (bs.length - a) false ho (by have := cntF_le bs; have := h.2.2; omega))
  have h1 := Lib.hid (cntF_gave bs a r ho hall)
  clear h hall
  go_enter Try.func31, Try.ntmps31
  go_wp2_with fail
  (with_reducible refine c1.out.mono ?_)
  rintro e w' ⟨rfl, rfl⟩
  go_wp2_with fail
  (with_reducible refine c2.out.mono ?_)
  rintro e w1 ⟨rfl, hm, hk⟩
  have HM := Lib.hid hm
  clear hm
  go_wp2_with fail
  go_ret
  exact ⟨rfl, by unfold MarkB; rw [h1.out]; exact HM.out, hk⟩
theorem free_no (w : World) (p g : Nat) (bs : List Bool) (h : MarkB w p g bs) (a r : Nat) (hr : 1 ≤ r) (ho : a + r ≤ bs.length) (hno : ¬ AllAt bs a r true) :
    Calls Try.prog 31 #[.pointer (some ⟨p, 0, none⟩), .int .i64 a, .int .i64 r] w fun e w' => e = .returned (.int .i64 5) ∧ w = w' := by
  have c1 := Lib.hid (row_no w p g bs _ h a r 5 false hr ho hno)
  clear h hno
  go_enter Try.func31, Try.ntmps31
  go_wp2_with fail
  (with_reducible refine c1.out.mono ?_)
  rintro e w' ⟨rfl, rfl⟩
  go_wp2_with fail
  go_ret
  exact ⟨rfl, rfl⟩
/-- Whatever row is asked for: an answer, and places, as many as there were. -/
def MarkSome (w : World) (p g : Nat) (bs : List Bool) (e : Ending) (w' : World) : Prop := ∃ (x : Int) (bs' : List Bool), e = .returned (.int .i64 x) ∧ bs'.length = bs.length ∧ MarkB w' p g bs' ∧ Kept [p, g] w w'
theorem mark_gen (w : World) (p g : Nat) (bs : List Bool) (h : MarkB w p g bs) (at_ run : Int) :
    Calls Try.prog 37 #[.pointer (some ⟨p, 0, none⟩), .int .i64 at_, .int .i64 run] w (MarkSome w p g bs) := by
  by_cases ho : run < 1 ∨ at_ < 0 ∨ (bs.length : Int) ≤ at_ ∨ (bs.length : Int) - at_ < run
  · exact (mark_arg w p g bs h at_ run ho).mono fun e w' ⟨he, hw⟩ => ⟨2, bs, he, rfl, hw ▸ h, hw ▸ Kept.refl _ _⟩
  · obtain ⟨a, rfl⟩ := Int.eq_ofNat_of_zero_le (show 0 ≤ at_ by omega)
    obtain ⟨r, rfl⟩ := Int.eq_ofNat_of_zero_le (show 0 ≤ run by omega)
    by_cases hall : AllAt bs a r false
    · exact (mark_ok w p g bs h a r (by omega) (by omega) hall).mono fun e w' ⟨he, hm, hk⟩ => ⟨0, _, he, length_put bs a r true (by omega), hm, hk⟩
    · exact (mark_no w p g bs h a r (by omega) (by omega) hall).mono fun e w' ⟨he, hw⟩ => ⟨6, bs, he, rfl, hw ▸ h, hw ▸ Kept.refl _ _⟩
/-- The rows of free places: where each begins, how long it is. -/
def rowsG (at_ n : Nat) : List Bool → List (Nat × Nat)
  | [] => if 0 < n then [(at_, n)] else []
  | true :: l => (if 0 < n then [(at_, n)] else []) ++ rowsG (at_ + n + 1) 0 l
  | false :: l => rowsG at_ (n + 1) l
def rowsL (bs : List Bool) : List (Nat × Nat) := rowsG 0 0 bs
theorem rowsG_step (at_ n : Nat) (l : List Bool) : rowsG at_ n l = (if 0 < n + fi true l then [(at_, n + fi true l)] else []) ++ rowsG (at_ + n + fi true l + 1) 0 (l.drop (fi true l + 1)) := by
  induction l generalizing n with
  | nil => by_cases h : 0 < n <;> simp [rowsG, fi, h]
  | cons b l ih =>
    cases b with
    | true => simp [rowsG, fi]
    | false =>
      have e0 : fi true (false :: l) = fi true l + 1 := rfl
      have e1 : n + 1 + fi true l = n + (fi true l + 1) := by omega
      have e2 : at_ + (n + 1) + fi true l + 1 = at_ + n + (fi true l + 1) + 1 := by omega
      have e3 : rowsG at_ n (false :: l) = rowsG at_ (n + 1) l := rfl
      rw [e3, ih (n + 1), e0, e1, e2]
      rfl
theorem rowsG_at (bs : List Bool) (at_ : Nat) : rowsG at_ 0 (bs.drop at_) = (if 0 < fi true (bs.drop at_) then [(at_, fi true (bs.drop at_))] else []) ++ rowsG (at_ + fi true (bs.drop at_) + 1) 0 (bs.drop (at_ + fi true (bs.drop at_) + 1)) := by
  have := rowsG_step at_ 0 (bs.drop at_)
  simp only [Nat.zero_add, Nat.add_zero, List.drop_drop] at this
  rw [this]
  rfl
/-- What a round that goes on keeps: the blocks below n₀, and one row of cells more. -/
def KpB (n₀ Bs : Nat) (W W' : World) : Prop := Below n₀ W W' ∧ ∀ o, W.heap[Bs]? = some o → o.isCells = true → W'.heap[Bs]? = some o
theorem KpB.refl (n₀ Bs : Nat) (W : World) : KpB n₀ Bs W W := ⟨Below.refl _ _, fun _ h _ => h⟩
theorem KpB.trans {n₀ Bs : Nat} {A B C : World} (h : KpB n₀ Bs A B) (k : KpB n₀ Bs B C) : KpB n₀ Bs A C := ⟨h.1.trans k.1, fun o ho hc => k.2 o (h.2 o ho hc) hc⟩
theorem KpB.b {n₀ Bs : Nat} {w : World} (hn : n₀ ≤ w.heap.size) (W : World) (l : Nat) (o o' : Obj) (hl : w.heap.size ≤ l) (h : W.heap[l]? = some o) (hc : o.isCells = false) (hw : o.isWalk = false) : KpB n₀ Bs W (W.putObj l o') :=
  ⟨belowK_b hn W l o o' hl h hc hw, fun q hq hqc => by
    have : l ≠ Bs := by rintro rfl; rw [h] at hq; cases hq; rw [hc] at hqc; cases hqc
    exact (World.putObj_heap_other (by omega)).trans hq⟩
theorem KpB.blk {n₀ Bs : Nat} {W W' : World} {t : TypeId} {cs : Array Value} (h : KpB n₀ Bs W W') (hb : Blk W Bs t cs) : Blk W' Bs t cs := h.2 _ hb rfl
theorem MarkB.below {n₀ : Nat} {w w' : World} {p g : Nat} {bs : List Bool} (h : MarkB w p g bs) (hk : Below n₀ w w') (hp : p < n₀) (hg : g < n₀) : MarkB w' p g bs := ⟨(hk.block p hp).trans h.1, (hk.block g hg).trans h.2.1, h.2.2⟩
/-- One of the rows. -/
abbrev Rw (bs : List Bool) := { x : Nat × Nat // x ∈ rowsL bs }
set_option maxRecDepth 100000 in
set_option maxHeartbeats 2000000 in
theorem rows1_in (n : Nat) (hn : 1 ≤ n) (l Bs n₀ p g : Nat) (bs : List Bool) (hp : p < n₀) (hg : g < n₀) (J Jx : List (Rw bs) → World → Prop)
    (hY : ∀ pre (x : Rw bs) W, J pre W → pre.length < (rowsL bs).length → YieldAt Fence.wide (n - 1) Try.prog l #[.int .i64 (x.1.1 : Int), .int .i64 (x.1.2 : Int)] W fun e W' =>
      (e = .returned (.bool true) ∧ J (pre ++ [x]) W' ∧ KpB n₀ Bs W W') ∨ (e = .returned (.bool false) ∧ Jx (pre ++ [x]) W'))
    (W : World) (hbs : Blk W Bs 58 #[.pointer (some ⟨p, 0, none⟩)]) (hM : MarkB W p g bs) (h0 : J [] W) :
    CallsIn Fence.wide n Try.prog 45 #[.func (.yield l) #[] #[], .pointer (some ⟨Bs, 0, none⟩)] W fun e W' => (∃ v, e = .returned v) ∧
      ((∃ ys, ys.map Subtype.val = rowsL bs ∧ J ys W') ∨ (∃ pre, (∃ t, pre.map Subtype.val ++ t = rowsL bs) ∧ Jx pre W')) := by
  have hro : Fence.wide.round = none := rfl
  have hl256 := hM.2.2
  refine callsIn_of_wp Try.func45 rfl trivial ?_ hro
  simp only [Try.ntmps45, List.size_toArray, List.length_cons, List.length_nil, Nat.reduceAdd, Nat.reduceSub, Array.replicate_succ, Array.replicate_zero, List.push_toArray, List.append_toArray, List.nil_append, List.cons_append]
  have hbc := hbs.cell 0
  gi_wp2
  gi_loopw [3] (fun i wr => ∃ (k : Nat) (pre : List (Rw bs)), k ≤ bs.length + 1 ∧ i = .int .i64 (k : Int) ∧ Hid (rowsL bs = pre.map Subtype.val ++ rowsG k 0 (bs.drop k)) ∧ J pre wr ∧ KpB n₀ Bs W wr)
    (fun i _ => (bs.length + 1 - intOf i).toNat)
  case atStart => exact ⟨0, [], Nat.zero_le _, rfl, Lib.hid rfl, h0, KpB.refl _ _ _⟩
  case round =>
    obtain ⟨k, pre, hk, rfl, hpre, hJs, hnx⟩ := hrel
    have hb1 := (hnx.blk hbs).cell 0
    have HM := Lib.hid (hM.below hnx.1 hp hg)
    have hm1 := HM.out.1.cell
    by_cases hlt : k < bs.length
    · obtain ⟨m, hm⟩ : ∃ m, fi true (bs.drop k) = m := ⟨_, rfl⟩
      have hdl : (bs.drop k).length = bs.length - k := by simp
      have hml : m ≤ bs.length - k := by rw [← hm, ← hdl]; exact fi_le _ _
      have HI : Hid (∀ w, MarkB w p g bs → Calls Try.prog 46 #[.slice (some ⟨g, k, none⟩) (bs.length - k) (bs.length - k), .bool true] w fun e w' => e = .returned (.int .i64 (if m < bs.length - k then (m : Int) else -1)) ∧ w = w') := Lib.hid (by
        intro w h
        have hr := RowB.piece h k (bs.length - k) (by omega)
        have e1 : (bs.drop k).take (bs.length - k) = bs.drop k := List.take_of_length_le (by omega)
        rw [e1, offOf_lt (n := bs.length - k) (by omega) (by omega)] at hr
        have c := index_any w (some ⟨g, k, none⟩) (bs.length - k) (bs.drop k) true hr (by omega)
        rw [hdl] at c
        unfold idxV at c
        rw [hm, hdl] at c
        exact c)
      have hst := rowsG_at bs k
      rw [hm] at hst
      have HST := Lib.hid hst
      have q5 : ¬ bs.length = k := by omega
      clear hst hm hdl
      by_cases hA : m < bs.length - k
      · rw [if_pos hA] at HI
        by_cases hm0 : 0 < m
        · have hmem : (k, m) ∈ rowsL bs := by rw [hpre.out, HST.out, if_pos hm0]; simp
          have hlen : pre.length < (rowsL bs).length := by rw [hpre.out, HST.out, if_pos hm0]; simp
          obtain ⟨fn, tmps, assign, body, hy, hR⟩ := hY pre ⟨(k, m), hmem⟩ wr hJs hlen
          dsimp only at hy
          have HN : Hid (rowsL bs = (pre ++ [(⟨(k, m), hmem⟩ : Rw bs)]).map Subtype.val ++ rowsG (k + m + 1) 0 (bs.drop (k + m + 1))) := Lib.hid (by
            rw [List.map_append]
            simp only [List.map_cons, List.map_nil, List.append_assoc]
            rw [← List.append_assoc]
            have h1 := hpre.out
            rw [HST.out, if_pos hm0, ← List.append_assoc] at h1
            exact h1)
          clear hlen
          gi_wp2_with ((try (refine ⟨trivial, ?_⟩)); gi_at_call 46; refine (callsIn_wide.2 (HI.out _ HM.out)).mono ?_; rintro e w' ⟨rfl, rfl⟩)
          refine hR.mono ?_
          rintro e W3 (⟨rfl, hJ3, hk3⟩ | ⟨rfl, hJx3⟩)
          · gi_wp2
            go_roundw
            case rel => exact ⟨k + m + 1, _, by omega, by first | rfl | (congr 1; done) | (congr 1; omega), HN, hJ3, hnx.trans hk3⟩
            case measure => (simp [intOf]; try omega)
          · gi_wp2
            refine bodyPost_ret (results_none rfl _ _ _) rfl ?_
            exact ⟨⟨_, rfl⟩, .inr ⟨_, ⟨_, HN.out.symm⟩, hJx3⟩⟩
        · obtain rfl : m = 0 := by omega
          have HN : Hid (rowsL bs = pre.map Subtype.val ++ rowsG (k + 1) 0 (bs.drop (k + 1))) := Lib.hid (by
            have h1 := hpre.out
            rw [HST.out] at h1
            simpa using h1)
          gi_wp2_with ((try (refine ⟨trivial, ?_⟩)); gi_at_call 46; refine (callsIn_wide.2 (HI.out _ HM.out)).mono ?_; rintro e w' ⟨rfl, rfl⟩)
          refine ⟨fun _ h => (by cases h), ?_⟩
          gi_wp2
          go_roundw
          case rel => exact ⟨k + 1, _, by omega, by first | rfl | (congr 1; done) | (congr 1; omega), HN, hJs, hnx⟩
          case measure => (simp [intOf]; try omega)
      · rw [if_neg hA] at HI
        have hm0 : 0 < m := by omega
        have e1 : (bs.length : Int) - (k : Int) = (m : Int) := by omega
        have hmem : (k, m) ∈ rowsL bs := by rw [hpre.out, HST.out, if_pos hm0]; simp
        have hlen : pre.length < (rowsL bs).length := by rw [hpre.out, HST.out, if_pos hm0]; simp
        obtain ⟨fn, tmps, assign, body, hy, hR⟩ := hY pre ⟨(k, m), hmem⟩ wr hJs hlen
        dsimp only at hy
        have HN : Hid (rowsL bs = (pre ++ [(⟨(k, m), hmem⟩ : Rw bs)]).map Subtype.val ++ rowsG (k + m + 1) 0 (bs.drop (k + m + 1))) := Lib.hid (by
          rw [List.map_append]
          simp only [List.map_cons, List.map_nil, List.append_assoc]
          rw [← List.append_assoc]
          have h1 := hpre.out
          rw [HST.out, if_pos hm0, ← List.append_assoc] at h1
          exact h1)
        clear hlen
        gi_wp2_with ((try (refine ⟨trivial, ?_⟩)); gi_at_call 46; refine (callsIn_wide.2 (HI.out _ HM.out)).mono ?_; rintro e w' ⟨rfl, rfl⟩)
        refine hR.mono ?_
        rintro e W3 (⟨rfl, hJ3, hk3⟩ | ⟨rfl, hJx3⟩)
        · gi_wp2
          go_roundw
          case rel => exact ⟨k + m + 1, _, by omega, by first | rfl | (congr 1; done) | (congr 1; omega), HN, hJ3, hnx.trans hk3⟩
          case measure => (simp [intOf]; try omega)
        · gi_wp2
          refine bodyPost_ret (results_none rfl _ _ _) rfl ?_
          exact ⟨⟨_, rfl⟩, .inr ⟨_, ⟨_, HN.out.symm⟩, hJx3⟩⟩
    · gi_wp2
      go_end0
      refine ⟨⟨_, rfl⟩, .inl ⟨pre, ?_, hJs⟩⟩
      have h1 := hpre.out
      rw [List.drop_eq_nil_of_le (by omega)] at h1
      simpa [rowsG] using h1.symm
end Go.Proofs.Ytekblfnemcaaeaa
