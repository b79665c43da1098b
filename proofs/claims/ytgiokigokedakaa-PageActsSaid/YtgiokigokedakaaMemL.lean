/- A number is read: bytes backward, by the library's iterator. -/
import Derived.Test.YtgiokigokedakaaMemA
import Derived.RangeFuncBox
import Derived.RangeFuncNested
import Derived.RangeFuncLeaves
import Derived.RangeFuncWrites
import Derived.Shelf.Abstract
import Derived.WalkKit
import Derived.OwnWalkIn
import Derived.TacticsInMore
import Derived.LoopNIn
import Derived.LoopIn
set_option linter.unusedVariables false
set_option linter.unusedSimpArgs false
namespace Go.Proofs.Ytgiokigokedakaa
open Go.RowKit Go.Shelf
attribute [local go_sem] Oper.semAt_some
/-- What a round that goes on keeps: the blocks below n₀, and one row of cells more. -/
def KpB (n₀ Bs : Nat) (W W' : World) : Prop := Below n₀ W W' ∧ ∀ o, W.heap[Bs]? = some o → o.isCells = true → W'.heap[Bs]? = some o
theorem KpB.refl (n₀ Bs : Nat) (W : World) : KpB n₀ Bs W W := ⟨Below.refl _ _, fun _ h _ => h⟩
theorem KpB.trans {n₀ Bs : Nat} {A B C : World} (h : KpB n₀ Bs A B) (k : KpB n₀ Bs B C) : KpB n₀ Bs A C := ⟨h.1.trans k.1, fun o ho hc => k.2 o (h.2 o ho hc) hc⟩
theorem KpB.b {n₀ Bs : Nat} {w : World} (hn : n₀ ≤ w.heap.size) (W : World) (l : Nat) (o o' : Obj) (hl : w.heap.size ≤ l) (h : W.heap[l]? = some o) (hc : o.isCells = false) (hw : o.isWalk = false) : KpB n₀ Bs W (W.putObj l o') :=
  ⟨belowK_b hn W l o o' hl h hc hw, fun q hq hqc => by
    have : l ≠ Bs := by rintro rfl; rw [h] at hq; cases hq; rw [hc] at hqc; cases hqc
    exact (World.putObj_heap_other (by omega)).trans hq⟩
theorem KpB.blk {n₀ Bs : Nat} {W W' : World} {t : TypeId} {cs : Array Value} (h : KpB n₀ Bs W W') (hb : Blk W Bs t cs) : Blk W' Bs t cs := h.2 _ hb rfl
def upto {α : Type} (f : Nat → α) (k : Nat) : List α := (List.range k).map f
theorem upto_succ {α : Type} (f : Nat → α) (k : Nat) : upto f (k + 1) = upto f k ++ [f k] := by simp [upto, List.range_succ]
theorem upto_length {α : Type} (f : Nat → α) (k : Nat) : (upto f k).length = k := by simp [upto]
/-- The j-th that comes, backward, of n. -/
def bw (n : Nat) (zs : List Int) (j : Nat) : Int × Int := ((n : Int) - 1 - (j : Int), zs[n - 1 - j]?.getD 0)
set_option maxRecDepth 100000 in
set_option maxHeartbeats 2000000 in
theorem bwd1_in (F : Fence) (n : Nat) (h7 : F.fn 69) (hro : F.round = none) (hn : 1 ≤ n) (l Bs n₀ b off len cap : Nat) (zs : List Int) (hreach : len ≤ 140737488351232) (hb : b < n₀) (J Jx : List (Int × Int) → World → Prop)
    (hY : ∀ pre x W, J pre W → pre.length < len → YieldAt F (n - 1) Try.prog l #[.int .i64 x.1, .int .u8 x.2] W fun e W' =>
      (e = .returned (.bool true) ∧ J (pre ++ [x]) W' ∧ KpB n₀ Bs W W') ∨ (e = .returned (.bool false) ∧ Jx (pre ++ [x]) W'))
    (W : World) (hbs : Blk W Bs 22 #[.slice (some ⟨b, off, none⟩) len cap]) (hc : ∀ j, j < len → W.cell? ⟨b, off + j, none⟩ = some (.int .u8 (zs[j]?.getD 0))) (h0 : J [] W) :
    CallsIn F n Try.prog 69 #[.func (.yield l) #[] #[], .pointer (some ⟨Bs, 0, none⟩)] W fun e W' => (∃ v, e = .returned v) ∧
      ((∃ ys, ys = upto (bw len zs) len ∧ J ys W') ∨ (∃ pre, (∃ k, k ≤ len ∧ pre = upto (bw len zs) k) ∧ Jx pre W')) := by
  refine callsIn_of_wp Try.func69 rfl h7 ?_ hro
  simp only [Try.ntmps69, List.size_toArray, List.length_cons, List.length_nil, Nat.reduceAdd, Nat.reduceSub, Array.replicate_succ, Array.replicate_zero, List.push_toArray, List.append_toArray, List.nil_append, List.cons_append]
  have hbc := hbs.cell 0
  gi_wp2
  gi_loopw [3] (fun i wr => ∃ k : Nat, k ≤ len ∧ i = .int .i64 ((len : Int) - 1 - (k : Int)) ∧ J (upto (bw len zs) k) wr ∧ KpB n₀ Bs W wr)
    (fun i _ => (intOf i + 1).toNat)
  case atStart => exact ⟨0, Nat.zero_le _, by simp, h0, KpB.refl _ _ _⟩
  case round =>
    obtain ⟨k, hk, rfl, hJs, hnx⟩ := hrel
    have hb1 := (hnx.blk hbs).cell 0
    by_cases hlt : k < len
    · obtain ⟨m, hm⟩ : ∃ m : Nat, len = k + 1 + m := ⟨len - k - 1, by omega⟩
      have e1 : (len : Int) - 1 - (k : Int) = (m : Int) := by omega
      have hcx : wr.cell? ⟨b, off + m, none⟩ = some (.int .u8 (zs[m]?.getD 0)) := (hnx.1.cell (p := ⟨b, off + m, none⟩) hb).trans (hc m (by omega))
      have HB : Hid (bw len zs k = ((m : Int), zs[m]?.getD 0)) := Lib.hid (by unfold bw; rw [e1, show len - 1 - k = m by omega])
      obtain ⟨fn, tmps, assign, body, hy, hR⟩ := hY _ ((m : Int), zs[m]?.getD 0) wr hJs (by rw [upto_length]; exact hlt)
      dsimp only at hy
      rw [e1]
      have hml : m < len := by omega
      have HM := Lib.hid hm
      clear hm e1
      gi_wp2
      refine hR.mono ?_
      rintro e W3 (⟨rfl, hJ3, hk3⟩ | ⟨rfl, hJx3⟩)
      · gi_wp2
        go_roundw
        case rel => exact ⟨k + 1, by omega, by have := HM.out; congr 1; omega, by rw [upto_succ, HB.out]; exact hJ3, hnx.trans hk3⟩
        case measure => (simp [intOf]; try omega)
      · gi_wp2
        refine bodyPost_ret (results_none rfl _ _ _) rfl ?_
        exact ⟨⟨_, rfl⟩, .inr ⟨_, ⟨k + 1, by omega, by rw [upto_succ, HB.out]⟩, hJx3⟩⟩
    · obtain rfl : k = len := by omega
      have e1 : (k : Int) - 1 - (k : Int) = -1 := by omega
      rw [e1]
      gi_wp2
      go_end0
      exact ⟨⟨_, rfl⟩, .inl ⟨_, rfl, hJs⟩⟩
set_option maxRecDepth 100000 in
set_option maxHeartbeats 1000000 in
theorem bwd1_nil_in (F : Fence) (n : Nat) (h7 : F.fn 69) (hro : F.round = none) (l Bs : Nat) (J : List (Int × Int) → World → Prop) (W : World) (hbs : Blk W Bs 22 #[.slice none 0 0]) (h0 : J [] W) :
    CallsIn F n Try.prog 69 #[.func (.yield l) #[] #[], .pointer (some ⟨Bs, 0, none⟩)] W fun e W' => (∃ v, e = .returned v) ∧ J [] W' := by
  refine callsIn_of_wp Try.func69 rfl h7 ?_ hro
  simp only [Try.ntmps69, List.size_toArray, List.length_cons, List.length_nil, Nat.reduceAdd, Nat.reduceSub, Array.replicate_succ, Array.replicate_zero, List.push_toArray, List.append_toArray, List.nil_append, List.cons_append]
  have hbc := hbs.cell 0
  gi_wp2
  gi_loopw [3] (fun i wr => i = .int .i64 (-1) ∧ J [] wr) (fun _ _ => 0)
  case atStart => exact ⟨rfl, h0⟩
  case round =>
    obtain ⟨rfl, hJs⟩ := hrel
    gi_wp2
    go_end0
    exact ⟨⟨_, rfl⟩, hJs⟩
set_option maxHeartbeats 1000000 in
theorem bwd_in (F : Fence) (n : Nat) (h5 : F.fn 67) (hro : F.round = none) (a : Option Addr) (len cap : Nat) (w : World) :
    CallsIn F n Try.prog 67 #[.slice a len cap] w fun e w' => e = .returned (.func (.func 69) #[] #[.pointer (some ⟨w.heap.size, 0, none⟩)]) ∧ w' = w.alloc (.cells #[.slice a len cap] 22) := by
  refine callsIn_of_wp Try.func67 rfl h5 ?_ hro
  simp only [Try.ntmps67, List.size_toArray, List.length_cons, List.length_nil, Nat.reduceAdd, Nat.reduceSub, Array.replicate_succ, Array.replicate_zero, List.push_toArray, List.append_toArray, List.nil_append, List.cons_append]
  gi_wp2
  go_ret
  exact ⟨rfl, rfl⟩
/-- A slice of bytes within the blocks below n₀. -/
def Bytes (n₀ : Nat) (W : World) (sv : Value) (zs : List Int) : Prop :=
  (sv = .slice none 0 0 ∧ zs = []) ∨ ∃ b off cap, sv = .slice (some ⟨b, off, none⟩) zs.length cap ∧ b < n₀ ∧ ∀ j, j < zs.length → W.cell? ⟨b, off + j, none⟩ = some (.int .u8 (zs[j]?.getD 0))
theorem Bytes.below {n₀ : Nat} {A B : World} (h : Below n₀ A B) {sv : Value} {zs : List Int} : Bytes n₀ A sv zs → Bytes n₀ B sv zs
  | .inl e => .inl e
  | .inr ⟨b, off, cap, e, hb, hc⟩ => .inr ⟨b, off, cap, e, hb, fun j hj => (h.cell (p := ⟨b, off + j, none⟩) hb).trans (hc j hj)⟩
theorem bwd_stops (F : Fence) (n : Nat) (h7 : F.fn 69) (hro : F.round = none) (hn : 1 ≤ n) (Bs n₀ : Nat) (sv : Value) (zs : List Int) (hreach : zs.length ≤ 140737488351232) (w : World) (hn₀ : n₀ ≤ w.heap.size)
    (hc : Blk w Bs 22 #[sv]) (hI : Bytes n₀ w sv zs) :
    SeqStopsK F n Try.prog 69 #[.pointer (some ⟨Bs, 0, none⟩)] (fun x : Int × Int => #[Value.int .i64 x.1, Value.int .u8 x.2]) (KpB n₀ Bs) (fun ys => ys = upto (bw zs.length zs) zs.length)
      (fun pre => ∃ k, k ≤ zs.length ∧ pre = upto (bw zs.length zs) k) zs.length w := fun l J Jx W hW _ _ hY h0 => by
  have hc' : Blk W Bs 22 #[sv] := (hW.block Bs hc.lt).trans hc
  rcases hI.below (hW.mono hn₀) with ⟨rfl, rfl⟩ | ⟨b, off, cap, rfl, hb, hcs⟩
  · exact (bwd1_nil_in F n h7 hro l Bs J W hc' h0).mono fun e W' ⟨he, hj⟩ => ⟨he, .inl ⟨_, rfl, hj⟩⟩
  · exact bwd1_in F n h7 hro hn l Bs n₀ b off zs.length cap zs hreach hb J Jx hY W hc' hcs h0
end Go.Proofs.Ytgiokigokedakaa
