/- What hangs on a block: the iterator. -/
import Derived.Test.YtgiokigokedakaaRange
import Derived.Test.YtgiokigokedakaaMemC
import Derived.Sort.LoopGhostIn
set_option linter.unusedVariables false
set_option linter.unusedSimpArgs false
namespace Go.Proofs.Ytgiokigokedakaa
open Go.RowKit Go.Shelf
/-- The link that stands at a. -/
def lk (zs : List Int) (a : Nat) : Nat := (ldV zs a 8).toNat
theorem U8s.ldV {zs : List Int} (h : U8s zs) (a : Nat) : Go.Proofs.Ytgiokigokedakaa.ldV zs a 8 = (lk zs a : Int) ∧ (lk zs a : Int) < 18446744073709551616 := by
  have hu : U8s ((zs.drop a).take 8) := (h.drop a).take 8
  have h1 := le_nn hu
  have h2 := le_lt hu
  have h3 := pow_mono256 (show ((zs.drop a).take 8).length ≤ 8 by simp; omega)
  have h4 : (256 : Int) ^ 8 = 18446744073709551616 := by decide
  unfold lk Go.Proofs.Ytgiokigokedakaa.ldV
  omega
/-- Where the k-th step from hd on has come to. -/
def at_ (zs : List Int) (hd : Nat) : Nat → Option Nat
  | 0 => some hd
  | k + 1 => (at_ zs hd k).bind fun c => if c ≠ 0 ∧ c + 8 ≤ zs.length then some (lk zs c) else none
theorem at_succ {zs : List Int} {hd k c : Nat} (h : at_ zs hd k = some c) (h0 : c ≠ 0) (h8 : c + 8 ≤ zs.length) : at_ zs hd (k + 1) = some (lk zs c) := by
  simp only [at_, h, Option.bind_some]
  rw [if_pos ⟨h0, h8⟩]
def encL (x : Nat × Bool) : Array Value := #[.int .u64 (x.1 : Int), .bool x.2]
/-- What comes behind pre. -/
def NxL (zs : List Int) (hd : Nat) (pre : List (Nat × Bool)) (x : Nat × Bool) : Prop := at_ zs hd pre.length = some x.1 ∧ x.1 ≠ 0 ∧ x.2 = decide (x.1 + 8 ≤ zs.length)
/-- It is over: nothing hangs there; or a link lay outside. -/
def EndL (zs : List Int) (hd : Nat) (xs : List (Nat × Bool)) : Prop := at_ zs hd xs.length = some 0 ∨ ∃ k c, xs.length = k + 1 ∧ at_ zs hd k = some c ∧ c ≠ 0 ∧ ¬ c + 8 ≤ zs.length
set_option maxRecDepth 100000 in
set_option maxHeartbeats 2000000 in
theorem from1_own (n : Nat) (hn : 1 ≤ n) (Bh Bm p g hd : Nat) (zs : List Int) (hd64 : (hd : Int) < 18446744073709551616) (w : World) (hh : Blk w Bh 26 #[.int .u64 (hd : Int)]) (hm : Blk w Bm 25 #[.pointer (some ⟨p, 0, none⟩)]) (hM : MemB w p g zs) :
    SeqOwn Fence.wide n Try.prog 68 #[.pointer (some ⟨Bh, 0, none⟩), .pointer (some ⟨Bm, 0, none⟩)] encL [Bh] [Bh, Bm, p, g] (NxL zs hd) (EndL zs hd) w := by
  intro l J Jx M hJR hJM hY W hS h0
  have hro : Fence.wide.round = none := rfl
  have hne : Bm ≠ Bh := fun e => by subst e; have := hh.symm.trans hm; simp at this
  have hpn : p ≠ Bh := fun e => by subst e; have := hh.symm.trans hM.1; simp at this
  have hgn : g ≠ Bh := fun e => by subst e; have := hh.symm.trans hM.2.1; simp at this
  have hu := hM.2.2.2
  have hzl := hM.2.2.1
  have hh' := hS.blk hh (by simp)
  have hm' := hS.blk hm (by simp)
  have hM' : MemB W p g zs := ⟨hS.blk hM.1 (by simp), hS.blk hM.2.1 (by simp), hM.2.2⟩
  refine callsIn_of_wp Try.func68 rfl trivial ?_ hro
  simp only [Try.ntmps68, List.size_toArray, List.length_cons, List.length_nil, Nat.reduceAdd, Nat.reduceSub, Array.replicate_succ, Array.replicate_zero, List.push_toArray, List.append_toArray, List.nil_append, List.cons_append]
  gi_wp2
  gi_loopg [4] (M + 1) (fun k _ wr => ∃ (pre : List (Nat × Bool)) (c : Nat), k + pre.length = M + 1 ∧ at_ zs hd pre.length = some c ∧ (c : Int) < 18446744073709551616 ∧ Blk wr Bh 26 #[.int .u64 (c : Int)] ∧ Blk wr Bm 25 #[.pointer (some ⟨p, 0, none⟩)] ∧ MemB wr p g zs ∧ J pre wr)
  case atStart => exact ⟨[], hd, by simp, rfl, hd64, hh', hm', hM', h0⟩
  case round =>
    obtain ⟨pre, c, hk, hat, hc64, bh, bm, hMr, hJ⟩ := hrel
    have hlen := hJM _ _ hJ
    have hb1 := bh.cell 0
    have hb2 := bm.cell 0
    have HJR := Lib.hid hJR
    have HJM := Lib.hid hJM
    have HYY := Lib.hid hY
    have HAT := Lib.hid hat
    have HMR := Lib.hid hMr
    have HBH := Lib.hid bh
    have HBM := Lib.hid bm
    have HJ := Lib.hid hJ
    clear hMr bh bm hat hM hM' hm hm' hh hh' h0 hJR hJM hY hJ hS
    by_cases hc0 : c = 0
    · subst hc0
      gi_wp2
      go_end0
      exact ⟨⟨_, rfl⟩, .inl ⟨pre, .inl HAT.out, HJ.out⟩⟩
    · have HC0 := Lib.hid hc0
      have hc1 : ((c : Int) != 0) = true := by simp; omega
      clear hc0
      by_cases h8 : c + 8 ≤ zs.length
      · obtain ⟨hlv, hl64⟩ := hu.ldV c
        have DL : Hid (Calls Try.prog 63 #[.pointer (some ⟨p, 0, none⟩), .int .u64 (c : Int), .int .i64 8] wr fun e w' => e = .returned (.tuple #[.int .u64 (lk zs c : Int), .int .i64 0]) ∧ Kept [] wr w') := Lib.hid (by
          have := load_8 wr p g zs HMR.out c h8
          rwa [hlv] at this)
        have HY : Hid (∀ w4, Kept [] wr w4 → YieldAt Fence.wide (n - 1) Try.prog l (encL (c, true)) w4 fun e W' => (e = .returned (.bool true) ∧ J (pre ++ [(c, true)]) W' ∧ Same [Bh, Bm, p, g] w4 W') ∨ (e = .returned (.bool false) ∧ Jx (pre ++ [(c, true)]) W')) := Lib.hid (fun w4 h4 => HYY.out pre (c, true) w4 (HJR.out _ _ _ HJ.out (h4.mono (fun _ h _ => by cases h))) ⟨HAT.out, HC0.out, by simp [h8]⟩)
        clear hlv
        gi_wp2_with ((try (refine ⟨trivial, ?_⟩)); gi_at_call 63; refine (callsIn_wide.2 DL.out).mono ?_; rintro e w4 ⟨rfl, hb4⟩; obtain ⟨fn, tmps, assign, body, hy, hR⟩ := HY.out w4 hb4; dsimp only [encL] at hy; have hb1 := (HBH.out.keep0 hb4).cell 0; have hb2 := (HBM.out.keep0 hb4).cell 0)
        refine hR.mono ?_
        rintro e W3 (⟨rfl, hJ3, hk3⟩ | ⟨rfl, hJx3⟩)
        · have bh3 := hk3.blk (HBH.out.keep0 hb4) (by simp)
          have bm3 := hk3.blk (HBM.out.keep0 hb4) (by simp)
          have M3 : MemB W3 p g zs := ⟨hk3.blk (HMR.out.1.keep0 hb4) (by simp), hk3.blk (HMR.out.2.1.keep0 hb4) (by simp), HMR.out.2.2⟩
          have hb1 := bh3.cell 0
          have hf1 := bh3.frozen 0
          have HB3 := Lib.hid bh3
          clear bh3
          gi_wp2
          gi_roundg (gk - 1)
          case measure => have := HJM.out _ _ hJ3; simp at this; omega
          case rel =>
            refine ⟨pre ++ [(c, true)], lk zs c, ?_, ?_, hl64, HB3.out.set' rfl, bm3.far hne _, ⟨M3.1.far hpn _, M3.2.1.far hgn _, M3.2.2⟩, HJR.out _ _ _ hJ3 ((Kept.refl [Bh] W3).setIn (by simp) _)⟩
            · simp; have := HJM.out _ _ hJ3; simp at this; omega
            · simp; exact at_succ HAT.out HC0.out h8
        · gi_wp2
          refine bodyPost_ret (results_none rfl _ _ _) rfl ?_
          exact ⟨⟨_, rfl⟩, .inr ⟨_, hJx3⟩⟩
      · have DL : Hid (Calls Try.prog 63 #[.pointer (some ⟨p, 0, none⟩), .int .u64 (c : Int), .int .i64 8] wr fun e w' => e = .returned (.tuple #[.int .u64 0, .int .i64 3]) ∧ Kept [] wr w') := Lib.hid (load_out wr p g zs HMR.out c 8 (by unfold MayN; omega) (by omega) (by omega))
        have HY : Hid (∀ w4, Kept [] wr w4 → YieldAt Fence.wide (n - 1) Try.prog l (encL (c, false)) w4 fun e W' => (e = .returned (.bool true) ∧ J (pre ++ [(c, false)]) W' ∧ Same [Bh, Bm, p, g] w4 W') ∨ (e = .returned (.bool false) ∧ Jx (pre ++ [(c, false)]) W')) := Lib.hid (fun w4 h4 => HYY.out pre (c, false) w4 (HJR.out _ _ _ HJ.out (h4.mono (fun _ h _ => by cases h))) ⟨HAT.out, HC0.out, by simp [h8]⟩)
        gi_wp2_with ((try (refine ⟨trivial, ?_⟩)); gi_at_call 63; refine (callsIn_wide.2 DL.out).mono ?_; rintro e w4 ⟨rfl, hb4⟩; obtain ⟨fn, tmps, assign, body, hy, hR⟩ := HY.out w4 hb4; dsimp only [encL] at hy; have hb1 := (HBH.out.keep0 hb4).cell 0; have hb2 := (HBM.out.keep0 hb4).cell 0)
        refine hR.mono ?_
        rintro e W3 (⟨rfl, hJ3, hk3⟩ | ⟨rfl, hJx3⟩)
        · gi_wp2
          refine bodyPost_ret (results_none rfl _ _ _) rfl ?_
          exact ⟨⟨_, rfl⟩, .inl ⟨_, .inr ⟨pre.length, c, by simp, HAT.out, HC0.out, h8⟩, hJ3⟩⟩
        · gi_wp2
          refine bodyPost_ret (results_none rfl _ _ _) rfl ?_
          exact ⟨⟨_, rfl⟩, .inr ⟨_, hJx3⟩⟩
end Go.Proofs.Ytgiokigokedakaa
