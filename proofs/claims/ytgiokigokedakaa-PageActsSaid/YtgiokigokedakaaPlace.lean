/- A list that lies within a block: its place; Pop, Push of one. -/
import Derived.Test.YtgiokigokedakaaListC
set_option linter.unusedVariables false
set_option linter.unusedSimpArgs false
namespace Go.Proofs.Ytgiokigokedakaa
open Go.RowKit
/-- The list at ⟨b, o⟩, in the block b of the cells cs: its head, how many. -/
structure LAt (w : World) (b o : Nat) (t : TypeId) (cs : Array Value) (hd n : Int) : Prop where
  blk : Blk w b t cs
  c0 : cs[o]? = some (.int .u64 hd)
  c1 : cs[o + 1]? = some (.int .i64 n)
def put2 (cs : Array Value) (o : Nat) (hd n : Int) : Array Value := (cs.setIfInBounds o (.int .u64 hd)).setIfInBounds (o + 1) (.int .i64 n)
theorem put2_put2 (cs : Array Value) (o : Nat) (a b c d : Int) : put2 (put2 cs o a b) o c d = put2 cs o c d := by
  unfold put2
  apply Array.ext_getElem?
  intro i
  simp only [Array.getElem?_setIfInBounds, Array.size_setIfInBounds]
  by_cases h1 : o + 1 = i
  · simp [h1]
  · by_cases h2 : o = i
    · simp [h1, h2]
    · simp [h1, h2]
namespace LAt
variable {w w' : World} {b o : Nat} {t : TypeId} {cs : Array Value} {hd n : Int}
theorem cell0 (h : LAt w b o t cs hd n) : w.cell? ⟨b, o, none⟩ = some (.int .u64 hd) := (h.blk.cell o).trans h.c0
theorem cell1 (h : LAt w b o t cs hd n) : w.cell? ⟨b, o + 1, none⟩ = some (.int .i64 n) := (h.blk.cell (o + 1)).trans h.c1
theorem frozen0 (h : LAt w b o t cs hd n) : w.frozen? ⟨b, o, none⟩ = false := h.blk.frozen o
theorem frozen1 (h : LAt w b o t cs hd n) : w.frozen? ⟨b, o + 1, none⟩ = false := h.blk.frozen (o + 1)
theorem keep0 (h : LAt w b o t cs hd n) (hk : Kept [] w w') : LAt w' b o t cs hd n := ⟨h.blk.keep0 hk, h.c0, h.c1⟩
theorem keep {S : List Nat} (h : LAt w b o t cs hd n) (hk : Kept S w w') (hS : b ∉ S) : LAt w' b o t cs hd n := ⟨h.blk.keep hk hS, h.c0, h.c1⟩
theorem lt0 (h : LAt w b o t cs hd n) : o + 1 < cs.size := (Array.getElem?_eq_some_iff.1 h.c1).1
theorem of_put (h : LAt w b o t cs hd n) {hd' n' : Int} (hb : Blk w' b t (put2 cs o hd' n')) : LAt w' b o t (put2 cs o hd' n') hd' n' := by
  have := h.lt0
  exact ⟨hb, by unfold put2; rw [Array.getElem?_setIfInBounds, if_neg (by omega), Array.getElem?_setIfInBounds, if_pos rfl, if_pos (by omega)], by unfold put2; rw [Array.getElem?_setIfInBounds, if_pos rfl, if_pos (by simpa using this)]⟩
theorem put (h : LAt w b o t cs hd n) (hd' n' : Int) : Blk ((w.setCell ⟨b, o, none⟩ (.int .u64 hd')).setCell ⟨b, o + 1, none⟩ (.int .i64 n')) b t (put2 cs o hd' n') := (h.blk.set_ o _).set_ (o + 1) _
theorem ne (h : LAt w b o t cs hd n) {p g : Nat} {zs : List Int} (hM : MemB w p g zs) (ht1 : t ≠ 111) (ht2 : t ≠ 5) : b ≠ p ∧ b ≠ g := ⟨h.blk.ne_ hM.1 ht1, h.blk.ne_ hM.2.1 ht2⟩
end LAt
set_option maxHeartbeats 1000000 in
theorem popE_at (w : World) (b o p g : Nat) (t : TypeId) (cs : Array Value) (zs : List Int) (hd : Int) (hM : MemB w p g zs) (hl : LAt w b o t cs hd 0) :
    Calls Try.prog 37 #[.pointer (some ⟨b, o, none⟩), .pointer (some ⟨p, 0, none⟩)] w fun e w' => e = .returned (.tuple #[.int .u64 0, .int .i64 5]) ∧ w = w' := by
  have c1 := hl.cell1
  clear hM
  go_enter Try.func37, Try.ntmps37
  go_wp2_with fail
  (first | go_ret2 | go_ret)
  exact ⟨rfl, rfl⟩
set_option maxHeartbeats 1000000 in
theorem pop_at (w : World) (b o p g : Nat) (t : TypeId) (cs : Array Value) (zs : List Int) (hd : Nat) (n : Int) (hM : MemB w p g zs) (hl : LAt w b o t cs hd n) (hn : 0 < n) (hn2 : n ≤ 9223372036854775807) (h8 : hd + 8 ≤ zs.length) :
    Calls Try.prog 37 #[.pointer (some ⟨b, o, none⟩), .pointer (some ⟨p, 0, none⟩)] w fun e w' => e = .returned (.tuple #[.int .u64 (hd : Int), .int .i64 0]) ∧ Blk w' b t (put2 cs o (lk zs hd : Int) (n - 1)) ∧ Kept [b] w w' := by
  have c0 := hl.cell0
  have c1 := hl.cell1
  have hq : (n == 0) = false := by simp; omega
  have hq2 : decide (n = 0) = false := by simp; omega
  obtain ⟨hlv, hl64⟩ := hM.2.2.2.ldV hd
  have DL : Hid (Calls Try.prog 63 #[.pointer (some ⟨p, 0, none⟩), .int .u64 (hd : Int), .int .i64 8] w fun e w' => e = .returned (.tuple #[.int .u64 (lk zs hd : Int), .int .i64 0]) ∧ Kept [] w w') := Lib.hid (by
    have := load_8 w p g zs hM hd h8
    rwa [hlv] at this)
  have HL := Lib.hid hl
  clear hlv hM hl
  go_enter Try.func37, Try.ntmps37
  go_wp2_with (go_at_call 63; refine DL.out.mono ?_; rintro e w1 ⟨rfl, hb1⟩; have B1 := Lib.hid (HL.out.keep0 hb1); have d0 := B1.out.cell0; have d1 := B1.out.cell1; have e0 := B1.out.frozen0; have e1 := B1.out.frozen1)
  (first | go_ret2 | go_ret)
  refine ⟨rfl, ?_, ?_⟩
  · exact B1.out.put _ _
  · exact ((Kept.mono hb1 (fun _ h _ => by cases h)).setIn (by simp) _).setIn (by simp) _
set_option maxRecDepth 100000 in
set_option maxHeartbeats 4000000 in
/-- Push of one. -/
theorem push1_at (w : World) (b o p g : Nat) (t : TypeId) (cs : Array Value) (ht1 : t ≠ 111) (ht2 : t ≠ 5) (zs : List Int) (hd : Nat) (n : Int) (a : Nat) (y c : Nat) (hM : MemB w p g zs) (hl : LAt w b o t cs hd n) (hd64 : (hd : Int) < 18446744073709551616) (hn : 0 ≤ n ∧ n ≤ 1000000000)
    (h0 : a ≠ 0) (h8 : a + 8 ≤ zs.length) (hy : w.cell? ⟨y, 0, none⟩ = some (.int .u64 (a : Int))) :
    Calls Try.prog 39 #[.pointer (some ⟨b, o, none⟩), .pointer (some ⟨p, 0, none⟩), .slice (some ⟨y, 0, none⟩) 1 c] w fun e w' => e = .returned (.int .i64 0) ∧ MemB w' p g (splice zs a (bytesOf 8 (hd : Int))) ∧ Blk w' b t (put2 cs o (a : Int) (n + 1)) ∧ Kept [b, g] w w' := by
  have hzl := hM.2.2.1
  obtain ⟨n1, n2⟩ := hl.ne hM ht1 ht2
  have HM := Lib.hid hM
  have HL := Lib.hid hl
  have DS : Hid (Calls Try.prog 22 #[.pointer (some ⟨p, 0, none⟩), .int .u64 (a : Int), .int .i64 8, .int .u64 (hd : Int)] w fun e w' => e = .returned (.int .i64 0) ∧ MemB w' p g (splice zs a (bytesOf 8 (hd : Int))) ∧ Kept [g] w w') := Lib.hid (store_8 w p g zs hM a hd h8 (by omega) (by rw [pow64]; omega))
  have hq : ((a : Int) == 0) = false := by simp; omega
  have c0 := hl.cell0
  have c1 := hl.cell1
  have hyl : y < w.heap.size := cell_lt hy
  clear hM hl
  go_enter Try.func39, Try.ntmps39
  go_wp2_with fail
  go_loopw [18] (fun i wr => (i = .int .i64 0 ∧ wr = w) ∨ (i = .int .i64 1 ∧ Hid (MemB wr p g (splice zs a (bytesOf 8 (hd : Int)))) ∧ Hid (Blk wr b t (put2 cs o (a : Int) (n + 1))) ∧ Kept [b, g] w wr)) (fun i _ => 1 - (intOf i).toNat)
  case atStart => exact .inl ⟨rfl, rfl⟩
  case round =>
    rcases hrel with ⟨rfl, rfl⟩ | ⟨rfl, hm, hb, hk⟩
    · go_wp2_with (go_at_call 22; refine DS.out.mono ?_; rintro e w1 ⟨rfl, hM1, hb1⟩; have M1 := Lib.hid hM1; have B1 := Lib.hid (HL.out.keep hb1 (by simp; exact n2)); clear hM1; have d0 := B1.out.cell0; have d1 := B1.out.cell1; have e0 := B1.out.frozen0; have e1 := B1.out.frozen1)
      go_roundw
      case rel =>
        exact .inr ⟨rfl, Lib.hid ((M1.out.far (by simp; omega) (by simp; omega) _).far (by simp; omega) (by simp; omega) _), Lib.hid (B1.out.put _ _), ((hb1.mono (fun x hx _ => by simp at hx ⊢; right; exact hx)).setIn (by simp) _).setIn (by simp) _⟩
      case measure => simp [intOf]
    · go_wp2_with fail
      (first | go_ret2 | go_ret)
      exact ⟨rfl, hm.out, hb.out, hk⟩
end Go.Proofs.Ytgiokigokedakaa
