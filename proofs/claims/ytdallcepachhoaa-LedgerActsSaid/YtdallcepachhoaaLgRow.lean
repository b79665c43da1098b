/- Entries in rows: the search. -/
import Derived.Test.YtdallcepachhoaaRowS
import Derived.Lib.SliceRun
import Derived.Shelf.Abstract
set_option linter.unusedVariables false
set_option linter.unusedSimpArgs false
namespace Go.Proofs.Ytdallcepachhoaa
open Go.RowKit
abbrev EntT := Int × Int × Int × Bool
def encE (r : EntT) : List Value := [.int .u64 r.1, .int .u64 r.2.1, .int .u64 r.2.2.1, .bool r.2.2.2]
theorem encE_k : EncK encE 4 := ⟨by omega, fun _ => rfl, fun x v hv => by
  simp [encE] at hv
  rcases hv with rfl | rfl | rfl | rfl <;> rfl⟩
theorem info_ent : (Try.prog.info? 60).map (fun i => (i.zero, i.size, i.bytes)) = some (some (.agg #[.int .u64 0, .int .u64 0, .int .u64 0, .bool false]), 4, 32) := by kernel_rfl
def re (ls : List EntT) (i : Nat) : EntT := ls[i]?.getD (0, 0, 0, false)
/-- The entries ls lie in block g. -/
def CellsG (w : World) (g : Nat) (ls : List EntT) : Prop :=
  g < w.heap.size ∧ ∀ i : Nat, i < ls.length → w.cell? ⟨g, i * 4, none⟩ = some (.int .u64 (re ls i).1) ∧ w.cell? ⟨g, i * 4 + 1, none⟩ = some (.int .u64 (re ls i).2.1) ∧ w.cell? ⟨g, i * 4 + 2, none⟩ = some (.int .u64 (re ls i).2.2.1) ∧ w.cell? ⟨g, i * 4 + 3, none⟩ = some (.bool (re ls i).2.2.2)
theorem CellsG.keep {w w' : World} {g : Nat} {ls : List EntT} (h : CellsG w g ls) (hk : Kept [] w w') : CellsG w' g ls := by
  have hb := hk.block g h.1 (by simp)
  exact ⟨Nat.lt_of_lt_of_le h.1 hk.size, fun i hi => by
    obtain ⟨h1, h2, h3, h4⟩ := h.2 i hi
    exact ⟨(World.cell?_of_block hb).trans h1, (World.cell?_of_block hb).trans h2, (World.cell?_of_block hb).trans h3, (World.cell?_of_block hb).trans h4⟩⟩
def cmpG (x t : Int) : Int := if x < t then -1 else if t < x then 1 else 0
set_option maxHeartbeats 1000000 in
theorem compareI_any (x y : Int) (w : World) : Calls Try.prog 43 #[.int .u64 x, .int .u64 y] w fun e w' => e = .returned (.int .i64 (cmpG x y)) ∧ Kept [] w w' := by
  unfold cmpG
  rcases Int.lt_trichotomy x y with h | h | h
  · rw [if_pos h]
    go_enter Try.func43, Try.ntmps43
    go_wp2
    go_ret
    exact ⟨rfl, by (repeat' (first | (with_reducible exact Kept.refl _ _) | (with_reducible assumption) | (with_reducible refine Kept.then_ (by with_reducible assumption) ?_) | (with_reducible refine Kept.thenS (by with_reducible assumption) ?_) | (with_reducible refine Kept.alloc ?_ _) | (with_reducible refine Kept.drew ?_) | (with_reducible refine Kept.drewN ?_ _) | (with_reducible refine Kept.setNew ?_ ?_ _) | ((try simp only [World.size_alloc, World.size_setCell, World.size_drew, size_drewN] at *); (try dsimp only); omega)))⟩
  · subst h
    rw [if_neg (by omega), if_neg (by omega)]
    go_enter Try.func43, Try.ntmps43
    go_wp2
    go_ret
    exact ⟨rfl, by (repeat' (first | (with_reducible exact Kept.refl _ _) | (with_reducible assumption) | (with_reducible refine Kept.then_ (by with_reducible assumption) ?_) | (with_reducible refine Kept.thenS (by with_reducible assumption) ?_) | (with_reducible refine Kept.alloc ?_ _) | (with_reducible refine Kept.drew ?_) | (with_reducible refine Kept.drewN ?_ _) | (with_reducible refine Kept.setNew ?_ ?_ _) | ((try simp only [World.size_alloc, World.size_setCell, World.size_drew, size_drewN] at *); (try dsimp only); omega)))⟩
  · rw [if_neg (by omega), if_pos h]
    go_enter Try.func43, Try.ntmps43
    go_wp2
    go_ret
    exact ⟨rfl, by (repeat' (first | (with_reducible exact Kept.refl _ _) | (with_reducible assumption) | (with_reducible refine Kept.then_ (by with_reducible assumption) ?_) | (with_reducible refine Kept.thenS (by with_reducible assumption) ?_) | (with_reducible refine Kept.alloc ?_ _) | (with_reducible refine Kept.drew ?_) | (with_reducible refine Kept.drewN ?_ _) | (with_reducible refine Kept.setNew ?_ ?_ _) | ((try simp only [World.size_alloc, World.size_setCell, World.size_drew, size_drewN] at *); (try dsimp only); omega)))⟩
set_option maxHeartbeats 1000000 in
theorem find1_any (a n l : Int) (h : Bool) (t : Int) (w : World) : Calls Try.prog 42 #[.agg #[.int .u64 a, .int .u64 n, .int .u64 l, .bool h], .int .u64 t] w fun e w' => e = .returned (.int .i64 (cmpG a t)) ∧ Kept [] w w' := by
  have DC := Lib.hid (compareI_any a t)
  generalize cmpG a t = r at DC
  go_enter Try.func42, Try.ntmps42
  go_wp2_with fail
  (with_reducible refine (DC.out _).mono ?_)
  rintro e w1 ⟨rfl, hb1⟩
  go_wp2_with fail
  go_ret
  exact ⟨rfl, by (repeat' (first | (with_reducible exact Kept.refl _ _) | (with_reducible assumption) | (with_reducible refine Kept.then_ (by with_reducible assumption) ?_) | (with_reducible refine Kept.thenS (by with_reducible assumption) ?_) | (with_reducible refine Kept.alloc ?_ _) | (with_reducible refine Kept.drew ?_) | (with_reducible refine Kept.drewN ?_ _) | (with_reducible refine Kept.setNew ?_ ?_ _) | ((try simp only [World.size_alloc, World.size_setCell, World.size_drew, size_drewN] at *); (try dsimp only); omega)))⟩
theorem eg_find1 (args : Array Value) (w : World) : (callFunc 42 args).run Try.prog w = .ok (.enter 42 args) w := enters_of Try.func42 (by kernel_rfl) rfl args w
/-- k is where t stands, or would stand. -/
def AtG (ls : List EntT) (t : Int) (k : Nat) : Prop := k ≤ ls.length ∧ (∀ j : Nat, j < k → (re ls j).1 < t) ∧ ∀ j : Nat, k ≤ j → j < ls.length → t ≤ (re ls j).1
set_option maxRecDepth 100000 in
set_option maxHeartbeats 4000000 in
theorem search_any (g cap : Nat) (ls : List EntT) (t : Int) (w : World) (hc : CellsG w g ls) (hn : ls.length ≤ 1000000) (k : Nat) (hk : AtG ls t k) :
    Calls Try.prog 41 #[.slice (some ⟨g, 0, none⟩) ls.length cap, .int .u64 t, .func (.func 42) #[] #[]] w fun e w' => e = .returned (.tuple #[.int .i64 k, .bool (decide (k < ls.length) && decide ((re ls k).1 = t))]) ∧ Kept [] w w' := by
  have HC := Lib.hid hc
  have HK := Lib.hid hk
  have hkl := hk.1
  have heg := eg_find1
  obtain ⟨b, hb⟩ : ∃ b, (decide (k < ls.length) && decide ((re ls k).1 = t)) = b := ⟨_, rfl⟩
  rw [hb]
  have HB := Lib.hid hb
  clear hc hk hb
  go_enter Try.func41, Try.ntmps41
  go_wp2_with fail
  go_loopw [9, 10] (fun v9 v10 wr => ∃ i j : Nat, v9 = .int .i64 i ∧ v10 = .int .i64 j ∧ i ≤ k ∧ k ≤ j ∧ j ≤ ls.length ∧ Hid (Kept [] w wr)) (fun v9 v10 _ => (intOf v10).toNat - (intOf v9).toNat)
  case atStart => exact ⟨0, ls.length, rfl, rfl, Nat.zero_le _, hkl, Nat.le_refl _, Lib.hid (Kept.refl _ _)⟩
  case round =>
    obtain ⟨i, j, rfl, rfl, hik, hkj, hjl, hkw⟩ := hrel
    by_cases hij : i < j
    · obtain ⟨h, hh⟩ : ∃ h, (i + j) / 2 = h := ⟨_, rfl⟩
      have hil : i ≤ h ∧ h < j := by omega
      obtain ⟨c0, c1, c2, c3⟩ := (HC.out.keep hkw.out).2 h (by omega)
      have hgl := (HC.out.keep hkw.out).1
      have HLO : Hid (h < k → (re ls h).1 < t) := Lib.hid (fun e => HK.out.2.1 h e)
      have HHI : Hid (k ≤ h → t ≤ (re ls h).1) := Lib.hid (fun e => HK.out.2.2 h e (by omega))
      generalize re ls h = q at c0 c1 c2 c3 HLO HHI
      obtain ⟨a, n, l, h9⟩ := q
      dsimp only at c0 c1 c2 c3 HLO HHI
      have DF := Lib.hid (find1_any a n l h9 t)
      rw [← hh] at c0 c1 c2 c3
      have HH := Lib.hid hh
      clear hh
      by_cases hlt : a < t
      · have hkh : h < k := by
          rcases Nat.lt_or_ge h k with e | e
          · exact e
          · have := HHI.out e; omega
        have e1 : cmpG a t = -1 := by unfold cmpG; rw [if_pos hlt]
        rw [e1] at DF
        clear e1 HLO HHI
        go_wp2_with fail
        (with_reducible refine (DF.out _).mono ?_)
        rintro e w1 ⟨rfl, hb1⟩
        have K1 := Lib.hid (hb1.then_ hkw.out)
        clear hb1
        go_wp2_with fail
        go_roundw
        case rel => exact ⟨h + 1, j, by rw [← HH.out]; go_num, rfl, by omega, by omega, by omega, K1⟩
        case measure => simp [intOf]; omega
      · have hkh : k ≤ h := by
          rcases Nat.lt_or_ge h k with e | e
          · have := HLO.out e; omega
          · exact e
        have e1 : ∃ v, cmpG a t = v ∧ 0 ≤ v ∧ v ≤ 1 := ⟨_, rfl, by unfold cmpG; rw [if_neg hlt]; split <;> omega⟩
        obtain ⟨v, e1, hv⟩ := e1
        rw [e1] at DF
        clear e1 HLO HHI
        go_wp2_with fail
        (with_reducible refine (DF.out _).mono ?_)
        rintro e w1 ⟨rfl, hb1⟩
        have K1 := Lib.hid (hb1.then_ hkw.out)
        clear hb1
        go_wp2_with fail
        go_roundw
        case rel => exact ⟨i, h, rfl, by rw [← HH.out]; go_num, by omega, by omega, by omega, K1⟩
        case measure => simp [intOf]; omega
    · obtain rfl : i = k := by omega
      obtain rfl : i = j := by omega
      by_cases hlt : i < ls.length
      · obtain ⟨c0, c1, c2, c3⟩ := (HC.out.keep hkw.out).2 i hlt
        have hgl := (HC.out.keep hkw.out).1
        have HHI : Hid (t ≤ (re ls i).1) := Lib.hid (HK.out.2.2 i (Nat.le_refl _) hlt)
        have HB2 : Hid (decide ((re ls i).1 = t) = b) := Lib.hid (by have := HB.out; rwa [decide_eq_true hlt, Bool.true_and] at this)
        clear HB
        generalize re ls i = q at c0 c1 c2 c3 HHI HB2
        obtain ⟨a, n, l, h9⟩ := q
        dsimp only at c0 c1 c2 c3 HHI HB2
        have DF := Lib.hid (find1_any a n l h9 t)
        by_cases he : a = t
        · subst he
          have he : a = a := rfl
          have e1 : cmpG a a = 0 := by unfold cmpG; rw [if_neg (by omega), if_neg (by omega)]
          rw [e1] at DF
          obtain rfl : true = b := by rw [← HB2.out, decide_eq_true he]
          clear e1 HHI he
          go_wp2_with fail
          (with_reducible refine (DF.out _).mono ?_)
          rintro e w1 ⟨rfl, hb1⟩
          have K1 := Lib.hid (hb1.then_ hkw.out)
          clear hb1
          go_wp2_with fail
          go_ret2
          exact ⟨rfl, K1.out⟩
        · have e1 : cmpG a t = 1 := by have := HHI.out; unfold cmpG; rw [if_neg (by omega), if_pos (by omega)]
          rw [e1] at DF
          obtain rfl : false = b := by rw [← HB2.out, decide_eq_false he]
          clear e1 HHI
          go_wp2_with fail
          (with_reducible refine (DF.out _).mono ?_)
          rintro e w1 ⟨rfl, hb1⟩
          have K1 := Lib.hid (hb1.then_ hkw.out)
          clear hb1
          go_wp2_with fail
          go_ret2
          exact ⟨rfl, K1.out⟩
      · obtain rfl : false = b := by rw [← HB.out, decide_eq_false hlt, Bool.false_and]
        go_wp2_with fail
        go_ret2
        exact ⟨rfl, hkw.out⟩
end Go.Proofs.Ytdallcepachhoaa
