/- What a ledger keeps; Free. -/
import Derived.Test.YtdallcepachhoaaLgSt
set_option linter.unusedVariables false
set_option linter.unusedSimpArgs false
namespace Go.Proofs.Ytdallcepachhoaa
open Go.RowKit
/-- Blocks that may be, apart from one another, rising. -/
def LInv (ls : List EntT) : Prop := (∀ e, e ∈ ls → 0 ≤ e.1 ∧ 0 ≤ e.2.1 ∧ May e.1 e.2.1 e.2.2.1) ∧ ls.Pairwise (fun x y => x.1 + mx x.2.1 ≤ y.1)
theorem re_some {ls : List EntT} {j : Nat} (h : j < ls.length) : ls[j]? = some (re ls j) := by unfold re; rw [List.getElem?_eq_getElem h]; rfl
theorem re_mem {ls : List EntT} {j : Nat} (h : j < ls.length) : re ls j ∈ ls := List.mem_of_getElem? (re_some h)
theorem re_ap {ls : List EntT} (h : LInv ls) {i j : Nat} (hij : i < j) (hj : j < ls.length) : (re ls i).1 + mx (re ls i).2.1 ≤ (re ls j).1 := by
  have hi : i < ls.length := by omega
  have hp := h.2
  rw [List.pairwise_iff_getElem] at hp
  have h3 := hp i j hi hj hij
  have e1 := re_some hi
  have e2 := re_some hj
  rw [List.getElem?_eq_getElem hi] at e1
  rw [List.getElem?_eq_getElem hj] at e2
  injection e1 with e1
  injection e2 with e2
  rw [e1, e2] at h3
  exact h3
theorem re_bd {ls : List EntT} (h : LInv ls) {j : Nat} (hj : j < ls.length) : 0 ≤ (re ls j).1 ∧ (re ls j).1 ≤ 1048576 ∧ 0 ≤ (re ls j).2.1 ∧ (re ls j).2.1 ≤ 1048576 ∧ 1 ≤ mx (re ls j).2.1 ∧ (re ls j).1 + mx (re ls j).2.1 ≤ 1048576 := by
  obtain ⟨h1, h2, h3⟩ := h.1 _ (re_mem hj)
  have := mx_pos h2
  exact ⟨h1, h3.2.1, h2, h3.1, this.1, h3.2.2.1⟩
theorem mem_re {ls : List EntT} {e : EntT} (h : e ∈ ls) : ∃ i, i < ls.length ∧ re ls i = e := by
  obtain ⟨i, hi⟩ := List.mem_iff_getElem?.1 h
  have hil := (List.getElem?_eq_some_iff.1 hi).1
  have := re_some hil
  rw [hi] at this
  injection this with this
  exact ⟨i, hil, this.symm⟩
theorem at_ex {ls : List EntT} (h : LInv ls) (t : Int) : ∃ j, AtG ls t j := by
  obtain ⟨h1, h2⟩ := h
  induction ls with
  | nil => exact ⟨0, Nat.le_refl _, fun j hj => by omega, fun j hj hl => by simp at hl⟩
  | cons r l ih =>
    rw [List.pairwise_cons] at h2
    by_cases hr : r.1 < t
    · obtain ⟨j, k1, k2, k3⟩ := ih (fun q hq => h1 q (by simp [hq])) h2.2
      refine ⟨j + 1, by simp; omega, fun i hi => ?_, fun i hi hl => ?_⟩
      · cases i with
        | zero => exact hr
        | succ i => exact k2 i (by omega)
      · cases i with
        | zero => omega
        | succ i => exact k3 i (by omega) (by simpa using hl)
    · refine ⟨0, Nat.zero_le _, fun i hi => by omega, fun i _ hl => ?_⟩
      cases i with
      | zero => show t ≤ r.1; omega
      | succ i =>
        have hl' : i < l.length := by simpa using hl
        have h4 := h2.1 _ (re_mem hl')
        have h5 := h1 r (by simp)
        have := mx_pos h5.2.1
        show t ≤ (re l i).1
        omega
/-- Bytes that meet none. -/
def FreeL (ls : List EntT) (a n : Int) : Prop := n = 0 ∨ (a + (n - 1) ≤ 18446744073709551615 ∧ ∀ e, e ∈ ls → ¬ (e.1 < a + n ∧ a < e.1 + mx e.2.1))
noncomputable instance (ls : List EntT) (a n : Int) : Decidable (FreeL ls a n) := Classical.propDecidable _
theorem free_iff {ls : List EntT} (h : LInv ls) (a n : Int) (k : Nat) (hk : AtG ls a k) (hn : 1 ≤ n) (ho : a + (n - 1) ≤ 18446744073709551615) :
    FreeL ls a n ↔ hitG ls a k = false ∧ (k = 0 ∨ (re ls (k - 1)).1 + mx (re ls (k - 1)).2.1 ≤ a) ∧ (k = ls.length ∨ a + (n - 1) < (re ls k).1) := by
  obtain ⟨k1, k2, k3⟩ := hk
  unfold FreeL
  constructor
  · rintro (h0 | ⟨_, h0⟩)
    · omega
    · have hhit : hitG ls a k = false := by
        unfold hitG
        rw [Bool.and_eq_false_iff, decide_eq_false_iff_not, decide_eq_false_iff_not]
        by_cases hl : k < ls.length
        · refine .inr (fun e => ?_)
          have hb := re_bd h hl
          exact h0 _ (re_mem hl) ⟨by omega, by omega⟩
        · exact .inl hl
      refine ⟨hhit, ?_, ?_⟩
      · rcases Nat.eq_zero_or_pos k with h1 | h1
        · exact .inl h1
        · right
          have hl : k - 1 < ls.length := by omega
          have h2 := k2 (k - 1) (by omega)
          have h3 := h0 _ (re_mem hl)
          omega
      · rcases Nat.lt_or_ge k ls.length with h1 | h1
        · right
          have h2 := k3 k (Nat.le_refl _) h1
          have hb := re_bd h h1
          have h3 := h0 _ (re_mem h1)
          omega
        · left; omega
  · rintro ⟨h1, h2, h3⟩
    refine .inr ⟨ho, fun e he ⟨h4, h5⟩ => ?_⟩
    obtain ⟨i, hi, rfl⟩ := mem_re he
    rcases Nat.lt_or_ge i k with h6 | h6
    · rcases h2 with h2 | h2
      · omega
      · rcases Nat.lt_or_ge i (k - 1) with h7 | h7
        · have h8 := re_ap h h7 (by omega)
          have hb := re_bd h (show k - 1 < ls.length by omega)
          omega
        · rw [show i = k - 1 by omega] at h5
          omega
    · rcases h3 with h3 | h3
      · omega
      · rcases Nat.lt_or_ge k i with h7 | h7
        · have h8 := re_ap h h7 hi
          have hb := re_bd h (show k < ls.length by omega)
          omega
        · rw [show i = k by omega] at h4
          omega
set_option maxRecDepth 100000 in
set_option maxHeartbeats 4000000 in
theorem free_any (S : List Nat) (w : World) (p : Nat) (ls : List EntT) (h : LgS S w p ls) (hi : LInv ls) (hl : ls.length ≤ 1000) (a n : Int) (ha : 0 ≤ a ∧ a ≤ 18446744073709551615) (hn : 0 ≤ n ∧ n ≤ 18446744073709551615) (b : Bool) (hb : decide (FreeL ls a n) = b) :
    Calls Try.prog 13 #[.pointer (some ⟨p, 0, none⟩), .int .u64 a, .int .u64 n] w fun e w' => e = .returned (.bool b) ∧ Kept [] w w' := by
  obtain ⟨k, hk⟩ := at_ex hi a
  have hpl := h.ltp
  by_cases n0 : n = 0
  · obtain rfl : true = b := by rw [← hb]; exact (decide_eq_true (.inl n0)).symm
    subst n0
    clear hb hk h
    go_enter Try.func13, Try.ntmps13
    go_wp2_with fail
    go_ret
    exact ⟨rfl, by (repeat' (first | (with_reducible exact Kept.refl _ _) | (with_reducible assumption) | (with_reducible refine Kept.then_ (by with_reducible assumption) ?_) | (with_reducible refine Kept.thenS (by with_reducible assumption) ?_) | (with_reducible refine Kept.alloc ?_ _) | (with_reducible refine Kept.drew ?_) | (with_reducible refine Kept.drewN ?_ _) | (with_reducible refine Kept.setNew ?_ ?_ _) | ((try simp only [World.size_alloc, World.size_setCell, World.size_drew, size_drewN] at *); (try dsimp only); omega)))⟩
  · have n1 : 1 ≤ n := by omega
    have nb : (n == 0) = false := by rw [beq_eq_false_iff_ne]; exact n0
    have np : decide (0 < n) = true := by simp; omega
    by_cases ho : a + (n - 1) ≤ 18446744073709551615
    · have hfi := free_iff hi a n k hk n1 ho
      have hkl := hk.1
      have oo : decide (a + (n - 1) < a) = false := by simp; omega
      have DP := Lib.hid (fun w' (h' : LgS S w' p ls) => place_any S w' p ls h' a (by omega) k hk _ rfl)
      have HS : Hid (∀ w', Kept [] w w' → LgS S w' p ls) := Lib.hid (fun w' hk => h.keep0 hk)
      cases hh : hitG ls a k with
      | true =>
        rw [hh] at DP hfi
        obtain rfl : false = b := by rw [← hb]; exact (decide_eq_false (fun hf => by have := (hfi.1 hf).1; cases this)).symm
        have HP := Lib.hid (DP.out w h)
        clear hb hfi hh hk h DP
        go_enter Try.func13, Try.ntmps13
        go_wp2_with fail
        (with_reducible refine HP.out.mono ?_)
        rintro e w1 ⟨rfl, hb1⟩
        go_wp2_with fail
        go_ret
        exact ⟨rfl, by (repeat' (first | (with_reducible exact Kept.refl _ _) | (with_reducible assumption) | (with_reducible refine Kept.then_ (by with_reducible assumption) ?_) | (with_reducible refine Kept.thenS (by with_reducible assumption) ?_) | (with_reducible refine Kept.alloc ?_ _) | (with_reducible refine Kept.drew ?_) | (with_reducible refine Kept.drewN ?_ _) | (with_reducible refine Kept.setNew ?_ ?_ _) | ((try simp only [World.size_alloc, World.size_setCell, World.size_drew, size_drewN] at *); (try dsimp only); omega)))⟩
      | false =>
        rw [hh] at DP hfi
        have HP := Lib.hid (DP.out w h)
        have HL : Hid (∀ w', Kept [] w w' → ∃ A c, w'.cell? ⟨p, 0, none⟩ = some (.slice A ls.length c)) := Lib.hid (fun w' hk => (h.keep0 hk).len)
        have HE : Hid (∀ w', Kept [] w w' → ∀ j, j < ls.length → ∃ g c, w'.cell? ⟨p, 0, none⟩ = some (.slice (some ⟨g, 0, none⟩) ls.length c) ∧ CellsG w' g ls) := Lib.hid (fun w' hk j hj => by
          obtain ⟨g, c, h1, _, _, _, h2⟩ := (h.keep0 hk).ent j hj
          exact ⟨g, c, h1, h2⟩)
        have BD : Hid (∀ j, j < ls.length → 0 ≤ (re ls j).1 ∧ (re ls j).1 ≤ 1048576 ∧ 0 ≤ (re ls j).2.1 ∧ (re ls j).2.1 ≤ 1048576 ∧ 1 ≤ mx (re ls j).2.1 ∧ (re ls j).1 + mx (re ls j).2.1 ≤ 1048576) := Lib.hid (fun j hj => re_bd hi hj)
        have HF := Lib.hid hfi
        clear hfi hh hk h DP
        -- the one ahead
        have ahead : ∀ {PQ : Prop}, (k = 0 → PQ) → (∀ q, k = q + 1 → PQ) → PQ := fun h1 h2 => by
          cases k with
          | zero => exact h1 rfl
          | succ q => exact h2 q rfl
        refine ahead (fun k0 => ?_) (fun q kq => ?_)
        · subst k0
          clear ahead
          rcases Nat.lt_or_ge 0 ls.length with hlt | hge
          · obtain ⟨g, c, c0, hc⟩ := HE.out w (Kept.refl _ _) 0 hlt
            have HBr : Hid (decide (a + (n - 1) < (re ls 0).1) = b) := Lib.hid (by
              rw [← hb, decide_eq_decide, HF.out]
              constructor
              · exact fun h => ⟨rfl, .inl rfl, .inr h⟩
              · rintro ⟨_, _, h | h⟩
                · omega
                · exact h)
            have bd := BD.out 0 hlt
            have l0 : (0 : Int) < (ls.length : Int) := by omega
            have l1 : ¬ (0 = ls.length) := by omega
            have l2 : ((0 : Int) == (ls.length : Int)) = false := by rw [beq_eq_false_iff_ne]; omega
            clear hb HF BD
            go_enter Try.func13, Try.ntmps13
            go_wp2_with fail
            (with_reducible refine HP.out.mono ?_)
            rintro e w1 ⟨rfl, hb1⟩
            obtain ⟨g1, c1, d0, hc1⟩ := HE.out w1 hb1 0 hlt
            obtain ⟨x0, _, _, _⟩ := hc1.2 0 hlt
            have hg1 := hc1.1
            have hs1 := hb1.size
            clear hc hc1 c0
            generalize re ls 0 = r at *
            obtain ⟨ra, rn, rl, rh⟩ := r
            simp only [Nat.zero_mul, Nat.zero_add] at x0
            dsimp only at x0 bd HBr
            go_wp2_with fail
            go_ret
            exact ⟨ret_bool HBr.out, by (repeat' (first | (with_reducible exact Kept.refl _ _) | (with_reducible assumption) | (with_reducible refine Kept.then_ (by with_reducible assumption) ?_) | (with_reducible refine Kept.thenS (by with_reducible assumption) ?_) | (with_reducible refine Kept.alloc ?_ _) | (with_reducible refine Kept.drew ?_) | (with_reducible refine Kept.drewN ?_ _) | (with_reducible refine Kept.setNew ?_ ?_ _) | ((try simp only [World.size_alloc, World.size_setCell, World.size_drew, size_drewN] at *); (try dsimp only); omega)))⟩
          · have l0 : ls.length = 0 := by omega
            obtain rfl : true = b := by rw [← hb]; exact (decide_eq_true (HF.out.2 ⟨rfl, .inl rfl, .inl l0.symm⟩)).symm
            clear hb HF BD
            go_enter Try.func13, Try.ntmps13
            go_wp2_with fail
            (with_reducible refine HP.out.mono ?_)
            rintro e w1 ⟨rfl, hb1⟩
            obtain ⟨A1, c1, d0⟩ := HL.out w1 hb1
            rw [l0] at d0
            have hs1 := hb1.size
            go_wp2_with fail
            go_ret
            exact ⟨rfl, by (repeat' (first | (with_reducible exact Kept.refl _ _) | (with_reducible assumption) | (with_reducible refine Kept.then_ (by with_reducible assumption) ?_) | (with_reducible refine Kept.thenS (by with_reducible assumption) ?_) | (with_reducible refine Kept.alloc ?_ _) | (with_reducible refine Kept.drew ?_) | (with_reducible refine Kept.drewN ?_ _) | (with_reducible refine Kept.setNew ?_ ?_ _) | ((try simp only [World.size_alloc, World.size_setCell, World.size_drew, size_drewN] at *); (try dsimp only); omega)))⟩
        · subst kq
          clear ahead
          have hql : q < ls.length := by omega
          have bq := BD.out q hql
          have DE := Lib.hid (fun w => end_any (re ls q).1 (re ls q).2.1 (re ls q).2.2.1 (re ls q).2.2.2 w ⟨bq.1, bq.2.1⟩ ⟨bq.2.2.1, bq.2.2.2.1⟩ _ rfl)
          have kk1 : ((q + 1 : Nat) : Int) = (q : Int) + 1 := by omega
          rw [kk1] at HP
          have q5 : IntKind.i64.wrap ((q : Int) + 1 - 1) = (q : Int) := by rw [IntKind.wrap_i64]; omega
          have q6 : (q : Int) + 1 - 1 = (q : Int) := by omega
          have q7 : (0 : Int) ≤ (q : Int) := by omega
          have q8 : (q : Int) < (ls.length : Int) := by omega
          have q9 : decide ((0 : Int) < (q : Int) + 1) = true := decide_eq_true (by omega)
          by_cases he : a < (re ls q).1 + mx (re ls q).2.1
          · obtain rfl : false = b := by
              rw [← hb]
              refine (decide_eq_false (fun hf => ?_)).symm
              have := (HF.out.1 hf).2.1
              simp only [Nat.add_sub_cancel] at this
              omega
            have e1 : decide (a < (re ls q).1 + mx (re ls q).2.1) = true := by simp; omega
            clear hb HF BD
            go_enter Try.func13, Try.ntmps13
            go_wp2_with fail
            (with_reducible refine HP.out.mono ?_)
            rintro e w1 ⟨rfl, hb1⟩
            obtain ⟨g1, c1, d0, hc1⟩ := HE.out w1 hb1 q hql
            obtain ⟨x0, x1, x2, x3⟩ := hc1.2 q hql
            have hg1 := hc1.1
            have hs1 := hb1.size
            clear hc1
            generalize (re ls q).1 + mx (re ls q).2.1 = en at *
            go_wp2_with fail
            (with_reducible refine (DE.out _).mono ?_)
            rintro e w2 ⟨rfl, hb2⟩
            go_wp2_with fail
            go_ret
            exact ⟨rfl, by (repeat' (first | (with_reducible exact Kept.refl _ _) | (with_reducible assumption) | (with_reducible refine Kept.then_ (by with_reducible assumption) ?_) | (with_reducible refine Kept.thenS (by with_reducible assumption) ?_) | (with_reducible refine Kept.alloc ?_ _) | (with_reducible refine Kept.drew ?_) | (with_reducible refine Kept.drewN ?_ _) | (with_reducible refine Kept.setNew ?_ ?_ _) | ((try simp only [World.size_alloc, World.size_setCell, World.size_drew, size_drewN] at *); (try dsimp only); omega)))⟩
          · have e1 : decide (a < (re ls q).1 + mx (re ls q).2.1) = false := by simp; omega
            have hle : (re ls q).1 + mx (re ls q).2.1 ≤ a := by omega
            rcases Nat.lt_or_ge (q + 1) ls.length with hlt | hge
            · have HBr : Hid (decide (a + (n - 1) < (re ls (q + 1)).1) = b) := Lib.hid (by
                rw [← hb, decide_eq_decide, HF.out]
                constructor
                · exact fun h => ⟨rfl, .inr (by simpa using hle), .inr h⟩
                · rintro ⟨_, _, h | h⟩
                  · omega
                  · exact h)
              have bd := BD.out (q + 1) hlt
              have l0 : (q : Int) + 1 < (ls.length : Int) := by omega
              have l2 : ((q : Int) + 1 == (ls.length : Int)) = false := by rw [beq_eq_false_iff_ne]; omega
              have l3 : (0 : Int) ≤ (q : Int) + 1 := by omega
              have l4 : ((q : Int) + 1).toNat = q + 1 := by omega
              clear hb HF BD hle he
              go_enter Try.func13, Try.ntmps13
              go_wp2_with fail
              (with_reducible refine HP.out.mono ?_)
              rintro e w1 ⟨rfl, hb1⟩
              obtain ⟨g1, c1, d0, hc1⟩ := HE.out w1 hb1 q hql
              obtain ⟨x0, x1, x2, x3⟩ := hc1.2 q hql
              have hg1 := hc1.1
              have hs1 := hb1.size
              clear hc1
              generalize (re ls q).1 + mx (re ls q).2.1 = en at *
              go_wp2_with fail
              (with_reducible refine (DE.out _).mono ?_)
              rintro e w2 ⟨rfl, hb2⟩
              obtain ⟨g2, c2, y0, hc2⟩ := HE.out w2 (hb2.then_ hb1) q hql
              obtain ⟨z0, _, _, _⟩ := hc2.2 (q + 1) hlt
              have hg2 := hc2.1
              have hs2 := hb2.size
              clear hc2
              generalize re ls (q + 1) = r at *
              obtain ⟨ra, rn, rl, rh⟩ := r
              dsimp only at z0 bd HBr
              go_wp2_with fail
              go_ret
              exact ⟨ret_bool HBr.out, by (repeat' (first | (with_reducible exact Kept.refl _ _) | (with_reducible assumption) | (with_reducible refine Kept.then_ (by with_reducible assumption) ?_) | (with_reducible refine Kept.thenS (by with_reducible assumption) ?_) | (with_reducible refine Kept.alloc ?_ _) | (with_reducible refine Kept.drew ?_) | (with_reducible refine Kept.drewN ?_ _) | (with_reducible refine Kept.setNew ?_ ?_ _) | ((try simp only [World.size_alloc, World.size_setCell, World.size_drew, size_drewN] at *); (try dsimp only); omega)))⟩
            · have l0 : ls.length = q + 1 := by omega
              obtain rfl : true = b := by rw [← hb]; exact (decide_eq_true (HF.out.2 ⟨rfl, .inr (by simpa using hle), .inl l0.symm⟩)).symm
              have l2 : ((q : Int) + 1 == (ls.length : Int)) = true := by rw [beq_iff_eq]; omega
              clear hb HF BD hle he
              go_enter Try.func13, Try.ntmps13
              go_wp2_with fail
              (with_reducible refine HP.out.mono ?_)
              rintro e w1 ⟨rfl, hb1⟩
              obtain ⟨g1, c1, d0, hc1⟩ := HE.out w1 hb1 q hql
              obtain ⟨x0, x1, x2, x3⟩ := hc1.2 q hql
              have hg1 := hc1.1
              have hs1 := hb1.size
              clear hc1
              generalize (re ls q).1 + mx (re ls q).2.1 = en at *
              go_wp2_with fail
              (with_reducible refine (DE.out _).mono ?_)
              rintro e w2 ⟨rfl, hb2⟩
              obtain ⟨g2, c2, y0, hc2⟩ := HE.out w2 (hb2.then_ hb1) q hql
              have hs2 := hb2.size
              clear hc2
              go_wp2_with fail
              go_ret
              exact ⟨rfl, by (repeat' (first | (with_reducible exact Kept.refl _ _) | (with_reducible assumption) | (with_reducible refine Kept.then_ (by with_reducible assumption) ?_) | (with_reducible refine Kept.thenS (by with_reducible assumption) ?_) | (with_reducible refine Kept.alloc ?_ _) | (with_reducible refine Kept.drew ?_) | (with_reducible refine Kept.drewN ?_ _) | (with_reducible refine Kept.setNew ?_ ?_ _) | ((try simp only [World.size_alloc, World.size_setCell, World.size_drew, size_drewN] at *); (try dsimp only); omega)))⟩
    · obtain rfl : false = b := by
        rw [← hb]
        exact (decide_eq_false (fun hf => by rcases hf with h | h <;> omega)).symm
      obtain ⟨r, hr⟩ : ∃ r, a + (n - 1) - 18446744073709551616 = r := ⟨_, rfl⟩
      have ow : IntKind.u64.wrap (a + (n - 1)) = r := by rw [IntKind.wrap_u64]; omega
      have oo : decide (r < a) = true := by simp; omega
      clear hb hk h hr
      go_enter Try.func13, Try.ntmps13
      go_wp2_with fail
      go_ret
      exact ⟨rfl, by (repeat' (first | (with_reducible exact Kept.refl _ _) | (with_reducible assumption) | (with_reducible refine Kept.then_ (by with_reducible assumption) ?_) | (with_reducible refine Kept.thenS (by with_reducible assumption) ?_) | (with_reducible refine Kept.alloc ?_ _) | (with_reducible refine Kept.drew ?_) | (with_reducible refine Kept.drewN ?_ _) | (with_reducible refine Kept.setNew ?_ ?_ _) | ((try simp only [World.size_alloc, World.size_setCell, World.size_drew, size_drewN] at *); (try dsimp only); omega)))⟩
end Go.Proofs.Ytdallcepachhoaa
