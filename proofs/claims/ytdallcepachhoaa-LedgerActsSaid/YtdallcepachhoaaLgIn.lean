/- In: the block that an address is in. -/
import Derived.Test.YtdallcepachhoaaLgX
set_option linter.unusedVariables false
set_option linter.unusedSimpArgs false
namespace Go.Proofs.Ytdallcepachhoaa
open Go.RowKit
/-- Entry i takes z. -/
def Takes (ls : List EntT) (z : Int) (i : Nat) : Prop := i < ls.length ∧ (re ls i).1 ≤ z ∧ z < (re ls i).1 + mx (re ls i).2.1
theorem takes_hit {ls : List EntT} (hi : LInv ls) {z : Int} {k : Nat} (hk : AtG ls z k) (hh : hitG ls z k = true) : k < ls.length ∧ (re ls k).1 = z := by
  unfold hitG at hh
  rw [Bool.and_eq_true, decide_eq_true_eq, decide_eq_true_eq] at hh
  exact hh
theorem takes_one {ls : List EntT} (hi : LInv ls) {z : Int} {i j : Nat} (h : Takes ls z i) (h' : Takes ls z j) : i = j := by
  obtain ⟨h1, h2, h3⟩ := h
  obtain ⟨k1, k2, k3⟩ := h'
  rcases Nat.lt_trichotomy i j with h | h | h
  · have := re_ap hi h k1; omega
  · exact h
  · have := re_ap hi h h1; omega
theorem takes_at {ls : List EntT} (hi : LInv ls) {z : Int} {k i : Nat} (hk : AtG ls z k) (hh : hitG ls z k = false) (h : Takes ls z i) : k = i + 1 := by
  obtain ⟨h1, h2, h3⟩ := h
  obtain ⟨k1, k2, k3⟩ := hk
  have hik : i < k := by
    rcases Nat.lt_or_ge i k with h | h
    · exact h
    · exfalso
      have h4 := k3 i h h1
      rcases Nat.lt_or_ge k i with h5 | h5
      · have h6 := re_ap hi h5 h1
        have h7 := re_bd hi (show k < ls.length by omega)
        have h8 := k3 k (Nat.le_refl _) (by omega)
        omega
      · obtain rfl : k = i := by omega
        unfold hitG at hh
        rw [Bool.and_eq_false_iff, decide_eq_false_iff_not, decide_eq_false_iff_not] at hh
        rcases hh with hh | hh
        · exact hh h1
        · exact hh (by omega)
  rcases Nat.lt_or_ge (i + 1) k with h4 | h4
  · have h5 := re_ap hi (show i < k - 1 by omega) (by omega)
    have h6 := k2 (k - 1) (by omega)
    omega
  · omega
def InR (ls : List EntT) (z : Int) (r : BlkT × Int) : Prop := (∃ i, Takes ls z i ∧ oneP ls i = r) ∨ ((∀ i, ¬ Takes ls z i) ∧ r = ((0, 0, 0), 5))
theorem inR_ex (ls : List EntT) (z : Int) : ∃ r, InR ls z r := by
  by_cases h : ∃ i, Takes ls z i
  · obtain ⟨i, hi⟩ := h
    exact ⟨_, .inl ⟨i, hi, rfl⟩⟩
  · exact ⟨_, .inr ⟨fun i hi => h ⟨i, hi⟩, rfl⟩⟩
set_option maxRecDepth 100000 in
set_option maxHeartbeats 4000000 in
theorem in_any (S : List Nat) (w : World) (p : Nat) (ls : List EntT) (h : LgS S w p ls) (hi : LInv ls) (hl : ls.length ≤ 1000) (z : Int) (r : BlkT × Int) (hr : InR ls z r) :
    Calls Try.prog 19 #[.pointer (some ⟨p, 0, none⟩), .int .u64 z] w fun e w' => e = .returned (ansB r.1 r.2) ∧ Kept [] w w' := by
  obtain ⟨k, hk⟩ := at_ex hi z
  have hpl := h.ltp
  have HE : Hid (∀ w', Kept [] w w' → ∀ j, j < ls.length → ∃ g c, w'.cell? ⟨p, 0, none⟩ = some (.slice (some ⟨g, 0, none⟩) ls.length c) ∧ CellsG w' g ls) := Lib.hid (fun w' hk j hj => by
    obtain ⟨g, c, h1, _, _, _, h2⟩ := (h.keep0 hk).ent j hj
    exact ⟨g, c, h1, h2⟩)
  cases hh : hitG ls z k with
  | true =>
    obtain ⟨hkl, hz⟩ := takes_hit hi hk hh
    have bq := re_bd hi hkl
    have hr' : oneP ls k = r := by
      rcases hr with ⟨i, ht, h1⟩ | ⟨h1, _⟩
      · rw [takes_one hi (⟨hkl, by omega, by omega⟩ : Takes ls z k) ht]; exact h1
      · exact absurd ⟨hkl, by omega, by omega⟩ (h1 k)
    have DP := Lib.hid (fun w' (hk' : Kept [] w w') => place_any S w' p ls (h.keep0 hk') z (by omega) k hk true hh)
    have D1 := Lib.hid (fun w' (hk' : Kept [] w w') => one_any S w' p ls (h.keep0 hk') k hkl hl r hr')
    have DE := Lib.hid (fun w => end_any (re ls k).1 (re ls k).2.1 (re ls k).2.2.1 (re ls k).2.2.2 w ⟨bq.1, bq.2.1⟩ ⟨bq.2.2.1, bq.2.2.2.1⟩ _ rfl)
    have e1 : decide ((re ls k).1 + mx (re ls k).2.1 ≤ z) = false := by simp; omega
    clear h hk hh hi hr hr' hz bq
    obtain ⟨⟨ra, rn, rl⟩, er⟩ := r
    unfold ansB at D1
    dsimp only at D1
    go_enter Try.func19, Try.ntmps19
    go_wp2_with fail
    (with_reducible refine (DP.out _ (by (repeat' (first | (with_reducible exact Kept.refl _ _) | (with_reducible assumption) | (with_reducible refine Kept.then_ (by with_reducible assumption) ?_) | (with_reducible refine Kept.thenS (by with_reducible assumption) ?_) | (with_reducible refine Kept.alloc ?_ _) | (with_reducible refine Kept.drew ?_) | (with_reducible refine Kept.drewN ?_ _) | (with_reducible refine Kept.setNew ?_ ?_ _) | ((try simp only [World.size_alloc, World.size_setCell, World.size_drew, size_drewN] at *); (try dsimp only); omega))))).mono ?_)
    rintro e w1 ⟨rfl, hb1⟩
    have B1 := (Blk.new w 33 _).keep0 hb1
    obtain ⟨g1, c1, d0, hc1⟩ := HE.out w1 (by (repeat' (first | (with_reducible exact Kept.refl _ _) | (with_reducible assumption) | (with_reducible refine Kept.then_ (by with_reducible assumption) ?_) | (with_reducible refine Kept.thenS (by with_reducible assumption) ?_) | (with_reducible refine Kept.alloc ?_ _) | (with_reducible refine Kept.drew ?_) | (with_reducible refine Kept.drewN ?_ _) | (with_reducible refine Kept.setNew ?_ ?_ _) | ((try simp only [World.size_alloc, World.size_setCell, World.size_drew, size_drewN] at *); (try dsimp only); omega)))) k hkl
    obtain ⟨x0, x1, x2, x3⟩ := hc1.2 k hkl
    have hg1 := hc1.1
    have hs1 := hb1.size
    clear hc1
    generalize (re ls k).1 + mx (re ls k).2.1 = en at *
    go_wp2_with fail
    (with_reducible refine (DE.out _).mono ?_)
    rintro e w2 ⟨rfl, hb2⟩
    have B2 := B1.keep0 hb2
    go_wp2_with fail
    (with_reducible refine (D1.out _ (by (repeat' (first | (with_reducible exact Kept.refl _ _) | (with_reducible assumption) | (with_reducible refine Kept.then_ (by with_reducible assumption) ?_) | (with_reducible refine Kept.thenS (by with_reducible assumption) ?_) | (with_reducible refine Kept.alloc ?_ _) | (with_reducible refine Kept.drew ?_) | (with_reducible refine Kept.drewN ?_ _) | (with_reducible refine Kept.setNew ?_ ?_ _) | ((try simp only [World.size_alloc, World.size_setCell, World.size_drew, size_drewN] at *); (try dsimp only); omega))))).mono ?_)
    rintro e w3 ⟨rfl, hb3⟩
    have B3 := B2.keep0 hb3
    have B3c := B3.cell
    have B3f := B3.frozen
    have B3l := B3.lt
    go_wp2_with fail
    refine bodyPost_ret (v := ansB (ra, rn, rl) er) (by simp [results, Try.results19, go_sem, ansB, B3l, B3c]) rfl ⟨rfl, by (repeat' (first | (with_reducible exact Kept.refl _ _) | (with_reducible assumption) | (with_reducible refine Kept.then_ (by with_reducible assumption) ?_) | (with_reducible refine Kept.thenS (by with_reducible assumption) ?_) | (with_reducible refine Kept.alloc ?_ _) | (with_reducible refine Kept.drew ?_) | (with_reducible refine Kept.drewN ?_ _) | (with_reducible refine Kept.setNew ?_ ?_ _) | ((try simp only [World.size_alloc, World.size_setCell, World.size_drew, size_drewN] at *); (try dsimp only); omega)))⟩
  | false =>
    have DP := Lib.hid (fun w' (hk' : Kept [] w w') => place_any S w' p ls (h.keep0 hk') z (by omega) k hk false hh)
    have ahead : ∀ {PQ : Prop}, (k = 0 → PQ) → (∀ q, k = q + 1 → PQ) → PQ := fun h1 h2 => by
      cases k with
      | zero => exact h1 rfl
      | succ q => exact h2 q rfl
    refine ahead (fun k0 => ?_) (fun q kq => ?_)
    · subst k0
      clear ahead
      obtain rfl : r = ((0, 0, 0), 5) := by
        rcases hr with ⟨i, ht, h1⟩ | ⟨_, h1⟩
        · have := takes_at hi hk hh ht; omega
        · exact h1
      clear h hk hh hi hr
      go_enter Try.func19, Try.ntmps19
      go_wp2_with fail
      (with_reducible refine (DP.out _ (by (repeat' (first | (with_reducible exact Kept.refl _ _) | (with_reducible assumption) | (with_reducible refine Kept.then_ (by with_reducible assumption) ?_) | (with_reducible refine Kept.thenS (by with_reducible assumption) ?_) | (with_reducible refine Kept.alloc ?_ _) | (with_reducible refine Kept.drew ?_) | (with_reducible refine Kept.drewN ?_ _) | (with_reducible refine Kept.setNew ?_ ?_ _) | ((try simp only [World.size_alloc, World.size_setCell, World.size_drew, size_drewN] at *); (try dsimp only); omega))))).mono ?_)
      rintro e w1 ⟨rfl, hb1⟩
      have B1 := (Blk.new w 33 _).keep0 hb1
      have B1c := B1.cell
      have B1f := B1.frozen
      have B1l := B1.lt
      go_wp2_with fail
      refine bodyPost_ret (v := ansB (0, 0, 0) 5) (by simp [results, Try.results19, go_sem, ansB, B1l, B1c]) rfl ⟨rfl, by (repeat' (first | (with_reducible exact Kept.refl _ _) | (with_reducible assumption) | (with_reducible refine Kept.then_ (by with_reducible assumption) ?_) | (with_reducible refine Kept.thenS (by with_reducible assumption) ?_) | (with_reducible refine Kept.alloc ?_ _) | (with_reducible refine Kept.drew ?_) | (with_reducible refine Kept.drewN ?_ _) | (with_reducible refine Kept.setNew ?_ ?_ _) | ((try simp only [World.size_alloc, World.size_setCell, World.size_drew, size_drewN] at *); (try dsimp only); omega)))⟩
    · subst kq
      clear ahead
      have hql : q < ls.length := by have := hk.1; omega
      have bq := re_bd hi hql
      have hlt := hk.2.1 q (by omega)
      have DE := Lib.hid (fun w => end_any (re ls q).1 (re ls q).2.1 (re ls q).2.2.1 (re ls q).2.2.2 w ⟨bq.1, bq.2.1⟩ ⟨bq.2.2.1, bq.2.2.2.1⟩ _ rfl)
      have kk1 : ((q + 1 : Nat) : Int) = (q : Int) + 1 := by omega
      rw [kk1] at DP
      have q5 : IntKind.i64.wrap ((q : Int) + 1 - 1) = (q : Int) := by rw [IntKind.wrap_i64]; omega
      have q6 : (q : Int) + 1 - 1 = (q : Int) := by omega
      have q7 : (0 : Int) ≤ (q : Int) := by omega
      have q8 : (q : Int) < (ls.length : Int) := by omega
      by_cases he : z < (re ls q).1 + mx (re ls q).2.1
      · have hr' : oneP ls q = r := by
          rcases hr with ⟨i, ht, h1⟩ | ⟨h1, _⟩
          · rw [takes_one hi (⟨hql, by omega, by omega⟩ : Takes ls z q) ht]; exact h1
          · exact absurd ⟨hql, by omega, by omega⟩ (h1 q)
        have D1 := Lib.hid (fun w' (hk' : Kept [] w w') => one_any S w' p ls (h.keep0 hk') q hql hl r hr')
        have e1 : decide ((re ls q).1 + mx (re ls q).2.1 ≤ z) = false := by simp; omega
        clear h hk hh hi hr hr' bq
        obtain ⟨⟨ra, rn, rl⟩, er⟩ := r
        unfold ansB at D1
        dsimp only at D1
        go_enter Try.func19, Try.ntmps19
        go_wp2_with fail
        (with_reducible refine (DP.out _ (by (repeat' (first | (with_reducible exact Kept.refl _ _) | (with_reducible assumption) | (with_reducible refine Kept.then_ (by with_reducible assumption) ?_) | (with_reducible refine Kept.thenS (by with_reducible assumption) ?_) | (with_reducible refine Kept.alloc ?_ _) | (with_reducible refine Kept.drew ?_) | (with_reducible refine Kept.drewN ?_ _) | (with_reducible refine Kept.setNew ?_ ?_ _) | ((try simp only [World.size_alloc, World.size_setCell, World.size_drew, size_drewN] at *); (try dsimp only); omega))))).mono ?_)
        rintro e w1 ⟨rfl, hb1⟩
        have B1 := (Blk.new w 33 _).keep0 hb1
        obtain ⟨g1, c1, d0, hc1⟩ := HE.out w1 (by (repeat' (first | (with_reducible exact Kept.refl _ _) | (with_reducible assumption) | (with_reducible refine Kept.then_ (by with_reducible assumption) ?_) | (with_reducible refine Kept.thenS (by with_reducible assumption) ?_) | (with_reducible refine Kept.alloc ?_ _) | (with_reducible refine Kept.drew ?_) | (with_reducible refine Kept.drewN ?_ _) | (with_reducible refine Kept.setNew ?_ ?_ _) | ((try simp only [World.size_alloc, World.size_setCell, World.size_drew, size_drewN] at *); (try dsimp only); omega)))) q hql
        obtain ⟨x0, x1, x2, x3⟩ := hc1.2 q hql
        have hg1 := hc1.1
        have hs1 := hb1.size
        clear hc1
        generalize (re ls q).1 + mx (re ls q).2.1 = en at *
        go_wp2_with fail
        (with_reducible refine (DE.out _).mono ?_)
        rintro e w2 ⟨rfl, hb2⟩
        have B2 := B1.keep0 hb2
        go_wp2_with fail
        (with_reducible refine (D1.out _ (by (repeat' (first | (with_reducible exact Kept.refl _ _) | (with_reducible assumption) | (with_reducible refine Kept.then_ (by with_reducible assumption) ?_) | (with_reducible refine Kept.thenS (by with_reducible assumption) ?_) | (with_reducible refine Kept.alloc ?_ _) | (with_reducible refine Kept.drew ?_) | (with_reducible refine Kept.drewN ?_ _) | (with_reducible refine Kept.setNew ?_ ?_ _) | ((try simp only [World.size_alloc, World.size_setCell, World.size_drew, size_drewN] at *); (try dsimp only); omega))))).mono ?_)
        rintro e w3 ⟨rfl, hb3⟩
        have B3 := B2.keep0 hb3
        have B3c := B3.cell
        have B3f := B3.frozen
        have B3l := B3.lt
        go_wp2_with fail
        refine bodyPost_ret (v := ansB (ra, rn, rl) er) (by simp [results, Try.results19, go_sem, ansB, B3l, B3c]) rfl ⟨rfl, by (repeat' (first | (with_reducible exact Kept.refl _ _) | (with_reducible assumption) | (with_reducible refine Kept.then_ (by with_reducible assumption) ?_) | (with_reducible refine Kept.thenS (by with_reducible assumption) ?_) | (with_reducible refine Kept.alloc ?_ _) | (with_reducible refine Kept.drew ?_) | (with_reducible refine Kept.drewN ?_ _) | (with_reducible refine Kept.setNew ?_ ?_ _) | ((try simp only [World.size_alloc, World.size_setCell, World.size_drew, size_drewN] at *); (try dsimp only); omega)))⟩
      · obtain rfl : r = ((0, 0, 0), 5) := by
          rcases hr with ⟨i, ht, h1⟩ | ⟨_, h1⟩
          · have h5 := takes_at hi hk hh ht
            obtain rfl : q = i := by omega
            exact absurd ht.2.2 he
          · exact h1
        have e1 : decide ((re ls q).1 + mx (re ls q).2.1 ≤ z) = true := by simp; omega
        clear h hk hh hi hr bq
        go_enter Try.func19, Try.ntmps19
        go_wp2_with fail
        (with_reducible refine (DP.out _ (by (repeat' (first | (with_reducible exact Kept.refl _ _) | (with_reducible assumption) | (with_reducible refine Kept.then_ (by with_reducible assumption) ?_) | (with_reducible refine Kept.thenS (by with_reducible assumption) ?_) | (with_reducible refine Kept.alloc ?_ _) | (with_reducible refine Kept.drew ?_) | (with_reducible refine Kept.drewN ?_ _) | (with_reducible refine Kept.setNew ?_ ?_ _) | ((try simp only [World.size_alloc, World.size_setCell, World.size_drew, size_drewN] at *); (try dsimp only); omega))))).mono ?_)
        rintro e w1 ⟨rfl, hb1⟩
        have B1 := (Blk.new w 33 _).keep0 hb1
        obtain ⟨g1, c1, d0, hc1⟩ := HE.out w1 (by (repeat' (first | (with_reducible exact Kept.refl _ _) | (with_reducible assumption) | (with_reducible refine Kept.then_ (by with_reducible assumption) ?_) | (with_reducible refine Kept.thenS (by with_reducible assumption) ?_) | (with_reducible refine Kept.alloc ?_ _) | (with_reducible refine Kept.drew ?_) | (with_reducible refine Kept.drewN ?_ _) | (with_reducible refine Kept.setNew ?_ ?_ _) | ((try simp only [World.size_alloc, World.size_setCell, World.size_drew, size_drewN] at *); (try dsimp only); omega)))) q hql
        obtain ⟨x0, x1, x2, x3⟩ := hc1.2 q hql
        have hg1 := hc1.1
        have hs1 := hb1.size
        clear hc1
        generalize (re ls q).1 + mx (re ls q).2.1 = en at *
        go_wp2_with fail
        (with_reducible refine (DE.out _).mono ?_)
        rintro e w2 ⟨rfl, hb2⟩
        have B2 := B1.keep0 hb2
        have B2c := B2.cell
        have B2f := B2.frozen
        have B2l := B2.lt
        go_wp2_with fail
        refine bodyPost_ret (v := ansB (0, 0, 0) 5) (by simp [results, Try.results19, go_sem, ansB, B2l, B2c]) rfl ⟨rfl, by (repeat' (first | (with_reducible exact Kept.refl _ _) | (with_reducible assumption) | (with_reducible refine Kept.then_ (by with_reducible assumption) ?_) | (with_reducible refine Kept.thenS (by with_reducible assumption) ?_) | (with_reducible refine Kept.alloc ?_ _) | (with_reducible refine Kept.drew ?_) | (with_reducible refine Kept.drewN ?_ _) | (with_reducible refine Kept.setNew ?_ ?_ _) | ((try simp only [World.size_alloc, World.size_setCell, World.size_drew, size_drewN] at *); (try dsimp only); omega)))⟩
theorem x_in {W w : World} {X : List Nat} {p : Nat} {ls : List EntT} (h : LgX W X w p ls) (hll : ls.length ≤ 1000) (z : Int) (b : BlkT) (er : Int) (hr : InR ls z (b, er)) :
    Calls Try.prog 19 #[.pointer (some ⟨p, 0, none⟩), .int .u64 z] w fun e w' => e = .returned (.tuple #[.agg #[.int .u64 b.1, .int .u64 b.2.1, .int .u64 b.2.2], .int .i64 er]) ∧ Kept [] w w' := by
  obtain ⟨⟨S, h1, h2⟩, h3, h4, hi⟩ := h
  exact in_any S w p ls h1 hi hll z (b, er) hr
end Go.Proofs.Ytdallcepachhoaa
