/- Add. -/
import Derived.Test.YtdallcepachhoaaLgFree
import Derived.Deep.RegionWith
set_option linter.unusedVariables false
set_option linter.unusedSimpArgs false
namespace Go.Proofs.Ytdallcepachhoaa
open Go.RowKit
theorem add_arg (S : List Nat) (w : World) (p : Nat) (ls : List EntT) (h : LgS S w p ls) (a n l : Int) (ha : 0 ≤ a ∧ a ≤ 18446744073709551615) (hn : 0 ≤ n ∧ n ≤ 18446744073709551615) (hl : 0 ≤ l ∧ l ≤ 18446744073709551615) (hm : ¬ May a n l) :
    Calls Try.prog 15 #[.pointer (some ⟨p, 0, none⟩), .agg #[.int .u64 a, .int .u64 n, .int .u64 l]] w fun e w' => e = .returned (.int .i64 2) ∧ Kept [] w w' := by
  have DM := Lib.hid (fun w => may_any a n l w ha hn hl false (decide_eq_false hm))
  have hpl := h.ltp
  clear h hm
  go_enter Try.func15, Try.ntmps15
  go_wp2_with fail
  (with_reducible refine (DM.out _).mono ?_)
  rintro e w1 ⟨rfl, hb1⟩
  go_wp2_with fail
  go_ret
  exact ⟨rfl, by (repeat' (first | (with_reducible exact Kept.refl _ _) | (with_reducible assumption) | (with_reducible refine Kept.then_ (by with_reducible assumption) ?_) | (with_reducible refine Kept.thenS (by with_reducible assumption) ?_) | (with_reducible refine Kept.alloc ?_ _) | (with_reducible refine Kept.drew ?_) | (with_reducible refine Kept.drewN ?_ _) | (with_reducible refine Kept.setNew ?_ ?_ _) | ((try simp only [World.size_alloc, World.size_setCell, World.size_drew, size_drewN] at *); (try dsimp only); omega)))⟩
/-- What Insert leaves. -/
def InsL (S : List Nat) (W : World) (p : Nat) (ls' : List EntT) (v : Value) (e : Ending) (w' : World) : Prop :=
  ∃ A' n' c', e = .returned (.slice A' n' c') ∧ w'.cell? ⟨p, 0, none⟩ = some v ∧ p < w'.heap.size ∧ w'.frozen? ⟨p, 0, none⟩ = false ∧ Kept S W w' ∧ LeftL S W p ls' (w'.setCell ⟨p, 0, none⟩ (.slice A' n' c'))
theorem LgS.insert {S : List Nat} {w : World} {p : Nat} {ls : List EntT} (h3 : LgS S w p ls) (j : Nat) (x : EntT) (hj : j ≤ ls.length) (hl : ls.length ≤ 1000) :
    ∃ A n c, w.cell? ⟨p, 0, none⟩ = some (.slice A n c) ∧ Calls Try.prog 27 #[.slice A n c, .int .i64 j, .slice (some ⟨w.heap.size, 0, none⟩) 1 1] (w.alloc (.cells #[.int .u64 x.1, .int .u64 x.2.1, .int .u64 x.2.2.1, .bool x.2.2.2] 60)) (InsL S w p (ins ls j x) (.slice A n c)) := by
  obtain ⟨v, c3, ho, hS, hlaid⟩ := h3.laid
  obtain ⟨A, c, rfl, _, _, _, _, hAB⟩ := ho.slice
  have hpl := h3.ltp
  have hk0 : Kept [] w (w.alloc (.cells #[.int .u64 x.1, .int .u64 x.2.1, .int .u64 x.2.2.1, .bool x.2.2.2] 60)) := (Kept.refl [] w).alloc _
  refine ⟨A, _, c, c3, (insert_any (p + 1) w.heap.size j _ ls x _ (ho.keep hk0) (Blk.new w _ _) (fun hq => ?_) hj (by omega) (by simp; omega)).mono ?_⟩
  · have := h3.lt _ (hS _ hq)
    omega
  · rintro e w' ⟨v', rfl, ho', hk', hg'⟩
    obtain ⟨A', c', rfl, _, _, _, _, _⟩ := ho'.slice
    obtain ⟨k1, k2, k3, k4⟩ := hlaid _ w' _ _ hk0 hk' ho' hg'
    exact ⟨A', _, c', rfl, k1, k2, k3, (hk0.mono (T := S) (fun x hx _ => by cases hx)).trans (hk'.mono (T := S) (fun x hx _ => hS x hx)) (fun x hx _ => hx), k4⟩
theorem LgS.delete {S : List Nat} {w : World} {p : Nat} {ls : List EntT} (h3 : LgS S w p ls) (j : Nat) (hj : j < ls.length) (hl : ls.length ≤ 1000) :
    ∃ A n c, w.cell? ⟨p, 0, none⟩ = some (.slice A n c) ∧ Calls Try.prog 30 #[.slice A n c, .int .i64 j, .int .i64 ((j : Int) + 1)] w (InsL S w p (ls.eraseIdx j) (.slice A n c)) := by
  obtain ⟨v, c3, ho, hS, hlaid⟩ := h3.laid
  have ho2 := ho.2
  rcases ho2 with ⟨rfl, h0⟩ | ⟨g, c, cur, rfl, hb, _⟩
  · omega
  · refine ⟨_, _, c, c3, (delete_one (p + 1) g c j ls w hj hl ho).mono ?_⟩
    rintro e w' ⟨⟨rfl, ho'⟩, hk'⟩
    obtain ⟨k1, k2, k3, k4⟩ := hlaid w w' _ _ (Kept.refl _ _) (by simpa [own, Value.ownBlock] using hk') ho' (fun q hq => .inl hq)
    exact ⟨_, _, c, rfl, k1, k2, k3, hk'.mono (T := S) (fun x hx _ => hS x (by simpa [own, Value.ownBlock] using hx)), k4⟩
theorem mx_ways (n : Int) (h : 0 ≤ n) {Q : Prop} (h1 : n < 1 → mx n = 1 → Q) (h2 : n = 1 → mx n = 1 → Q) (h3 : 1 < n → mx n = n → Q) : Q := by
  have := mx_pos h
  rcases Int.lt_trichotomy n 1 with h4 | h4 | h4
  · exact h1 h4 (by omega)
  · exact h2 h4 (by omega)
  · exact h3 h4 (by omega)
set_option maxHeartbeats 1000000 in
theorem add_there (S : List Nat) (w : World) (p : Nat) (ls : List EntT) (h : LgS S w p ls) (hi : LInv ls) (hll : ls.length ≤ 1000) (a n l : Int) (ha : 0 ≤ a ∧ a ≤ 18446744073709551615) (hn : 0 ≤ n ∧ n ≤ 18446744073709551615) (hl : 0 ≤ l ∧ l ≤ 18446744073709551615) (hm : May a n l) (hf : ¬ FreeL ls a (mx n)) :
    Calls Try.prog 15 #[.pointer (some ⟨p, 0, none⟩), .agg #[.int .u64 a, .int .u64 n, .int .u64 l]] w fun e w' => e = .returned (.int .i64 6) ∧ Kept [] w w' := by
  have DM := Lib.hid (fun w => may_any a n l w ha hn hl true (decide_eq_true hm))
  have hmx := mx_pos hn.1
  have DF := Lib.hid (fun w' (hk : Kept [] w w') => free_any S w' p ls (h.keep0 hk) hi hll a (mx n) ha (by have := hm.1; omega) false (decide_eq_false hf))
  have hpl := h.ltp
  clear h hm hf hi
  refine mx_ways n hn.1 (fun h1 h2 => ?_) (fun h1 h2 => ?_) (fun h1 h2 => ?_)
  all_goals
    rw [h2] at DF
    clear h2
    try subst h1
    go_enter Try.func15, Try.ntmps15
    go_wp2_with fail
    (with_reducible refine (DM.out _).mono ?_)
    rintro e w1 ⟨rfl, hb1⟩
    have B1 := (Blk.new w 33 _).keep0 hb1
    have B1c := B1.cell
    have B1l := B1.lt
    go_wp2_with fail
    (with_reducible refine (DF.out _ (by (repeat' (first | (with_reducible exact Kept.refl _ _) | (with_reducible assumption) | (with_reducible refine Kept.then_ (by with_reducible assumption) ?_) | (with_reducible refine Kept.thenS (by with_reducible assumption) ?_) | (with_reducible refine Kept.alloc ?_ _) | (with_reducible refine Kept.drew ?_) | (with_reducible refine Kept.drewN ?_ _) | (with_reducible refine Kept.setNew ?_ ?_ _) | ((try simp only [World.size_alloc, World.size_setCell, World.size_drew, size_drewN] at *); (try dsimp only); omega))))).mono ?_)
    rintro e w2 ⟨rfl, hb2⟩
    go_wp2_with fail
    go_ret
    exact ⟨rfl, by (repeat' (first | (with_reducible exact Kept.refl _ _) | (with_reducible assumption) | (with_reducible refine Kept.then_ (by with_reducible assumption) ?_) | (with_reducible refine Kept.thenS (by with_reducible assumption) ?_) | (with_reducible refine Kept.alloc ?_ _) | (with_reducible refine Kept.drew ?_) | (with_reducible refine Kept.drewN ?_ _) | (with_reducible refine Kept.setNew ?_ ?_ _) | ((try simp only [World.size_alloc, World.size_setCell, World.size_drew, size_drewN] at *); (try dsimp only); omega)))⟩
set_option maxRecDepth 100000 in
set_option maxHeartbeats 2000000 in
theorem add_ok (S : List Nat) (w : World) (p : Nat) (ls : List EntT) (h : LgS S w p ls) (hi : LInv ls) (hll : ls.length ≤ 1000) (a n l : Int) (ha : 0 ≤ a ∧ a ≤ 18446744073709551615) (hn : 0 ≤ n ∧ n ≤ 18446744073709551615) (hl : 0 ≤ l ∧ l ≤ 18446744073709551615) (hm : May a n l) (hf : FreeL ls a (mx n)) (j : Nat) (hj : AtG ls a j) :
    Calls Try.prog 15 #[.pointer (some ⟨p, 0, none⟩), .agg #[.int .u64 a, .int .u64 n, .int .u64 l]] w fun e w' => e = .returned (.int .i64 0) ∧ LeftL S w p (ins ls j (a, n, l, false)) w' := by
  have DM := Lib.hid (fun w => may_any a n l w ha hn hl true (decide_eq_true hm))
  have hmx := mx_pos hn.1
  have DF := Lib.hid (fun w' (hk : Kept [] w w') => free_any S w' p ls (h.keep0 hk) hi hll a (mx n) ha (by have := hm.1; omega) true (decide_eq_true hf))
  obtain ⟨hit, hhit⟩ : ∃ hit, hitG ls a j = hit := ⟨_, rfl⟩
  have DP := Lib.hid (fun w' (hk : Kept [] w w') => place_any S w' p ls (h.keep0 hk) a (by omega) j hj hit hhit)
  have DI := Lib.hid (fun w' (hk : Kept [] w w') => (h.keep0 hk).insert j (a, n, l, false) hj.1 hll)
  have HT : Hid (∀ w1 w2, Kept [] w w1 → LeftL S w1 p (ins ls j (a, n, l, false)) w2 → LeftL S w p (ins ls j (a, n, l, false)) w2) := Lib.hid (fun w1 w2 hk h' => LeftL.then_ (Grew.refl S w) (hk.mono (fun x hx _ => by cases hx)) h')
  have HSZ : Hid (∀ q, q ∈ S → q < w.heap.size) := Lib.hid h.lt
  have HPS : Hid (p ∈ S) := Lib.hid (by obtain ⟨v, rfl, _⟩ := h; simp)
  have hpl := h.ltp
  clear h hm hf hi hj hhit
  refine mx_ways n hn.1 (fun h1 h2 => ?_) (fun h1 h2 => ?_) (fun h1 h2 => ?_)
  · rw [h2] at DF
    clear h2
    go_enter Try.func15, Try.ntmps15
    go_wp2_with fail
    (with_reducible refine (DM.out _).mono ?_)
    rintro e w1 ⟨rfl, hb1⟩
    have B1 := (Blk.new w 33 _).keep0 hb1
    have B1c := B1.cell
    have B1l := B1.lt
    go_wp2_with fail
    (with_reducible refine (DF.out _ (by (repeat' (first | (with_reducible exact Kept.refl _ _) | (with_reducible assumption) | (with_reducible refine Kept.then_ (by with_reducible assumption) ?_) | (with_reducible refine Kept.thenS (by with_reducible assumption) ?_) | (with_reducible refine Kept.alloc ?_ _) | (with_reducible refine Kept.drew ?_) | (with_reducible refine Kept.drewN ?_ _) | (with_reducible refine Kept.setNew ?_ ?_ _) | ((try simp only [World.size_alloc, World.size_setCell, World.size_drew, size_drewN] at *); (try dsimp only); omega))))).mono ?_)
    rintro e w2 ⟨rfl, hb2⟩
    have B2 := B1.keep0 hb2
    have B2c := B2.cell
    have B2l := B2.lt
    go_wp2_with fail
    (with_reducible refine (DP.out _ (by (repeat' (first | (with_reducible exact Kept.refl _ _) | (with_reducible assumption) | (with_reducible refine Kept.then_ (by with_reducible assumption) ?_) | (with_reducible refine Kept.thenS (by with_reducible assumption) ?_) | (with_reducible refine Kept.alloc ?_ _) | (with_reducible refine Kept.drew ?_) | (with_reducible refine Kept.drewN ?_ _) | (with_reducible refine Kept.setNew ?_ ?_ _) | ((try simp only [World.size_alloc, World.size_setCell, World.size_drew, size_drewN] at *); (try dsimp only); omega))))).mono ?_)
    rintro e w3 ⟨rfl, hb3⟩
    have B3 := B2.keep0 hb3
    have B3c := B3.cell
    have B3l := B3.lt
    have hk3 : Kept [] w w3 := by (repeat' (first | (with_reducible exact Kept.refl _ _) | (with_reducible assumption) | (with_reducible refine Kept.then_ (by with_reducible assumption) ?_) | (with_reducible refine Kept.thenS (by with_reducible assumption) ?_) | (with_reducible refine Kept.alloc ?_ _) | (with_reducible refine Kept.drew ?_) | (with_reducible refine Kept.drewN ?_ _) | (with_reducible refine Kept.setNew ?_ ?_ _) | ((try simp only [World.size_alloc, World.size_setCell, World.size_drew, size_drewN] at *); (try dsimp only); omega)))
    obtain ⟨A, sn, sc, c0, hI⟩ := DI.out w3.drew hk3.drew
    have HI := Lib.hid hI
    have c0' : w3.cell? ⟨p, 0, none⟩ = some (.slice A sn sc) := c0
    have HK3 := Lib.hid hk3
    have hpl3 : p < w3.heap.size := by have := hk3.size; omega
    have hszS := HSZ.out
    have HX : Hid (∀ w', Kept S w3.drew w' → w'.cell? ⟨w.heap.size, 0, none⟩ = some (.int .u64 a) ∧ w'.cell? ⟨w.heap.size, 1, none⟩ = some (.int .u64 n) ∧ w'.cell? ⟨w.heap.size, 2, none⟩ = some (.int .u64 l)) := Lib.hid (fun w' hk' => by
      have B4 := B3.drew.keep hk' (fun hx => by have := HSZ.out _ hx; omega)
      exact ⟨B4.cell 0, B4.cell 1, B4.cell 2⟩)
    have HX0 := Lib.hid (HX.out w3.drew (Kept.refl _ _))
    clear hI hk3 hszS
    go_wp2_with fail
    go_region_with ((go_at_call 27; refine HI.out.mono ?_; rintro e w4 ⟨A', n', c', rfl, d3, hp4, f3, hk4, hL4⟩))
    all_goals
      have HL4 := Lib.hid (HT.out _ _ HK3.out.drew hL4)
      clear hL4 hk4
      go_wp2_with fail
      go_ret
      exact ⟨rfl, HL4.out⟩
  · rw [h2] at DF
    clear h2
    subst h1
    go_enter Try.func15, Try.ntmps15
    go_wp2_with fail
    (with_reducible refine (DM.out _).mono ?_)
    rintro e w1 ⟨rfl, hb1⟩
    have B1 := (Blk.new w 33 _).keep0 hb1
    have B1c := B1.cell
    have B1l := B1.lt
    go_wp2_with fail
    (with_reducible refine (DF.out _ (by (repeat' (first | (with_reducible exact Kept.refl _ _) | (with_reducible assumption) | (with_reducible refine Kept.then_ (by with_reducible assumption) ?_) | (with_reducible refine Kept.thenS (by with_reducible assumption) ?_) | (with_reducible refine Kept.alloc ?_ _) | (with_reducible refine Kept.drew ?_) | (with_reducible refine Kept.drewN ?_ _) | (with_reducible refine Kept.setNew ?_ ?_ _) | ((try simp only [World.size_alloc, World.size_setCell, World.size_drew, size_drewN] at *); (try dsimp only); omega))))).mono ?_)
    rintro e w2 ⟨rfl, hb2⟩
    have B2 := B1.keep0 hb2
    have B2c := B2.cell
    have B2l := B2.lt
    go_wp2_with fail
    (with_reducible refine (DP.out _ (by (repeat' (first | (with_reducible exact Kept.refl _ _) | (with_reducible assumption) | (with_reducible refine Kept.then_ (by with_reducible assumption) ?_) | (with_reducible refine Kept.thenS (by with_reducible assumption) ?_) | (with_reducible refine Kept.alloc ?_ _) | (with_reducible refine Kept.drew ?_) | (with_reducible refine Kept.drewN ?_ _) | (with_reducible refine Kept.setNew ?_ ?_ _) | ((try simp only [World.size_alloc, World.size_setCell, World.size_drew, size_drewN] at *); (try dsimp only); omega))))).mono ?_)
    rintro e w3 ⟨rfl, hb3⟩
    have B3 := B2.keep0 hb3
    have B3c := B3.cell
    have B3l := B3.lt
    have hk3 : Kept [] w w3 := by (repeat' (first | (with_reducible exact Kept.refl _ _) | (with_reducible assumption) | (with_reducible refine Kept.then_ (by with_reducible assumption) ?_) | (with_reducible refine Kept.thenS (by with_reducible assumption) ?_) | (with_reducible refine Kept.alloc ?_ _) | (with_reducible refine Kept.drew ?_) | (with_reducible refine Kept.drewN ?_ _) | (with_reducible refine Kept.setNew ?_ ?_ _) | ((try simp only [World.size_alloc, World.size_setCell, World.size_drew, size_drewN] at *); (try dsimp only); omega)))
    obtain ⟨A, sn, sc, c0, hI⟩ := DI.out w3.drew hk3.drew
    have HI := Lib.hid hI
    have c0' : w3.cell? ⟨p, 0, none⟩ = some (.slice A sn sc) := c0
    have HK3 := Lib.hid hk3
    have hpl3 : p < w3.heap.size := by have := hk3.size; omega
    have hszS := HSZ.out
    have HX : Hid (∀ w', Kept S w3.drew w' → w'.cell? ⟨w.heap.size, 0, none⟩ = some (.int .u64 a) ∧ w'.cell? ⟨w.heap.size, 1, none⟩ = some (.int .u64 1) ∧ w'.cell? ⟨w.heap.size, 2, none⟩ = some (.int .u64 l)) := Lib.hid (fun w' hk' => by
      have B4 := B3.drew.keep hk' (fun hx => by have := HSZ.out _ hx; omega)
      exact ⟨B4.cell 0, B4.cell 1, B4.cell 2⟩)
    have HX0 := Lib.hid (HX.out w3.drew (Kept.refl _ _))
    clear hI hk3 hszS
    go_wp2_with fail
    go_region_with ((go_at_call 27; refine HI.out.mono ?_; rintro e w4 ⟨A', n', c', rfl, d3, hp4, f3, hk4, hL4⟩))
    all_goals
      have HL4 := Lib.hid (HT.out _ _ HK3.out.drew hL4)
      clear hL4 hk4
      go_wp2_with fail
      go_ret
      exact ⟨rfl, HL4.out⟩
  · rw [h2] at DF
    clear h2
    go_enter Try.func15, Try.ntmps15
    go_wp2_with fail
    (with_reducible refine (DM.out _).mono ?_)
    rintro e w1 ⟨rfl, hb1⟩
    have B1 := (Blk.new w 33 _).keep0 hb1
    have B1c := B1.cell
    have B1l := B1.lt
    go_wp2_with fail
    (with_reducible refine (DF.out _ (by (repeat' (first | (with_reducible exact Kept.refl _ _) | (with_reducible assumption) | (with_reducible refine Kept.then_ (by with_reducible assumption) ?_) | (with_reducible refine Kept.thenS (by with_reducible assumption) ?_) | (with_reducible refine Kept.alloc ?_ _) | (with_reducible refine Kept.drew ?_) | (with_reducible refine Kept.drewN ?_ _) | (with_reducible refine Kept.setNew ?_ ?_ _) | ((try simp only [World.size_alloc, World.size_setCell, World.size_drew, size_drewN] at *); (try dsimp only); omega))))).mono ?_)
    rintro e w2 ⟨rfl, hb2⟩
    have B2 := B1.keep0 hb2
    have B2c := B2.cell
    have B2l := B2.lt
    go_wp2_with fail
    (with_reducible refine (DP.out _ (by (repeat' (first | (with_reducible exact Kept.refl _ _) | (with_reducible assumption) | (with_reducible refine Kept.then_ (by with_reducible assumption) ?_) | (with_reducible refine Kept.thenS (by with_reducible assumption) ?_) | (with_reducible refine Kept.alloc ?_ _) | (with_reducible refine Kept.drew ?_) | (with_reducible refine Kept.drewN ?_ _) | (with_reducible refine Kept.setNew ?_ ?_ _) | ((try simp only [World.size_alloc, World.size_setCell, World.size_drew, size_drewN] at *); (try dsimp only); omega))))).mono ?_)
    rintro e w3 ⟨rfl, hb3⟩
    have B3 := B2.keep0 hb3
    have B3c := B3.cell
    have B3l := B3.lt
    have hk3 : Kept [] w w3 := by (repeat' (first | (with_reducible exact Kept.refl _ _) | (with_reducible assumption) | (with_reducible refine Kept.then_ (by with_reducible assumption) ?_) | (with_reducible refine Kept.thenS (by with_reducible assumption) ?_) | (with_reducible refine Kept.alloc ?_ _) | (with_reducible refine Kept.drew ?_) | (with_reducible refine Kept.drewN ?_ _) | (with_reducible refine Kept.setNew ?_ ?_ _) | ((try simp only [World.size_alloc, World.size_setCell, World.size_drew, size_drewN] at *); (try dsimp only); omega)))
    obtain ⟨A, sn, sc, c0, hI⟩ := DI.out w3.drew hk3.drew
    have HI := Lib.hid hI
    have c0' : w3.cell? ⟨p, 0, none⟩ = some (.slice A sn sc) := c0
    have HK3 := Lib.hid hk3
    have hpl3 : p < w3.heap.size := by have := hk3.size; omega
    have hszS := HSZ.out
    have HX : Hid (∀ w', Kept S w3.drew w' → w'.cell? ⟨w.heap.size, 0, none⟩ = some (.int .u64 a) ∧ w'.cell? ⟨w.heap.size, 1, none⟩ = some (.int .u64 n) ∧ w'.cell? ⟨w.heap.size, 2, none⟩ = some (.int .u64 l)) := Lib.hid (fun w' hk' => by
      have B4 := B3.drew.keep hk' (fun hx => by have := HSZ.out _ hx; omega)
      exact ⟨B4.cell 0, B4.cell 1, B4.cell 2⟩)
    have HX0 := Lib.hid (HX.out w3.drew (Kept.refl _ _))
    clear hI hk3 hszS
    go_wp2_with fail
    go_region_with ((go_at_call 27; refine HI.out.mono ?_; rintro e w4 ⟨A', n', c', rfl, d3, hp4, f3, hk4, hL4⟩))
    all_goals
      have HL4 := Lib.hid (HT.out _ _ HK3.out.drew hL4)
      clear hL4 hk4
      go_wp2_with fail
      go_ret
      exact ⟨rfl, HL4.out⟩
end Go.Proofs.Ytdallcepachhoaa
