/- An arena that a law has made; the example. -/
import Derived.Test.YtekblfnemcaaeaaArInv
set_option linter.unusedVariables false
set_option linter.unusedSimpArgs false
namespace Go.Proofs.Ytekblfnemcaaeaa
open Go.RowKit
/-- An arena whose blocks are all new since W. -/
def UpK (W w : World) (p : Nat) (a : Ar) : Prop := (∃ S, ArS S w p a ∧ ∀ q, q ∈ S → W.heap.size ≤ q) ∧ Kept [] W w
theorem UpK.keep0 {W w w' : World} {p : Nat} {a : Ar} (h : UpK W w p a) (hk : Kept [] w w') : UpK W w' p a := by
  obtain ⟨⟨S, h1, h2⟩, h3⟩ := h
  exact ⟨⟨S, h1.keep0 hk, h2⟩, hk.then_ h3⟩
theorem UpK.left {W w w' : World} {p : Nat} {a' : Ar} {S : List Nat} (hS : ∀ q, q ∈ S → W.heap.size ≤ q) (h3 : Kept [] W w) (h : LeftA S w p a' w') : UpK W w' p a' := by
  obtain ⟨S', k1, k2, k3⟩ := h
  exact ⟨⟨S', k1, fun q hq => by
    rcases k2 q hq with h | h
    · exact hS q h
    · have := h3.size; omega⟩, h3.trans k3 (fun x hx hl => by have := hS x hx; omega)⟩
theorem UpK.ltp {W w : World} {p : Nat} {a : Ar} (h : UpK W w p a) : p < w.heap.size := by
  obtain ⟨⟨S, h1, h2⟩, h3⟩ := h
  exact h1.ltp
def Ar.new (n : Nat) (lim : Int) : Ar := { n := n, lim := lim, bs := frees n, ls := [], ts := [], ref := 0 }
def NewK (W : World) (n : Nat) (lim : Int) (e : Ending) (w' : World) : Prop := ∃ p, e = .returned (.tuple #[.pointer (some ⟨p, 0, none⟩), .int .i64 0]) ∧ UpK W w' p (Ar.new n lim)
theorem up_new (W w : World) (hk : Kept [] W w) (n : Nat) (lim : Int) (h1 : 1 ≤ n) (h2 : n ≤ 64) (hl : 0 ≤ lim ∧ lim ≤ n) : Calls Try.prog 10 #[.int .i64 n, .int .i64 lim] w (NewK W n lim) :=
  (new_ar n lim w h1 h2 hl).mono fun e w' ⟨⟨p, S, he, hs, hq⟩, hk'⟩ => ⟨p, he, ⟨S, hs, fun q hq' => by have := hq q hq'; have := hk.size; omega⟩, hk'.then_ hk⟩
def ResK (W : World) (p : Nat) (a : Ar) (k : Int) (e : Ending) (w' : World) : Prop := ∃ x er a', e = .returned (.tuple #[.int .i64 x, .int .i64 er]) ∧ Res a k x er a' ∧ UpK W w' p a'
theorem up_res (W w : World) (p : Nat) (a : Ar) (h : UpK W w p a) (hi : Inv a) (hts : a.ts.length ≤ 1000) (hr : 0 ≤ a.ref ∧ a.ref ≤ 100000) (k : Int) : Calls Try.prog 11 #[.pointer (some ⟨p, 0, none⟩), .int .i64 k] w (ResK W p a k) := by
  obtain ⟨⟨S, h1, h2⟩, h3⟩ := h
  exact (reserve_any S w p a h1 hi hts hr k).mono fun e w' ⟨x, er, a', he, hR, hL⟩ => ⟨x, er, a', he, hR, UpK.left h2 h3 hL⟩
def RelK (W : World) (p : Nat) (a : Ar) (t : Int) (e : Ending) (w' : World) : Prop := ∃ er a', e = .returned (.int .i64 er) ∧ Rel a t er a' ∧ UpK W w' p a'
theorem up_rel (W w : World) (p : Nat) (a : Ar) (h : UpK W w p a) (hi : Inv a) (t : Int) : Calls Try.prog 12 #[.pointer (some ⟨p, 0, none⟩), .int .i64 t] w (RelK W p a t) := by
  obtain ⟨⟨S, h1, h2⟩, h3⟩ := h
  exact (release_any S w p a h1 hi t).mono fun e w' ⟨er, a', he, hR, hL⟩ => ⟨er, a', he, hR, UpK.left h2 h3 hL⟩
theorem up_given (W w : World) (p : Nat) (a : Ar) (h : UpK W w p a) (hi : Inv a) (g : Int) (hg : total a.ls = g) : Calls Try.prog 13 #[.pointer (some ⟨p, 0, none⟩)] w fun e w' => e = .returned (.int .i64 g) ∧ Kept [] w w' := by
  obtain ⟨⟨S, h1, h2⟩, h3⟩ := h
  subst hg
  rw [← hi.sum]
  exact given_ar S w p a h1 hi.len hi.n64
theorem up_refused (W w : World) (p : Nat) (a : Ar) (h : UpK W w p a) (r : Int) (hr : a.ref = r) : Calls Try.prog 14 #[.pointer (some ⟨p, 0, none⟩)] w fun e w' => e = .returned (.int .i64 r) ∧ Kept [] w w' := by
  obtain ⟨⟨S, h1, h2⟩, h3⟩ := h
  subst hr
  exact refused_ar S w p a h1
/-- Reserve answers as its lowest row says. -/
theorem Res.ok {a a' : Ar} {k x e : Int} (h : Res a k x e a') (hi : Inv a) (m at_ : Nat) (hk : k = (m : Int)) (h1 : 1 ≤ m) (h2 : m ≤ a.n) (ht : a.ts.headD false = false) (hl : total a.ls + m ≤ a.lim) (hf : FreeAt a.bs at_ m) (hlow : ∀ b, b < at_ → ¬ FreeAt a.bs b m) :
    x = (at_ : Int) ∧ e = 0 ∧ ∃ j, AtG a.ls at_ j ∧ a' = a.yes at_ m j := by
  subst hk
  rcases h with ⟨h0, _⟩ | ⟨_, h0, _⟩ | ⟨at2, m2, j, h3, h4, h5, h6, h7, h8, h9, h10, rfl, rfl, rfl⟩
  · omega
  · rcases h0 with h0 | h0 | h0
    · rw [ht] at h0; cases h0
    · omega
    · exact absurd hf (by have := h0 at_; simpa using this)
  · obtain rfl : m = m2 := by omega
    have : at2 = at_ := by
      rcases Nat.lt_trichotomy at2 at_ with h | h | h
      · exact absurd h8 (hlow _ h)
      · exact h
      · exact absurd hf (h9 _ h)
    subst this
    exact ⟨rfl, rfl, j, h10, rfl⟩
theorem Res.full {a a' : Ar} {k x e : Int} (h : Res a k x e a') (h1 : 1 ≤ k) (h2 : k ≤ (a.n : Int)) (hno : a.ts.headD false = true ∨ a.lim < total a.ls + k ∨ ∀ b, ¬ FreeAt a.bs b k.toNat) : x = 0 ∧ e = 4 ∧ a' = a.no := by
  rcases h with ⟨h0, _⟩ | ⟨_, _, rfl, rfl, rfl⟩ | ⟨at2, m2, j, rfl, h4, h5, h6, h7, h8, _⟩
  · omega
  · exact ⟨rfl, rfl, rfl⟩
  · rcases hno with h | h | h
    · rw [h] at h6; cases h6
    · omega
    · exact absurd h8 (by have := h at2; simpa using this)
theorem total_yes (a : Ar) (at_ m j : Nat) : total (a.yes at_ m j).ls = total a.ls + m := total_ins _ _ _
theorem rel_nil (w : World) (t : Int) : Calls Try.prog 12 #[.pointer none, .int .i64 t] w fun e w' => e = .returned (.int .i64 1) ∧ Kept [] w w' := by
  go_enter Try.func12, Try.ntmps12
  go_wp2_with fail
  go_ret
  exact ⟨rfl, by (repeat' (first | (with_reducible exact Kept.refl _ _) | (with_reducible assumption) | (with_reducible refine Kept.then_ (by with_reducible assumption) ?_) | (with_reducible refine Kept.thenS (by with_reducible assumption) ?_) | (with_reducible refine Kept.alloc ?_ _) | (with_reducible refine Kept.drew ?_) | (with_reducible refine Kept.drewN ?_ _) | (with_reducible refine Kept.setNew ?_ ?_ _) | ((try simp only [World.size_alloc, World.size_setCell, World.size_drew, size_drewN] at *); (try dsimp only); omega)))⟩
def UpE (W : World) (p : Nat) (x er : Int) (T : Ar → Prop) (e : Ending) (w' : World) : Prop := e = .returned (.tuple #[.int .i64 x, .int .i64 er]) ∧ ∃ a', T a' ∧ UpK W w' p a'
def E0 (a : Ar) : Prop := Inv a ∧ a.n = 4 ∧ a.lim = 3 ∧ a.ts = [] ∧ a.ref = 0 ∧ a.bs = [false, false, false, false] ∧ total a.ls = 0
def E1 (a : Ar) : Prop := Inv a ∧ a.n = 4 ∧ a.lim = 3 ∧ a.ts = [] ∧ a.ref = 0 ∧ a.bs = [true, true, false, false] ∧ total a.ls = 2
def E2 (a : Ar) : Prop := Inv a ∧ a.n = 4 ∧ a.lim = 3 ∧ a.ts = [] ∧ a.ref = 1 ∧ a.bs = [true, true, false, false] ∧ total a.ls = 2
def E3 (a : Ar) : Prop := Inv a ∧ a.ref = 1 ∧ total a.ls = 3
set_option maxRecDepth 100000 in
set_option maxHeartbeats 1000000 in
theorem alive_any (W : World) : Calls Try.prog 9 #[] W fun e w' => e = .returned (.bool true) ∧ Kept [] W w' := by
  have C1 : Hid (Calls Try.prog 10 #[.int .i64 4, .int .i64 3] W fun e w' => ∃ p, e = .returned (.tuple #[.pointer (some ⟨p, 0, none⟩), .int .i64 0]) ∧ ∃ a', E0 a' ∧ UpK W w' p a') := Lib.hid ((up_new W W (Kept.refl _ _) 4 3 (by omega) (by omega) (by omega)).mono fun e w' ⟨p, he, hu⟩ => ⟨p, he, _, ⟨inv_new 4 3 (by omega) (by omega) (by omega), rfl, rfl, rfl, rfl, rfl, rfl⟩, hu⟩)
  have C2 : Hid (∀ w p a, E0 a → UpK W w p a → Calls Try.prog 11 #[.pointer (some ⟨p, 0, none⟩), .int .i64 2] w (UpE W p 0 0 E1)) := Lib.hid (fun w p a ⟨h1, h2, h3, h4, h5, h6, h7⟩ hu => (up_res W w p a hu h1 (by rw [h4]; simp) (by omega) 2).mono fun e w' ⟨x, er, a', he, hR, hU⟩ => by
    obtain ⟨rfl, rfl, j, hj, rfl⟩ := hR.ok h1 2 0 rfl (by omega) (by omega) (by rw [h4]; rfl) (by omega) (by rw [h6]; decide) (fun b hb => by omega)
    refine ⟨he, _, ⟨h1.yes 0 2 j (by omega) (by rw [h6]; decide) hj (by have := h1.sum; omega), h2, h3, by show a.ts.tail = []; rw [h4]; rfl, h5, ?_, by rw [total_yes]; omega⟩, hU⟩
    show put a.bs 0 2 true = _
    rw [h6]; rfl)
  have C3 : Hid (∀ w p a, E1 a → UpK W w p a → Calls Try.prog 11 #[.pointer (some ⟨p, 0, none⟩), .int .i64 2] w (UpE W p 0 4 E2)) := Lib.hid (fun w p a ⟨h1, h2, h3, h4, h5, h6, h7⟩ hu => (up_res W w p a hu h1 (by rw [h4]; simp) (by omega) 2).mono fun e w' ⟨x, er, a', he, hR, hU⟩ => by
    obtain ⟨rfl, rfl, rfl⟩ := hR.full (by omega) (by omega) (.inr (.inl (by omega)))
    exact ⟨he, _, ⟨h1.no, h2, h3, by show a.ts.tail = []; rw [h4]; rfl, by show a.ref + 1 = 1; omega, h6, h7⟩, hU⟩)
  have C4 : Hid (∀ w p a, E2 a → UpK W w p a → Calls Try.prog 11 #[.pointer (some ⟨p, 0, none⟩), .int .i64 1] w (UpE W p 2 0 E3)) := Lib.hid (fun w p a ⟨h1, h2, h3, h4, h5, h6, h7⟩ hu => (up_res W w p a hu h1 (by rw [h4]; simp) (by omega) 1).mono fun e w' ⟨x, er, a', he, hR, hU⟩ => by
    obtain ⟨rfl, rfl, j, hj, rfl⟩ := hR.ok h1 1 2 rfl (by omega) (by omega) (by rw [h4]; rfl) (by omega) (by rw [h6]; decide) (by rw [h6]; decide)
    exact ⟨he, _, ⟨h1.yes 2 1 j (by omega) (by rw [h6]; decide) hj (by have := h1.sum; omega), h5, by rw [total_yes]; omega⟩, hU⟩)
  have C5 : Hid (∀ w p a, E3 a → UpK W w p a → Calls Try.prog 13 #[.pointer (some ⟨p, 0, none⟩)] w fun e w' => e = .returned (.int .i64 3) ∧ Kept [] w w') := Lib.hid (fun w p a ⟨h1, h2, h3⟩ hu => up_given W w p a hu h1 3 h3)
  have C6 : Hid (∀ w p a, E3 a → UpK W w p a → Calls Try.prog 14 #[.pointer (some ⟨p, 0, none⟩)] w fun e w' => e = .returned (.int .i64 1) ∧ Kept [] w w') := Lib.hid (fun w p a ⟨h1, h2, h3⟩ hu => up_refused W w p a hu 1 h2)
  have C7 := Lib.hid (fun w => rel_nil w 0)
  go_enter Try.func9, Try.ntmps9
  go_wp2_with fail
  (with_reducible refine C1.out.mono ?_)
  rintro e w1 ⟨p, rfl, a0, hE0, hU1⟩
  have X0 := Lib.hid hE0
  have U1 := Lib.hid hU1
  clear hE0 hU1
  go_wp2_with fail
  (with_reducible refine (C2.out _ _ _ X0.out U1.out).mono ?_)
  rintro e w2 ⟨rfl, a1, hE1, hU2⟩
  have X1 := Lib.hid hE1
  have U2 := Lib.hid hU2
  clear hE1 hU2
  go_wp2_with fail
  (with_reducible refine (C3.out _ _ _ X1.out U2.out).mono ?_)
  rintro e w3 ⟨rfl, a2, hE2, hU3⟩
  have X2 := Lib.hid hE2
  have U3 := Lib.hid hU3
  clear hE2 hU3
  go_wp2_with fail
  (with_reducible refine (C4.out _ _ _ X2.out U3.out).mono ?_)
  rintro e w4 ⟨rfl, a3, hE3, hU4⟩
  have X3 := Lib.hid hE3
  have U4 := Lib.hid hU4
  clear hE3 hU4
  go_wp2_with fail
  (with_reducible refine (C5.out _ _ _ X3.out U4.out).mono ?_)
  rintro e w5 ⟨rfl, hb5⟩
  have U5 := Lib.hid (U4.out.keep0 hb5)
  clear hb5
  go_wp2_with fail
  (with_reducible refine (C6.out _ _ _ X3.out U5.out).mono ?_)
  rintro e w6 ⟨rfl, hb6⟩
  have U6 := Lib.hid (U5.out.keep0 hb6)
  clear hb6
  go_wp2_with fail
  (with_reducible refine (C7.out _).mono ?_)
  rintro e w7 ⟨rfl, hb7⟩
  have U7 := Lib.hid (U6.out.keep0 hb7)
  clear hb7
  go_wp2_with fail
  go_ret
  exact ⟨rfl, U7.out.2⟩
end Go.Proofs.Ytekblfnemcaaeaa
