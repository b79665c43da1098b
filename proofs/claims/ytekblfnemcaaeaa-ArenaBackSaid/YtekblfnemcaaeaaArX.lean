/- A list of regions that an arena has handed on outlives what is done to the arena. -/
import Derived.Test.YtekblfnemcaaeaaArApart
set_option linter.unusedVariables false
set_option linter.unusedSimpArgs false
namespace Go.Proofs.Ytekblfnemcaaeaa
open Go.RowKit
/-- An arena that a law has made, apart from the blocks X. -/
def UpX (W : World) (X : List Nat) (w : World) (p : Nat) (a : Ar) : Prop := (∃ S, ArS S w p a ∧ ∀ q, q ∈ S → W.heap.size ≤ q ∧ q ∉ X) ∧ Kept [] W w ∧ ∀ x, x ∈ X → x < w.heap.size
def KeptX (X : List Nat) (w w' : World) : Prop := w.heap.size ≤ w'.heap.size ∧ ∀ x, x ∈ X → w'.heap[x]? = w.heap[x]?
theorem KeptX.trans {X : List Nat} {a b c : World} (h : KeptX X a b) (h' : KeptX X b c) : KeptX X a c := ⟨Nat.le_trans h.1 h'.1, fun x hx => (h'.2 x hx).trans (h.2 x hx)⟩
theorem UpX.up {W w : World} {X : List Nat} {p : Nat} {a : Ar} (h : UpX W X w p a) : UpK W w p a := by
  obtain ⟨⟨S, h1, h2⟩, h3, _⟩ := h
  exact ⟨⟨S, h1, fun q hq => (h2 q hq).1⟩, h3⟩
theorem UpX.keep0 {W w w' : World} {X : List Nat} {p : Nat} {a : Ar} (h : UpX W X w p a) (hk : Kept [] w w') : UpX W X w' p a := by
  obtain ⟨⟨S, h1, h2⟩, h3, h4⟩ := h
  exact ⟨⟨S, h1.keep0 hk, h2⟩, hk.then_ h3, fun x hx => by have := h4 x hx; have := hk.size; omega⟩
theorem UpX.kx {W w w' : World} {X : List Nat} {p : Nat} {a : Ar} (h : UpX W X w p a) (hk : Kept [] w w') : KeptX X w w' := ⟨hk.size, fun x hx => hk.block x (h.2.2 x hx) (by simp)⟩
theorem UpX.left {W w w' : World} {X : List Nat} {p : Nat} {a' : Ar} {S : List Nat} (hS : ∀ q, q ∈ S → W.heap.size ≤ q ∧ q ∉ X) (h3 : Kept [] W w) (h4 : ∀ x, x ∈ X → x < w.heap.size) (h : LeftA S w p a' w') : UpX W X w' p a' ∧ KeptX X w w' := by
  obtain ⟨S', k1, k2, k3⟩ := h
  refine ⟨⟨⟨S', k1, fun q hq => ?_⟩, h3.trans k3 (fun x hx hl => by have := (hS x hx).1; omega), fun x hx => by have := h4 x hx; have := k3.size; omega⟩, k3.size, fun x hx => k3.block x (h4 x hx) (fun hs => (hS x hs).2 hx)⟩
  rcases k2 q hq with h | h
  · exact hS q h
  · exact ⟨by have := h3.size; omega, fun hx => by have := h4 q hx; omega⟩
/-- New blocks are put apart. -/
theorem UpX.more {W w w' : World} {X : List Nat} {p : Nat} {a : Ar} (h : UpX W X w p a) (hk : Kept [] w w') (Y : List Nat) (hY : ∀ y, y ∈ Y → w.heap.size ≤ y ∧ y < w'.heap.size) : UpX W (Y ++ X) w' p a := by
  obtain ⟨⟨S, h1, h2⟩, h3, h4⟩ := h
  refine ⟨⟨S, h1.keep0 hk, fun q hq => ⟨(h2 q hq).1, fun hx => ?_⟩⟩, hk.then_ h3, fun x hx => ?_⟩
  · rcases List.mem_append.1 hx with hx | hx
    · have := h1.lt q hq
      have := (hY q hx).1
      omega
    · exact (h2 q hq).2 hx
  · rcases List.mem_append.1 hx with hx | hx
    · exact (hY x hx).2
    · have := h4 x hx
      have := hk.size
      omega
theorem UpK.x {W w : World} {p : Nat} {a : Ar} (h : UpK W w p a) : UpX W [] w p a := by
  obtain ⟨⟨S, h1, h2⟩, h3⟩ := h
  exact ⟨⟨S, h1, fun q hq => ⟨h2 q hq, by simp⟩⟩, h3, by simp⟩
def ResX (W : World) (X : List Nat) (p : Nat) (a : Ar) (k : Int) (w : World) (e : Ending) (w' : World) : Prop := ∃ x er a', e = .returned (.tuple #[.int .i64 x, .int .i64 er]) ∧ Res a k x er a' ∧ UpX W X w' p a' ∧ KeptX X w w'
theorem x_res (W : World) (X : List Nat) (w : World) (p : Nat) (a : Ar) (h : UpX W X w p a) (hi : Inv a) (hts : a.ts.length ≤ 1000) (hr : 0 ≤ a.ref ∧ a.ref ≤ 100000) (k : Int) : Calls Try.prog 11 #[.pointer (some ⟨p, 0, none⟩), .int .i64 k] w (ResX W X p a k w) := by
  obtain ⟨⟨S, h1, h2⟩, h3, h4⟩ := h
  exact (reserve_any S w p a h1 hi hts hr k).mono fun e w' ⟨x, er, a', he, hR, hL⟩ => ⟨x, er, a', he, hR, UpX.left h2 h3 h4 hL⟩
def RelX (W : World) (X : List Nat) (p : Nat) (a : Ar) (t : Int) (w : World) (e : Ending) (w' : World) : Prop := ∃ er a', e = .returned (.int .i64 er) ∧ Rel a t er a' ∧ UpX W X w' p a' ∧ KeptX X w w'
theorem x_rel (W : World) (X : List Nat) (w : World) (p : Nat) (a : Ar) (h : UpX W X w p a) (hi : Inv a) (t : Int) : Calls Try.prog 12 #[.pointer (some ⟨p, 0, none⟩), .int .i64 t] w (RelX W X p a t w) := by
  obtain ⟨⟨S, h1, h2⟩, h3, h4⟩ := h
  exact (release_any S w p a h1 hi t).mono fun e w' ⟨er, a', he, hR, hL⟩ => ⟨er, a', he, hR, UpX.left h2 h3 h4 hL⟩
/-- A slice of regions that lies in the blocks X. -/
def ListX (X : List Nat) (w : World) (A : Option Addr) (ls : List RegT) : Prop := 0 < ls.length → ∃ g, g ∈ X ∧ A = some ⟨g, 0, none⟩ ∧ CellsG w g ls
theorem ListX.list {X : List Nat} {w : World} {A : Option Addr} {ls : List RegT} (h : ListX X w A ls) : ListG w A ls := fun h0 => by
  obtain ⟨g, _, e, hc⟩ := h h0
  exact ⟨g, e, hc⟩
theorem ListX.keep {X : List Nat} {w w' : World} {A : Option Addr} {ls : List RegT} (h : ListX X w A ls) (hk : KeptX X w w') : ListX X w' A ls := fun h0 => by
  obtain ⟨g, hg, e, hc⟩ := h h0
  have hb := hk.2 g hg
  exact ⟨g, hg, e, Nat.lt_of_lt_of_le hc.1 hk.1, fun i hi => by
    obtain ⟨h1, h2⟩ := hc.2 i hi
    exact ⟨(World.cell?_of_block hb).trans h1, (World.cell?_of_block hb).trans h2⟩⟩
theorem ListX.mono {X Y : List Nat} {w : World} {A : Option Addr} {ls : List RegT} (h : ListX X w A ls) (hY : ∀ x, x ∈ X → x ∈ Y) : ListX Y w A ls := fun h0 => by
  obtain ⟨g, hg, e, hc⟩ := h h0
  exact ⟨g, hY g hg, e, hc⟩
/-- What Regions hands on, put apart. -/
def RegsX (W : World) (X : List Nat) (p : Nat) (a : Ar) (w : World) (e : Ending) (w' : World) : Prop := ∃ (A : Option Addr) (c : Nat) (Y : List Nat), e = .returned (.slice A a.ls.length c) ∧ ListX Y w' A a.ls ∧ UpX W (Y ++ X) w' p a ∧ Kept [] w w'
theorem x_regs (W : World) (X : List Nat) (w : World) (p : Nat) (a : Ar) (h : UpX W X w p a) (hf : a.ls.length ≤ 64) : Calls Try.prog 16 #[.pointer (some ⟨p, 0, none⟩)] w (RegsX W X p a w) := by
  have h' := h
  obtain ⟨⟨S, h1, h2⟩, h3, h4⟩ := h
  refine (regions_ar S w p a h1 (by omega)).mono fun e w' ⟨⟨v, he, ho⟩, hk⟩ => ?_
  rcases ho.2 with ⟨rfl, h0⟩ | ⟨g, cap, cur, rfl, hb, hg, _⟩
  · exact ⟨none, 0, [], by rw [h0]; exact he, fun h => by omega, h'.more hk [] (fun y hy => by cases hy), hk⟩
  · refine ⟨_, cap, [g], he, fun _ => ⟨g, by simp, rfl, ho.cellsG⟩, h'.more hk [g] (fun y hy => ?_), hk⟩
    simp at hy
    subst hy
    exact ⟨hb, ho.cellsG.1⟩
end Go.Proofs.Ytekblfnemcaaeaa
