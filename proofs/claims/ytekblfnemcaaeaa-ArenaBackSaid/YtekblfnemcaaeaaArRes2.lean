/- Reserve: the rest. -/
import Derived.Test.YtekblfnemcaaeaaArRes
set_option linter.unusedVariables false
set_option linter.unusedSimpArgs false
namespace Go.Proofs.Ytekblfnemcaaeaa
open Go.RowKit
theorem LeftA.takes_full {S : List Nat} {W w : World} {p : Nat} {a : Ar} (h : LeftA S W p a w) (k : Nat) (h1 : 1 ≤ k) (h2 : k ≤ a.bs.length) (hno : ∀ b, ¬ FreeAt a.bs b k) :
    ∃ mp, w.cell? ⟨p, 0, none⟩ = some (.pointer (some ⟨mp, 0, none⟩)) ∧ Calls Try.prog 28 #[.pointer (some ⟨mp, 0, none⟩), .int .i64 k] w fun e w' => e = .returned (.tuple #[.int .i64 0, .int .i64 4]) ∧ Kept [] w w' := by
  obtain ⟨S', h3, _, _⟩ := h
  obtain ⟨mp, mg, c0, hm, _⟩ := h3.marks
  exact ⟨mp, c0, take_full w mp mg a.bs hm k h1 h2 hno⟩
theorem LeftA.takes_at {S : List Nat} {W w : World} {p : Nat} {a : Ar} (h : LeftA S W p a w) (k at_ : Nat) (h1 : 1 ≤ k) (hf : FreeAt a.bs at_ k) (hno : ∀ b, b < at_ → ¬ FreeAt a.bs b k) :
    ∃ mp, w.cell? ⟨p, 0, none⟩ = some (.pointer (some ⟨mp, 0, none⟩)) ∧ Calls Try.prog 28 #[.pointer (some ⟨mp, 0, none⟩), .int .i64 k] w fun e w' => e = .returned (.tuple #[.int .i64 at_, .int .i64 0]) ∧ LeftA S W p { a with bs := put a.bs at_ k true } w' := by
  obtain ⟨S', h3, h4, h5⟩ := h
  obtain ⟨mp, mg, c0, hm, hmk⟩ := h3.marks
  refine ⟨mp, c0, (take_at w mp mg a.bs hm k at_ h1 hf hno).mono fun e w' ⟨he, hm', hk⟩ => ⟨he, S', (hmk w' _ hk hm').1, h4, h5.grow h4 (hmk w' _ hk hm').2⟩⟩
theorem LeftA.free_at {S : List Nat} {W w : World} {p : Nat} {a : Ar} (h : LeftA S W p a w) (k at_ : Nat) (h1 : 1 ≤ k) (ho : at_ + k ≤ a.bs.length) (hall : AllAt a.bs at_ k true) :
    ∃ mp, w.cell? ⟨p, 0, none⟩ = some (.pointer (some ⟨mp, 0, none⟩)) ∧ Calls Try.prog 31 #[.pointer (some ⟨mp, 0, none⟩), .int .i64 at_, .int .i64 k] w fun e w' => e = .returned (.int .i64 0) ∧ LeftA S W p { a with bs := put a.bs at_ k false } w' := by
  obtain ⟨S', h3, h4, h5⟩ := h
  obtain ⟨mp, mg, c0, hm, hmk⟩ := h3.marks
  refine ⟨mp, c0, (free_ok w mp mg a.bs hm at_ k h1 ho hall).mono fun e w' ⟨he, hm', hk⟩ => ⟨he, S', (hmk w' _ hk hm').1, h4, h5.grow h4 (hmk w' _ hk hm').2⟩⟩
theorem LeftA.find {S : List Nat} {W w : World} {p : Nat} {a : Ar} (h : LeftA S W p a w) (t : Int) (hl : a.ls.length ≤ 1000) (k : Nat) (hk : AtG a.ls t k) (hit : Bool) (hh : hitG a.ls t k = hit) :
    Calls Try.prog 29 #[.pointer (some ⟨p, 0, none⟩), .int .i64 t] w fun e w' => e = .returned (.tuple #[.int .i64 k, .bool hit]) ∧ Kept [] w w' := by
  obtain ⟨S', h3, h4, h5⟩ := h
  subst hh
  exact find_ar S' w p a h3 t (by omega) k hk
/-- What Insert leaves. -/
def InsA (S : List Nat) (W : World) (p : Nat) (a' : Ar) (v : Value) (e : Ending) (w' : World) : Prop :=
  ∃ A' n' c', e = .returned (.slice A' n' c') ∧ w'.cell? ⟨p, 3, none⟩ = some v ∧ p < w'.heap.size ∧ w'.frozen? ⟨p, 3, none⟩ = false ∧ LeftA S W p a' (w'.setCell ⟨p, 3, none⟩ (.slice A' n' c'))
theorem LeftA.insert {S : List Nat} {W w : World} {p : Nat} {a : Ar} (h : LeftA S W p a w) (j : Nat) (x : RegT) (hj : j ≤ a.ls.length) (hl : a.ls.length ≤ 1000) :
    ∃ A n c, w.cell? ⟨p, 3, none⟩ = some (.slice A n c) ∧ Calls Try.prog 30 #[.slice A n c, .int .i64 j, .slice (some ⟨w.heap.size, 0, none⟩) 1 1] (w.alloc (.cells #[.int .i64 x.1, .int .i64 x.2] 39)) (InsA S W p { a with ls := ins a.ls j x } (.slice A n c)) := by
  obtain ⟨S', h3, h4, h5⟩ := h
  obtain ⟨v, c3, ho, hS, hlaid⟩ := h3.laid
  obtain ⟨A, c, rfl, _, _, _, _, hAB⟩ := ho.slice
  have hpl := h3.ltp
  have hk0 : Kept [] w (w.alloc (.cells #[.int .i64 x.1, .int .i64 x.2] 39)) := (Kept.refl [] w).alloc _
  refine ⟨A, _, c, c3, (insert_any (p + 1) w.heap.size j _ a.ls x _ (ho.keep hk0) (Blk.new w _ _) (fun hq => ?_) hj (by omega) (by simp; omega)).mono ?_⟩
  · have := h3.lt _ (hS _ hq)
    omega
  · rintro e w' ⟨v', rfl, ho', hk', hg'⟩
    obtain ⟨A', c', rfl, _, _, _, _, _⟩ := ho'.slice
    obtain ⟨k1, k2, k3, k4⟩ := hlaid _ w' _ _ hk0 hk' ho' hg'
    exact ⟨A', _, c', rfl, k1, k2, k3, LeftA.then_ h4 h5 k4⟩
theorem LeftA.delete {S : List Nat} {W w : World} {p : Nat} {a : Ar} (h : LeftA S W p a w) (j : Nat) (hj : j < a.ls.length) (hl : a.ls.length ≤ 1000) :
    ∃ A n c, w.cell? ⟨p, 3, none⟩ = some (.slice A n c) ∧ Calls Try.prog 32 #[.slice A n c, .int .i64 j, .int .i64 ((j : Int) + 1)] w (InsA S W p { a with ls := a.ls.eraseIdx j } (.slice A n c)) := by
  obtain ⟨S', h3, h4, h5⟩ := h
  obtain ⟨v, c3, ho, hS, hlaid⟩ := h3.laid
  have ho2 := ho.2
  rcases ho2 with ⟨rfl, h0⟩ | ⟨g, c, cur, rfl, hb, _⟩
  · omega
  · refine ⟨_, _, c, c3, (delete_one (p + 1) g c j a.ls w hj hl ho).mono ?_⟩
    rintro e w' ⟨⟨rfl, ho'⟩, hk'⟩
    obtain ⟨k1, k2, k3, k4⟩ := hlaid w w' _ _ (Kept.refl _ _) (by simpa [own, Value.ownBlock] using hk') ho' (fun q hq => .inl hq)
    exact ⟨_, _, c, rfl, k1, k2, k3, LeftA.then_ h4 h5 k4⟩
/-- The regions' cells. -/
theorem LeftA.reg {S : List Nat} {W w : World} {p : Nat} {a : Ar} (h : LeftA S W p a w) (j : Nat) (hj : j < a.ls.length) :
    ∃ g c, w.cell? ⟨p, 3, none⟩ = some (.slice (some ⟨g, 0, none⟩) a.ls.length c) ∧ w.cell? ⟨g, j * 2, none⟩ = some (.int .i64 (rg a.ls j).1) ∧ w.cell? ⟨g, j * 2 + 1, none⟩ = some (.int .i64 (rg a.ls j).2) ∧ g < w.heap.size := by
  obtain ⟨S', h3, h4, h5⟩ := h
  obtain ⟨v, c3, ho, hS, hlaid⟩ := h3.laid
  have ho2 := ho.2
  rcases ho2 with ⟨rfl, h0⟩ | ⟨g, c, cur, rfl, hb, hg, _⟩
  · omega
  · obtain ⟨h7, h8⟩ := ho.cellsG
    exact ⟨g, c, c3, (h8 j hj).1, (h8 j hj).2, h7⟩
end Go.Proofs.Ytekblfnemcaaeaa
