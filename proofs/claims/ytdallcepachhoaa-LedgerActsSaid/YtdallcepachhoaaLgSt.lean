/- A ledger in memory; place. -/
import Derived.Test.YtdallcepachhoaaLgMay
set_option linter.unusedVariables false
set_option linter.unusedSimpArgs false
namespace Go.Proofs.Ytdallcepachhoaa
open Go.RowKit
theorem OwnS.own_ty {α : Type} {enc : α → List Value} {K : Nat} {E : TypeId} {B : Nat} {w : World} {v : Value} {xs : List α} (h : OwnS B E K enc w v xs) : ∀ g, g ∈ own v → B ≤ g ∧ ∃ cur, Blk w g E cur := by
  intro q hq
  rcases h.2 with ⟨rfl, h0⟩ | ⟨g, cap, cur, rfl, hb, hg, _⟩
  · simp [own, Value.ownBlock] at hq
  · simp [own, Value.ownBlock] at hq
    subst hq
    exact ⟨hb, cur, hg⟩
/-- A ledger in memory: its blocks S. -/
def LgS (S : List Nat) (w : World) (p : Nat) (ls : List EntT) : Prop :=
  ∃ v, S = p :: own v ∧ Blk w p 43 #[v] ∧ OwnS (p + 1) 60 4 encE w v ls
theorem LgS.keep0 {S : List Nat} {w w' : World} {p : Nat} {ls : List EntT} (h : LgS S w p ls) (hk : Kept [] w w') : LgS S w' p ls := by
  obtain ⟨v, hS, hb, ho⟩ := h
  exact ⟨v, hS, hb.keep0 hk, ho.keep hk⟩
theorem LgS.keepS {S T : List Nat} {w w' : World} {p : Nat} {ls : List EntT} (h : LgS S w p ls) (hk : Kept T w w') (hT : ∀ q, q ∈ T → q ∉ S) : LgS S w' p ls := by
  obtain ⟨v, rfl, hb, ho⟩ := h
  exact ⟨v, rfl, hb.keep hk (fun hx => hT p hx (by simp)), ho.keepS hk (fun s hs => .inr (fun e => hT s hs (by simp [own, ← e])))⟩
theorem LgS.lt {S : List Nat} {w : World} {p : Nat} {ls : List EntT} (h : LgS S w p ls) : ∀ q, q ∈ S → q < w.heap.size := by
  obtain ⟨v, rfl, hb, ho⟩ := h
  intro q hq
  rcases List.mem_cons.1 hq with rfl | hq
  · exact hb.lt
  · obtain ⟨_, cur, hc⟩ := ho.own_ty q hq
    exact hc.lt
theorem LgS.ltp {S : List Nat} {w : World} {p : Nat} {ls : List EntT} (h : LgS S w p ls) : p < w.heap.size := h.lt p (by obtain ⟨v, rfl, _⟩ := h; simp)
def Grew (S S' : List Nat) (w : World) : Prop := ∀ q, q ∈ S' → q ∈ S ∨ w.heap.size ≤ q
theorem Grew.refl (S : List Nat) (w : World) : Grew S S w := fun q hq => .inl hq
theorem Grew.trans {S S' S'' : List Nat} {w w' : World} (h : Grew S S' w) (h' : Grew S' S'' w') (hz : w.heap.size ≤ w'.heap.size) : Grew S S'' w := fun q hq => by
  rcases h' q hq with h1 | h1
  · exact h q h1
  · right; omega
theorem Kept.grow {S S1 : List Nat} {w w1 w2 : World} (h : Kept S w w1) (hg : Grew S S1 w) (h2 : Kept S1 w1 w2) : Kept S w w2 :=
  h.trans h2 (fun x hx hl => by
    rcases hg x hx with h | h
    · exact h
    · omega)
/-- A ledger behind a call, seen from the world W ahead of it. -/
def LeftL (S : List Nat) (W : World) (p : Nat) (ls : List EntT) (w' : World) : Prop := ∃ S', LgS S' w' p ls ∧ Grew S S' W ∧ Kept S W w'
theorem LeftL.of {S : List Nat} {W : World} {p : Nat} {ls : List EntT} (h : LgS S W p ls) : LeftL S W p ls W := ⟨S, h, Grew.refl _ _, Kept.refl _ _⟩
theorem LeftL.then_ {S S1 : List Nat} {W w1 w2 : World} {p : Nat} {ls : List EntT} (hg : Grew S S1 W) (hk : Kept S W w1) (h : LeftL S1 w1 p ls w2) : LeftL S W p ls w2 := by
  obtain ⟨S2, h1, h2, h3⟩ := h
  exact ⟨S2, h1, hg.trans h2 hk.size, hk.grow hg h3⟩
theorem LeftL.keep0 {S : List Nat} {W w1 w2 : World} {p : Nat} {ls : List EntT} (h : LeftL S W p ls w1) (hk : Kept [] w1 w2) : LeftL S W p ls w2 := by
  obtain ⟨S2, h1, h2, h3⟩ := h
  exact ⟨S2, h1.keep0 hk, h2, hk.then_ h3⟩
theorem LeftL.ltp {S : List Nat} {W w : World} {p : Nat} {ls : List EntT} (h : LeftL S W p ls w) : p < w.heap.size := by
  obtain ⟨S', h1, _, _⟩ := h
  exact h1.ltp
/-- New entries are laid into a ledger. -/
theorem LgS.laid {S : List Nat} {w : World} {p : Nat} {ls : List EntT} (h : LgS S w p ls) : ∃ v, w.cell? ⟨p, 0, none⟩ = some v ∧ OwnS (p + 1) 60 4 encE w v ls ∧ (∀ q, q ∈ own v → q ∈ S) ∧
    ∀ w0 w' v' ls', Kept [] w w0 → Kept (own v) w0 w' → OwnS (p + 1) 60 4 encE w' v' ls' → (∀ g, g ∈ own v' → g ∈ own v ∨ w0.heap.size ≤ g) →
      w'.cell? ⟨p, 0, none⟩ = some v ∧ p < w'.heap.size ∧ w'.frozen? ⟨p, 0, none⟩ = false ∧ LeftL S w p ls' (w'.setCell ⟨p, 0, none⟩ v') := by
  obtain ⟨v, rfl, hb, ho⟩ := h
  refine ⟨v, hb.cell 0, ho, fun q hq => by simp [hq], fun w0 w' v' ls' hk0 hk ho' hg => ?_⟩
  have hB : ∀ q, q ∈ own v → p + 1 ≤ q := fun q hq => (ho.own_ty q hq).1
  have hpS : ∀ q, q < p + 1 → q ∉ own v := fun q hq hq' => by have := hB q hq'; omega
  have hb' := (hb.keep0 hk0).keep hk (hpS p (by omega))
  have hk2 : Kept [p] w' (w'.setCell ⟨p, 0, none⟩ v') := (Kept.refl [p] w').setIn (by simp) _
  have hk1 : Kept (own v) w w' := (hk0.mono (T := own v) (fun x hx _ => by cases hx)).trans hk (fun x hx _ => hx)
  refine ⟨hb'.cell 0, hb'.lt, hb'.frozen 0, _, ⟨v', rfl, hb'.set' rfl, ho'.keepS hk2 (fun s hs => .inl (by simp at hs; omega))⟩, fun q hq => ?_, ?_⟩
  · rcases List.mem_cons.1 hq with h | h
    · simp [h]
    · rcases hg q h with h | h
      · simp [h]
      · right; have := hk0.size; omega
  · exact (hk1.mono (T := p :: own v) (fun x hx _ => by simp [hx])).trans hk2 (fun x hx _ => by simp at hx; simp [hx])
/-- The entries' cells. -/
theorem LgS.ent {S : List Nat} {w : World} {p : Nat} {ls : List EntT} (h : LgS S w p ls) (j : Nat) (hj : j < ls.length) :
    ∃ g c, w.cell? ⟨p, 0, none⟩ = some (.slice (some ⟨g, 0, none⟩) ls.length c) ∧ ls.length ≤ c ∧ g ∈ S ∧ g ≠ p ∧ CellsG w g ls := by
  obtain ⟨v, rfl, hb, ho⟩ := h
  rcases ho.2 with ⟨rfl, h0⟩ | ⟨g, c, cur, rfl, hbg, hg, hnc, _⟩
  · omega
  · exact ⟨g, c, hb.cell 0, hnc, by simp [own, Value.ownBlock], by omega, ho.cellsG⟩
theorem LgS.len {S : List Nat} {w : World} {p : Nat} {ls : List EntT} (h : LgS S w p ls) : ∃ A c, w.cell? ⟨p, 0, none⟩ = some (.slice A ls.length c) := by
  obtain ⟨v, rfl, hb, ho⟩ := h
  obtain ⟨A, c, rfl, _⟩ := ho.slice
  exact ⟨A, c, hb.cell 0⟩
set_option maxHeartbeats 1000000 in
theorem search_nil (t : Int) (c : Nat) (w : World) : Calls Try.prog 41 #[.slice none 0 c, .int .u64 t, .func (.func 42) #[] #[]] w fun e w' => e = .returned (.tuple #[.int .i64 0, .bool false]) ∧ Kept [] w w' := by
  go_enter Try.func41, Try.ntmps41
  go_wp2_with fail
  go_loopw [9, 10] (fun v9 v10 wr => v9 = .int .i64 0 ∧ v10 = .int .i64 0 ∧ Kept [] w wr) (fun _ _ _ => 0)
  case atStart => exact ⟨rfl, rfl, Kept.refl _ _⟩
  case round =>
    obtain ⟨rfl, rfl, hkw⟩ := hrel
    go_wp2_with fail
    go_ret2
    exact ⟨rfl, hkw⟩
def hitG (ls : List EntT) (t : Int) (k : Nat) : Bool := decide (k < ls.length) && decide ((re ls k).1 = t)
theorem search_own (B : Nat) (v : Value) (ls : List EntT) (t : Int) (w : World) (ho : OwnS B 60 4 encE w v ls) (hn : ls.length ≤ 1000000) (k : Nat) (hk : AtG ls t k) :
    Calls Try.prog 41 #[v, .int .u64 t, .func (.func 42) #[] #[]] w fun e w' => e = .returned (.tuple #[.int .i64 k, .bool (hitG ls t k)]) ∧ Kept [] w w' := by
  rcases ho.2 with ⟨rfl, h0⟩ | ⟨g, cap, cur, rfl, hb, hg, hn1, hm, hs, ht⟩
  · obtain rfl := List.length_eq_zero_iff.1 h0
    have : k = 0 := by have := hk.1; simpa using this
    subst this
    exact search_nil t 0 w
  · exact search_any g cap ls t w ho.cellsG hn k hk
set_option maxHeartbeats 1000000 in
theorem place_any (S : List Nat) (w : World) (p : Nat) (ls : List EntT) (h : LgS S w p ls) (t : Int) (hn : ls.length ≤ 1000000) (k : Nat) (hk : AtG ls t k) (b : Bool) (hb' : hitG ls t k = b) :
    Calls Try.prog 24 #[.pointer (some ⟨p, 0, none⟩), .int .u64 t] w fun e w' => e = .returned (.tuple #[.int .i64 k, .bool b]) ∧ Kept [] w w' := by
  subst hb'
  obtain ⟨v, rfl, hb, ho⟩ := h
  have DS := Lib.hid (search_own (p + 1) v ls t w ho hn k hk)
  have c3 := hb.cell 0
  have hpl := hb.lt
  generalize hitG ls t k = b at DS
  clear ho hk
  go_enter Try.func24, Try.ntmps24
  go_wp2_with fail
  (with_reducible refine DS.out.mono ?_)
  rintro e w1 ⟨rfl, hb1⟩
  go_wp2_with fail
  go_ret2
  exact ⟨rfl, hb1⟩
end Go.Proofs.Ytdallcepachhoaa
