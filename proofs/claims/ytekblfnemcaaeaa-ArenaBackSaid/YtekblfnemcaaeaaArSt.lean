/- An arena's state in memory; next, Refuse. -/
import Derived.Test.YtekblfnemcaaeaaArTold
set_option linter.unusedVariables false
set_option linter.unusedSimpArgs false
namespace Go.Proofs.Ytekblfnemcaaeaa
open Go.RowKit
/-- An arena, plain. -/
structure Ar where
  n : Nat
  lim : Int
  bs : List Bool
  ls : List RegT
  ts : List Bool
  ref : Int
/-- An arena in memory: its blocks S. -/
def ArS (S : List Nat) (w : World) (p : Nat) (a : Ar) : Prop :=
  ∃ (mp mg : Nat) (v tv : Value), S = p :: mp :: mg :: (own v ++ own tv) ∧ mp < p ∧ mg < p ∧ Blk w p 62 #[.pointer (some ⟨mp, 0, none⟩), .int .i64 a.n, .int .i64 a.lim, v, tv, .int .i64 a.ref] ∧ MarkB w mp mg a.bs ∧ OwnS (p + 1) 39 2 encG w v a.ls ∧ ToldS (p + 1) w tv a.ts
theorem MarkB.keepS {S : List Nat} {w w' : World} {p g : Nat} {bs : List Bool} (h : MarkB w p g bs) (hk : Kept S w w') (hp : p ∉ S) (hg : g ∉ S) : MarkB w' p g bs := MarkR.keep h hk hp hg
theorem ArS.keep0 {S : List Nat} {w w' : World} {p : Nat} {a : Ar} (h : ArS S w p a) (hk : Kept [] w w') : ArS S w' p a := by
  obtain ⟨mp, mg, v, tv, hS, h1, h2, hb, hm, ho, ht⟩ := h
  exact ⟨mp, mg, v, tv, hS, h1, h2, hb.keep0 hk, hm.keep0 hk, ho.keep hk, ht.keepS hk (fun s hs => by cases hs)⟩
theorem ArS.keepS {S T : List Nat} {w w' : World} {p : Nat} {a : Ar} (h : ArS S w p a) (hk : Kept T w w') (hT : ∀ q, q ∈ T → q ∉ S) : ArS S w' p a := by
  obtain ⟨mp, mg, v, tv, rfl, h1, h2, hb, hm, ho, ht⟩ := h
  have hx : ∀ q, q ∈ p :: mp :: mg :: (own v ++ own tv) → q ∉ T := fun q hq hq' => hT q hq' hq
  refine ⟨mp, mg, v, tv, rfl, h1, h2, hb.keep hk (hx _ (by simp)), hm.keepS hk (hx _ (by simp)) (hx _ (by simp)), ho.keepS hk (fun s hs => .inr (fun e => hT s hs ?_)), ht.keepS hk (fun s hs => .inr (fun e => hT s hs (by simp [e])))⟩
  simp [own, ← e]
theorem ArS.lt {S : List Nat} {w : World} {p : Nat} {a : Ar} (h : ArS S w p a) : ∀ q, q ∈ S → q < w.heap.size := by
  obtain ⟨mp, mg, v, tv, rfl, h1, h2, hb, hm, ho, ht⟩ := h
  intro q hq
  have hp := hb.lt
  simp only [List.mem_cons, List.mem_append] at hq
  rcases hq with rfl | rfl | rfl | hq | hq
  · exact hp
  · omega
  · omega
  · obtain ⟨_, cur, hc⟩ := ho.own_ty q hq
    exact hc.lt
  · obtain ⟨_, cur, hc⟩ := ht.own_ty q hq
    exact hc.lt
theorem ArS.ltp {S : List Nat} {w : World} {p : Nat} {a : Ar} (h : ArS S w p a) : p < w.heap.size := h.lt p (by obtain ⟨mp, mg, v, tv, rfl, _⟩ := h; simp)
/-- Blocks that are new, or were an arena's. -/
def Grew (S S' : List Nat) (w : World) : Prop := ∀ q, q ∈ S' → q ∈ S ∨ w.heap.size ≤ q
theorem Grew.refl (S : List Nat) (w : World) : Grew S S w := fun q hq => .inl hq
theorem Grew.trans {S S' S'' : List Nat} {w w' : World} (h : Grew S S' w) (h' : Grew S' S'' w') (hz : w.heap.size ≤ w'.heap.size) : Grew S S'' w := fun q hq => by
  rcases h' q hq with h1 | h1
  · exact h q h1
  · right; omega
theorem told_ne {S : List Nat} {w : World} {B p : Nat} {v tv : Value} {ls : List RegT} {ts : List Bool} (ho : OwnS B 39 2 encG w v ls) (ht : ToldS B w tv ts) : ∀ q, q ∈ own v → q ∉ own tv := by
  intro q hq hq'
  obtain ⟨_, c1, b1⟩ := ho.own_ty q hq
  obtain ⟨_, c2, b2⟩ := ht.own_ty q hq'
  exact b1.ne_ b2 (by decide) rfl
/-- What a call leaves that turns an arena: an answer, and the arena. -/
def Turned (S : List Nat) (W : World) (p : Nat) (a' : Ar) (r : Value) (e : Ending) (w' : World) : Prop := e = .returned r ∧ ∃ S', ArS S' w' p a' ∧ Grew S S' W ∧ Kept S W w'
set_option maxHeartbeats 1000000 in
theorem next_any (S : List Nat) (w : World) (p : Nat) (a : Ar) (h : ArS S w p a) (hl : a.ts.length ≤ 1000) (nv : Bool) (hn : a.ts.headD false = nv) :
    Calls Try.prog 27 #[.pointer (some ⟨p, 0, none⟩)] w (Turned S w p { a with ts := a.ts.tail } (.bool nv)) := by
  obtain ⟨n, lim, bs, ls, ts, ref⟩ := a
  obtain ⟨mp, mg, v, tv, rfl, h1, h2, hb, hm, ho, ht⟩ := h
  dsimp only at *
  subst hn
  have hpl := hb.lt
  have c4 := hb.cell 4
  have f4 := hb.frozen 4
  rcases ht with ⟨rfl, rfl⟩ | ⟨g, off, c, cur, rfl, hbg, hg, htc, hcm, hs, hcs⟩
  · have R : Turned (p :: mp :: mg :: (own v ++ own (.slice none 0 0))) w p { n := n, lim := lim, bs := bs, ls := ls, ts := List.tail [], ref := ref } (.bool (List.headD [] false)) (.returned (.bool false)) w :=
      ⟨rfl, _, ⟨mp, mg, v, _, rfl, h1, h2, hb, hm, ho, .inl ⟨rfl, rfl⟩⟩, Grew.refl _ _, Kept.refl _ _⟩
    have HR := Lib.hid R
    clear R hb hm ho
    go_enter Try.func27, Try.ntmps27
    go_wp2_with fail
    go_ret
    exact HR.out
  · cases ts with
    | nil =>
      have R : Turned (p :: mp :: mg :: (own v ++ own (.slice (some ⟨g, off, none⟩) ([] : List Bool).length c))) w p { n := n, lim := lim, bs := bs, ls := ls, ts := List.tail [], ref := ref } (.bool (List.headD [] false)) (.returned (.bool false)) w :=
        ⟨rfl, _, ⟨mp, mg, v, _, rfl, h1, h2, hb, hm, ho, .inr ⟨g, off, c, cur, rfl, hbg, hg, htc, hcm, hs, hcs⟩⟩, Grew.refl _ _, Kept.refl _ _⟩
      have HR := Lib.hid R
      simp only [List.length_nil] at c4
      clear R hb hm ho hg hcs htc hs hcm
      go_enter Try.func27, Try.ntmps27
      go_wp2_with fail
      go_ret
      exact HR.out
    | cons b ts =>
      have hc0 : w.cell? ⟨g, off, none⟩ = some (.bool b) := by
        rw [hg.cell]
        have := hcs 0 (by simp)
        simpa using this
      have hgl := hg.lt
      have hne : g ≠ p := by omega
      simp only [List.length_cons] at *
      have hcm' : c ≤ 9223372036854775807 := by unfold maxLen at hcm; omega
      have hlen : ts.length + 1 ≤ c := htc
      have fin : ∀ off', off' = off + 1 ∨ (off' = off ∧ c = 1) → Turned (p :: mp :: mg :: (own v ++ own (.slice (some ⟨g, off, none⟩) (ts.length + 1) c))) w p { n := n, lim := lim, bs := bs, ls := ls, ts := List.tail (b :: ts), ref := ref } (.bool (List.headD (b :: ts) false)) (.returned (.bool b)) (w.setCell ⟨p, 4, none⟩ (.slice (some ⟨g, off', none⟩) ts.length (c - 1))) := fun off' hoff => by
        have hk : Kept [p] w (w.setCell ⟨p, 4, none⟩ (.slice (some ⟨g, off', none⟩) ts.length (c - 1))) := (Kept.refl [p] w).setIn (by simp) _
        refine ⟨rfl, _, ⟨mp, mg, v, .slice (some ⟨g, off', none⟩) ts.length (c - 1), rfl, h1, h2, hb.set' rfl, hm.keepS hk (by simp; omega) (by simp; omega), ho.keepS hk (fun s hs => .inl (by simp at hs; omega)), .inr ⟨g, off', c - 1, cur, rfl, hbg, hg.keep hk (by simpa using hne), ?_, ?_, ?_, ?_⟩⟩, fun q hq => .inl (by simpa [own, Value.ownBlock] using hq), hk.mono (fun x hx _ => by simp at hx; simp [hx])⟩
        · simp only [List.tail_cons]; omega
        · unfold maxLen at hcm ⊢; omega
        · omega
        · intro i hi
          simp only [List.tail_cons] at hi ⊢
          rcases hoff with rfl | ⟨rfl, rfl⟩
          · have := hcs (i + 1) (by simp; omega)
            rw [show off + (i + 1) = off + 1 + i by omega] at this
            simpa using this
          · omega
      have FIN := Lib.hid fin
      clear fin hb hm ho hg hcs htc hs hcm
      by_cases hc1 : c = 1
      · subst hc1
        have q1 : ((ts.length + 1 : Nat) : Int) ≤ 1 := by omega
        have e0 : ts.length = 0 := by omega
        rw [e0] at c4 FIN
        have HR := Lib.hid (FIN.out off (.inr ⟨rfl, rfl⟩))
        clear FIN e0 hlen
        go_enter Try.func27, Try.ntmps27
        go_wp2_with fail
        go_ret
        exact HR.out
      · have hcb : ¬ (c = 1) := hc1
        have q1 : (1 : Int) ≤ (ts.length : Int) + 1 := by omega
        have q2 : (1 : Int) ≤ (c : Int) := by omega
        have q3 : (0 : Int) < (ts.length : Int) + 1 := by omega
        have HR := Lib.hid (FIN.out (off + 1) (.inl rfl))
        clear FIN
        go_enter Try.func27, Try.ntmps27
        go_wp2_with fail
        go_ret
        exact HR.out
end Go.Proofs.Ytekblfnemcaaeaa
