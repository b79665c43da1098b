/- Refuse, Given, Regions over an arena's state. -/
import Derived.Test.YtekblfnemcaaeaaArSt
set_option linter.unusedVariables false
set_option linter.unusedSimpArgs false
namespace Go.Proofs.Ytekblfnemcaaeaa
open Go.RowKit
theorem RowB.keep {w w' : World} {A : Option Addr} {bs : List Bool} (h : RowB w A bs) (hk : Kept [] w w') : RowB w' A bs := fun h0 => by
  obtain ⟨x, rfl, hc⟩ := h h0
  have h1 := cell_lt (hc 0 h0)
  rw [add_block] at h1
  exact ⟨x, rfl, fun i hi => (World.cell?_of_block (by rw [add_block]; exact hk.block x.block h1 (by simp))).trans (hc i hi)⟩
set_option maxHeartbeats 1000000 in
theorem refuse_full (S : List Nat) (w : World) (p : Nat) (a : Ar) (h : ArS S w p a) (A : Option Addr) (n c : Nat) (hl : a.ts.length ≤ 1000) (hn : 1000 < a.ts.length + n) (hn2 : n ≤ 140737488355328) :
    Calls Try.prog 15 #[.pointer (some ⟨p, 0, none⟩), .slice A n c] w fun e w' => e = .returned (.int .i64 4) ∧ Kept [] w w' := by
  obtain ⟨mp, mg, v, tv, hS, h1, h2, hb, hm, ho, ht⟩ := h
  obtain ⟨TA, tc, rfl⟩ := ht.len
  have hpl := hb.lt
  have c4 := hb.cell 4
  generalize a.ts.length = tl at *
  have q1 : (1000 : Int) < (tl : Int) + (n : Int) := by omega
  clear hb hm ho ht hS
  go_enter Try.func15, Try.ntmps15
  go_wp2_with fail
  go_ret
  exact ⟨rfl, by (repeat' (first | (with_reducible exact Kept.refl _ _) | (with_reducible assumption) | (with_reducible refine Kept.then_ (by with_reducible assumption) ?_) | (with_reducible refine Kept.thenS (by with_reducible assumption) ?_) | (with_reducible refine Kept.alloc ?_ _) | (with_reducible refine Kept.drew ?_) | (with_reducible refine Kept.drewN ?_ _) | (with_reducible refine Kept.setNew ?_ ?_ _) | ((try simp only [World.size_alloc, World.size_setCell, World.size_drew, size_drewN] at *); (try dsimp only); omega)))⟩
theorem refuse_run (S : List Nat) (w : World) (p : Nat) (a : Ar) (h : ArS S w p a) (A : Option Addr) (c : Nat) (ys : List Bool) (hr : RowB w A ys) (hc : A = none → c = 0) (hl : a.ts.length + ys.length ≤ 1000) :
    ∃ tv v' w', w.cell? ⟨p, 4, none⟩ = some tv ∧ w'.cell? ⟨p, 4, none⟩ = some tv ∧ (∃ TA tc, tv = .slice TA a.ts.length tc) ∧ (∃ A' n' c', v' = .slice A' n' c') ∧ p < w'.heap.size ∧ w'.frozen? ⟨p, 4, none⟩ = false ∧ (∀ ty, (Builtin.append_ #[32, 32] ty #[tv, .slice A ys.length c]).run Try.prog w = .ok v' w') ∧
      Turned S w p { a with ts := a.ts ++ ys } (.int .i64 0) (.returned (.int .i64 0)) (w'.setCell ⟨p, 4, none⟩ v') := by
  obtain ⟨n, lim, bs, ls, ts, ref⟩ := a
  obtain ⟨mp, mg, v, tv, rfl, h1, h2, hb, hm, ho, ht⟩ := h
  dsimp only at *
  have hpl := hb.lt
  obtain ⟨TA, tc, hte⟩ := ht.len
  obtain ⟨v', w', hrun, ht', hk, hg⟩ := run_app_told (p + 1) tv ts ys A c w ht (by omega) hr hc (by omega) 32
  have hrun' : ∀ ty, (Builtin.append_ #[32, 32] ty #[tv, .slice A ys.length c]).run Try.prog w = .ok v' w' := fun ty => by
    rw [← hrun]
    rfl
  have hB : ∀ q, q ∈ own tv → p + 1 ≤ q := fun q hq => (ht.own_ty q hq).1
  have hpS : ∀ q, q < p + 1 → q ∉ own tv := fun q hq hq' => by have := hB q hq'; omega
  have hb' := hb.keep hk (hpS p (by omega))
  have hne : ∀ q, q ∈ own v → q ∉ own tv := told_ne (S := []) (p := p) ho ht
  have hk2 : Kept [p] w' (w'.setCell ⟨p, 4, none⟩ v') := (Kept.refl [p] w').setIn (by simp) _
  refine ⟨tv, v', w', hb.cell 4, hb'.cell 4, ⟨TA, tc, hte⟩, (by obtain ⟨A', c', e⟩ := ht'.len; exact ⟨_, _, _, e⟩), hb'.lt, hb'.frozen 4, hrun', rfl, _, ⟨mp, mg, v, v', rfl, h1, h2, hb'.set' rfl, (hm.keepS hk (hpS _ (by omega)) (hpS _ (by omega))).keepS hk2 (by simp; omega) (by simp; omega), (ho.keepS hk (fun s hs => .inr ?_)).keepS hk2 (fun s hs => .inl (by simp at hs; omega)), ht'.keepS hk2 (fun s hs => .inl (by simp at hs; omega))⟩, ?_, ?_⟩
  · intro e
    exact hne s (by simp [own, ← e]) hs
  · intro q hq
    simp only [List.mem_cons, List.mem_append] at hq ⊢
    rcases hq with h | h | h | h | h
    · simp [h]
    · simp [h]
    · simp [h]
    · simp [h]
    · rcases hg q h with h | h
      · simp [h]
      · exact .inr h
  · exact (hk.mono (T := p :: mp :: mg :: (own v ++ own tv)) (fun x hx _ => by simp [hx])).trans hk2 (fun x hx _ => by simp at hx; simp [hx])
set_option maxHeartbeats 1000000 in
theorem refuse_ok (S : List Nat) (w : World) (p : Nat) (a : Ar) (h : ArS S w p a) (A : Option Addr) (n c : Nat) (ys : List Bool) (hn : n = ys.length) (hr : RowB w A ys) (hc : A = none → c = 0) (hl : a.ts.length + ys.length ≤ 1000) :
    Calls Try.prog 15 #[.pointer (some ⟨p, 0, none⟩), .slice A n c] w (Turned S w p { a with ts := a.ts ++ ys } (.int .i64 0)) := by
  subst hn
  obtain ⟨tv, v', w1, c4, c4', ⟨TA, tc, rfl⟩, ⟨A', n', c', rfl⟩, hpl, f4, hrun, hT⟩ := refuse_run S w p a h A c ys hr hc hl
  have HR := Lib.hid hrun
  have HT := Lib.hid hT
  have hpl0 := h.ltp
  generalize a.ts.length = tl at *
  have q1 : (tl : Int) + (ys.length : Int) ≤ 1000 := by omega
  clear h hr hc hrun hT
  go_enter Try.func15, Try.ntmps15
  go_wp2_with (refine wpList_append_run2 (by rfl) (.tmp 22) (.tmp 23) 32 32 rfl (.slice TA tl tc) (.slice A ys.length c) rfl rfl (HR.out _) ?_)
  go_ret
  exact HT.out
theorem given_ar (S : List Nat) (w : World) (p : Nat) (a : Ar) (h : ArS S w p a) (hn : a.bs.length = a.n) (h64 : a.n ≤ 64) :
    Calls Try.prog 13 #[.pointer (some ⟨p, 0, none⟩)] w fun e w' => e = .returned (.int .i64 ((a.n : Int) - cntF a.bs)) ∧ Kept [] w w' := by
  obtain ⟨mp, mg, v, tv, rfl, h1, h2, hb, hm, ho, ht⟩ := h
  rw [← hn] at hb ⊢
  exact given_any p mp mg v _ tv _ a.bs w hb hm (by omega)
theorem refused_ar (S : List Nat) (w : World) (p : Nat) (a : Ar) (h : ArS S w p a) : Calls Try.prog 14 #[.pointer (some ⟨p, 0, none⟩)] w fun e w' => e = .returned (.int .i64 a.ref) ∧ Kept [] w w' := by
  obtain ⟨mp, mg, v, tv, rfl, h1, h2, hb, hm, ho, ht⟩ := h
  exact refused_any p v _ _ _ tv a.ref w hb
theorem regions_ar (S : List Nat) (w : World) (p : Nat) (a : Ar) (h : ArS S w p a) (hl : a.ls.length ≤ 1000000) : Calls Try.prog 16 #[.pointer (some ⟨p, 0, none⟩)] w fun e w' => CloneG w a.ls e w' ∧ Kept [] w w' := by
  obtain ⟨mp, mg, v, tv, rfl, h1, h2, hb, hm, ho, ht⟩ := h
  exact regions_any p (p + 1) v _ _ _ tv _ a.ls w hb ho hl
theorem find_ar (S : List Nat) (w : World) (p : Nat) (a : Ar) (h : ArS S w p a) (t : Int) (hn : a.ls.length ≤ 1000000) (k : Nat) (hk : AtG a.ls t k) :
    Calls Try.prog 29 #[.pointer (some ⟨p, 0, none⟩), .int .i64 t] w fun e w' => e = .returned (.tuple #[.int .i64 k, .bool (hitG a.ls t k)]) ∧ Kept [] w w' := by
  obtain ⟨mp, mg, v, tv, rfl, h1, h2, hb, hm, ho, ht⟩ := h
  exact find_any p (p + 1) v _ _ _ tv _ a.ls t w hb ho hn k hk
end Go.Proofs.Ytekblfnemcaaeaa
