/- A ledger that a law has made, apart from other blocks of the law; the example. -/
import Derived.Test.YtdallcepachhoaaLgAt
set_option linter.unusedVariables false
set_option linter.unusedSimpArgs false
namespace Go.Proofs.Ytdallcepachhoaa
open Go.RowKit
def LgX (W : World) (X : List Nat) (w : World) (p : Nat) (ls : List EntT) : Prop := (∃ S, LgS S w p ls ∧ ∀ q, q ∈ S → W.heap.size ≤ q ∧ q ∉ X) ∧ Kept [] W w ∧ (∀ x, x ∈ X → x < w.heap.size) ∧ LInv ls
def KeptX (X : List Nat) (w w' : World) : Prop := w.heap.size ≤ w'.heap.size ∧ ∀ x, x ∈ X → w'.heap[x]? = w.heap[x]?
theorem KeptX.trans {X : List Nat} {a b c : World} (h : KeptX X a b) (h' : KeptX X b c) : KeptX X a c := ⟨Nat.le_trans h.1 h'.1, fun x hx => (h'.2 x hx).trans (h.2 x hx)⟩
theorem KeptX.less {X : List Nat} {y : Nat} {w w' : World} (h : KeptX (y :: X) w w') : KeptX X w w' := ⟨h.1, fun x hx => h.2 x (by simp [hx])⟩
theorem KeptX.sub {X Y : List Nat} {w w' : World} (h : KeptX Y w w') (hs : ∀ x, x ∈ X → x ∈ Y) : KeptX X w w' := ⟨h.1, fun x hx => h.2 x (hs x hx)⟩
theorem blkX {X : List Nat} {w w' : World} {g : Nat} {t : TypeId} {cs : Array Value} (h : Blk w g t cs) (hk : KeptX X w w') (hg : g ∈ X) : Blk w' g t cs := (hk.2 g hg).trans h
namespace LgX
variable {W w w' : World} {X : List Nat} {p : Nat} {ls : List EntT}
theorem keep0 (h : LgX W X w p ls) (hk : Kept [] w w') : LgX W X w' p ls := by
  obtain ⟨⟨S, h1, h2⟩, h3, h4, h5⟩ := h
  exact ⟨⟨S, h1.keep0 hk, h2⟩, hk.then_ h3, fun x hx => by have := h4 x hx; have := hk.size; omega, h5⟩
theorem kept (h : LgX W X w p ls) : Kept [] W w := h.2.1
theorem inv (h : LgX W X w p ls) : LInv ls := h.2.2.2
theorem kx (h : LgX W X w p ls) (hk : Kept [] w w') : KeptX X w w' := ⟨hk.size, fun x hx => hk.block x (h.2.2.1 x hx) (by simp)⟩
theorem ltp (h : LgX W X w p ls) : p < w.heap.size := by
  obtain ⟨⟨S, h1, h2⟩, _⟩ := h
  exact h1.ltp
theorem left {S : List Nat} {ls' : List EntT} (hS : ∀ q, q ∈ S → W.heap.size ≤ q ∧ q ∉ X) (h3 : Kept [] W w) (h4 : ∀ x, x ∈ X → x < w.heap.size) (hi : LInv ls') (h : LeftL S w p ls' w') : LgX W X w' p ls' ∧ KeptX X w w' := by
  obtain ⟨S', k1, k2, k3⟩ := h
  refine ⟨⟨⟨S', k1, fun q hq => ?_⟩, h3.trans k3 (fun x hx hl => by have := (hS x hx).1; omega), fun x hx => by have := h4 x hx; have := k3.size; omega, hi⟩, k3.size, fun x hx => k3.block x (h4 x hx) (fun hs => (hS x hs).2 hx)⟩
  rcases k2 q hq with h | h
  · exact hS q h
  · exact ⟨by have := h3.size; omega, fun hx => by have := h4 q hx; omega⟩
/-- A new block is put apart. -/
theorem more (h : LgX W X w p ls) (hk : Kept [] w w') (y : Nat) (h1 : w.heap.size ≤ y) (h2 : y < w'.heap.size) : LgX W (y :: X) w' p ls := by
  obtain ⟨⟨S, k1, k2⟩, k3, k4, k5⟩ := h
  refine ⟨⟨S, k1.keep0 hk, fun q hq => ⟨(k2 q hq).1, fun hx => ?_⟩⟩, hk.then_ k3, fun x hx => ?_, k5⟩
  · rcases List.mem_cons.1 hx with hx | hx
    · have := k1.lt q hq
      omega
    · exact (k2 q hq).2 hx
  · rcases List.mem_cons.1 hx with hx | hx
    · omega
    · have := k4 x hx
      have := hk.size
      omega
theorem fewer (h : LgX W X w p ls) {Y : List Nat} (hs : ∀ x, x ∈ Y → x ∈ X) : LgX W Y w p ls := by
  obtain ⟨⟨S, k1, k2⟩, k3, k4, k5⟩ := h
  exact ⟨⟨S, k1, fun q hq => ⟨(k2 q hq).1, fun hx => (k2 q hq).2 (hs q hx)⟩⟩, k3, fun x hx => k4 x (hs x hx), k5⟩
end LgX
theorem linv_nil : LInv [] := ⟨fun e he => (by cases he), List.Pairwise.nil⟩
/-- A ledger that is made. -/
theorem lg_new (W w : World) (hk : Kept [] W w) : LgX W [] (w.alloc (.cells #[.slice none 0 0] 43)) w.heap.size [] :=
  ⟨⟨[w.heap.size], ⟨.slice none 0 0, rfl, Blk.new w _ _, OwnS.nil _ _ _⟩, fun q hq => by simp at hq; subst hq; exact ⟨hk.size, by simp⟩⟩, hk.alloc _, by simp, linv_nil⟩
/-- What Add answers, and leaves. -/
def AddR (ls : List EntT) (a n l : Int) (e : Int) (ls' : List EntT) : Prop :=
  (¬ May a n l ∧ e = 2 ∧ ls' = ls) ∨ (May a n l ∧ ¬ FreeL ls a (mx n) ∧ e = 6 ∧ ls' = ls) ∨ (May a n l ∧ FreeL ls a (mx n) ∧ e = 0 ∧ ∃ j, AtG ls a j ∧ ls' = ins ls j (a, n, l, false))
theorem mem_ins {ls : List EntT} {j : Nat} {x r : EntT} : r ∈ ins ls j x ↔ r = x ∨ r ∈ ls := by
  have e : ∀ q, q ∈ ls ↔ q ∈ ls.take j ∨ q ∈ ls.drop j := fun q => by rw [← List.mem_append, List.take_append_drop]
  unfold ins
  rw [List.mem_append, List.mem_cons, e r]
  constructor
  · rintro (h | h | h)
    · exact .inr (.inl h)
    · exact .inl h
    · exact .inr (.inr h)
  · rintro (h | h | h)
    · exact .inr (.inl h)
    · exact .inl h
    · exact .inr (.inr h)
theorem at_lists {ls : List EntT} {t : Int} {j : Nat} (h : AtG ls t j) : (∀ r, r ∈ ls.take j → r.1 < t) ∧ (∀ r, r ∈ ls.drop j → t ≤ r.1) := by
  obtain ⟨h1, h2, h3⟩ := h
  constructor
  · intro r hr
    obtain ⟨i, hi⟩ := List.mem_iff_getElem?.1 hr
    rw [List.getElem?_take] at hi
    split at hi
    · rename_i hij
      have := h2 i hij
      unfold re at this
      rw [hi] at this
      exact this
    · cases hi
  · intro r hr
    obtain ⟨i, hi⟩ := List.mem_iff_getElem?.1 hr
    rw [List.getElem?_drop] at hi
    have hl := (List.getElem?_eq_some_iff.1 hi).1
    have := h3 (j + i) (by omega) hl
    unfold re at this
    rw [hi] at this
    exact this
theorem ins_inv {ls : List EntT} (hi : LInv ls) (a n l : Int) (ha : 0 ≤ a) (hn : 0 ≤ n) (hm : May a n l) (hf : FreeL ls a (mx n)) (j : Nat) (hj : AtG ls a j) : LInv (ins ls j (a, n, l, false)) := by
  have hmx := mx_pos hn
  have hfree : ∀ e, e ∈ ls → ¬ (e.1 < a + mx n ∧ a < e.1 + mx e.2.1) := by
    rcases hf with h | h
    · omega
    · exact h.2
  refine ⟨fun r hr => ?_, ?_⟩
  · rcases mem_ins.1 hr with rfl | hr
    · exact ⟨ha, hn, hm⟩
    · exact hi.1 r hr
  · obtain ⟨h1, h2⟩ := at_lists hj
    have hp := hi.2
    rw [← List.take_append_drop j ls, List.pairwise_append] at hp
    obtain ⟨p1, p2, p3⟩ := hp
    unfold ins
    rw [List.pairwise_append, List.pairwise_cons]
    refine ⟨p1, ⟨fun r hr => ?_, p2⟩, fun x hx y hy => ?_⟩
    · have h3 := h2 r hr
      have hm := List.mem_of_mem_drop hr
      have h4 := hfree r hm
      have h5 := mx_pos (hi.1 r hm).2.1
      show a + mx n ≤ r.1
      omega
    · have h3 := h1 x hx
      have hm := List.mem_of_mem_take hx
      have h4 := hfree x hm
      have h6 : x.1 + mx x.2.1 ≤ a := by omega
      rcases List.mem_cons.1 hy with rfl | hy
      · exact h6
      · have := h2 y hy
        omega
theorem AddR.ok {ls ls' : List EntT} {a n l e : Int} (h : AddR ls a n l e ls') (hi : LInv ls) (ha : 0 ≤ a) (hn : 0 ≤ n) : LInv ls' ∧ ls'.length ≤ ls.length + 1 := by
  rcases h with ⟨_, _, rfl⟩ | ⟨_, _, _, rfl⟩ | ⟨hm, hf, _, j, hj, rfl⟩
  · exact ⟨hi, by omega⟩
  · exact ⟨hi, by omega⟩
  · exact ⟨ins_inv hi a n l ha hn hm hf j hj, by rw [ins_len _ _ _ hj.1]; omega⟩
def AddX (W : World) (X : List Nat) (p : Nat) (ls : List EntT) (a n l : Int) (w : World) (e : Ending) (w' : World) : Prop := ∃ er ls', e = .returned (.int .i64 er) ∧ AddR ls a n l er ls' ∧ LgX W X w' p ls' ∧ KeptX X w w'
theorem x_add {W w : World} {X : List Nat} {p : Nat} {ls : List EntT} (h : LgX W X w p ls) (hll : ls.length ≤ 1000) (a n l : Int) (ha : 0 ≤ a ∧ a ≤ 18446744073709551615) (hn : 0 ≤ n ∧ n ≤ 18446744073709551615) (hl : 0 ≤ l ∧ l ≤ 18446744073709551615) :
    Calls Try.prog 15 #[.pointer (some ⟨p, 0, none⟩), .agg #[.int .u64 a, .int .u64 n, .int .u64 l]] w (AddX W X p ls a n l w) := by
  have h' := h
  obtain ⟨⟨S, h1, h2⟩, h3, h4, hi⟩ := h
  by_cases hm : May a n l
  · by_cases hf : FreeL ls a (mx n)
    · obtain ⟨j, hj⟩ := at_ex hi a
      exact (add_ok S w p ls h1 hi hll a n l ha hn hl hm hf j hj).mono fun e w' ⟨he, hL⟩ => ⟨0, _, he, .inr (.inr ⟨hm, hf, rfl, j, hj, rfl⟩), LgX.left h2 h3 h4 (ins_inv hi a n l ha.1 hn.1 hm hf j hj) hL⟩
    · exact (add_there S w p ls h1 hi hll a n l ha hn hl hm hf).mono fun e w' ⟨he, hk⟩ => ⟨6, _, he, .inr (.inl ⟨hm, hf, rfl, rfl⟩), h'.keep0 hk, h'.kx hk⟩
  · exact (add_arg S w p ls h1 a n l ha hn hl hm).mono fun e w' ⟨he, hk⟩ => ⟨2, _, he, .inl ⟨hm, rfl, rfl⟩, h'.keep0 hk, h'.kx hk⟩
def EachX (W : World) (X : List Nat) (p : Nat) (r : Int × List EntT) (w : World) (e : Ending) (w' : World) : Prop := e = .returned (.int .i64 r.1) ∧ LgX W X w' p r.2 ∧ KeptX X w w'
/-- A slice of addresses: ahead of the law, or new. -/
def NewZ (W w0 : World) (A : Option Addr) : Prop := ∀ x, A = some x → x.block < W.heap.size ∨ w0.heap.size ≤ x.block
theorem newZ_S {W w0 : World} {X S : List Nat} {p : Nat} {ls : List EntT} {A : Option Addr} (hA : NewZ W w0 A) (h1 : LgS S w0 p ls) (h2 : ∀ q, q ∈ S → W.heap.size ≤ q ∧ q ∉ X) : ∀ x, A = some x → x.block ∉ S := fun x hx hs => by
  rcases hA x hx with h | h
  · have := (h2 _ hs).1; omega
  · have := h1.lt _ hs; omega
theorem x_drop {W w0 w : World} {X : List Nat} {p : Nat} {ls : List EntT} (h : LgX W X w0 p ls) (hk : Kept [] w0 w) (hll : ls.length ≤ 1000) (A : Option Addr) (n c : Nat) (zs : List Int) (hn : n = zs.length) (hz : RowX .u64 w A zs) (hA : 0 < zs.length → NewZ W w0 A) (hzl : zs.length ≤ 9223372036854775807) :
    Calls Try.prog 17 #[.pointer (some ⟨p, 0, none⟩), .slice A n c] w (EachX W X p (eachP dropStep ls zs) w) := by
  have hw := h.keep0 hk
  obtain ⟨⟨S, h1, h2⟩, _, _, hi⟩ := h
  obtain ⟨_, h3, h4, _⟩ := hw
  exact (drop_any S w p ls (h1.keep0 hk) hi hll A n c zs hn hz (fun h0 => newZ_S (hA h0) h1 h2) hzl).mono fun e w' ⟨he, hL⟩ => ⟨he, LgX.left h2 h3 h4 (eachP_ok dropStep_ok zs ls hi).1 hL⟩
theorem x_hold {W w0 w : World} {X : List Nat} {p : Nat} {ls : List EntT} (h : LgX W X w0 p ls) (hk : Kept [] w0 w) (hll : ls.length ≤ 1000) (A : Option Addr) (n c : Nat) (zs : List Int) (hn : n = zs.length) (hz : RowX .u64 w A zs) (hA : 0 < zs.length → NewZ W w0 A) (hzl : zs.length ≤ 9223372036854775807) :
    Calls Try.prog 23 #[.pointer (some ⟨p, 0, none⟩), .slice A n c] w (EachX W X p (eachP (turnStep true 7) ls zs) w) := by
  have hw := h.keep0 hk
  obtain ⟨⟨S, h1, h2⟩, _, _, hi⟩ := h
  obtain ⟨_, h3, h4, _⟩ := hw
  exact (hold_any S w p ls (h1.keep0 hk) hi hll A n c zs hn hz (fun h0 => newZ_S (hA h0) h1 h2) hzl).mono fun e w' ⟨he, hL⟩ => ⟨he, LgX.left h2 h3 h4 (eachP_ok (turnStep_ok true 7) zs ls hi).1 hL⟩
theorem x_let {W w0 w : World} {X : List Nat} {p : Nat} {ls : List EntT} (h : LgX W X w0 p ls) (hk : Kept [] w0 w) (hll : ls.length ≤ 1000) (A : Option Addr) (n c : Nat) (zs : List Int) (hn : n = zs.length) (hz : RowX .u64 w A zs) (hA : 0 < zs.length → NewZ W w0 A) (hzl : zs.length ≤ 9223372036854775807) :
    Calls Try.prog 18 #[.pointer (some ⟨p, 0, none⟩), .slice A n c] w (EachX W X p (eachP (turnStep false 8) ls zs) w) := by
  have hw := h.keep0 hk
  obtain ⟨⟨S, h1, h2⟩, _, _, hi⟩ := h
  obtain ⟨_, h3, h4, _⟩ := hw
  exact (let_any S w p ls (h1.keep0 hk) hi hll A n c zs hn hz (fun h0 => newZ_S (hA h0) h1 h2) hzl).mono fun e w' ⟨he, hL⟩ => ⟨he, LgX.left h2 h3 h4 (eachP_ok (turnStep_ok false 8) zs ls hi).1 hL⟩
theorem x_at {W w : World} {X : List Nat} {p : Nat} {ls : List EntT} (h : LgX W X w p ls) (hll : ls.length ≤ 1000) (z : Int) (b : BlkT) (er : Int) (hr : atP ls z = (b, er)) :
    Calls Try.prog 20 #[.pointer (some ⟨p, 0, none⟩), .int .u64 z] w fun e w' => e = .returned (.tuple #[.agg #[.int .u64 b.1, .int .u64 b.2.1, .int .u64 b.2.2], .int .i64 er]) ∧ Kept [] w w' := by
  obtain ⟨⟨S, h1, h2⟩, h3, h4, hi⟩ := h
  exact at_any S w p ls h1 hi hll z (b, er) hr
theorem x_free {W w : World} {X : List Nat} {p : Nat} {ls : List EntT} (h : LgX W X w p ls) (hll : ls.length ≤ 1000) (a n : Int) (ha : 0 ≤ a ∧ a ≤ 18446744073709551615) (hn : 0 ≤ n ∧ n ≤ 18446744073709551615) (b : Bool) (hb : decide (FreeL ls a n) = b) :
    Calls Try.prog 13 #[.pointer (some ⟨p, 0, none⟩), .int .u64 a, .int .u64 n] w fun e w' => e = .returned (.bool b) ∧ Kept [] w w' := by
  obtain ⟨⟨S, h1, h2⟩, h3, h4, hi⟩ := h
  exact free_any S w p ls h1 hi hll a n ha hn b hb
theorem x_bytes {W w : World} {X : List Nat} {p : Nat} {ls : List EntT} (h : LgX W X w p ls) (hll : ls.length ≤ 1000) (r : Int) (hr : bytesL ls = r) :
    Calls Try.prog 14 #[.pointer (some ⟨p, 0, none⟩)] w fun e w' => e = .returned (.int .u64 r) ∧ Kept [] w w' := by
  obtain ⟨⟨S, h1, h2⟩, h3, h4, hi⟩ := h
  exact bytes_any S w p ls h1 hi hll r hr
/-- What All hands on. -/
def AllX (w : World) (ls : List EntT) (e : Ending) (w' : World) : Prop := ∃ A c, e = .returned (.slice A ls.length c) ∧ ListB (fun g => w.heap.size ≤ g) w' A (ls.map bk)
theorem x_all {W w : World} {X : List Nat} {p : Nat} {ls : List EntT} (h : LgX W X w p ls) (hll : ls.length ≤ 1000) :
    Calls Try.prog 12 #[.pointer (some ⟨p, 0, none⟩)] w fun e w' => AllX w ls e w' ∧ Kept [] w w' := by
  obtain ⟨⟨S, h1, h2⟩, h3, h4, hi⟩ := h
  refine (all_any S w p ls h1 hll).mono fun e w' ⟨⟨v, he, ho⟩, hk⟩ => ?_
  obtain ⟨A, c, rfl, hL⟩ := listB_of ho
  exact ⟨⟨A, c, by simpa using he, hL⟩, hk⟩
theorem drop_none (w : World) (A : Option Addr) (n c : Nat) : Calls Try.prog 17 #[.pointer none, .slice A n c] w fun e w' => e = .returned (.int .i64 1) ∧ Kept [] w w' := by
  have DE : Hid (∀ w v, Calls Try.prog 28 #[.pointer none, v, .slice A n c] w fun e w' => e = .returned (.int .i64 1) ∧ Kept [] w w') := Lib.hid (fun w v => by
    go_enter Try.func28, Try.ntmps28
    go_wp2_with fail
    go_ret
    exact ⟨rfl, by (repeat' (first | (with_reducible exact Kept.refl _ _) | (with_reducible assumption) | (with_reducible refine Kept.then_ (by with_reducible assumption) ?_) | (with_reducible refine Kept.thenS (by with_reducible assumption) ?_) | (with_reducible refine Kept.alloc ?_ _) | (with_reducible refine Kept.drew ?_) | (with_reducible refine Kept.drewN ?_ _) | (with_reducible refine Kept.setNew ?_ ?_ _) | ((try simp only [World.size_alloc, World.size_setCell, World.size_drew, size_drewN] at *); (try dsimp only); omega)))⟩)
  go_enter Try.func17, Try.ntmps17
  go_wp2_with fail
  (with_reducible refine (DE.out _ _).mono ?_)
  rintro e w1 ⟨rfl, hb1⟩
  go_wp2_with fail
  go_ret
  exact ⟨rfl, by (repeat' (first | (with_reducible exact Kept.refl _ _) | (with_reducible assumption) | (with_reducible refine Kept.then_ (by with_reducible assumption) ?_) | (with_reducible refine Kept.thenS (by with_reducible assumption) ?_) | (with_reducible refine Kept.alloc ?_ _) | (with_reducible refine Kept.drew ?_) | (with_reducible refine Kept.drewN ?_ _) | (with_reducible refine Kept.setNew ?_ ?_ _) | ((try simp only [World.size_alloc, World.size_setCell, World.size_drew, size_drewN] at *); (try dsimp only); omega)))⟩
end Go.Proofs.Ytdallcepachhoaa
