/- Two ledgers of one law: made, blocks more put apart; a law's list of blocks. -/
import Derived.Test.YtdallcepachhoaaLgTwo
import Derived.Test.YtdallcepachhoaaLgLay
import Derived.Test.YtdallcepachhoaaLgSame
set_option linter.unusedVariables false
set_option linter.unusedSimpArgs false
namespace Go.Proofs.Ytdallcepachhoaa
open Go.RowKit
theorem two_new (W w w' : World) (X : List Nat) (hk : Kept [] W w) (h : Kept [] ((w.alloc (.cells #[.slice none 0 0] 43)).alloc (.cells #[.slice none 0 0] 43)) w') (hX : ∀ x, x ∈ X → w.heap.size + 2 ≤ x ∧ x < w'.heap.size) :
    Two W X w' w.heap.size [] (w.heap.size + 1) [] := by
  have hs := hk.size
  have e : (w.alloc (.cells #[.slice none 0 0] 43)).heap.size = w.heap.size + 1 := by simp
  refine ⟨⟨[w.heap.size], [w.heap.size + 1], LgS.keep0 ⟨.slice none 0 0, rfl, (Blk.new w _ _).alloc _, OwnS.nil _ _ _⟩ h, LgS.keep0 ⟨.slice none 0 0, rfl, Blk.new' _ _ _ e.symm, OwnS.nil _ _ _⟩ h, fun x hx => ?_, fun x hx => ?_, fun x hx => ?_⟩, h.then_ ((hk.alloc _).alloc _), fun x hx => (hX x hx).2, linv_nil, linv_nil⟩
  · simp at hx ⊢; omega
  · simp at hx; subst hx; exact ⟨hs, fun hx => by have := (hX _ hx).1; omega⟩
  · simp at hx; subst hx; exact ⟨by omega, fun hx => by have := (hX _ hx).1; omega⟩
theorem Two.more {W w w' : World} {X : List Nat} {p q : Nat} {ls ms : List EntT} (h : Two W X w p ls q ms) (hk : Kept [] w w') (Y : List Nat) (hY : ∀ y, y ∈ Y → w.heap.size ≤ y ∧ y < w'.heap.size) : Two W (X ++ Y) w' p ls q ms := by
  obtain ⟨⟨S, T, h1, h2, h3, h4, h5⟩, h6, h7, h8, h9⟩ := h
  refine ⟨⟨S, T, h1.keep0 hk, h2.keep0 hk, h3, fun x hx => ⟨(h4 x hx).1, fun hm => ?_⟩, fun x hx => ⟨(h5 x hx).1, fun hm => ?_⟩⟩, hk.then_ h6, fun x hx => ?_, h8, h9⟩
  · rcases List.mem_append.1 hm with hm | hm
    · exact (h4 x hx).2 hm
    · have := (hY x hm).1; have := h1.lt x hx; omega
  · rcases List.mem_append.1 hm with hm | hm
    · exact (h5 x hx).2 hm
    · have := (hY x hm).1; have := h2.lt x hx; omega
  · rcases List.mem_append.1 hx with hx | hx
    · have := h7 x hx; have := hk.size; omega
    · exact (hY x hx).2
theorem Two.kept {W w : World} {X : List Nat} {p q : Nat} {ls ms : List EntT} (h : Two W X w p ls q ms) : Kept [] W w := h.2.1
theorem Two.ltp {W w : World} {X : List Nat} {p q : Nat} {ls ms : List EntT} (h : Two W X w p ls q ms) : p < w.heap.size ∧ q < w.heap.size := ⟨h.one.ltp, h.swap.one.ltp⟩
theorem Two.kx {W w w' : World} {X : List Nat} {p q : Nat} {ls ms : List EntT} (h : Two W X w p ls q ms) (hk : Kept [] w w') : KeptX X w w' := h.one.kx hk
theorem ListB.keepX {X : List Nat} {w w' : World} {A : Option Addr} {ls : List BlkT} (h : ListB (fun g => g ∈ X) w A ls) (hk : KeptX X w w') : ListB (fun g => g ∈ X) w' A ls := fun h0 => by
  obtain ⟨g, hx, e, hc⟩ := h h0
  exact ⟨g, hx, e, hc.keepX hk hx⟩
theorem ListB.sub {X Y : List Nat} {w : World} {A : Option Addr} {ls : List BlkT} (h : ListB (fun g => g ∈ X) w A ls) (hs : ∀ x, x ∈ X → x ∈ Y) : ListB (fun g => g ∈ Y) w A ls := fun h0 => by
  obtain ⟨g, hx, e, hc⟩ := h h0
  exact ⟨g, hs g hx, e, hc⟩
theorem own_list {B : Nat} {w : World} {v : Value} {ls : List BlkT} (ho : OwnS B 33 3 encB w v ls) :
    ∃ A c, v = .slice A ls.length c ∧ (A = none → c = 0) ∧ ls.length ≤ c ∧ RowS encB w A ls ∧ ListB (fun g => g ∈ own v) w A ls ∧ (∀ x, A = some x → x.off = 0 ∧ x.spot = none) ∧ ∀ x, x ∈ own v → B ≤ x ∧ x < w.heap.size := by
  obtain ⟨A, c, rfl, h1, h2, h3, h4, h5⟩ := ho.slice
  have h6 : ∀ x, x ∈ own (.slice A ls.length c) → B ≤ x ∧ x < w.heap.size := fun x hx => by
    obtain ⟨k1, cur, k2⟩ := ho.own_ty x hx
    exact ⟨k1, k2.lt⟩
  refine ⟨A, c, rfl, h1, h2, h4, fun h0 => ?_, fun x hx => (h5 x hx).2, h6⟩
  rcases ho.2 with ⟨h7, h8⟩ | ⟨g, cap, cur, h7, hb, _⟩
  · omega
  · injection h7 with h7 _ _
    subst h7
    exact ⟨g, by simp [own, Value.ownBlock], rfl, ownB_cells ho⟩
theorem RowS.take {w : World} {A : Option Addr} {xs : List BlkT} (h : RowS encB w A xs) (k : Nat) (hk : k ≤ xs.length) : RowS encB w A (xs.take k) := fun h0 => by
  obtain ⟨x, hA, hb, hc⟩ := h (by simp at h0; omega)
  refine ⟨x, hA, hb, fun j u hu => hc j u ?_⟩
  rw [← take_flat encB_k _ _ hk, List.getElem?_take] at hu
  split at hu
  · exact hu
  · cases hu
theorem RowS.drop {w : World} {g : Nat} {xs : List BlkT} (h : RowS encB w (some ⟨g, 0, none⟩) xs) (k : Nat) (hk : k ≤ xs.length) : RowS encB w (some ⟨g, k * 3, none⟩) (xs.drop k) := fun h0 => by
  obtain ⟨x, hA, hb, hc⟩ := h (by simp at h0; omega)
  cases hA
  refine ⟨_, rfl, hb, fun j u hu => ?_⟩
  rw [← drop_flat encB_k _ _ hk, List.getElem?_drop] at hu
  have := hc _ u hu
  rw [Addr.add_lit, Nat.zero_add] at this
  rw [Addr.add_lit]
  exact this
section
variable {α : Type} {enc : α → List Value} {K : Nat}
theorem step_app_S {P : Program} {w : World} {ops : Array Oper} {o : Oper} {a : Act} {C : Act → World → Prop} {Q : Exit → Act → World → Prop} {Z : Prop} (hk : EncK enc K) (T E : TypeId) (i0 : TypeInfo) (z : Value) (bytes : Nat) (hT : P.underlying T = some (.slice E))
    (hi : P.info? E = some i0) (hz0 : i0.zero = some z) (hz1 : i0.size = K) (hz2 : i0.bytes = bytes) (hzc : z.cells.size = K) (hb8 : bytes ≤ 64) (hgd : o.guard = none) (s x : Operand)
    (ho : o.op = .call { callee := .builtin .append, args := #[s, x], argTypes := #[T, T] })
    (W : World) (B : Nat) (v : Value) (xs ys : List α) (hs : a.eval s = v) (hown : OwnS B E K enc w v xs) (A : Option Addr) (n c : Nat) (hn : n = ys.length) (hx : a.eval x = .slice A n c) (hc : A = none → c = 0)
    (hr : RowS enc w A ys) (hkw : Kept [] W w) (hWB : W.heap.size ≤ B) (hBw : B ≤ w.heap.size) (hlen : xs.length + ys.length ≤ 1000000000)
    (h : ∀ A' n' c' w', Hid (n' = (xs ++ ys).length) → OwnS B E K enc w' (.slice A' n' c') (xs ++ ys) → Kept [] W w' → w.heap.size ≤ w'.heap.size → C (a.put o.dst (.slice A' n' c')) w') : if Region.wanted o (yielded ops a.tmps) = true then Oper.wp P o a w C Q else Z := by
  have hw : Region.wanted o (yielded ops a.tmps) = true := by simp [Region.wanted, hgd]
  rw [if_pos hw]
  refine wp_appS hk T E i0 z bytes hT hi hz0 hz1 hz2 hzc hb8 s x ho W B v xs ys hs hown A n c hn hx hc hr hkw hWB hBw hlen (fun v' w' h1 h2 h3 h4 => ?_)
  obtain ⟨A', c', rfl, _⟩ := h1.slice
  exact h A' _ c' w' (Lib.hid rfl) h1 h2 h4
theorem OwnS.drew {B : Nat} {E : TypeId} {w : World} {v : Value} {xs : List α} (h : OwnS B E K enc w v xs) : OwnS B E K enc w.drew v xs := h
end
/-- What All of a ledger hands on, by the blocks alone. -/
def AllQ (w : World) (xs : List BlkT) (e : Ending) (w' : World) : Prop := (∃ A c, e = .returned (.slice A xs.length c) ∧ ListB (fun _ => True) w' A xs) ∧ Kept [] w w'
theorem two_all {W w : World} {X : List Nat} {p q : Nat} {ls ms : List EntT} {xs : List BlkT} (h : Two W X w p ls q ms) (hm : ls.map bk = xs) (hl : xs.length ≤ 60) : Calls Try.prog 12 #[.pointer (some ⟨p, 0, none⟩)] w (AllQ w xs) := by
  subst hm
  rw [List.length_map] at hl
  refine (x_all h.one (by omega)).mono fun e w' ⟨⟨A, c, he, hL⟩, hk⟩ => ⟨⟨A, c, by rw [he, List.length_map], fun h0 => ?_⟩, hk⟩
  obtain ⟨g, _, e, hc⟩ := hL h0
  exact ⟨g, trivial, e, hc⟩
theorem ListB.any {X : Nat → Prop} {w : World} {A : Option Addr} {ls : List BlkT} (h : ListB X w A ls) : ListB (fun _ => True) w A ls := fun h0 => by
  obtain ⟨g, _, e, hc⟩ := h h0
  exact ⟨g, trivial, e, hc⟩
end Go.Proofs.Ytdallcepachhoaa
