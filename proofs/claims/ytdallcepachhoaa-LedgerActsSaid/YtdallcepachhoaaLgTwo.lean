/- Two ledgers of one law, apart. -/
import Derived.Test.YtdallcepachhoaaLgX
set_option linter.unusedVariables false
set_option linter.unusedSimpArgs false
namespace Go.Proofs.Ytdallcepachhoaa
open Go.RowKit
def Two (W : World) (X : List Nat) (w : World) (p : Nat) (ls : List EntT) (q : Nat) (ms : List EntT) : Prop :=
  (∃ S T, LgS S w p ls ∧ LgS T w q ms ∧ (∀ x, x ∈ S → x ∉ T) ∧ (∀ x, x ∈ S → W.heap.size ≤ x ∧ x ∉ X) ∧ (∀ x, x ∈ T → W.heap.size ≤ x ∧ x ∉ X)) ∧ Kept [] W w ∧ (∀ x, x ∈ X → x < w.heap.size) ∧ LInv ls ∧ LInv ms
theorem Two.swap {W w : World} {X : List Nat} {p q : Nat} {ls ms : List EntT} (h : Two W X w p ls q ms) : Two W X w q ms p ls := by
  obtain ⟨⟨S, T, h1, h2, h3, h4, h5⟩, h6, h7, h8, h9⟩ := h
  exact ⟨⟨T, S, h2, h1, fun x hx hs => h3 x hs hx, h5, h4⟩, h6, h7, h9, h8⟩
theorem Two.keep0 {W w w' : World} {X : List Nat} {p q : Nat} {ls ms : List EntT} (h : Two W X w p ls q ms) (hk : Kept [] w w') : Two W X w' p ls q ms := by
  obtain ⟨⟨S, T, h1, h2, h3, h4, h5⟩, h6, h7, h8, h9⟩ := h
  exact ⟨⟨S, T, h1.keep0 hk, h2.keep0 hk, h3, h4, h5⟩, hk.then_ h6, fun x hx => by have := h7 x hx; have := hk.size; omega, h8, h9⟩
theorem Two.one {W w : World} {X : List Nat} {p q : Nat} {ls ms : List EntT} (h : Two W X w p ls q ms) : LgX W X w p ls := by
  obtain ⟨⟨S, T, h1, h2, h3, h4, h5⟩, h6, h7, h8, h9⟩ := h
  exact ⟨⟨S, h1, h4⟩, h6, h7, h8⟩
theorem Two.left {W w w' : World} {X S T : List Nat} {p q : Nat} {ls' ms : List EntT} (h2 : LgS T w q ms) (h3 : ∀ x, x ∈ S → x ∉ T) (h4 : ∀ x, x ∈ S → W.heap.size ≤ x ∧ x ∉ X) (h5 : ∀ x, x ∈ T → W.heap.size ≤ x ∧ x ∉ X) (h6 : Kept [] W w) (h7 : ∀ x, x ∈ X → x < w.heap.size) (hi : LInv ls') (h9 : LInv ms)
    (h : LeftL S w p ls' w') : Two W X w' p ls' q ms ∧ KeptX X w w' := by
  have hX := LgX.left (W := W) (X := X) h4 h6 h7 hi h
  obtain ⟨S', k1, k2, k3⟩ := h
  refine ⟨⟨⟨S', T, k1, h2.keepS k3 h3, fun x hx ht => ?_, fun x hx => ?_, h5⟩, hX.1.kept, hX.1.2.2.1, hi, h9⟩, hX.2⟩
  · rcases k2 x hx with hs | hs
    · exact h3 x hs ht
    · have := h2.lt x ht; omega
  · rcases k2 x hx with hs | hs
    · exact h4 x hs
    · exact ⟨by have := h6.size; omega, fun hxX => by have := h7 x hxX; omega⟩
theorem two_add {W w : World} {X : List Nat} {p q : Nat} {ls ms : List EntT} (h : Two W X w p ls q ms) (hll : ls.length ≤ 1000) (a n l : Int) (ha : 0 ≤ a ∧ a ≤ 18446744073709551615) (hn : 0 ≤ n ∧ n ≤ 18446744073709551615) (hl : 0 ≤ l ∧ l ≤ 18446744073709551615) (hm : May a n l) (hf : FreeL ls a (mx n)) (j : Nat) (hj : AtG ls a j) :
    Calls Try.prog 15 #[.pointer (some ⟨p, 0, none⟩), .agg #[.int .u64 a, .int .u64 n, .int .u64 l]] w fun e w' => e = .returned (.int .i64 0) ∧ Two W X w' p (ins ls j (a, n, l, false)) q ms ∧ KeptX X w w' := by
  obtain ⟨⟨S, T, h1, h2, h3, h4, h5⟩, h6, h7, h8, h9⟩ := h
  exact (add_ok S w p ls h1 h8 hll a n l ha hn hl hm hf j hj).mono fun e w' ⟨he, hL⟩ => ⟨he, Two.left h2 h3 h4 h5 h6 h7 (ins_inv h8 a n l ha.1 hn.1 hm hf j hj) h9 hL⟩
theorem two_drop {W w0 w : World} {X : List Nat} {p q : Nat} {ls ms : List EntT} (h : Two W X w0 p ls q ms) (hk : Kept [] w0 w) (hll : ls.length ≤ 1000) (A : Option Addr) (n c : Nat) (zs : List Int) (hn : n = zs.length) (hz : RowX .u64 w A zs) (hA : 0 < zs.length → ∀ x, A = some x → w0.heap.size ≤ x.block) (hzl : zs.length ≤ 9223372036854775807) :
    Calls Try.prog 17 #[.pointer (some ⟨p, 0, none⟩), .slice A n c] w fun e w' => e = .returned (.int .i64 (eachP dropStep ls zs).1) ∧ Two W X w' p (eachP dropStep ls zs).2 q ms ∧ KeptX X w w' := by
  have hlt := h.one.ltp
  have h' := h.keep0 hk
  obtain ⟨⟨S, T, h1, h2, h3, h4, h5⟩, _⟩ := h
  obtain ⟨_, h6, h7, h8, h9⟩ := h'
  exact (drop_any S w p ls (h1.keep0 hk) h8 hll A n c zs hn hz (fun h0 x hx hs => by have := hA h0 x hx; have := h1.lt _ hs; omega) hzl).mono fun e w' ⟨he, hL⟩ => ⟨he, Two.left (h2.keep0 hk) h3 h4 h5 h6 h7 (eachP_ok dropStep_ok zs ls h8).1 h9 hL⟩
end Go.Proofs.Ytdallcepachhoaa
