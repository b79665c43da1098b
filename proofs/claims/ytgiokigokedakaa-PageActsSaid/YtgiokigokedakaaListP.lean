/- Chains: what hangs where, plain; All and Push by chains. -/
import Derived.Test.YtgiokigokedakaaAll
import Derived.Test.YtgiokigokedakaaMemF
set_option linter.unusedVariables false
set_option linter.unusedSimpArgs false
namespace Go.Proofs.Ytgiokigokedakaa
open Go.RowKit
/-- l hangs on hd, in this order. -/
def Chn (zs : List Int) : Nat → List Nat → Prop
  | hd, [] => hd = 0
  | hd, a :: l => hd = a ∧ a ≠ 0 ∧ a + 8 ≤ zs.length ∧ Chn zs (lk zs a) l
theorem at_shift (zs : List Int) (a : Nat) (h0 : a ≠ 0) (h8 : a + 8 ≤ zs.length) : ∀ k, at_ zs a (k + 1) = at_ zs (lk zs a) k := by
  intro k
  induction k with
  | zero =>
    show (some a).bind _ = _
    simp only [Option.bind_some]
    rw [if_pos ⟨h0, h8⟩]
    rfl
  | succ k ih =>
    show (at_ zs a (k + 1)).bind _ = (at_ zs (lk zs a) k).bind _
    rw [ih]
theorem Chn.at_end {zs : List Int} : ∀ {l : List Nat} {hd : Nat}, Chn zs hd l → at_ zs hd l.length = some 0 := by
  intro l
  induction l with
  | nil => intro hd h; rw [show hd = 0 from h]; rfl
  | cons a l ih =>
    rintro hd ⟨rfl, h0, h8, hc⟩
    rw [List.length_cons, at_shift zs hd h0 h8]
    exact ih hc
theorem Chn.addrs {zs : List Int} : ∀ {l : List Nat} {hd : Nat}, Chn zs hd l → addrs zs hd l.length = l.map (fun (x : Nat) => (x : Int)) := by
  intro l
  induction l with
  | nil => intro hd h; rfl
  | cons a l ih =>
    rintro hd ⟨rfl, h0, h8, hc⟩
    have := ih hc
    unfold Go.Proofs.Ytgiokigokedakaa.addrs at this ⊢
    rw [List.length_cons, List.range_succ_eq_map, List.map_cons, List.map_map, List.map_cons, ← this]
    congr 1
    apply List.map_congr_left
    intro k _
    simp only [Function.comp]
    rw [at_shift zs hd h0 h8]
theorem Chn.head {zs : List Int} {l : List Nat} {hd : Nat} (h : Chn zs hd l) : (hd : Int) < 18446744073709551616 ∨ 1048576 < zs.length := by
  cases l with
  | nil => rw [show hd = 0 from h]; left; decide
  | cons a l =>
    obtain ⟨rfl, _, h8, _⟩ := h
    omega
/-- Apart by eight at least. -/
def Far (a : Nat) (l : List Nat) : Prop := ∀ x, x ∈ l → a + 8 ≤ x ∨ x + 8 ≤ a
theorem lk_far (zs : List Int) (a x : Nat) (v : Int) (h : a + 8 ≤ zs.length) (hf : a + 8 ≤ x ∨ x + 8 ≤ a) : lk (splice zs a (bytesOf 8 v)) x = lk zs x := by
  unfold lk ldV
  rw [splice_far zs a (bytesOf 8 v) (by simpa using h) x 8 (by simp; omega)]
theorem lk_same (zs : List Int) (a v : Nat) (h : a + 8 ≤ zs.length) (hv : (v : Int) < 18446744073709551616) : lk (splice zs a (bytesOf 8 (v : Int))) a = v := by
  have := splice_mid zs a (bytesOf 8 (v : Int)) (by simpa using h)
  rw [length_bytesOf] at this
  unfold lk ldV
  rw [this, le_bytesOf 8 v (by omega) (by rw [pow64]; omega)]
  omega
theorem len_splice8 (zs : List Int) (a : Nat) (v : Int) (h : a + 8 ≤ zs.length) : (splice zs a (bytesOf 8 v)).length = zs.length := by simp [splice]; omega
theorem Chn.splice {zs : List Int} {a : Nat} {v : Int} (h8 : a + 8 ≤ zs.length) : ∀ {l : List Nat} {hd : Nat}, Chn zs hd l → Far a l → Chn (Go.splice zs a (bytesOf 8 v)) hd l := by
  intro l
  induction l with
  | nil => intro hd h _; exact h
  | cons x l ih =>
    rintro hd ⟨rfl, h0, hx8, hc⟩ hf
    refine ⟨rfl, h0, by rw [len_splice8 zs a v h8]; exact hx8, ?_⟩
    rw [lk_far zs a hd v h8 (hf hd (by simp))]
    exact ih hc (fun y hy => hf y (by simp [hy]))
theorem Chn.push {zs : List Int} {a hd : Nat} {l : List Nat} (h : Chn zs hd l) (h0 : a ≠ 0) (h8 : a + 8 ≤ zs.length) (hf : Far a l) (hd64 : (hd : Int) < 18446744073709551616) : Chn (Go.splice zs a (bytesOf 8 (hd : Int))) a (a :: l) :=
  ⟨rfl, h0, by rw [len_splice8 zs a _ h8]; exact h8, by rw [lk_same zs a hd h8 hd64]; exact h.splice h8 hf⟩
theorem Chn.pushG {len : Nat} (hlen : len ≤ 1048576) : ∀ (xs : List Nat) {zs : List Int} {hd : Nat} {l : List Nat}, zs.length = len → Chn zs hd l → (∀ a, a ∈ xs → a ≠ 0 ∧ a + 8 ≤ len) → xs.Pairwise (fun a b => a + 8 ≤ b ∨ b + 8 ≤ a) → (∀ a, a ∈ xs → Far a l) → (hd : Int) < 18446744073709551616 →
    Chn (Go.Proofs.Ytgiokigokedakaa.pushG zs hd xs).1 (Go.Proofs.Ytgiokigokedakaa.pushG zs hd xs).2 (xs.reverse ++ l) := by
  intro xs
  induction xs with
  | nil => intro zs hd l _ h _ _ _ _; simpa [Go.Proofs.Ytgiokigokedakaa.pushG] using h
  | cons a xs ih =>
    intro zs hd l hz h hv hp hf hd64
    obtain ⟨h0, h8⟩ := hv a (by simp)
    rw [List.pairwise_cons] at hp
    have := ih (zs := Go.splice zs a (bytesOf 8 (hd : Int))) (hd := a) (l := a :: l) (by rw [len_splice8 zs a _ (by omega)]; exact hz) (h.push h0 (by omega) (hf a (by simp)) hd64) (fun b hb => hv b (by simp [hb])) hp.2
      (fun b hb x hx => by
        rcases List.mem_cons.1 hx with rfl | hx
        · have := hp.1 b hb; omega
        · exact hf b (by simp [hb]) x hx) (by omega)
    rw [List.reverse_cons, List.append_assoc]
    exact this
/-- Blocks, as numbers. -/
theorem Blocks.nats {ys : List Int} (h : Blocks ys) : ∃ xs : List Nat, ys = xs.map (fun (x : Nat) => (x : Int)) ∧ (∀ a, a ∈ xs → a ≠ 0 ∧ a + 8 ≤ 2048) ∧ xs.Pairwise (fun a b => a + 8 ≤ b ∨ b + 8 ≤ a) := by
  refine ⟨ys.map Int.toNat, ?_, ?_, ?_⟩
  · rw [List.map_map]
    conv => lhs; rw [← List.map_id ys]
    apply List.map_congr_left
    intro y hy
    obtain ⟨t, ht, rfl⟩ := h.2 y hy
    simp
    omega
  · intro a ha
    obtain ⟨y, hy, rfl⟩ := List.mem_map.1 ha
    obtain ⟨t, ht, rfl⟩ := h.2 y hy
    omega
  · rw [List.pairwise_map]
    refine List.Pairwise.imp_of_mem ?_ h.1
    intro a b ha hb hne
    obtain ⟨t, ht, rfl⟩ := h.2 a ha
    obtain ⟨u, hu, rfl⟩ := h.2 b hb
    omega
/-- All, by the chain. -/
theorem all_chn (w : World) (b p g : Nat) (zs : List Int) (hd : Nat) (l : List Nat) (hM : MemB w p g zs) (hl : ListB w b hd (l.length : Int)) (hc : Chn zs hd l) (hn : l.length ≤ zs.length) :
    Calls Try.prog 52 #[.pointer (some ⟨b, 0, none⟩), .pointer (some ⟨p, 0, none⟩)] w fun e w' => (∃ A c, e = .returned (.tuple #[.slice A l.length c, .int .i64 0]) ∧ OwnI w.heap.size .u64 26 w' (.slice A l.length c) (l.map (fun (x : Nat) => (x : Int))) ∧ (A = none → c = 0)) ∧ Kept [] w w' := by
  have := all_ok w b p g zs hd l.length hM hl (by have := hc.head; have := hM.2.2.1; omega) hc.at_end hn
  rw [hc.addrs] at this
  exact this
end Go.Proofs.Ytgiokigokedakaa
