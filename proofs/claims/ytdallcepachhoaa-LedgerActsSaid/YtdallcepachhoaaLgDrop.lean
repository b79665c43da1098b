/- Drop, Hold, Let. -/
import Derived.Test.YtdallcepachhoaaLgEach
set_option linter.unusedVariables false
set_option linter.unusedSimpArgs false
namespace Go.Proofs.Ytdallcepachhoaa
open Go.RowKit
def dropStep (ls : List EntT) (k : Nat) : Int × List EntT := (0, ls.eraseIdx k)
theorem dropStep_ok : StepOk dropStep := fun ls k hi hk => ⟨⟨fun e he => hi.1 e (List.mem_of_mem_eraseIdx he), List.Pairwise.sublist (List.eraseIdx_sublist _ _) hi.2⟩, by show (ls.eraseIdx k).length ≤ _; rw [List.length_eraseIdx_of_lt hk]; omega⟩
def heldAs (e : EntT) (h : Bool) : EntT := (e.1, e.2.1, e.2.2.1, h)
def turnStep (h : Bool) (no : Int) (ls : List EntT) (k : Nat) : Int × List EntT := if (re ls k).2.2.2 = h then (no, ls) else (0, ls.set k (heldAs (re ls k) h))
theorem set_inv {ls : List EntT} (hi : LInv ls) (k : Nat) (hk : k < ls.length) (h : Bool) : LInv (ls.set k (heldAs (re ls k) h)) := by
  have key : ∀ i, i < ls.length → (re (ls.set k (heldAs (re ls k) h)) i).1 = (re ls i).1 ∧ (re (ls.set k (heldAs (re ls k) h)) i).2.1 = (re ls i).2.1 ∧ (re (ls.set k (heldAs (re ls k) h)) i).2.2.1 = (re ls i).2.2.1 := fun i hi' => by
    unfold re
    rw [List.getElem?_set]
    by_cases e : k = i
    · subst e
      rw [if_pos rfl, if_pos hk]
      exact ⟨rfl, rfl, rfl⟩
    · rw [if_neg e]
      exact ⟨rfl, rfl, rfl⟩
  constructor
  · intro e he
    obtain ⟨i, hil, rfl⟩ := mem_re he
    rw [List.length_set] at hil
    obtain ⟨k1, k2, k3⟩ := key i hil
    rw [k1, k2, k3]
    exact hi.1 _ (re_mem hil)
  · rw [List.pairwise_iff_getElem]
    intro i j h1 h2 hij
    have e1 := re_some h1
    have e2 := re_some h2
    rw [List.getElem?_eq_getElem h1] at e1
    rw [List.getElem?_eq_getElem h2] at e2
    injection e1 with e1
    injection e2 with e2
    rw [e1, e2]
    rw [List.length_set] at h1 h2
    obtain ⟨k1, k2, _⟩ := key i h1
    obtain ⟨k3, _, _⟩ := key j h2
    rw [k1, k2, k3]
    exact re_ap hi hij h2
theorem turnStep_ok (h : Bool) (no : Int) : StepOk (turnStep h no) := fun ls k hi hk => by
  unfold turnStep
  split
  · exact ⟨hi, Nat.le_refl _⟩
  · exact ⟨set_inv hi k hk h, by simp⟩
/-- What Delete leaves. -/
def DelL (S : List Nat) (W : World) (p : Nat) (ls' : List EntT) (v : Value) (e : Ending) (w' : World) : Prop :=
  ∃ A' n' c', e = .returned (.slice A' n' c') ∧ w'.cell? ⟨p, 0, none⟩ = some v ∧ p < w'.heap.size ∧ w'.frozen? ⟨p, 0, none⟩ = false ∧ Kept S W w' ∧ LeftL S W p ls' (w'.setCell ⟨p, 0, none⟩ (.slice A' n' c'))
theorem LeftL.delete {S : List Nat} {W w : World} {p : Nat} {ls : List EntT} (h : LeftL S W p ls w) (j : Nat) (hj : j < ls.length) (hl : ls.length ≤ 1000) :
    ∃ A n c, w.cell? ⟨p, 0, none⟩ = some (.slice A n c) ∧ Calls Try.prog 30 #[.slice A n c, .int .i64 j, .int .i64 ((j : Int) + 1)] w (DelL S W p (ls.eraseIdx j) (.slice A n c)) := by
  obtain ⟨S', h1, h2, h3⟩ := h
  obtain ⟨A, n, c, c0, hC⟩ := h1.delete j hj hl
  refine ⟨A, n, c, c0, hC.mono fun e w' ⟨A', n', c', he, k1, k2, k3, k4, k5⟩ => ⟨A', n', c', he, k1, k2, k3, h3.grow h2 k4, LeftL.then_ h2 h3 k5⟩⟩
theorem eg_drop (args : Array Value) (w : World) : (callFunc 29 args).run Try.prog w = .ok (.enter 29 args) w := enters_of Try.func29 (by kernel_rfl) rfl args w
theorem eg_turn (args : Array Value) (w : World) : (callFunc 47 args).run Try.prog w = .ok (.enter 47 args) w := enters_of Try.func47 (by kernel_rfl) rfl args w
set_option maxRecDepth 100000 in
set_option maxHeartbeats 4000000 in
theorem drop1_any (S : List Nat) (W : World) (p b0 : Nat) (hB : Blk W b0 27 #[.pointer (some ⟨p, 0, none⟩)]) (hb0 : b0 ∉ S) (w : World) (ls : List EntT) (k : Nat) (h : LeftL S W p ls w) (hk : k < ls.length) (hl : ls.length ≤ 1000) :
    Calls Try.prog 29 #[.int .i64 (k : Int), .pointer (some ⟨b0, 0, none⟩)] w (EachR S W p (dropStep ls k)) := by
  have hW : Kept S W w := by
    obtain ⟨_, _, _, hW⟩ := h
    exact hW
  have B0 := hB.keep hW hb0
  have b0c : w.cell? ⟨b0, 0, none⟩ = some (.pointer (some ⟨p, 0, none⟩)) := B0.cell 0
  have b0l := B0.lt
  obtain ⟨A, sn, sc, c0, hD⟩ := (h.keep0 ((Kept.refl [] w).drew)).delete k hk hl
  have c0' : w.cell? ⟨p, 0, none⟩ = some (.slice A sn sc) := c0
  have HD := Lib.hid hD
  have hpl := h.ltp
  have q1 : IntKind.i64.wrap ((k : Int) + 1) = (k : Int) + 1 := IntWalk.i64_in _ (by omega)
  have HR : Hid (∀ w', LeftL S W p (ls.eraseIdx k) w' → EachR S W p (dropStep ls k) (.returned (.int .i64 0)) w') := Lib.hid (fun w' h' => ⟨rfl, h'⟩)
  have HBW : Hid (∀ w', Kept S W w' → w'.cell? ⟨b0, 0, none⟩ = some (.pointer (some ⟨p, 0, none⟩))) := Lib.hid (fun w' hk => (hB.keep hk hb0).cell 0)
  clear h hB hW B0 hD
  go_enter Try.func29, Try.ntmps29
  go_wp2_with fail
  go_region_with ((go_at_call 30; refine HD.out.mono ?_; rintro e w4 ⟨A', n', c', rfl, d3, hp4, f3, hk4, hL4⟩; have b4c := HBW.out _ hk4))
  all_goals
    have HL4 := Lib.hid (HR.out _ hL4)
    clear hL4 hk4
    go_wp2_with fail
    go_ret
    exact HL4.out
/-- A slice of addresses that came in. -/
def ArgZ (S : List Nat) (W : World) (A : Option Addr) (zs : List Int) : Prop := RowX .u64 W A zs ∧ (∀ x, A = some x → 0 < zs.length → x.block ∉ S)
set_option maxHeartbeats 1000000 in
theorem drop_any (S : List Nat) (W : World) (p : Nat) (ls : List EntT) (h : LgS S W p ls) (hi : LInv ls) (hll : ls.length ≤ 1000) (A : Option Addr) (n c : Nat) (zs : List Int) (hn : n = zs.length) (hz : RowX .u64 W A zs) (hA : 0 < zs.length → ∀ x, A = some x → x.block ∉ S) (hzl : zs.length ≤ 9223372036854775807) :
    Calls Try.prog 17 #[.pointer (some ⟨p, 0, none⟩), .slice A n c] W (EachR S W p (eachP dropStep ls zs)) := by
  subst hn
  have hk : Kept [] W (W.alloc (.cells #[.pointer (some ⟨p, 0, none⟩)] 27)) := (Kept.refl [] W).alloc _
  have hbS : W.heap.size ∉ S := fun hx => by have := h.lt _ hx; omega
  have DE := Lib.hid (each_any S _ p ls (h.keep0 hk) hi hll 29 #[.pointer (some ⟨W.heap.size, 0, none⟩)] dropStep dropStep_ok eg_drop
    (fun w ls k h' hk' hl' => drop1_any S _ p W.heap.size (Blk.new W _ _) hbS w ls k h' hk' hl') A c zs (hz.keep hk) hA hzl)
  have HT : Hid (∀ e w', EachR S (W.alloc (.cells #[.pointer (some ⟨p, 0, none⟩)] 27)) p (eachP dropStep ls zs) e w' → EachR S W p (eachP dropStep ls zs) e w') := Lib.hid (fun e w' ⟨he, hL⟩ => ⟨he, LeftL.then_ (Grew.refl S W) (hk.mono (fun x hx _ => by cases hx)) hL⟩)
  have hpl := h.ltp
  clear h hi hz hA hk hbS
  generalize eachP dropStep ls zs = r at *
  go_enter Try.func17, Try.ntmps17
  go_wp2_with fail
  (refine DE.out.mono ?_)
  intro e w1 hE
  have HE := Lib.hid (HT.out _ _ hE)
  obtain ⟨rfl, _⟩ := hE
  go_wp2_with fail
  go_ret
  exact HE.out
end Go.Proofs.Ytdallcepachhoaa
