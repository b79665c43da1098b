/- Page: what every act leaves alike; numbers as values. -/
import Derived.Test.YtgiokigokedakaaPgLists
import Derived.Test.YtgiokigokedakaaTol
set_option linter.unusedVariables false
set_option linter.unusedSimpArgs false
namespace Go.Proofs.Ytgiokigokedakaa
open Go.RowKit
theorem ready_all (a : PgA) : a.ready.F = a.F ∧ a.ready.Z = a.Z ∧ a.ready.N = a.N ∧ a.ready.tag = a.tag ∧ a.ready.ask = a.ask ∧ a.ready.po = a.po ∧ a.ready.us = a.us := by
  unfold PgA.ready PgA.swap
  repeat' split
  all_goals exact ⟨rfl, rfl, rfl, rfl, rfl, rfl, rfl⟩
def toV (l : List Nat) : List Value := l.map (fun (x : Nat) => Value.int .u64 (x : Int))
theorem toV_app (l m : List Nat) : toV (l ++ m) = toV l ++ toV m := List.map_append
theorem toV_len (l : List Nat) : (toV l).length = l.length := by simp [toV]
theorem toV_one (l : List Nat) : ∀ u ∈ toV l, u.oneCell' = true := by
  intro u hu
  obtain ⟨b, _, rfl⟩ := List.mem_map.1 hu
  rfl
theorem info_u64V : (Try.prog.info? 26).map (fun i => (i.zero, i.size, i.bytes)) = some (some (.int .u64 0), 1, 8) := by kernel_rfl
/-- A slice of numbers whose start moves. -/
def TolN (B : Nat) (w : World) (v : Value) (l : List Nat) : Prop := TolV 26 B w v (toV l)
namespace TolN
variable {B : Nat} {w w' : World} {v : Value} {l : List Nat}
theorem keepS {S : List Nat} (h : TolN B w v l) (hk : Kept S w w') (hS : ∀ s, s ∈ S → s < B ∨ s ∉ own v) : TolN B w' v l := TolV.keepS h hk hS
theorem keep0 (h : TolN B w v l) (hk : Kept [] w w') : TolN B w' v l := TolV.keep0 h hk
theorem nil (B : Nat) (w : World) : TolN B w (.slice none 0 0) [] := .inl ⟨rfl, rfl⟩
theorem len (h : TolN B w v l) : ∃ A c, v = .slice A l.length c ∧ (A = none → c = 0) := by
  obtain ⟨A, c, h1, h2⟩ := TolV.len h
  rw [toV_len] at h1
  exact ⟨A, c, h1, h2⟩
theorem row {A : Option Addr} {n c : Nat} (h : TolN B w (.slice A n c) l) : RowX .u64 w A (toI l) := fun h0 => by
  rw [toI_len] at h0
  obtain ⟨g, off, c', h1, h2, _⟩ := TolV.cell h 0 (by rw [toV_len]; exact h0)
  injection h1 with h1 _ _
  subst h1
  refine ⟨⟨g, off, none⟩, rfl, h2, fun i hi => ?_⟩
  rw [toI_len] at hi
  obtain ⟨g', off', c'', h3, _, h4⟩ := TolV.cell h i (by rw [toV_len]; exact hi)
  injection h3 with h3 _ _
  injection h3 with h3
  injection h3 with h5 h6 _
  subst h5 h6
  rw [Addr.add_lit, h4, toI_get hi]
  simp [toV, hi]
theorem first {x : Nat} {r : List Nat} (h : TolN B w v (x :: r)) : ∃ g off c, v = .slice (some ⟨g, off, none⟩) (r.length + 1) c ∧ B ≤ g ∧ g < w.heap.size ∧ r.length + 1 ≤ c ∧ c ≤ maxLen ∧ w.cell? ⟨g, off, none⟩ = some (.int .u64 (x : Int)) := by
  have := TolV.first (u := .int .u64 (x : Int)) (us := toV r) h
  rwa [toV_len] at this
theorem tail {x : Nat} {r : List Nat} (h : TolN B w v (x :: r)) : ∃ A c, TolN B w (.slice A r.length c) r ∧ own (.slice A r.length c) = own v ∧ ∀ w, (Instr.slice 31 v (some (.int .i64 1)) none none).run Try.prog w = .ok (.slice A r.length c) w := by
  obtain ⟨v', h1, h2, h3⟩ := TolV.tail (T := 31) Try.underlying31 (fun w => by simp [go_sem]) (u := .int .u64 (x : Int)) (us := toV r) h
  obtain ⟨A, c, rfl, _⟩ := TolN.len (l := r) h1
  exact ⟨A, c, h1, h2, h3⟩
theorem lt (h : TolN B w v l) : ∀ g, g ∈ own v → B ≤ g ∧ g < w.heap.size := TolV.lt h
end TolN
/-- append of one number. -/
theorem app_tol1 {w w0 : World} {ops : Array Oper} {rest : List Oper} {o : Oper} {a : Act} {Q : Exit → Act → World → Prop} (hgd : o.guard = none) (s x : Operand)
    (ho : o.op = .call { callee := .builtin .append, args := #[s, x], argTypes := #[31, 31] })
    (B : Nat) (v : Value) (l : List Nat) (z : Nat) (hs : a.eval s = v) (hown : TolN B w v l) (b n c : Nat) (hx : a.eval x = .slice (some ⟨b, 0, none⟩) n c) (hn : n = 1)
    (hB : B ≤ w.heap.size) (hb : Blk w b 26 #[.int .u64 (z : Int)]) (hl : l.length ≤ 1000)
    (h : ∀ A' c' w', TolN B w' (.slice A' (l.length + 1) c') (l ++ [z]) → Kept (own v) w w' → (∀ g, g ∈ own (.slice A' (l.length + 1) c') → g ∈ own v ∨ w.heap.size ≤ g) → wpList Try.prog ops Q rest (a.put o.dst (.slice A' (l.length + 1) c')) w') : wpList Try.prog ops Q (o :: rest) a w :=
  app_tol 31 26 (.int .u64 0) 8 Try.underlying31 info_u64V (by omega) rfl hgd s x ho B v (toV l) [.int .u64 (z : Int)] hs hown (some ⟨b, 0, none⟩) n c hn hx hB
    (fun _ => ⟨_, rfl, fun i hi => by obtain rfl : i = 0 := (by simpa using hi); exact hb.cell 0⟩) (fun u hu => by simp at hu; rw [hu]; rfl) (by rw [toV_len]; simp; omega)
    (fun v' w' h1 h2 h3 => by
      have h1' : TolN B w' v' (l ++ [z]) := by unfold TolN; rw [toV_app]; exact h1
      obtain ⟨A', c', e, _⟩ := h1'.len
      rw [List.length_append, List.length_singleton] at e
      subst e
      exact h A' c' w' h1' h2 h3)
end Go.Proofs.Ytgiokigokedakaa
