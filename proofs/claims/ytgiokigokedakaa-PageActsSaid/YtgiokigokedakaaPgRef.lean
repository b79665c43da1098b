/- The document's page: where it lies; Given, Back, Post. -/
import Derived.Test.YtgiokigokedakaaPgAct
import Derived.Deep.RegionLaw
import Derived.RegionTactic
import Derived.BigQuiet
set_option linter.unusedVariables false
set_option linter.unusedSimpArgs false
namespace Go.Proofs.Ytgiokigokedakaa
open Go.RowKit
def PgA.rcells (a : PgA) (v5 v6 v7 : Value) : Array Value := #[.int .u64 a.F, .int .u64 a.Z, .int .i64 a.N, .int .i64 a.made, .int .i64 ((a.po.length : Int) + (a.us.length : Int)), v5, v6, v7, .int .u64 a.tag, .int .i64 a.ask]
structure RefP (B : Nat) (w : World) (o : Nat) (a : PgA) (v5 v6 v7 : Value) : Prop where
  blk : Blk w o 80 (a.rcells v5 v6 v7)
  fr : TolN B w v5 a.fr
  lo : TolN B w v6 a.lo
  po : TolN B w v7 a.po
  oB : o < B
  Bw : B ≤ w.heap.size
namespace RefP
variable {B : Nat} {w w' : World} {o : Nat} {a : PgA} {v5 v6 v7 : Value}
theorem keepS {S : List Nat} (h : RefP B w o a v5 v6 v7) (hk : Kept S w w') (hS : ∀ s, s ∈ S → s < B) (ho : o ∉ S) : RefP B w' o a v5 v6 v7 :=
  ⟨h.blk.keep hk ho, h.fr.keepS hk (fun s hs => .inl (hS s hs)), h.lo.keepS hk (fun s hs => .inl (hS s hs)), h.po.keepS hk (fun s hs => .inl (hS s hs)), h.oB, Nat.le_trans h.Bw hk.size⟩
theorem keep0 (h : RefP B w o a v5 v6 v7) (hk : Kept [] w w') : RefP B w' o a v5 v6 v7 := h.keepS hk (fun s hs => by cases hs) (by simp)
theorem c0 (h : RefP B w o a v5 v6 v7) : w.cell? ⟨o, 0, none⟩ = some (.int .u64 a.F) := h.blk.cell 0
theorem c1 (h : RefP B w o a v5 v6 v7) : w.cell? ⟨o, 1, none⟩ = some (.int .u64 a.Z) := h.blk.cell 1
theorem c2 (h : RefP B w o a v5 v6 v7) : w.cell? ⟨o, 2, none⟩ = some (.int .i64 a.N) := h.blk.cell 2
theorem c3 (h : RefP B w o a v5 v6 v7) : w.cell? ⟨o, 3, none⟩ = some (.int .i64 a.made) := h.blk.cell 3
theorem c4 (h : RefP B w o a v5 v6 v7) : w.cell? ⟨o, 4, none⟩ = some (.int .i64 ((a.po.length : Int) + (a.us.length : Int))) := h.blk.cell 4
theorem c5 (h : RefP B w o a v5 v6 v7) : w.cell? ⟨o, 5, none⟩ = some (v5) := h.blk.cell 5
theorem c6 (h : RefP B w o a v5 v6 v7) : w.cell? ⟨o, 6, none⟩ = some (v6) := h.blk.cell 6
theorem c7 (h : RefP B w o a v5 v6 v7) : w.cell? ⟨o, 7, none⟩ = some (v7) := h.blk.cell 7
theorem c8 (h : RefP B w o a v5 v6 v7) : w.cell? ⟨o, 8, none⟩ = some (.int .u64 a.tag) := h.blk.cell 8
theorem c9 (h : RefP B w o a v5 v6 v7) : w.cell? ⟨o, 9, none⟩ = some (.int .i64 a.ask) := h.blk.cell 9
theorem forms (h : RefP B w o a v5 v6 v7) : ∃ A5 c5 A6 c6 A7 c7, v5 = .slice A5 a.fr.length c5 ∧ v6 = .slice A6 a.lo.length c6 ∧ v7 = .slice A7 a.po.length c7 := by
  obtain ⟨A5, c5, h5, _⟩ := h.fr.len
  obtain ⟨A6, c6, h6, _⟩ := h.lo.len
  obtain ⟨A7, c7, h7, _⟩ := h.po.len
  exact ⟨A5, c5, A6, c6, A7, c7, h5, h6, h7⟩
end RefP
/-- Blocks that aren't the rows'. -/
def AvX (X : List Nat) (w : World) (v5 v6 v7 : Value) : Prop := ∀ s, s ∈ X → s < w.heap.size ∧ s ∉ own v5 ∧ s ∉ own v6 ∧ s ∉ own v7
theorem AvX.mono {X : List Nat} {w w' : World} {v5 v6 v7 : Value} (h : AvX X w v5 v6 v7) (hs : w.heap.size ≤ w'.heap.size) : AvX X w' v5 v6 v7 := fun s hx => ⟨Nat.lt_of_lt_of_le (h s hx).1 hs, (h s hx).2⟩
def RefX (X : List Nat) (B : Nat) (w : World) (o : Nat) (a : PgA) : Prop := ∃ v5 v6 v7, RefP B w o a v5 v6 v7 ∧ AvX X w v5 v6 v7
theorem RefX.keepS {S : List Nat} {X : List Nat} {B : Nat} {w w' : World} {o : Nat} {a : PgA} (h : RefX X B w o a) (hk : Kept S w w') (hS : ∀ s, s ∈ S → s < B) (ho : o ∉ S) : RefX X B w' o a := by
  obtain ⟨v5, v6, v7, h, hx⟩ := h
  exact ⟨v5, v6, v7, h.keepS hk hS ho, hx.mono hk.size⟩
theorem RefX.keep0 {X : List Nat} {B : Nat} {w w' : World} {o : Nat} {a : PgA} (h : RefX X B w o a) (hk : Kept [] w w') : RefX X B w' o a := h.keepS hk (fun s hs => by cases hs) (by simp)
theorem RefX.lt {X : List Nat} {B : Nat} {w : World} {o : Nat} {a : PgA} (h : RefX X B w o a) : o < B ∧ B ≤ w.heap.size := by
  obtain ⟨v5, v6, v7, h, hx⟩ := h
  exact ⟨h.oB, h.Bw⟩
theorem own_len (A : Option Addr) (n m c d : Nat) : own (.slice A n c) = own (.slice A m d) := by cases A <;> rfl
theorem TolN.less {B B' : Nat} {w : World} {v : Value} {l : List Nat} (h : TolN B w v l) (hB : B' ≤ B) : TolN B' w v l := by
  rcases h with h | ⟨g, off, c, cur, h1, hb, rest⟩
  · exact .inl h
  · exact .inr ⟨g, off, c, cur, h1, by omega, rest⟩
theorem RefP.turn {B : Nat} {w w' : World} {o : Nat} {a b : PgA} {v5 v6 v7 u5 u6 u7 : Value} (h : RefP B w o a v5 v6 v7) (hb : Blk w' o 80 (b.rcells u5 u6 u7)) (hk : Kept [o] w w') (h5 : TolN B w u5 b.fr) (h6 : TolN B w u6 b.lo) (h7 : TolN B w u7 b.po) : RefP B w' o b u5 u6 u7 := by
  have hS : ∀ s, s ∈ [o] → s < B := fun s hs => by have := h.oB; simp at hs; omega
  exact ⟨hb, h5.keepS hk (fun s hs => .inl (hS s hs)), h6.keepS hk (fun s hs => .inl (hS s hs)), h7.keepS hk (fun s hs => .inl (hS s hs)), h.oB, Nat.le_trans h.Bw hk.size⟩
/-- append of a list that is told. -/
theorem app_tolN {w : World} {ops : Array Oper} {rest : List Oper} {o : Oper} {a : Act} {Q : Exit → Act → World → Prop} (hgd : o.guard = none) (s x : Operand)
    (ho : o.op = .call { callee := .builtin .append, args := #[s, x], argTypes := #[31, 31] })
    (B : Nat) (v : Value) (l m : List Nat) (hs : a.eval s = v) (hown : TolN B w v l) (C : Nat) (A : Option Addr) (n c : Nat) (hx : a.eval x = .slice A n c) (hn : n = m.length) (hm : TolN C w (.slice A n c) m)
    (hB : B ≤ w.heap.size) (hl : l.length + m.length ≤ 100000)
    (h : ∀ A' c' w', TolN B w' (.slice A' (l.length + m.length) c') (l ++ m) → Kept (own v) w w' → (∀ g, g ∈ own (.slice A' (l.length + m.length) c') → g ∈ own v ∨ w.heap.size ≤ g) → wpList Try.prog ops Q rest (a.put o.dst (.slice A' (l.length + m.length) c')) w') : wpList Try.prog ops Q (o :: rest) a w := by
  subst hn
  refine app_tol 31 26 (.int .u64 0) 8 Try.underlying31 info_u64V (by omega) rfl hgd s x ho B v (toV l) (toV m) hs hown A m.length c (toV_len m).symm hx hB
    (fun h0 => ?_) (toV_one m) (by rw [toV_len, toV_len]; omega)
    (fun v' w' h1 h2 h3 => ?_)
  · rw [toV_len] at h0
    obtain ⟨x, hx1, _, hx3⟩ := TolN.row hm (by rw [toI_len]; exact h0)
    refine ⟨x, hx1, fun i hi => ?_⟩
    rw [toV_len] at hi
    rw [hx3 i (by rw [toI_len]; exact hi), toI_get hi]
    simp [toV, hi]
  · have h1' : TolN B w' v' (l ++ m) := by unfold TolN; rw [toV_app]; exact h1
    obtain ⟨A', c', e, _⟩ := h1'.len
    rw [List.length_append] at e
    subst e
    exact h A' c' w' h1' h2 h3
theorem tol_lit {w : World} {b x : Nat} (B : Nat) (hb : Blk w b 26 #[.int .u64 (x : Int)]) (hB : B ≤ b) : TolN B w (.slice (some ⟨b, 0, none⟩) 1 1) [x] :=
  .inr ⟨b, 0, 1, _, rfl, hB, hb, Nat.le_refl _, by unfold maxLen; omega, Nat.le_refl _, fun i hi => by
    obtain rfl : i = 0 := by simpa [toV] using hi
    rfl⟩
set_option maxRecDepth 100000 in
set_option maxHeartbeats 4000000 in
theorem r_given {X : List Nat} {B : Nat} {w : World} {o : Nat} {a : PgA} (h : RefX X B w o a) (x : Int) (hx : 0 ≤ x) (r : Int) (hr : a.giv x = r) :
    Calls Try.prog 32 #[.pointer (some ⟨o, 0, none⟩), .int .u64 x] w fun e w' => e = .returned (.int .i64 r) ∧ Kept [] w w' := by
  obtain ⟨v5, v6, v7, h, hx'⟩ := h
  clear hx'
  subst hr
  have HB := Lib.hid h
  have k0 := h.c0
  have k1 := h.c1
  have k2 := h.c2
  have k3 := h.c3
  have ol := h.blk.lt
  have DI := Lib.hid (fun w' => refindex_any (a.F : Int) (a.Z : Int) (a.N : Int) x (by omega) (by omega) hx w')
  clear h
  unfold PgA.giv
  generalize idxE a.F a.Z a.N x = E at *
  generalize idxV a.F a.Z a.N x = V at *
  by_cases h0 : E = 0
  · subst h0
    by_cases h1 : (a.made : Int) ≤ V
    · rw [if_pos ⟨rfl, h1⟩]
      have q1 : decide ((a.made : Int) ≤ V) = true := by simp; omega
      go_enter Try.func32, Try.ntmps32
      go_wp2_with fail
      (with_reducible refine (DI.out _).mono ?_)
      rintro e w1 ⟨rfl, hb1⟩
      have k3' := (HB.out.keep0 hb1).c3
      have ol1 := (HB.out.keep0 hb1).blk.lt
      go_wp2_with fail
      (first | go_ret2 | go_ret)
      exact ⟨rfl, hb1⟩
    · rw [if_neg (fun h => h1 h.2)]
      have q1 : decide ((a.made : Int) ≤ V) = false := by simp; omega
      go_enter Try.func32, Try.ntmps32
      go_wp2_with fail
      (with_reducible refine (DI.out _).mono ?_)
      rintro e w1 ⟨rfl, hb1⟩
      have k3' := (HB.out.keep0 hb1).c3
      have ol1 := (HB.out.keep0 hb1).blk.lt
      go_wp2_with fail
      (first | go_ret2 | go_ret)
      exact ⟨rfl, hb1⟩
  · rw [if_neg (fun h => h0 h.1)]
    have q0 : ((E != 0) : Bool) = true := by simpa using h0
    go_enter Try.func32, Try.ntmps32
    go_wp2_with fail
    (with_reducible refine (DI.out _).mono ?_)
    rintro e w1 ⟨rfl, hb1⟩
    go_wp2_with fail
    (first | go_ret2 | go_ret)
    exact ⟨rfl, hb1⟩
set_option maxRecDepth 100000 in
set_option maxHeartbeats 4000000 in
theorem r_back {X : List Nat} {B : Nat} {w : World} {o : Nat} {a : PgA} (h : RefX X B w o a) (x : Nat) (hx : x ∈ a.us) (hg : a.giv (x : Int) = 0) (hl : a.lo.length ≤ 1024) (hu : a.po.length + a.us.length ≤ 1024) :
    Calls Try.prog 57 #[.pointer (some ⟨o, 0, none⟩), .int .u64 (x : Int)] w fun e w' => e = .returned (.int .i64 0) ∧ RefX X B w' o (a.free1 x) ∧ Kept [o] w w' := by
  have DG := Lib.hid (r_given h (x : Int) (by omega) 0 hg)
  obtain ⟨v5, v6, v7, h, hav⟩ := h
  have AV := Lib.hid hav
  clear hav
  obtain ⟨A5, c5, A6, c6, A7, c7, rfl, rfl, rfl⟩ := h.forms
  have H := Lib.hid h
  have hp : 0 < a.us.length := List.length_pos_of_mem hx
  have HX := Lib.hid hx
  have q0 : (((a.po.length : Int) + (a.us.length : Int) == 0) : Bool) = false := by rw [beq_eq_false_iff_ne]; omega
  have hw : IntKind.i64.wrap ((a.po.length : Int) + (a.us.length : Int) - 1) = (a.po.length : Int) + (a.us.length : Int) - 1 := IntWalk.i64_in _ (by omega)
  clear h hx
  go_enter Try.func57, Try.ntmps57
  go_wp2_with fail
  (with_reducible refine DG.out.mono ?_)
  rintro e w1 ⟨rfl, hb1⟩
  have H1 := Lib.hid (H.out.keep0 hb1)
  have K1 := Lib.hid hb1
  have k4 := H1.out.c4
  have k6 := H1.out.c6
  have ol := H1.out.blk.lt
  clear hb1
  go_wp2_with (first | (refine app_tolN rfl (.tmp 19) (.tmp 23) rfl w1.heap.size (.slice (some ⟨w1.heap.size, 0, none⟩) 1 1) [x] a.lo rfl (tol_lit _ (Blk.new w1 _ _) (Nat.le_refl _)) B A6 a.lo.length c6 rfl rfl (H1.out.lo.keep0 ((Kept.refl [] w1).alloc _)) (by simp) (by simp; omega) ?_; intro A8 c8 w8 T8 hk8 own8; have K8 : Kept [] w1 w8 := ((Kept.refl [] w1).alloc (.cells #[.int .u64 (x : Int)] 26)).trans hk8 (fun y hy hl => by (simp [own, Value.ownBlock] at hy; omega)); have H8 := Lib.hid (H1.out.keep0 K8); have KK8 := Lib.hid (K8.then_ K1.out); have TT8 := Lib.hid T8; have OW8 : Hid (∀ g, g ∈ own (.slice A8 (1 + a.lo.length) c8) → w1.heap.size ≤ g) := Lib.hid (fun g hg => by rcases own8 g (by rw [own_len _ _ (1 + a.lo.length) c8 c8]; exact hg) with h | h <;> (simp [own, Value.ownBlock] at h; omega)); have z4 := H8.out.c4; have z6 := H8.out.c6; have f4 := H8.out.blk.frozen 4; have f6 := H8.out.blk.frozen 6; have ol8 := H8.out.blk.lt; clear T8 hk8 own8 K8) | fail)
  go_ret
  have e4 : ((a.po.length : Int) + (a.us.length : Int)) - 1 = (a.po.length : Int) + ((a.us.erase x).length : Int) := by
    have := List.length_erase_of_mem HX.out
    omega
  have KO : Kept [o] w8 ((w8.setCell ⟨o, 6, none⟩ (.slice A8 (1 + a.lo.length) c8)).setCell ⟨o, 4, none⟩ (.int .i64 ((a.po.length : Int) + (a.us.length : Int) - 1))) := ((Kept.refl [o] w8).setIn (by simp) _).setIn (by simp) _
  refine ⟨rfl, ⟨_, _, _, H8.out.turn (b := a.free1 x) (u6 := .slice A8 (1 + a.lo.length) c8) (((H8.out.blk.set_ 6 _).set_ 4 _).cast ?_) KO H8.out.fr ?_ H8.out.po, ?_⟩, (KK8.out.mono (fun x hx _ => by cases hx)).trans KO (fun x hx _ => hx)⟩
  · rw [e4]; simp [PgA.rcells, PgA.free1]
  · have := TT8.out
    rw [List.length_singleton] at this
    exact TolN.less this (by have := H1.out.Bw; omega)
  · intro s hs
    obtain ⟨a1, a2, a3, a4⟩ := AV.out s hs
    have h1 := K1.out.size
    refine ⟨Nat.lt_of_lt_of_le a1 (Nat.le_trans KK8.out.size KO.size), a2, fun h => ?_, a4⟩
    have := OW8.out s h
    omega
theorem rlate_cells (a : PgA) (v5 v6 v7 : Value) : (a.rcells v5 v6 v7).setIfInBounds 9 (.int .i64 ((a.ask : Int) + 1)) = a.late.rcells v5 v6 v7 := by simp [PgA.rcells, PgA.late]
set_option maxRecDepth 100000 in
set_option maxHeartbeats 4000000 in
theorem r_late {X : List Nat} {B : Nat} {w : World} {o : Nat} {a : PgA} (h : RefX X B w o a) (x : Int) (t : Nat) (ht : t ≠ a.tag) (ha : a.ask ≤ 1000000000) :
    Calls Try.prog 58 #[.pointer (some ⟨o, 0, none⟩), .int .u64 x, .int .u64 (t : Int)] w fun e w' => e = .returned (.bool false) ∧ RefX X B w' o a.late ∧ Kept [o] w w' := by
  obtain ⟨v5, v6, v7, h, hav⟩ := h
  have AV := Lib.hid hav
  clear hav
  have H := Lib.hid h
  have k8 := h.c8
  have k9 := h.c9
  have f9 := h.blk.frozen 9
  have ol := h.blk.lt
  have q0 : (((t : Int) != (a.tag : Int)) : Bool) = true := by rw [bne_iff_ne]; omega
  have hw : IntKind.i64.wrap ((a.ask : Int) + 1) = (a.ask : Int) + 1 := IntWalk.i64_in _ (by omega)
  clear h
  go_enter Try.func58, Try.ntmps58
  go_wp2_with fail
  go_ret
  have KO : Kept [o] w (w.setCell ⟨o, 9, none⟩ (.int .i64 ((a.ask : Int) + 1))) := (Kept.refl [o] w).setIn (by simp) _
  exact ⟨rfl, ⟨_, _, _, H.out.turn ((H.out.blk.set_ 9 _).cast (rlate_cells a v5 v6 v7)) KO H.out.fr H.out.lo H.out.po, AV.out.mono KO.size⟩, KO⟩
set_option maxRecDepth 100000 in
set_option maxHeartbeats 4000000 in
theorem r_post {X : List Nat} {B : Nat} {w : World} {o : Nat} {a : PgA} (h : RefX X B w o a) (x : Nat) (hx : x ∈ a.us) (hl : a.po.length ≤ 1024) (ha : a.ask ≤ 1000000000) (ht : a.tag ≤ 1000000000) :
    Calls Try.prog 58 #[.pointer (some ⟨o, 0, none⟩), .int .u64 (x : Int), .int .u64 (a.tag : Int)] w fun e w' => e = .returned (.bool true) ∧ RefX X B w' o (a.post x) ∧ Kept [o] w w' := by
  obtain ⟨v5, v6, v7, h, hav⟩ := h
  have AV := Lib.hid hav
  clear hav
  obtain ⟨A5, c5, A6, c6, A7, c7, rfl, rfl, rfl⟩ := h.forms
  have H := Lib.hid h
  have hp : 0 < a.us.length := List.length_pos_of_mem hx
  have hl' := List.length_erase_of_mem hx
  have HX : Hid ((a.us.erase x).length + 1 = a.us.length) := Lib.hid (by omega)
  have k8 := h.c8
  have k9 := h.c9
  have f9 := h.blk.frozen 9
  have ol := h.blk.lt
  have q0 : (((a.tag : Int) != (a.tag : Int)) : Bool) = false := by simp
  have hw : IntKind.i64.wrap ((a.ask : Int) + 1) = (a.ask : Int) + 1 := IntWalk.i64_in _ (by omega)
  obtain ⟨w1, hw1⟩ : ∃ w1, w.setCell ⟨o, 9, none⟩ (.int .i64 ((a.ask : Int) + 1)) = w1 := ⟨_, rfl⟩
  have KO : Hid (Kept [o] w w1) := Lib.hid (by rw [← hw1]; exact (Kept.refl [o] w).setIn (by simp) _)
  have H1 : Hid (RefP B w1 o a.late (.slice A5 a.fr.length c5) (.slice A6 a.lo.length c6) (.slice A7 a.po.length c7)) := Lib.hid (h.turn (by rw [← hw1]; exact (h.blk.set_ 9 _).cast (rlate_cells a _ _ _)) KO.out h.fr h.lo h.po)
  have z7 : w1.cell? ⟨o, 7, none⟩ = some (.slice A7 a.po.length c7) := H1.out.c7
  have z8 : w1.cell? ⟨o, 8, none⟩ = some (.int .u64 (a.tag : Int)) := H1.out.c8
  have f7 := H1.out.blk.frozen 7
  have f8 := H1.out.blk.frozen 8
  have ol1 := H1.out.blk.lt
  have hwt : IntKind.u64.wrap ((a.tag : Int) + 1) = (a.tag : Int) + 1 := by rw [IntKind.wrap_u64]; omega
  clear h hx hl'
  go_enter Try.func58, Try.ntmps58
  go_wp2_with (first | (refine app_tolN rfl (.tmp 22) (.tmp 26) rfl w1.heap.size (.slice (some ⟨w1.heap.size, 0, none⟩) 1 1) [x] a.po rfl (tol_lit _ (Blk.new w1 _ _) (Nat.le_refl _)) B A7 a.po.length c7 rfl rfl (H1.out.po.keep0 ((Kept.refl [] w1).alloc _)) (by simp) (by simp; omega) ?_; intro A9 c9 w9 T9 hk9 own9; have K9 : Kept [] w1 w9 := ((Kept.refl [] w1).alloc (.cells #[.int .u64 (x : Int)] 26)).trans hk9 (fun y hy hl => by (simp [own, Value.ownBlock] at hy; omega)); have H9 := Lib.hid (H1.out.keep0 K9); have KK9 := Lib.hid K9; have TT9 := Lib.hid T9; have OW9 : Hid (∀ g, g ∈ own (.slice A9 (1 + a.po.length) c9) → w1.heap.size ≤ g) := Lib.hid (fun g hg => by rcases own9 g (by rw [own_len _ _ (1 + a.po.length) c9 c9]; exact hg) with h | h <;> (simp [own, Value.ownBlock] at h; omega)); have y7 : w9.cell? ⟨o, 7, none⟩ = some (.slice A7 a.po.length c7) := H9.out.c7; have y8 : w9.cell? ⟨o, 8, none⟩ = some (.int .u64 (a.tag : Int)) := H9.out.c8; have g7 := H9.out.blk.frozen 7; have g8 := H9.out.blk.frozen 8; have ol9 := H9.out.blk.lt; clear T9 hk9 own9 K9) | fail)
  go_ret
  have K2 : Kept [o] w9 ((w9.setCell ⟨o, 7, none⟩ (.slice A9 (1 + a.po.length) c9)).setCell ⟨o, 8, none⟩ (.int .u64 ((a.tag : Int) + 1))) := ((Kept.refl [o] w9).setIn (by simp) _).setIn (by simp) _
  refine ⟨rfl, ⟨_, _, _, H9.out.turn (b := a.post x) (u7 := .slice A9 (1 + a.po.length) c9) (((H9.out.blk.set_ 7 _).set_ 8 _).cast ?_) K2 H9.out.fr H9.out.lo ?_, ?_⟩, (KO.out.trans (KK9.out.mono (S := []) (T := [o]) (fun x hx _ => by cases hx)) (fun x hx _ => hx)).trans K2 (fun x hx _ => hx)⟩
  · have := HX.out
    simp [PgA.rcells, PgA.post, PgA.late]
    omega
  · have := TT9.out
    rw [List.length_singleton] at this
    exact TolN.less this (by have := H1.out.Bw; omega)
  · intro s hs
    obtain ⟨a1, a2, a3, a4⟩ := AV.out s hs
    have h1 := KO.out.size
    refine ⟨by have h2 := KK9.out.size; have h3 := K2.size; omega, a2, a3, fun h => ?_⟩
    have := OW9.out s h
    omega
/-- append of a list that is told, at a step of a region that draws its order. -/
theorem step_app_tolN {w : World} {ops : Array Oper} {o : Oper} {a : Act} {K : Act → World → Prop} {Q : Exit → Act → World → Prop} {Y : Prop} (hgd : o.guard = none) (s x : Operand)
    (ho : o.op = .call { callee := .builtin .append, args := #[s, x], argTypes := #[31, 31] })
    (B : Nat) (v : Value) (l m : List Nat) (hs : a.eval s = v) (hown : TolN B w v l) (C : Nat) (A : Option Addr) (n c : Nat) (hx : a.eval x = .slice A n c) (hn : n = m.length) (hm : TolN C w (.slice A n c) m)
    (hB : B ≤ w.heap.size) (hl : l.length + m.length ≤ 100000)
    (h : ∀ A' c' w', TolN B w' (.slice A' (l.length + m.length) c') (l ++ m) → Kept (own v) w w' → (∀ g, g ∈ own (.slice A' (l.length + m.length) c') → g ∈ own v ∨ w.heap.size ≤ g) → K (a.put o.dst (.slice A' (l.length + m.length) c')) w') : if Region.wanted o (yielded ops a.tmps) = true then Oper.wp Try.prog o a w K Q else Y := by
  have hw : Region.wanted o (yielded ops a.tmps) = true := by simp [Region.wanted, hgd]
  rw [if_pos hw]
  subst hn
  have hr : 0 < (toV m).length → ∃ x, A = some x ∧ ∀ i, i < (toV m).length → w.cell? (x.add i) = (toV m)[i]? := fun h0 => by
    rw [toV_len] at h0
    obtain ⟨x, hx1, _, hx3⟩ := TolN.row hm (by rw [toI_len]; exact h0)
    refine ⟨x, hx1, fun i hi => ?_⟩
    rw [toV_len] at hi
    rw [hx3 i (by rw [toI_len]; exact hi), toI_get hi]
    simp [toV, hi]
  obtain ⟨v', w', hrun, h1, h2, h3⟩ := run_app_tol 31 26 (.int .u64 0) 8 Try.underlying31 info_u64V (by omega) rfl B v (toV l) (toV m) A c w hown hB hr (toV_one m) (by rw [toV_len, toV_len]; omega) o.type
  rw [toV_len] at hrun
  unfold Oper.wp execOp
  simp only [ho, resolve, invoke, builtin, Sem.run_bind, Sem.run_pure, Result.andThen_ok, List.map_toArray, List.map_cons, List.map_nil, hs, hx, hrun]
  have h1' : TolN B w' v' (l ++ m) := by unfold TolN; rw [toV_app]; exact h1
  obtain ⟨A', c', e, _⟩ := h1'.len
  rw [List.length_append] at e
  subst e
  exact h A' c' w' h1' h2 h3
theorem tol_made {w : World} {b : Nat} (B : Nat) (hb : Blk w b 26 #[]) (hB : B ≤ b) : TolN B w (.slice (some ⟨b, 0, none⟩) 0 0) [] :=
  .inr ⟨b, 0, 0, _, rfl, hB, hb, Nat.le_refl _, by unfold maxLen; omega, Nat.le_refl _, fun i hi => by simp [toV] at hi⟩
set_option maxRecDepth 100000 in
set_option maxHeartbeats 8000000 in
theorem r_gather {X : List Nat} {B : Nat} {w : World} {o : Nat} {a : PgA} (h : RefX X B w o a) (hl : a.po.length ≤ 1024 ∧ a.lo.length ≤ 1024 ∧ a.us.length ≤ 1024) (ha : a.ask ≤ 1000000000) (ht : a.tag ≤ 1000000000) :
    Calls Try.prog 31 #[.pointer (some ⟨o, 0, none⟩)] w fun e w' => e = .returned (.int .i64 (a.po.length : Int)) ∧ RefX X B w' o a.gath ∧ Kept [o] w w' := by
  obtain ⟨v5, v6, v7, h, hav⟩ := h
  have AV := Lib.hid hav
  clear hav
  obtain ⟨A5, c5, A6, c6, A7, c7, rfl, rfl, rfl⟩ := h.forms
  have H := Lib.hid h
  have k9 := h.c9
  have f9 := h.blk.frozen 9
  have ol := h.blk.lt
  have hw : IntKind.i64.wrap ((a.ask : Int) + 1) = (a.ask : Int) + 1 := IntWalk.i64_in _ (by omega)
  obtain ⟨w1, hw1⟩ : ∃ w1, w.setCell ⟨o, 9, none⟩ (.int .i64 ((a.ask : Int) + 1)) = w1 := ⟨_, rfl⟩
  have KO : Hid (Kept [o] w w1) := Lib.hid (by rw [← hw1]; exact (Kept.refl [o] w).setIn (by simp) _)
  have H1 : Hid (RefP B w1 o a.late (.slice A5 a.fr.length c5) (.slice A6 a.lo.length c6) (.slice A7 a.po.length c7)) := Lib.hid (h.turn (by rw [← hw1]; exact (h.blk.set_ 9 _).cast (rlate_cells a _ _ _)) KO.out h.fr h.lo h.po)
  have z6 : w1.cell? ⟨o, 6, none⟩ = some (.slice A6 a.lo.length c6) := H1.out.c6
  have z7 : w1.cell? ⟨o, 7, none⟩ = some (.slice A7 a.po.length c7) := H1.out.c7
  have f6 := H1.out.blk.frozen 6
  have ol1 := H1.out.blk.lt
  clear h
  go_enter Try.func31, Try.ntmps31
  go_wp2_with fail
  go_region_law (first
    | (refine step_app_tolN rfl (.tmp 17) (.tmp 21) rfl w1.heap.size (.slice (some ⟨w1.heap.size, 0, none⟩) 0 0) [] a.po rfl (tol_made _ (by first | exact Blk.new w1 _ _ | exact (Blk.new' w1.drew _ _ (by simp)) | exact Blk.drew (Blk.new w1 _ _)) (Nat.le_refl _)) B A7 a.po.length c7 rfl rfl (H1.out.po.keep0 (by (repeat' (first | (with_reducible exact Kept.refl _ _) | (with_reducible assumption) | (with_reducible refine Kept.then_ (by with_reducible assumption) ?_) | (with_reducible refine Kept.thenS (by with_reducible assumption) ?_) | (with_reducible refine Kept.alloc ?_ _) | (with_reducible refine Kept.drew ?_) | (with_reducible refine Kept.drewN ?_ _) | (with_reducible refine Kept.setNew ?_ ?_ _) | ((try simp only [World.size_alloc, World.size_setCell, World.size_drew, size_drewN] at *); (try dsimp only); omega))))) (by simp) (by simp; omega) ?_; intro A8 c8 w8 T8 hk8 own8; have K8 : Kept [] w1 w8 := Kept.trans (S := []) (by (repeat' (first | (with_reducible exact Kept.refl _ _) | (with_reducible assumption) | (with_reducible refine Kept.then_ (by with_reducible assumption) ?_) | (with_reducible refine Kept.thenS (by with_reducible assumption) ?_) | (with_reducible refine Kept.alloc ?_ _) | (with_reducible refine Kept.drew ?_) | (with_reducible refine Kept.drewN ?_ _) | (with_reducible refine Kept.setNew ?_ ?_ _) | ((try simp only [World.size_alloc, World.size_setCell, World.size_drew, size_drewN] at *); (try dsimp only); omega)))) hk8 (fun y hy hl => by simp [own, Value.ownBlock] at hy; omega); have G8 : Hid (∀ g, g ∈ own (.slice A8 a.po.length c8) → w1.heap.size ≤ g) := Lib.hid (fun g hg => by rcases own8 g (by simpa [own, Value.ownBlock] using hg) with h | h <;> (simp [own, Value.ownBlock] at h; omega)); have KK8 := Lib.hid K8; have TT8 : Hid (TolN w1.heap.size w8 (.slice A8 a.po.length c8) a.po) := Lib.hid (by simpa using T8); have y6 : w8.cell? ⟨o, 6, none⟩ = some (.slice A6 a.lo.length c6) := (H1.out.keep0 K8).c6; have g6 := (H1.out.keep0 K8).blk.frozen 6; have ol8 := (H1.out.keep0 K8).blk.lt; clear T8 hk8 own8 K8)
    | (refine step_app_tolN rfl (.tmp 22) (.tmp 26) rfl w1.heap.size (.slice A8 a.po.length c8) a.po a.lo rfl TT8.out B A6 a.lo.length c6 rfl rfl (H1.out.lo.keep0 KK8.out) KK8.out.size (by omega) ?_; intro A9 c9 w9 T9 hk9 own9; have K9 : Kept [] w1 w9 := Kept.trans (S := []) KK8.out hk9 (fun y hy hl => by have := G8.out y hy; omega); have KK9 := Lib.hid K9; have TT9 := Lib.hid T9; have OW9 : Hid (∀ g, g ∈ own (.slice A9 (a.po.length + a.lo.length) c9) → w1.heap.size ≤ g) := Lib.hid (fun g hg => by rcases own9 g hg with h | h; exact G8.out g h; (have := KK8.out.size; omega)); have H9 := Lib.hid (H1.out.keep0 K9); have x6 : w9.cell? ⟨o, 6, none⟩ = some (.slice A6 a.lo.length c6) := H9.out.c6; have e6 := H9.out.blk.frozen 6; have ol9 := H9.out.blk.lt; clear T9 hk9 own9 K9))
  all_goals
    have KS : Hid (Kept [o] w1 (w9.setCell ⟨o, 6, none⟩ (.slice A9 (a.po.length + a.lo.length) c9))) := Lib.hid ((KK9.out.mono (T := [o]) (fun x hx _ => by cases hx)).setIn (by simp) _)
    have HS := Lib.hid (H9.out.turn (b := { a.late with lo := a.po ++ a.lo }) (u5 := .slice A5 a.fr.length c5) (u7 := .slice A7 a.po.length c7) (u6 := .slice A9 (a.po.length + a.lo.length) c9) ((H9.out.blk.set_ 6 (.slice A9 (a.po.length + a.lo.length) c9)).cast (by simp [PgA.rcells])) ((Kept.refl [o] w9).setIn (by simp) _) H9.out.fr (TolN.less TT9.out H1.out.Bw) H9.out.po)
    generalize w9.setCell ⟨o, 6, none⟩ (.slice A9 (a.po.length + a.lo.length) c9) = wS at KS HS ⊢
    have s4 : wS.cell? ⟨o, 4, none⟩ = some (.int .i64 ((a.po.length : Int) + (a.us.length : Int))) := HS.out.c4
    have s7 : wS.cell? ⟨o, 7, none⟩ = some (.slice A7 a.po.length c7) := HS.out.c7
    have s8 : wS.cell? ⟨o, 8, none⟩ = some (.int .u64 (a.tag : Int)) := HS.out.c8
    have h4 := HS.out.blk.frozen 4
    have h7 := HS.out.blk.frozen 7
    have h8 := HS.out.blk.frozen 8
    have olS := HS.out.blk.lt
    have hwu : IntKind.i64.wrap ((a.po.length : Int) + (a.us.length : Int) - (a.po.length : Int)) = (a.us.length : Int) := by rw [IntKind.wrap_i64]; omega
    have hwt : IntKind.u64.wrap ((a.tag : Int) + 1) = (a.tag : Int) + 1 := by rw [IntKind.wrap_u64]; omega
    clear x6 e6 ol9
    go_wp2_with fail
    go_ret
    have K2 : Kept [o] wS (((wS.setCell ⟨o, 7, none⟩ (.slice none 0 0)).setCell ⟨o, 8, none⟩ (.int .u64 ((a.tag : Int) + 1))).setCell ⟨o, 4, none⟩ (.int .i64 (a.us.length : Int))) := (((Kept.refl [o] wS).setIn (by simp) _).setIn (by simp) _).setIn (by simp) _
    exact ⟨rfl, ⟨_, _, _, HS.out.turn (b := a.gath) (u5 := .slice A5 a.fr.length c5) (u6 := .slice A9 (a.po.length + a.lo.length) c9) (u7 := .slice none 0 0) ((((HS.out.blk.set_ 7 _).set_ 8 _).set_ 4 _).cast (by simp [PgA.rcells, PgA.gath, PgA.late])) K2 HS.out.fr HS.out.lo (TolN.nil _ _), fun s hs => by
      obtain ⟨a1, a2, a3, a4⟩ := AV.out s hs
      have h1 := KO.out.size
      refine ⟨by have h2 := KS.out.size; have h3 := K2.size; omega, a2, fun h => ?_, by simp [own, Value.ownBlock]⟩
      have := OW9.out s h
      omega⟩, (KO.out.trans KS.out (fun x hx _ => hx)).trans K2 (fun x hx _ => hx)⟩
end Go.Proofs.Ytgiokigokedakaa
