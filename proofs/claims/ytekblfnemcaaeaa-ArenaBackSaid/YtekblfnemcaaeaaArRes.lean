/- Reserve. -/
import Derived.Test.YtekblfnemcaaeaaArOps
import Derived.Test.YtekblfnemcaaeaaHead
set_option linter.unusedVariables false
set_option linter.unusedSimpArgs false
namespace Go.Proofs.Ytekblfnemcaaeaa
open Go.RowKit
def Ar.given (a : Ar) : Int := (a.n : Int) - cntF a.bs
def Ar.next (a : Ar) : Ar := { a with ts := a.ts.tail }
theorem res_arg (S : List Nat) (w : World) (p : Nat) (a : Ar) (h : ArS S w p a) (k : Int) (ho : k < 1 ∨ (a.n : Int) < k) (h64 : a.n ≤ 64) :
    Calls Try.prog 11 #[.pointer (some ⟨p, 0, none⟩), .int .i64 k] w fun e w' => e = .returned (.tuple #[.int .i64 0, .int .i64 2]) ∧ Kept [] w w' := by
  have c1 := h.nn
  have hpl := h.ltp
  clear h
  generalize a.n = n at *
  by_cases q1 : k < 1
  · have q : decide (k < 1) = true := by simp; omega
    clear ho
    go_enter Try.func11, Try.ntmps11
    go_wp2_with fail
    go_ret2
    exact ⟨rfl, by (repeat' (first | (with_reducible exact Kept.refl _ _) | (with_reducible assumption) | (with_reducible refine Kept.then_ (by with_reducible assumption) ?_) | (with_reducible refine Kept.thenS (by with_reducible assumption) ?_) | (with_reducible refine Kept.alloc ?_ _) | (with_reducible refine Kept.drew ?_) | (with_reducible refine Kept.drewN ?_ _) | (with_reducible refine Kept.setNew ?_ ?_ _) | ((try simp only [World.size_alloc, World.size_setCell, World.size_drew, size_drewN] at *); (try dsimp only); omega)))⟩
  · have q : decide (k < 1) = false := by simp; omega
    have q2 : (n : Int) < k := by omega
    clear ho
    go_enter Try.func11, Try.ntmps11
    go_wp2_with fail
    go_ret2
    exact ⟨rfl, by (repeat' (first | (with_reducible exact Kept.refl _ _) | (with_reducible assumption) | (with_reducible refine Kept.then_ (by with_reducible assumption) ?_) | (with_reducible refine Kept.thenS (by with_reducible assumption) ?_) | (with_reducible refine Kept.alloc ?_ _) | (with_reducible refine Kept.drew ?_) | (with_reducible refine Kept.drewN ?_ _) | (with_reducible refine Kept.setNew ?_ ?_ _) | ((try simp only [World.size_alloc, World.size_setCell, World.size_drew, size_drewN] at *); (try dsimp only); omega)))⟩
def NextC (S : List Nat) (w : World) (p : Nat) (a : Ar) (nv : Bool) : Prop := ∀ w', Kept [] w w' → Calls Try.prog 27 #[.pointer (some ⟨p, 0, none⟩)] w' fun e w'' => e = .returned (.bool nv) ∧ LeftA S w p a.next w''
theorem next_c (S : List Nat) (w : World) (p : Nat) (a : Ar) (h : ArS S w p a) (hl : a.ts.length ≤ 1000) (nv : Bool) (hn : a.ts.headD false = nv) : NextC S w p a nv := fun w' hk =>
  (next_any S w' p a (h.keep0 hk) hl nv hn).mono fun e w'' ⟨he, S', h1, h2, h3⟩ => ⟨he, S', h1, fun q hq => by
    rcases h2 q hq with h | h
    · exact .inl h
    · right; have := hk.size; omega, (hk.mono (T := S) (fun x hx _ => by cases hx)).trans h3 (fun x hx _ => hx)⟩
theorem LeftA.lim {S : List Nat} {W w : World} {p : Nat} {a : Ar} (h : LeftA S W p a w) : w.cell? ⟨p, 2, none⟩ = some (.int .i64 a.lim) := by
  obtain ⟨S', h1, _, _⟩ := h
  exact h1.lim
theorem LeftA.ltp {S : List Nat} {W w : World} {p : Nat} {a : Ar} (h : LeftA S W p a w) : p < w.heap.size := by
  obtain ⟨S', h1, _, _⟩ := h
  exact h1.ltp
theorem LeftA.given {S : List Nat} {W w : World} {p : Nat} {a : Ar} (h : LeftA S W p a w) (hn : a.bs.length = a.n) (h64 : a.n ≤ 64) :
    Calls Try.prog 13 #[.pointer (some ⟨p, 0, none⟩)] w fun e w' => e = .returned (.int .i64 a.given) ∧ Kept [] w w' := by
  obtain ⟨S', h1, _, _⟩ := h
  exact given_ar S' w p a h1 hn h64
theorem LeftA.refusing {S : List Nat} {W w : World} {p : Nat} {a : Ar} (h : LeftA S W p a w) (r : Int) : w.cell? ⟨p, 5, none⟩ = some (.int .i64 a.ref) ∧ w.frozen? ⟨p, 5, none⟩ = false ∧ LeftA S W p { a with ref := r } (w.setCell ⟨p, 5, none⟩ (.int .i64 r)) := by
  obtain ⟨S', h1, h2, h3⟩ := h
  obtain ⟨c, f, h4, h5⟩ := h1.refusing r
  exact ⟨c, f, S', h4, h2, h3.grow h2 h5⟩
/-- Behind what was told: refused. -/
def Ar.no (a : Ar) : Ar := { a.next with ref := a.ref + 1 }
set_option maxRecDepth 100000 in
set_option maxHeartbeats 4000000 in
theorem res_told (S : List Nat) (w : World) (p : Nat) (a : Ar) (h : ArS S w p a) (k : Int) (h1 : 1 ≤ k) (hk : k ≤ (a.n : Int)) (h64 : a.n ≤ 64) (hts : a.ts.length ≤ 1000) (hno : a.ts.headD false = true) (hr : 0 ≤ a.ref ∧ a.ref ≤ 100000) :
    Calls Try.prog 11 #[.pointer (some ⟨p, 0, none⟩), .int .i64 k] w fun e w' => e = .returned (.tuple #[.int .i64 0, .int .i64 4]) ∧ LeftA S w p a.no w' := by
  have c1 := h.nn
  have hpl := h.ltp
  have DN := Lib.hid (next_c S w p a h hts true hno w.drew ((Kept.refl [] w).drew))
  have HF : Hid (∀ w', LeftA S w p a.next w' → p < w'.heap.size ∧ w'.cell? ⟨p, 5, none⟩ = some (.int .i64 a.ref) ∧ w'.frozen? ⟨p, 5, none⟩ = false ∧ LeftA S w p a.no (w'.setCell ⟨p, 5, none⟩ (.int .i64 (a.ref + 1)))) := Lib.hid (fun w' h' => ⟨h'.ltp, h'.refusing (a.ref + 1)⟩)
  have q1 : decide (k < 1) = false := by simp; omega
  have q2 : decide ((a.n : Int) < k) = false := by simp; omega
  clear h hno hts
  generalize a.no = an at *
  generalize a.next = a1 at *
  generalize a.n = n at *
  generalize a.ref = rf at *
  go_enter Try.func11, Try.ntmps11
  go_wp2_with fail
  refine wp_region_head 4 (by kernel_rfl) (by kernel_rfl) ?_
  simp only [List.take_succ_cons, List.take_zero, List.drop_succ_cons, List.drop_zero]
  go_wp2_with fail
  (with_reducible refine DN.out.mono ?_)
  rintro e w1 ⟨rfl, hL1⟩
  have HL1 := Lib.hid hL1
  clear hL1
  go_wp2_with fail
  refine rest_kept ?_
  intro TT FF hne hFF hcl
  repeat (first | go_big_quiet_step (fail) | quiet_step (fail))
  refine wpQuiet_nil ?_
  rintro w5 ⟨x, hx⟩
  have hL5 := HL1.out.keep0 (hFF x)
  rw [← hx] at hL5
  clear hx x hne hFF hcl
  obtain ⟨hp5, c5, f5, hL⟩ := HF.out _ hL5
  have HL := Lib.hid hL
  clear hL5 hL
  go_wp2_with fail
  go_ret2
  exact ⟨rfl, HL.out⟩
/-- No room under the limit, or no row that is long enough. -/
theorem res_over (S : List Nat) (w : World) (p : Nat) (a : Ar) (h : ArS S w p a) (k : Int) (h1 : 1 ≤ k) (hk : k ≤ (a.n : Int)) (h64 : a.n ≤ 64) (hn : a.bs.length = a.n) (hts : a.ts.length ≤ 1000) (hno : a.ts.headD false = false) (hr : 0 ≤ a.ref ∧ a.ref ≤ 100000) (hg : 0 ≤ a.given ∧ a.given ≤ 64) (hov : a.lim < a.given + k) :
    Calls Try.prog 11 #[.pointer (some ⟨p, 0, none⟩), .int .i64 k] w fun e w' => e = .returned (.tuple #[.int .i64 0, .int .i64 4]) ∧ LeftA S w p a.no w' := by
  have c1 := h.nn
  have hpl := h.ltp
  have DN := Lib.hid (next_c S w p a h hts false hno w.drew ((Kept.refl [] w).drew))
  have DG : Hid (∀ w', LeftA S w p a.next w' → Calls Try.prog 13 #[.pointer (some ⟨p, 0, none⟩)] w' fun e w'' => e = .returned (.int .i64 a.given) ∧ Kept [] w' w'') := Lib.hid (fun w' h' => h'.given hn h64)
  have DL : Hid (∀ w', LeftA S w p a.next w' → w'.cell? ⟨p, 2, none⟩ = some (.int .i64 a.lim) ∧ p < w'.heap.size) := Lib.hid (fun w' h' => ⟨h'.lim, h'.ltp⟩)
  have HF : Hid (∀ w', LeftA S w p a.next w' → p < w'.heap.size ∧ w'.cell? ⟨p, 5, none⟩ = some (.int .i64 a.ref) ∧ w'.frozen? ⟨p, 5, none⟩ = false ∧ LeftA S w p a.no (w'.setCell ⟨p, 5, none⟩ (.int .i64 (a.ref + 1)))) := Lib.hid (fun w' h' => ⟨h'.ltp, h'.refusing (a.ref + 1)⟩)
  have q1 : decide (k < 1) = false := by simp; omega
  have q2 : decide ((a.n : Int) < k) = false := by simp; omega
  have q3 : decide (a.given + k ≤ a.lim) = false := by simp; omega
  have q4 : IntKind.i64.wrap (a.given + k) = a.given + k := IntWalk.i64_in _ (by omega)
  clear h hno hts
  generalize a.no = an at *
  generalize a.next = a1 at *
  generalize a.given = gv at *
  generalize a.lim = lim at *
  generalize a.n = n at *
  generalize a.ref = rf at *
  go_enter Try.func11, Try.ntmps11
  go_wp2_with fail
  refine wp_region_head 4 (by kernel_rfl) (by kernel_rfl) ?_
  simp only [List.take_succ_cons, List.take_zero, List.drop_succ_cons, List.drop_zero]
  go_wp2_with fail
  (with_reducible refine DN.out.mono ?_)
  rintro e w1 ⟨rfl, hL1⟩
  have HL1 := Lib.hid hL1
  clear hL1
  go_wp2_with fail
  refine rest_kept ?_
  intro TT FF hne hFF hcl
  have d2 := fun x => (DL.out _ (HL1.out.keep0 (hFF x))).1
  have dp := fun x => (DL.out _ (HL1.out.keep0 (hFF x))).2
  have DGF := fun x => DG.out _ (HL1.out.keep0 (hFF x))
  repeat (first | go_big_quiet_step ((go_at_call 13; (with_reducible refine kept_call hcl (DGF _)))) | quiet_step ((go_at_call 13; (with_reducible refine kept_call hcl (DGF _)))))
  refine wpQuiet_nil ?_
  rintro w5 ⟨x, hx⟩
  have hL5 := HL1.out.keep0 (hFF x)
  rw [← hx] at hL5
  clear hx x hne hFF hcl d2 dp DGF q4
  obtain ⟨hp5, c5, f5, hL⟩ := HF.out _ hL5
  have HL := Lib.hid hL
  clear hL5 hL
  go_wp2_with fail
  go_ret2
  exact ⟨rfl, HL.out⟩
end Go.Proofs.Ytekblfnemcaaeaa
