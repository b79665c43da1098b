/- Reserve and Release, whole. -/
import Derived.Test.YtekblfnemcaaeaaArRes2
set_option linter.unusedVariables false
set_option linter.unusedSimpArgs false
namespace Go.Proofs.Ytekblfnemcaaeaa
open Go.RowKit
set_option maxRecDepth 100000 in
set_option maxHeartbeats 4000000 in
/-- No row that is long enough. -/
theorem res_full (S : List Nat) (w : World) (p : Nat) (a : Ar) (h : ArS S w p a) (k : Nat) (h1 : 1 ≤ k) (hk : k ≤ a.n) (h64 : a.n ≤ 64) (hn : a.bs.length = a.n) (hts : a.ts.length ≤ 1000) (hno : a.ts.headD false = false) (hr : 0 ≤ a.ref ∧ a.ref ≤ 100000) (hg : 0 ≤ a.given ∧ a.given ≤ 64) (hov : a.given + k ≤ a.lim) (hfull : ∀ b, ¬ FreeAt a.bs b k) :
    Calls Try.prog 11 #[.pointer (some ⟨p, 0, none⟩), .int .i64 k] w fun e w' => e = .returned (.tuple #[.int .i64 0, .int .i64 4]) ∧ LeftA S w p a.no w' := by
  have c1 := h.nn
  have hpl := h.ltp
  have DN := Lib.hid (next_c S w p a h hts false hno w.drew ((Kept.refl [] w).drew))
  have DG : Hid (∀ w', LeftA S w p a.next w' → Calls Try.prog 13 #[.pointer (some ⟨p, 0, none⟩)] w' fun e w'' => e = .returned (.int .i64 a.given) ∧ Kept [] w' w'') := Lib.hid (fun w' h' => h'.given hn h64)
  have DL : Hid (∀ w', LeftA S w p a.next w' → w'.cell? ⟨p, 2, none⟩ = some (.int .i64 a.lim) ∧ p < w'.heap.size) := Lib.hid (fun w' h' => ⟨h'.lim, h'.ltp⟩)
  have DT : Hid (∀ w', LeftA S w p a.next w' → ∃ mp, w'.cell? ⟨p, 0, none⟩ = some (.pointer (some ⟨mp, 0, none⟩)) ∧ Calls Try.prog 28 #[.pointer (some ⟨mp, 0, none⟩), .int .i64 k] w' fun e w'' => e = .returned (.tuple #[.int .i64 0, .int .i64 4]) ∧ Kept [] w' w'') := Lib.hid (fun w' h' => h'.takes_full k h1 (by show k ≤ a.bs.length; omega) hfull)
  have HF : Hid (∀ w', LeftA S w p a.next w' → p < w'.heap.size ∧ w'.cell? ⟨p, 5, none⟩ = some (.int .i64 a.ref) ∧ w'.frozen? ⟨p, 5, none⟩ = false ∧ LeftA S w p a.no (w'.setCell ⟨p, 5, none⟩ (.int .i64 (a.ref + 1)))) := Lib.hid (fun w' h' => ⟨h'.ltp, h'.refusing (a.ref + 1)⟩)
  have q1 : decide ((k : Int) < 1) = false := by simp; omega
  have q2 : decide (a.n < k) = false := by simp; omega
  have q3 : decide (a.given + k ≤ a.lim) = true := by simp; omega
  have q4 : IntKind.i64.wrap (a.given + k) = a.given + k := IntWalk.i64_in _ (by omega)
  clear h hno hts hn hfull
  generalize a.no = an at *
  generalize a.next = a1 at *
  generalize a.given = gv at *
  generalize a.lim = lim at *
  generalize a.n = n at *
  generalize a.ref = rf at *
  go_enter Try.func11, Try.ntmps11
  go_wp2_with fail
  refine wp_region_head 4 (by kernel_rfl) (by kernel_rfl) ?_
  simp only [List.take_succ_cons, List.take_zero, List.drop_succ_cons, List.drop_zero]
  go_wp2_with fail
  (with_reducible refine DN.out.mono ?_)
  rintro e w1 ⟨rfl, hL1⟩
  have HL1 := Lib.hid hL1
  clear hL1
  go_wp2_with fail
  refine rest_kept ?_
  intro TT FF hne hFF hcl
  have d2 := fun x => (DL.out _ (HL1.out.keep0 (hFF x))).1
  have dp := fun x => (DL.out _ (HL1.out.keep0 (hFF x))).2
  have DGF := fun x => DG.out _ (HL1.out.keep0 (hFF x))
  repeat (first | go_big_quiet_step ((go_at_call 13; (with_reducible refine kept_call hcl (DGF _)))) | quiet_step ((go_at_call 13; (with_reducible refine kept_call hcl (DGF _)))))
  refine wpQuiet_nil ?_
  rintro w5 ⟨x, hx⟩
  have hL5 := HL1.out.keep0 (hFF x)
  rw [← hx] at hL5
  clear hx x hne hFF hcl d2 dp DGF q4
  obtain ⟨mp, c0, hT⟩ := DT.out _ hL5
  have hp5 := hL5.ltp
  have HT := Lib.hid hT
  have HL5 := Lib.hid hL5
  clear hT hL5
  go_wp2_with fail
  (with_reducible refine HT.out.mono ?_)
  rintro e w6 ⟨rfl, hb6⟩
  obtain ⟨hp6, c5, f5, hL⟩ := HF.out _ (HL5.out.keep0 hb6)
  have HL := Lib.hid hL
  clear hL hb6
  go_wp2_with fail
  go_ret2
  exact ⟨rfl, HL.out⟩
/-- An arena that has given a region. -/
def Ar.yes (a : Ar) (at_ k j : Nat) : Ar := { a.next with bs := put a.bs at_ k true, ls := ins a.ls j ((at_ : Int), (k : Int)) }
set_option maxRecDepth 100000 in
set_option maxHeartbeats 4000000 in
theorem res_ok (S : List Nat) (w : World) (p : Nat) (a : Ar) (h : ArS S w p a) (k : Nat) (h1 : 1 ≤ k) (hk : k ≤ a.n) (h64 : a.n ≤ 64) (hn : a.bs.length = a.n) (hts : a.ts.length ≤ 1000) (hno : a.ts.headD false = false) (hg : 0 ≤ a.given ∧ a.given ≤ 64) (hov : a.given + k ≤ a.lim)
    (at_ : Nat) (hf : FreeAt a.bs at_ k) (hlow : ∀ b, b < at_ → ¬ FreeAt a.bs b k) (hll : a.ls.length ≤ 1000) (j : Nat) (hj : AtG a.ls at_ j) :
    Calls Try.prog 11 #[.pointer (some ⟨p, 0, none⟩), .int .i64 k] w fun e w' => e = .returned (.tuple #[.int .i64 at_, .int .i64 0]) ∧ LeftA S w p (a.yes at_ k j) w' := by
  have c1 := h.nn
  have hpl := h.ltp
  have DN := Lib.hid (next_c S w p a h hts false hno w.drew ((Kept.refl [] w).drew))
  have DG : Hid (∀ w', LeftA S w p a.next w' → Calls Try.prog 13 #[.pointer (some ⟨p, 0, none⟩)] w' fun e w'' => e = .returned (.int .i64 a.given) ∧ Kept [] w' w'') := Lib.hid (fun w' h' => h'.given hn h64)
  have DL : Hid (∀ w', LeftA S w p a.next w' → w'.cell? ⟨p, 2, none⟩ = some (.int .i64 a.lim) ∧ p < w'.heap.size) := Lib.hid (fun w' h' => ⟨h'.lim, h'.ltp⟩)
  have DT := Lib.hid (fun w' (h' : LeftA S w p a.next w') => h'.takes_at k at_ h1 hf hlow)
  obtain ⟨a2, ha2⟩ : ∃ a2 : Ar, a2 = { a.next with bs := put a.next.bs at_ k true } := ⟨_, rfl⟩
  rw [← ha2] at DT
  have hls : a2.ls = a.ls := by rw [ha2]; rfl
  obtain ⟨hit, hhit⟩ : ∃ hit, hitG a.ls at_ j = hit := ⟨_, rfl⟩
  have DF := Lib.hid (fun w' (h' : LeftA S w p a2 w') => h'.find at_ (by rw [hls]; exact hll) j (by rw [hls]; exact hj) hit (by rw [hls]; exact hhit))
  have DI := Lib.hid (fun w' (h' : LeftA S w p a2 w') => h'.insert j (at_, k) (by rw [hls]; exact hj.1) (by rw [hls]; exact hll))
  have e3 : ({ a2 with ls := ins a2.ls j ((at_ : Int), (k : Int)) } : Ar) = a.yes at_ k j := by rw [ha2]; rfl
  rw [e3] at DI
  have q1 : decide ((k : Int) < 1) = false := by simp; omega
  have q2 : decide (a.n < k) = false := by simp; omega
  have q3 : decide (a.given + k ≤ a.lim) = true := by simp; omega
  have q4 : IntKind.i64.wrap (a.given + k) = a.given + k := IntWalk.i64_in _ (by omega)
  clear h hno hts hn hf hlow hj hls e3 ha2 hhit hll
  generalize a.yes at_ k j = an at *
  generalize a.next = a1 at *
  generalize a.given = gv at *
  generalize a.lim = lim at *
  generalize a.n = n at *
  go_enter Try.func11, Try.ntmps11
  go_wp2_with fail
  refine wp_region_head 4 (by kernel_rfl) (by kernel_rfl) ?_
  simp only [List.take_succ_cons, List.take_zero, List.drop_succ_cons, List.drop_zero]
  go_wp2_with fail
  (with_reducible refine DN.out.mono ?_)
  rintro e w1 ⟨rfl, hL1⟩
  have HL1 := Lib.hid hL1
  clear hL1
  go_wp2_with fail
  refine rest_kept ?_
  intro TT FF hne hFF hcl
  have d2 := fun x => (DL.out _ (HL1.out.keep0 (hFF x))).1
  have dp := fun x => (DL.out _ (HL1.out.keep0 (hFF x))).2
  have DGF := fun x => DG.out _ (HL1.out.keep0 (hFF x))
  repeat (first | go_big_quiet_step ((go_at_call 13; (with_reducible refine kept_call hcl (DGF _)))) | quiet_step ((go_at_call 13; (with_reducible refine kept_call hcl (DGF _)))))
  refine wpQuiet_nil ?_
  rintro w5 ⟨x, hx⟩
  have hL5 := HL1.out.keep0 (hFF x)
  rw [← hx] at hL5
  clear hx x hne hFF hcl d2 dp DGF q4
  obtain ⟨mp, c0, hT⟩ := DT.out _ hL5
  have hp5 := hL5.ltp
  have HT := Lib.hid hT
  clear hT hL5
  go_wp2_with fail
  (with_reducible refine HT.out.mono ?_)
  rintro e w6 ⟨rfl, hL6⟩
  have HL6 := Lib.hid hL6
  clear hL6
  go_wp2_with fail
  (with_reducible refine (DF.out _ HL6.out).mono ?_)
  rintro e w7 ⟨rfl, hb7⟩
  have hL7 := HL6.out.keep0 hb7
  obtain ⟨A, sn, sc, c3, hI⟩ := DI.out _ hL7
  have hp7 := hL7.ltp
  have HI := Lib.hid hI
  clear hb7 hL7 hI
  go_wp2_with fail
  (with_reducible refine HI.out.mono ?_)
  rintro e w8 ⟨A', n', c', rfl, d3, hp8, f3, hL8⟩
  have HL8 := Lib.hid hL8
  clear hL8
  go_wp2_with fail
  go_ret2
  exact ⟨rfl, HL8.out⟩
end Go.Proofs.Ytekblfnemcaaeaa
