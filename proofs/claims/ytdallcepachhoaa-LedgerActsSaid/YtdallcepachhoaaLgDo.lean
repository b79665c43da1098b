/- One act, done in both. -/
import Derived.Test.YtdallcepachhoaaLgDuo
import Derived.Test.YtdallcepachhoaaLgActs
import Derived.Deep.RegionHeld3
import Derived.RegionTactic
set_option linter.unusedVariables false
set_option linter.unusedSimpArgs false
namespace Go.Proofs.Ytdallcepachhoaa
open Go.RowKit
theorem eg_rdrop (args : Array Value) (w : World) : (callFunc 34 args).run Try.prog w = .ok (.enter 34 args) w := enters_of Try.func34 (by kernel_rfl) rfl args w
theorem eg_rhold (args : Array Value) (w : World) : (callFunc 35 args).run Try.prog w = .ok (.enter 35 args) w := enters_of Try.func35 (by kernel_rfl) rfl args w
theorem eg_rlet (args : Array Value) (w : World) : (callFunc 36 args).run Try.prog w = .ok (.enter 36 args) w := enters_of Try.func36 (by kernel_rfl) rfl args w
/-- What each of the document's acts keeps. -/
def StR (W : World) (X : List Nat) (p : Nat) (ls : List EntT) (m : Nat) (w0 : World) (ms : List EntT) (w : World) : Prop := Duo W X w p ls m ms ∧ KeptX X w0 w
theorem rowX_W {W0 W w : World} {k : IntKind} {A : Option Addr} {zs : List Int} (h : RowX k W0 A zs) (hk : Kept [] W0 w) : RowX k w A zs := h.keep hk
section
variable {W w : World} {X : List Nat} {p m : Nat} {ls ms : List EntT}
theorem duo_leach (F : FuncId) (step : List EntT → Nat → Int × List EntT) (hs : StepOk step) (eg : ∀ args w, (callFunc F args).run Try.prog w = .ok (.enter F args) w)
    (hF : ∀ (T : List Nat) (W : World) (m : Nat) (ls : List EntT), RefS T W m ls → ls.length ≤ 1000 → ∀ z : Int, Calls Try.prog F #[.pointer (some ⟨m, 0, none⟩), .int .u64 z] W fun e w' => e = .returned (.int .i64 (eachP step ls [z]).1) ∧ LeftR T W m (eachP step ls [z]).2 w')
    (A : Option Addr) (n c : Nat) (zs : List Int) (hn : n = zs.length) (hzl : zs.length ≤ 9223372036854775807) (hz : RowX .u64 W A zs) (h : Duo W X w p ls m ms) (hl : ms.length ≤ 1000) :
    Calls Try.prog 33 #[.slice A n c, .func (.func F) #[.pointer (some ⟨m, 0, none⟩)] #[]] w (DuoE W X p ls m (eachP step ms zs).2 (eachP step ms zs).1 w) := by
  subst hn
  refine (leach_any (StR W X p ls m w) F m eg step hs A c zs hzl (fun ms w' hst => hz.keep hst.1.kept) (fun w' ms z hi hl hst => ?_) w ms ⟨h, Nat.le_refl _, fun _ _ => rfl⟩ h.2.2.2.2 hl).mono fun e w' ⟨he, hst⟩ => ⟨he, hst.1, hst.2⟩
  refine (hst.1.runR (R := fun e => e = .returned (.int .i64 (eachP step ms [z]).1)) (eachP_ok hs [z] ms hi).1 (fun T hT => hF T w' m ms hT hl z)).mono fun e w'' ⟨he, hD, hk⟩ => ⟨he, hD, hst.2.trans hk⟩
end
theorem addR_ex {ls : List EntT} (hi : LInv ls) (a n l : Int) : ∃ er ls', AddR ls a n l er ls' := by
  by_cases hm : May a n l
  · by_cases hf : FreeL ls a (mx n)
    · obtain ⟨j, hj⟩ := at_ex hi a
      exact ⟨0, _, .inr (.inr ⟨hm, hf, rfl, j, hj, rfl⟩)⟩
    · exact ⟨6, _, .inr (.inl ⟨hm, hf, rfl, rfl⟩)⟩
  · exact ⟨2, _, .inl ⟨hm, rfl, rfl⟩⟩
theorem duo_add {W w : World} {X : List Nat} {p m : Nat} {ls ms ls' : List EntT} (h : Duo W X w p ls m ms) (hll : ls.length ≤ 1000) (a n l er : Int) (ha : 0 ≤ a ∧ a ≤ 18446744073709551615) (hn : 0 ≤ n ∧ n ≤ 18446744073709551615) (hl : 0 ≤ l ∧ l ≤ 18446744073709551615) (hR : AddR ls a n l er ls') :
    Calls Try.prog 15 #[.pointer (some ⟨p, 0, none⟩), .agg #[.int .u64 a, .int .u64 n, .int .u64 l]] w (DuoE W X p ls' m ms er w) := by
  have hi := h.2.2.2.1
  refine h.runL (R := fun e => e = .returned (.int .i64 er)) (hR.ok hi ha.1 hn.1).1 (fun S h1 h2 => ?_)
  by_cases hm : May a n l
  · by_cases hf : FreeL ls a (mx n)
    · obtain ⟨j, hj⟩ := at_ex hi a
      obtain ⟨e1, e2⟩ := hR.one (.inr (.inr ⟨hm, hf, rfl, j, hj, rfl⟩))
      subst e1 e2
      exact add_ok S w p ls h1 hi hll a n l ha hn hl hm hf j hj
    · obtain ⟨e1, e2⟩ := hR.one (.inr (.inl ⟨hm, hf, rfl, rfl⟩))
      subst e1 e2
      exact (add_there S w p _ h1 hi hll a n l ha hn hl hm hf).mono fun e w' ⟨he, hk⟩ => ⟨he, (LeftL.of h1).keep0 hk⟩
  · obtain ⟨e1, e2⟩ := hR.one (.inl ⟨hm, rfl, rfl⟩)
    subst e1 e2
    exact (add_arg S w p _ h1 a n l ha hn hl hm).mono fun e w' ⟨he, hk⟩ => ⟨he, (LeftL.of h1).keep0 hk⟩
theorem duo_radd {W w : World} {X : List Nat} {p m : Nat} {ls ms ms' : List EntT} (h : Duo W X w p ls m ms) (hll : ms.length ≤ 1000) (a n l er : Int) (ha : 0 ≤ a ∧ a ≤ 18446744073709551615) (hn : 0 ≤ n ∧ n ≤ 18446744073709551615) (hl : 0 ≤ l ∧ l ≤ 18446744073709551615) (hR : AddR ms a n l er ms') :
    Calls Try.prog 40 #[.pointer (some ⟨m, 0, none⟩), .agg #[.int .u64 a, .int .u64 n, .int .u64 l]] w (DuoE W X p ls m ms' er w) :=
  h.runR (R := fun e => e = .returned (.int .i64 er)) (hR.ok h.2.2.2.2 ha.1 hn.1).1 (fun T hT => radd_any T w m ms ms' hT h.2.2.2.2 hll a n l er ha hn hl hR)
/-- What an act answers, and leaves. -/
def DoR (W : World) (X : List Nat) (p : Nat) (ls : List EntT) (m : Nat) (w : World) (e : Ending) (w' : World) : Prop := e = .returned (.bool true) ∧ ∃ ls', ls'.length ≤ ls.length + 1 ∧ Duo W X w' p ls' m ls' ∧ KeptX X w w'
theorem DoR.of {W w w' : World} {X : List Nat} {y p m : Nat} {ls ls' : List EntT} (hl : ls'.length ≤ ls.length + 1) (hD : Duo W (y :: X) w' p ls' m ls') (h0 : Duo W X w p ls m ls) (o : Obj) (hk : KeptX (y :: X) (w.alloc o) w') : DoR W X p ls m w (.returned (.bool true)) w' :=
  ⟨rfl, ls', hl, hD.fewer (fun x hx => by simp [hx]), (h0.kx ((Kept.refl [] w).alloc o)).trans hk.less⟩
set_option maxRecDepth 100000 in
set_option maxHeartbeats 4000000 in
theorem do_k1 {W0 W w : World} {X : List Nat} {p m : Nat} {ls : List EntT} (h : Duo W X w p ls m ls) (hll : ls.length ≤ 900) (hW : Kept [] W0 W) (za zn zl : Int) (A : Option Addr) (c : Nat) (zs : List Int) (b1 : 0 ≤ za ∧ za ≤ 18446744073709551615) (b2 : 0 ≤ zn ∧ zn ≤ 18446744073709551615) (b3 : 0 ≤ zl ∧ zl ≤ 18446744073709551615) (hz : RowX .u64 W0 A zs) (hzl : zs.length ≤ 9223372036854775807) :
    Calls Try.prog 21 #[.pointer (some ⟨p, 0, none⟩), .pointer (some ⟨m, 0, none⟩), .agg #[.int .i64 1, .int .u64 za, .int .u64 zn, .int .u64 zl, .slice A zs.length c]] w (DoR W X p ls m w) := by
  have H0 := Lib.hid h
  have hD := h.more ((Kept.refl [] w).alloc (.cells #[.int .i64 1, .int .u64 za, .int .u64 zn, .int .u64 zl, .slice A zs.length c] 56)) w.heap.size (Nat.le_refl _) (by simp)
  have hB := Blk.new w 56 #[.int .i64 1, .int .u64 za, .int .u64 zn, .int .u64 zl, .slice A zs.length c]
  have D1 := Lib.hid hD
  have HB := Lib.hid hB
  have hlp := h.ltp
  have hok := eachP_ok dropStep_ok zs ls h.2.2.2.1
  obtain ⟨er, l2, hst⟩ : ∃ er l2, eachP dropStep ls zs = (er, l2) := ⟨_, _, rfl⟩
  rw [hst] at hok
  have HOK := Lib.hid hok
  have DL : Hid (∀ ms w', Duo W (w.heap.size :: X) w' p ls m ms → Calls Try.prog 17 #[.pointer (some ⟨p, 0, none⟩), .slice A zs.length c] w' (DuoE W (w.heap.size :: X) p l2 m ms er w')) := Lib.hid (fun ms w' hd => by
    have := duo_each 17 dropStep dropStep_ok hd rfl ((hz.keep hW).keep hd.kept) (fun h0 x hx => by
      obtain ⟨x', hx', hb, _⟩ := hz h0
      rw [hx] at hx'
      cases hx'
      have := hW.size
      omega) (fun S h1 hi hA => drop_any S w' p ls h1 hi (by omega) A zs.length c zs rfl ((hz.keep hW).keep hd.kept) hA hzl)
    rw [hst] at this
    exact this)
  have DR : Hid (∀ l0 w', Duo W (w.heap.size :: X) w' p l0 m ls → Calls Try.prog 33 #[.slice A zs.length c, .func (.func 34) #[.pointer (some ⟨m, 0, none⟩)] #[]] w' (DuoE W (w.heap.size :: X) p l0 m l2 er w')) := Lib.hid (fun l0 w' hd => by
    have := duo_leach 34 dropStep dropStep_ok eg_rdrop rdrop_any A zs.length c zs rfl hzl (hz.keep hW) hd (by omega)
    rw [hst] at this
    exact this)
  have c0 := hB.cell
  have l0 := hB.lt
  clear h hD hok hst hz hB
  go_enter Try.func21, Try.ntmps21
  go_wp2_with fail
  go_region_held3 (fun w' => w'.cell? ⟨w.heap.size, 4, none⟩ = some (.slice A zs.length c) ∧ w.heap.size < w'.heap.size) (first | go_keep | exact ⟨HB.out.cell 4, by simp⟩ | exact ⟨u4, u5⟩ | exact ⟨v4, v5⟩) (first
    | (go_at_call 17; (first | refine (DL.out _ _ E5.out).mono ?_ | refine (DL.out _ _ (D1.out.keep0 (by (repeat' (first | (with_reducible exact Kept.refl _ _) | (with_reducible assumption) | (with_reducible refine Kept.then_ (by with_reducible assumption) ?_) | (with_reducible refine Kept.thenS (by with_reducible assumption) ?_) | (with_reducible refine Kept.alloc ?_ _) | (with_reducible refine Kept.drew ?_) | (with_reducible refine Kept.drewN ?_ _) | (with_reducible refine Kept.setNew ?_ ?_ _) | ((try simp only [World.size_alloc, World.size_setCell, World.size_drew, size_drewN] at *); (try dsimp only); omega)))))).mono ?_); rintro e w4 ⟨rfl, hD4, hk4⟩; have D4 := Lib.hid hD4; have u4 := (blkX (by first | exact BB5.out | exact HB.out) hk4 (by simp)).cell 4; have u5 := (blkX (by first | exact BB5.out | exact HB.out) hk4 (by simp)).lt; have BB4 := Lib.hid (blkX (by first | exact BB5.out | exact HB.out) hk4 (by simp)); have K4 := Lib.hid hk4; clear hD4 hk4)
    | (go_at_call 33; (first | refine (DR.out _ _ D4.out).mono ?_ | refine (DR.out _ _ (D1.out.keep0 (by (repeat' (first | (with_reducible exact Kept.refl _ _) | (with_reducible assumption) | (with_reducible refine Kept.then_ (by with_reducible assumption) ?_) | (with_reducible refine Kept.thenS (by with_reducible assumption) ?_) | (with_reducible refine Kept.alloc ?_ _) | (with_reducible refine Kept.drew ?_) | (with_reducible refine Kept.drewN ?_ _) | (with_reducible refine Kept.setNew ?_ ?_ _) | ((try simp only [World.size_alloc, World.size_setCell, World.size_drew, size_drewN] at *); (try dsimp only); omega)))))).mono ?_); rintro e w5 ⟨rfl, hE5, hk5⟩; have E5 := Lib.hid hE5; have v4 := (blkX (by first | exact BB4.out | exact HB.out) hk5 (by simp)).cell 4; have v5 := (blkX (by first | exact BB4.out | exact HB.out) hk5 (by simp)).lt; have BB5 := Lib.hid (blkX (by first | exact BB4.out | exact HB.out) hk5 (by simp)); have K5 := Lib.hid hk5; clear hE5 hk5))
  all_goals
    go_wp2_with fail
    go_ret
    first
      | exact DoR.of (by have := HOK.out.2; omega) E5.out H0.out _ (K4.out.trans K5.out)
      | exact DoR.of (by have := HOK.out.2; omega) D4.out H0.out _ (K5.out.trans K4.out)
set_option maxRecDepth 100000 in
set_option maxHeartbeats 4000000 in
theorem do_k2 {W0 W w : World} {X : List Nat} {p m : Nat} {ls : List EntT} (h : Duo W X w p ls m ls) (hll : ls.length ≤ 900) (hW : Kept [] W0 W) (za zn zl : Int) (A : Option Addr) (c : Nat) (zs : List Int) (b1 : 0 ≤ za ∧ za ≤ 18446744073709551615) (b2 : 0 ≤ zn ∧ zn ≤ 18446744073709551615) (b3 : 0 ≤ zl ∧ zl ≤ 18446744073709551615) (hz : RowX .u64 W0 A zs) (hzl : zs.length ≤ 9223372036854775807) :
    Calls Try.prog 21 #[.pointer (some ⟨p, 0, none⟩), .pointer (some ⟨m, 0, none⟩), .agg #[.int .i64 2, .int .u64 za, .int .u64 zn, .int .u64 zl, .slice A zs.length c]] w (DoR W X p ls m w) := by
  have H0 := Lib.hid h
  have hD := h.more ((Kept.refl [] w).alloc (.cells #[.int .i64 2, .int .u64 za, .int .u64 zn, .int .u64 zl, .slice A zs.length c] 56)) w.heap.size (Nat.le_refl _) (by simp)
  have hB := Blk.new w 56 #[.int .i64 2, .int .u64 za, .int .u64 zn, .int .u64 zl, .slice A zs.length c]
  have D1 := Lib.hid hD
  have HB := Lib.hid hB
  have hlp := h.ltp
  have hok := eachP_ok (turnStep_ok true 7) zs ls h.2.2.2.1
  obtain ⟨er, l2, hst⟩ : ∃ er l2, eachP (turnStep true 7) ls zs = (er, l2) := ⟨_, _, rfl⟩
  rw [hst] at hok
  have HOK := Lib.hid hok
  have DL : Hid (∀ ms w', Duo W (w.heap.size :: X) w' p ls m ms → Calls Try.prog 23 #[.pointer (some ⟨p, 0, none⟩), .slice A zs.length c] w' (DuoE W (w.heap.size :: X) p l2 m ms er w')) := Lib.hid (fun ms w' hd => by
    have := duo_each 23 (turnStep true 7) (turnStep_ok true 7) hd rfl ((hz.keep hW).keep hd.kept) (fun h0 x hx => by
      obtain ⟨x', hx', hb, _⟩ := hz h0
      rw [hx] at hx'
      cases hx'
      have := hW.size
      omega) (fun S h1 hi hA => hold_any S w' p ls h1 hi (by omega) A zs.length c zs rfl ((hz.keep hW).keep hd.kept) hA hzl)
    rw [hst] at this
    exact this)
  have DR : Hid (∀ l0 w', Duo W (w.heap.size :: X) w' p l0 m ls → Calls Try.prog 33 #[.slice A zs.length c, .func (.func 35) #[.pointer (some ⟨m, 0, none⟩)] #[]] w' (DuoE W (w.heap.size :: X) p l0 m l2 er w')) := Lib.hid (fun l0 w' hd => by
    have := duo_leach 35 (turnStep true 7) (turnStep_ok true 7) eg_rhold rhold_any A zs.length c zs rfl hzl (hz.keep hW) hd (by omega)
    rw [hst] at this
    exact this)
  have c0 := hB.cell
  have l0 := hB.lt
  clear h hD hok hst hz hB
  go_enter Try.func21, Try.ntmps21
  go_wp2_with fail
  go_region_held3 (fun w' => w'.cell? ⟨w.heap.size, 4, none⟩ = some (.slice A zs.length c) ∧ w.heap.size < w'.heap.size) (first | go_keep | exact ⟨HB.out.cell 4, by simp⟩ | exact ⟨u4, u5⟩ | exact ⟨v4, v5⟩) (first
    | (go_at_call 23; (first | refine (DL.out _ _ E5.out).mono ?_ | refine (DL.out _ _ (D1.out.keep0 (by (repeat' (first | (with_reducible exact Kept.refl _ _) | (with_reducible assumption) | (with_reducible refine Kept.then_ (by with_reducible assumption) ?_) | (with_reducible refine Kept.thenS (by with_reducible assumption) ?_) | (with_reducible refine Kept.alloc ?_ _) | (with_reducible refine Kept.drew ?_) | (with_reducible refine Kept.drewN ?_ _) | (with_reducible refine Kept.setNew ?_ ?_ _) | ((try simp only [World.size_alloc, World.size_setCell, World.size_drew, size_drewN] at *); (try dsimp only); omega)))))).mono ?_); rintro e w4 ⟨rfl, hD4, hk4⟩; have D4 := Lib.hid hD4; have u4 := (blkX (by first | exact BB5.out | exact HB.out) hk4 (by simp)).cell 4; have u5 := (blkX (by first | exact BB5.out | exact HB.out) hk4 (by simp)).lt; have BB4 := Lib.hid (blkX (by first | exact BB5.out | exact HB.out) hk4 (by simp)); have K4 := Lib.hid hk4; clear hD4 hk4)
    | (go_at_call 33; (first | refine (DR.out _ _ D4.out).mono ?_ | refine (DR.out _ _ (D1.out.keep0 (by (repeat' (first | (with_reducible exact Kept.refl _ _) | (with_reducible assumption) | (with_reducible refine Kept.then_ (by with_reducible assumption) ?_) | (with_reducible refine Kept.thenS (by with_reducible assumption) ?_) | (with_reducible refine Kept.alloc ?_ _) | (with_reducible refine Kept.drew ?_) | (with_reducible refine Kept.drewN ?_ _) | (with_reducible refine Kept.setNew ?_ ?_ _) | ((try simp only [World.size_alloc, World.size_setCell, World.size_drew, size_drewN] at *); (try dsimp only); omega)))))).mono ?_); rintro e w5 ⟨rfl, hE5, hk5⟩; have E5 := Lib.hid hE5; have v4 := (blkX (by first | exact BB4.out | exact HB.out) hk5 (by simp)).cell 4; have v5 := (blkX (by first | exact BB4.out | exact HB.out) hk5 (by simp)).lt; have BB5 := Lib.hid (blkX (by first | exact BB4.out | exact HB.out) hk5 (by simp)); have K5 := Lib.hid hk5; clear hE5 hk5))
  all_goals
    go_wp2_with fail
    go_ret
    first
      | exact DoR.of (by have := HOK.out.2; omega) E5.out H0.out _ (K4.out.trans K5.out)
      | exact DoR.of (by have := HOK.out.2; omega) D4.out H0.out _ (K5.out.trans K4.out)
set_option maxRecDepth 100000 in
set_option maxHeartbeats 4000000 in
theorem do_k3 {W0 W w : World} {X : List Nat} {p m : Nat} {ls : List EntT} (h : Duo W X w p ls m ls) (hll : ls.length ≤ 900) (hW : Kept [] W0 W) (za zn zl : Int) (A : Option Addr) (c : Nat) (zs : List Int) (b1 : 0 ≤ za ∧ za ≤ 18446744073709551615) (b2 : 0 ≤ zn ∧ zn ≤ 18446744073709551615) (b3 : 0 ≤ zl ∧ zl ≤ 18446744073709551615) (hz : RowX .u64 W0 A zs) (hzl : zs.length ≤ 9223372036854775807) :
    Calls Try.prog 21 #[.pointer (some ⟨p, 0, none⟩), .pointer (some ⟨m, 0, none⟩), .agg #[.int .i64 3, .int .u64 za, .int .u64 zn, .int .u64 zl, .slice A zs.length c]] w (DoR W X p ls m w) := by
  have H0 := Lib.hid h
  have hD := h.more ((Kept.refl [] w).alloc (.cells #[.int .i64 3, .int .u64 za, .int .u64 zn, .int .u64 zl, .slice A zs.length c] 56)) w.heap.size (Nat.le_refl _) (by simp)
  have hB := Blk.new w 56 #[.int .i64 3, .int .u64 za, .int .u64 zn, .int .u64 zl, .slice A zs.length c]
  have D1 := Lib.hid hD
  have HB := Lib.hid hB
  have hlp := h.ltp
  have hok := eachP_ok (turnStep_ok false 8) zs ls h.2.2.2.1
  obtain ⟨er, l2, hst⟩ : ∃ er l2, eachP (turnStep false 8) ls zs = (er, l2) := ⟨_, _, rfl⟩
  rw [hst] at hok
  have HOK := Lib.hid hok
  have DL : Hid (∀ ms w', Duo W (w.heap.size :: X) w' p ls m ms → Calls Try.prog 18 #[.pointer (some ⟨p, 0, none⟩), .slice A zs.length c] w' (DuoE W (w.heap.size :: X) p l2 m ms er w')) := Lib.hid (fun ms w' hd => by
    have := duo_each 18 (turnStep false 8) (turnStep_ok false 8) hd rfl ((hz.keep hW).keep hd.kept) (fun h0 x hx => by
      obtain ⟨x', hx', hb, _⟩ := hz h0
      rw [hx] at hx'
      cases hx'
      have := hW.size
      omega) (fun S h1 hi hA => let_any S w' p ls h1 hi (by omega) A zs.length c zs rfl ((hz.keep hW).keep hd.kept) hA hzl)
    rw [hst] at this
    exact this)
  have DR : Hid (∀ l0 w', Duo W (w.heap.size :: X) w' p l0 m ls → Calls Try.prog 33 #[.slice A zs.length c, .func (.func 36) #[.pointer (some ⟨m, 0, none⟩)] #[]] w' (DuoE W (w.heap.size :: X) p l0 m l2 er w')) := Lib.hid (fun l0 w' hd => by
    have := duo_leach 36 (turnStep false 8) (turnStep_ok false 8) eg_rlet rlet_any A zs.length c zs rfl hzl (hz.keep hW) hd (by omega)
    rw [hst] at this
    exact this)
  have c0 := hB.cell
  have l0 := hB.lt
  clear h hD hok hst hz hB
  go_enter Try.func21, Try.ntmps21
  go_wp2_with fail
  go_region_held3 (fun w' => w'.cell? ⟨w.heap.size, 4, none⟩ = some (.slice A zs.length c) ∧ w.heap.size < w'.heap.size) (first | go_keep | exact ⟨HB.out.cell 4, by simp⟩ | exact ⟨u4, u5⟩ | exact ⟨v4, v5⟩) (first
    | (go_at_call 18; (first | refine (DL.out _ _ E5.out).mono ?_ | refine (DL.out _ _ (D1.out.keep0 (by (repeat' (first | (with_reducible exact Kept.refl _ _) | (with_reducible assumption) | (with_reducible refine Kept.then_ (by with_reducible assumption) ?_) | (with_reducible refine Kept.thenS (by with_reducible assumption) ?_) | (with_reducible refine Kept.alloc ?_ _) | (with_reducible refine Kept.drew ?_) | (with_reducible refine Kept.drewN ?_ _) | (with_reducible refine Kept.setNew ?_ ?_ _) | ((try simp only [World.size_alloc, World.size_setCell, World.size_drew, size_drewN] at *); (try dsimp only); omega)))))).mono ?_); rintro e w4 ⟨rfl, hD4, hk4⟩; have D4 := Lib.hid hD4; have u4 := (blkX (by first | exact BB5.out | exact HB.out) hk4 (by simp)).cell 4; have u5 := (blkX (by first | exact BB5.out | exact HB.out) hk4 (by simp)).lt; have BB4 := Lib.hid (blkX (by first | exact BB5.out | exact HB.out) hk4 (by simp)); have K4 := Lib.hid hk4; clear hD4 hk4)
    | (go_at_call 33; (first | refine (DR.out _ _ D4.out).mono ?_ | refine (DR.out _ _ (D1.out.keep0 (by (repeat' (first | (with_reducible exact Kept.refl _ _) | (with_reducible assumption) | (with_reducible refine Kept.then_ (by with_reducible assumption) ?_) | (with_reducible refine Kept.thenS (by with_reducible assumption) ?_) | (with_reducible refine Kept.alloc ?_ _) | (with_reducible refine Kept.drew ?_) | (with_reducible refine Kept.drewN ?_ _) | (with_reducible refine Kept.setNew ?_ ?_ _) | ((try simp only [World.size_alloc, World.size_setCell, World.size_drew, size_drewN] at *); (try dsimp only); omega)))))).mono ?_); rintro e w5 ⟨rfl, hE5, hk5⟩; have E5 := Lib.hid hE5; have v4 := (blkX (by first | exact BB4.out | exact HB.out) hk5 (by simp)).cell 4; have v5 := (blkX (by first | exact BB4.out | exact HB.out) hk5 (by simp)).lt; have BB5 := Lib.hid (blkX (by first | exact BB4.out | exact HB.out) hk5 (by simp)); have K5 := Lib.hid hk5; clear hE5 hk5))
  all_goals
    go_wp2_with fail
    go_ret
    first
      | exact DoR.of (by have := HOK.out.2; omega) E5.out H0.out _ (K4.out.trans K5.out)
      | exact DoR.of (by have := HOK.out.2; omega) D4.out H0.out _ (K5.out.trans K4.out)
theorem Duo.lg {W w : World} {X : List Nat} {p m : Nat} {ls ms : List EntT} (h : Duo W X w p ls m ms) : ∃ S, LgS S w p ls := by
  obtain ⟨⟨S, T, h1, h2, _⟩, _⟩ := h
  exact ⟨S, h1⟩
theorem Duo.rf {W w : World} {X : List Nat} {p m : Nat} {ls ms : List EntT} (h : Duo W X w p ls m ms) : ∃ T, RefS T w m ms := by
  obtain ⟨⟨S, T, h1, h2, _⟩, _⟩ := h
  exact ⟨T, h2⟩
set_option maxRecDepth 100000 in
set_option maxHeartbeats 4000000 in
theorem do_k5 {W W0 w : World} {X : List Nat} {p m : Nat} {ls : List EntT} (h : Duo W X w p ls m ls) (hll : ls.length ≤ 900) (za zn zl : Int) (A : Option Addr) (n c : Nat) (b1 : 0 ≤ za ∧ za ≤ 18446744073709551615) (b2 : 0 ≤ zn ∧ zn ≤ 18446744073709551615) (b3 : 0 ≤ zl ∧ zl ≤ 18446744073709551615) :
    Calls Try.prog 21 #[.pointer (some ⟨p, 0, none⟩), .pointer (some ⟨m, 0, none⟩), .agg #[.int .i64 5, .int .u64 za, .int .u64 zn, .int .u64 zl, .slice A n c]] w (DoR W X p ls m w) := by
  have H0 := Lib.hid h
  have hD := h.more ((Kept.refl [] w).alloc (.cells #[.int .i64 5, .int .u64 za, .int .u64 zn, .int .u64 zl, .slice A n c] 56)) w.heap.size (Nat.le_refl _) (by simp)
  have hB := Blk.new w 56 #[.int .i64 5, .int .u64 za, .int .u64 zn, .int .u64 zl, .slice A n c]
  have D1 := Lib.hid hD
  have HB := Lib.hid hB
  have hlp := h.ltp
  have c0 := hB.cell
  have l0 := hB.lt
  have hi := h.2.2.2.1
  obtain ⟨b, hb⟩ : ∃ b, decide (FreeL ls za zn) = b := ⟨_, rfl⟩
  have DF := Lib.hid (fun w' (hd : Duo W (w.heap.size :: X) w' p ls m ls) => by
    obtain ⟨S, hS⟩ := hd.lg
    exact free_any S w' p ls hS hi (by omega) za zn b1 b2 b hb)
  have RF := Lib.hid (fun w' (hd : Duo W (w.heap.size :: X) w' p ls m ls) => by
    obtain ⟨T, hT⟩ := hd.rf
    exact rfree_any T w' m ls hT hi (by omega) za zn b1 b2 b hb)
  clear h hD hB hb hi
  go_enter Try.func21, Try.ntmps21
  go_wp2_with fail
  refine wp_region_kept (by kernel_rfl) (by kernel_rfl) ?_
  intro TT FF hne hFF hcl
  have q_r0 := fun x => (Blk.keep0 (HB.out) (hFF x)).cell
  repeat (first | go_big_quiet_step ((first | (go_at_call 13; (with_reducible refine kept_call hcl (DF.out _ (D1.out.keep0 (hFF _))))) | (go_at_call 39; (with_reducible refine kept_call hcl (RF.out _ (D1.out.keep0 (hFF _))))))) | quiet_step ((first | (go_at_call 13; (with_reducible refine kept_call hcl (DF.out _ (D1.out.keep0 (hFF _))))) | (go_at_call 39; (with_reducible refine kept_call hcl (RF.out _ (D1.out.keep0 (hFF _))))))))
  refine wpQuiet_nil ?_
  rintro w5 ⟨x, hx⟩
  have hb5 := hFF x
  rw [← hx] at hb5
  clear hx x hne hFF hcl q_r0
  have hs5 := hb5.size
  (try simp only [World.size_alloc, World.size_setCell, World.size_drew, size_drewN] at hs5)
  have D5 := Lib.hid (D1.out.keep0 hb5)
  have K5 := Lib.hid (D1.out.kx hb5)
  clear hb5
  go_wp2_with fail
  go_ret
  exact DoR.of (by omega) D5.out H0.out _ K5.out
set_option maxRecDepth 100000 in
set_option maxHeartbeats 4000000 in
theorem do_k4 {W W0 w : World} {X : List Nat} {p m : Nat} {ls : List EntT} (h : Duo W X w p ls m ls) (hll : ls.length ≤ 900) (za zn zl : Int) (A : Option Addr) (n c : Nat) (b1 : 0 ≤ za ∧ za ≤ 18446744073709551615) (b2 : 0 ≤ zn ∧ zn ≤ 18446744073709551615) (b3 : 0 ≤ zl ∧ zl ≤ 18446744073709551615) :
    Calls Try.prog 21 #[.pointer (some ⟨p, 0, none⟩), .pointer (some ⟨m, 0, none⟩), .agg #[.int .i64 4, .int .u64 za, .int .u64 zn, .int .u64 zl, .slice A n c]] w (DoR W X p ls m w) := by
  have H0 := Lib.hid h
  have hD := h.more ((Kept.refl [] w).alloc (.cells #[.int .i64 4, .int .u64 za, .int .u64 zn, .int .u64 zl, .slice A n c] 56)) w.heap.size (Nat.le_refl _) (by simp)
  have hB := Blk.new w 56 #[.int .i64 4, .int .u64 za, .int .u64 zn, .int .u64 zl, .slice A n c]
  have D1 := Lib.hid hD
  have HB := Lib.hid hB
  have hlp := h.ltp
  have c0 := hB.cell
  have l0 := hB.lt
  have hi := h.2.2.2.1
  obtain ⟨⟨⟨ba, bn, bl⟩, er⟩, hr⟩ : ∃ r, atP ls za = r := ⟨_, rfl⟩
  obtain ⟨⟨⟨ca, cn, cl⟩, fr⟩, hr2⟩ := inR_ex ls za
  have D2 := Lib.hid (fun w' (hd : Duo W (w.heap.size :: X) w' p ls m ls) => by
    obtain ⟨S, hS⟩ := hd.lg
    exact at_any S w' p ls hS hi (by omega) za _ hr)
  have D3 := Lib.hid (fun w' (hd : Duo W (w.heap.size :: X) w' p ls m ls) => by
    obtain ⟨T, hT⟩ := hd.rf
    exact rAt_any T w' m ls hT (by omega) za _ hr)
  have D4 := Lib.hid (fun w' (hd : Duo W (w.heap.size :: X) w' p ls m ls) => by
    obtain ⟨S, hS⟩ := hd.lg
    exact in_any S w' p ls hS hi (by omega) za _ hr2)
  have D5 := Lib.hid (fun w' (hd : Duo W (w.heap.size :: X) w' p ls m ls) => by
    obtain ⟨T, hT⟩ := hd.rf
    exact rin_any T w' m ls hT hi (by omega) za _ hr2)
  unfold ansB at D2 D3 D4 D5
  dsimp only at D2 D3 D4 D5
  clear h hD hB hr hr2 hi
  go_enter Try.func21, Try.ntmps21
  go_wp2_with fail
  (with_reducible refine (D2.out _ D1.out).mono ?_)
  rintro e w2 ⟨rfl, hb2⟩
  have E2 := Lib.hid (D1.out.keep0 hb2)
  have B2 := HB.out.keep0 hb2
  have B2c := B2.cell
  have B2l := B2.lt
  go_wp2_with fail
  (with_reducible refine (D3.out _ (E2.out.keep0 ((Kept.refl [] _).alloc _))).mono ?_)
  rintro e w3 ⟨rfl, hb3⟩
  have E3 := Lib.hid ((E2.out.keep0 ((Kept.refl [] _).alloc _)).keep0 hb3)
  have B3 := (B2.alloc _).keep0 hb3
  have B3c := B3.cell
  have B3l := B3.lt
  have P3 : Blk w3 w2.heap.size 33 #[.int .u64 ba, .int .u64 bn, .int .u64 bl] := (Blk.new _ _ _).keep0 hb3
  have P3c := P3.cell
  have P3l := P3.lt
  go_wp2_with fail
  (with_reducible refine (D4.out _ (E3.out.keep0 ((Kept.refl [] _).alloc _))).mono ?_)
  rintro e w4 ⟨rfl, hb4⟩
  have E4 := Lib.hid ((E3.out.keep0 ((Kept.refl [] _).alloc _)).keep0 hb4)
  have B4 := (B3.alloc _).keep0 hb4
  have B4c := B4.cell
  have B4l := B4.lt
  have P4 := (P3.alloc _).keep0 hb4
  have P4c := P4.cell
  have P4l := P4.lt
  have Q4 : Blk w4 w3.heap.size 33 #[.int .u64 ba, .int .u64 bn, .int .u64 bl] := (Blk.new _ _ _).keep0 hb4
  have Q4c := Q4.cell
  have Q4l := Q4.lt
  go_wp2_with fail
  (with_reducible refine (D5.out _ (E4.out.keep0 ((Kept.refl [] _).alloc _))).mono ?_)
  rintro e w5 ⟨rfl, hb5⟩
  have E5 := Lib.hid ((E4.out.keep0 ((Kept.refl [] _).alloc _)).keep0 hb5)
  have P5 := (P4.alloc _).keep0 hb5
  have P5c := P5.cell
  have P5l := P5.lt
  have Q5 := (Q4.alloc _).keep0 hb5
  have Q5c := Q5.cell
  have Q5l := Q5.lt
  have R5 : Blk w5 w4.heap.size 33 #[.int .u64 ca, .int .u64 cn, .int .u64 cl] := (Blk.new _ _ _).keep0 hb5
  have R5c := R5.cell
  have R5l := R5.lt
  have K5 := Lib.hid ((((D1.out.kx hb2).trans (E2.out.kx ((Kept.refl [] _).alloc _))).trans ((E2.out.keep0 ((Kept.refl [] _).alloc _)).kx hb3)).trans ((E3.out.kx ((hb4.then_ ((Kept.refl [] _).alloc _)))).trans (E4.out.kx (hb5.then_ ((Kept.refl [] _).alloc _)))))
  clear hb2 hb3 hb4 hb5 B2 B2c B2l B3 B3c B3l B4 B4c B4l P3 P3c P3l P4 P4c P4l Q4 Q4c Q4l
  go_wp2_with fail
  go_ret
  exact DoR.of (by omega) (E5.out.keep0 (by (repeat' (first | (with_reducible exact Kept.refl _ _) | (with_reducible assumption) | (with_reducible refine Kept.then_ (by with_reducible assumption) ?_) | (with_reducible refine Kept.thenS (by with_reducible assumption) ?_) | (with_reducible refine Kept.alloc ?_ _) | (with_reducible refine Kept.drew ?_) | (with_reducible refine Kept.drewN ?_ _) | (with_reducible refine Kept.setNew ?_ ?_ _) | ((try simp only [World.size_alloc, World.size_setCell, World.size_drew, size_drewN] at *); (try dsimp only); omega))))) H0.out _ (K5.out.trans (E5.out.kx (by (repeat' (first | (with_reducible exact Kept.refl _ _) | (with_reducible assumption) | (with_reducible refine Kept.then_ (by with_reducible assumption) ?_) | (with_reducible refine Kept.thenS (by with_reducible assumption) ?_) | (with_reducible refine Kept.alloc ?_ _) | (with_reducible refine Kept.drew ?_) | (with_reducible refine Kept.drewN ?_ _) | (with_reducible refine Kept.setNew ?_ ?_ _) | ((try simp only [World.size_alloc, World.size_setCell, World.size_drew, size_drewN] at *); (try dsimp only); omega))))))
set_option maxRecDepth 100000 in
set_option maxHeartbeats 4000000 in
theorem do_k0 {W W0 w : World} {X : List Nat} {p m : Nat} {ls : List EntT} (h : Duo W X w p ls m ls) (hll : ls.length ≤ 900) (zk za zn zl : Int) (A : Option Addr) (n c : Nat) (b1 : 0 ≤ za ∧ za ≤ 18446744073709551615) (b2 : 0 ≤ zn ∧ zn ≤ 18446744073709551615) (b3 : 0 ≤ zl ∧ zl ≤ 18446744073709551615) (k1 : (zk == 1) = false) (k2 : (zk == 2) = false) (k3 : (zk == 3) = false) (k4 : (zk == 4) = false) (k5 : (zk == 5) = false) :
    Calls Try.prog 21 #[.pointer (some ⟨p, 0, none⟩), .pointer (some ⟨m, 0, none⟩), .agg #[.int .i64 zk, .int .u64 za, .int .u64 zn, .int .u64 zl, .slice A n c]] w (DoR W X p ls m w) := by
  have H0 := Lib.hid h
  have hD := h.more ((Kept.refl [] w).alloc (.cells #[.int .i64 zk, .int .u64 za, .int .u64 zn, .int .u64 zl, .slice A n c] 56)) w.heap.size (Nat.le_refl _) (by simp)
  have hB := Blk.new w 56 #[.int .i64 zk, .int .u64 za, .int .u64 zn, .int .u64 zl, .slice A n c]
  have D1 := Lib.hid hD
  have HB := Lib.hid hB
  have hlp := h.ltp
  have c0 := hB.cell
  have l0 := hB.lt
  have hi := h.2.2.2.1
  obtain ⟨er, l2, hR⟩ := addR_ex hi za zn zl
  have hok := hR.ok hi b1.1 b2.1
  have HOK := Lib.hid hok
  have DL : Hid (∀ ms w', Duo W (w.heap.size :: X) w' p ls m ms → Calls Try.prog 15 #[.pointer (some ⟨p, 0, none⟩), .agg #[.int .u64 za, .int .u64 zn, .int .u64 zl]] w' (DuoE W (w.heap.size :: X) p l2 m ms er w')) := Lib.hid (fun ms w' hd => duo_add hd (by omega) za zn zl er b1 b2 b3 hR)
  have DR : Hid (∀ l0 w', Duo W (w.heap.size :: X) w' p l0 m ls → Calls Try.prog 40 #[.pointer (some ⟨m, 0, none⟩), .agg #[.int .u64 za, .int .u64 zn, .int .u64 zl]] w' (DuoE W (w.heap.size :: X) p l0 m l2 er w')) := Lib.hid (fun l0 w' hd => duo_radd hd (by omega) za zn zl er b1 b2 b3 hR)
  clear h hD hok hB hi hR
  go_enter Try.func21, Try.ntmps21
  go_wp2_with fail
  go_region_held3 (fun w' => w'.cell? ⟨w.heap.size, 1, none⟩ = some (.int .u64 za) ∧ w'.cell? ⟨w.heap.size, 2, none⟩ = some (.int .u64 zn) ∧ w'.cell? ⟨w.heap.size, 3, none⟩ = some (.int .u64 zl) ∧ w.heap.size < w'.heap.size) (first | go_keep | exact ⟨HB.out.cell 1, HB.out.cell 2, HB.out.cell 3, by simp⟩ | exact ⟨u1, u2, u3, u5⟩ | exact ⟨v1, v2, v3, v5⟩) (first
    | (go_at_call 15; (first | refine (DL.out _ _ E5.out).mono ?_ | refine (DL.out _ _ (D1.out.keep0 (by (repeat' (first | (with_reducible exact Kept.refl _ _) | (with_reducible assumption) | (with_reducible refine Kept.then_ (by with_reducible assumption) ?_) | (with_reducible refine Kept.thenS (by with_reducible assumption) ?_) | (with_reducible refine Kept.alloc ?_ _) | (with_reducible refine Kept.drew ?_) | (with_reducible refine Kept.drewN ?_ _) | (with_reducible refine Kept.setNew ?_ ?_ _) | ((try simp only [World.size_alloc, World.size_setCell, World.size_drew, size_drewN] at *); (try dsimp only); omega)))))).mono ?_); rintro e w4 ⟨rfl, hD4, hk4⟩; have D4 := Lib.hid hD4; have BB4 := Lib.hid (blkX (by first | exact BB5.out | exact HB.out) hk4 (by simp)); have u1 := BB4.out.cell 1; have u2 := BB4.out.cell 2; have u3 := BB4.out.cell 3; have u5 := BB4.out.lt; have K4 := Lib.hid hk4; clear hD4 hk4)
    | (go_at_call 40; (first | refine (DR.out _ _ D4.out).mono ?_ | refine (DR.out _ _ (D1.out.keep0 (by (repeat' (first | (with_reducible exact Kept.refl _ _) | (with_reducible assumption) | (with_reducible refine Kept.then_ (by with_reducible assumption) ?_) | (with_reducible refine Kept.thenS (by with_reducible assumption) ?_) | (with_reducible refine Kept.alloc ?_ _) | (with_reducible refine Kept.drew ?_) | (with_reducible refine Kept.drewN ?_ _) | (with_reducible refine Kept.setNew ?_ ?_ _) | ((try simp only [World.size_alloc, World.size_setCell, World.size_drew, size_drewN] at *); (try dsimp only); omega)))))).mono ?_); rintro e w5 ⟨rfl, hE5, hk5⟩; have E5 := Lib.hid hE5; have BB5 := Lib.hid (blkX (by first | exact BB4.out | exact HB.out) hk5 (by simp)); have v1 := BB5.out.cell 1; have v2 := BB5.out.cell 2; have v3 := BB5.out.cell 3; have v5 := BB5.out.lt; have K5 := Lib.hid hk5; clear hE5 hk5))
  all_goals
    go_wp2_with fail
    go_ret
    first
      | exact DoR.of (by have := HOK.out.2; omega) E5.out H0.out _ (K4.out.trans K5.out)
      | exact DoR.of (by have := HOK.out.2; omega) D4.out H0.out _ (K5.out.trans K4.out)
theorem do_any {W0 W w : World} {X : List Nat} {p m : Nat} {ls : List EntT} (h : Duo W X w p ls m ls) (hll : ls.length ≤ 900) (hW : Kept [] W0 W) (zk za zn zl : Int) (A : Option Addr) (n c : Nat) (zs : List Int) (b1 : 0 ≤ za ∧ za ≤ 18446744073709551615) (b2 : 0 ≤ zn ∧ zn ≤ 18446744073709551615) (b3 : 0 ≤ zl ∧ zl ≤ 18446744073709551615) (hz : IsRow .u64 W0 A n c zs) :
    Calls Try.prog 21 #[.pointer (some ⟨p, 0, none⟩), .pointer (some ⟨m, 0, none⟩), .agg #[.int .i64 zk, .int .u64 za, .int .u64 zn, .int .u64 zl, .slice A n c]] w (DoR W X p ls m w) := by
  obtain ⟨ys, hy, hr, _, _, hl, hm⟩ := hz.seen
  have hyl : ys.length ≤ 9223372036854775807 := by simp only [maxLen] at hm; omega
  subst hy
  by_cases e1 : zk = 1
  · subst e1
    exact do_k1 h hll hW za zn zl A c ys b1 b2 b3 hr hyl
  by_cases e2 : zk = 2
  · subst e2
    exact do_k2 h hll hW za zn zl A c ys b1 b2 b3 hr hyl
  by_cases e3 : zk = 3
  · subst e3
    exact do_k3 h hll hW za zn zl A c ys b1 b2 b3 hr hyl
  by_cases e4 : zk = 4
  · subst e4
    exact do_k4 (W0 := W0) h hll za zn zl A _ c b1 b2 b3
  by_cases e5 : zk = 5
  · subst e5
    exact do_k5 (W0 := W0) h hll za zn zl A _ c b1 b2 b3
  exact do_k0 (W0 := W0) h hll zk za zn zl A _ c b1 b2 b3 (by rw [beq_eq_false_iff_ne]; exact e1) (by rw [beq_eq_false_iff_ne]; exact e2) (by rw [beq_eq_false_iff_ne]; exact e3) (by rw [beq_eq_false_iff_ne]; exact e4) (by rw [beq_eq_false_iff_ne]; exact e5)
end Go.Proofs.Ytdallcepachhoaa
