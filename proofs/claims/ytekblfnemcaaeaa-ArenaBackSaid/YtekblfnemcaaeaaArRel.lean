/- Release. -/
import Derived.Test.YtekblfnemcaaeaaArRes3
set_option linter.unusedVariables false
set_option linter.unusedSimpArgs false
namespace Go.Proofs.Ytekblfnemcaaeaa
open Go.RowKit
set_option maxRecDepth 100000 in
set_option maxHeartbeats 4000000 in
theorem rel_none (S : List Nat) (w : World) (p : Nat) (a : Ar) (h : ArS S w p a) (t : Int) (hll : a.ls.length ≤ 1000) (j : Nat) (hj : AtG a.ls t j) (hh : hitG a.ls t j = false) :
    Calls Try.prog 12 #[.pointer (some ⟨p, 0, none⟩), .int .i64 t] w fun e w' => e = .returned (.int .i64 5) ∧ Kept [] w w' := by
  have DF := Lib.hid ((LeftA.of h).find t hll j hj false hh)
  have hpl := h.ltp
  clear h hj hh
  go_enter Try.func12, Try.ntmps12
  go_wp2_with fail
  (with_reducible refine DF.out.mono ?_)
  rintro e w1 ⟨rfl, hb1⟩
  go_wp2_with fail
  go_ret
  exact ⟨rfl, by (repeat' (first | (with_reducible exact Kept.refl _ _) | (with_reducible assumption) | (with_reducible refine Kept.then_ (by with_reducible assumption) ?_) | (with_reducible refine Kept.thenS (by with_reducible assumption) ?_) | (with_reducible refine Kept.alloc ?_ _) | (with_reducible refine Kept.drew ?_) | (with_reducible refine Kept.drewN ?_ _) | (with_reducible refine Kept.setNew ?_ ?_ _) | ((try simp only [World.size_alloc, World.size_setCell, World.size_drew, size_drewN] at *); (try dsimp only); omega)))⟩
/-- An arena that has taken a region back. -/
def Ar.back (a : Ar) (at_ k j : Nat) : Ar := { a with bs := put a.bs at_ k false, ls := a.ls.eraseIdx j }
set_option maxRecDepth 100000 in
set_option maxHeartbeats 4000000 in
theorem rel_ok (S : List Nat) (w : World) (p : Nat) (a : Ar) (h : ArS S w p a) (hll : a.ls.length ≤ 1000) (at_ k j : Nat) (hj : AtG a.ls at_ j) (hjl : j < a.ls.length) (he : rg a.ls j = ((at_ : Int), (k : Int))) (h1 : 1 ≤ k) (ho : at_ + k ≤ a.bs.length) (hall : AllAt a.bs at_ k true) :
    Calls Try.prog 12 #[.pointer (some ⟨p, 0, none⟩), .int .i64 at_] w fun e w' => e = .returned (.int .i64 0) ∧ LeftA S w p (a.back at_ k j) w' := by
  have hh : hitG a.ls at_ j = true := by unfold hitG; rw [he]; simp [hjl]
  have DF := Lib.hid ((LeftA.of h).find at_ hll j hj true hh)
  have hpl := h.ltp
  have DR := Lib.hid (fun w' (h' : LeftA S w p a w') => h'.reg j hjl)
  rw [he] at DR
  have DT := Lib.hid (fun w' (h' : LeftA S w p a w') => h'.free_at k at_ h1 ho hall)
  have DD := Lib.hid (fun w' (h' : LeftA S w p { a with bs := put a.bs at_ k false } w') => h'.delete j hjl hll)
  have e3 : ({ ({ a with bs := put a.bs at_ k false } : Ar) with ls := ({ a with bs := put a.bs at_ k false } : Ar).ls.eraseIdx j } : Ar) = a.back at_ k j := rfl
  rw [e3] at DD
  have HA : Hid (∀ w', Kept [] w w' → LeftA S w p a w') := Lib.hid (fun w' hk => (LeftA.of h).keep0 hk)
  have q1 : (0 : Int) ≤ (j : Int) := by omega
  have q2 : (j : Int) < (a.ls.length : Int) := by omega
  have q5 : IntKind.i64.wrap ((j : Int) + 1) = (j : Int) + 1 := IntWalk.i64_in _ (by omega)
  clear h hj hh e3 hall he
  generalize ({ a with bs := put a.bs at_ k false } : Ar) = a1 at *
  generalize a.back at_ k j = an at *
  generalize a.ls.length = N at *
  go_enter Try.func12, Try.ntmps12
  go_wp2_with fail
  (with_reducible refine DF.out.mono ?_)
  rintro e w1 ⟨rfl, hb1⟩
  have hL1 := HA.out w1 hb1
  obtain ⟨g, c, c3, k0, k1, hgl⟩ := DR.out _ hL1
  obtain ⟨mp, c0, hT⟩ := DT.out _ hL1
  have hp1 := hL1.ltp
  have KB1 := Lib.hid hb1
  have HL1 := Lib.hid hL1
  clear hT hL1 hb1
  go_wp2_with fail
  go_still_tail 13, (by kernel_rfl)
  obtain ⟨mp', c0', hT⟩ := DT.out _ ((HL1.out).keep0 ((Kept.refl [] w1).drew))
  obtain rfl : mp = mp' := by
    rw [show w1.drew.cell? ⟨p, 0, none⟩ = w1.cell? ⟨p, 0, none⟩ from rfl, c0] at c0'
    injection c0' with c0'
    injection c0' with c0'
    injection c0' with c0'
    injection c0' with c0'
  have HT := Lib.hid hT
  clear hT c0'
  go_wp2_with fail
  (with_reducible refine HT.out.mono ?_)
  rintro e w2 ⟨rfl, hL2⟩
  obtain ⟨A, sn, sc, d3, hD⟩ := DD.out _ hL2
  have hp2 := hL2.ltp
  have HD := Lib.hid hD
  clear hL2 hD
  go_wp2_with fail
  (with_reducible refine HD.out.mono ?_)
  rintro e w3 ⟨A', n', c', rfl, d4, hp3, f3, hL3⟩
  have HL3 := Lib.hid hL3
  clear hL3
  go_wp2_with fail
  go_ret
  exact ⟨rfl, HL3.out⟩
end Go.Proofs.Ytekblfnemcaaeaa
