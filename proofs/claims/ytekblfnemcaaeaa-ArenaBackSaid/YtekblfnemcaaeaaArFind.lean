/- find. -/
import Derived.Test.YtekblfnemcaaeaaArDelW
set_option linter.unusedVariables false
set_option linter.unusedSimpArgs false
namespace Go.Proofs.Ytekblfnemcaaeaa
open Go.RowKit
set_option maxHeartbeats 1000000 in
theorem search_nil (t : Int) (c : Nat) (w : World) : Calls Try.prog 38 #[.slice none 0 c, .int .i64 t, .func (.func 39) #[] #[]] w fun e w' => e = .returned (.tuple #[.int .i64 0, .bool false]) ∧ Kept [] w w' := by
  go_enter Try.func38, Try.ntmps38
  go_wp2_with fail
  go_loopw [9, 10] (fun v9 v10 wr => v9 = .int .i64 0 ∧ v10 = .int .i64 0 ∧ Kept [] w wr) (fun _ _ _ => 0)
  case atStart => exact ⟨rfl, rfl, Kept.refl _ _⟩
  case round =>
    obtain ⟨rfl, rfl, hkw⟩ := hrel
    go_wp2_with fail
    go_ret2
    exact ⟨rfl, hkw⟩
def hitG (ls : List RegT) (t : Int) (k : Nat) : Bool := decide (k < ls.length) && decide ((rg ls k).1 = t)
theorem search_own (B : Nat) (v : Value) (ls : List RegT) (t : Int) (w : World) (ho : OwnS B 39 2 encG w v ls) (hn : ls.length ≤ 1000000) (k : Nat) (hk : AtG ls t k) :
    Calls Try.prog 38 #[v, .int .i64 t, .func (.func 39) #[] #[]] w fun e w' => e = .returned (.tuple #[.int .i64 k, .bool (hitG ls t k)]) ∧ Kept [] w w' := by
  rcases ho.2 with ⟨rfl, h0⟩ | ⟨g, cap, cur, rfl, hb, hg, hn1, hm, hs, ht⟩
  · obtain rfl := List.length_eq_zero_iff.1 h0
    have : k = 0 := by have := hk.1; simpa using this
    subst this
    exact search_nil t 0 w
  · exact search_any g cap ls t w ho.cellsG hn k hk
set_option maxHeartbeats 1000000 in
theorem find_any (p B : Nat) (v mk segs lim told ref : Value) (ls : List RegT) (t : Int) (w : World) (hb : Blk w p 62 #[mk, segs, lim, v, told, ref]) (ho : OwnS B 39 2 encG w v ls) (hn : ls.length ≤ 1000000) (k : Nat) (hk : AtG ls t k) :
    Calls Try.prog 29 #[.pointer (some ⟨p, 0, none⟩), .int .i64 t] w fun e w' => e = .returned (.tuple #[.int .i64 k, .bool (hitG ls t k)]) ∧ Kept [] w w' := by
  have DS := Lib.hid (search_own B v ls t w ho hn k hk)
  have c3 := hb.cell 3
  have hpl := hb.lt
  generalize hitG ls t k = b at DS
  clear ho hk
  go_enter Try.func29, Try.ntmps29
  go_wp2_with fail
  (with_reducible refine DS.out.mono ?_)
  rintro e w1 ⟨rfl, hb1⟩
  go_wp2_with fail
  go_ret2
  exact ⟨rfl, hb1⟩
end Go.Proofs.Ytekblfnemcaaeaa
