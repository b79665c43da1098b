/- Given, Refused. -/
import Derived.Test.YtekblfnemcaaeaaArFind
import Derived.Test.YtekblfnemcaaeaaMarkP
set_option linter.unusedVariables false
set_option linter.unusedSimpArgs false
namespace Go.Proofs.Ytekblfnemcaaeaa
open Go.RowKit
set_option maxHeartbeats 1000000 in
theorem refused_any (p : Nat) (v mk segs lim told : Value) (ref : Int) (w : World) (hb : Blk w p 62 #[mk, segs, lim, v, told, .int .i64 ref]) :
    Calls Try.prog 14 #[.pointer (some ⟨p, 0, none⟩)] w fun e w' => e = .returned (.int .i64 ref) ∧ Kept [] w w' := by
  have c5 := hb.cell 5
  have hpl := hb.lt
  clear hb
  go_enter Try.func14, Try.ntmps14
  go_wp2_with fail
  go_ret
  exact ⟨rfl, by (repeat' (first | (with_reducible exact Kept.refl _ _) | (with_reducible assumption) | (with_reducible refine Kept.then_ (by with_reducible assumption) ?_) | (with_reducible refine Kept.thenS (by with_reducible assumption) ?_) | (with_reducible refine Kept.alloc ?_ _) | (with_reducible refine Kept.drew ?_) | (with_reducible refine Kept.drewN ?_ _) | (with_reducible refine Kept.setNew ?_ ?_ _) | ((try simp only [World.size_alloc, World.size_setCell, World.size_drew, size_drewN] at *); (try dsimp only); omega)))⟩
set_option maxHeartbeats 1000000 in
theorem given_any (p mp mg : Nat) (v lim told ref : Value) (bs : List Bool) (w : World) (hb : Blk w p 62 #[.pointer (some ⟨mp, 0, none⟩), .int .i64 bs.length, lim, v, told, ref]) (hm : MarkB w mp mg bs) (hl : bs.length ≤ 64) :
    Calls Try.prog 13 #[.pointer (some ⟨p, 0, none⟩)] w fun e w' => e = .returned (.int .i64 ((bs.length : Int) - cntF bs)) ∧ Kept [] w w' := by
  have HB := Lib.hid hb
  have HM := Lib.hid hm
  have hpl := hb.lt
  have hc := cntF_le bs
  have hcz : (0 : Int) ≤ (cntF bs : Int) := by omega
  have hc2 : (cntF bs : Int) ≤ 64 := by omega
  clear hb hm
  go_enter Try.func13, Try.ntmps13
  go_wp2_with fail
  refine wp_region_kept (by kernel_rfl) (by kernel_rfl) ?_
  intro TT FF hne hFF hcl
  have d0 : ∀ x, (FF x).cell? ⟨p, 0, none⟩ = some (.pointer (some ⟨mp, 0, none⟩)) := fun x => (HB.out.keep0 (hFF x)).cell 0
  have d1 : ∀ x, (FF x).cell? ⟨p, 1, none⟩ = some (.int .i64 bs.length) := fun x => (HB.out.keep0 (hFF x)).cell 1
  have DL : ∀ x, Calls Try.prog 33 #[.pointer (some ⟨mp, 0, none⟩)] (FF x) fun e w' => e = .returned (.int .i64 (cntF bs)) ∧ Kept [] (FF x) w' := fun x => (left_any (FF x) mp mg bs (HM.out.keep0 (hFF x))).mono fun _ _ ⟨h1, h2⟩ => ⟨h1, h2 ▸ Kept.refl _ _⟩
  repeat (first | go_big_quiet_step ((go_at_call 33; (with_reducible refine kept_call hcl (DL _)))) | quiet_step ((go_at_call 33; (with_reducible refine kept_call hcl (DL _)))))
  refine wpQuiet_nil ?_
  rintro w5 ⟨x, hx⟩
  have hb5 := hFF x
  rw [← hx] at hb5
  clear hx x hne hFF hcl d0 d1 DL
  go_wp2_with fail
  go_ret
  exact ⟨rfl, hb5⟩
end Go.Proofs.Ytekblfnemcaaeaa
