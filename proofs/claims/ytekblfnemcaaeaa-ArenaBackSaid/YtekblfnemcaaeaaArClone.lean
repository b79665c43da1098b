/- Clone, Regions. -/
import Derived.Test.YtekblfnemcaaeaaArNew
set_option linter.unusedVariables false
set_option linter.unusedSimpArgs false
namespace Go.Proofs.Ytekblfnemcaaeaa
open Go.RowKit
set_option maxHeartbeats 1000000 in
theorem cloneG_nil (w : World) (c : Nat) : Calls Try.prog 34 #[.slice none 0 c] w fun e w' => e = .returned (.slice none 0 0) ∧ w = w' := by
  have heq := fun (w : World) => Lib.run_eql_slice_nil (P := Try.prog) w 36 39 none 0 c 0 0 Try.underlying36
  go_enter Try.func34, Try.ntmps34
  go_wp2_with fail
  go_ret
  exact ⟨rfl, rfl⟩
def CloneG (W : World) (ls : List RegT) (e : Ending) (w' : World) : Prop := ∃ v, e = .returned v ∧ OwnS W.heap.size 39 2 encG w' v ls
set_option maxHeartbeats 1000000 in
theorem cloneG_some (ad : Addr) (n c : Nat) (ls : List RegT) (w : World) (hn : n = ls.length) (hr : RowS encG w (some ad) ls) (hl : n ≤ 1000000) :
    Calls Try.prog 34 #[.slice (some ad) n c] w fun e w' => CloneG w ls e w' ∧ Kept [] w w' := by
  obtain ⟨i0, hi, hz0, hz1, hz2⟩ := info_parts info_reg
  have HN := Lib.hid hn
  have HR := Lib.hid hr
  clear hn hr
  have heq := fun (w : World) => Lib.run_eql_slice_nil (P := Try.prog) w 36 39 (some ad) n c 0 0 Try.underlying36
  go_enter Try.func34, Try.ntmps34
  go_wp2_with (refine app_S encG_k 36 39 i0 _ 16 Try.underlying36 hi hz0 hz1 hz2 rfl (by omega) (by rfl) (.tmp 5) (.tmp 6) rfl w w.heap.size _ [] ls rfl (OwnS.made (b := w.heap.size) _ rfl (Nat.le_refl _)) _ _ _ HN.out rfl (fun h => by cases h) (HR.out.keep ((Kept.refl [] w).alloc _)) ((Kept.refl [] w).alloc _) (Nat.le_refl _) (by simp) (by have := HN.out; simp; omega) ?_)
  intro v w2 own2 hk2 hg2 hs2
  have O2 := Lib.hid own2
  clear own2 hg2
  go_wp2_with fail
  go_ret
  exact ⟨⟨v, rfl, by simpa using O2.out⟩, hk2⟩
theorem cloneG_own (B : Nat) (v : Value) (ls : List RegT) (w : World) (ho : OwnS B 39 2 encG w v ls) (hl : ls.length ≤ 1000000) :
    Calls Try.prog 34 #[v] w fun e w' => CloneG w ls e w' ∧ Kept [] w w' := by
  obtain ⟨A, c, rfl, hA, hnc, _, hrow, _⟩ := ho.slice
  cases A with
  | none =>
    have hc := hA rfl
    have h0 : ls.length = 0 := by omega
    rw [h0]
    exact (cloneG_nil w c).mono (by
      rintro e w' ⟨rfl, rfl⟩
      obtain rfl := List.length_eq_zero_iff.1 h0
      exact ⟨⟨_, rfl, OwnS.nil _ _ _⟩, Kept.refl _ _⟩)
  | some ad => exact cloneG_some ad ls.length c ls w rfl hrow hl
set_option maxHeartbeats 1000000 in
theorem regions_any (p B : Nat) (v mk segs lim told ref : Value) (ls : List RegT) (w : World) (hb : Blk w p 62 #[mk, segs, lim, v, told, ref]) (ho : OwnS B 39 2 encG w v ls) (hl : ls.length ≤ 1000000) :
    Calls Try.prog 16 #[.pointer (some ⟨p, 0, none⟩)] w fun e w' => CloneG w ls e w' ∧ Kept [] w w' := by
  have DC := Lib.hid (cloneG_own B v ls w ho hl)
  have c3 := hb.cell 3
  have hpl := hb.lt
  clear hb ho
  go_enter Try.func16, Try.ntmps16
  go_wp2_with fail
  (with_reducible refine DC.out.mono ?_)
  rintro e w1 ⟨⟨v1, rfl, o1⟩, hb1⟩
  have O1 := Lib.hid o1
  clear o1
  go_wp2_with fail
  go_ret
  exact ⟨⟨v1, rfl, O1.out⟩, hb1⟩
end Go.Proofs.Ytekblfnemcaaeaa
