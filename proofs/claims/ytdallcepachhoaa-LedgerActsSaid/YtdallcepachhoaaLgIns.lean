/- slices.Insert of one region. -/
import Derived.Test.YtdallcepachhoaaLgDelW
import Derived.Test.YtdallcepachhoaaIns
set_option linter.unusedVariables false
set_option linter.unusedSimpArgs false
namespace Go.Proofs.Ytdallcepachhoaa
open Go.RowKit
def InsG (B : Nat) (v : Value) (ls : List EntT) (k : Nat) (x : EntT) (W : World) (e : Ending) (w' : World) : Prop := ∃ v', e = .returned v' ∧ OwnS B 60 4 encE w' v' (ins ls k x) ∧ Kept (own v) W w' ∧ (∀ g, g ∈ own v' → g ∈ own v ∨ W.heap.size ≤ g)
theorem ent_news {w : World} {vb : Nat} {x : EntT} (hv : Blk w vb 60 #[.int .u64 x.1, .int .u64 x.2.1, .int .u64 x.2.2.1, .bool x.2.2.2]) : ∀ j u, (encE x)[j]? = some u → w.cell? ((⟨vb, 0, none⟩ : Addr).add j) = some u := by
  intro j u hu
  rw [Addr.add_lit, Nat.zero_add, hv.cell]
  simpa [encE] using hu
set_option maxRecDepth 100000 in
set_option maxHeartbeats 4000000 in
theorem ins_end_any (B vb : Nat) (v : Value) (ls : List EntT) (x : EntT) (w : World) (ho : OwnS B 60 4 encE w v ls) (hv : Blk w vb 60 #[.int .u64 x.1, .int .u64 x.2.1, .int .u64 x.2.2.1, .bool x.2.2.2]) (hl : ls.length ≤ 100000) (hB : B ≤ w.heap.size) :
    Calls Try.prog 27 #[v, .int .i64 ls.length, .slice (some ⟨vb, 0, none⟩) 1 1] w (InsG B v ls ls.length x w) := by
  obtain ⟨i0, hi, hz0, hz1, hz2⟩ := info_parts info_ent
  obtain ⟨v', w', hrun, h2, h3, h4⟩ := run_app_S (P := Try.prog) encE_k 41 60 i0 (.agg #[.int .u64 0, .int .u64 0, .int .u64 0, .bool false]) 32 Try.underlying41 hi hz0 hz1 hz2 rfl (by omega) w B v ls [x] ho ⟨vb, 0, none⟩ 1 (by simpa using ent_news hv) hB (by simp; omega) 41
  have HR := Lib.hid hrun
  have R : InsG B v ls ls.length x w (.returned v') w' := ⟨v', rfl, by rw [ins_end]; exact h2, h3, h4⟩
  have HRES := Lib.hid R
  have ho2 := ho.2
  clear hrun h2 h3 h4 R hv
  rcases ho2 with ⟨rfl, h0⟩ | ⟨g, cap, cur, rfl, hb, hg, hn1, hm, hs, ht⟩
  · obtain rfl := List.length_eq_zero_iff.1 h0
    clear ho
    go_enter Try.func27, Try.ntmps27
    go_wp2_with (refine wpList_append_run2 (by rfl) (.tmp 23) (.tmp 24) 41 41 rfl _ _ rfl rfl HR.out ?_)
    go_ret
    exact HRES.out
  · have hcl : cap ≤ 9223372036854775807 := by unfold maxLen at hm; omega
    have q1 : (0 : Int) ≤ (ls.length : Int) := by omega
    clear ho hs ht hm hg
    by_cases hc1 : cap = ls.length
    · subst hc1
      go_enter Try.func27, Try.ntmps27
      go_wp2_with (refine wpList_append_run2 (by rfl) (.tmp 23) (.tmp 24) 41 41 rfl _ _ rfl rfl HR.out ?_)
      go_ret
      exact HRES.out
    · have hcb : (cap == ls.length) = false := by rw [beq_eq_false_iff_ne]; exact hc1
      have q3 : (ls.length : Int) ≤ (cap : Int) := by omega
      go_enter Try.func27, Try.ntmps27
      go_wp2_with (refine wpList_append_run2 (by rfl) (.tmp 23) (.tmp 24) 41 41 rfl _ _ rfl rfl HR.out ?_)
      go_ret
      exact HRES.out
end Go.Proofs.Ytdallcepachhoaa
