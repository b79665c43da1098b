/- slices.Delete of one region: the walk. -/
import Derived.Test.YtdallcepachhoaaLgDel
import Derived.StillTailTactics
set_option linter.unusedVariables false
set_option linter.unusedSimpArgs false
namespace Go.Proofs.Ytdallcepachhoaa
open Go.RowKit
theorem wpList_append_run {P : Program} {w : World} {ops : Array Oper} {rest : List Oper} {o : Oper} {a : Act} {Q : Exit → Act → World → Prop} (hw : Region.wanted o (yielded ops a.tmps) = true) (s x : Operand) (t t' : TypeId)
    (ho : o.op = .call { callee := .builtin .append, args := #[s, x], argTypes := #[t, t'] }) (v u : Value) (hs : a.eval s = v) (hx : a.eval x = u) {v' : Value} {w' : World}
    (hr : (Builtin.append_ #[t, t'] o.type #[v, u]).run P w = .ok v' w') (h : wpList P ops Q rest (a.put o.dst v') w') : wpList P ops Q (o :: rest) a w :=
  wpList_step fun C hC => by
    rw [if_pos hw]
    unfold Oper.wp execOp
    simp only [ho, resolve, invoke, builtin, Sem.run_bind, Sem.run_pure, Result.andThen_ok, List.map_toArray, List.map_cons, List.map_nil, hs, hx, hr]
    exact hC _ _ h
def DelG (B g c k : Nat) (ls : List EntT) (e : Ending) (w' : World) : Prop := e = .returned (.slice (some ⟨g, 0, none⟩) (ls.length - 1) c) ∧ OwnS B 60 4 encE w' (.slice (some ⟨g, 0, none⟩) (ls.length - 1) c) (ls.eraseIdx k)
set_option maxRecDepth 100000 in
set_option maxHeartbeats 4000000 in
theorem delete_one (B g c k : Nat) (ls : List EntT) (w : World) (hk : k < ls.length) (hl : ls.length ≤ 1000) (ho : OwnS B 60 4 encE w (.slice (some ⟨g, 0, none⟩) ls.length c) ls) :
    Calls Try.prog 30 #[.slice (some ⟨g, 0, none⟩) ls.length c, .int .i64 k, .int .i64 ((k : Int) + 1)] w fun e w' => DelG B g c k ls e w' ∧ Kept [g] w w' := by
  obtain ⟨_, hnc, hcm, hBg, _⟩ := ho.blkG
  unfold maxLen at hcm
  have HO := Lib.hid ho
  have hgl := ho.cellsG.1
  have RD := fun (ad : Addr) (m c' : Nat) (ty : TypeId) (w' : World) (ho' : OwnS B 60 4 encE w' (.slice (some ⟨g, 0, none⟩) ls.length c) ls) (hm : m = ls.length - (k + 1)) (ha : 0 < m → ad = ⟨g, (k + 1) * 4, none⟩) => run_del B g c k ls w' ad m c' ty hk ho' hm ha
  have HRD := Lib.hid RD
  clear ho RD
  have q1 : (0 : Int) ≤ (k : Int) := by omega
  have q2 : (k : Int) + 1 ≤ (ls.length : Int) := by omega
  have q3 : (ls.length : Int) ≤ (c : Int) := by omega
  have q4 : (k : Int) ≤ (k : Int) + 1 := by omega
  have q5 : (k : Int) ≤ (c : Int) := by omega
  have q6 : (0 : Int) ≤ (k : Int) + 1 := by omega
  have hne : ((k : Int) == (k : Int) + 1) = false := by rw [beq_eq_false_iff_ne]; omega
  go_enter Try.func30, Try.ntmps30
  go_wp2_with fail
  by_cases hc1 : c = k + 1
  · subst hc1
    have hll : ls.length = k + 1 := by omega
    have HLL := Lib.hid hll
    clear hll
    go_still_tail 6, (by kernel_rfl)
    obtain ⟨w2, hrun, own2, kept2⟩ := HRD.out ⟨g, 0, none⟩ 0 0 41 w.drew HO.out (by have := HLL.out; omega) (fun h => by omega)
    have HRUN := Lib.hid hrun
    have O2 := Lib.hid own2
    have K2 : Hid (Kept [g] w w2) := Lib.hid (kept2.thenS ((Kept.refl [g] w).drew))
    clear hrun own2 kept2
    obtain ⟨cs, hcl, own3, kept3⟩ := clear_ent B g (ls.length - 1) (k + 1) ((ls.length - 1) * 4) (ls.length - (ls.length - 1)) (k + 1 - (ls.length - 1)) (ls.eraseIdx k) w2 O2.out (by rw [List.length_eraseIdx_of_lt hk]; exact Nat.le_refl _) (by omega) (by omega) 0
    have O3 := Lib.hid own3
    have K3 := Lib.hid (kept3.thenS K2.out)
    clear own3 kept3
    go_wp2_with (refine wpList_append_run (by rfl) (.tmp 22) (.tmp 25) 41 41 rfl _ _ rfl rfl HRUN.out ?_)
    go_ret
    exact ⟨⟨rfl, O3.out⟩, K3.out⟩
  · have hcb : (c == k + 1) = false := by rw [beq_eq_false_iff_ne]; exact hc1
    go_still_tail 6, (by kernel_rfl)
    obtain ⟨w2, hrun, own2, kept2⟩ := HRD.out ⟨g, (k + 1) * 4, none⟩ (ls.length - (k + 1)) (c - (k + 1)) 41 w.drew HO.out rfl (fun _ => rfl)
    have HRUN := Lib.hid hrun
    have O2 := Lib.hid own2
    have K2 : Hid (Kept [g] w w2) := Lib.hid (kept2.thenS ((Kept.refl [g] w).drew))
    clear hrun own2 kept2
    obtain ⟨cs, hcl, own3, kept3⟩ := clear_ent B g (ls.length - 1) c ((ls.length - 1) * 4) (ls.length - (ls.length - 1)) (c - (ls.length - 1)) (ls.eraseIdx k) w2 O2.out (by rw [List.length_eraseIdx_of_lt hk]; exact Nat.le_refl _) (by omega) (by omega) 0
    have O3 := Lib.hid own3
    have K3 := Lib.hid (kept3.thenS K2.out)
    clear own3 kept3
    go_wp2_with (refine wpList_append_run (by rfl) (.tmp 22) (.tmp 25) 41 41 rfl _ _ rfl rfl HRUN.out ?_)
    go_ret
    exact ⟨⟨rfl, O3.out⟩, K3.out⟩
end Go.Proofs.Ytdallcepachhoaa
