/- slices.Insert of one region: ahead of the end. -/
import Derived.Test.YtdallcepachhoaaLgIns
import Derived.Test.YtdallcepachhoaaLgDelW
set_option linter.unusedVariables false
set_option linter.unusedSimpArgs false
namespace Go.Proofs.Ytdallcepachhoaa
open Go.RowKit
theorem info_ent_size : (Try.prog.info? 60).map (·.size) = some 4 := by kernel_rfl
/-- The row's cells behind both copies. -/
theorem own_ins (B g n c k : Nat) (w : World) (ls : List EntT) (x : EntT) (R D : List Value) (hn : n = ls.length + 1) (hk : k ≤ ls.length) (hB : B ≤ g) (hg : Blk w g 60 R.toArray) (hR : R = (ls.take k).flatMap encE ++ encE x ++ (ls.drop k).flatMap encE ++ D) (hsz : R.length = c * 4) (hnc : n ≤ c) (hm : c ≤ maxLen) :
    OwnS B 60 4 encE w (.slice (some ⟨g, 0, none⟩) n c) (ins ls k x) := by
  have hl := ins_len ls x k hk
  refine ⟨encE_k.flat_len _, .inr ⟨g, c, R.toArray, by rw [hl, hn], hB, hg, by omega, hm, by simpa using hsz, ?_⟩⟩
  rw [← ins_flat] at hR
  have h9 := encE_k.flat_len (ins ls k x)
  rw [List.toList_toArray, hR, ← h9, List.take_left]
theorem news_drop {w : World} {g k : Nat} {ls : List EntT} (hk : k ≤ ls.length) (hc : ∀ j u, (ls.flatMap encE)[j]? = some u → w.cell? ⟨g, j, none⟩ = some u) : ∀ j u, ((ls.drop k).flatMap encE)[j]? = some u → w.cell? ((⟨g, k * 4, none⟩ : Addr).add j) = some u := by
  intro j u hu
  rw [← drop_flat encE_k ls k hk, List.getElem?_drop] at hu
  rw [Addr.add_lit]
  exact hc _ _ hu
theorem own_cells {B g N c : Nat} {w : World} {ls : List EntT} (h : OwnS B 60 4 encE w (.slice (some ⟨g, 0, none⟩) N c) ls) : ∀ j u, (ls.flatMap encE)[j]? = some u → w.cell? ⟨g, j, none⟩ = some u := by
  intro j u hu
  obtain ⟨_, _, _, _, cur, hb, hs, ht⟩ := h.blkG
  have hj : j < ls.length * 4 := by
    have := (List.getElem?_eq_some_iff.1 hu).1
    rwa [encE_k.flat_len] at this
  rw [hb.cell, ← Array.getElem?_toList, ← hu, ← ht, List.getElem?_take_of_lt hj]
set_option maxRecDepth 100000 in
set_option maxHeartbeats 4000000 in
theorem ins_room (B g c k vb : Nat) (ls : List EntT) (x : EntT) (w : World) (ho : OwnS B 60 4 encE w (.slice (some ⟨g, 0, none⟩) ls.length c) ls) (hv : Blk w vb 60 #[.int .u64 x.1, .int .u64 x.2.1, .int .u64 x.2.2.1, .bool x.2.2.2]) (hk : k < ls.length) (hl : ls.length ≤ 100000) (hr : ls.length + 1 ≤ c) (hne : vb ≠ g) :
    Calls Try.prog 27 #[.slice (some ⟨g, 0, none⟩) ls.length c, .int .i64 k, .slice (some ⟨vb, 0, none⟩) 1 1] w (InsG B (.slice (some ⟨g, 0, none⟩) ls.length c) ls k x w) := by
  obtain ⟨_, hnc, hcm, hBg, cur, hb, hs, ht⟩ := ho.blkG
  have hcl : c ≤ 9223372036854775807 := by unfold maxLen at hcm; omega
  have hcur : cur.toList.length = c * 4 := by rw [Array.length_toList]; exact hs
  have hdl : ((ls.drop k).flatMap encE).length = (ls.length - k) * 4 := by rw [encE_k.flat_len, List.length_drop]
  have hcs := own_cells ho
  have hbd : Blk w.drew g 60 cur := hb
  have cp1 : ∀ ty, (Builtin.copy_ #[41, 41] ty #[.slice (some ⟨g, (k + 1) * 4, none⟩) (ls.length - k) (c - (k + 1)), .slice (some ⟨g, k * 4, none⟩) (ls.length + 1 - k) (c - k)]).run Try.prog w.drew = _ := fun ty =>
    run_copy_rowK (P := Try.prog) w.drew 41 41 ty 60 4 g ((k + 1) * 4) (ls.length - k) (c - (k + 1)) ⟨g, k * 4, none⟩ (ls.length + 1 - k) (c - k) (ls.length - k) cur 60 ((ls.drop k).flatMap encE) Try.underlying41 info_ent_size hbd
      (by simp only [Nat.min_def]; split <;> omega) hdl (news_drop (w := w.drew) (by omega) hcs) (by rw [hdl]; omega) (encE_k.flat_one _)
  obtain ⟨R1, hR1⟩ : ∃ R1, cur.toList.take ((k + 1) * 4) ++ (ls.drop k).flatMap encE ++ cur.toList.drop ((k + 1) * 4 + ((ls.drop k).flatMap encE).length) = R1 := ⟨_, rfl⟩
  rw [hR1] at cp1
  have hR1l : R1.length = c * 4 := by rw [← hR1]; simp only [List.length_append, List.length_take, List.length_drop, hcur, hdl]; omega
  obtain ⟨W1, hW1⟩ : ∃ W1, W1 = w.drew.setRow g R1.toArray := ⟨_, rfl⟩
  rw [← hW1] at cp1
  have hb1 : Blk W1 g 60 R1.toArray := by rw [hW1]; exact setRow_heap w.drew g cur _ _ (0, 0) hb
  have hv1 : Blk W1 vb 60 #[.int .u64 x.1, .int .u64 x.2.1, .int .u64 x.2.2.1, .bool x.2.2.2] := by rw [hW1]; exact (setRow_other w.drew g vb _ hne).trans hv
  have cp2 : ∀ ty, (Builtin.copy_ #[41, 41] ty #[.slice (some ⟨g, k * 4, none⟩) (ls.length + 1 - k) (c - k), .slice (some ⟨vb, 0, none⟩) 1 1]).run Try.prog W1 = _ := fun ty =>
    run_copy_rowK (P := Try.prog) W1 41 41 ty 60 4 g (k * 4) (ls.length + 1 - k) (c - k) ⟨vb, 0, none⟩ 1 1 1 R1.toArray 60 (encE x) Try.underlying41 info_ent_size hb1
      (by simp only [Nat.min_def]; split <;> omega) (by rw [encE_k.2.1]) (ent_news hv1) (by rw [encE_k.2.1, List.size_toArray, hR1l]; omega) (encE_k.2.2 x)
  obtain ⟨R2, hR2⟩ : ∃ R2, R1.take (k * 4) ++ encE x ++ R1.drop (k * 4 + (encE x).length) = R2 := ⟨_, rfl⟩
  rw [List.toList_toArray, hR2] at cp2
  have hfin : R2 = (ls.take k).flatMap encE ++ encE x ++ (ls.drop k).flatMap encE ++ cur.toList.drop (k * 4 + 4 + ((ls.drop k).flatMap encE).length) := by
    rw [← hR2, ← hR1, encE_k.2.1, show (k + 1) * 4 = k * 4 + 4 by omega]
    refine seg3' _ _ _ _ cur.toList (k * 4) 4 ?_ (by rw [encE_k.2.1]) rfl (by rw [hdl, hcur]; omega)
    rw [← take_flat encE_k ls k (by omega), ← ht, List.take_take, Nat.min_eq_left (by omega)]
  have hR2l : R2.length = c * 4 := by rw [← hR2]; simp only [List.length_append, List.length_take, List.length_drop, hR1l, encE_k.2.1]; omega
  have RES : InsG B (.slice (some ⟨g, 0, none⟩) ls.length c) ls k x w (.returned (.slice (some ⟨g, 0, none⟩) (ls.length + 1) c)) (W1.setRow g R2.toArray) := by
    refine ⟨_, rfl, own_ins B g _ c k _ ls x R2 _ rfl (by omega) hBg (setRow_heap W1 g R1.toArray _ _ (0, 0) hb1) hfin hR2l (by omega) hcm, ?_, fun q hq => .inl hq⟩
    rw [hW1]
    exact ⟨rfl, rfl, rfl, by show w.heap.size ≤ ((w.drew.setRow g R1.toArray).setRow g R2.toArray).heap.size; simp [World.setRow], fun j hj hn => by
      have hjg : j ≠ g := by intro e; apply hn; rw [e]; simp [own, Value.ownBlock]
      exact (setRow_other _ g j _ hjg).trans (setRow_other w.drew g j _ hjg)⟩
  have HRES := Lib.hid RES
  have C1 := Lib.hid cp1
  have C2 := Lib.hid cp2
  have hsa : w.shape? vb = some (60, 4) := by unfold Blk at hv; simp [World.shape?, hv]
  have hsb : w.shape? g = some (60, c * 4) := by unfold Blk at hb; simp [World.shape?, hb, hs]
  have hov : ∀ lb cb, (callFunc 45 #[.slice (some ⟨vb, 0, none⟩) 1 1, .slice (some ⟨g, (k + 1) * 4, none⟩) lb cb]).run Try.prog w = .ok (.value (.bool false)) w := fun lb cb => by
    rw [run_callFunc_extern Try.func45 (by kernel_rfl) (by kernel_rfl) (by kernel_rfl) (e := Extern.SlicesOverlaps.overlaps #[41, 41] #[4]) (by kernel_rfl),
      Lib.run_overlaps_apart w 41 4 60 Try.underlying41 4 (fun w => by kernel_rfl) ⟨vb, 0, none⟩ ⟨g, (k + 1) * 4, none⟩ 1 1 lb cb hne _ _ _ _ hsa hsb (by omega) (hv.frozen 0) (hv.frozen 4)]
    rfl
  clear cp1 cp2 RES hfin hR1 hR2 hW1 hb1 hv1 hb hbd hv ho hs ht hcs hcur hdl hR1l hR2l hsa hsb
  have q1 : (0 : Int) ≤ (k : Int) := by omega
  have q2 : (k : Int) ≤ (ls.length : Int) := by omega
  have q3 : (ls.length : Int) + 1 ≤ (c : Int) := by omega
  have q4 : (k : Int) + 1 ≤ (ls.length : Int) + 1 := by omega
  have q5 : (0 : Int) ≤ (k : Int) + 1 := by omega
  have q6 : (k : Int) ≤ (ls.length : Int) + 1 := by omega
  have q7 : (0 : Int) ≤ (ls.length : Int) + 1 := by omega
  have hw1 : IntKind.i64.wrap ((k : Int) + 1) = (k : Int) + 1 := by rw [IntKind.wrap_i64]; omega
  have htn : ((k : Int) + 1).toNat = k + 1 := by omega
  have n1 : ¬ (c = k) := by omega
  have n2 : ¬ (c = k + 1) := by omega
  have n3 : ((k : Int) == (ls.length : Int)) = false := by rw [beq_eq_false_iff_ne]; omega
  have n4 : decide ((c : Int) < (ls.length : Int) + 1) = false := by rw [decide_eq_false_iff_not]; omega
  go_enter Try.func27, Try.ntmps27
  go_wp2_with (simp only [hov])
  go_still_tail 8, (by kernel_rfl)
  go_wp2_with (first | (refine wpList_copy_run (by rfl) (.tmp 73) (.tmp 76) 41 41 rfl _ _ rfl rfl (C1.out _) ?_) | (refine wpList_copy_run (by rfl) (.tmp 80) (.tmp 81) 41 41 rfl _ _ rfl rfl (C2.out _) ?_))
  go_ret
  exact HRES.out
end Go.Proofs.Ytdallcepachhoaa
