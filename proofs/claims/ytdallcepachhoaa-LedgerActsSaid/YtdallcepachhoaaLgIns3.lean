/- slices.Insert of one region: ahead of the end, no room. -/
import Derived.Test.YtdallcepachhoaaLgIns2
set_option linter.unusedVariables false
set_option linter.unusedSimpArgs false
namespace Go.Proofs.Ytdallcepachhoaa
open Go.RowKit
set_option maxRecDepth 100000 in
set_option maxHeartbeats 4000000 in
theorem ins_grow (B g k vb : Nat) (ls : List EntT) (x : EntT) (w : World) (ho : OwnS B 60 4 encE w (.slice (some ⟨g, 0, none⟩) ls.length ls.length) ls) (hv : Blk w vb 60 #[.int .u64 x.1, .int .u64 x.2.1, .int .u64 x.2.2.1, .bool x.2.2.2]) (hk : k < ls.length) (hl : ls.length ≤ 100000) (hB : B ≤ w.heap.size) :
    Calls Try.prog 27 #[.slice (some ⟨g, 0, none⟩) ls.length ls.length, .int .i64 k, .slice (some ⟨vb, 0, none⟩) 1 1] w (InsG B (.slice (some ⟨g, 0, none⟩) ls.length ls.length) ls k x w) := by
  obtain ⟨_, hnc, hcm, hBg, cur, hb, hs, ht⟩ := ho.blkG
  obtain ⟨i0, hi, hz0, hz1, hz2⟩ := info_parts info_ent
  have hdl : ((ls.drop k).flatMap encE).length = (ls.length - k) * 4 := by rw [encE_k.flat_len, List.length_drop]
  have htl : ((ls.take k).flatMap encE).length = k * 4 := by rw [encE_k.flat_len, List.length_take, Nat.min_eq_left (by omega)]
  have hcs := own_cells ho
  have hgw := hb.lt
  have hvw := hv.lt
  have hold : (Builtin.firstCells i0.size k (.slice (some ⟨g, 0, none⟩) k ls.length)).run Try.prog w.drew = .ok ((ls.take k).flatMap encE).toArray w.drew := by
    rw [hz1]
    refine run_firstCells_some w.drew 4 k ⟨g, 0, none⟩ k ls.length _ htl (fun j v hj => ?_)
    rw [Addr.add_lit, Nat.zero_add]
    have hj2 : j < k * 4 := by
      have := (List.getElem?_eq_some_iff.1 hj).1
      rwa [htl] at this
    refine hcs j v ?_
    rw [← take_flat encE_k ls k (by omega), List.getElem?_take_of_lt hj2] at hj
    exact hj
  have hkk : (ls.length : Int) + 1 - (k : Int) = ((ls.length + 1 - k : Nat) : Int) := by omega
  have hik : k + (ls.length + 1 - k) = ls.length + 1 := by omega
  have hrz : ∀ ty, (Builtin.append_ #[41, 3] ty #[.slice (some ⟨g, 0, none⟩) k ls.length, .int .i64 ((ls.length : Int) + 1 - (k : Int))]).run Try.prog w =
      .ok (.slice (some ⟨w.heap.size, 0, none⟩) (ls.length + 1) (grownCap w (ls.length + 1) ls.length 60)) (w.drew.alloc (.cells (((ls.take k).flatMap encE).toArray ++ Builtin.zeroCells (Value.agg #[.int .u64 0, .int .u64 0, .int .u64 0, .bool false]).cells (ls.length + 1 - k) ++ Builtin.zeroCells (Value.agg #[.int .u64 0, .int .u64 0, .int .u64 0, .bool false]).cells (grownCap w (ls.length + 1) ls.length 60 - (ls.length + 1))) 60)) := fun ty => by
    have h := Lib.run_append_grow_zeros (P := Try.prog) w 41 3 ty 60 i0 _ .i64 .i64 Try.underlying41 Try.underlying3 hi hz0 (some ⟨g, 0, none⟩) k ls.length _ hold (ls.length + 1 - k) (by omega) (by omega) (by omega) (by omega) (by rw [hz2]; omega) (by rw [hz2, hik]; exact growslice_fits (by omega) (by omega))
    rw [hik] at h
    rw [hkk]
    exact h
  obtain ⟨G, hG⟩ : ∃ G, G = grownCap w (ls.length + 1) ls.length 60 := ⟨_, rfl⟩
  have hGn : ls.length + 1 ≤ G := by rw [hG]; exact grownCap_ge w _ _ _
  have hGm : G ≤ maxLen := by rw [hG]; exact grownCap_le_maxLen w _ _ _ (by unfold maxLen; omega)
  have hG63 : G ≤ 9223372036854775807 := by unfold maxLen at hGm; omega
  rw [← hG] at hrz
  obtain ⟨R0, hR0⟩ : ∃ R0 : List Value, R0 = (ls.take k).flatMap encE ++ (Builtin.zeroCells (Value.agg #[.int .u64 0, .int .u64 0, .int .u64 0, .bool false]).cells (ls.length + 1 - k)).toList ++ (Builtin.zeroCells (Value.agg #[.int .u64 0, .int .u64 0, .int .u64 0, .bool false]).cells (G - (ls.length + 1))).toList := ⟨_, rfl⟩
  have hR0a : ((ls.take k).flatMap encE).toArray ++ Builtin.zeroCells (Value.agg #[.int .u64 0, .int .u64 0, .int .u64 0, .bool false]).cells (ls.length + 1 - k) ++ Builtin.zeroCells (Value.agg #[.int .u64 0, .int .u64 0, .int .u64 0, .bool false]).cells (G - (ls.length + 1)) = R0.toArray := by
    rw [hR0]
    apply Array.ext'
    simp only [Array.toList_append, List.toList_toArray]
  rw [hR0a] at hrz
  have hR0l : R0.length = G * 4 := by
    rw [hR0]
    simp only [List.length_append, htl, Array.length_toList, size_zeroCells, Value.cells]
    have e2 : (#[Value.int IntKind.u64 0, Value.int IntKind.u64 0, Value.int IntKind.u64 0, Value.bool false] : Array Value).size = 4 := rfl
    rw [e2]
    omega
  have hR0t : R0.take (k * 4) = (ls.take k).flatMap encE := by
    rw [hR0, List.append_assoc, ← htl, List.take_left]
  obtain ⟨W1, hW1⟩ : ∃ W1, W1 = w.drew.alloc (.cells R0.toArray 60) := ⟨_, rfl⟩
  rw [← hW1] at hrz
  have hb1 : Blk W1 w.heap.size 60 R0.toArray := by rw [hW1]; exact Blk.new w.drew _ _
  have hv1 : Blk W1 vb 60 #[.int .u64 x.1, .int .u64 x.2.1, .int .u64 x.2.2.1, .bool x.2.2.2] := by rw [hW1]; exact Blk.alloc (w := w.drew) hv _
  have hbo1 : Blk W1 g 60 cur := by rw [hW1]; exact Blk.alloc (w := w.drew) hb _
  have cp1 : ∀ ty, (Builtin.copy_ #[41, 41] ty #[.slice (some ⟨w.heap.size, k * 4, none⟩) (ls.length + 1 - k) (G - k), .slice (some ⟨vb, 0, none⟩) 1 1]).run Try.prog W1 = _ := fun ty =>
    run_copy_rowK (P := Try.prog) W1 41 41 ty 60 4 w.heap.size (k * 4) (ls.length + 1 - k) (G - k) ⟨vb, 0, none⟩ 1 1 1 R0.toArray 60 (encE x) Try.underlying41 info_ent_size hb1
      (by simp only [Nat.min_def]; split <;> omega) (by rw [encE_k.2.1]) (ent_news hv1) (by rw [encE_k.2.1, List.size_toArray, hR0l]; omega) (encE_k.2.2 x)
  obtain ⟨R1, hR1⟩ : ∃ R1, R0.take (k * 4) ++ encE x ++ R0.drop (k * 4 + (encE x).length) = R1 := ⟨_, rfl⟩
  rw [List.toList_toArray, hR1] at cp1
  have hR1l : R1.length = G * 4 := by rw [← hR1]; simp only [List.length_append, List.length_take, List.length_drop, hR0l, encE_k.2.1]; omega
  obtain ⟨W2, hW2⟩ : ∃ W2, W2 = W1.setRow w.heap.size R1.toArray := ⟨_, rfl⟩
  rw [← hW2] at cp1
  have hb2 : Blk W2.drew w.heap.size 60 R1.toArray := by rw [hW2]; exact setRow_heap W1 w.heap.size R0.toArray _ _ (0, 0) hb1
  have hbo2 : Blk W2.drew g 60 cur := by rw [hW2]; exact (setRow_other W1 w.heap.size g _ (by omega)).trans hbo1
  have hcs2 : ∀ j u, (ls.flatMap encE)[j]? = some u → W2.drew.cell? ⟨g, j, none⟩ = some u := fun j u hu => by rw [hbo2.cell, ← hb.cell]; exact hcs j u hu
  have cp2 : ∀ ty, (Builtin.copy_ #[41, 41] ty #[.slice (some ⟨w.heap.size, (k + 1) * 4, none⟩) (ls.length - k) (G - (k + 1)), .slice (some ⟨g, k * 4, none⟩) (ls.length - k) (ls.length - k)]).run Try.prog W2.drew = _ := fun ty =>
    run_copy_rowK (P := Try.prog) W2.drew 41 41 ty 60 4 w.heap.size ((k + 1) * 4) (ls.length - k) (G - (k + 1)) ⟨g, k * 4, none⟩ (ls.length - k) (ls.length - k) (ls.length - k) R1.toArray 60 ((ls.drop k).flatMap encE) Try.underlying41 info_ent_size hb2
      (by simp only [Nat.min_def]; split <;> omega) hdl (news_drop (by omega) hcs2) (by rw [hdl, List.size_toArray, hR1l]; omega) (encE_k.flat_one _)
  obtain ⟨R2, hR2⟩ : ∃ R2, R1.take ((k + 1) * 4) ++ (ls.drop k).flatMap encE ++ R1.drop ((k + 1) * 4 + ((ls.drop k).flatMap encE).length) = R2 := ⟨_, rfl⟩
  rw [List.toList_toArray, hR2] at cp2
  have hfin : R2 = (ls.take k).flatMap encE ++ encE x ++ (ls.drop k).flatMap encE ++ R0.drop (k * 4 + 4 + ((ls.drop k).flatMap encE).length) := by
    rw [← hR2, ← hR1, encE_k.2.1, show (k + 1) * 4 = k * 4 + 4 by omega]
    exact seg3 _ _ _ _ R0 (k * 4) 4 hR0t htl (by rw [encE_k.2.1]) rfl (by rw [hdl, hR0l]; omega)
  have hR2l : R2.length = G * 4 := by rw [← hR2]; simp only [List.length_append, List.length_take, List.length_drop, hR1l, hdl]; omega
  have RES : InsG B (.slice (some ⟨g, 0, none⟩) ls.length ls.length) ls k x w (.returned (.slice (some ⟨w.heap.size, 0, none⟩) (ls.length + 1) G)) (W2.drew.setRow w.heap.size R2.toArray) := by
    refine ⟨_, rfl, own_ins B w.heap.size _ G k _ ls x R2 _ rfl (by omega) hB (setRow_heap W2.drew w.heap.size R1.toArray _ _ (0, 0) hb2) hfin hR2l (by omega) hGm, ?_, fun q hq => .inr (by simp [own, Value.ownBlock] at hq; omega)⟩
    rw [hW2, hW1]
    exact ⟨rfl, rfl, rfl, by simp [World.setRow, World.size_alloc, World.size_drew], fun j hj hn => by
      have hjg : j ≠ w.heap.size := by omega
      refine (setRow_other _ w.heap.size j _ hjg).trans ?_
      refine (setRow_other (w.drew.alloc (.cells R0.toArray 60)) w.heap.size j _ hjg).trans ?_
      exact Below.heap_alloc w.drew _ j hj⟩
  have HRES := Lib.hid RES
  have C0 := Lib.hid hrz
  have C1 := Lib.hid cp1
  have C2 := Lib.hid cp2
  clear hrz cp1 cp2 RES hfin hR1 hR2 hW1 hW2 hb1 hv1 hb hv ho hs ht hcs hdl hR1l hR2l hbo1 hb2 hbo2 hcs2 hR0 hR0a hR0l hR0t hG hGm hold hkk hik htl hi hz0 hz1 hz2 hcm
  have q1 : (0 : Int) ≤ (k : Int) := by omega
  have q2 : (k : Int) ≤ (ls.length : Int) := by omega
  have q4 : (k : Int) + 1 ≤ (ls.length : Int) + 1 := by omega
  have q5 : (0 : Int) ≤ (k : Int) + 1 := by omega
  have q6 : (k : Int) ≤ (ls.length : Int) + 1 := by omega
  have q7 : (0 : Int) ≤ (ls.length : Int) + 1 := by omega
  have hw1 : IntKind.i64.wrap ((k : Int) + 1) = (k : Int) + 1 := by rw [IntKind.wrap_i64]; omega
  have htn : ((k : Int) + 1).toNat = k + 1 := by omega
  have n1 : ¬ (G = k) := by omega
  have n2 : ¬ (G = k + 1) := by omega
  have n5 : ¬ (ls.length = k) := by omega
  have n3 : ((k : Int) == (ls.length : Int)) = false := by rw [beq_eq_false_iff_ne]; omega
  go_enter Try.func27, Try.ntmps27
  go_wp2_with (first | (refine wpList_append_run2 (by rfl) (.tmp 34) (.tmp 39) 41 3 rfl (.slice (some ⟨g, 0, none⟩) k ls.length) (.int .i64 ((ls.length : Int) + 1 - (k : Int))) rfl rfl (C0.out _) ?_) | (refine wpList_copy_run (by rfl) (.tmp 43) (.tmp 44) 41 41 rfl (.slice (some ⟨w.heap.size, k * 4, none⟩) (ls.length + 1 - k) (G - k)) (.slice (some ⟨vb, 0, none⟩) 1 1) rfl rfl (C1.out _) ?_))
  go_still_tail 8, (by kernel_rfl)
  go_wp2_with (refine wpList_copy_run (by rfl) (.tmp 50) (.tmp 53) 41 41 rfl (.slice (some ⟨w.heap.size, (k + 1) * 4, none⟩) (ls.length - k) (G - (k + 1))) (.slice (some ⟨g, k * 4, none⟩) (ls.length - k) (ls.length - k)) rfl rfl (C2.out _) ?_)
  go_ret
  exact HRES.out
/-- slices.Insert of one region, wherever it stands. -/
theorem insert_any (B vb k : Nat) (v : Value) (ls : List EntT) (x : EntT) (w : World) (ho : OwnS B 60 4 encE w v ls) (hv : Blk w vb 60 #[.int .u64 x.1, .int .u64 x.2.1, .int .u64 x.2.2.1, .bool x.2.2.2]) (hne : vb ∉ own v) (hk : k ≤ ls.length) (hl : ls.length ≤ 100000) (hB : B ≤ w.heap.size) :
    Calls Try.prog 27 #[v, .int .i64 k, .slice (some ⟨vb, 0, none⟩) 1 1] w (InsG B v ls k x w) := by
  rcases Nat.lt_or_ge k ls.length with h | h
  · rcases ho.2 with ⟨rfl, h0⟩ | ⟨g, cap, cur, rfl, hb, hg, hn1, hm, hs, ht⟩
    · omega
    · rcases Nat.lt_or_ge cap (ls.length + 1) with h2 | h2
      · obtain rfl : cap = ls.length := by omega
        exact ins_grow B g k vb ls x w ho hv h hl hB
      · exact ins_room B g cap k vb ls x w ho hv h hl h2 (by rintro rfl; exact hne (by simp [own, Value.ownBlock]))
  · obtain rfl : k = ls.length := by omega
    exact ins_end_any B vb v ls x w ho hv hl hB
end Go.Proofs.Ytdallcepachhoaa
