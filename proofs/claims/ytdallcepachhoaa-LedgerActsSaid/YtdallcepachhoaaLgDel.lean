/- slices.Delete of one region. -/
import Derived.Test.YtdallcepachhoaaLgRow
set_option linter.unusedVariables false
set_option linter.unusedSimpArgs false
namespace Go.Proofs.Ytdallcepachhoaa
open Go.RowKit
theorem OwnS.take {B g N c : Nat} {w : World} {ls : List EntT} (h : OwnS B 60 4 encE w (.slice (some ⟨g, 0, none⟩) N c) ls) (k : Nat) (hk : k ≤ ls.length) : OwnS B 60 4 encE w (.slice (some ⟨g, 0, none⟩) k c) (ls.take k) := by
  have hl : (ls.take k).length = k := by rw [List.length_take]; omega
  rcases h.2 with ⟨h1, _⟩ | ⟨g', cap, cur, h1, hb, hg, hn, hm, hs, ht⟩
  · cases h1
  · injection h1 with h1 h2 h3
    injection h1 with h1
    injection h1 with h1
    subst h1 h2 h3
    refine ⟨encE_k.flat_len _, .inr ⟨g, c, cur, by rw [hl], hb, hg, by rw [hl]; omega, hm, hs, ?_⟩⟩
    rw [hl]
    have e : (ls.take k).flatMap encE = (ls.flatMap encE).take (k * 4) := by
      apply List.ext_getElem?
      intro q
      by_cases hq : q < k * 4
      · rw [List.getElem?_take_of_lt hq]
        have h1 := encE_k.flat_get (ls.take k) (q / 4) (q % 4) (by omega)
        have h2 := encE_k.flat_get ls (q / 4) (q % 4) (by omega)
        rw [show q / 4 * 4 + q % 4 = q by omega] at h1 h2
        rw [h1, h2, List.getElem?_take_of_lt (by omega)]
      · rw [List.getElem?_eq_none (by rw [encE_k.flat_len, hl]; omega), List.getElem?_eq_none (by rw [List.length_take]; omega)]
    rw [e, ← ht, List.take_take, Nat.min_eq_left (by omega)]
theorem OwnS.blkG {B g N c : Nat} {w : World} {ls : List EntT} (h : OwnS B 60 4 encE w (.slice (some ⟨g, 0, none⟩) N c) ls) :
    N = ls.length ∧ N ≤ c ∧ c ≤ maxLen ∧ B ≤ g ∧ ∃ cur, Blk w g 60 cur ∧ cur.size = c * 4 ∧ cur.toList.take (ls.length * 4) = ls.flatMap encE := by
  rcases h.2 with ⟨h1, _⟩ | ⟨g', cap, cur, h1, hb, hg, hn, hm, hs, ht⟩
  · cases h1
  · injection h1 with h1 h2 h3
    injection h1 with h1
    injection h1 with h1
    subst h1 h2 h3
    exact ⟨rfl, hn, hm, hb, cur, hg, hs, ht⟩
theorem OwnS.cellsG {B g N c : Nat} {w : World} {ls : List EntT} (h : OwnS B 60 4 encE w (.slice (some ⟨g, 0, none⟩) N c) ls) : CellsG w g ls := by
  obtain ⟨_, _, _, _, cur, hb, hs, ht⟩ := h.blkG
  refine ⟨hb.lt, fun i hi => ?_⟩
  have key : ∀ u : Nat, u < 4 → w.cell? ⟨g, i * 4 + u, none⟩ = (encE (re ls i))[u]? := fun u hu => by
    have h9 : (cur.toList.take (ls.length * 4))[i * 4 + u]? = cur.toList[i * 4 + u]? := List.getElem?_take_of_lt (by omega)
    rw [hb.cell, ← Array.getElem?_toList, ← h9, ht, encE_k.flat_get ls i u hu]
    unfold re
    rw [List.getElem?_eq_getElem hi]
    rfl
  exact ⟨by simpa [encE] using key 0 (by omega), by simpa [encE] using key 1 (by omega), by simpa [encE] using key 2 (by omega), by simpa [encE] using key 3 (by omega)⟩
theorem run_del (B g c k : Nat) (ls : List EntT) (w : World) (ad : Addr) (m c' : Nat) (ty : TypeId) (hk : k < ls.length) (ho : OwnS B 60 4 encE w (.slice (some ⟨g, 0, none⟩) ls.length c) ls) (hm : m = ls.length - (k + 1)) (ha : 0 < m → ad = ⟨g, (k + 1) * 4, none⟩) :
    ∃ w', (Builtin.append_ #[41, 41] ty #[.slice (some ⟨g, 0, none⟩) k c, .slice (some ad) m c']).run Try.prog w = .ok (.slice (some ⟨g, 0, none⟩) (ls.length - 1) c) w' ∧
      OwnS B 60 4 encE w' (.slice (some ⟨g, 0, none⟩) (ls.length - 1) c) (ls.eraseIdx k) ∧ Kept [g] w w' := by
  obtain ⟨i0, hi, hz0, hz1, hz2⟩ := info_parts info_ent
  obtain ⟨_, hnc, _⟩ := ho.blkG
  have ht := ho.take k (by omega)
  have hl : (ls.take k).length = k := by rw [List.length_take]; omega
  have hd : (ls.drop (k + 1)).length = m := by rw [List.length_drop]; omega
  unfold OwnS at ht
  rw [hl] at ht
  obtain ⟨w', hrun, hown, hg⟩ := run_append_fits (P := Try.prog) (w := w) B 41 ty 60 i0 4 Try.underlying41 hi hz1 g k c _ ht ad m c' ((ls.drop (k + 1)).flatMap encE) (by rw [encE_k.flat_len, hd]) (fun j u hu => by
    have hj : j < m * 4 := by
      have := (List.getElem?_eq_some_iff.1 hu).1
      rwa [encE_k.flat_len, hd] at this
    rw [ha (by omega), Addr.add_lit]
    have h1 := encE_k.flat_get (ls.drop (k + 1)) (j / 4) (j % 4) (by omega)
    have h2 := encE_k.flat_get ls (k + 1 + j / 4) (j % 4) (by omega)
    rw [show j / 4 * 4 + j % 4 = j by omega, List.getElem?_drop] at h1
    rw [show (k + 1 + j / 4) * 4 + j % 4 = (k + 1) * 4 + j by omega] at h2
    obtain ⟨_, _, _, _, cur, hb, hs, ht'⟩ := ho.blkG
    have h9 : (cur.toList.take (ls.length * 4))[(k + 1) * 4 + j]? = cur.toList[(k + 1) * 4 + j]? := List.getElem?_take_of_lt (by omega)
    rw [hb.cell, ← Array.getElem?_toList, ← h9, ht', h2, ← h1, hu]) (encE_k.flat_one _) (by omega)
  have e : k + m = ls.length - 1 := by omega
  rw [e] at hrun hown
  refine ⟨w', hrun, ?_, ⟨hg.os, hg.tape, hg.output, hg.size, fun j hj hn => hg.block j hj (fun h => hn (by cases h; simp))⟩⟩
  have e2 : ls.eraseIdx k = ls.take k ++ ls.drop (k + 1) := by rw [List.eraseIdx_eq_take_drop_succ]
  unfold OwnS
  rw [e2, List.flatMap_append, List.length_append, hl, hd, e]
  exact hown
theorem zero_ent (w : World) : (zeroValue 60).run Try.prog w = .ok (.agg #[.int .u64 0, .int .u64 0, .int .u64 0, .bool false]) w := by kernel_rfl
theorem clear_ent (B g N c o n c' : Nat) (ls : List EntT) (w : World) (ho : OwnS B 60 4 encE w (.slice (some ⟨g, 0, none⟩) N c) ls) (h0 : ls.length * 4 ≤ o) (hn : 0 < n) (hf : o + n * 4 ≤ c * 4) (ty : TypeId) :
    ∃ cs : Array Value, (Builtin.clear_ #[41] ty #[.slice (some ⟨g, o, none⟩) n c']).run Try.prog w = .ok (.tuple #[]) (w.setRow g cs) ∧ OwnS B 60 4 encE (w.setRow g cs) (.slice (some ⟨g, 0, none⟩) N c) ls ∧ Kept [g] w (w.setRow g cs) := by
  obtain ⟨hN, hnc, hcm, hBg, cur, hb, hs, ht⟩ := ho.blkG
  obtain ⟨vs, hvs⟩ : ∃ vs, (Builtin.zeroCells (Value.agg #[.int .u64 0, .int .u64 0, .int .u64 0, .bool false]).cells n).toList = vs := ⟨_, rfl⟩
  have hl : vs.length = n * 4 := by rw [← hvs, Array.length_toList, size_zeroCells]; rfl
  have h1 : ∀ v ∈ vs, v.oneCell' = true := by
    intro v hv
    rw [← hvs] at hv
    simp only [Builtin.zeroCells, Value.cells, Array.toList_map, List.mem_map] at hv
    obtain ⟨i, _, rfl⟩ := hv
    have : i % 4 = 0 ∨ i % 4 = 1 ∨ i % 4 = 2 ∨ i % 4 = 3 := by omega
    show ((#[Value.int IntKind.u64 0, Value.int IntKind.u64 0, Value.int IntKind.u64 0, Value.bool false] : Array Value)[i % 4]!).oneCell' = true
    rcases this with e | e | e | e <;> rw [e] <;> rfl
  have hr := run_storeCells_at (P := Try.prog) g o 60 vs 0 cur w hb (by omega) h1
  refine ⟨(cur.toList.take o ++ vs ++ cur.toList.drop (o + vs.length)).toArray, ?_, ?_, ⟨rfl, rfl, rfl, by simp [World.setRow], fun k _ hn => setRow_other w g k _ (by simpa using hn)⟩⟩
  · obtain ⟨m, rfl⟩ : ∃ m, n = m + 1 := ⟨n - 1, by omega⟩
    simp only [Nat.add_zero] at hr
    simp [Builtin.clear_, run_underlying Try.underlying41, zero_ent, hvs, hr]
  · subst hN
    refine ⟨encE_k.flat_len _, .inr ⟨g, c, _, rfl, hBg, setRow_heap w g cur _ 60 (0, 0) hb, hnc, hcm, by simp; omega, ?_⟩⟩
    rw [← ht]
    simp only [List.toList_toArray]
    rw [List.append_assoc, List.take_append_of_le_length (by simp; omega), List.take_take, Nat.min_eq_left h0]
end Go.Proofs.Ytdallcepachhoaa
