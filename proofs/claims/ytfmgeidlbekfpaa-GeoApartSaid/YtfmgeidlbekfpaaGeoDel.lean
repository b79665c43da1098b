/- DeleteFunc at runs. -/
import Derived.Test.YtfmgeidlbekfpaaGeoRow
set_option linter.unusedVariables false
set_option linter.unusedSimpArgs false
namespace Go.Proofs.Ytfmgeidlbekfpaa
open Go.RowKit
def rd (ds : List RunT) (i : Nat) : RunT := ds[i]?.getD (0, 0, 0)
def CurR (cur : Array Value) (ds : List RunT) : Prop :=
  ∀ i : Nat, i < ds.length → cur[i * 3]? = some (.int .u64 (rd ds i).1) ∧ cur[i * 3 + 1]? = some (.int .u64 (rd ds i).2.1) ∧ cur[i * 3 + 2]? = some (.int .i64 (rd ds i).2.2)
theorem rd_set (ds : List RunT) (i j : Nat) (r : RunT) (h : i < ds.length) : rd (ds.set i r) j = if i = j then r else rd ds j := by
  unfold rd
  rw [List.getElem?_set]
  by_cases e : i = j
  · rw [if_pos e, if_pos e, if_pos h]; rfl
  · rw [if_neg e, if_neg e]
theorem CurR.set {cur : Array Value} {ds : List RunT} (h : CurR cur ds) {i : Nat} (hi : i < ds.length) (f s n : Int) :
    CurR (((cur.setIfInBounds (i * 3) (.int .u64 f)).setIfInBounds (i * 3 + 1) (.int .u64 s)).setIfInBounds (i * 3 + 2) (.int .i64 n)) (ds.set i (f, s, n)) := by
  obtain ⟨a0, a1, a2⟩ := h i hi
  have l0 := (Array.getElem?_eq_some_iff.1 a0).1
  have l1 := (Array.getElem?_eq_some_iff.1 a1).1
  have l2 := (Array.getElem?_eq_some_iff.1 a2).1
  intro j hj
  rw [List.length_set] at hj
  rw [rd_set ds i j _ hi]
  by_cases e : i = j
  · subst e
    rw [if_pos rfl]
    simp [Array.getElem?_setIfInBounds, l0, l1, l2]
  · rw [if_neg e]
    obtain ⟨b0, b1, b2⟩ := h j hj
    have e0 : ∀ u v : Nat, u < 3 → v < 3 → i * 3 + u ≠ j * 3 + v := fun u v hu hv => by omega
    have e00 := e0 0 0 (by omega) (by omega)
    have e01 := e0 0 1 (by omega) (by omega)
    have e02 := e0 0 2 (by omega) (by omega)
    have e10 := e0 1 0 (by omega) (by omega)
    have e11 := e0 1 1 (by omega) (by omega)
    have e12 := e0 1 2 (by omega) (by omega)
    have e20 := e0 2 0 (by omega) (by omega)
    have e21 := e0 2 1 (by omega) (by omega)
    have e22 := e0 2 2 (by omega) (by omega)
    simp only [Nat.add_zero] at e00 e01 e02 e10 e20
    refine ⟨?_, ?_, ?_⟩
    · rw [Array.getElem?_setIfInBounds_ne e20, Array.getElem?_setIfInBounds_ne e10, Array.getElem?_setIfInBounds_ne e00]; exact b0
    · rw [Array.getElem?_setIfInBounds_ne e21, Array.getElem?_setIfInBounds_ne e11, Array.getElem?_setIfInBounds_ne e01]; exact b1
    · rw [Array.getElem?_setIfInBounds_ne e22, Array.getElem?_setIfInBounds_ne e12, Array.getElem?_setIfInBounds_ne e02]; exact b2
theorem flat_q (rs : List RunT) (q : Nat) (h : q < rs.length * 3) : (rs.flatMap encR)[q]? = (encR (rd rs (q / 3)))[q % 3]? := by
  have h1 : q / 3 < rs.length := by omega
  have := encR_k.flat_get rs (q / 3) (q % 3) (by omega)
  rw [show q / 3 * 3 + q % 3 = q by omega] at this
  rw [this]
  unfold rd
  rw [List.getElem?_eq_getElem h1]
  rfl
theorem OwnS.cur {B : Nat} {w : World} {g N c : Nat} {rs : List RunT} (h : OwnS B 43 3 encR w (.slice (some ⟨g, 0, none⟩) N c) rs) :
    N = rs.length ∧ N ≤ c ∧ c ≤ maxLen ∧ B ≤ g ∧ ∃ cur, Blk w g 43 cur ∧ cur.size = c * 3 ∧ CurR cur rs := by
  rcases h.2 with ⟨h1, _⟩ | ⟨g', cap, cur, h1, hb, hg, hn, hm, hs, ht⟩
  · cases h1
  · injection h1 with h1 h2 h3
    injection h1 with h1
    injection h1 with h1
    subst h1 h2 h3
    refine ⟨rfl, hn, hm, hb, cur, hg, hs, fun i hi => ?_⟩
    have key : ∀ u : Nat, u < 3 → cur[i * 3 + u]? = (encR (rd rs i))[u]? := fun u hu => by
      have h4 := flat_q rs (i * 3 + u) (by omega)
      rw [← ht, List.getElem?_take_of_lt (by omega), Array.getElem?_toList, show (i * 3 + u) / 3 = i by omega, show (i * 3 + u) % 3 = u by omega] at h4
      exact h4
    exact ⟨by simpa [encR] using key 0 (by omega), by simpa [encR] using key 1 (by omega), by simpa [encR] using key 2 (by omega)⟩
theorem OwnS.of_cur {B : Nat} {w : World} {g M c : Nat} {rs : List RunT} {cur : Array Value} (hb : Blk w g 43 cur) (hs : cur.size = c * 3) (hc : CurR cur rs) (hM : M = rs.length) (hMc : M ≤ c) (hm : c ≤ maxLen) (hB : B ≤ g) :
    OwnS B 43 3 encR w (.slice (some ⟨g, 0, none⟩) M c) rs := by
  subst hM
  refine ⟨encR_k.flat_len rs, .inr ⟨g, c, cur, rfl, hB, hb, hMc, hm, hs, ?_⟩⟩
  apply List.ext_getElem?
  intro q
  by_cases hq : q < rs.length * 3
  · rw [List.getElem?_take_of_lt hq, flat_q rs q hq, Array.getElem?_toList]
    obtain ⟨a0, a1, a2⟩ := hc (q / 3) (by omega)
    have : q % 3 = 0 ∨ q % 3 = 1 ∨ q % 3 = 2 := by omega
    rcases this with e | e | e
    · rw [e]; rw [show q = q / 3 * 3 by omega]; simpa [encR, Nat.mul_div_cancel] using a0
    · rw [e]; rw [show q = q / 3 * 3 + 1 by omega]
      have : (q / 3 * 3 + 1) / 3 = q / 3 := by omega
      rw [this]; simpa [encR] using a1
    · rw [e]; rw [show q = q / 3 * 3 + 2 by omega]
      have : (q / 3 * 3 + 2) / 3 = q / 3 := by omega
      rw [this]; simpa [encR] using a2
  · rw [List.getElem?_eq_none (by rw [List.length_take]; omega), List.getElem?_eq_none (by rw [encR_k.flat_len]; omega)]
def keepR (rs : List RunT) : List RunT := rs.filter (fun r => !dropP r)
theorem keepR_snoc (rs : List RunT) (j : Nat) (h : j < rs.length) : keepR (rs.take (j + 1)) = keepR (rs.take j) ++ (if dropP (rd rs j) then [] else [rd rs j]) := by
  have e : rs.take (j + 1) = rs.take j ++ [rd rs j] := by
    unfold rd
    rw [List.take_add_one, List.getElem?_eq_getElem h]; rfl
  unfold keepR
  rw [e, List.filter_append]
  congr 1
  cases h2 : dropP (rd rs j) <;> simp [h2]
theorem keepR_all (rs : List RunT) (k : Nat) (h : ∀ j : Nat, j < k → dropP (rd rs j) = false) (hk : k ≤ rs.length) : keepR (rs.take k) = rs.take k := by
  induction k with
  | zero => rfl
  | succ k ih =>
    rw [keepR_snoc rs k (by omega), ih (fun j hj => h j (by omega)) (by omega), h k (by omega)]
    unfold rd
    rw [List.take_add_one, List.getElem?_eq_getElem (by omega)]; rfl
theorem rd_drop {ds rs : List RunT} {j : Nat} (h : ds.drop j = rs.drop j) (hj : j < rs.length) : rd ds j = rd rs j := by
  have := congrArg (fun l => l[0]?) h
  simp only [List.getElem?_drop, Nat.add_zero] at this
  unfold rd
  rw [this]
theorem setRow_blk {w : World} {g : Nat} {cur cs : Array Value} {t : TypeId} (h : Blk w g t cur) : Blk (w.setRow g cs) g t cs := setRow_heap w g cur cs t (0, 0) h
theorem setRow_kept (w : World) (g : Nat) (cs : Array Value) : Kept [g] w (w.setRow g cs) :=
  ⟨rfl, rfl, rfl, by simp [World.setRow], fun k _ hn => setRow_other w g k cs (by simpa using hn)⟩
theorem zero_run (w : World) : (zeroValue 43).run Try.prog w = .ok (.agg #[.int .u64 0, .int .u64 0, .int .i64 0]) w := by kernel_rfl
theorem clear_run (w : World) (g o n c : Nat) (cur : Array Value) (hB : Blk w g 43 cur) (hn : 0 < n) (hf : o + n * 3 ≤ cur.size) (ty : TypeId) :
    ∃ cs : Array Value, (Builtin.clear_ #[55] ty #[.slice (some ⟨g, o, none⟩) n c]).run Try.prog w = .ok (.tuple #[]) (w.setRow g cs) ∧ cs.size = cur.size ∧ ∀ q : Nat, q < o → cs[q]? = cur[q]? := by
  obtain ⟨vs, hvs⟩ : ∃ vs, (Builtin.zeroCells (Value.agg #[.int .u64 0, .int .u64 0, .int .i64 0]).cells n).toList = vs := ⟨_, rfl⟩
  have hl : vs.length = n * 3 := by rw [← hvs, Array.length_toList, size_zeroCells]; rfl
  have h1 : ∀ v ∈ vs, v.oneCell' = true := by
    intro v hv
    rw [← hvs] at hv
    simp only [Builtin.zeroCells, Value.cells, Array.toList_map, List.mem_map] at hv
    obtain ⟨i, _, rfl⟩ := hv
    have : i % 3 = 0 ∨ i % 3 = 1 ∨ i % 3 = 2 := by omega
    show ((#[Value.int IntKind.u64 0, Value.int IntKind.u64 0, Value.int IntKind.i64 0] : Array Value)[i % 3]!).oneCell' = true
    rcases this with e | e | e <;> rw [e] <;> rfl
  have hr := run_storeCells_at (P := Try.prog) g o 43 vs 0 cur w hB (by omega) h1
  refine ⟨(cur.toList.take o ++ vs ++ cur.toList.drop (o + vs.length)).toArray, ?_, ?_, fun q hq => ?_⟩
  · obtain ⟨m, rfl⟩ : ∃ m, n = m + 1 := ⟨n - 1, by omega⟩
    simp only [Nat.add_zero] at hr
    simp [Builtin.clear_, run_underlying Try.underlying55, zero_run, hvs, hr]
  · simp; omega
  · simp only [List.getElem?_toArray]
    rw [List.append_assoc, List.getElem?_append_left (by simp; omega), List.getElem?_take_of_lt hq, Array.getElem?_toList]
end Go.Proofs.Ytfmgeidlbekfpaa
