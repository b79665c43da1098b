/- SortFunc at runs, as a caller sees it; at a nil slice. -/
import Derived.Test.YtfmgeidlbekfpaaGeoMeet
set_option linter.unusedVariables false
set_option linter.unusedSimpArgs false
namespace Go.Proofs.Ytfmgeidlbekfpaa
open Go.RowKit Go.Shelf Go.Sort
theorem holdsK_of {w : World} {g : Nat} {cur : Array Value} {rs : List RunT} (hb : Blk w g 43 cur) (hc : CurR cur rs) : HoldsK encR 3 w g 0 rs.toArray := by
  intro j hj
  rw [size_flatK] at hj
  have hlt : j / 3 < rs.length := by
    have := hj
    simp at this
    omega
  rw [get_flatK _ _ _ _ hj]
  have e : rs.toArray[j / 3]! = rd rs (j / 3) := by
    rw [getElem!_pos _ _ (by simpa using hlt)]
    unfold rd
    rw [List.getElem?_eq_getElem hlt]; simp
  rw [e]
  obtain ⟨a0, a1, a2⟩ := hc _ hlt
  refine ⟨?_, hb.frozen _⟩
  rw [Nat.zero_add]
  have : j % 3 = 0 ∨ j % 3 = 1 ∨ j % 3 = 2 := by omega
  rcases this with h | h | h
  · rw [h]
    have hj' : j = j / 3 * 3 := by omega
    rw [hj'] ; exact (hb.cell _).trans (by simpa [encR] using a0)
  · rw [h]
    have hj' : j = j / 3 * 3 + 1 := by omega
    have hd : (j / 3 * 3 + 1) / 3 = j / 3 := by omega
    rw [hj', hd]; exact (hb.cell _).trans (by simpa [encR] using a1)
  · rw [h]
    have hj' : j = j / 3 * 3 + 2 := by omega
    have hd : (j / 3 * 3 + 2) / 3 = j / 3 := by omega
    rw [hj', hd]; exact (hb.cell _).trans (by simpa [encR] using a2)
theorem sortWorld_kept {w : World} {g n : Nat} {d : Array RunT} {os : Array Obj} : Kept [g] w (sortWorldK encR 3 w g 0 n d os) := by
  unfold sortWorldK grow putRowK putRow mapBlock Sort.ahead
  refine ⟨rfl, rfl, rfl, by simp, fun k hk hn => ?_⟩
  have hne : g ≠ k := fun e => hn (by simp [e])
  simp only
  rw [Array.getElem?_append_left (by simpa using hk), Array.getElem?_modify, if_neg hne]
theorem cells_sorted {w : World} {g n : Nat} {d : Array RunT} {rs : List RunT} {os : Array Obj} (hg : g < w.heap.size) (hH : HoldsK encR 3 w g 0 rs.toArray) (hs : d.size = rs.length) : CellsR (sortWorldK encR 3 w g 0 n d os) g d.toList := by
  have h := holdsK_sortWorldK encR 3 w g 0 n rs.toArray d os hg hH (by simpa using hs)
  refine ⟨lt_sortWorldK encR 3 w g 0 n d os hg, fun i hi => ?_⟩
  have hi' : i < d.size := by simpa using hi
  have e : d.toList[i]?.getD (0, 0, 0) = d[i]! := by
    rw [getElem!_pos d i hi', List.getElem?_eq_getElem hi]; simp
  rw [e]
  have h0 := (h.cell hi' (c := 0) (by omega)).1
  have h1 := (h.cell hi' (c := 1) (by omega)).1
  have h2 := (h.cell hi' (c := 2) (by omega)).1
  rw [Nat.zero_add] at h0 h1 h2
  exact ⟨h0, h1, h2⟩
def SortIs (g : Nat) (rs : List RunT) (e : Ending) (w' : World) : Prop := e = .returned (.tuple #[]) ∧ ∃ ss : List RunT, ss.Perm rs ∧ ss.Pairwise (fun a b => a.1 ≤ b.1) ∧ CellsR w' g ss
theorem sort_any (B g c : Nat) (rs : List RunT) (w : World) (ho : OwnS B 43 3 encR w (.slice (some ⟨g, 0, none⟩) rs.length c) rs) (hn : rs.length ≤ 1000000) :
    Calls Try.prog 32 #[.slice (some ⟨g, 0, none⟩) rs.length c, .func (.func 33) #[] #[]] w fun e w' => SortIs g rs e w' ∧ Kept [g] w w' := by
  obtain ⟨_, _, _, _, cur, hb, _, hc⟩ := ho.cur
  have hH := holdsK_of hb hc
  have hcon := AnyQ.slices_SortFunc sortLay 3 Try.isAgg43 Try.sizeOf43 encR (fun _ => rfl) encR_k.2.2 cmpF swo_cmpF 33 #[] g 0 c rs.toArray w eg_meet2 (cmpLays g 0 rs.toArray.size w) hH hb.lt (by simp; omega)
  change Calls Try.prog 32 _ _ _ at hcon
  have hsz : rs.toArray.size = rs.length := by simp
  rw [hsz] at hcon
  refine hcon.mono ?_
  rintro e w' ⟨rfl, d, n, os, ⟨hd, _, hp⟩, hso, rfl⟩
  rw [hsz] at hd
  refine ⟨⟨rfl, d.toList, ?_, ?_, cells_sorted hb.lt hH hd⟩, sortWorld_kept⟩
  · have e1 : d.extract 0 rs.length = d := by rw [← hd]; simp
    have e2 : rs.toArray.extract 0 rs.length = rs.toArray := by rw [← hsz]; simp
    rw [e1, e2] at hp
    simpa using hp
  · rw [List.pairwise_iff_getElem]
    intro i j hi hj hij
    have := hso i j (Nat.zero_le _) hij (by have := hj; simp at this; omega)
    rw [lt_cmpF, decide_eq_false_iff_not] at this
    have hi' : i < d.size := by simpa using hi
    have hj' : j < d.size := by simpa using hj
    rw [getElem!_pos d i hi', getElem!_pos d j hj'] at this
    simp only [Array.getElem_toList]
    omega
set_option maxHeartbeats 1000000 in
theorem index_nil (c : Nat) (w : World) : Calls Try.prog 36 #[.slice none 0 c, .func (.func 31) #[] #[]] w fun e w' => e = .returned (.int .i64 (-1)) ∧ Kept [] w w' := by
  go_enter Try.func36, Try.ntmps36
  go_wp2_with fail
  go_loopw [8] (fun v wr => v = .int .i64 0 ∧ Kept [] w wr) (fun _ _ => 0)
  case atStart => exact ⟨rfl, Kept.refl _ _⟩
  case round =>
    obtain ⟨rfl, hkw⟩ := hrel
    go_wp2_with fail
    go_ret
    exact ⟨rfl, hkw⟩
set_option maxHeartbeats 1000000 in
theorem delete_nil (c : Nat) (w : World) : Calls Try.prog 29 #[.slice none 0 c, .func (.func 31) #[] #[]] w fun e w' => e = .returned (.slice none 0 c) ∧ Kept [] w w' := by
  have DI := Lib.hid (index_nil c w)
  go_enter Try.func29, Try.ntmps29
  go_wp2_with fail
  (with_reducible refine DI.out.mono ?_)
  rintro e w1 ⟨rfl, hb1⟩
  go_wp2_with fail
  go_ret
  exact ⟨rfl, hb1⟩
set_option maxHeartbeats 1000000 in
theorem insertion_nil (c : Nat) (w : World) : Calls Try.prog 40 #[.slice none 0 c, .int .i64 0, .int .i64 0, .func (.func 33) #[] #[]] w fun e w' => e = .returned (.tuple #[]) ∧ Kept [] w w' := by
  go_enter Try.func40, Try.ntmps40
  go_wp2_with fail
  go_loopw [8] (fun v wr => v = .int .i64 1 ∧ Kept [] w wr) (fun _ _ => 0)
  case atStart => exact ⟨rfl, Kept.refl _ _⟩
  case round =>
    obtain ⟨rfl, hkw⟩ := hrel
    go_wp2_with fail
    go_end0
    exact ⟨rfl, hkw⟩
theorem len_any (w : World) : Calls Try.prog 38 #[.int .u64 0] w fun e w' => e = .returned (.int .i64 0) ∧ w = w' := by
  have h := Any.bits_Len (SlLaysF0.n15.bits (P := Try.prog) (ρ := sortRen) { sortLay with }) 0 w (by omega) (by omega)
  change Calls Try.prog 38 _ _ _ at h
  exact h.mono fun _ _ ⟨h1, h2⟩ => ⟨h1, h2.symm⟩
set_option maxHeartbeats 1000000 in
theorem pdq_nil (c : Nat) (w : World) : Calls Try.prog 37 #[.slice none 0 c, .int .i64 0, .int .i64 0, .int .i64 0, .func (.func 33) #[] #[]] w fun e w' => e = .returned (.tuple #[]) ∧ Kept [] w w' := by
  have DI := Lib.hid (fun w => insertion_nil c w)
  go_enter Try.func37, Try.ntmps37
  go_wp2_with fail
  go_loopw [1, 2, 3] (fun v1 v2 v3 wr => v1 = .int .i64 0 ∧ v2 = .int .i64 0 ∧ v3 = .int .i64 0 ∧ Kept [] w wr) (fun _ _ _ _ => 0)
  case atStart => exact ⟨rfl, rfl, rfl, Kept.refl _ _⟩
  case round =>
    obtain ⟨rfl, rfl, rfl, hkw⟩ := hrel
    go_wp2_with fail
    (with_reducible refine (DI.out _).mono ?_)
    rintro e w1 ⟨rfl, hb1⟩
    go_wp2_with fail
    refine bodyPost_ret (results_none rfl _ _ _) rfl ?_
    exact ⟨rfl, hkw.trans0 hb1⟩
set_option maxHeartbeats 1000000 in
theorem sort_nil (c : Nat) (w : World) : Calls Try.prog 32 #[.slice none 0 c, .func (.func 33) #[] #[]] w fun e w' => e = .returned (.tuple #[]) ∧ Kept [] w w' := by
  have DL := Lib.hid (fun w => len_any w)
  have DP := Lib.hid (fun w => pdq_nil c w)
  go_enter Try.func32, Try.ntmps32
  go_wp2_with fail
  (with_reducible refine (DL.out _).mono ?_)
  rintro e w1 ⟨rfl, rfl⟩
  go_wp2_with fail
  (with_reducible refine (DP.out _).mono ?_)
  rintro e w1 ⟨rfl, hb1⟩
  go_wp2_with fail
  go_end0
  exact ⟨rfl, hb1⟩
end Go.Proofs.Ytfmgeidlbekfpaa
