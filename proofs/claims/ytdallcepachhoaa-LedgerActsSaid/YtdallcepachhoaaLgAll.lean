/- All, Bytes. -/
import Derived.Test.YtdallcepachhoaaLgAdd
set_option linter.unusedVariables false
set_option linter.unusedSimpArgs false
namespace Go.Proofs.Ytdallcepachhoaa
open Go.RowKit
/-- A block: where, how many, its alignment. -/
abbrev BlkT := Int × Int × Int
def encB (r : BlkT) : List Value := [.int .u64 r.1, .int .u64 r.2.1, .int .u64 r.2.2]
theorem encB_k : EncK encB 3 := ⟨by omega, fun _ => rfl, fun x v hv => by
  simp [encB] at hv
  rcases hv with rfl | rfl | rfl <;> rfl⟩
theorem info_blk : (Try.prog.info? 33).map (fun i => (i.zero, i.size, i.bytes)) = some (some (.agg #[.int .u64 0, .int .u64 0, .int .u64 0]), 3, 24) := by kernel_rfl
def bk (e : EntT) : BlkT := (e.1, e.2.1, e.2.2.1)
def rb (ls : List BlkT) (i : Nat) : BlkT := ls[i]?.getD (0, 0, 0)
theorem rb_some {ls : List BlkT} {j : Nat} (h : j < ls.length) : ls[j]? = some (rb ls j) := by unfold rb; rw [List.getElem?_eq_getElem h]; rfl
theorem rb_map {ls : List EntT} {j : Nat} (h : j < ls.length) : rb (ls.map bk) j = bk (re ls j) := by
  have h1 := rb_some (ls := ls.map bk) (j := j) (by simpa using h)
  have h2 := re_some h
  rw [List.getElem?_map, h2] at h1
  injection h1 with h1
  exact h1.symm
/-- The blocks ls lie in block g. -/
def CellsB (w : World) (g : Nat) (ls : List BlkT) : Prop :=
  g < w.heap.size ∧ ∀ i : Nat, i < ls.length → w.cell? ⟨g, i * 3, none⟩ = some (.int .u64 (rb ls i).1) ∧ w.cell? ⟨g, i * 3 + 1, none⟩ = some (.int .u64 (rb ls i).2.1) ∧ w.cell? ⟨g, i * 3 + 2, none⟩ = some (.int .u64 (rb ls i).2.2)
theorem CellsB.keep {w w' : World} {g : Nat} {ls : List BlkT} (h : CellsB w g ls) (hk : Kept [] w w') : CellsB w' g ls := by
  have hb := hk.block g h.1 (by simp)
  exact ⟨Nat.lt_of_lt_of_le h.1 hk.size, fun i hi => by
    obtain ⟨h1, h2, h3⟩ := h.2 i hi
    exact ⟨(World.cell?_of_block hb).trans h1, (World.cell?_of_block hb).trans h2, (World.cell?_of_block hb).trans h3⟩⟩
theorem ownB_cells {B g N c : Nat} {w : World} {ls : List BlkT} (h : OwnS B 33 3 encB w (.slice (some ⟨g, 0, none⟩) N c) ls) : CellsB w g ls := by
  rcases h.2 with ⟨h1, _⟩ | ⟨g', cap, cur, h1, hb, hg, hn, hm, hs, ht⟩
  · cases h1
  · injection h1 with h1 h2 h3
    injection h1 with h1
    injection h1 with h1
    subst h1 h2 h3
    have hb' : Blk w g 33 cur := hg
    refine ⟨hb'.lt, fun i hi => ?_⟩
    have key : ∀ u : Nat, u < 3 → w.cell? ⟨g, i * 3 + u, none⟩ = (encB (rb ls i))[u]? := fun u hu => by
      have h9 : (cur.toList.take (ls.length * 3))[i * 3 + u]? = cur.toList[i * 3 + u]? := List.getElem?_take_of_lt (by omega)
      rw [hb'.cell, ← Array.getElem?_toList, ← h9, ht, encB_k.flat_get ls i u hu]
      unfold rb
      rw [List.getElem?_eq_getElem hi]
      rfl
    exact ⟨by simpa [encB] using key 0 (by omega), by simpa [encB] using key 1 (by omega), by simpa [encB] using key 2 (by omega)⟩
/-- A slice of blocks of the call's own: empty, or at the head of a block. -/
def ListB (X : Nat → Prop) (w : World) (A : Option Addr) (ls : List BlkT) : Prop := 0 < ls.length → ∃ g, X g ∧ A = some ⟨g, 0, none⟩ ∧ CellsB w g ls
theorem ListB.keep {X : Nat → Prop} {w w' : World} {A : Option Addr} {ls : List BlkT} (h : ListB X w A ls) (hk : Kept [] w w') : ListB X w' A ls := fun h0 => by
  obtain ⟨g, hx, e, hc⟩ := h h0
  exact ⟨g, hx, e, hc.keep hk⟩
theorem listB_of {B : Nat} {w : World} {v : Value} {ls : List BlkT} (ho : OwnS B 33 3 encB w v ls) : ∃ A c, v = .slice A ls.length c ∧ ListB (fun g => B ≤ g) w A ls := by
  rcases ho.2 with ⟨rfl, h0⟩ | ⟨g, cap, cur, rfl, hb, _⟩
  · exact ⟨none, 0, by rw [h0], fun h => by omega⟩
  · exact ⟨_, cap, rfl, fun _ => ⟨g, hb, rfl, ownB_cells ho⟩⟩
theorem rowB_one {w : World} {g : Nat} {x : BlkT} (h : Blk w g 33 #[.int .u64 x.1, .int .u64 x.2.1, .int .u64 x.2.2]) : RowS encB w (some ⟨g, 0, none⟩) [x] := fun _ => by
  refine ⟨_, rfl, h.lt, fun j u hu => ?_⟩
  rw [Addr.add_lit, Nat.zero_add, h.cell]
  simpa [encB] using hu
def AllB (W : World) (ls : List BlkT) (e : Ending) (w' : World) : Prop := ∃ v, e = .returned v ∧ OwnS W.heap.size 33 3 encB w' v ls
theorem map_take_snoc (ls : List EntT) (j : Nat) (h : j < ls.length) : (ls.take (j + 1)).map bk = (ls.take j).map bk ++ [bk (re ls j)] := by
  rw [List.take_succ_eq_append_getElem h, List.map_append]
  have := re_some h
  rw [List.getElem?_eq_getElem h] at this
  injection this with this
  rw [this]
  rfl
set_option maxRecDepth 100000 in
set_option maxHeartbeats 2000000 in
theorem all_any (S : List Nat) (W : World) (p : Nat) (ls : List EntT) (h : LgS S W p ls) (hl : ls.length ≤ 1000) :
    Calls Try.prog 12 #[.pointer (some ⟨p, 0, none⟩)] W fun e w' => AllB W (ls.map bk) e w' ∧ Kept [] W w' := by
  obtain ⟨i0, hi, hz0, hz1, hz2⟩ := info_parts info_blk
  obtain ⟨A, c, c0⟩ := h.len
  have HE : Hid (∀ w', Kept [] W w' → ∀ j, j < ls.length → ∃ g, A = some ⟨g, 0, none⟩ ∧ CellsG w' g ls) := Lib.hid (fun w' hk j hj => by
    obtain ⟨g, c', h1, _, _, _, h2⟩ := h.ent j hj
    rw [c0] at h1
    injection h1 with h1
    injection h1 with h1 h3 h4
    exact ⟨g, h1, h2.keep hk⟩)
  have hpl := h.ltp
  clear h
  go_enter Try.func12, Try.ntmps12
  go_wp2_with fail
  go_loopw [2, 12] (fun u v wr => ∃ j : Nat, j ≤ ls.length ∧ v = .int .i64 j ∧ Hid (OwnS W.heap.size 33 3 encB wr u ((ls.take j).map bk)) ∧ Hid (Kept [] W wr)) (fun _ v _ => (ls.length - intOf v).toNat)
  case atStart => exact ⟨0, Nat.zero_le _, rfl, Lib.hid (OwnS.nil _ _ _), Lib.hid (Kept.refl _ _)⟩
  case round =>
    rename_i u2 _ wr
    obtain ⟨j, hj, rfl, ho, hk⟩ := hrel
    by_cases hjl : j < ls.length
    · obtain ⟨g, rfl, hc⟩ := HE.out wr hk.out j hjl
      obtain ⟨x0, x1, x2, x3⟩ := hc.2 j hjl
      have hgl := hc.1
      have hsr := hk.out.size
      have HT := Lib.hid (map_take_snoc ls j hjl)
      have dj : decide (j < ls.length) = true := by simp; omega
      have hu9 := ho.out.slice
      generalize re ls j = r at *
      obtain ⟨ra, rn, rl, rh⟩ := r
      dsimp only at x0 x1 x2 x3 HT
      clear hc hu9
      have hlen : ((ls.take j).map bk).length ≤ 1000 := by simp; omega
      go_wp2_with (refine app_S encB_k 30 33 i0 _ 24 Try.underlying30 hi hz0 hz1 hz2 rfl (by omega) (by rfl) (.tmp 16) (.tmp 19) rfl W W.heap.size u2 ((ls.take j).map bk) [(ra, rn, rl)] (by rfl) (ho.out.keep (by (repeat' (first | (with_reducible exact Kept.refl _ _) | (with_reducible assumption) | (with_reducible refine Kept.then_ (by with_reducible assumption) ?_) | (with_reducible refine Kept.thenS (by with_reducible assumption) ?_) | (with_reducible refine Kept.alloc ?_ _) | (with_reducible refine Kept.drew ?_) | (with_reducible refine Kept.drewN ?_ _) | (with_reducible refine Kept.setNew ?_ ?_ _) | ((try simp only [World.size_alloc, World.size_setCell, World.size_drew, size_drewN] at *); (try dsimp only); omega))))) _ _ _ (by rfl) (by rfl) (fun h => by cases h) (rowB_one (Blk.new' _ _ _ (by simp))) (by have := hk.out; (repeat' (first | (with_reducible exact Kept.refl _ _) | (with_reducible assumption) | (with_reducible refine Kept.then_ (by with_reducible assumption) ?_) | (with_reducible refine Kept.thenS (by with_reducible assumption) ?_) | (with_reducible refine Kept.alloc ?_ _) | (with_reducible refine Kept.drew ?_) | (with_reducible refine Kept.drewN ?_ _) | (with_reducible refine Kept.setNew ?_ ?_ _) | ((try simp only [World.size_alloc, World.size_setCell, World.size_drew, size_drewN] at *); (try dsimp only); omega)))) (Nat.le_refl _) (by simp; omega) (by simp; omega) ?_)
      intro v' w' own' hk' hg' hs'
      have OW : Hid (OwnS W.heap.size 33 3 encB w' v' ((ls.take (j + 1)).map bk)) := Lib.hid (by have h9 := own'; rw [← List.map_take] at h9; rw [HT.out]; exact h9)
      have KW := Lib.hid hk'
      obtain ⟨A2, c2, rfl, _⟩ := own'.slice
      clear own' hk' hg' hs' hlen
      go_wp2_with fail
      go_roundw
      case rel => exact ⟨j + 1, by omega, by go_num, OW, KW⟩
      case measure => simp [intOf]; omega
    · obtain rfl : j = ls.length := by omega
      have ho' := ho.out
      rw [List.take_length] at ho'
      have OW := Lib.hid ho'
      obtain ⟨A2, c2, rfl, _⟩ := ho'.slice
      clear ho'
      go_wp2_with fail
      go_ret
      exact ⟨⟨_, rfl, OW.out⟩, hk.out⟩
def bytesL : List EntT → Int
  | [] => 0
  | e :: l => e.2.1 + bytesL l
theorem bytesL_app (l1 l2 : List EntT) : bytesL (l1 ++ l2) = bytesL l1 + bytesL l2 := by
  induction l1 with
  | nil => simp [bytesL]
  | cons r l ih => simp only [List.cons_append, bytesL, ih]; omega
theorem bytesL_take (ls : List EntT) (j : Nat) (h : j < ls.length) : bytesL (ls.take (j + 1)) = bytesL (ls.take j) + (re ls j).2.1 := by
  rw [List.take_succ_eq_append_getElem h, bytesL_app]
  have := re_some h
  rw [List.getElem?_eq_getElem h] at this
  injection this with this
  rw [this]
  simp [bytesL]
set_option maxRecDepth 100000 in
set_option maxHeartbeats 2000000 in
theorem bytes_any (S : List Nat) (W : World) (p : Nat) (ls : List EntT) (h : LgS S W p ls) (hi : LInv ls) (hl : ls.length ≤ 1000) (r : Int) (hr : bytesL ls = r) :
    Calls Try.prog 14 #[.pointer (some ⟨p, 0, none⟩)] W fun e w' => e = .returned (.int .u64 r) ∧ Kept [] W w' := by
  subst hr
  have DA := Lib.hid (all_any S W p ls h hl)
  have hpl := h.ltp
  have BD : Hid (∀ j, j < ls.length → 0 ≤ (re ls j).2.1 ∧ (re ls j).2.1 ≤ 1048576) := Lib.hid (fun j hj => by have := re_bd hi hj; omega)
  clear h hi
  go_enter Try.func14, Try.ntmps14
  go_wp2_with fail
  (with_reducible refine DA.out.mono ?_)
  rintro e w1 ⟨⟨v, rfl, ho⟩, hb1⟩
  obtain ⟨A, c, rfl, hL⟩ := listB_of ho
  have HL := Lib.hid hL
  have hlen : (ls.map bk).length = ls.length := by simp
  rw [hlen]
  have KB := Lib.hid hb1
  clear hL ho hb1 hlen
  go_wp2_with fail
  go_loopw [2, 8] (fun u v wr => ∃ (j : Nat) (s : Int), j ≤ ls.length ∧ u = .int .u64 s ∧ v = .int .i64 j ∧ Hid (s = bytesL (ls.take j)) ∧ 0 ≤ s ∧ s ≤ 1048576 * (j : Int) ∧ Hid (Kept [] w1 wr)) (fun _ v _ => (ls.length - intOf v).toNat)
  case atStart => exact ⟨0, 0, Nat.zero_le _, rfl, rfl, Lib.hid (by simp [bytesL]), by omega, by omega, Lib.hid (Kept.refl _ _)⟩
  case round =>
    obtain ⟨j, s, hj, rfl, rfl, hs, hs0, hs1, hk⟩ := hrel
    by_cases hjl : j < ls.length
    · obtain ⟨g, _, rfl, hc⟩ := (HL.out.keep hk.out) (by simp; omega)
      obtain ⟨x0, x1, x2⟩ := hc.2 j (by simpa using hjl)
      rw [rb_map hjl] at x0 x1 x2
      have hgl := hc.1
      have hsr := hk.out.size
      have HT := Lib.hid (bytesL_take ls j hjl)
      have bd := BD.out j hjl
      have dj : decide (j < ls.length) = true := by simp; omega
      generalize re ls j = r at *
      obtain ⟨ra, rn, rl, rh⟩ := r
      simp only [bk] at x0 x1 x2
      dsimp only at HT bd
      clear hc
      go_wp2_with fail
      go_roundw
      case rel => exact ⟨j + 1, s + rn, by omega, rfl, by go_num, Lib.hid (by rw [HT.out, ← hs.out]), by omega, by omega, Lib.hid (by have := hk.out; (repeat' (first | (with_reducible exact Kept.refl _ _) | (with_reducible assumption) | (with_reducible refine Kept.then_ (by with_reducible assumption) ?_) | (with_reducible refine Kept.thenS (by with_reducible assumption) ?_) | (with_reducible refine Kept.alloc ?_ _) | (with_reducible refine Kept.drew ?_) | (with_reducible refine Kept.drewN ?_ _) | (with_reducible refine Kept.setNew ?_ ?_ _) | ((try simp only [World.size_alloc, World.size_setCell, World.size_drew, size_drewN] at *); (try dsimp only); omega))))⟩
      case measure => simp [intOf]; omega
    · obtain rfl : j = ls.length := by omega
      have he := hs.out
      rw [List.take_length] at he
      subst he
      go_wp2_with fail
      go_ret
      exact ⟨rfl, hk.out.then_ KB.out⟩
end Go.Proofs.Ytdallcepachhoaa
