/- An entry that is held, let, dropped, added again: the calls of LedgerHolds. -/
import Derived.Test.YtdallcepachhoaaLgOne
import Derived.Test.YtdallcepachhoaaLgAlive
set_option linter.unusedVariables false
set_option linter.unusedSimpArgs false
namespace Go.Proofs.Ytdallcepachhoaa
open Go.RowKit
theorem turn_fst (h : Bool) (no : Int) (ls : List EntT) (j : Nat) : (turnStep h no ls j).1 = if (re ls j).2.2.2 = h then no else 0 := by
  unfold turnStep
  split <;> rfl
/-- The same blocks; entry j is held, or isn't. -/
def HeldS (W : World) (X : List Nat) (p : Nat) (ls : List EntT) (j : Nat) (h : Bool) (w : World) : Prop := ∃ ls', LgX W X w p ls' ∧ ls'.map bk = ls.map bk ∧ (re ls' j).2.2.2 = h
/-- Without block j. -/
def DropS (W : World) (X : List Nat) (p : Nat) (ls : List EntT) (j : Nat) (w : World) : Prop := ∃ ls', LgX W X w p ls' ∧ ls'.map bk = (ls.map bk).eraseIdx j
section
variable {W w0 w : World} {X : List Nat} {p j : Nat} {ls : List EntT} {h : Bool}
theorem HeldS.keep0 (hs : HeldS W X p ls j h w0) (hk : Kept [] w0 w) : HeldS W X p ls j h w := by
  obtain ⟨ls', h1, h2⟩ := hs
  exact ⟨ls', h1.keep0 hk, h2⟩
theorem HeldS.kept (hs : HeldS W X p ls j h w0) : Kept [] W w0 := by
  obtain ⟨ls', h1, h2⟩ := hs
  exact h1.kept
theorem HeldS.ltp (hs : HeldS W X p ls j h w0) : p < w0.heap.size := by
  obtain ⟨ls', h1, h2⟩ := hs
  exact h1.ltp
theorem DropS.keep0 (hs : DropS W X p ls j w0) (hk : Kept [] w0 w) : DropS W X p ls j w := by
  obtain ⟨ls', h1, h2⟩ := hs
  exact ⟨ls', h1.keep0 hk, h2⟩
theorem DropS.kept (hs : DropS W X p ls j w0) : Kept [] W w0 := by
  obtain ⟨ls', h1, h2⟩ := hs
  exact h1.kept
theorem DropS.ltp (hs : DropS W X p ls j w0) : p < w0.heap.size := by
  obtain ⟨ls', h1, h2⟩ := hs
  exact h1.ltp
theorem re_same {ls' : List EntT} (h : ls'.map bk = ls.map bk) (hj : j < ls.length) : (re ls' j).1 = (re ls j).1 ∧ (re ls' j).2.1 = (re ls j).2.1 ∧ (re ls' j).2.2.1 = (re ls j).2.2.1 := by
  have e := bk_re h j hj
  exact ⟨congrArg (fun b : BlkT => b.1) e, congrArg (fun b : BlkT => b.2.1) e, congrArg (fun b : BlkT => b.2.2) e⟩
theorem hs_let (hs : HeldS W X p ls j h w0) (hls : ls.length ≤ 1000) (hj : j < ls.length) (hk : Kept [] w0 w) (y1 : Nat) (hy1 : w0.heap.size ≤ y1) (hb : Blk w y1 29 #[.int .u64 (re ls j).1]) (er : Int) (hr : (if h = false then 8 else 0) = er) :
    Calls Try.prog 18 #[.pointer (some ⟨p, 0, none⟩), .slice (some ⟨y1, 0, none⟩) 1 1] w fun e w' => e = .returned (.int .i64 er) ∧ HeldS W X p ls j false w' ∧ KeptX X w w' := by
  obtain ⟨ls1, h1, h2, h3⟩ := hs
  have hl1 := len_bk h2
  have hj1 : j < ls1.length := by omega
  rw [← (re_same h2 hj).1] at hb
  refine (x_let h1 hk (by omega) (some ⟨y1, 0, none⟩) 1 1 [(re ls1 j).1] rfl (rowX_one hb) (fun _ x hx => .inr (by cases hx; exact hy1)) (by simp)).mono fun e w' ⟨he, hL, hkx⟩ => ?_
  rw [eachP_one (idx_self h1.inv hj1)] at he hL
  rw [turn_fst, h3, hr] at he
  obtain ⟨t1, t2, t3⟩ := turn_bk hj1 false 8
  exact ⟨he, ⟨_, hL, t1.trans h2, t2⟩, hkx⟩
theorem hs_hold (hs : HeldS W X p ls j h w0) (hls : ls.length ≤ 1000) (hj : j < ls.length) (hk : Kept [] w0 w) (y1 : Nat) (hy1 : w0.heap.size ≤ y1) (hb : Blk w y1 29 #[.int .u64 (re ls j).1]) (er : Int) (hr : (if h = true then 7 else 0) = er) :
    Calls Try.prog 23 #[.pointer (some ⟨p, 0, none⟩), .slice (some ⟨y1, 0, none⟩) 1 1] w fun e w' => e = .returned (.int .i64 er) ∧ HeldS W X p ls j true w' ∧ KeptX X w w' := by
  obtain ⟨ls1, h1, h2, h3⟩ := hs
  have hl1 := len_bk h2
  have hj1 : j < ls1.length := by omega
  rw [← (re_same h2 hj).1] at hb
  refine (x_hold h1 hk (by omega) (some ⟨y1, 0, none⟩) 1 1 [(re ls1 j).1] rfl (rowX_one hb) (fun _ x hx => .inr (by cases hx; exact hy1)) (by simp)).mono fun e w' ⟨he, hL, hkx⟩ => ?_
  rw [eachP_one (idx_self h1.inv hj1)] at he hL
  rw [turn_fst, h3, hr] at he
  obtain ⟨t1, t2, t3⟩ := turn_bk hj1 true 7
  exact ⟨he, ⟨_, hL, t1.trans h2, t2⟩, hkx⟩
theorem hs_drop (hs : HeldS W X p ls j h w0) (hls : ls.length ≤ 1000) (hj : j < ls.length) (hk : Kept [] w0 w) (y1 : Nat) (hy1 : w0.heap.size ≤ y1) (hb : Blk w y1 29 #[.int .u64 (re ls j).1]) :
    Calls Try.prog 17 #[.pointer (some ⟨p, 0, none⟩), .slice (some ⟨y1, 0, none⟩) 1 1] w fun e w' => e = .returned (.int .i64 0) ∧ DropS W X p ls j w' ∧ KeptX X w w' := by
  obtain ⟨ls1, h1, h2, h3⟩ := hs
  have hl1 := len_bk h2
  have hj1 : j < ls1.length := by omega
  rw [← (re_same h2 hj).1] at hb
  refine (x_drop h1 hk (by omega) (some ⟨y1, 0, none⟩) 1 1 [(re ls1 j).1] rfl (rowX_one hb) (fun _ x hx => .inr (by cases hx; exact hy1)) (by simp)).mono fun e w' ⟨he, hL, hkx⟩ => ?_
  rw [eachP_one (idx_self h1.inv hj1)] at he hL
  exact ⟨he, ⟨_, hL, by rw [← h2]; show (ls1.eraseIdx j).map bk = _; simp [List.eraseIdx_eq_take_drop_succ, List.map_take, List.map_drop]⟩, hkx⟩
def oneH (h : Bool) (b : BlkT) : BlkT × Int := if h = true then ((0, 0, 0), 7) else (b, 0)
theorem hs_one {ls1 : List EntT} (h2 : ls1.map bk = ls.map bk) (h3 : (re ls1 j).2.2.2 = h) (hj : j < ls.length) : oneP ls1 j = oneH h (bk (re ls j)) := by
  unfold oneP oneH
  rw [h3, bk_re h2 j hj]
theorem hs_at (hs : HeldS W X p ls j h w) (hls : ls.length ≤ 1000) (hj : j < ls.length) (b : BlkT) (er : Int) (hr : oneH h (bk (re ls j)) = (b, er)) :
    Calls Try.prog 20 #[.pointer (some ⟨p, 0, none⟩), .int .u64 (re ls j).1] w fun e w' => e = .returned (.tuple #[.agg #[.int .u64 b.1, .int .u64 b.2.1, .int .u64 b.2.2], .int .i64 er]) ∧ Kept [] w w' := by
  obtain ⟨ls1, h1, h2, h3⟩ := hs
  have hl1 := len_bk h2
  refine x_at h1 (by omega) _ b er ?_
  unfold atP
  rw [← (re_same h2 hj).1, idx_self h1.inv (by omega)]
  show oneP ls1 j = _
  rw [hs_one h2 h3 hj, hr]
theorem hs_in (hs : HeldS W X p ls j h w) (hls : ls.length ≤ 1000) (hj : j < ls.length) (b : BlkT) (er : Int) (hr : oneH h (bk (re ls j)) = (b, er)) :
    Calls Try.prog 19 #[.pointer (some ⟨p, 0, none⟩), .int .u64 (re ls j).1] w fun e w' => e = .returned (.tuple #[.agg #[.int .u64 b.1, .int .u64 b.2.1, .int .u64 b.2.2], .int .i64 er]) ∧ Kept [] w w' := by
  obtain ⟨ls1, h1, h2, h3⟩ := hs
  have hl1 := len_bk h2
  have hj1 : j < ls1.length := by omega
  have hb := re_bd h1.inv hj1
  refine x_in h1 (by omega) _ b er (.inl ⟨j, ⟨hj1, ?_, ?_⟩, ?_⟩)
  · rw [(re_same h2 hj).1]; exact Int.le_refl _
  · rw [← (re_same h2 hj).1]; omega
  · rw [hs_one h2 h3 hj, hr]
theorem hs_free (hs : HeldS W X p ls j h w) (hls : ls.length ≤ 1000) (hj : j < ls.length) (hi : LInv ls) :
    Calls Try.prog 13 #[.pointer (some ⟨p, 0, none⟩), .int .u64 (re ls j).1, .int .u64 1] w fun e w' => e = .returned (.bool false) ∧ Kept [] w w' := by
  obtain ⟨ls1, h1, h2, h3⟩ := hs
  have hl1 := len_bk h2
  have hj1 : j < ls1.length := by omega
  have hb := re_bd h1.inv hj1
  have e1 := re_same h2 hj
  have hb0 := re_bd hi hj
  refine x_free h1 (by omega) _ _ (by omega) (by omega) false (decide_eq_false ?_)
  rintro (h | ⟨_, h⟩)
  · omega
  · exact h _ (re_mem hj1) ⟨by omega, by omega⟩
theorem hs_add (hs : HeldS W X p ls j h w) (hls : ls.length ≤ 1000) (hj : j < ls.length) (hi : LInv ls) :
    Calls Try.prog 15 #[.pointer (some ⟨p, 0, none⟩), .agg #[.int .u64 (re ls j).1, .int .u64 (re ls j).2.1, .int .u64 (re ls j).2.2.1]] w fun e w' => e = .returned (.int .i64 6) ∧ HeldS W X p ls j h w' ∧ KeptX X w w' := by
  obtain ⟨ls1, h1, h2, h3⟩ := hs
  have hl1 := len_bk h2
  have hj1 : j < ls1.length := by omega
  have hb := re_bd h1.inv hj1
  have e1 := re_same h2 hj
  have hb0 := re_bd hi hj
  have hm := (hi.1 _ (re_mem hj)).2.2
  have hl : 0 ≤ (re ls j).2.2.1 ∧ (re ls j).2.2.1 ≤ 1024 := by
    obtain ⟨_, _, _, ⟨i, _, m4⟩, m5, _⟩ := hm
    have := Int.pow_pos (n := 2) (m := i) (by omega)
    omega
  refine (x_add h1 (by omega) _ _ _ (by omega) (by omega) (by omega)).mono fun e w' ⟨er, ls', he, hR, hL, hk⟩ => ?_
  rcases hR with ⟨h4, _⟩ | ⟨_, _, rfl, rfl⟩ | ⟨_, h4, _⟩
  · exact absurd hm h4
  · exact ⟨he, ⟨_, hL, h2, h3⟩, hk⟩
  · exfalso
    rcases h4 with h | ⟨_, h⟩
    · omega
    · exact h _ (re_mem hj1) ⟨by omega, by omega⟩
theorem hs_all (hs : HeldS W X p ls j h w) (hls : ls.length ≤ 1000) :
    Calls Try.prog 12 #[.pointer (some ⟨p, 0, none⟩)] w fun e w' => (∃ A c, e = .returned (.slice A ls.length c) ∧ ListB (fun g => w.heap.size ≤ g) w' A (ls.map bk)) ∧ Kept [] w w' := by
  obtain ⟨ls1, h1, h2, h3⟩ := hs
  have hl1 := len_bk h2
  exact (x_all h1 (by omega)).mono fun e w' ⟨⟨A, c, he, hB⟩, hk⟩ => ⟨⟨A, c, by rw [he, hl1], by rw [← h2]; exact hB⟩, hk⟩
theorem drop_apart {ls1 : List EntT} (hi : LInv ls) (hj : j < ls.length) (h2 : ls1.map bk = (ls.map bk).eraseIdx j) : ∀ e, e ∈ ls1 → ¬ (e.1 < (re ls j).1 + mx (re ls j).2.1 ∧ (re ls j).1 < e.1 + mx e.2.1) := by
  intro e he ⟨h3, h4⟩
  have hm : bk e ∈ (ls.map bk).eraseIdx j := by rw [← h2]; exact List.mem_map.2 ⟨e, he, rfl⟩
  rw [List.mem_eraseIdx_iff_getElem] at hm
  obtain ⟨i, hil, hne, hei⟩ := hm
  have hi' : i < ls.length := by simpa using hil
  have e1 := re_some hi'
  rw [List.getElem?_eq_getElem hi'] at e1
  injection e1 with e1
  rw [List.getElem_map, e1] at hei
  have f1 : (re ls i).1 = e.1 := congrArg (fun b : BlkT => b.1) hei
  have f2 : (re ls i).2.1 = e.2.1 := congrArg (fun b : BlkT => b.2.1) hei
  rcases Nat.lt_trichotomy i j with h | h | h
  · have := re_ap hi h hj; rw [f1, f2] at this; omega
  · exact hne h
  · have := re_ap hi h hi'; rw [f1] at this; omega
theorem drop_idx {ls1 : List EntT} (hi : LInv ls) (hi1 : LInv ls1) (hj : j < ls.length) (h2 : ls1.map bk = (ls.map bk).eraseIdx j) : idxL ls1 (re ls j).1 = none := by
  unfold idxL
  rw [List.findIdx?_eq_none_iff]
  intro e he
  simp only [decide_eq_false_iff_not]
  intro h1
  have hb := re_bd hi hj
  have h3 := mx_pos (hi1.1 e he).2.1
  exact drop_apart hi hj h2 e he ⟨by omega, by omega⟩
theorem drop_len {ls1 : List EntT} (hj : j < ls.length) (h2 : ls1.map bk = (ls.map bk).eraseIdx j) : ls1.length + 1 = ls.length := by
  have := congrArg List.length h2
  rw [List.length_map, List.length_eraseIdx_of_lt (by simpa using hj), List.length_map] at this
  omega
theorem ds_drop (hs : DropS W X p ls j w0) (hls : ls.length ≤ 1000) (hj : j < ls.length) (hi : LInv ls) (hk : Kept [] w0 w) (y1 : Nat) (hy1 : w0.heap.size ≤ y1) (hb : Blk w y1 29 #[.int .u64 (re ls j).1]) :
    Calls Try.prog 17 #[.pointer (some ⟨p, 0, none⟩), .slice (some ⟨y1, 0, none⟩) 1 1] w fun e w' => e = .returned (.int .i64 5) ∧ DropS W X p ls j w' ∧ KeptX X w w' := by
  obtain ⟨ls1, h1, h2⟩ := hs
  have hl := drop_len hj h2
  refine (x_drop h1 hk (by omega) (some ⟨y1, 0, none⟩) 1 1 [(re ls j).1] rfl (rowX_one hb) (fun _ x hx => .inr (by cases hx; exact hy1)) (by simp)).mono fun e w' ⟨he, hL, hkx⟩ => ?_
  rw [eachP_no (drop_idx hi h1.inv hj h2)] at he hL
  exact ⟨he, ⟨_, hL, h2⟩, hkx⟩
theorem ds_at (hs : DropS W X p ls j w) (hls : ls.length ≤ 1000) (hj : j < ls.length) (hi : LInv ls) :
    Calls Try.prog 20 #[.pointer (some ⟨p, 0, none⟩), .int .u64 (re ls j).1] w fun e w' => e = .returned (.tuple #[.agg #[.int .u64 0, .int .u64 0, .int .u64 0], .int .i64 5]) ∧ Kept [] w w' := by
  obtain ⟨ls1, h1, h2⟩ := hs
  have hl := drop_len hj h2
  refine x_at h1 (by omega) _ (0, 0, 0) 5 ?_
  unfold atP
  rw [drop_idx hi h1.inv hj h2]
theorem drop_free {ls1 : List EntT} (hi : LInv ls) (hj : j < ls.length) (h2 : ls1.map bk = (ls.map bk).eraseIdx j) : FreeL ls1 (re ls j).1 (mx (re ls j).2.1) := by
  have hb := re_bd hi hj
  exact .inr ⟨by omega, drop_apart hi hj h2⟩
theorem ds_free (hs : DropS W X p ls j w) (hls : ls.length ≤ 1000) (hj : j < ls.length) (hi : LInv ls) :
    Calls Try.prog 13 #[.pointer (some ⟨p, 0, none⟩), .int .u64 (re ls j).1, .int .u64 (mx (re ls j).2.1)] w fun e w' => e = .returned (.bool true) ∧ Kept [] w w' := by
  obtain ⟨ls1, h1, h2⟩ := hs
  have hl := drop_len hj h2
  have hb := re_bd hi hj
  exact x_free h1 (by omega) _ _ (by omega) (by omega) true (decide_eq_true (drop_free hi hj h2))
theorem at_one {ls1 : List EntT} {t : Int} {q k : Nat} (h1 : AtG ls1 t q) (h2 : AtG ls1 t k) : q = k := by
  obtain ⟨a1, a2, a3⟩ := h1
  obtain ⟨b1, b2, b3⟩ := h2
  rcases Nat.lt_trichotomy q k with h | h | h
  · have := b2 q h; have := a3 q (Nat.le_refl _) (by omega); omega
  · exact h
  · have := a2 k h; have := b3 k (Nat.le_refl _) (by omega); omega
theorem drop_at {ls1 : List EntT} (hi : LInv ls) (hj : j < ls.length) (h2 : ls1.map bk = (ls.map bk).eraseIdx j) : AtG ls1 (re ls j).1 j := by
  have hl := drop_len hj h2
  have key : ∀ i, i < ls1.length → (re ls1 i).1 = (re ls (if i < j then i else i + 1)).1 := fun i hil => by
    have e1 := re_some hil
    have e2 : (ls1.map bk)[i]? = some (bk (re ls1 i)) := by rw [List.getElem?_map, e1]; rfl
    rw [h2, List.getElem?_eraseIdx] at e2
    split at e2
    · rename_i hij
      rw [if_pos hij]
      rw [List.getElem?_map, re_some (by omega)] at e2
      injection e2 with e2
      exact (congrArg (fun b : BlkT => b.1) e2).symm
    · rename_i hij
      rw [if_neg hij]
      rw [List.getElem?_map, re_some (by omega)] at e2
      injection e2 with e2
      exact (congrArg (fun b : BlkT => b.1) e2).symm
  refine ⟨by omega, fun i hij => ?_, fun i hji hil => ?_⟩
  · rw [key i (by omega), if_pos hij]
    have := re_ap hi hij hj
    have := re_bd hi (show i < ls.length by omega)
    omega
  · rw [key i hil, if_neg (by omega)]
    have := re_ap hi (show j < i + 1 by omega) (by omega)
    have := re_bd hi hj
    omega
theorem drop_ins {ls1 : List EntT} (hj : j < ls.length) (h2 : ls1.map bk = (ls.map bk).eraseIdx j) (x : EntT) (hx : bk x = bk (re ls j)) : (ins ls1 j x).map bk = ls.map bk := by
  unfold ins
  rw [List.map_append, List.map_cons, List.map_take, List.map_drop, h2, hx]
  have hm : (ls.map bk)[j]? = some (bk (re ls j)) := by rw [List.getElem?_map, re_some hj]; rfl
  have hl : j < (ls.map bk).length := by simpa using hj
  generalize ls.map bk = m at *
  rw [List.getElem?_eq_getElem hl] at hm
  injection hm with hm
  rw [← hm, List.eraseIdx_eq_take_drop_succ]
  have e1 : (m.take j ++ m.drop (j + 1)).take j = m.take j := by rw [List.take_append_of_le_length (by simp; omega), List.take_take, Nat.min_self]
  have e2 : (m.take j ++ m.drop (j + 1)).drop j = m.drop (j + 1) := by
    have hlt : (m.take j).length = j := by simp; omega
    rw [List.drop_append_of_le_length (by omega), List.drop_of_length_le (by omega), List.nil_append]
  rw [e1, e2, List.getElem_cons_drop, List.take_append_drop]
theorem ds_add (hs : DropS W X p ls j w) (hls : ls.length ≤ 1000) (hj : j < ls.length) (hi : LInv ls) :
    Calls Try.prog 15 #[.pointer (some ⟨p, 0, none⟩), .agg #[.int .u64 (re ls j).1, .int .u64 (re ls j).2.1, .int .u64 (re ls j).2.2.1]] w fun e w' => e = .returned (.int .i64 0) ∧ HeldS W X p ls j false w' ∧ KeptX X w w' := by
  obtain ⟨ls1, h1, h2⟩ := hs
  have hl := drop_len hj h2
  have hb0 := re_bd hi hj
  have hm := (hi.1 _ (re_mem hj)).2.2
  have hlw : 0 ≤ (re ls j).2.2.1 ∧ (re ls j).2.2.1 ≤ 1024 := by
    obtain ⟨_, _, _, ⟨i, _, m4⟩, m5, _⟩ := hm
    have := Int.pow_pos (n := 2) (m := i) (by omega)
    omega
  refine (x_add h1 (by omega) _ _ _ (by omega) (by omega) (by omega)).mono fun e w' ⟨er, ls', he, hR, hL, hk⟩ => ?_
  rcases hR with ⟨h4, _⟩ | ⟨_, h4, _⟩ | ⟨_, _, rfl, q, hq, rfl⟩
  · exact absurd hm h4
  · exact absurd (drop_free hi hj h2) h4
  · obtain rfl := at_one hq (drop_at hi hj h2)
    refine ⟨he, ⟨_, hL, drop_ins hj h2 _ rfl, ?_⟩, hk⟩
    have hq1 := hq.1
    unfold re ins
    rw [List.getElem?_append_right (by simp; omega), List.length_take, Nat.min_eq_left hq1]
    simp
end
end Go.Proofs.Ytdallcepachhoaa
