/- Hold, Let. -/
import Derived.Test.YtdallcepachhoaaLgDrop
import Derived.StillTailTactics
set_option linter.unusedVariables false
set_option linter.unusedSimpArgs false
namespace Go.Proofs.Ytdallcepachhoaa
open Go.RowKit
theorem re_set {ls : List EntT} {k : Nat} (hk : k < ls.length) (x : EntT) (i : Nat) : re (ls.set k x) i = if k = i then x else re ls i := by
  unfold re
  rw [List.getElem?_set]
  by_cases e : k = i
  · rw [if_pos e, if_pos e, if_pos hk]; rfl
  · rw [if_neg e, if_neg e]
/-- An entry's mark is turned. -/
theorem OwnS.turned {B g N c : Nat} {w : World} {ls : List EntT} (h : OwnS B 60 4 encE w (.slice (some ⟨g, 0, none⟩) N c) ls) (k : Nat) (hk : k < ls.length) (b : Bool) :
    OwnS B 60 4 encE (w.setCell ⟨g, k * 4 + 3, none⟩ (.bool b)) (.slice (some ⟨g, 0, none⟩) N c) (ls.set k (heldAs (re ls k) b)) := by
  obtain ⟨hN, hnc, hcm, hBg, cur, hb, hs, ht⟩ := h.blkG
  have hlen : (ls.set k (heldAs (re ls k) b)).length = ls.length := by simp
  refine ⟨encE_k.flat_len _, .inr ⟨g, c, cur.setIfInBounds (k * 4 + 3) (.bool b), by rw [hlen, hN], hBg, hb.set_ _ _, by rw [hlen]; omega, hcm, by simpa using hs, ?_⟩⟩
  rw [hlen]
  apply List.ext_getElem?
  intro q
  by_cases hq : q < ls.length * 4
  · rw [List.getElem?_take_of_lt hq, Array.getElem?_toList, Array.getElem?_setIfInBounds]
    have h1 := encE_k.flat_get (ls.set k (heldAs (re ls k) b)) (q / 4) (q % 4) (by omega)
    have h2 := encE_k.flat_get ls (q / 4) (q % 4) (by omega)
    rw [show q / 4 * 4 + q % 4 = q by omega] at h1 h2
    have h3 : cur[q]? = (ls.flatMap encE)[q]? := by rw [← ht, List.getElem?_take_of_lt hq, Array.getElem?_toList]
    have hq4 : q / 4 < ls.length := by omega
    have e1 := re_some (ls := ls.set k (heldAs (re ls k) b)) (j := q / 4) (by rw [hlen]; exact hq4)
    have e2 := re_some hq4
    rw [e1, re_set hk] at h1
    rw [e2] at h2
    rw [h1, h3, h2]
    by_cases e : k = q / 4
    · subst e
      rw [if_pos rfl]
      simp only [Option.bind_some, encE, heldAs]
      have hm : q % 4 = 0 ∨ q % 4 = 1 ∨ q % 4 = 2 ∨ q % 4 = 3 := by omega
      rcases hm with hm | hm | hm | hm <;> rw [hm]
      · rw [if_neg (by omega)]; rfl
      · rw [if_neg (by omega)]; rfl
      · rw [if_neg (by omega)]; rfl
      · rw [if_pos (by omega), if_pos (by omega)]; rfl
    · rw [if_neg e, if_neg (by omega)]
  · rw [List.getElem?_eq_none (by rw [List.length_take]; omega), List.getElem?_eq_none (by rw [encE_k.flat_len, hlen]; omega)]
theorem LeftL.turn {S : List Nat} {W w : World} {p : Nat} {ls : List EntT} (h : LeftL S W p ls w) (k : Nat) (hk : k < ls.length) :
    ∃ g c, w.cell? ⟨p, 0, none⟩ = some (.slice (some ⟨g, 0, none⟩) ls.length c) ∧ g < w.heap.size ∧ w.cell? ⟨g, k * 4 + 3, none⟩ = some (.bool (re ls k).2.2.2) ∧ w.frozen? ⟨g, k * 4 + 3, none⟩ = false ∧
      ∀ b, LeftL S W p (ls.set k (heldAs (re ls k) b)) (w.setCell ⟨g, k * 4 + 3, none⟩ (.bool b)) := by
  obtain ⟨S', h1, h2, h3⟩ := h
  obtain ⟨v, rfl, hb, ho⟩ := h1
  have ho2 := ho.2
  rcases ho2 with ⟨rfl, h0⟩ | ⟨g, c, cur, rfl, hbg, hg, hnc, _⟩
  · omega
  · have hc := ho.cellsG
    have hgb : Blk w g 60 cur := hg
    refine ⟨g, c, hb.cell 0, hc.1, (hc.2 k hk).2.2.2, hgb.frozen _, fun b => ?_⟩
    have hkk : Kept [g] w (w.setCell ⟨g, k * 4 + 3, none⟩ (.bool b)) := (Kept.refl [g] w).setIn (by simp) _
    have hgS : g ∈ p :: own (.slice (some ⟨g, 0, none⟩) ls.length c) := by simp [own, Value.ownBlock]
    refine ⟨_, ⟨_, rfl, hb.keep hkk (by simp; omega), ?_⟩, h2, h3.grow h2 (hkk.mono (fun x hx _ => by simp at hx; rw [hx]; exact hgS))⟩
    exact ho.turned k hk b
set_option maxRecDepth 100000 in
set_option maxHeartbeats 4000000 in
theorem turn1_any (S : List Nat) (W : World) (p b0 b1 b2 : Nat) (hb : Bool) (no : Int) (hB : Blk W b0 27 #[.pointer (some ⟨p, 0, none⟩)]) (hb0 : b0 ∉ S) (hB1 : Blk W b1 4 #[.bool hb]) (hb1 : b1 ∉ S) (hB2 : Blk W b2 37 #[.int .i64 no]) (hb2 : b2 ∉ S)
    (w : World) (ls : List EntT) (k : Nat) (h : LeftL S W p ls w) (hk : k < ls.length) (hl : ls.length ≤ 1000) :
    Calls Try.prog 47 #[.int .i64 (k : Int), .pointer (some ⟨b0, 0, none⟩), .pointer (some ⟨b1, 0, none⟩), .pointer (some ⟨b2, 0, none⟩)] w (EachR S W p (turnStep hb no ls k)) := by
  have hW : Kept S W w := by
    obtain ⟨_, _, _, hW⟩ := h
    exact hW
  have HX : Hid (∀ w', Kept [] w w' → (w'.cell? ⟨b0, 0, none⟩ = some (.pointer (some ⟨p, 0, none⟩)) ∧ w'.cell? ⟨b1, 0, none⟩ = some (.bool hb) ∧ w'.cell? ⟨b2, 0, none⟩ = some (.int .i64 no)) ∧ b0 < w'.heap.size ∧ b1 < w'.heap.size ∧ b2 < w'.heap.size) := Lib.hid (fun w' hk' =>
    ⟨⟨((hB.keep hW hb0).keep0 hk').cell 0, ((hB1.keep hW hb1).keep0 hk').cell 0, ((hB2.keep hW hb2).keep0 hk').cell 0⟩, ((hB.keep hW hb0).keep0 hk').lt, ((hB1.keep hW hb1).keep0 hk').lt, ((hB2.keep hW hb2).keep0 hk').lt⟩)
  have HT : Hid (∀ w', Kept [] w w' → ∃ g c, w'.cell? ⟨p, 0, none⟩ = some (.slice (some ⟨g, 0, none⟩) ls.length c) ∧ g < w'.heap.size ∧ w'.cell? ⟨g, k * 4 + 3, none⟩ = some (.bool (re ls k).2.2.2) ∧ w'.frozen? ⟨g, k * 4 + 3, none⟩ = false ∧
      ∀ b, LeftL S W p (ls.set k (heldAs (re ls k) b)) (w'.setCell ⟨g, k * 4 + 3, none⟩ (.bool b))) := Lib.hid (fun w' hk' => (h.keep0 hk').turn k hk)
  have HL : Hid (∀ w', Kept [] w w' → LeftL S W p ls w') := Lib.hid (fun w' hk' => h.keep0 hk')
  have hpl := h.ltp
  have q1 : (0 : Int) ≤ (k : Int) := by omega
  have q2 : (k : Int) < (ls.length : Int) := by omega
  obtain ⟨⟨x0, x1, x2⟩, y0, y1, y2⟩ := HX.out w (Kept.refl _ _)
  obtain ⟨g, c, c0, hgl, g3, gf, hset⟩ := HT.out w (Kept.refl _ _)
  have HSET := Lib.hid hset
  clear h hB hB1 hB2 hW hset
  unfold turnStep
  obtain ⟨r3, hr3⟩ : ∃ r3, (re ls k).2.2.2 = r3 := ⟨_, rfl⟩
  rw [hr3] at g3 ⊢
  have HT3 : Hid (∀ w', Kept [] w w' → ∃ g c, w'.cell? ⟨p, 0, none⟩ = some (.slice (some ⟨g, 0, none⟩) ls.length c) ∧ g < w'.heap.size ∧ w'.cell? ⟨g, k * 4 + 3, none⟩ = some (.bool r3) ∧ w'.frozen? ⟨g, k * 4 + 3, none⟩ = false ∧
      ∀ b, LeftL S W p (ls.set k (heldAs (re ls k) b)) (w'.setCell ⟨g, k * 4 + 3, none⟩ (.bool b))) := Lib.hid (by rw [← hr3]; exact HT.out)
  clear hr3 HT
  by_cases he : r3 = hb
  · subst he
    rw [if_pos rfl]
    clear HSET
    go_enter Try.func47, Try.ntmps47
    go_wp2_with fail
    refine wp_region_kept (by kernel_rfl) (by kernel_rfl) ?_
    intro TT FF hne hFF hcl
    have z0 := fun x => (HX.out _ (hFF x)).1.1
    have z1 := fun x => (HX.out _ (hFF x)).1.2.1
    have z2 := fun x => (HX.out _ (hFF x)).2
    have z3 : ∀ x, (FF x).cell? ⟨p, 0, none⟩ = some (.slice (some ⟨g, 0, none⟩) ls.length c) := fun x => (World.cell?_of_block ((hFF x).block p hpl (by simp))).trans c0
    have z4 : ∀ x, (FF x).cell? ⟨g, k * 4 + 3, none⟩ = some (.bool r3) := fun x => (World.cell?_of_block ((hFF x).block g hgl (by simp))).trans g3
    repeat (first | go_big_quiet_step (fail) | quiet_step (fail))
    refine wpQuiet_nil ?_
    rintro w5 ⟨x, hx⟩
    have hk5 := hFF x
    rw [← hx] at hk5
    clear hx x hne hFF hcl z0 z1 z2 z3 z4
    obtain ⟨⟨_, _, v2⟩, _, _, v3⟩ := HX.out w5 hk5
    have HL5 := Lib.hid (HL.out w5 hk5)
    clear hk5
    go_wp2_with fail
    go_ret
    exact ⟨rfl, HL5.out⟩
  · rw [if_neg he]
    have heb : (r3 == hb) = false := by rw [beq_eq_false_iff_ne]; exact he
    go_enter Try.func47, Try.ntmps47
    go_wp2_with fail
    refine wp_region_kept (by kernel_rfl) (by kernel_rfl) ?_
    intro TT FF hne hFF hcl
    have z0 := fun x => (HX.out _ (hFF x)).1.1
    have z1 := fun x => (HX.out _ (hFF x)).1.2.1
    have z2 := fun x => (HX.out _ (hFF x)).2
    have z3 : ∀ x, (FF x).cell? ⟨p, 0, none⟩ = some (.slice (some ⟨g, 0, none⟩) ls.length c) := fun x => (World.cell?_of_block ((hFF x).block p hpl (by simp))).trans c0
    have z4 : ∀ x, (FF x).cell? ⟨g, k * 4 + 3, none⟩ = some (.bool r3) := fun x => (World.cell?_of_block ((hFF x).block g hgl (by simp))).trans g3
    repeat (first | go_big_quiet_step (fail) | quiet_step (fail))
    refine wpQuiet_nil ?_
    rintro w5 ⟨x, hx⟩
    have hk5 := hFF x
    rw [← hx] at hk5
    clear hx x hne hFF hcl z0 z1 z2 z3 z4
    obtain ⟨⟨v0, v1, _⟩, u0, u1, _⟩ := HX.out w5 hk5
    obtain ⟨g5, c5, d0, hgl5, d3, df, hset5⟩ := HT3.out w5 hk5
    have HS5 := Lib.hid (hset5 hb)
    have hp5 : p < w5.heap.size := by have := hk5.size; omega
    have b0d : w5.drew.cell? ⟨b0, 0, none⟩ = some (.pointer (some ⟨p, 0, none⟩)) := v0
    clear hk5 hset5
    go_wp2_with fail
    go_still_tail 8, (by kernel_rfl)
    go_wp2_with fail
    go_ret
    exact ⟨rfl, by first | exact HS5.out | exact HS5.out.keep0 ((Kept.refl [] _).drew)⟩
set_option maxHeartbeats 1000000 in
theorem turn_any (S : List Nat) (W : World) (p : Nat) (ls : List EntT) (h : LgS S W p ls) (hi : LInv ls) (hll : ls.length ≤ 1000) (hb : Bool) (no : Int) (A : Option Addr) (n c : Nat) (zs : List Int) (hn : n = zs.length) (hz : RowX .u64 W A zs) (hA : 0 < zs.length → ∀ x, A = some x → x.block ∉ S) (hzl : zs.length ≤ 9223372036854775807) :
    Calls Try.prog 31 #[.pointer (some ⟨p, 0, none⟩), .bool hb, .int .i64 no, .slice A n c] W (EachR S W p (eachP (turnStep hb no) ls zs)) := by
  subst hn
  obtain ⟨W1, hW1⟩ : ∃ W1, W1 = ((W.alloc (.cells #[.pointer (some ⟨p, 0, none⟩)] 27)).alloc (.cells #[.bool hb] 4)).alloc (.cells #[.int .i64 no] 37) := ⟨_, rfl⟩
  have hk : Kept [] W W1 := by rw [hW1]; exact (((Kept.refl [] W).alloc _).alloc _).alloc _
  have hbS : ∀ q, W.heap.size ≤ q → q ∉ S := fun q hq hx => by have := h.lt _ hx; omega
  have B0 : Blk W1 W.heap.size 27 #[.pointer (some ⟨p, 0, none⟩)] := by rw [hW1]; exact ((Blk.new W _ _).alloc _).alloc _
  have B1 : Blk W1 (W.heap.size + 1) 4 #[.bool hb] := by rw [hW1]; exact (Blk.new' _ _ _ (by simp)).alloc _
  have B2 : Blk W1 (W.heap.size + 2) 37 #[.int .i64 no] := by rw [hW1]; exact Blk.new' _ _ _ (by simp)
  have DE := Lib.hid (each_any S _ p ls (h.keep0 hk) hi hll 47 #[.pointer (some ⟨W.heap.size, 0, none⟩), .pointer (some ⟨W.heap.size + 1, 0, none⟩), .pointer (some ⟨W.heap.size + 2, 0, none⟩)] (turnStep hb no) (turnStep_ok hb no) eg_turn
    (fun w ls k h' hk' hl' => turn1_any S _ p W.heap.size (W.heap.size + 1) (W.heap.size + 2) hb no B0 (hbS _ (by omega)) B1 (hbS _ (by omega)) B2 (hbS _ (by omega)) w ls k h' hk' hl') A c zs (hz.keep hk) hA hzl)
  have HT : Hid (∀ e w', EachR S W1 p (eachP (turnStep hb no) ls zs) e w' → EachR S W p (eachP (turnStep hb no) ls zs) e w') := Lib.hid (fun e w' ⟨he, hL⟩ => ⟨he, LeftL.then_ (Grew.refl S W) (hk.mono (fun x hx _ => by cases hx)) hL⟩)
  rw [hW1] at DE
  have hpl := h.ltp
  clear h hi hz hA hk hbS B0 B1 B2
  generalize eachP (turnStep hb no) ls zs = r at *
  go_enter Try.func31, Try.ntmps31
  go_wp2_with fail
  (refine DE.out.mono ?_)
  rw [← hW1]
  intro e w1 hE
  have HE := Lib.hid (HT.out _ _ hE)
  obtain ⟨rfl, _⟩ := hE
  go_wp2_with fail
  go_ret
  exact HE.out
theorem hold_any (S : List Nat) (W : World) (p : Nat) (ls : List EntT) (h : LgS S W p ls) (hi : LInv ls) (hll : ls.length ≤ 1000) (A : Option Addr) (n c : Nat) (zs : List Int) (hn : n = zs.length) (hz : RowX .u64 W A zs) (hA : 0 < zs.length → ∀ x, A = some x → x.block ∉ S) (hzl : zs.length ≤ 9223372036854775807) :
    Calls Try.prog 23 #[.pointer (some ⟨p, 0, none⟩), .slice A n c] W (EachR S W p (eachP (turnStep true 7) ls zs)) := by
  subst hn
  have DT := Lib.hid (turn_any S W p ls h hi hll true 7 A zs.length c zs rfl hz hA hzl)
  have hpl := h.ltp
  clear h hi hz hA
  generalize eachP (turnStep true 7) ls zs = r at *
  go_enter Try.func23, Try.ntmps23
  go_wp2_with fail
  (with_reducible refine DT.out.mono ?_)
  intro e w1 hE
  have HE := Lib.hid hE
  obtain ⟨rfl, _⟩ := hE
  go_wp2_with fail
  go_ret
  exact HE.out
theorem let_any (S : List Nat) (W : World) (p : Nat) (ls : List EntT) (h : LgS S W p ls) (hi : LInv ls) (hll : ls.length ≤ 1000) (A : Option Addr) (n c : Nat) (zs : List Int) (hn : n = zs.length) (hz : RowX .u64 W A zs) (hA : 0 < zs.length → ∀ x, A = some x → x.block ∉ S) (hzl : zs.length ≤ 9223372036854775807) :
    Calls Try.prog 18 #[.pointer (some ⟨p, 0, none⟩), .slice A n c] W (EachR S W p (eachP (turnStep false 8) ls zs)) := by
  subst hn
  have DT := Lib.hid (turn_any S W p ls h hi hll false 8 A zs.length c zs rfl hz hA hzl)
  have hpl := h.ltp
  clear h hi hz hA
  generalize eachP (turnStep false 8) ls zs = r at *
  go_enter Try.func18, Try.ntmps18
  go_wp2_with fail
  (with_reducible refine DT.out.mono ?_)
  intro e w1 hE
  have HE := Lib.hid hE
  obtain ⟨rfl, _⟩ := hE
  go_wp2_with fail
  go_ret
  exact HE.out
end Go.Proofs.Ytdallcepachhoaa
