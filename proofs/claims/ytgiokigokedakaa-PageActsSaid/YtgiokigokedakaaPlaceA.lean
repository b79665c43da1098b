/- All of a list that lies within a block. PRINTED BY mkplace.py. -/
import Derived.Test.YtgiokigokedakaaPlace
import Derived.Test.YtgiokigokedakaaListP
import Derived.Sort.CutIn
import Derived.Sort.QuietIn
import Derived.Deep.AppendLies
set_option linter.unusedVariables false
set_option linter.unusedSimpArgs false
namespace Go.Proofs.Ytgiokigokedakaa
open Go.RowKit Go.Shelf
attribute [local go_sem] Oper.semAt_some
set_option maxRecDepth 100000 in
set_option maxHeartbeats 4000000 in
theorem all_at (w : World) (b o p g : Nat) (t : TypeId) (cs : Array Value) (zs : List Int) (hd N : Nat) (hM : MemB w p g zs) (hl : LAt w b o t cs hd N) (hd64 : (hd : Int) < 18446744073709551616) (hN : at_ zs hd N = some 0) (hNl : N ≤ zs.length) :
    Calls Try.prog 52 #[.pointer (some ⟨b, o, none⟩), .pointer (some ⟨p, 0, none⟩)] w fun e w' => (∃ A c, e = .returned (.tuple #[.slice A N c, .int .i64 0]) ∧ OwnI w.heap.size .u64 26 w' (.slice A N c) (addrs zs hd N) ∧ (A = none → c = 0)) ∧ Kept [] w w' := by
  have hzl := hM.2.2.1
  have HM := Lib.hid hM
  have HL := Lib.hid hl
  have HN := Lib.hid hN
  have hbl := (hl).blk.lt
  have c0 := (hl).cell0
  have c1 := (hl).cell1
  clear hM hl hN
  refine (callsIn_wide (n := 3)).1 ?_
  have hro : Fence.wide.round = none := rfl
  refine callsIn_of_wp_marks Try.func52 rfl trivial ?_ hro
  simp only [Try.ntmps52, List.size_toArray, List.length_cons, List.length_nil, Nat.reduceAdd, Nat.reduceSub, Array.replicate_succ, Array.replicate_zero, List.push_toArray, List.append_toArray, List.nil_append, List.cons_append]
  gi_wp2_with (fail)
  gi_cut [6, 7] from 15 (fun s6 s7 wx => s7 = .int .i64 0 ∧ ∃ B, s6 = .pointer (some ⟨B, 0, none⟩) ∧ w.heap.size < B ∧ Hid (Blk wx B 86 #[.int .u64 (hd : Int), .int .i64 (N : Int)]) ∧ Hid (Blk wx w.heap.size 31 #[.slice none 0 0]) ∧ Kept [] w wx)
  case first =>
    refine calm_region ?_
    gi_region_with ((try (refine ⟨trivial, ?_⟩)); gi_at_call 45; refine (callsIn_wide.2 (chain_is _ _ _ _ (HM.out.keep0 (by (repeat' (first | (with_reducible exact Kept.refl _ _) | (with_reducible assumption) | (with_reducible refine Kept.then_ (by with_reducible assumption) ?_) | (with_reducible refine Kept.thenS (by with_reducible assumption) ?_) | (with_reducible refine Kept.alloc ?_ _) | (with_reducible refine Kept.drew ?_) | (with_reducible refine Kept.drewN ?_ _) | (with_reducible refine Kept.setNew ?_ ?_ _) | ((try simp only [World.size_alloc, World.size_setCell, World.size_drew, size_drewN] at *); (try dsimp only); omega))))) hd N hd64 HN.out hNl)).mono ?_; rintro e w4 ⟨rfl, hb1⟩; (try (have hx : Blk w4 (w.heap.size + 1) 86 #[.int .u64 0, .int .i64 0] := (by first | exact Blk.keep0 (Blk.new' _ _ _ (by simp)) hb1 | exact Blk.keep0 (Blk.drew (Blk.new' _ _ _ (by simp))) hb1); have x0 := hx.cell 0; have x1 := hx.cell 1; have y0 := hx.frozen 0; have y1 := hx.frozen 1; have zz := hx.lt)))
    all_goals gi_wp2
    all_goals gi_meet
    all_goals (first
      | exact ⟨rfl, w4.heap.size, rfl, by have := hb1.size; simp [World.size_drew] at this; omega, Lib.hid (Blk.new _ _ _), Lib.hid (Blk.alloc (Blk.keep0 (Blk.drew (Blk.new w _ _)) hb1) _), (hb1.then_ ((Kept.refl [] w).alloc _).drew).alloc _⟩
      | exact ⟨rfl, w.heap.size + 1, rfl, by omega, Lib.hid ((Blk.set_ hx 0 _).set' rfl), Lib.hid (((Blk.keep0 (Blk.drew ((Blk.new w _ _).alloc _)) hb1).far (by simp) _).far (by simp) _), ((hb1.then_ ((((Kept.refl [] w).alloc _).alloc _).drew)).setNew (by simp) _).setNew (by simp) _⟩)
  case rest =>
    obtain ⟨rfl, B, rfl, hB, hbc, hbo, hkc⟩ := hcut
    have d0 := (HL.out.keep0 hkc).cell0
    have d1 := (HL.out.keep0 hkc).cell1
    have d2 := hbc.out.cell 0
    have d3 := hbc.out.cell 1
    have dl := hbc.out.lt
    have dl2 := hkc.size
    gi_wp2_with (fail)
    gi_quiet (fail)
    gi_wp2_with ((try (refine ⟨trivial, ?_⟩)); gi_at_call 65; refine (from_in _ _ _ _).mono ?_; rintro e w' ⟨rfl, rfl⟩)
    obtain ⟨V, hV⟩ : ∃ V : World, ((wc.drewN nq).alloc (.cells #[.pointer (some ⟨p, 0, none⟩)] 25)).alloc (.cells #[.int .u64 (hd : Int)] 26) = V := ⟨_, rfl⟩
    rw [hV]
    have hsz : V.heap.size = wc.heap.size + 1 + 1 := by rw [← hV]; simp [size_drewN]
    have bM : Blk V wc.heap.size 25 #[.pointer (some ⟨p, 0, none⟩)] := by rw [← hV]; exact (Blk.new' _ _ _ (by simp [size_drewN])).alloc _
    have bH : Blk V (wc.heap.size + 1) 26 #[.int .u64 (hd : Int)] := by rw [← hV]; exact Blk.new' _ _ _ (by simp [size_drewN])
    have kcV : Kept [] wc V := by rw [← hV]; exact ((((Kept.refl [] wc).drewN _).alloc _).alloc _)
    have kV : Kept [] w V := kcV.then_ hkc
    have bO : Blk V w.heap.size 31 #[.slice none 0 0] := hbo.out.keep0 kcV
    clear hV
    refine range_own hro (by omega) (gf := 68) (lb := #[.pointer (some ⟨wc.heap.size + 1, 0, none⟩), .pointer (some ⟨wc.heap.size, 0, none⟩)]) rfl trivial (enters_of Try.func68 (by kernel_rfl) rfl)
      (from1_own 2 (by omega) (wc.heap.size + 1) wc.heap.size p g hd zs hd64 V bH bM (HM.out.keep0 kV)) (fun r hr => by simp at hr; omega) (fun r hr => by have h1 := (HM.out.keep0 kV).1.lt; have h2 := (HM.out.keep0 kV).2.1.lt; simp at hr; omega) (fun _ => rfl) N
      (fun pre W => (∃ v, Blk W w.heap.size 31 #[v] ∧ OwnI V.heap.size .u64 26 W v (addrs zs hd pre.length)) ∧ Kept [] w W ∧ Hid (at_ zs hd pre.length ≠ none) ∧ pre.length ≤ N ∧ V.heap.size ≤ W.heap.size)
      (fun c pre W => False)
      (fun s A B row hs hg hr => ⟨by obtain ⟨v, h1, h2⟩ := hs.1; exact ⟨v, ownBlk h1 hg hr, h2.ofRow hg (fun r e => (hr r e).2)⟩, hs.2.1.grown hg (fun r e => .inl (by have := (hr r e).1; omega)), hs.2.2.1, hs.2.2.2.1, Nat.le_trans hs.2.2.2.2 hg.size⟩)
      (fun c s A B row hs hg hr => hs)
      (fun pre A B hs hk => ⟨by obtain ⟨v, h1, h2⟩ := hs.1; exact ⟨v, h1.keep hk (by simp; omega), h2.keepS hk (fun s hs => by simp at hs; omega)⟩, hk.thenG hs.2.1 (by omega), hs.2.2.1, hs.2.2.2.1, Nat.le_trans hs.2.2.2.2 hk.size⟩)
      (fun pre A hs => hs.2.2.2.1)
      ⟨⟨_, bO, OwnI.nil _ _ _ _⟩, kV, Lib.hid (by simp [at_]), Nat.zero_le _, Nat.le_refl _⟩
      (fun x => { tmps := #[.pointer (some ⟨b, o, none⟩), .pointer (some ⟨p, 0, none⟩), undef, undef, .pointer (some ⟨w.heap.size, 0, none⟩), .int .i64 0, .pointer (some ⟨B, 0, none⟩), .int .i64 0, .int .u64 (x.1 : Int),
          .pointer (some ⟨b, o, none⟩), .bool false, .bool false, .pointer (some ⟨p, 0, none⟩), .bool false, .bool false, u15, u16, u17, u18, u19, u20, u21, u22, u23, u24, u25, u26, u27, .int .i64 0, .bool false, .bool false,
          .agg #[.int .u64 (hd : Int), .int .i64 (N : Int)], .pointer (some ⟨b, o, none⟩), .pointer (some ⟨b, o, none⟩), .agg #[.int .u64 (hd : Int), .int .i64 (N : Int)], .bool false, .bool false,
          .pointer (some ⟨p, 0, none⟩), .pointer (some ⟨b, o, none⟩), .pointer (some ⟨b, o, none⟩), .pointer (some ⟨b, o, none⟩), .int .u64 (hd : Int),
          .func (.func 68) #[] #[.pointer (some ⟨wc.heap.size + 1, 0, none⟩), .pointer (some ⟨wc.heap.size, 0, none⟩)], .int .u64 (x.1 : Int), .bool x.2, u45, u46, u47, u48, u49], defers := [] }) ?assign ?body ?done ?stop
    case assign =>
      intro l x W K hK
      dsimp only [encL]
      gi_wp2
      exact hK
    case body =>
      rintro l pre ⟨c, ok⟩ W ⟨⟨v, b1, ho⟩, hk, hat, hpl, hVs⟩ ⟨hx1, hx2, hx3⟩
      dsimp only at hx1 hx2 hx3
      have c1 := b1.cell 0
      have f1 := b1.frozen 0
      have HX1 := Lib.hid hx1
      have HX2 := Lib.hid hx2
      have HO := Lib.hid ho
      clear hx1 hx2 ho
      have hlt : pre.length < N := at_late HX1.out HX2.out HN.out
      have HAT : Hid (at_ zs hd (pre.length + 1) ≠ none) := Lib.hid (fun h => by
        have := at_none h N (by omega)
        rw [HN.out] at this; cases this)
      have HAD := Lib.hid (addrs_succ zs hd pre.length c HX1.out)
      have HLN := Lib.hid (length_addrs zs hd pre.length)
      have HPG : Hid (p < w.heap.size ∧ g < w.heap.size) := Lib.hid ⟨HM.out.1.lt, HM.out.2.1.lt⟩
      have HOA := Lib.hid (HO.out.kept ((Kept.refl [] W).alloc (.cells #[.int .u64 (c : Int)] 26)))
      obtain ⟨i0, hi, hz0, hz1, hz2⟩ := info_parts info_u64
      gi_wp2_with (refine wpListIn_append_own _ rfl (.tmp 45) (.tmp 47) 31 rfl V.heap.size 26 i0 (.int .u64 0) 1 8 Try.underlying31 hi hz0 hz1 hz2 rfl (by decide) v _ _ rfl HOA.out ⟨W.heap.size, 0, none⟩ 1 1 [.int .u64 (c : Int)] rfl rfl ?_ ?_ ?_ ?_ ?_ ?_)
      · exact (World.news_of_block (cs := #[.int .u64 (c : Int)]) (t := 26) (fr := (0, 0)) (heap_alloc_new W _))
      · intro u hu; simp at hu; subst hu; rfl
      · rw [HLN.out]; unfold maxLen; omega
      · rw [HLN.out]; omega
      · simp; omega
      intro v' w' own' hg' _
      have own2 : OwnI V.heap.size .u64 26 w' v' (addrs zs hd (pre.length + 1)) := by
        rw [HAD.out]
        unfold OwnI
        rw [List.length_append, List.map_append, hsz]
        exact own'
      obtain ⟨A', c', rfl, _⟩ := own2.slice
      have B1 := Lib.hid (own_blk (b1.alloc _) HOA.out hg' (by omega))
      have c1' := B1.out.cell 0
      have f1' := B1.out.frozen 0
      have HOW := Lib.hid own2
      have HG := Lib.hid hg'
      clear own' hg' own2
      gi_wp2
      have hgs := HG.out.size
      have e1 : (pre ++ [(c, ok)]).length = pre.length + 1 := by simp
      refine ⟨((KeepsFrom.of_grownBy (World.grownBy_alloc W _ none) (by simp)).trans (own_keeps HOA.out HG.out)).trans ((KeepsOthers.setCell _ _ _).from _), ((Same.kept ((Kept.refl [] W).alloc _) (by simp)).trans (own_same HOA.out HG.out (fun r hr => by have := HPG.out; simp at hr; omega))).trans (Same.set _ _ _ (by have := HPG.out; simp; omega)), ?_⟩
      dsimp only
      rw [e1]
      refine ⟨⟨_, B1.out.set' rfl, HOW.out.keepS ((Kept.refl [w.heap.size] w').setIn (by simp) _) (fun s hs => by simp at hs; omega)⟩, ((hk.alloc _).grown HG.out (fun r hr => .inl (by have := World.ownsRow.lt HOA.out r hr; omega))).setNew (by simp) _, HAT, by omega, by simp at hgs ⊢; omega⟩
    case done =>
      rintro D xs W hD hS ⟨⟨v, b1, ho⟩, hk, hat, hpl, hVs⟩ hK
      have hend : at_ zs hd xs.length = some 0 := by
        rcases hS with hS | ⟨k, c, e1, e2, e3, e4⟩
        · exact hS
        · exact absurd (at_stop e2 (.inr e4) xs.length (by omega)) hat.out
      have hxN : xs.length = N := by
        rcases Nat.lt_or_ge xs.length N with h1 | h1
        · have := at_stop hend (.inl rfl) N h1
          rw [HN.out] at this; cases this
        · omega
      rw [hxN] at ho
      obtain ⟨A', c', hv, hc', _⟩ := ho.slice
      rw [length_addrs] at hv
      subst hv
      have HO := Lib.hid ho
      have c1 := b1.cell 0
      have f1 := b1.frozen 0
      have hl1 := b1.lt
      clear hS hend ho hxN
      have hsD : D < W.heap.size := (Array.getElem?_eq_some_iff.1 hK).1
      gi_wp2
      refine all_end _ D w.heap.size _ (.slice A' N c') 0 rfl rfl (b1.set' rfl) ((Below.heap_setCell _ _ _ D (by simp; omega)).trans hK) (by omega) ⟨⟨A', c', rfl, ?_, hc'⟩, ?_⟩
      · exact ((HO.out.keepS ((Kept.refl [w.heap.size] W).setIn (by simp) _) (fun s hs => by simp at hs; omega)).ofRow (grownBy_putObj' _ D _) (fun r hr => by
          cases hr
          exact ⟨_, (Below.heap_setCell _ _ _ D (by simp; omega)).trans hK, rfl⟩)).less (by omega)
      · refine Kept.grown (hk.setNew (by simp) _) (grownBy_putObj' _ D _) (fun k hk => ?_)
        cases hk
        left; omega
    case stop =>
      rintro D c pre W hD h hK
      exact h.elim
theorem all_chnAt (w : World) (b o p g : Nat) (t : TypeId) (cs : Array Value) (zs : List Int) (hd : Nat) (l : List Nat) (hM : MemB w p g zs) (hl : LAt w b o t cs hd (l.length : Int)) (hc : Chn zs hd l) (hn : l.length ≤ zs.length) :
    Calls Try.prog 52 #[.pointer (some ⟨b, o, none⟩), .pointer (some ⟨p, 0, none⟩)] w fun e w' => (∃ A c, e = .returned (.tuple #[.slice A l.length c, .int .i64 0]) ∧ OwnI w.heap.size .u64 26 w' (.slice A l.length c) (l.map (fun (x : Nat) => (x : Int))) ∧ (A = none → c = 0)) ∧ Kept [] w w' := by
  have := all_at w b o p g t cs zs hd l.length hM hl (by have := hc.head; have := hM.2.2.1; omega) hc.at_end hn
  rw [hc.addrs] at this
  exact this
end Go.Proofs.Ytgiokigokedakaa
