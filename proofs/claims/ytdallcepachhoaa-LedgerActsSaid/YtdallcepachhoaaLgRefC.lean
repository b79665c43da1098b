/- The document's ledger: Drop. -/
import Derived.Test.YtdallcepachhoaaLgRefM
import Derived.Test.YtdallcepachhoaaCutS
import Derived.Deep.RegionHeld3
import Derived.Deep.RegionLaw
import Derived.Deep.AppendLies
import Derived.Deep.DeepCutAuto
import Derived.StillTailTactics
import Derived.Deep.DrawnRows
import Derived.RegionTactic
set_option linter.unusedVariables false
set_option linter.unusedSimpArgs false
namespace Go.Proofs.Ytdallcepachhoaa
open Go.RowKit
theorem Kept.at_ {w w' : World} {a : Addr} {v : Value} (hk : Kept [] w w') (hl : a.block < w.heap.size) (h : w.cell? a = some v) : w'.cell? a = some v := (World.cell?_of_block (hk.block a.block hl (by simp))).trans h
/-- The document's ledger behind a call, seen from the world W ahead of it. -/
def LeftR (T : List Nat) (W : World) (m : Nat) (ls : List EntT) (w' : World) : Prop := ∃ T', RefS T' w' m ls ∧ Grew T T' W ∧ Kept T W w'
theorem LeftR.of {T : List Nat} {W w : World} {m : Nat} {ls : List EntT} (h : RefS T W m ls) (hk : Kept [] W w) : LeftR T W m ls w := ⟨T, h.keep0 hk, Grew.refl _ _, hk.mono (fun x hx _ => by cases hx)⟩
/-- Behind the first row. -/
def MidR (W : World) (m : Nat) (ls' : List EntT) (u : Value) (wx : World) : Prop := ∃ v', Blk wx m 53 #[v', u] ∧ OwnS W.heap.size 33 3 encB wx v' (ls'.map bk) ∧ Kept [m] W wx
theorem MidR.of {W w1 w : World} {m : Nat} {ls' : List EntT} {v v' u : Value} (hk : Kept [] W w) (hb : Blk w m 53 #[v, u]) (ho : OwnS w1.heap.size 33 3 encB w v' (ls'.map bk)) (hs : W.heap.size ≤ w1.heap.size) : MidR W m ls' u (w.setCell ⟨m, 0, none⟩ v') := by
  have hkk : Kept [m] w (w.setCell ⟨m, 0, none⟩ v') := (Kept.refl [m] w).setIn (by simp) _
  refine ⟨v', hb.set' rfl, (ho.less hs).keepS hkk (fun s hs => .inr (fun e => ?_)), (hk.mono (fun x hx _ => by cases hx)).trans hkk (fun x hx _ => hx)⟩
  simp at hs
  subst hs
  obtain ⟨_, cur, hc⟩ := ho.own_ty s (by unfold own; rw [← e]; simp)
  exact hb.ne_ hc (by decide) rfl
theorem LeftR.laid {T : List Nat} {W w6 w8 : World} {m : Nat} {ls' : List EntT} {v6 u u' : Value} (hb : Blk w8 m 53 #[v6, u]) (hk6 : Kept [m] W w6) (hk8 : Kept [] w6 w8) (ho : OwnS W.heap.size 33 3 encB w6 v6 (ls'.map bk)) (hu : OwnS w6.heap.size 4 1 encH w8 u' (ls'.map hd)) (hml : m < W.heap.size) :
    LeftR (m :: T) W m ls' (w8.setCell ⟨m, 1, none⟩ u') := by
  have hs6 := hk6.size
  have hkk : Kept [m] w8 (w8.setCell ⟨m, 1, none⟩ u') := (Kept.refl [m] w8).setIn (by simp) _
  have hov : ∀ s, s ∈ own v6 → W.heap.size ≤ s := fun s hs => (ho.own_ty s hs).1
  have hou : ∀ s, s ∈ own u' → w6.heap.size ≤ s := fun s hs => (hu.own_ty s hs).1
  refine ⟨m :: (own v6 ++ own u'), ⟨v6, u', rfl, hb.set' rfl, ((ho.keep hk8).keepS hkk (fun s hs => .inl (by simp at hs; omega))).less (by omega), (hu.keepS hkk (fun s hs => .inl (by simp at hs; omega))).less (by omega)⟩, fun q hq => ?_, ?_⟩
  · rcases List.mem_cons.1 hq with rfl | hq
    · simp
    · right
      rcases List.mem_append.1 hq with hq | hq
      · exact hov q hq
      · have := hou q hq; omega
  · exact ((hk6.trans hk8 (fun x hx _ => by cases hx)).trans hkk (fun x hx _ => hx)).mono (fun x hx _ => by simp at hx; simp [hx])
set_option maxRecDepth 100000 in
set_option maxHeartbeats 4000000 in
theorem rdrop_any (T : List Nat) (W : World) (m : Nat) (ls : List EntT) (h : RefS T W m ls) (hl : ls.length ≤ 1000) (z : Int) :
    Calls Try.prog 34 #[.pointer (some ⟨m, 0, none⟩), .int .u64 z] W fun e w' => e = .returned (.int .i64 (eachP dropStep ls [z]).1) ∧ LeftR T W m (eachP dropStep ls [z]).2 w' := by
  have DA := Lib.hid (fun w' (hk : Kept [] W w') => rat_any T w' m ls (h.keep0 hk) hl z _ rfl)
  have hml := h.ltp
  cases hi : idxL ls z with
  | none =>
    have e1 : atI ls z = -1 := by unfold atI; rw [hi]
    have e2 : eachP dropStep ls [z] = (5, ls) := by simp only [eachP, hi]
    rw [e1] at DA
    rw [e2]
    have HL := Lib.hid (fun w' (hk : Kept [] W w') => LeftR.of h hk)
    clear hi h
    go_enter Try.func34, Try.ntmps34
    go_wp2_with fail
    (with_reducible refine (DA.out _ (Kept.refl _ _)).mono ?_)
    rintro e w1 ⟨rfl, hb1⟩
    go_wp2_with fail
    go_ret
    exact ⟨rfl, HL.out _ hb1⟩
  | some k =>
    have hk : k < ls.length := by
      unfold idxL at hi
      rw [List.findIdx?_eq_some_iff_getElem] at hi
      exact hi.1
    have e1 : atI ls z = (k : Int) := by unfold atI; rw [hi]
    have e2 : eachP dropStep ls [z] = (0, ls.eraseIdx k) := by simp only [eachP, hi, dropStep]; rfl
    rw [e1] at DA
    rw [e2]
    clear hi
    obtain ⟨v, u, rfl, hb, hv, hu⟩ := h
    obtain ⟨A, c, rfl, _⟩ := hv.slice
    obtain ⟨A', c', rfl, _⟩ := hu.slice
    simp only [List.length_map] at hv hu hb ⊢
    have q3 : decide ((k : Int) < 0) = false := by simp
    obtain ⟨⟨hr1, hc1, rn1⟩, _⟩ := own_cuts encB_k 30 33 Try.underlying30 (fun w => by simp [go_sem]) hv k (by simp; omega)
    obtain ⟨_, A2, c2, hr2, hc2, rn2⟩ := own_cuts encB_k 30 33 Try.underlying30 (fun w => by simp [go_sem]) hv (k + 1) (by simp; omega)
    have HU := Lib.hid hu
    obtain ⟨i0, hi, hz0, hz1, hz2⟩ := info_parts info_blk
    obtain ⟨j0, hj, hy0, hy1, hy2⟩ := info_parts info_bool
    have HB := Lib.hid hb
    have HN1 : Hid (k = ((ls.map bk).take k).length) := Lib.hid (by simp; omega)
    have HN2 : Hid (ls.length - (k + 1) = ((ls.map bk).drop (k + 1)).length) := Lib.hid (by simp)
    have HR1 := Lib.hid hr1
    have HR2 := Lib.hid hr2
    have q4 : (0 : Int) ≤ (k : Int) := by omega
    have q5 : (k : Int) < (ls.length : Int) := by omega
    have kk : ((k + 1 : Nat) : Int) = (k : Int) + 1 := by omega
    rw [kk] at rn2
    have qw : IntKind.i64.wrap ((k : Int) + 1) = (k : Int) + 1 := by rw [IntKind.wrap_i64]; omega
    have q6 : (0 : Int) ≤ (k : Int) + 1 := by omega
    have q7 : (k : Int) + 1 ≤ (ls.length : Int) := by omega
    have KK := Lib.hid kk
    clear hr1 hr2 kk
    clear hu hv hb
    go_enter Try.func34, Try.ntmps34
    go_wp2_with fail
    (with_reducible refine (DA.out _ (Kept.refl _ _)).mono ?_)
    rintro e w1 ⟨rfl, hb1⟩
    have K1 := Lib.hid hb1
    have B1 := HB.out.keep0 hb1
    have y0 := B1.cell 0
    have y1 := B1.cell 1
    have yl := B1.lt
    have yf := B1.frozen 0
    have B1' := Lib.hid B1
    clear B1 hb1
    go_wp2_with fail
    go_cut [] (fun wx => Hid (MidR W m (ls.eraseIdx k) (.slice A' ls.length c') wx))
    case first =>
      go_region_law (first | (refine step_app_S encB_k 30 33 i0 _ 24 Try.underlying30 hi hz0 hz1 hz2 rfl (by omega) (by rfl) (.tmp 12) (.tmp 18) (by rfl) w1 w1.heap.size _ [] ((ls.map bk).take k) (by rfl) (OwnS.drew (OwnS.made _ (by simp) (by simp))) _ _ _ HN1.out (by rfl) hc1 (HR1.out.keep (by have := K1.out; (repeat' (first | (with_reducible exact Kept.refl _ _) | (with_reducible assumption) | (with_reducible refine Kept.then_ (by with_reducible assumption) ?_) | (with_reducible refine Kept.thenS (by with_reducible assumption) ?_) | (with_reducible refine Kept.alloc ?_ _) | (with_reducible refine Kept.drew ?_) | (with_reducible refine Kept.drewN ?_ _) | (with_reducible refine Kept.setNew ?_ ?_ _) | ((try simp only [World.size_alloc, World.size_setCell, World.size_drew, size_drewN] at *); (try dsimp only); omega))))) (by (repeat' (first | (with_reducible exact Kept.refl _ _) | (with_reducible assumption) | (with_reducible refine Kept.then_ (by with_reducible assumption) ?_) | (with_reducible refine Kept.thenS (by with_reducible assumption) ?_) | (with_reducible refine Kept.alloc ?_ _) | (with_reducible refine Kept.drew ?_) | (with_reducible refine Kept.drewN ?_ _) | (with_reducible refine Kept.setNew ?_ ?_ _) | ((try simp only [World.size_alloc, World.size_setCell, World.size_drew, size_drewN] at *); (try dsimp only); omega)))) (Nat.le_refl _) (by simp only [World.size_alloc, World.size_drew]; omega) (by have := HN1.out; simp only [List.length_nil]; omega) ?_; intro A5 n5 c5 w5 hn5 own5 hk5 hkg5 hs5; have z0 := (B1'.out.keep0 hk5).cell 0; have z1 := (B1'.out.keep0 hk5).cell 1; have zl := (B1'.out.keep0 hk5).lt; have zf := (B1'.out.keep0 hk5).frozen 0) | (refine step_app_S encB_k 30 33 i0 _ 24 Try.underlying30 hi hz0 hz1 hz2 rfl (by omega) (by rfl) (.tmp 19) (.tmp 26) (by rfl) w1 w1.heap.size _ ([] ++ (ls.map bk).take k) ((ls.map bk).drop (k + 1)) (by rfl) own5 _ _ _ HN2.out (by rfl) hc2 (HR2.out.keep (by have := K1.out; (repeat' (first | (with_reducible exact Kept.refl _ _) | (with_reducible assumption) | (with_reducible refine Kept.then_ (by with_reducible assumption) ?_) | (with_reducible refine Kept.thenS (by with_reducible assumption) ?_) | (with_reducible refine Kept.alloc ?_ _) | (with_reducible refine Kept.drew ?_) | (with_reducible refine Kept.drewN ?_ _) | (with_reducible refine Kept.setNew ?_ ?_ _) | ((try simp only [World.size_alloc, World.size_setCell, World.size_drew, size_drewN] at *); (try dsimp only); omega))))) (by (repeat' (first | (with_reducible exact Kept.refl _ _) | (with_reducible assumption) | (with_reducible refine Kept.then_ (by with_reducible assumption) ?_) | (with_reducible refine Kept.thenS (by with_reducible assumption) ?_) | (with_reducible refine Kept.alloc ?_ _) | (with_reducible refine Kept.drew ?_) | (with_reducible refine Kept.drewN ?_ _) | (with_reducible refine Kept.setNew ?_ ?_ _) | ((try simp only [World.size_alloc, World.size_setCell, World.size_drew, size_drewN] at *); (try dsimp only); omega)))) (Nat.le_refl _) (by have := hk5.size; omega) (by have := HN1.out; have := HN2.out; simp only [List.nil_append]; omega) ?_; intro A6 n6 c6 w6 hn6 own6 hk6 hkg6 hs6; have t0 := (B1'.out.keep0 hk6).cell 0; have t1 := (B1'.out.keep0 hk6).cell 1; have tl := (B1'.out.keep0 hk6).lt; have tf := (B1'.out.keep0 hk6).frozen 0))
      all_goals
        have OW := Lib.hid own6
        have BW := Lib.hid (B1'.out.keep0 hk6)
        have KW := Lib.hid (hk6.then_ K1.out)
        clear own5 hk5 hkg5 own6 hk6 hkg6
        go_wp2_with fail
        go_meet
        exact Lib.hid (MidR.of KW.out BW.out (by have := OW.out; rw [List.nil_append, ← List.map_take, ← List.map_drop, ← List.map_append, ← List.eraseIdx_eq_take_drop_succ] at this; exact this) K1.out.size)
    case rest =>
      obtain ⟨v6, hb6, ho6, hk6⟩ := hcut.out
      have hu6 := HU.out.keepS hk6 (fun s hs => .inl (by simp at hs; omega))
      obtain ⟨⟨hr3, hc3, rn3⟩, _⟩ := own_cuts encH_k 51 4 Try.underlying51 (fun w => by simp [go_sem]) hu6 k (by simp; omega)
      obtain ⟨_, A4, c4, hr4, hc4, rn4⟩ := own_cuts encH_k 51 4 Try.underlying51 (fun w => by simp [go_sem]) hu6 (k + 1) (by simp; omega)
      rw [KK.out] at rn4
      have HN3 : Hid (k = ((ls.map hd).take k).length) := Lib.hid (by simp; omega)
      have HN4 : Hid (ls.length - (k + 1) = ((ls.map hd).drop (k + 1)).length) := Lib.hid (by simp)
      have HR3 := Lib.hid hr3
      have HR4 := Lib.hid hr4
      have B6 := Lib.hid hb6
      have O6 := Lib.hid ho6
      have K6 := Lib.hid hk6
      have p0 := hb6.cell 0
      have p1 := hb6.cell 1
      have pl := hb6.lt
      have pf := hb6.frozen 1
      clear hcut hb6 ho6 hk6 hu6 hr3 hr4
      go_wp2_with fail
      go_region_law (first | (refine step_app_S encH_k 51 4 j0 _ 1 Try.underlying51 hj hy0 hy1 hy2 rfl (by omega) (by rfl) (.tmp 31) (.tmp 37) (by rfl) wc wc.heap.size _ [] ((ls.map hd).take k) (by rfl) (OwnS.drew (OwnS.made _ (by simp) (by simp))) _ _ _ HN3.out (by rfl) hc3 (HR3.out.keep (by (repeat' (first | (with_reducible exact Kept.refl _ _) | (with_reducible assumption) | (with_reducible refine Kept.then_ (by with_reducible assumption) ?_) | (with_reducible refine Kept.thenS (by with_reducible assumption) ?_) | (with_reducible refine Kept.alloc ?_ _) | (with_reducible refine Kept.drew ?_) | (with_reducible refine Kept.drewN ?_ _) | (with_reducible refine Kept.setNew ?_ ?_ _) | ((try simp only [World.size_alloc, World.size_setCell, World.size_drew, size_drewN] at *); (try dsimp only); omega))))) (by (repeat' (first | (with_reducible exact Kept.refl _ _) | (with_reducible assumption) | (with_reducible refine Kept.then_ (by with_reducible assumption) ?_) | (with_reducible refine Kept.thenS (by with_reducible assumption) ?_) | (with_reducible refine Kept.alloc ?_ _) | (with_reducible refine Kept.drew ?_) | (with_reducible refine Kept.drewN ?_ _) | (with_reducible refine Kept.setNew ?_ ?_ _) | ((try simp only [World.size_alloc, World.size_setCell, World.size_drew, size_drewN] at *); (try dsimp only); omega)))) (Nat.le_refl _) (by simp only [World.size_alloc, World.size_drew]; omega) (by have := HN3.out; simp only [List.length_nil]; omega) ?_; intro A7 n7 c7 w7 hn7 own7 hk7 hkg7 hs7; have z0 := (B6.out.keep0 hk7).cell 0; have z1 := (B6.out.keep0 hk7).cell 1; have zl := (B6.out.keep0 hk7).lt; have zf := (B6.out.keep0 hk7).frozen 1) | (refine step_app_S encH_k 51 4 j0 _ 1 Try.underlying51 hj hy0 hy1 hy2 rfl (by omega) (by rfl) (.tmp 38) (.tmp 45) (by rfl) wc wc.heap.size _ ([] ++ (ls.map hd).take k) ((ls.map hd).drop (k + 1)) (by rfl) own7 _ _ _ HN4.out (by rfl) hc4 (HR4.out.keep (by (repeat' (first | (with_reducible exact Kept.refl _ _) | (with_reducible assumption) | (with_reducible refine Kept.then_ (by with_reducible assumption) ?_) | (with_reducible refine Kept.thenS (by with_reducible assumption) ?_) | (with_reducible refine Kept.alloc ?_ _) | (with_reducible refine Kept.drew ?_) | (with_reducible refine Kept.drewN ?_ _) | (with_reducible refine Kept.setNew ?_ ?_ _) | ((try simp only [World.size_alloc, World.size_setCell, World.size_drew, size_drewN] at *); (try dsimp only); omega))))) (by (repeat' (first | (with_reducible exact Kept.refl _ _) | (with_reducible assumption) | (with_reducible refine Kept.then_ (by with_reducible assumption) ?_) | (with_reducible refine Kept.thenS (by with_reducible assumption) ?_) | (with_reducible refine Kept.alloc ?_ _) | (with_reducible refine Kept.drew ?_) | (with_reducible refine Kept.drewN ?_ _) | (with_reducible refine Kept.setNew ?_ ?_ _) | ((try simp only [World.size_alloc, World.size_setCell, World.size_drew, size_drewN] at *); (try dsimp only); omega)))) (Nat.le_refl _) (by have := hk7.size; omega) (by have := HN3.out; have := HN4.out; simp only [List.nil_append]; omega) ?_; intro A8 n8 c8 w8 hn8 own8 hk8 hkg8 hs8; have t0 := (B6.out.keep0 hk8).cell 0; have t1 := (B6.out.keep0 hk8).cell 1; have tl := (B6.out.keep0 hk8).lt; have tf := (B6.out.keep0 hk8).frozen 1))
      all_goals
        have OW := Lib.hid own8
        have BW := Lib.hid (B6.out.keep0 hk8)
        have KW := Lib.hid hk8
        clear own7 hk7 hkg7 own8 hk8 hkg8
        go_wp2_with fail
        go_ret
        exact ⟨rfl, LeftR.laid (T := _) BW.out K6.out KW.out O6.out (by have := OW.out; rw [List.nil_append, ← List.map_take, ← List.map_drop, ← List.map_append, ← List.eraseIdx_eq_take_drop_succ] at this; exact this) hml⟩
end Go.Proofs.Ytdallcepachhoaa
