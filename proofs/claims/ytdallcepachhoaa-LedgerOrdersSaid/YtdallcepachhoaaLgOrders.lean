/- Blocks that are apart, added in whatever order, are the same, rising; dropped, none is left. No condition. -/
import Derived.Test.YtdallcepachhoaaLgOrdW
import Derived.Deep.RegionHeld3
import Derived.StillTailTactics
import Derived.Deep.DrawnRows
import Derived.RegionTactic
set_option linter.unusedVariables false
set_option linter.unusedSimpArgs false
namespace Go.Proofs.Ytdallcepachhoaa
open Go.RowKit
namespace LedgerOrders
open Go.RowKit Go.ChangeShapes Go.WideShapes Go.ChangeAt Go.Joins
theorem mx_cases {n : Int} (h : 0 ≤ n) : n = 0 ∧ mx n = 1 ∨ n = 1 ∧ mx n = 1 ∨ 2 ≤ n ∧ mx n = n := by
  unfold mx
  split <;> omega
set_option maxRecDepth 100000 in
set_option maxHeartbeats 4000000 in
theorem walk (a0 : Option Addr) (len0 cap0 : Nat) (z0 : List Int) (x1 : Int) (W : World) (w0 : IsRow .u8 W a0 len0 cap0 z0) (wx : (Lit.int .u8 x1).wf = true) :
    Calls Try.prog 5 #[.slice a0 len0 cap0, .int .u8 x1] W fun e W' => e = .returned (.bool true) ∧ Below W.heap.size W W' := by
  have bx := bounds_u8 wx
  obtain ⟨ys, hl, hr, _, hwf, hlc, hcm⟩ := w0.seen
  unfold maxLen at hcm
  have hu : ∀ z, z ∈ ys → 0 ≤ z ∧ z ≤ 255 := fun z hz => bounds_u8 (hwf z hz)
  subst hl
  have HU := Lib.hid hu
  have HR := Lib.hid hr
  have C1 := Lib.hid (alive_any W)
  obtain ⟨i0, hi, hz0, hz1, hz2⟩ := info_parts info_blk
  clear w0 hr hwf hu wx
  by_cases hq : ys.length ≤ 60
  case neg =>
    have q0 : decide (60 < (ys.length : Int)) = true := by simp; omega
    go_enter Try.func5, Try.ntmps5
    go_wp2_with fail
    (with_reducible refine (C1.out).mono ?_)
    rintro e w1 ⟨rfl, hb1⟩
    have hs1 := hb1.size
    (try simp only [World.size_alloc, World.size_setCell, World.size_drew, size_drewN] at hs1)
    go_wp2_with fail
    go_ret
    exact ⟨rfl, hb1.below⟩
  have q0 : (ys.length : Int) ≤ 60 := by omega
  go_enter Try.func5, Try.ntmps5
  go_wp2_with fail
  (with_reducible refine (C1.out).mono ?_)
  rintro e w1 ⟨rfl, hb1⟩
  have hs1 := hb1.size
  (try simp only [World.size_alloc, World.size_setCell, World.size_drew, size_drewN] at hs1)
  have K1 := Lib.hid hb1
  clear hb1
  obtain ⟨wL, hwL⟩ : ∃ wL, (w1.alloc (.cells #[.slice none 0 0] 43)).alloc (.cells #[.slice none 0 0] 43) = wL := ⟨_, rfl⟩
  have HwL := Lib.hid hwL
  have hLs : wL.heap.size = w1.heap.size + 2 := by rw [← hwL]; simp
  have hWL : Kept [] W wL := by rw [← hwL]; exact (K1.out.alloc _).alloc _
  have KL := Lib.hid hWL
  have hWs := hWL.size
  clear hWL
  go_wp2_with fail
  (try rw [hwL])
  clear hwL
  go_loopw [7, 8, 26] (fun u t v wr => ∃ i : Nat, i ≤ ys.length ∧ v = .int .i64 i ∧ t = .int .u64 (layEnd 16 (ys.take i)) ∧ Hid (OwnS (w1.heap.size + 2) 33 3 encB wr u (lay 16 (ys.take i))) ∧ Hid (Kept [] wL wr)) (fun _ _ v _ => (ys.length - intOf v).toNat)
  case atStart => exact ⟨0, Nat.zero_le _, rfl, rfl, Lib.hid (OwnS.nil _ _ _), Lib.hid (Kept.refl _ _)⟩
  case round =>
    obtain ⟨i, hin, rfl, rfl, ho, hk⟩ := hrel
    by_cases hil : i < ys.length
    · obtain ⟨x, rfl, hxl, hcs⟩ := HR.out (by omega)
      have c0 : wr.cell? (x.add i) = some (.int .u8 (ys[i]?.getD 0)) := (World.cell?_of_block (by rw [add_block]; exact (hk.out.then_ KL.out).block x.block hxl (by simp))).trans (hcs i hil)
      have ht : ys.take (i + 1) = ys.take i ++ [ys[i]?.getD 0] := by
        rw [List.take_add_one, List.getElem?_eq_getElem hil]; try rfl
      have hz := HU.out (ys[i]?.getD 0) (by rw [List.getElem?_eq_getElem hil]; exact List.getElem_mem hil)
      have hb := layEnd_bd 16 (ys.take i) (fun n hn => HU.out n (List.mem_of_mem_take hn))
      have hbl : (ys.take i).length ≤ 60 := by simp; omega
      have hE : layEnd 16 (ys.take (i + 1)) = layEnd 16 (ys.take i) + (mx (ys[i]?.getD 0) + 15) / 16 * 16 := by rw [ht]; exact layEnd_snoc _ _ _
      have hL : lay 16 (ys.take (i + 1)) = lay 16 (ys.take i) ++ [(layEnd 16 (ys.take i), ys[i]?.getD 0, 16)] := by rw [ht]; exact lay_snoc _ _ _
      have HE := Lib.hid hE
      have HL := Lib.hid hL
      have hlen : (lay 16 (ys.take i)).length ≤ 60 := by rw [lay_len]; exact hbl
      have hsr := hk.out.size
      have di : decide (i < ys.length) = true := by simp; omega
      clear hE hL ht hcs
      generalize ys[i]?.getD 0 = z at *
      generalize layEnd 16 (ys.take i) = t at *
      generalize lay 16 (ys.take i) = xs at *
      have hT := mx_cases hz.1
      generalize mx z = m at *
      obtain ⟨_, c9, rfl, _⟩ := ho.out.slice
      go_wp2_with (refine app_S encB_k 30 33 i0 _ 24 Try.underlying30 hi hz0 hz1 hz2 rfl (by omega) (by rfl) (.tmp 34) (.tmp 36) rfl wL (w1.heap.size + 2) _ xs [(t, z, 16)] (by rfl) (ho.out.keep (by (repeat' (first | (with_reducible exact Kept.refl _ _) | (with_reducible assumption) | (with_reducible refine Kept.then_ (by with_reducible assumption) ?_) | (with_reducible refine Kept.thenS (by with_reducible assumption) ?_) | (with_reducible refine Kept.alloc ?_ _) | (with_reducible refine Kept.drew ?_) | (with_reducible refine Kept.drewN ?_ _) | (with_reducible refine Kept.setNew ?_ ?_ _) | ((try simp only [World.size_alloc, World.size_setCell, World.size_drew, size_drewN] at *); (try dsimp only); omega))))) _ _ _ (by rfl) (by rfl) (fun h => by cases h) (rowB_one (Blk.new' _ _ _ (by simp))) (by have := hk.out; (repeat' (first | (with_reducible exact Kept.refl _ _) | (with_reducible assumption) | (with_reducible refine Kept.then_ (by with_reducible assumption) ?_) | (with_reducible refine Kept.thenS (by with_reducible assumption) ?_) | (with_reducible refine Kept.alloc ?_ _) | (with_reducible refine Kept.drew ?_) | (with_reducible refine Kept.drewN ?_ _) | (with_reducible refine Kept.setNew ?_ ?_ _) | ((try simp only [World.size_alloc, World.size_setCell, World.size_drew, size_drewN] at *); (try dsimp only); omega)))) (by omega) (by simp; omega) (by simp; omega) ?_)
      intro v' w' own' hk' hg' hs'
      have OW : Hid (OwnS (w1.heap.size + 2) 33 3 encB w' v' (lay 16 (ys.take (i + 1)))) := Lib.hid (by rw [HL.out]; exact own')
      have KW := Lib.hid hk'
      have B11 : Blk w' wr.heap.size 33 #[.int .u64 t, .int .u64 z, .int .u64 16] := (hg'.block _ (by simp; omega) (fun e => by
        obtain ⟨_, cur, hc⟩ := ho.out.own_ty wr.heap.size (by unfold own; rw [← e]; simp)
        have := hc.lt
        omega)).trans ((Blk.new _ _ _).alloc _)
      have c11 := B11.cell
      have l11 := B11.lt
      obtain ⟨A2, c2, rfl, _⟩ := own'.slice
      clear own' hk' hg' hs' hlen
      rcases hT with ⟨rfl, rfl⟩ | ⟨rfl, rfl⟩ | ⟨hz2, rfl⟩
      · go_wp2_with fail
        go_roundw
        case rel => exact ⟨i + 1, by omega, by go_num, (by rw [HE.out]; try (first | rfl | go_num)), OW, KW⟩
        case measure => simp [intOf]; omega
      · go_wp2_with fail
        go_roundw
        case rel => exact ⟨i + 1, by omega, by go_num, (by rw [HE.out]; try (first | rfl | go_num)), OW, KW⟩
        case measure => simp [intOf]; omega
      · go_wp2_with fail
        go_roundw
        case rel => exact ⟨i + 1, by omega, by go_num, (by rw [HE.out]; try (first | rfl | go_num)), OW, KW⟩
        case measure => simp [intOf]; omega
    · obtain rfl : i = ys.length := by omega
      have ho' := ho.out
      rw [List.take_length] at ho'
      have hxl := lay_len 16 ys
      have hX := lay_laid ys HU.out hq
      generalize layEnd 16 (ys.take ys.length) = t at *
      clear ho
      generalize lay 16 ys = xs at *
      obtain ⟨wA, hwA⟩ : ∃ wA, wA = wr := ⟨_, rfl⟩
      subst hwA
      obtain ⟨A, c, rfl, hA0, hnc, hrow, hlist, hx0, hXb⟩ := own_list ho'
      clear ho'
      generalize own (.slice A xs.length c) = X at *
      have T2 := Lib.hid (two_new W w1 wA X K1.out (by rw [HwL.out]; exact hk.out) (fun x hx => by have := hXb x hx; omega))
      have HX := Lib.hid hX
      have HLI := Lib.hid hlist
      have HRW := Lib.hid hrow
      have HXB := Lib.hid hXb
      have KR := Lib.hid hk.out
      have hsr := hk.out.size
      have hn60 : xs.length ≤ 60 := by omega
      have HXL := Lib.hid hxl
      clear hxl
      clear hX hlist hrow hXb hk
      have n0 := Int.emod_nonneg x1 (b := (xs.length : Int) + 1) (by omega)
      have n1 := Int.emod_lt_of_pos x1 (b := (xs.length : Int) + 1) (by omega)
      obtain ⟨k, hk⟩ : ∃ k : Nat, x1 % ((xs.length : Int) + 1) = (k : Int) := ⟨(x1 % ((xs.length : Int) + 1)).toNat, by omega⟩
      have hkn : k ≤ xs.length := by omega
      clear n0 n1
      go_wp2_with fail
      rw [hk]
      go_loopw [55] (fun v wr => ∃ (i : Nat) (ls : List EntT), i ≤ xs.length ∧ v = .int .i64 i ∧ Hid (Two W X wr w1.heap.size ls (w1.heap.size + 1) []) ∧ Hid (ls.map bk = xs.take (i - (xs.length - 0)) ++ (xs.drop 0).take i) ∧ Hid (KeptX X wA wr)) (fun v _ => (xs.length - intOf v).toNat)
      case atStart => exact ⟨0, [], Nat.zero_le _, rfl, T2, Lib.hid (by simp), Lib.hid ⟨Nat.le_refl _, fun _ _ => rfl⟩⟩
      case round =>
        obtain ⟨i, ls, hin, rfl, hT, hm, hKX⟩ := hrel
        have hp := hT.out.ltp
        by_cases hil : i < xs.length
        · obtain ⟨g, hg, rfl, hc⟩ := (HLI.out.keepX hKX.out) (by omega)
          obtain ⟨c0, c1, c2⟩ := hc.2 i hil
          have hgl := hc.1
          obtain ⟨hf, hbm, j, hj, hins⟩ := HX.out.step (Nat.zero_le _) hil hm.out (b := rb xs i) (by simp)
          obtain ⟨b1, b2, b3, b4, b5⟩ := HX.out.may _ hbm
          have hll : ls.length ≤ 1000 := by
            have := congrArg List.length hm.out
            simp at this
            omega
          have hbe : (rb xs i).1 ≤ 1048576 := b5.2.1
          have DA := Lib.hid (fun w (hk : Kept [] wr w) => two_add (hT.out.keep0 hk) hll (rb xs i).1 (rb xs i).2.1 (rb xs i).2.2 ⟨b1, by omega⟩ ⟨b2, by omega⟩ ⟨by omega, by omega⟩ b5 hf j hj)
          have HI := Lib.hid hins
          have di : decide (i < xs.length) = true := by simp; omega
          clear hc hf hbm hj hins b5
          generalize rb xs i = b at *
          obtain ⟨ba, bn, bl⟩ := b
          dsimp only at c0 c1 c2 DA b1 b2 b3 b4 hbe HI
          subst b4
          go_wp2_with fail
          (with_reducible refine (DA.out _ (by (repeat' (first | (with_reducible exact Kept.refl _ _) | (with_reducible assumption) | (with_reducible refine Kept.then_ (by with_reducible assumption) ?_) | (with_reducible refine Kept.thenS (by with_reducible assumption) ?_) | (with_reducible refine Kept.alloc ?_ _) | (with_reducible refine Kept.drew ?_) | (with_reducible refine Kept.drewN ?_ _) | (with_reducible refine Kept.setNew ?_ ?_ _) | ((try simp only [World.size_alloc, World.size_setCell, World.size_drew, size_drewN] at *); (try dsimp only); omega))))).mono ?_)
          rintro e w5 ⟨rfl, hT5, hK5⟩
          have T5 := Lib.hid hT5
          have KX5 := Lib.hid (hKX.out.trans ((hT.out.kx (by (repeat' (first | (with_reducible exact Kept.refl _ _) | (with_reducible assumption) | (with_reducible refine Kept.then_ (by with_reducible assumption) ?_) | (with_reducible refine Kept.thenS (by with_reducible assumption) ?_) | (with_reducible refine Kept.alloc ?_ _) | (with_reducible refine Kept.drew ?_) | (with_reducible refine Kept.drewN ?_ _) | (with_reducible refine Kept.setNew ?_ ?_ _) | ((try simp only [World.size_alloc, World.size_setCell, World.size_drew, size_drewN] at *); (try dsimp only); omega))))).trans hK5))
          clear hT5 hK5
          go_wp2_with fail
          go_roundw
          case rel => first | exact ⟨i + 1, _, by omega, by go_num, T5, HI, KX5⟩ | ((repeat apply Exists.intro); exact ⟨⟨i + 1, _, by omega, by go_num, T5, HI, KX5⟩, rfl⟩)
          case measure => simp [intOf]; omega
        · obtain rfl : i = xs.length := by omega
          have HM1 : Hid (ls.map bk = xs) := Lib.hid (by have := hm.out; simpa using this)
          have KB : Hid (KeptX X wA wr) := hKX
          obtain ⟨wB, hwB⟩ : ∃ wB, wB = wr := ⟨_, rfl⟩
          subst hwB
          have LB := Lib.hid (HLI.out.keepX hKX.out)
          have hsB := hKX.out.1
          have T3 := Lib.hid hT.out
          clear hT hm hKX
          have HRB : Hid (RowS encB wB A xs) := Lib.hid (fun h0 => by
            obtain ⟨x, hA, hb, hc⟩ := HRW.out h0
            obtain ⟨g, hg, hA', _⟩ := HLI.out h0
            rw [hA] at hA'
            cases hA'
            exact ⟨_, hA, by have := (HXB.out g hg).2; simp; omega, fun j u hu => (World.cell?_of_block (by rw [add_block]; exact KB.out.2 g hg)).trans (hc j u hu)⟩)
          have hA9 : A = none → k = 0 := fun h => by have := hA0 h; omega
          obtain ⟨A2, c2, hA2, hc2, hr2⟩ : ∃ (A2 : Option Addr) (c2 : Nat), (∀ w, RowS encB w A xs → RowS encB w A2 (xs.drop k)) ∧ (A2 = none → c2 = 0) ∧ ∀ w, (Instr.slice 30 (.slice A xs.length c) (some (.int .i64 (k : Int))) none none).run Try.prog w = .ok (.slice A2 (xs.length - k) c2) w := by
            cases hA : A with
            | none =>
              have e1 := hA9 hA
              have e2 := hA0 hA
              have e3 : xs = [] := List.length_eq_zero_iff.1 (by omega)
              rw [e1, e2, e3]
              exact ⟨none, 0, fun _ _ => RowS.nil _ _, fun _ => rfl, fun w => by simp [run_slice_l, Try.underlying30, go_sem]⟩
            | some x =>
              obtain ⟨h1, h2⟩ := hx0 x hA
              obtain ⟨g, o, s⟩ := x
              dsimp only at h1 h2
              subst h1 h2
              refine ⟨if c = k then some ⟨g, 0, none⟩ else some ⟨g, k * 3, none⟩, c - k, fun w hr => ?_, (fun h => by split at h <;> cases h), fun w => ?_⟩
              · split
                · rw [List.drop_eq_nil_of_le (by omega)]; exact RowS.nil _ _
                · exact hr.drop k hkn
              · by_cases hck : c = k
                · subst hck
                  simp [run_slice_l, Try.underlying30, go_sem]
                  omega
                · have hcell : Try.prog.cellsOf 33 = 3 := by kernel_rfl
                  simp [run_slice_l, Try.underlying30, go_sem, hck, hcell]
                  omega
          have hr3 : ∀ w, (Instr.slice 30 (.slice A xs.length c) none (some (.int .i64 (k : Int))) none).run Try.prog w = .ok (.slice A k c) w := fun w => by
            simp [run_slice_l, Try.underlying30, go_sem]
            omega
          have q1 : (k : Int) ≤ (c : Int) := by omega
          have q2 : (k : Int) ≤ (xs.length : Int) := by omega
          have q3 : (0 : Int) ≤ (k : Int) := by omega
          have HA2 := Lib.hid hA2
          have HN1 : Hid (xs.length - k = (xs.drop k).length) := Lib.hid (by simp)
          have HN2 : Hid (k = (xs.take k).length) := Lib.hid (by simp; omega)
          have HD : Hid (RowS encB wB A2 (xs.drop k)) := Lib.hid (HA2.out _ HRB.out)
          have HT : Hid (RowS encB wB A (xs.take k)) := Lib.hid (HRB.out.take k hkn)
          have HK := Lib.hid hkn
          clear hA2
          go_wp2_with fail
          go_region_held3 (fun _ => True) (trivial) (first | (refine step_app_S encB_k 30 33 i0 _ 24 Try.underlying30 hi hz0 hz1 hz2 rfl (by omega) (by rfl) (.tmp 63) (.tmp 66) (by rfl) wB wB.heap.size _ [] (xs.drop k) (by rfl) (OwnS.drew (OwnS.made _ (by simp) (by simp))) _ _ _ HN1.out (by rfl) hc2 (HD.out.keep (by (repeat' (first | (with_reducible exact Kept.refl _ _) | (with_reducible assumption) | (with_reducible refine Kept.then_ (by with_reducible assumption) ?_) | (with_reducible refine Kept.thenS (by with_reducible assumption) ?_) | (with_reducible refine Kept.alloc ?_ _) | (with_reducible refine Kept.drew ?_) | (with_reducible refine Kept.drewN ?_ _) | (with_reducible refine Kept.setNew ?_ ?_ _) | ((try simp only [World.size_alloc, World.size_setCell, World.size_drew, size_drewN] at *); (try dsimp only); omega))))) (by (repeat' (first | (with_reducible exact Kept.refl _ _) | (with_reducible assumption) | (with_reducible refine Kept.then_ (by with_reducible assumption) ?_) | (with_reducible refine Kept.thenS (by with_reducible assumption) ?_) | (with_reducible refine Kept.alloc ?_ _) | (with_reducible refine Kept.drew ?_) | (with_reducible refine Kept.drewN ?_ _) | (with_reducible refine Kept.setNew ?_ ?_ _) | ((try simp only [World.size_alloc, World.size_setCell, World.size_drew, size_drewN] at *); (try dsimp only); omega)))) (Nat.le_refl _) (by simp only [World.size_alloc, World.size_drew]; omega) (by have := HN1.out; simp only [List.length_nil]; omega) ?_; intro A3 n3 c3 w3 hn3 own3 hk3 hs3) | (refine step_app_S encB_k 30 33 i0 _ 24 Try.underlying30 hi hz0 hz1 hz2 rfl (by omega) (by rfl) (.tmp 67) (.tmp 70) (by rfl) wB wB.heap.size _ ([] ++ xs.drop k) (xs.take k) (by rfl) own3 _ _ _ HN2.out (by rfl) hA0 (HT.out.keep (by (repeat' (first | (with_reducible exact Kept.refl _ _) | (with_reducible assumption) | (with_reducible refine Kept.then_ (by with_reducible assumption) ?_) | (with_reducible refine Kept.thenS (by with_reducible assumption) ?_) | (with_reducible refine Kept.alloc ?_ _) | (with_reducible refine Kept.drew ?_) | (with_reducible refine Kept.drewN ?_ _) | (with_reducible refine Kept.setNew ?_ ?_ _) | ((try simp only [World.size_alloc, World.size_setCell, World.size_drew, size_drewN] at *); (try dsimp only); omega))))) (by (repeat' (first | (with_reducible exact Kept.refl _ _) | (with_reducible assumption) | (with_reducible refine Kept.then_ (by with_reducible assumption) ?_) | (with_reducible refine Kept.thenS (by with_reducible assumption) ?_) | (with_reducible refine Kept.alloc ?_ _) | (with_reducible refine Kept.drew ?_) | (with_reducible refine Kept.drewN ?_ _) | (with_reducible refine Kept.setNew ?_ ?_ _) | ((try simp only [World.size_alloc, World.size_setCell, World.size_drew, size_drewN] at *); (try dsimp only); omega)))) (Nat.le_refl _) (by have := hk3.size; omega) (by have := HN1.out; have := HN2.out; simp only [List.nil_append]; omega) ?_; intro A4 n4 c4 w4 hn4 own4 hk4 hs4))
          obtain ⟨A5, c5, e5, _, _, _, hL4, _, hY4⟩ := own_list own4
          injection e5 with e51 e52 e53
          subst e51 e53
          have hn4 : n4 = xs.length := by rw [e52]; simp; omega
          subst hn4
          generalize own (.slice A4 xs.length c4) = Y at *
          have LY := Lib.hid (ListB.sub (Y := X ++ Y) hL4 (fun x hx => by simp [hx]))
          have L4 := Lib.hid (ListB.sub (Y := X ++ Y) (ListB.keepX LB.out (T3.out.kx hk4)) (fun x hx => by simp [hx]))
          have T4 := Lib.hid (T3.out.more hk4 Y hY4)
          have hs4' := hk4.size
          have HX2 : Hid ((xs.take (xs.length - (xs.length - k)) ++ (xs.drop k).take xs.length) = xs) := Lib.hid (by
            have e1 : (xs.drop k).take xs.length = xs.drop k := List.take_of_length_le (by simp)
            rw [show xs.length - (xs.length - k) = k by omega, e1, List.take_append_drop])
          obtain ⟨T, hT⟩ : ∃ T, xs.drop k ++ xs.take k = T := ⟨_, rfl⟩
          have hTl : T.length = xs.length := by rw [← hT]; simp; omega
          have LT : Hid (ListB (fun g => g ∈ X ++ Y) w4 A4 T) := Lib.hid (by have := LY.out; rw [List.nil_append, hT] at this; exact this)
          have HT9 := Lib.hid hT
          have HTL := Lib.hid hTl
          clear hT hTl LY hL4 hY4 own4 own3 e52 hk3 hs3 hk4 hs4 LB HD HT HRB HRW HLI KB hr3 hr2
          go_wp2_with fail
          go_loopw [73] (fun v wr => ∃ (i : Nat) (ms : List EntT), i ≤ xs.length ∧ v = .int .i64 i ∧ Hid (Two W (X ++ Y) wr w1.heap.size ls (w1.heap.size + 1) ms) ∧ Hid (ms.map bk = xs.take (i - (xs.length - k)) ++ (xs.drop k).take i) ∧ Hid (KeptX (X ++ Y) w4 wr)) (fun v _ => (xs.length - intOf v).toNat)
          case atStart => exact ⟨0, [], Nat.zero_le _, rfl, T4, Lib.hid (by simp), Lib.hid ⟨Nat.le_refl _, fun _ _ => rfl⟩⟩
          case round =>
            obtain ⟨i, ms, hin, rfl, hT, hm, hKX⟩ := hrel
            have hp := hT.out.ltp
            by_cases hil : i < xs.length
            · obtain ⟨g, hg, rfl, hc⟩ := (LT.out.keepX hKX.out) (by have := HTL.out; omega)
              obtain ⟨c0, c1, c2⟩ := hc.2 i (by have := HTL.out; omega)
              have hgl := hc.1
              obtain ⟨hf, hbm, j, hj, hins⟩ := HX.out.step HK.out hil hm.out (b := rb T i) (by rw [HT9.out])
              obtain ⟨b1, b2, b3, b4, b5⟩ := HX.out.may _ hbm
              have hll : ms.length ≤ 1000 := by
                have := congrArg List.length hm.out
                simp at this
                omega
              have hbe : (rb T i).1 ≤ 1048576 := b5.2.1
              have DA := Lib.hid (fun w (hk : Kept [] wr w) => two_add (hT.out.swap.keep0 hk) hll (rb T i).1 (rb T i).2.1 (rb T i).2.2 ⟨b1, by omega⟩ ⟨b2, by omega⟩ ⟨by omega, by omega⟩ b5 hf j hj)
              have HI := Lib.hid hins
              have di : decide (i < xs.length) = true := by simp; omega
              clear hc hf hbm hj hins b5
              generalize rb T i = b at *
              obtain ⟨ba, bn, bl⟩ := b
              dsimp only at c0 c1 c2 DA b1 b2 b3 b4 hbe HI
              subst b4
              go_wp2_with fail
              (with_reducible refine (DA.out _ (by (repeat' (first | (with_reducible exact Kept.refl _ _) | (with_reducible assumption) | (with_reducible refine Kept.then_ (by with_reducible assumption) ?_) | (with_reducible refine Kept.thenS (by with_reducible assumption) ?_) | (with_reducible refine Kept.alloc ?_ _) | (with_reducible refine Kept.drew ?_) | (with_reducible refine Kept.drewN ?_ _) | (with_reducible refine Kept.setNew ?_ ?_ _) | ((try simp only [World.size_alloc, World.size_setCell, World.size_drew, size_drewN] at *); (try dsimp only); omega))))).mono ?_)
              rintro e w5 ⟨rfl, hT5, hK5⟩
              have T5 := Lib.hid hT5.swap
              have KX5 := Lib.hid (hKX.out.trans ((hT.out.kx (by (repeat' (first | (with_reducible exact Kept.refl _ _) | (with_reducible assumption) | (with_reducible refine Kept.then_ (by with_reducible assumption) ?_) | (with_reducible refine Kept.thenS (by with_reducible assumption) ?_) | (with_reducible refine Kept.alloc ?_ _) | (with_reducible refine Kept.drew ?_) | (with_reducible refine Kept.drewN ?_ _) | (with_reducible refine Kept.setNew ?_ ?_ _) | ((try simp only [World.size_alloc, World.size_setCell, World.size_drew, size_drewN] at *); (try dsimp only); omega))))).trans hK5))
              clear hT5 hK5
              go_wp2_with fail
              go_roundw
              case rel => first | exact ⟨i + 1, _, by omega, by go_num, T5, HI, KX5⟩ | ((repeat apply Exists.intro); exact ⟨⟨i + 1, _, by omega, by go_num, T5, HI, KX5⟩, rfl⟩)
              case measure => simp [intOf]; omega
            · obtain rfl : i = xs.length := by omega
              have HM2 : Hid (ms.map bk = xs) := Lib.hid (by rw [hm.out]; exact HX2.out)
              obtain ⟨wC, hwC⟩ : ∃ wC, wC = wr := ⟨_, rfl⟩
              subst hwC
              have LC := Lib.hid (ListB.any (L4.out.keepX hKX.out))
              have TC := Lib.hid hT.out
              have KC := Lib.hid hKX.out
              clear hT hm hKX
              go_wp2_with fail
              (with_reducible refine (two_all TC.out HM1.out hn60).mono ?_)
              rintro e w6 ⟨⟨A6, c6, rfl, hL6⟩, hb6⟩
              have D6 := Lib.hid (same_any w6 _ _ A6 A c6 c xs xs.length rfl (by omega) hL6 (LC.out.keep hb6))
              clear hL6
              go_wp2_with fail
              (with_reducible refine D6.out.mono ?_)
              rintro e w7 ⟨rfl, hb7⟩
              have K7 := Lib.hid (hb7.then_ hb6)
              clear hb6 hb7 D6
              go_wp2_with fail
              (with_reducible refine (two_all (TC.out.swap.keep0 K7.out) HM2.out hn60).mono ?_)
              rintro e w8 ⟨⟨A8, c8, rfl, hL8⟩, hb8⟩
              have D8 := Lib.hid (same_any w8 _ _ A8 A c8 c xs xs.length rfl (by omega) hL8 (LC.out.keep (hb8.then_ K7.out)))
              clear hL8
              go_wp2_with fail
              (with_reducible refine D8.out.mono ?_)
              rintro e w9 ⟨rfl, hb9⟩
              have K9 := Lib.hid ((hb9.then_ hb8).then_ K7.out)
              clear hb8 hb9 D8
              have hl1 : ls.length = xs.length := by have := congrArg List.length HM1.out; simpa using this
              have hl2 : ms.length = xs.length := by have := congrArg List.length HM2.out; simpa using this
              obtain ⟨r, hr⟩ : ∃ r, bytesL ls = r := ⟨_, rfl⟩
              have DB1 := Lib.hid (fun w (hk : Kept [] w9 w) => x_bytes ((TC.out.keep0 K9.out).keep0 hk).one (by omega) r hr)
              have DB2 := Lib.hid (fun w (hk : Kept [] w9 w) => x_bytes ((TC.out.keep0 K9.out).keep0 hk).swap.one (by omega) r (by rw [← hr]; exact bytes_bk (by rw [HM1.out, HM2.out])))
              clear hr hl1 hl2
              go_wp2_with fail
              (with_reducible refine (DB1.out _ (Kept.refl _ _)).mono ?_)
              rintro e w10 ⟨rfl, hb10⟩
              go_wp2_with fail
              (with_reducible refine (DB2.out _ hb10).mono ?_)
              rintro e w11 ⟨rfl, hb11⟩
              have K11 := Lib.hid ((hb11.then_ hb10).then_ K9.out)
              have T11 := Lib.hid (TC.out.keep0 K11.out)
              have L11 := Lib.hid (L4.out.keepX (KC.out.trans (TC.out.kx K11.out)))
              clear hb10 hb11 DB1 DB2
              go_wp2_with fail
              go_loopw [98] (fun v wr => ∃ (i : Nat) (l1 : List EntT), i ≤ xs.length ∧ v = .int .i64 i ∧ Hid (Two W (X ++ Y) wr w1.heap.size l1 (w1.heap.size + 1) ms) ∧ Hid (l1.map bk = xs.drop i) ∧ Hid (KeptX (X ++ Y) w11 wr)) (fun v _ => (xs.length - intOf v).toNat)
              case atStart => exact ⟨0, ls, Nat.zero_le _, rfl, T11, Lib.hid (by rw [HM1.out]; rfl), Lib.hid ⟨Nat.le_refl _, fun _ _ => rfl⟩⟩
              case round =>
                obtain ⟨i, l1, hin, rfl, hT, hm, hKX⟩ := hrel
                have hp := hT.out.ltp
                have hll : l1.length ≤ 1000 := by
                  have := congrArg List.length hm.out
                  simp at this
                  omega
                by_cases hil : i < xs.length
                · obtain ⟨g, hg, rfl, hc⟩ := (L11.out.keepX hKX.out) (by omega)
                  obtain ⟨c0, c1, c2⟩ := hc.2 i hil
                  have hgl := hc.1
                  obtain ⟨l2, hd1, hd2⟩ := HX.out.drop1 hil hm.out rfl
                  have DD : Hid (∀ w y, Kept [] wr w → wr.heap.size ≤ y → Blk w y 29 #[.int .u64 (rb xs i).1] → Calls Try.prog 17 #[.pointer (some ⟨w1.heap.size, 0, none⟩), .slice (some ⟨y, 0, none⟩) 1 1] w fun e w' => e = .returned (.int .i64 0) ∧ Two W (X ++ Y) w' w1.heap.size l2 (w1.heap.size + 1) ms ∧ KeptX (X ++ Y) w w') := Lib.hid (fun w y hk hy hb => by
                    have := two_drop hT.out hk hll (some ⟨y, 0, none⟩) 1 1 [(rb xs i).1] rfl (rowX_one hb) (fun _ x hx => by cases hx; exact hy) (by simp)
                    rw [hd1] at this
                    exact this)
                  have HI := Lib.hid hd2
                  have di : decide (i < xs.length) = true := by simp; omega
                  clear hc hd1 hd2
                  generalize rb xs i = b at *
                  obtain ⟨ba, bn, bl⟩ := b
                  dsimp only at c0 c1 c2 DD
                  go_wp2_with fail
                  (with_reducible refine (DD.out _ _ ?hk ?hy ?hb).mono ?_)
                  case hb => exact Blk.new' _ _ _ (by simp)
                  case hk => exact ((Kept.refl [] _).alloc _).alloc _
                  case hy => simp
                  rintro e w5 ⟨rfl, hT5, hK5⟩
                  have T5 := Lib.hid hT5
                  have KX5 := Lib.hid (hKX.out.trans ((hT.out.kx (((Kept.refl [] _).alloc _).alloc _)).trans hK5))
                  clear hT5 hK5
                  go_wp2_with fail
                  go_roundw
                  case rel => first | exact ⟨i + 1, _, by omega, by go_num, T5, HI, KX5⟩ | ((repeat apply Exists.intro); exact ⟨⟨i + 1, _, by omega, by go_num, T5, HI, KX5⟩, rfl⟩)
                  case measure => simp [intOf]; omega
                · obtain rfl : i = xs.length := by omega
                  have hl0 : l1 = [] := by
                    have := congrArg List.length hm.out
                    simp at this
                    exact this
                  subst hl0
                  have DA := Lib.hid (fun w (hk : Kept [] wr w) => two_all (hT.out.keep0 hk) (xs := []) rfl (by simp))
                  have DB := Lib.hid (fun w (hk : Kept [] wr w) => x_bytes (hT.out.keep0 hk).one (by simp) 0 rfl)
                  have DC := Lib.hid (fun w (hk : Kept [] wr w) => two_all (hT.out.swap.keep0 hk) HM2.out hn60)
                  have KW := Lib.hid hT.out.kept
                  clear hT hm hKX
                  go_wp2_with fail
                  (with_reducible refine (DA.out _ (Kept.refl _ _)).mono ?_)
                  rintro e w12 ⟨⟨A12, c12, rfl, _⟩, hb12⟩
                  go_wp2_with fail
                  (with_reducible refine (DB.out _ hb12).mono ?_)
                  rintro e w13 ⟨rfl, hb13⟩
                  have hb13' := hb13.then_ hb12
                  clear hb12 hb13
                  go_wp2_with fail
                  (with_reducible refine (DC.out _ hb13').mono ?_)
                  rintro e w14 ⟨⟨A14, c14, rfl, _⟩, hb14⟩
                  go_wp2_with fail
                  go_ret
                  exact ⟨rfl, ((hb14.then_ hb13').then_ KW.out).below⟩
theorem own : ownKnob Try.prog.godebug = none := by kernel_rfl
theorem laidOut : laidOutB Try.prog = true := by kernel_rfl
set_option maxRecDepth 100000 in
theorem lifted (os : Os) (started : os.Started) (H : Type) (enc : TypeId × Value → H) :
    ReturnsInHanded {} Try.checked os 5 .any (Rows.ledgerOrdersSpec.pre6 enc Try.prog Try.f5 Rows.ledgerOrdersRow.domain false) (Rows.ledgerOrdersSpec.post enc Try.prog Try.f5 false true false false) := by
  refine returnsInHanded_of_change (C := Try.checked) own started (by kernel_rfl) Try.func5
    (ChangeSpec.witness6 (enc := enc) (C := Try.checked) false ⟨#[], #[.slice none 0 0, .int .u8 0], []⟩ 8 (by kernel_rfl) (by kernel_rfl) (by kernel_rfl) (by kernel_rfl)) ?_
  intro W base args ds gs before hval0 hW hcnd _
  have hval : ∀ (j : Nat) t v, Try.f5.params[j]? = some t → args[j]? = some v → Value.okWide Try.prog W .any base t v := hval0
  have hW' := hW
  obtain ⟨p, q, hA0, hV, rfl, hfz, hnd⟩ := hW
  have hA : DataW.TrodAll enc Try.prog W 0 (fun _ => true) true Try.f5.params.toList args.toList ds p := hA0
  rw [Try.params5] at hA hval
  obtain ⟨v0, vs0, d0, ds0, p0, q0, hargs, rfl, rfl, h0, r0⟩ := trodAll_cons hA
  obtain ⟨v1, vs1, d1, ds1, p1, q1, rfl, rfl, rfl, h1, r1⟩ := trodAll_cons r0
  obtain ⟨rfl, rfl, rfl⟩ := trodAll_nil r1
  obtain rfl : args = #[v0, v1] := by cases args; simp_all
  obtain ⟨rfl, rfl⟩ := trodVars_none hV
  have k0 := h0
  have lt0 : ∀ x ∈ p0, x.block < W.heap.size := by obtain ⟨m, hm⟩ := k0; exact DataW.trod_lt m _ _ _ hm
  obtain ⟨a0, len0, cap0, rfl⟩ := okWide_slice Try.underlying40 (hval 0 40 v0 rfl rfl)
  obtain ⟨z0, w0⟩ := isRow_of Try.underlying40 Try.underlying5 (by kernel_rfl) h0
  obtain ⟨a1, rfl, rfl, rfl, w1⟩ := open_int Try.underlying5 (hval 1 5 v1 rfl rfl) h1
  clear hA0 hval0
  refine (walk a0 len0 cap0 z0 a1 W w0 w1).mono fun e W' ⟨he, bel⟩ => ?_
  subst he
  exact ⟨_, rfl, _, _, _, [], _, [], hW', trodAll_mk1 (shut_bool Try.underlying4 _), (trodAll_cons_mk (Below.trod laidOut (by kernel_rfl) (of_decide_eq_true (by kernel_rfl)) k0 bel lt0) (trodAll_cons_mk (shut_int Try.underlying5 w1) trodAll_mk0)), rfl, bel.frame _, fun h => by cases h⟩
theorem over : Rows.ledgerOrdersRow.holds Try.pinned (OpenSpec.ofChange Rows.ledgerOrdersSpec) :=
  OpenClaim.holds_of_wide 5 Try.f5 rfl rfl rfl rfl rfl rfl rfl ⟨rfl, rfl, rfl, rfl, rfl⟩ rfl rfl rfl rfl rfl (by kernel_rfl) Try.func5 (by kernel_rfl)
    (of_decide_eq_true (by kernel_rfl)) (by unfold Func.isWrapper; first | (rw [if_pos (by decide +kernel)]; kernel_rfl) | (rw [if_neg (by decide +kernel)]; exact ⟨rfl, rfl⟩))
    (fun os started H enc _ => lifted os started H enc)
theorem proved : Rows.LedgerOrdersSaid := over
#print axioms proved
end LedgerOrders
end Go.Proofs.Ytdallcepachhoaa
