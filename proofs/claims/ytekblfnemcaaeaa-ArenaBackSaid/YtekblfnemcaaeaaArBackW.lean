/- What was given, and is taken back, is given again, at the same place; what isn't a region's beginning isn't taken back. No condition. -/
import Derived.Test.YtekblfnemcaaeaaArBack
import Derived.Deep.RegionHeld3
set_option linter.unusedVariables false
set_option linter.unusedSimpArgs false
namespace Go.Proofs.Ytekblfnemcaaeaa.ArenaBack
open Go.RowKit Go.ChangeShapes Go.WideShapes Go.ChangeAt Go.Joins Go.Proofs.Ytekblfnemcaaeaa.ArenaLowest
theorem ArB.more {W w w' : World} {X : List Nat} {p : Nat} {ls : List RegT} (h : ArB W X p ls w) (hk : Kept [] w w') (y : Nat) (h1 : w.heap.size ≤ y) (h2 : y < w'.heap.size) : ArB W (y :: X) p ls w' := by
  obtain ⟨a, k1, k2, k3, k4, k5, k6, k7⟩ := h
  exact ⟨a, k1, k2, k3, k4, k5, k6, k7.more hk [y] (fun z hz => by simp at hz; subst hz; exact ⟨h1, h2⟩)⟩
theorem blkX {X : List Nat} {w w' : World} {g : Nat} {t : TypeId} {cs : Array Value} (h : Blk w g t cs) (hk : KeptX X w w') (hg : g ∈ X) : Blk w' g t cs := (hk.2 g hg).trans h
theorem KeptX.less {X : List Nat} {y : Nat} {w w' : World} (h : KeptX (y :: X) w w') : KeptX X w w' := ⟨h.1, fun x hx => h.2 x (by simp [hx])⟩
set_option maxRecDepth 100000 in
set_option maxHeartbeats 8000000 in
/-- From the slice of regions on. -/
theorem rest (W w5 : World) (p : Nat) (ls : List RegT) (A : Option Addr) (X : List Nat) (hgood : Good 64 ls) (hL : ListX X w5 A ls) (hA : ArB W X p ls w5) (j : Nat) (hj : j < ls.length) (ra rn : Int) (hr : rg ls j = (ra, rn)) :
    ∃ Q : Nat, ((Q : Int) ≤ ra) ∧ Q ≤ 64 ∧
    (∀ w, KeptX X w5 w → ListG w A ls) ∧
    (∀ w wb, Kept [] w5 w → w5.heap.size ≤ wb → wb < w.heap.size → ArB W (wb :: X) p ls w ∧ KeptX X w5 w) ∧
    (∀ Y w, ArB W Y p ls w → 1 < rn → Calls Try.prog 12 #[.pointer (some ⟨p, 0, none⟩), .int .i64 (ra + 1)] w fun e w' => e = .returned (.int .i64 5) ∧ ArB W Y p ls w' ∧ KeptX Y w w') ∧
    (∀ Y w, ArB W Y p ls w → Calls Try.prog 12 #[.pointer (some ⟨p, 0, none⟩), .int .i64 64] w fun e w' => e = .returned (.int .i64 5) ∧ ArB W Y p ls w' ∧ KeptX Y w w') ∧
    (∀ Y w, ArB W Y p ls w → Calls Try.prog 12 #[.pointer (some ⟨p, 0, none⟩), .int .i64 ra] w fun e w' => e = .returned (.int .i64 0) ∧ ArB W Y p (ls.eraseIdx j) w' ∧ KeptX Y w w') ∧
    (∀ Y w, ArB W Y p (ls.eraseIdx j) w → Calls Try.prog 12 #[.pointer (some ⟨p, 0, none⟩), .int .i64 ra] w fun e w' => e = .returned (.int .i64 5) ∧ ArB W Y p (ls.eraseIdx j) w' ∧ KeptX Y w w') ∧
    (∀ Y w, ArB W Y p (ls.eraseIdx j) w → Calls Try.prog 13 #[.pointer (some ⟨p, 0, none⟩)] w fun e w' => e = .returned (.int .i64 (total ls - rn)) ∧ Kept [] w w') ∧
    (∀ Y w, ArB W Y p (ls.eraseIdx j) w → Calls Try.prog 16 #[.pointer (some ⟨p, 0, none⟩)] w fun e w' => RegsB (ls.length - 1) e w' ∧ Kept [] w w') ∧
    (∀ Y w, ArB W Y p (ls.eraseIdx j) w → Calls Try.prog 11 #[.pointer (some ⟨p, 0, none⟩), .int .i64 rn] w fun e w' => e = .returned (.tuple #[.int .i64 Q, .int .i64 0]) ∧ KeptX Y w w' ∧ Kept [] W w') ∧
    (∀ w c, ListG w A ls → Calls Try.prog 18 #[.slice A ls.length c, .agg #[.int .i64 ra, .int .i64 rn]] w fun e w' => e = .returned (.int .i64 Q) ∧ Kept [] w w') := by
  obtain ⟨Q, q1, q2, q3, q4⟩ := low_exists hgood hj
  have hm := hgood.1 _ (rg_mem hj)
  have hf : ls.length ≤ 64 := by
    obtain ⟨a, h1, _, _, _, h5, _⟩ := hA
    rw [← h5]; exact h1.few
  have hrm : ∀ r, r ∈ ls → r.1 = ra + 1 → rn ≤ 1 := fun r hr' he => by
    obtain ⟨i, hi⟩ := List.mem_iff_getElem?.1 hr'
    have hil := (List.getElem?_eq_some_iff.1 hi).1
    have e0 := rg_some hil
    rw [hi] at e0
    injection e0 with e0
    have hp := hgood.2
    rw [List.pairwise_iff_getElem] at hp
    have e1 := rg_some hj
    have e2 := rg_some hil
    rw [List.getElem?_eq_getElem hj] at e1
    rw [List.getElem?_eq_getElem hil] at e2
    injection e1 with e1
    injection e2 with e2
    rw [hr] at e1 hm
    simp only at hm
    rcases Nat.lt_trichotomy i j with h | h | h
    · have h3 := hp i j hil hj h
      rw [e1, e2, ← e0] at h3
      have h4 := hgood.1 _ hr'
      simp only at h3
      omega
    · subst h
      rw [hr] at e0
      rw [e0] at he
      simp only at he
      omega
    · have h3 := hp j i hj hil h
      rw [e1, e2, ← e0] at h3
      simp only at h3
      omega
  have hgone : ∀ r, r ∈ ls.eraseIdx j → r.1 ≠ ra := fun r hr' he => by
    obtain ⟨i, hi⟩ := List.mem_iff_getElem?.1 hr'
    rw [List.getElem?_eraseIdx] at hi
    split at hi
    · have hil := (List.getElem?_eq_some_iff.1 hi).1
      have e0 := rg_some hil
      rw [hi] at e0
      injection e0 with e0
      have := starts_ne hgood hil hj (by rw [← e0, hr]; exact he)
      omega
    · have hil := (List.getElem?_eq_some_iff.1 hi).1
      have e0 := rg_some hil
      rw [hi] at e0
      injection e0 with e0
      have := starts_ne hgood hil hj (by rw [← e0, hr]; exact he)
      omega
  have hlen : (ls.eraseIdx j).length = ls.length - 1 := List.length_eraseIdx_of_lt hj
  have hte := total_erase hj
  rw [hr] at q1 q3 q4 hm hte
  refine ⟨Q, q1, q2, fun w hk => (hL.keep hk).list, fun w wb hk h1 h2 => ⟨hA.more hk wb h1 h2, hA.kx hk⟩, fun Y w h hrn => b_none h _ (fun r hr' he => by have := hrm r hr' he; omega), fun Y w h => b_none h _ (fun r hr' he => by have := hgood.1 r hr'; omega), fun Y w h => ?_, fun Y w h => b_none h _ hgone, fun Y w h => b_given h _ hte, fun Y w h => ?_, fun Y w h => ?_, fun w c h => lowest_any A c ls (ra, rn) w h hgood hf hm Q q2 q3 q4⟩
  · have := b_back h j hj
    rw [hr] at this
    exact this
  · have := b_regs h
    rw [hlen] at this
    exact this
  · have := b_again h hgood hj Q (by rw [hr]; exact q3) (by rw [hr]; exact q4)
    rw [hr] at this
    exact this
set_option maxRecDepth 100000 in
set_option maxHeartbeats 8000000 in
theorem walk (a0 : Option Addr) (len0 cap0 : Nat) (z0 : List Int) (a1 : Int) (W : World) (w0 : IsRow .u8 W a0 len0 cap0 z0) (w1 : (Lit.int .u8 a1).wf = true) :
    Calls Try.prog 5 #[.slice a0 len0 cap0, .int .u8 a1] W fun e W' => e = .returned (.bool true) ∧ Below W.heap.size W W' := by
  obtain ⟨ys, hyl, hY, hc0, hwf, _, _⟩ := w0.seen
  have HY := Lib.hid hY
  have HWF := Lib.hid hwf
  have b1 := bounds_u8 w1
  clear w0 hY hwf w1
  subst hyl
  have C1 := Lib.hid (alive_any W)
  have C2 : Hid (∀ w, Kept [] W w → Calls Try.prog 10 #[.int .i64 64, .int .i64 64] w fun e w' => ∃ p, e = .returned (.tuple #[.pointer (some ⟨p, 0, none⟩), .int .i64 0]) ∧ StK W p 0 w') := Lib.hid (fun w hk' => (up_new W w hk' 64 64 (by omega) (by omega) (by omega)).mono fun e w' ⟨p, he, hu⟩ => ⟨p, he, _, ⟨inv_new 64 64 (by omega) (by omega) (by omega), rfl, rfl, rfl, Int.le_refl _, by show (0 : Int) ≤ _; omega⟩, hu⟩)
  by_cases hlen : ys.length ≤ 64
  · have q0 : (ys.length : Int) ≤ 64 := by omega
    go_enter Try.func5, Try.ntmps5
    go_wp2_with fail
    (with_reducible refine (C1.out).mono ?_)
    rintro e w1 ⟨rfl, hb1⟩
    have hs1 := hb1.size
    (try simp only [World.size_alloc, World.size_setCell, World.size_drew, size_drewN] at hs1)
    go_wp2_with fail
    (with_reducible refine (C2.out _ hb1).mono ?_)
    rintro e w2 ⟨p, rfl, hs2⟩
    have S2 := Lib.hid hs2
    clear hs2 hb1
    have hp2 := S2.out.ltp
    go_wp2_with fail
    go_loopw [30] (fun v wr => ∃ i : Nat, i ≤ ys.length ∧ v = .int .i64 i ∧ Hid (StK W p i wr)) (fun v _ => (ys.length - intOf v).toNat)
    case atStart => exact ⟨0, Nat.zero_le _, rfl, S2⟩
    case round =>
      obtain ⟨i, hi, rfl, hs⟩ := hrel
      have hpr := hs.out.ltp
      by_cases hlt : i < ys.length
      · obtain ⟨ad, rfl, hadc⟩ := HY.out.get (by omega)
        have hc := hadc wr hs.out.kept i hlt
        have hw8 := HWF.out _ (List.getElem_mem hlt)
        have e8 : ys[i]?.getD 0 = ys[i] := by rw [List.getElem?_eq_getElem hlt]; rfl
        rw [e8] at hc
        have b8 := bounds_u8 hw8
        generalize ys[i] = z at hc b8
        have D := Lib.hid (b_any (k := z % 5 + 1) hs.out (by omega))
        clear hadc hw8 e8
        go_wp2_with fail
        (with_reducible refine D.out.mono ?_)
        rintro e w4 ⟨⟨x4, y4, rfl⟩, hs4⟩
        have S4 := Lib.hid hs4
        clear hs4
        go_wp2_with fail
        go_roundw
        case rel => first | exact ⟨i + 1, by omega, by go_num, S4⟩ | ((repeat apply Exists.intro); exact ⟨⟨i + 1, by omega, by go_num, S4⟩, rfl⟩)
        case measure => simp [intOf]; omega
      · obtain rfl : i = ys.length := by omega
        have DB : Hid (Calls Try.prog 16 #[.pointer (some ⟨p, 0, none⟩)] wr (RegsB2 W p)) := Lib.hid (by
          obtain ⟨a, ⟨h1, h2, h3, h4, h5, h6⟩, hu⟩ := hs.out
          exact b_regs2 ⟨a.ls, a, h1, h2, h3, h4, rfl, by omega, hu.x⟩)
        go_wp2_with fail
        (with_reducible refine DB.out.mono ?_)
        rintro e w5 ⟨ls, A, c, X, rfl, hgood, hfew, htot, hLX, hA5⟩
        have G := Lib.hid hgood
        have LX := Lib.hid hLX
        have A5 := Lib.hid hA5
        have hp5 := hA5.ltp
        have htn : 0 ≤ total ls := by have := total_len hgood.1; omega
        clear hgood hLX hA5
        by_cases h0 : ls.length = 0
        · rw [h0]
          go_wp2_with fail
          go_ret
          exact ⟨rfl, A5.out.kept.below⟩
        · obtain ⟨j, hj⟩ : ∃ j : Nat, a1 % (ls.length : Int) = (j : Int) := ⟨(a1 % (ls.length : Int)).toNat, by
            have := Int.emod_nonneg a1 (show (ls.length : Int) ≠ 0 by omega)
            omega⟩
          have hjl : j < ls.length := by
            have := Int.emod_lt_of_pos a1 (show 0 < (ls.length : Int) by omega)
            omega
          obtain ⟨g, hgX, rfl, hcG⟩ := LX.out (by omega)
          obtain ⟨k0, k1⟩ := hcG.2 j hjl
          have hxl := hcG.1
          have hr1 := G.out.1 _ (rg_mem hjl)
          obtain ⟨r, hr⟩ : ∃ r, rg ls j = r := ⟨_, rfl⟩
          rw [hr] at k0 k1 hr1
          obtain ⟨ra, rn⟩ := r
          obtain ⟨Q, hQ, hQ64, dL, dM, d1, d2, d3, d4, d5, d7, d8, d9⟩ := rest W w5 p ls _ X G.out LX.out A5.out j hjl ra rn hr
          have D6 := Lib.hid (fun w hk => sum_any _ c ls w (dL w hk) G.out hfew)
          have DL := Lib.hid dL
          have DM := Lib.hid dM
          have D1 := Lib.hid d1
          have D2 := Lib.hid d2
          have D3 := Lib.hid d3
          have D4 := Lib.hid d4
          have D5 := Lib.hid d5
          have D7 := Lib.hid d7
          have D8 := Lib.hid d8
          have D9 := Lib.hid (fun w hk => d9 w c (dL w hk))
          dsimp only at k0 k1 hr1
          have l1 : (0 : Int) ≤ (j : Int) := by omega
          have l2 : (j : Int) < (ls.length : Int) := by omega
          have l3 : ¬ ((ls.length : Int) = 0) := by omega
          have l4 : ((ls.length : Int) == 0) = false := by rw [beq_eq_false_iff_ne]; exact l3
          clear dL dM d1 d2 d3 d4 d5 d7 d8 d9 hr hcG
          obtain ⟨m1, m2⟩ := DM.out (w5.alloc (.cells #[.int .i64 ra, .int .i64 rn] 39)) w5.heap.size ((Kept.refl [] w5).alloc _) (Nat.le_refl _) (by simp)
          have M1 := Lib.hid m1
          have M2 := Lib.hid m2
          clear m1 m2
          by_cases hn : 1 < rn
          · go_wp2_with fail
            (refine (D1.out _ _ M1.out hn).mono ?_)
            rintro e wA ⟨rfl, hAA, hkA⟩
            have hBA : Blk wA w5.heap.size 39 #[.int .i64 ra, .int .i64 rn] := blkX (Blk.new w5 _ _) hkA (by simp)
            have hKA : KeptX X w5 wA := M2.out.trans (KeptX.less hkA)
            clear hkA
            have AA := Lib.hid hAA
            have BA := Lib.hid hBA
            have KA := Lib.hid hKA
            clear hAA hBA hKA
            have ba0 := BA.out.cell 0
            have ba1 := BA.out.cell 1
            have bal := BA.out.lt
            go_wp2_with fail
            (refine (D2.out _ _ AA.out).mono ?_)
            rintro e wB ⟨rfl, hAB, hkB⟩
            have AB := Lib.hid hAB
            have BB := Lib.hid (blkX BA.out hkB (by simp))
            have KB := Lib.hid (KA.out.trans (KeptX.less hkB))
            have bb0 := BB.out.cell 0
            have bb1 := BB.out.cell 1
            have bbl := BB.out.lt
            clear hAB hkB ba0 ba1 bal
            go_wp2_with fail
            (refine (D3.out _ _ AB.out).mono ?_)
            rintro e wC ⟨rfl, hAC, hkC⟩
            have AC := Lib.hid hAC
            have BC := Lib.hid (blkX BB.out hkC (by simp))
            have KC := Lib.hid (KB.out.trans (KeptX.less hkC))
            have bc0 := BC.out.cell 0
            have bc1 := BC.out.cell 1
            have bcl := BC.out.lt
            clear hAC hkC bb0 bb1 bbl
            go_wp2_with fail
            (refine (D4.out _ _ AC.out).mono ?_)
            rintro e wD ⟨rfl, hAD, hkD⟩
            have AD := Lib.hid hAD
            have BD := Lib.hid (blkX BC.out hkD (by simp))
            have KD := Lib.hid (KC.out.trans (KeptX.less hkD))
            have HB1 : Hid (∀ w', Kept [] wD w' → w'.cell? ⟨w5.heap.size, 1, none⟩ = some (.int .i64 rn)) := Lib.hid (fun w' hk => (BD.out.keep0 hk).cell 1)
            have HKX : Hid (∀ w', Kept [] wD w' → KeptX X w5 w') := Lib.hid (fun w' hk => KD.out.trans (KeptX.less (AD.out.kx hk)))
            have HAD : Hid (∀ w', Kept [] wD w' → ArB W (w5.heap.size :: X) p (ls.eraseIdx j) w') := Lib.hid (fun w' hk => AD.out.keep0 hk)
            have bd1 := BD.out.cell 1
            have bdl := BD.out.lt
            have s1 : IntKind.i64.wrap (total ls - rn) = total ls - rn := IntWalk.i64_in _ (by omega)
            have s2 : IntKind.i64.wrap ((ls.length : Int) - 1) = (ls.length : Int) - 1 := IntWalk.i64_in _ (by omega)
            have s3 : ((ls.length - 1 : Nat) : Int) = (ls.length : Int) - 1 := by omega
            clear hAD hkD bc0 bc1 bcl
            go_wp2_with fail
            go_region_held3 (fun w' => w'.cell? ⟨w5.heap.size, 1, none⟩ = some (.int .i64 rn)) (first | go_keep | exact bd1 | exact HB1.out _ (by (repeat' (first | (with_reducible exact Kept.refl _ _) | (with_reducible assumption) | (with_reducible refine Kept.then_ (by with_reducible assumption) ?_) | (with_reducible refine Kept.thenS (by with_reducible assumption) ?_) | (with_reducible refine Kept.alloc ?_ _) | (with_reducible refine Kept.drew ?_) | (with_reducible refine Kept.drewN ?_ _) | (with_reducible refine Kept.setNew ?_ ?_ _) | ((try simp only [World.size_alloc, World.size_setCell, World.size_drew, size_drewN] at *); (try dsimp only); omega))))) (first | (go_at_call 13; refine (D5.out _ _ (HAD.out _ (by (repeat' (first | (with_reducible exact Kept.refl _ _) | (with_reducible assumption) | (with_reducible refine Kept.then_ (by with_reducible assumption) ?_) | (with_reducible refine Kept.thenS (by with_reducible assumption) ?_) | (with_reducible refine Kept.alloc ?_ _) | (with_reducible refine Kept.drew ?_) | (with_reducible refine Kept.drewN ?_ _) | (with_reducible refine Kept.setNew ?_ ?_ _) | ((try simp only [World.size_alloc, World.size_setCell, World.size_drew, size_drewN] at *); (try dsimp only); omega)))))).mono ?_; rintro e wx ⟨rfl, hbx⟩) | (go_at_call 17; refine (D6.out _ (HKX.out _ (by (repeat' (first | (with_reducible exact Kept.refl _ _) | (with_reducible assumption) | (with_reducible refine Kept.then_ (by with_reducible assumption) ?_) | (with_reducible refine Kept.thenS (by with_reducible assumption) ?_) | (with_reducible refine Kept.alloc ?_ _) | (with_reducible refine Kept.drew ?_) | (with_reducible refine Kept.drewN ?_ _) | (with_reducible refine Kept.setNew ?_ ?_ _) | ((try simp only [World.size_alloc, World.size_setCell, World.size_drew, size_drewN] at *); (try dsimp only); omega)))))).mono ?_; rintro e wx ⟨rfl, hbx⟩) | (go_at_call 16; refine (D7.out _ _ (HAD.out _ (by (repeat' (first | (with_reducible exact Kept.refl _ _) | (with_reducible assumption) | (with_reducible refine Kept.then_ (by with_reducible assumption) ?_) | (with_reducible refine Kept.thenS (by with_reducible assumption) ?_) | (with_reducible refine Kept.alloc ?_ _) | (with_reducible refine Kept.drew ?_) | (with_reducible refine Kept.drewN ?_ _) | (with_reducible refine Kept.setNew ?_ ?_ _) | ((try simp only [World.size_alloc, World.size_setCell, World.size_drew, size_drewN] at *); (try dsimp only); omega)))))).mono ?_; rintro e wx ⟨⟨A', c', rfl⟩, hbx⟩))
            all_goals
              have hkE : Kept [] wD wx := by (repeat' (first | (with_reducible exact Kept.refl _ _) | (with_reducible assumption) | (with_reducible refine Kept.then_ (by with_reducible assumption) ?_) | (with_reducible refine Kept.thenS (by with_reducible assumption) ?_) | (with_reducible refine Kept.alloc ?_ _) | (with_reducible refine Kept.drew ?_) | (with_reducible refine Kept.drewN ?_ _) | (with_reducible refine Kept.setNew ?_ ?_ _) | ((try simp only [World.size_alloc, World.size_setCell, World.size_drew, size_drewN] at *); (try dsimp only); omega)))
              have AE := Lib.hid (HAD.out wx hkE)
              have BE := Lib.hid (BD.out.keep0 hkE)
              have KE := Lib.hid (HKX.out wx hkE)
              have be0 := BE.out.cell 0
              have be1 := BE.out.cell 1
              have bel := BE.out.lt
              clear s1 s2 s3 hkE bd1 bdl
              go_wp2_with fail
              (refine (D8.out _ _ AE.out).mono ?_)
              rintro e wF ⟨rfl, hkF, hWF⟩
              have BF := Lib.hid (blkX BE.out hkF (by simp))
              have KF := Lib.hid (KE.out.trans (KeptX.less hkF))
              have WF := Lib.hid hWF
              have bf0 := BF.out.cell 0
              have bf1 := BF.out.cell 1
              have bfl := BF.out.lt
              have hszF : wx.heap.size ≤ wF.heap.size := hkF.1
              clear hkF hWF be0 be1 bel
              have D9F : Hid (∀ w', Kept [] wF w' → Calls Try.prog 18 #[.slice (some ⟨g, 0, none⟩) ls.length c, .agg #[.int .i64 ra, .int .i64 rn]] w' fun e w'' => e = .returned (.int .i64 Q) ∧ Kept [] w' w'') := Lib.hid (fun w' hk => D9.out w' (KF.out.trans ⟨hk.size, fun x hx => hk.block x (by
                have := AE.out
                obtain ⟨a, _, _, _, _, _, _, h7⟩ := AE.out
                have h8 := h7.2.2 x (by simp [hx])
                have h9 := hszF
                omega) (by simp)⟩))
              by_cases hQr : (Q : Int) = ra
              · subst hQr
                go_wp2_with fail
                refine wp_region_kept (by kernel_rfl) (by kernel_rfl) ?_
                intro TT FF hne hFF hcl
                have z0 := fun x => (BF.out.keep0 (hFF x)).cell 0
                have z1 := fun x => (BF.out.keep0 (hFF x)).cell 1
                have zl := fun x => (BF.out.keep0 (hFF x)).lt
                have DQ := fun x => D9F.out _ (hFF x)
                repeat (first | go_big_quiet_step ((go_at_call 18; (with_reducible refine kept_call hcl (DQ _)))) | quiet_step ((go_at_call 18; (with_reducible refine kept_call hcl (DQ _)))))
                refine wpQuiet_nil ?_
                rintro w9 ⟨x, hx⟩
                have hk9 := hFF x
                rw [← hx] at hk9
                clear hx x hne hFF hcl z0 z1 zl DQ
                go_wp2_with fail
                go_ret
                exact ⟨rfl, (hk9.then_ WF.out).below⟩
              · have hQb : ((Q : Int) == ra) = false := by rw [beq_eq_false_iff_ne]; exact hQr
                go_wp2_with fail
                refine wp_region_kept (by kernel_rfl) (by kernel_rfl) ?_
                intro TT FF hne hFF hcl
                have z0 := fun x => (BF.out.keep0 (hFF x)).cell 0
                have z1 := fun x => (BF.out.keep0 (hFF x)).cell 1
                have zl := fun x => (BF.out.keep0 (hFF x)).lt
                have DQ := fun x => D9F.out _ (hFF x)
                repeat (first | go_big_quiet_step ((go_at_call 18; (with_reducible refine kept_call hcl (DQ _)))) | quiet_step ((go_at_call 18; (with_reducible refine kept_call hcl (DQ _)))))
                refine wpQuiet_nil ?_
                rintro w9 ⟨x, hx⟩
                have hk9 := hFF x
                rw [← hx] at hk9
                clear hx x hne hFF hcl z0 z1 zl DQ
                go_wp2_with fail
                go_ret
                exact ⟨rfl, (hk9.then_ WF.out).below⟩
          · obtain ⟨wA, hwA⟩ : ∃ wA, wA = w5.alloc (.cells #[.int .i64 ra, .int .i64 rn] 39) := ⟨_, rfl⟩
            have hAA : ArB W (w5.heap.size :: X) p ls wA := by rw [hwA]; exact M1.out
            have hBA : Blk wA w5.heap.size 39 #[.int .i64 ra, .int .i64 rn] := by rw [hwA]; exact Blk.new w5 _ _
            have hKA : KeptX X w5 wA := by rw [hwA]; exact M2.out
            go_wp2_with fail
            rw [← hwA]
            clear hwA
            have AA := Lib.hid hAA
            have BA := Lib.hid hBA
            have KA := Lib.hid hKA
            clear hAA hBA hKA
            have ba0 := BA.out.cell 0
            have ba1 := BA.out.cell 1
            have bal := BA.out.lt
            go_wp2_with fail
            (refine (D2.out _ _ AA.out).mono ?_)
            rintro e wB ⟨rfl, hAB, hkB⟩
            have AB := Lib.hid hAB
            have BB := Lib.hid (blkX BA.out hkB (by simp))
            have KB := Lib.hid (KA.out.trans (KeptX.less hkB))
            have bb0 := BB.out.cell 0
            have bb1 := BB.out.cell 1
            have bbl := BB.out.lt
            clear hAB hkB ba0 ba1 bal
            go_wp2_with fail
            (refine (D3.out _ _ AB.out).mono ?_)
            rintro e wC ⟨rfl, hAC, hkC⟩
            have AC := Lib.hid hAC
            have BC := Lib.hid (blkX BB.out hkC (by simp))
            have KC := Lib.hid (KB.out.trans (KeptX.less hkC))
            have bc0 := BC.out.cell 0
            have bc1 := BC.out.cell 1
            have bcl := BC.out.lt
            clear hAC hkC bb0 bb1 bbl
            go_wp2_with fail
            (refine (D4.out _ _ AC.out).mono ?_)
            rintro e wD ⟨rfl, hAD, hkD⟩
            have AD := Lib.hid hAD
            have BD := Lib.hid (blkX BC.out hkD (by simp))
            have KD := Lib.hid (KC.out.trans (KeptX.less hkD))
            have HB1 : Hid (∀ w', Kept [] wD w' → w'.cell? ⟨w5.heap.size, 1, none⟩ = some (.int .i64 rn)) := Lib.hid (fun w' hk => (BD.out.keep0 hk).cell 1)
            have HKX : Hid (∀ w', Kept [] wD w' → KeptX X w5 w') := Lib.hid (fun w' hk => KD.out.trans (KeptX.less (AD.out.kx hk)))
            have HAD : Hid (∀ w', Kept [] wD w' → ArB W (w5.heap.size :: X) p (ls.eraseIdx j) w') := Lib.hid (fun w' hk => AD.out.keep0 hk)
            have bd1 := BD.out.cell 1
            have bdl := BD.out.lt
            have s1 : IntKind.i64.wrap (total ls - rn) = total ls - rn := IntWalk.i64_in _ (by omega)
            have s2 : IntKind.i64.wrap ((ls.length : Int) - 1) = (ls.length : Int) - 1 := IntWalk.i64_in _ (by omega)
            have s3 : ((ls.length - 1 : Nat) : Int) = (ls.length : Int) - 1 := by omega
            clear hAD hkD bc0 bc1 bcl
            go_wp2_with fail
            go_region_held3 (fun w' => w'.cell? ⟨w5.heap.size, 1, none⟩ = some (.int .i64 rn)) (first | go_keep | exact bd1 | exact HB1.out _ (by (repeat' (first | (with_reducible exact Kept.refl _ _) | (with_reducible assumption) | (with_reducible refine Kept.then_ (by with_reducible assumption) ?_) | (with_reducible refine Kept.thenS (by with_reducible assumption) ?_) | (with_reducible refine Kept.alloc ?_ _) | (with_reducible refine Kept.drew ?_) | (with_reducible refine Kept.drewN ?_ _) | (with_reducible refine Kept.setNew ?_ ?_ _) | ((try simp only [World.size_alloc, World.size_setCell, World.size_drew, size_drewN] at *); (try dsimp only); omega))))) (first | (go_at_call 13; refine (D5.out _ _ (HAD.out _ (by (repeat' (first | (with_reducible exact Kept.refl _ _) | (with_reducible assumption) | (with_reducible refine Kept.then_ (by with_reducible assumption) ?_) | (with_reducible refine Kept.thenS (by with_reducible assumption) ?_) | (with_reducible refine Kept.alloc ?_ _) | (with_reducible refine Kept.drew ?_) | (with_reducible refine Kept.drewN ?_ _) | (with_reducible refine Kept.setNew ?_ ?_ _) | ((try simp only [World.size_alloc, World.size_setCell, World.size_drew, size_drewN] at *); (try dsimp only); omega)))))).mono ?_; rintro e wx ⟨rfl, hbx⟩) | (go_at_call 17; refine (D6.out _ (HKX.out _ (by (repeat' (first | (with_reducible exact Kept.refl _ _) | (with_reducible assumption) | (with_reducible refine Kept.then_ (by with_reducible assumption) ?_) | (with_reducible refine Kept.thenS (by with_reducible assumption) ?_) | (with_reducible refine Kept.alloc ?_ _) | (with_reducible refine Kept.drew ?_) | (with_reducible refine Kept.drewN ?_ _) | (with_reducible refine Kept.setNew ?_ ?_ _) | ((try simp only [World.size_alloc, World.size_setCell, World.size_drew, size_drewN] at *); (try dsimp only); omega)))))).mono ?_; rintro e wx ⟨rfl, hbx⟩) | (go_at_call 16; refine (D7.out _ _ (HAD.out _ (by (repeat' (first | (with_reducible exact Kept.refl _ _) | (with_reducible assumption) | (with_reducible refine Kept.then_ (by with_reducible assumption) ?_) | (with_reducible refine Kept.thenS (by with_reducible assumption) ?_) | (with_reducible refine Kept.alloc ?_ _) | (with_reducible refine Kept.drew ?_) | (with_reducible refine Kept.drewN ?_ _) | (with_reducible refine Kept.setNew ?_ ?_ _) | ((try simp only [World.size_alloc, World.size_setCell, World.size_drew, size_drewN] at *); (try dsimp only); omega)))))).mono ?_; rintro e wx ⟨⟨A', c', rfl⟩, hbx⟩))
            all_goals
              have hkE : Kept [] wD wx := by (repeat' (first | (with_reducible exact Kept.refl _ _) | (with_reducible assumption) | (with_reducible refine Kept.then_ (by with_reducible assumption) ?_) | (with_reducible refine Kept.thenS (by with_reducible assumption) ?_) | (with_reducible refine Kept.alloc ?_ _) | (with_reducible refine Kept.drew ?_) | (with_reducible refine Kept.drewN ?_ _) | (with_reducible refine Kept.setNew ?_ ?_ _) | ((try simp only [World.size_alloc, World.size_setCell, World.size_drew, size_drewN] at *); (try dsimp only); omega)))
              have AE := Lib.hid (HAD.out wx hkE)
              have BE := Lib.hid (BD.out.keep0 hkE)
              have KE := Lib.hid (HKX.out wx hkE)
              have be0 := BE.out.cell 0
              have be1 := BE.out.cell 1
              have bel := BE.out.lt
              clear s1 s2 s3 hkE bd1 bdl
              go_wp2_with fail
              (refine (D8.out _ _ AE.out).mono ?_)
              rintro e wF ⟨rfl, hkF, hWF⟩
              have BF := Lib.hid (blkX BE.out hkF (by simp))
              have KF := Lib.hid (KE.out.trans (KeptX.less hkF))
              have WF := Lib.hid hWF
              have bf0 := BF.out.cell 0
              have bf1 := BF.out.cell 1
              have bfl := BF.out.lt
              have hszF : wx.heap.size ≤ wF.heap.size := hkF.1
              clear hkF hWF be0 be1 bel
              have D9F : Hid (∀ w', Kept [] wF w' → Calls Try.prog 18 #[.slice (some ⟨g, 0, none⟩) ls.length c, .agg #[.int .i64 ra, .int .i64 rn]] w' fun e w'' => e = .returned (.int .i64 Q) ∧ Kept [] w' w'') := Lib.hid (fun w' hk => D9.out w' (KF.out.trans ⟨hk.size, fun x hx => hk.block x (by
                have := AE.out
                obtain ⟨a, _, _, _, _, _, _, h7⟩ := AE.out
                have h8 := h7.2.2 x (by simp [hx])
                have h9 := hszF
                omega) (by simp)⟩))
              by_cases hQr : (Q : Int) = ra
              · subst hQr
                go_wp2_with fail
                refine wp_region_kept (by kernel_rfl) (by kernel_rfl) ?_
                intro TT FF hne hFF hcl
                have z0 := fun x => (BF.out.keep0 (hFF x)).cell 0
                have z1 := fun x => (BF.out.keep0 (hFF x)).cell 1
                have zl := fun x => (BF.out.keep0 (hFF x)).lt
                have DQ := fun x => D9F.out _ (hFF x)
                repeat (first | go_big_quiet_step ((go_at_call 18; (with_reducible refine kept_call hcl (DQ _)))) | quiet_step ((go_at_call 18; (with_reducible refine kept_call hcl (DQ _)))))
                refine wpQuiet_nil ?_
                rintro w9 ⟨x, hx⟩
                have hk9 := hFF x
                rw [← hx] at hk9
                clear hx x hne hFF hcl z0 z1 zl DQ
                go_wp2_with fail
                go_ret
                exact ⟨rfl, (hk9.then_ WF.out).below⟩
              · have hQb : ((Q : Int) == ra) = false := by rw [beq_eq_false_iff_ne]; exact hQr
                go_wp2_with fail
                refine wp_region_kept (by kernel_rfl) (by kernel_rfl) ?_
                intro TT FF hne hFF hcl
                have z0 := fun x => (BF.out.keep0 (hFF x)).cell 0
                have z1 := fun x => (BF.out.keep0 (hFF x)).cell 1
                have zl := fun x => (BF.out.keep0 (hFF x)).lt
                have DQ := fun x => D9F.out _ (hFF x)
                repeat (first | go_big_quiet_step ((go_at_call 18; (with_reducible refine kept_call hcl (DQ _)))) | quiet_step ((go_at_call 18; (with_reducible refine kept_call hcl (DQ _)))))
                refine wpQuiet_nil ?_
                rintro w9 ⟨x, hx⟩
                have hk9 := hFF x
                rw [← hx] at hk9
                clear hx x hne hFF hcl z0 z1 zl DQ
                go_wp2_with fail
                go_ret
                exact ⟨rfl, (hk9.then_ WF.out).below⟩
  · have q0 : decide (64 < (ys.length : Int)) = true := by simp; omega
    go_enter Try.func5, Try.ntmps5
    go_wp2_with fail
    (with_reducible refine (C1.out).mono ?_)
    rintro e w1 ⟨rfl, hb1⟩
    have hs1 := hb1.size
    (try simp only [World.size_alloc, World.size_setCell, World.size_drew, size_drewN] at hs1)
    go_wp2_with fail
    (with_reducible refine (C2.out _ hb1).mono ?_)
    rintro e w2 ⟨p, rfl, hs2⟩
    have K := Lib.hid hs2.kept
    clear hs2 hb1
    go_wp2_with fail
    go_ret
    exact ⟨rfl, K.out.below⟩
theorem own : ownKnob Try.prog.godebug = none := by kernel_rfl
theorem laidOut : laidOutB Try.prog = true := by kernel_rfl
set_option maxRecDepth 100000 in
theorem lifted (os : Os) (started : os.Started) (H : Type) (enc : TypeId × Value → H) :
    ReturnsInHanded {} Try.checked os 5 .any (Rows.arenaBackSpec.pre6 enc Try.prog Try.f5 Rows.arenaBackRow.domain false) (Rows.arenaBackSpec.post enc Try.prog Try.f5 false true false false) := by
  refine returnsInHanded_of_change (C := Try.checked) own started (by kernel_rfl) Try.func5
    (ChangeSpec.witness6 (enc := enc) (C := Try.checked) false ⟨#[], #[.slice none 0 0, .int .u8 0], []⟩ 8 (by kernel_rfl) (by kernel_rfl) (by kernel_rfl) (by kernel_rfl)) ?_
  intro W base args ds gs before hval0 hW hcnd _
  have hval : ∀ (j : Nat) t v, Try.f5.params[j]? = some t → args[j]? = some v → Value.okWide Try.prog W .any base t v := hval0
  have hW' := hW
  obtain ⟨p, q, hA0, hV, rfl, hfz, hnd⟩ := hW
  have hA : DataW.TrodAll enc Try.prog W 0 (fun _ => true) true Try.f5.params.toList args.toList ds p := hA0
  rw [Try.params5] at hA hval
  obtain ⟨v0, vs0, d0, ds0, p0, q0, hargs, rfl, rfl, h0, r0⟩ := trodAll_cons hA
  obtain ⟨v1, vs1, d1, ds1, p1, q1, rfl, rfl, rfl, h1, r1⟩ := trodAll_cons r0
  obtain ⟨rfl, rfl, rfl⟩ := trodAll_nil r1
  obtain rfl : args = #[v0, v1] := by cases args; simp_all
  obtain ⟨rfl, rfl⟩ := trodVars_none hV
  have k0 := h0
  have lt0 : ∀ x ∈ p0, x.block < W.heap.size := by obtain ⟨m, hm⟩ := k0; exact DataW.trod_lt m _ _ _ hm
  obtain ⟨a0, len0, cap0, rfl⟩ := okWide_slice Try.underlying35 (hval 0 35 v0 rfl rfl)
  obtain ⟨z0, w0⟩ := isRow_of Try.underlying35 Try.underlying5 (by kernel_rfl) h0
  obtain ⟨a1, rfl, rfl, rfl, w1⟩ := open_int Try.underlying5 (hval 1 5 v1 rfl rfl) h1
  clear hA0 hval0
  refine (walk a0 len0 cap0 z0 a1 W w0 w1).mono fun e W' ⟨he, bel⟩ => ?_
  subst he
  exact ⟨_, rfl, _, _, _, [], _, [], hW', trodAll_mk1 (shut_bool Try.underlying4 _), (trodAll_cons_mk (Below.trod laidOut (by kernel_rfl) (of_decide_eq_true (by kernel_rfl)) k0 bel lt0) (trodAll_cons_mk (shut_int Try.underlying5 w1) trodAll_mk0)), rfl, bel.frame _, fun h => by cases h⟩
theorem over : Rows.arenaBackRow.holds Try.pinned (OpenSpec.ofChange Rows.arenaBackSpec) :=
  OpenClaim.holds_of_wide 5 Try.f5 rfl rfl rfl rfl rfl rfl rfl ⟨rfl, rfl, rfl, rfl, rfl⟩ rfl rfl rfl rfl rfl (by kernel_rfl) Try.func5 (by kernel_rfl)
    (of_decide_eq_true (by kernel_rfl)) (by unfold Func.isWrapper; first | (rw [if_pos (by decide +kernel)]; kernel_rfl) | (rw [if_neg (by decide +kernel)]; exact ⟨rfl, rfl⟩))
    (fun os started H enc _ => lifted os started H enc)
theorem proved : Rows.ArenaBackSaid := over
#print axioms proved
end Go.Proofs.Ytekblfnemcaaeaa.ArenaBack
