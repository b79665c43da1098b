/- Runs one behind the other don't meet; one that is moved by less than its end does. -/
import Derived.Test.YtfmgeidlbekfpaaGeoMt
import Derived.Deep.RegionHeld3
set_option linter.unusedVariables false
set_option linter.unusedSimpArgs false
namespace Go.Proofs.Ytfmgeidlbekfpaa.GeoApart
open Go.RowKit
def szF (ys : List Int) (i : Nat) : Int := ys[i]?.getD 0 % 40 + 1
def nF (ys : List Int) (i : Nat) : Int := ys[i]?.getD 0 % 5 + 1
def atF (ys : List Int) : Nat → Int
  | 0 => 300
  | i + 1 => atF ys i + nF ys i * szF ys i
def runF (ys : List Int) (i : Nat) : RunT := (atF ys i, szF ys i, nF ys i)
def lsF (ys : List Int) (n : Nat) : List RunT := (List.range n).map (runF ys)
theorem szF_b (ys : List Int) (i : Nat) : 1 ≤ szF ys i ∧ szF ys i ≤ 40 := by unfold szF; omega
theorem nF_b (ys : List Int) (i : Nat) : 1 ≤ nF ys i ∧ nF ys i ≤ 5 := by unfold nF; omega
theorem step_b (ys : List Int) (i : Nat) : 1 ≤ nF ys i * szF ys i ∧ nF ys i * szF ys i ≤ 200 := by
  have h1 := szF_b ys i
  have h2 := nF_b ys i
  have a : 1 * 1 ≤ nF ys i * szF ys i := Int.mul_le_mul (by omega) (by omega) (by omega) (by omega)
  have b : nF ys i * szF ys i ≤ 5 * 40 := Int.mul_le_mul (by omega) (by omega) (by omega) (by omega)
  omega
theorem atF_b (ys : List Int) (i : Nat) : 300 ≤ atF ys i ∧ atF ys i ≤ 300 + 200 * i := by
  induction i with
  | zero => simp [atF]
  | succ i ih =>
    have := step_b ys i
    simp only [atF]
    omega
theorem atF_lt (ys : List Int) {i j : Nat} (h : i < j) : atF ys (i + 1) ≤ atF ys j := by
  induction j with
  | zero => omega
  | succ j ih =>
    rcases Nat.lt_or_ge i j with h1 | h1
    · have := ih h1
      have := step_b ys j
      simp only [atF] at *
      omega
    · obtain rfl : i = j := by omega
      exact Int.le_refl _
theorem may_f (ys : List Int) (i : Nat) (h : i ≤ 100) : MayP (atF ys i) (szF ys i) (nF ys i) := by
  have h1 := szF_b ys i
  have h2 := nF_b ys i
  have h3 := step_b ys i
  have h4 := atF_b ys i
  unfold MayP
  omega
theorem end_f (ys : List Int) (i : Nat) (h : i ≤ 100) : endV (atF ys i) (szF ys i) (nF ys i) = atF ys (i + 1) := by
  unfold endV
  rw [if_pos (may_f ys i h)]
  rfl
theorem lsF_len (ys : List Int) (n : Nat) : (lsF ys n).length = n := by simp [lsF]
theorem lsF_get (ys : List Int) {n i : Nat} (h : i < n) : (lsF ys n)[i]? = some (runF ys i) := by
  unfold lsF
  rw [List.getElem?_map, List.getElem?_range h]
  rfl
theorem lsF_rd (ys : List Int) {n i : Nat} (h : i < n) : rd (lsF ys n) i = runF ys i := by unfold rd; rw [lsF_get ys h]; rfl
theorem lsF_succ (ys : List Int) (n : Nat) : lsF ys (n + 1) = lsF ys n ++ [runF ys n] := by unfold lsF; rw [List.range_succ, List.map_append]; rfl
theorem lsF_ok (ys : List Int) (n : Nat) : ∀ r, r ∈ lsF ys n → 0 ≤ r.1 ∧ 0 ≤ r.2.1 := by
  intro r hr
  unfold lsF at hr
  rw [List.mem_map] at hr
  obtain ⟨i, _, rfl⟩ := hr
  have h1 := szF_b ys i
  have h4 := atF_b ys i
  unfold runF
  dsimp only
  omega
theorem sep_ls (ys : List Int) (n : Nat) (h : n ≤ 60) : Sep (lsF ys n) := by
  unfold Sep
  rw [List.pairwise_iff_getElem]
  intro i j hi hj hij
  have hi' : i < n := by rwa [lsF_len] at hi
  have hj' : j < n := by rwa [lsF_len] at hj
  have e1 : (lsF ys n)[i] = runF ys i := by have := lsF_get ys hi'; rw [List.getElem?_eq_getElem hi] at this; exact Option.some.inj this
  have e2 : (lsF ys n)[j] = runF ys j := by have := lsF_get ys hj'; rw [List.getElem?_eq_getElem hj] at this; exact Option.some.inj this
  rw [e1, e2]
  have h1 := atF_lt ys hij
  unfold ov runF
  dsimp only
  rw [end_f ys i (by omega), decide_eq_false (p := atF ys j < atF ys (i + 1)) (by omega), Bool.and_false]
theorem sep_rev (ys : List Int) (n : Nat) (h : n ≤ 60) : Sep (lsF ys n).reverse := (sep_perm (List.reverse_perm _)).2 (sep_ls ys n h)
theorem rev_take (xs : List RunT) (c : Nat) (h : c < xs.length) : xs.reverse.take (c + 1) = xs.reverse.take c ++ [rd xs (xs.length - 1 - c)] := by
  rw [List.take_add_one, List.getElem?_reverse h]
  unfold rd
  rw [List.getElem?_eq_getElem (by omega)]; rfl
/-- The moved one meets the one ahead. -/
theorem ov_moved (ys : List Int) (k : Nat) (b : Int) (hk : k + 1 ≤ 60) (hb : 1 ≤ b ∧ b ≤ atF ys (k + 1) - atF ys k) : ov (atF ys (k + 1) - b, szF ys (k + 1), nF ys (k + 1)) (runF ys k) = true := by
  have h1 := szF_b ys (k + 1)
  have h2 := nF_b ys (k + 1)
  have h3 := step_b ys (k + 1)
  have h4 := atF_b ys (k + 1)
  have h5 := atF_b ys k
  have h6 := nF_b ys k
  have hm : MayP (atF ys (k + 1) - b) (szF ys (k + 1)) (nF ys (k + 1)) := by unfold MayP; omega
  have hm' := may_f ys k (by omega)
  have d1 : dropP (atF ys (k + 1) - b, szF ys (k + 1), nF ys (k + 1)) = false := by
    unfold dropP
    rw [decide_eq_true hm]
    have : nF ys (k + 1) ≠ 0 := by omega
    simpa using this
  have d2 : dropP (runF ys k) = false := by
    unfold dropP runF
    rw [decide_eq_true hm']
    have : nF ys k ≠ 0 := by omega
    simpa using this
  have e1 : endV (runF ys k).1 (runF ys k).2.1 (runF ys k).2.2 = atF ys (k + 1) := end_f ys k (by omega)
  have e2 : endV (atF ys (k + 1) - b) (szF ys (k + 1)) (nF ys (k + 1)) = atF ys (k + 1) - b + nF ys (k + 1) * szF ys (k + 1) := by unfold endV; rw [if_pos hm]
  have e3 : (runF ys k).1 = atF ys k := rfl
  unfold ov
  rw [d1, d2, e1, e2, e3, decide_eq_true (p := atF ys (k + 1) - b < atF ys (k + 1)) (by omega), decide_eq_true (p := atF ys k < _) (by omega)]
  rfl
theorem not_sep_two {x y : RunT} (h : ov x y = true) : ¬ Sep [x, y] := by unfold Sep; simp [h]
theorem not_sep_set {xs : List RunT} {k : Nat} {x y : RunT} (hk : k + 1 < xs.length) (hy : rd xs k = y) (h : ov x y = true) : ¬ Sep (xs.set (k + 1) x) := by
  intro hs
  unfold Sep at hs
  rw [List.pairwise_iff_getElem] at hs
  have := hs k (k + 1) (by simp; omega) (by simp; omega) (by omega)
  rw [List.getElem_set_ne (by omega), List.getElem_set_self, ov_symm] at this
  have e : xs[k] = y := by rw [← hy]; unfold rd; rw [List.getElem?_eq_getElem (by omega)]; rfl
  rw [e, h] at this
  cases this
theorem set_same {cur : Array Value} {j : Nat} {v : Value} (h : cur[j]? = some v) : cur.setIfInBounds j v = cur := by
  apply Array.ext_getElem?
  intro i
  rw [Array.getElem?_setIfInBounds]
  by_cases e : j = i
  · subst e
    rw [if_pos rfl, h]
    have := (Array.getElem?_eq_some_iff.1 h).1
    simp [this]
  · rw [if_neg e]
theorem cur_from {cur : Array Value} {ds : List RunT} (h : CurR cur ds) {i : Nat} (hi : i < ds.length) (f s n : Int) (hr : (rd ds i).2 = (s, n)) : CurR (cur.setIfInBounds (i * 3) (.int .u64 f)) (ds.set i (f, s, n)) := by
  have h1 := h.set hi f s n
  obtain ⟨_, a1, a2⟩ := h i hi
  rw [hr] at a1 a2
  have b1 : (cur.setIfInBounds (i * 3) (.int .u64 f))[i * 3 + 1]? = some (.int .u64 s) := by rw [Array.getElem?_setIfInBounds_ne (by omega)]; exact a1
  rw [set_same b1] at h1
  have b2 : (cur.setIfInBounds (i * 3) (.int .u64 f))[i * 3 + 2]? = some (.int .i64 n) := by rw [Array.getElem?_setIfInBounds_ne (by omega)]; exact a2
  rw [set_same b2] at h1
  exact h1
theorem row_cur {w : World} {g : Nat} {cur : Array Value} {ds : List RunT} (hb : Blk w g 43 cur) (hc : CurR cur ds) : RowS encR w (some ⟨g, 0, none⟩) ds := fun h0 => ⟨_, rfl, hb.lt, fun j u hu => by
  rw [Addr.add_lit, hb.cell, Nat.zero_add]
  have hj : j < ds.length * 3 := by
    have := (List.getElem?_eq_some_iff.1 hu).1
    rwa [encR_k.flat_len] at this
  rw [flat_q ds j hj] at hu
  obtain ⟨a0, a1, a2⟩ := hc (j / 3) (by omega)
  have : j % 3 = 0 ∨ j % 3 = 1 ∨ j % 3 = 2 := by omega
  rcases this with e | e | e
  · rw [e] at hu
    have hj' : j / 3 * 3 = j := by omega
    rw [hj'] at a0
    rw [a0, ← hu]; simp [encR]
  · rw [e] at hu
    have hj' : j / 3 * 3 + 1 = j := by omega
    rw [hj'] at a1
    rw [a1, ← hu]; simp [encR]
  · rw [e] at hu
    have hj' : j / 3 * 3 + 2 = j := by omega
    rw [hj'] at a2
    rw [a2, ← hu]; simp [encR]⟩
theorem row_one {w : World} {b : Nat} {f s n : Int} (hb : Blk w b 43 #[.int .u64 f, .int .u64 s, .int .i64 n]) : RowS encR w (some ⟨b, 0, none⟩) [(f, s, n)] := fun _ => ⟨_, rfl, hb.lt, fun j u hu => by
  rw [Addr.add_lit, hb.cell]
  simpa [encR] using hu⟩
theorem row_two {w : World} {b : Nat} {f s n f' s' n' : Int} (hb : Blk w b 43 #[.int .u64 f, .int .u64 s, .int .i64 n, .int .u64 f', .int .u64 s', .int .i64 n']) : RowS encR w (some ⟨b, 0, none⟩) [(f, s, n), (f', s', n')] := fun _ => ⟨_, rfl, hb.lt, fun j u hu => by
  rw [Addr.add_lit, hb.cell]
  simpa [encR] using hu⟩
set_option maxRecDepth 100000 in
set_option maxHeartbeats 8000000 in
theorem walk (a0 : Option Addr) (len0 cap0 : Nat) (z0 : List Int) (a1 a2 : Int) (W : World) (w0 : IsRow .u8 W a0 len0 cap0 z0) (w1 : (Lit.int .u8 a1).wf = true) (w2 : (Lit.int .u8 a2).wf = true) :
    Calls Try.prog 8 #[.slice a0 len0 cap0, .int .u8 a1, .int .u8 a2] W fun e W' => e = .returned (.bool true) ∧ Below W.heap.size W W' := by
  obtain ⟨i0, hi, hz0, hz1, hz2⟩ := info_parts info_run
  obtain ⟨ys, hl, hr, _, hwf, hlc, hcm⟩ := w0.seen
  have b1 := bounds_u8 w1
  have b2 := bounds_u8 w2
  have HZ : Hid (∀ i : Nat, 0 ≤ ys[i]?.getD 0 ∧ ys[i]?.getD 0 ≤ 255) := Lib.hid (fun i => by
    rcases Nat.lt_or_ge i ys.length with h | h
    · rw [List.getElem?_eq_getElem h]
      exact bounds_u8 (hwf _ (List.getElem_mem h))
    · rw [List.getElem?_eq_none h]; exact ⟨by decide, by decide⟩)
  have HR := Lib.hid hr
  subst hl
  clear w0 w1 w2 hwf hr hcm
  by_cases h60 : 60 < (ys.length : Int)
  · go_enter Try.func8, Try.ntmps8
    go_wp2_with fail
    (with_reducible refine (alive_any _).mono ?_)
    rintro e w1 ⟨rfl, hb1⟩
    have hs1 := hb1.size
    (try simp only [World.size_alloc, World.size_setCell, World.size_drew, size_drewN] at hs1)
    go_wp2_with fail
    go_ret
    exact ⟨rfl, Kept.below (by (repeat' (first | (with_reducible exact Kept.refl _ _) | (with_reducible assumption) | (with_reducible refine Kept.then_ (by with_reducible assumption) ?_) | (with_reducible refine Kept.thenS (by with_reducible assumption) ?_) | (with_reducible refine Kept.alloc ?_ _) | (with_reducible refine Kept.drew ?_) | (with_reducible refine Kept.drewN ?_ _) | (with_reducible refine Kept.setNew ?_ ?_ _) | ((try simp only [World.size_alloc, World.size_setCell, World.size_drew, size_drewN] at *); (try dsimp only); omega))))⟩
  go_enter Try.func8, Try.ntmps8
  go_wp2_with fail
  (with_reducible refine (alive_any _).mono ?_)
  rintro e w1 ⟨rfl, hb1⟩
  have hs1 := hb1.size
  (try simp only [World.size_alloc, World.size_setCell, World.size_drew, size_drewN] at hs1)
  go_wp2_with fail
  go_loopw [7, 9, 23] (fun v7 v9 v23 wr => ∃ (i : Nat) (s7 : Value), s7 = v7 ∧ i ≤ ys.length ∧ v9 = .int .u64 (atF ys i) ∧ v23 = .int .i64 i ∧ Hid (OwnS W.heap.size 43 3 encR wr s7 (lsF ys i)) ∧ Hid (Kept [] W wr)) (fun _ _ v23 _ => ys.length - (intOf v23).toNat)
  case atStart => exact ⟨0, _, rfl, Nat.zero_le _, rfl, rfl, Lib.hid (OwnS.nil _ _ _), Lib.hid hb1⟩
  case round =>
    obtain ⟨i, s3, h3, hin, rfl, rfl, hown, hkw⟩ := hrel
    subst h3
    by_cases hlt : i < ys.length
    · obtain ⟨x, rfl, hxb, hxc⟩ := HR.out.keep hkw.out (by omega)
      have c0 := hxc i hlt
      clear hxc
      have hzz := HZ.out i
      have hab := atF_b ys i
      have hsb := step_b ys i
      have h1b := szF_b ys i
      have h2b := nF_b ys i
      have HSN : Hid (lsF ys (i + 1) = lsF ys i ++ [(atF ys i, szF ys i, nF ys i)]) := Lib.hid (lsF_succ ys i)
      have HEN : Hid (atF ys (i + 1) = atF ys i + nF ys i * szF ys i) := Lib.hid rfl
      have DE := Lib.hid (end_any (atF ys i) (szF ys i) (nF ys i) (by omega) (by omega))
      rw [if_pos (may_f ys i (by omega)), ← HEN.out] at DE
      have hs : szF ys i = ys[i]?.getD 0 % 40 + 1 := rfl
      have hn : nF ys i = ys[i]?.getD 0 % 5 + 1 := rfl
      rw [hs, hn] at DE HSN
      rw [hs] at h1b
      rw [hn] at h2b
      rw [hs, hn] at hsb
      clear hs hn HEN hsb
      generalize ys[i]?.getD 0 = y at *
      obtain ⟨at1, hat1⟩ : ∃ z, z = atF ys (i + 1) := ⟨_, rfl⟩
      rw [← hat1] at DE
      have HAT := Lib.hid hat1
      clear hat1
      have hat2 := (atF_b ys (i + 1)).1
      generalize atF ys i = at0 at *
      have BX : Hid (Blk (wr.alloc (.cells #[.int .u64 at0, .int .u64 (y % 40 + 1), .int .i64 (y % 5 + 1)] 43)) wr.heap.size 43 #[.int .u64 at0, .int .u64 (y % 40 + 1), .int .i64 (y % 5 + 1)]) := Lib.hid (Blk.new _ _ _)
      have HTL := Lib.hid (lsF_len ys i)
      go_wp2_with fail
      (with_reducible refine (DE.out _).mono ?_)
      rintro e w2 ⟨rfl, hb2⟩
      have B2 := Lib.hid (BX.out.keep0 hb2)
      have r0 := B2.out.cell 0
      have r1 := B2.out.cell 1
      have r2 := B2.out.cell 2
      have rl := B2.out.lt
      have K1 : Hid (Kept [] wr (w2.alloc (.cells #[.int .u64 at0, .int .u64 (y % 40 + 1), .int .i64 (y % 5 + 1)] 43))) := Lib.hid ((hb2.then_ ((Kept.refl [] wr).alloc _)).alloc _)
      have OY : Hid (OwnS W.heap.size 43 3 encR (w2.alloc (.cells #[.int .u64 at0, .int .u64 (y % 40 + 1), .int .i64 (y % 5 + 1)] 43)) s3 (lsF ys i)) := Lib.hid (hown.out.keep K1.out)
      have KW : Hid (Kept [] W (w2.alloc (.cells #[.int .u64 at0, .int .u64 (y % 40 + 1), .int .i64 (y % 5 + 1)] 43))) := Lib.hid (K1.out.then_ hkw.out)
      have BY : Hid (Blk (w2.alloc (.cells #[.int .u64 at0, .int .u64 (y % 40 + 1), .int .i64 (y % 5 + 1)] 43)) w2.heap.size 43 #[.int .u64 at0, .int .u64 (y % 40 + 1), .int .i64 (y % 5 + 1)]) := Lib.hid (Blk.new _ _ _)
      have HS2 : Hid (W.heap.size ≤ (w2.alloc (.cells #[.int .u64 at0, .int .u64 (y % 40 + 1), .int .i64 (y % 5 + 1)] 43)).heap.size) := Lib.hid KW.out.size
      clear hb2
      go_wp2_with (refine app_S encR_k 55 43 i0 _ 24 Try.underlying55 hi hz0 hz1 hz2 rfl (by omega) (by rfl) (.tmp 39) (.tmp 41) rfl W W.heap.size s3 (lsF ys i) [(at0, y % 40 + 1, y % 5 + 1)] rfl OY.out (some ⟨w2.heap.size, 0, none⟩) 1 1 rfl rfl (fun h => by cases h) (row_one BY.out) KW.out (Nat.le_refl _) HS2.out (by rw [HTL.out]; simp; omega) ?_)
      intro v2 w3 own2 hk2 hg2 hs2
      rw [← HSN.out] at own2
      have O2 := Lib.hid own2
      have K2 := Lib.hid hk2
      clear own2 hg2 hk2 hs2
      go_wp2_with fail
      go_roundw
      case rel => exact ⟨i + 1, _, rfl, by omega, by rw [← HAT.out], by go_num, O2, K2⟩
      case measure => simp [intOf]; omega
    · obtain rfl : i = ys.length := by omega
      have HLL := Lib.hid (lsF_len ys ys.length)
      have h60' : ys.length ≤ 60 := by omega
      have hab := atF_b ys ys.length
      obtain ⟨at9, hat9⟩ : ∃ z, atF ys ys.length = z := ⟨_, rfl⟩
      rw [hat9] at hab ⊢
      clear hat9
      obtain ⟨wL, hwL⟩ : ∃ wL, wL = wr := ⟨_, rfl⟩
      subst hwL
      rcases hown.out.2 with ⟨hs3, h0⟩ | ⟨g, cap, cur0, hs3, hBg, _⟩
      · subst hs3
        have hyl : ys.length = 0 := by rw [HLL.out] at h0; exact h0
        have DM : Hid (∀ w, Calls Try.prog 25 #[.slice none 0 0] w fun e w' => e = .returned (.bool false) ∧ Kept [] w w') := Lib.hid (fun w => meet_any none 0 0 [] w rfl (fun _ => rfl) (RowS.nil _ _) (by simp) (by omega))
        clear h0 hown
        go_wp2_with fail
        go_loopw [8, 13] (fun v8 v13 wq => v8 = .slice none 0 0 ∧ v13 = .int .i64 (-1) ∧ Hid (Kept [] W wq)) (fun _ _ _ => 0)
        case atStart => exact ⟨rfl, by first | rfl | go_num, hkw⟩
        case round =>
          obtain ⟨rfl, rfl, hkq⟩ := hrel
          go_wp2_with fail
          (with_reducible refine (DM.out _).mono ?_)
          rintro e w2 ⟨rfl, hb2⟩
          have K2 := Lib.hid (hb2.then_ hkq.out)
          clear hb2
          go_wp2_with fail
          (with_reducible refine (DM.out _).mono ?_)
          rintro e w3 ⟨rfl, hb3⟩
          have K3 := Lib.hid (hb3.then_ K2.out)
          clear hb3
          go_wp2_with fail
          go_ret
          exact ⟨rfl, Kept.below K3.out⟩
      · rw [HLL.out] at hs3
        subst hs3
        obtain ⟨hxx, hnc, hcm, _, cur, hB, hS, hC⟩ := hown.out.cur
        clear hxx
        have HB := Lib.hid hB
        have HC := Lib.hid hC
        have HS := Lib.hid hS
        have hgl := hB.lt
        have HCM := Lib.hid hcm
        clear hB hC hS hcm
        have DM : Hid (∀ w, Kept [] wL w → Calls Try.prog 25 #[.slice (some ⟨g, 0, none⟩) ys.length cap] w fun e w' => e = .returned (.bool false) ∧ Kept [] w w') := Lib.hid (fun w hk => by
          have := meet_any (some ⟨g, 0, none⟩) ys.length cap (lsF ys ys.length) w HLL.out.symm (fun h => by cases h) (row_cur (HB.out.keep0 hk) HC.out) (lsF_ok ys _) (by omega)
          rwa [decide_eq_true (sep_ls ys ys.length h60')] at this)
        go_wp2_with fail
        go_loopw [8, 13] (fun v8 v13 wq => ∃ (c : Nat) (s8 : Value), s8 = v8 ∧ c ≤ ys.length ∧ v13 = .int .i64 ((ys.length : Int) - 1 - c) ∧ Hid (OwnS wL.heap.size 43 3 encR wq s8 ((lsF ys ys.length).reverse.take c)) ∧ Hid (Kept [] wL wq)) (fun _ v13 _ => (intOf v13 + 1).toNat)
        case atStart => exact ⟨0, _, rfl, Nat.zero_le _, by go_num, Lib.hid (OwnS.nil _ _ _), Lib.hid (Kept.refl _ _)⟩
        case round =>
          obtain ⟨c, s8, h8, hcl, rfl, ho8, hkq⟩ := hrel
          subst h8
          by_cases hlt : c < ys.length
          · obtain ⟨k, hk⟩ : ∃ k, ys.length = k + 1 + c := ⟨ys.length - 1 - c, by omega⟩
            have e1 : (ys.length : Int) - 1 - c = k := by omega
            rw [e1]
            have ekl : k < ys.length := by omega
            have HCR : Hid (∀ w, Kept [] wL w → Blk w g 43 cur) := Lib.hid (fun w hk => HB.out.keep0 hk)
            obtain ⟨d0, d1, d2⟩ := HC.out k (by rw [HLL.out]; exact ekl)
            have B1 := Lib.hid (HCR.out _ hkq.out)
            have c0 := (B1.out.cell (k * 3)).trans d0
            have c1 := (B1.out.cell (k * 3 + 1)).trans d1
            have c2 := (B1.out.cell (k * 3 + 2)).trans d2
            have hg2 := B1.out.lt
            clear d0 d1 d2
            have HSN : Hid ((lsF ys ys.length).reverse.take (c + 1) = (lsF ys ys.length).reverse.take c ++ [rd (lsF ys ys.length) k]) := Lib.hid (by
              rw [rev_take _ _ (by rw [HLL.out]; exact hlt), HLL.out, show ys.length - 1 - c = k by omega])
            have HTL : Hid (((lsF ys ys.length).reverse.take c).length = c) := Lib.hid (by rw [List.length_take, List.length_reverse, HLL.out]; omega)
            generalize rd (lsF ys ys.length) k = q at c0 c1 c2 HSN
            obtain ⟨f, s, n⟩ := q
            dsimp only at c0 c1 c2
            have q1 : (0 : Int) ≤ (k : Int) := by omega
            have q2 : (k : Int) < (ys.length : Int) := by omega
            have HX : Hid (ys.length = k + 1 + c) := Lib.hid hk
            clear hk
            have K1 : Hid (Kept [] wL (wr.alloc (.cells #[.int .u64 f, .int .u64 s, .int .i64 n] 43))) := Lib.hid (hkq.out.alloc _)
            have OY : Hid (OwnS wL.heap.size 43 3 encR (wr.alloc (.cells #[.int .u64 f, .int .u64 s, .int .i64 n] 43)) s8 ((lsF ys ys.length).reverse.take c)) := Lib.hid (ho8.out.keep ((Kept.refl [] wr).alloc _))
            have BY : Hid (Blk (wr.alloc (.cells #[.int .u64 f, .int .u64 s, .int .i64 n] 43)) wr.heap.size 43 #[.int .u64 f, .int .u64 s, .int .i64 n]) := Lib.hid (Blk.new _ _ _)
            have HS2 : Hid (wL.heap.size ≤ (wr.alloc (.cells #[.int .u64 f, .int .u64 s, .int .i64 n] 43)).heap.size) := Lib.hid K1.out.size
            go_wp2_with (refine app_S encR_k 55 43 i0 _ 24 Try.underlying55 hi hz0 hz1 hz2 rfl (by omega) (by rfl) (.tmp 51) (.tmp 56) rfl wL wL.heap.size s8 ((lsF ys ys.length).reverse.take c) [(f, s, n)] rfl OY.out (some ⟨wr.heap.size, 0, none⟩) 1 1 rfl rfl (fun h => by cases h) (row_one BY.out) K1.out (Nat.le_refl _) HS2.out (by rw [HTL.out]; simp; omega) ?_)
            intro v2 w3 own2 hk2 hg2 hs2
            rw [← HSN.out] at own2
            have O2 := Lib.hid own2
            have K2 := Lib.hid hk2
            clear own2 hg2 hk2 hs2
            go_wp2_with fail
            go_roundw
            case rel => exact ⟨c + 1, _, rfl, by omega, by go_num, O2, K2⟩
            case measure => first | (simp [intOf]; done) | (simp [intOf]; omega)
          · obtain rfl : c = ys.length := by omega
            have e1 : (ys.length : Int) - 1 - (ys.length : Int) = -1 := by omega
            rw [e1]
            clear e1 hlt
            have HRV : Hid ((lsF ys ys.length).reverse.take ys.length = (lsF ys ys.length).reverse) := Lib.hid (List.take_of_length_le (by rw [List.length_reverse, HLL.out]; exact Nat.le_refl _))
            have HRL : Hid ((lsF ys ys.length).reverse.length = ys.length) := Lib.hid (by rw [List.length_reverse, HLL.out])
            rw [HRV.out] at ho8
            obtain ⟨A8, c8, h8, hA8, hle8, _, hrow8, _⟩ := ho8.out.slice
            rw [HRL.out] at h8 hle8
            subst h8
            have DM8 : Hid (∀ w, Kept [] wr w → Calls Try.prog 25 #[.slice A8 ys.length c8] w fun e w' => e = .returned (.bool false) ∧ Kept [] w w') := Lib.hid (fun w hk => by
              have := meet_any A8 ys.length c8 (lsF ys ys.length).reverse w HRL.out.symm (fun h => by have := hA8 h; omega) (hrow8.keep hk) (fun r hr => lsF_ok ys ys.length r (by simpa using hr)) (by omega)
              rwa [decide_eq_true (sep_rev ys ys.length h60')] at this)
            clear hA8 hrow8 ho8 hle8
            go_wp2_with fail
            (with_reducible refine (DM.out _ hkq.out).mono ?_)
            rintro e w2 ⟨rfl, hb2⟩
            have K2 := Lib.hid (hb2.then_ hkq.out)
            go_wp2_with fail
            (with_reducible refine (DM8.out _ hb2).mono ?_)
            rintro e w3 ⟨rfl, hb3⟩
            have K3 := Lib.hid (hb3.then_ K2.out)
            clear hb3 hb2 K2 DM DM8 hkq
            by_cases h2 : (ys.length : Int) < 2
            · go_wp2_with fail
              go_ret
              exact ⟨rfl, Kept.below (K3.out.then_ hkw.out)⟩
            · have hm : 0 ≤ a1 % ((ys.length : Int) - 1) ∧ a1 % ((ys.length : Int) - 1) < (ys.length : Int) - 1 := ⟨Int.emod_nonneg _ (by omega), Int.emod_lt_of_pos _ (by omega)⟩
              obtain ⟨k, hk⟩ : ∃ k : Nat, a1 % ((ys.length : Int) - 1) = k := ⟨(a1 % ((ys.length : Int) - 1)).toNat, by omega⟩
              have hm2 := hm
              rw [hk] at hm2
              have HK := Lib.hid hk
              clear hk
              have hkl : k + 1 < ys.length := by omega
              have B3 : Hid (Blk w3 g 43 cur) := Lib.hid (HB.out.keep0 K3.out)
              obtain ⟨d0, d1, d2⟩ := HC.out k (by rw [HLL.out]; omega)
              obtain ⟨g0, g1, g2⟩ := HC.out (k + 1) (by rw [HLL.out]; omega)
              have er0 : rd (lsF ys ys.length) k = (atF ys k, szF ys k, nF ys k) := lsF_rd ys (by omega)
              have er1 : rd (lsF ys ys.length) (k + 1) = (atF ys (k + 1), szF ys (k + 1), nF ys (k + 1)) := lsF_rd ys (by omega)
              rw [er0] at d0 d1 d2
              rw [er1] at g0 g1 g2
              dsimp only at d0 d1 d2 g0 g1 g2
              have HD0 := Lib.hid d0
              have HD1 := Lib.hid d1
              have HD2 := Lib.hid d2
              have HG0 := Lib.hid g0
              have HG1 := Lib.hid g1
              have HG2 := Lib.hid g2
              have HE0 := Lib.hid er0
              have HE1 := Lib.hid er1
              have hA0 := atF_b ys k
              have hA1 := atF_b ys (k + 1)
              have hA2 := step_b ys k
              have hA3 : atF ys (k + 1) = atF ys k + nF ys k * szF ys k := rfl
              have hS0 := szF_b ys k
              have DE := Lib.hid (end_any (atF ys k) (szF ys k) (nF ys k) (by omega) (by omega))
              rw [if_pos (may_f ys k (by omega)), ← hA3] at DE
              have hd : 1 ≤ atF ys (k + 1) - atF ys k ∧ atF ys (k + 1) - atF ys k ≤ 200 := by omega
              have hq : 0 ≤ a2 % (atF ys (k + 1) - atF ys k) ∧ a2 % (atF ys (k + 1) - atF ys k) < atF ys (k + 1) - atF ys k := ⟨Int.emod_nonneg _ (by omega), Int.emod_lt_of_pos _ (by omega)⟩
              have HOV : Hid (∀ b : Int, 1 ≤ b ∧ b ≤ atF ys (k + 1) - atF ys k → ov (atF ys (k + 1) - b, szF ys (k + 1), nF ys (k + 1)) (atF ys k, szF ys k, nF ys k) = true) := Lib.hid (fun b hb => ov_moved ys k b (by omega) hb)
              have hS1 := szF_b ys (k + 1)
              clear hA2 hA3 d0 d1 d2 g0 g1 g2 er0 er1
              obtain ⟨at0, ht0⟩ : ∃ z, atF ys k = z := ⟨_, rfl⟩
              obtain ⟨at1, ht1⟩ : ∃ z, atF ys (k + 1) = z := ⟨_, rfl⟩
              rw [ht0] at DE hd hq hA0 HD0 HE0
              rw [ht1] at DE hd hq hA1 HG0 HE1
              simp only [ht0, ht1] at HOV
              have HT0 := Lib.hid ht0
              clear ht0 ht1
              obtain ⟨s0, hs0⟩ : ∃ z, szF ys k = z := ⟨_, rfl⟩
              obtain ⟨n0, hn0⟩ : ∃ z, nF ys k = z := ⟨_, rfl⟩
              rw [hs0] at DE HD1 HE0 hS0 HOV
              rw [hn0] at DE HD2 HE0 HOV
              obtain ⟨s1, hs1⟩ : ∃ z, szF ys (k + 1) = z := ⟨_, rfl⟩
              obtain ⟨n1, hn1⟩ : ∃ z, nF ys (k + 1) = z := ⟨_, rfl⟩
              rw [hs1] at HG1 HE1 HOV hS1
              rw [hn1] at HG2 HE1 HOV
              clear hs1 hn1
              have HS0 := Lib.hid hs0
              have HN0 := Lib.hid hn0
              clear hs0 hn0
              go_wp2_with fail
              rw [HK.out, Int.add_comm 1 (k : Int)]
              have q1 : (0 : Int) ≤ (k : Int) := by omega
              have q2 : (k : Int) < (ys.length : Int) := by omega
              have q3 : (0 : Int) ≤ (k : Int) + 1 := by omega
              have q4 : (k : Int) + 1 < (ys.length : Int) := by omega
              have hD : ((at1 - at0) == 0) = false := by rw [beq_eq_false_iff_ne]; omega
              have E1 : IntKind.u64.wrap (at1 - at0) = at1 - at0 := IntWalk.u64_in _ ⟨by omega, by omega⟩
              have E2 : Int.tmod a2 (at1 - at0) = a2 % (at1 - at0) := Int.tmod_eq_emod_of_nonneg (by omega)
              refine wp_region_kept (by kernel_rfl) (by kernel_rfl) ?_
              intro TT FF hne hFF hcl
              have c00 : ∀ x, (FF x).cell? ⟨g, k * 3, none⟩ = some (.int .u64 at0) := fun x => ((B3.out.keep0 (hFF x)).cell _).trans HD0.out
              have c01 : ∀ x, (FF x).cell? ⟨g, k * 3 + 1, none⟩ = some (.int .u64 s0) := fun x => ((B3.out.keep0 (hFF x)).cell _).trans HD1.out
              have c02 : ∀ x, (FF x).cell? ⟨g, k * 3 + 2, none⟩ = some (.int .i64 n0) := fun x => ((B3.out.keep0 (hFF x)).cell _).trans HD2.out
              repeat (first | go_big_quiet_step ((go_at_call 21; (with_reducible refine kept_call hcl (DE.out _)))) | quiet_step ((go_at_call 21; (with_reducible refine kept_call hcl (DE.out _)))))
              refine wpQuiet_nil ?_
              rintro w5 ⟨x, hx⟩
              have hb5 := hFF x
              rw [← hx] at hb5
              clear hx x hne hFF hcl c00 c01 c02
              have K5 := Lib.hid (hb5.then_ K3.out)
              have B5 := Lib.hid (B3.out.keep0 hb5)
              clear hb5 E1 E2 hD
              have hbb : 1 ≤ 1 + a2 % (at1 - at0) ∧ 1 + a2 % (at1 - at0) ≤ at1 - at0 := by omega
              clear hq
              generalize 1 + a2 % (at1 - at0) = b at hbb ⊢
              have HOB := Lib.hid (HOV.out b hbb)
              have KW5 : Hid (Kept [] W w5) := Lib.hid (K5.out.then_ hkw.out)
              have BS := Lib.hid (Blk.set_ B5.out ((k + 1) * 3) (.int .u64 (at1 - b)))
              have KS := Lib.hid (Kept.setNew KW5.out (p := ⟨g, (k + 1) * 3, none⟩) hBg (.int .u64 (at1 - b)))
              have CS := Lib.hid (cur_from HC.out (i := k + 1) (by rw [HLL.out]; exact hkl) (at1 - b) s1 n1 (by rw [HE1.out]))
              have e0 := (B5.out.cell ((k + 1) * 3)).trans HG0.out
              have ef := B5.out.frozen ((k + 1) * 3)
              have el := B5.out.lt
              have DM1 : Hid (∀ w', Blk w' g 43 (cur.setIfInBounds ((k + 1) * 3) (.int .u64 (at1 - b))) → Calls Try.prog 25 #[.slice (some ⟨g, 0, none⟩) ys.length cap] w' fun e w'' => e = .returned (.bool true) ∧ Kept [] w' w'') := Lib.hid (fun w' hb => by
                have c := meet_any (some ⟨g, 0, none⟩) ys.length cap ((lsF ys ys.length).set (k + 1) (at1 - b, s1, n1)) w' (by rw [List.length_set, HLL.out]) (fun h => by cases h) (row_cur hb CS.out) (fun r hr => by
                  rcases List.mem_or_eq_of_mem_set hr with h | h
                  · exact lsF_ok ys _ r h
                  · subst h; dsimp only; omega) (by omega)
                rwa [decide_eq_false (not_sep_set (by rw [HLL.out]; exact hkl) HE0.out HOB.out)] at c)
              have DM2 : Hid (∀ bk w', Blk w' bk 43 #[.int .u64 (at1 - b), .int .u64 s1, .int .i64 n1, .int .u64 at0, .int .u64 s0, .int .i64 n0] → Calls Try.prog 25 #[.slice (some ⟨bk, 0, none⟩) 2 2] w' fun e w'' => e = .returned (.bool true) ∧ Kept [] w' w'') := Lib.hid (fun bk w' hb => by
                have c := meet_any (some ⟨bk, 0, none⟩) 2 2 [(at1 - b, s1, n1), (at0, s0, n0)] w' rfl (fun h => by cases h) (row_two hb) (fun r hr => by
                  simp at hr
                  rcases hr with h | h <;> subst h <;> dsimp only <;> omega) (by omega)
                rwa [decide_eq_false (not_sep_two HOB.out)] at c)
              have MK : Hid (∀ w', Blk w' g 43 (cur.setIfInBounds ((k + 1) * 3) (.int .u64 (at1 - b))) → Kept [] W w' → (w'.cell? ⟨g, k * 3, none⟩ = some (.int .u64 at0) ∧ w'.cell? ⟨g, k * 3 + 1, none⟩ = some (.int .u64 s0) ∧ w'.cell? ⟨g, k * 3 + 2, none⟩ = some (.int .i64 n0) ∧ w'.cell? ⟨g, (k + 1) * 3, none⟩ = some (.int .u64 (at1 - b)) ∧ w'.cell? ⟨g, (k + 1) * 3 + 1, none⟩ = some (.int .u64 s1) ∧ w'.cell? ⟨g, (k + 1) * 3 + 2, none⟩ = some (.int .i64 n1)) ∧ Blk w' g 43 (cur.setIfInBounds ((k + 1) * 3) (.int .u64 (at1 - b))) ∧ Kept [] W w') := Lib.hid (fun w' hb hk => by
                obtain ⟨x0, x1, x2⟩ := CS.out k (by rw [List.length_set, HLL.out]; omega)
                obtain ⟨y0, y1, y2⟩ := CS.out (k + 1) (by rw [List.length_set, HLL.out]; omega)
                rw [rd_set _ _ _ _ (by rw [HLL.out]; exact hkl), if_neg (by omega), HE0.out] at x0 x1 x2
                rw [rd_set _ _ _ _ (by rw [HLL.out]; exact hkl), if_pos rfl] at y0 y1 y2
                exact ⟨⟨(hb.cell _).trans x0, (hb.cell _).trans x1, (hb.cell _).trans x2, (hb.cell _).trans y0, (hb.cell _).trans y1, (hb.cell _).trans y2⟩, hb, hk⟩)
              clear HD0 HD1 HD2 HG0 HG1 HG2 HE1
              go_wp2_with fail
              generalize cur.setIfInBounds ((k + 1) * 3) (.int .u64 (at1 - b)) = cur2 at BS DM1 MK
              clear e0 ef
              generalize w5.setCell ⟨g, (k + 1) * 3, none⟩ (.int .u64 (at1 - b)) = wS at BS KS ⊢
              have BSo := BS.out
              have KSo := KS.out
              have BSz := BSo.lt
              have F1 : IntKind.i64.wrap ((k : Int)) = (k : Int) := by simp [IntKind.wrap, IntKind.bits, IntKind.signed]; omega
              have F3 : (k : Int) + 1 - 1 = (k : Int) := by omega
              have F2 : IntKind.i64.wrap ((k : Int) + 1 - 1) = (k : Int) := by rw [F3]; exact F1
              have F4 : (0 : Int) ≤ (k : Int) + 1 - 1 := by omega
              have F5 : (k : Int) + 1 - 1 < (ys.length : Int) := by omega
              go_region_held3 (fun w' => (w'.cell? ⟨g, k * 3, none⟩ = some (.int .u64 at0) ∧ w'.cell? ⟨g, k * 3 + 1, none⟩ = some (.int .u64 s0) ∧ w'.cell? ⟨g, k * 3 + 2, none⟩ = some (.int .i64 n0) ∧ w'.cell? ⟨g, (k + 1) * 3, none⟩ = some (.int .u64 (at1 - b)) ∧ w'.cell? ⟨g, (k + 1) * 3 + 1, none⟩ = some (.int .u64 s1) ∧ w'.cell? ⟨g, (k + 1) * 3 + 2, none⟩ = some (.int .i64 n1)) ∧ Blk w' g 43 cur2 ∧ Kept [] W w')
                (exact MK.out _ (by ((with_reducible apply Blk.cast); (case h => (repeat' (first | (with_reducible assumption) | ((with_reducible apply Blk.keep0); (case hk => (with_reducible assumption))) | (with_reducible exact Blk.new _ _ _) | ((with_reducible apply Blk.new'); (case h => (first | (with_reducible rfl) | (simp only [World.size_alloc, World.size_setCell, World.size_drew, size_drewN]; done)))) | (with_reducible apply Blk.alloc) | (with_reducible apply Blk.set_) | ((with_reducible apply Blk.far); (case hp => (simp only []; omega))) | (with_reducible apply Blk.drew) | (with_reducible apply Blk.drewN)))); (case e => rfl))) (by (repeat' (first | (with_reducible exact Kept.refl _ _) | (with_reducible assumption) | (with_reducible refine Kept.then_ (by with_reducible assumption) ?_) | (with_reducible refine Kept.thenS (by with_reducible assumption) ?_) | (with_reducible refine Kept.alloc ?_ _) | (with_reducible refine Kept.drew ?_) | (with_reducible refine Kept.drewN ?_ _) | (with_reducible refine Kept.setNew ?_ ?_ _) | ((try simp only [World.size_alloc, World.size_setCell, World.size_drew, size_drewN] at *); (try dsimp only); omega)))))
                (first | (go_at_call 25; (with_reducible refine (DM1.out _ (by ((with_reducible apply Blk.cast); (case h => (repeat' (first | (with_reducible assumption) | ((with_reducible apply Blk.keep0); (case hk => (with_reducible assumption))) | (with_reducible exact Blk.new _ _ _) | ((with_reducible apply Blk.new'); (case h => (first | (with_reducible rfl) | (simp only [World.size_alloc, World.size_setCell, World.size_drew, size_drewN]; done)))) | (with_reducible apply Blk.alloc) | (with_reducible apply Blk.set_) | ((with_reducible apply Blk.far); (case hp => (simp only []; omega))) | (with_reducible apply Blk.drew) | (with_reducible apply Blk.drewN)))); (case e => rfl)))).mono ?_); rintro e wx ⟨rfl, hbx⟩) | (go_at_call 25; (with_reducible refine (DM2.out _ _ (by ((with_reducible apply Blk.cast); (case h => (repeat' (first | (with_reducible assumption) | ((with_reducible apply Blk.keep0); (case hk => (with_reducible assumption))) | (with_reducible exact Blk.new _ _ _) | ((with_reducible apply Blk.new'); (case h => (first | (with_reducible rfl) | (simp only [World.size_alloc, World.size_setCell, World.size_drew, size_drewN]; done)))) | (with_reducible apply Blk.alloc) | (with_reducible apply Blk.set_) | ((with_reducible apply Blk.far); (case hp => (simp only []; omega))) | (with_reducible apply Blk.drew) | (with_reducible apply Blk.drewN)))); (case e => rfl)))).mono ?_); rintro e wx ⟨rfl, hbx⟩))
              all_goals
                go_wp2_with fail
                go_ret
                exact ⟨rfl, Kept.below (by (repeat' (first | (with_reducible exact Kept.refl _ _) | (with_reducible assumption) | (with_reducible refine Kept.then_ (by with_reducible assumption) ?_) | (with_reducible refine Kept.thenS (by with_reducible assumption) ?_) | (with_reducible refine Kept.alloc ?_ _) | (with_reducible refine Kept.drew ?_) | (with_reducible refine Kept.drewN ?_ _) | (with_reducible refine Kept.setNew ?_ ?_ _) | ((try simp only [World.size_alloc, World.size_setCell, World.size_drew, size_drewN] at *); (try dsimp only); omega))))⟩
end Go.Proofs.Ytfmgeidlbekfpaa.GeoApart
namespace Go.Proofs.Ytfmgeidlbekfpaa.GeoApart
open Go.RowKit Go.ChangeShapes Go.WideShapes Go.ChangeAt Go.Joins
theorem own : ownKnob Try.prog.godebug = none := by kernel_rfl
theorem laidOut : laidOutB Try.prog = true := by kernel_rfl
set_option maxRecDepth 100000 in
theorem lifted (os : Os) (started : os.Started) (H : Type) (enc : TypeId × Value → H) :
    ReturnsInHanded {} Try.checked os 8 .any (Rows.geoApartSpec.pre6 enc Try.prog Try.f8 Rows.geoApartRow.domain false) (Rows.geoApartSpec.post enc Try.prog Try.f8 false true false false) := by
  refine returnsInHanded_of_change (C := Try.checked) own started (by kernel_rfl) Try.func8
    (ChangeSpec.witness6 (enc := enc) (C := Try.checked) false ⟨#[], #[.slice none 0 0, .int .u8 0, .int .u8 0], []⟩ 8 (by kernel_rfl) (by kernel_rfl) (by kernel_rfl) (by kernel_rfl)) ?_
  intro W base args ds gs before hval0 hW hcnd _
  have hval : ∀ (j : Nat) t v, Try.f8.params[j]? = some t → args[j]? = some v → Value.okWide Try.prog W .any base t v := hval0
  have hW' := hW
  obtain ⟨p, q, hA0, hV, rfl, hfz, hnd⟩ := hW
  have hA : DataW.TrodAll enc Try.prog W 0 (fun _ => true) true Try.f8.params.toList args.toList ds p := hA0
  rw [Try.params8] at hA hval
  obtain ⟨v0, vs0, d0, ds0, p0, q0, hargs, rfl, rfl, h0, r0⟩ := trodAll_cons hA
  obtain ⟨v1, vs1, d1, ds1, p1, q1, rfl, rfl, rfl, h1, r1⟩ := trodAll_cons r0
  obtain ⟨v2, vs2, d2, ds2, p2, q2, rfl, rfl, rfl, h2, r2⟩ := trodAll_cons r1
  obtain ⟨rfl, rfl, rfl⟩ := trodAll_nil r2
  obtain rfl : args = #[v0, v1, v2] := by cases args; simp_all
  obtain ⟨rfl, rfl⟩ := trodVars_none hV
  have k0 := h0
  have lt0 : ∀ x ∈ p0, x.block < W.heap.size := by obtain ⟨m, hm⟩ := k0; exact DataW.trod_lt m _ _ _ hm
  obtain ⟨a0, len0, cap0, rfl⟩ := okWide_slice Try.underlying59 (hval 0 59 v0 rfl rfl)
  obtain ⟨z0, w0⟩ := isRow_of Try.underlying59 Try.underlying5 (by kernel_rfl) h0
  obtain ⟨a1, rfl, rfl, rfl, w1⟩ := open_int Try.underlying5 (hval 1 5 v1 rfl rfl) h1
  obtain ⟨a2, rfl, rfl, rfl, w2⟩ := open_int Try.underlying5 (hval 2 5 v2 rfl rfl) h2
  clear hA0 hval0
  refine (walk a0 len0 cap0 z0 a1 a2 W w0 w1 w2).mono fun e W' ⟨he, bel⟩ => ?_
  subst he
  exact ⟨_, rfl, _, _, _, [], _, [], hW', trodAll_mk1 (shut_bool Try.underlying4 _), (trodAll_cons_mk (Below.trod laidOut (by kernel_rfl) (of_decide_eq_true (by kernel_rfl)) k0 bel lt0) (trodAll_cons_mk (shut_int Try.underlying5 w1) (trodAll_cons_mk (shut_int Try.underlying5 w2) trodAll_mk0))), rfl, bel.frame _, fun h => by cases h⟩
theorem over : Rows.geoApartRow.holds Try.pinned (OpenSpec.ofChange Rows.geoApartSpec) :=
  OpenClaim.holds_of_wide 8 Try.f8 rfl rfl rfl rfl rfl rfl rfl ⟨rfl, rfl, rfl, rfl, rfl⟩ rfl rfl rfl rfl rfl (by kernel_rfl) Try.func8 (by kernel_rfl)
    (of_decide_eq_true (by kernel_rfl)) (by unfold Func.isWrapper; first | (rw [if_pos (by decide +kernel)]; kernel_rfl) | (rw [if_neg (by decide +kernel)]; exact ⟨rfl, rfl⟩))
    (fun os started H enc _ => lifted os started H enc)
theorem proved : Rows.GeoApartSaid := over
#print axioms proved
end Go.Proofs.Ytfmgeidlbekfpaa.GeoApart
