/- Filled, each byte is the pattern's; of no pattern 0; handed-in bytes stay. No condition. -/
import Derived.Test.YtlcaddedfgndoaaMemG
set_option linter.unusedVariables false
set_option linter.unusedSimpArgs false
namespace Go.Proofs.Ytlcaddedfgndoaa.MemFills
open Go.RowKit Go.ChangeShapes Go.WideShapes Go.ChangeAt Go.Joins
theorem piece_all (zs : List Int) (n : Nat) (h : zs.length = n) : (zs.drop 0).take n = zs := by subst h; simp
theorem u8s_of {ys : List Int} (h : ∀ n, n ∈ ys → (Lit.int .u8 n).wf = true) : U8s ys := fun z hz => by have := bounds_u8 (h z hz); omega
/-- What the bytes are behind both fills. -/
theorem filled (zs pat : List Int) (at_ n : Nat) (h : zs.length = 1024) (ha : at_ + n ≤ 1024) (i : Nat) (hi : i < 1024) :
    (splice (splice zs 0 (rep [3] 1024)) at_ (rep pat n))[i]?.getD 0 = if at_ ≤ i ∧ i < at_ + n then pat[(i - at_) % pat.length]?.getD 0 else 3 := by
  have h1 : (splice zs 0 (rep [3] 1024)).length = 1024 := by rw [length_splice _ _ _ (by simp; omega)]; exact h
  rw [splice_get _ _ _ (by simp; omega)]
  simp only [length_rep]
  have h3 : (splice zs 0 (rep [3] 1024))[i]?.getD 0 = 3 := by
    rw [splice_get _ _ _ (by simp; omega)]
    simp only [length_rep]
    rw [if_neg (by omega), if_pos (by omega), rep_get _ _ _ (by omega)]
    simp [Nat.mod_one]
  by_cases c1 : i < at_
  · rw [if_pos c1, if_neg (by omega), h3]
  · rw [if_neg c1]
    by_cases c2 : i < at_ + n
    · rw [if_pos c2, if_pos ⟨by omega, c2⟩, rep_get _ _ _ (by omega)]; rfl
    · rw [if_neg c2, if_neg (by omega), h3]
set_option maxRecDepth 100000 in
set_option maxHeartbeats 2000000 in
theorem walk (a0 : Option Addr) (len0 cap0 : Nat) (z0 : List Int) (a1 a2 : Int) (W : World) (w0 : IsRow .u8 W a0 len0 cap0 z0) (w1 : (Lit.int .u8 a1).wf = true) (w2 : (Lit.int .u8 a2).wf = true) :
    Calls Try.prog 3 #[.slice a0 len0 cap0, .int .u8 a1, .int .u8 a2] W fun e W' => e = .returned (.bool true) ∧ Below W.heap.size W W' := by
  have b1 := bounds_u8 w1
  have b2 := bounds_u8 w2
  clear w1 w2
  obtain ⟨ys, hl, hr, hcap, hwf, hlc, hcm⟩ := w0.seen
  unfold maxLen at hcm
  have hu := u8s_of hwf
  clear w0 hwf
  subst hl
  have HR := Lib.hid hr
  have HU := Lib.hid hu
  clear hr hu
  obtain ⟨a, rfl⟩ := Int.eq_ofNat_of_zero_le b1.1
  obtain ⟨n, rfl⟩ := Int.eq_ofNat_of_zero_le b2.1
  by_cases hlen : (ys.length : Int) ≤ 500
  · obtain ⟨zs, hzs⟩ : ∃ zs, zeros 1024 = zs := ⟨_, rfl⟩
    have hl : Hid (zs.length = 1024) := Lib.hid (by rw [← hzs]; simp [zeros])
    have C1 : Hid (∀ w : World, Calls Try.prog 10 #[.int .u64 1024] w fun e w' => e = .returned (.tuple #[.pointer (some ⟨w.heap.size + 1, 0, none⟩), .int .i64 0]) ∧ MemB w' (w.heap.size + 1) w.heap.size zs ∧ Kept [] w w') := Lib.hid (by
      intro w; have := new_any w 1024 (by omega) (by omega) (by omega); rw [hzs] at this; exact this)
    clear hzs
    obtain ⟨z1, hz1⟩ : ∃ z1, splice zs 0 (rep [3] 1024) = z1 := ⟨_, rfl⟩
    have hl1 : Hid (z1.length = 1024) := Lib.hid (by rw [← hz1, length_splice _ _ _ (by have := hl.out; simp; omega)]; exact hl.out)
    have C2 : Hid (∀ (w : World) p g b, MemB w p g zs → b ≠ g → Blk w b 5 #[.int .u8 3] → Calls Try.prog 11 #[.pointer (some ⟨p, 0, none⟩), .int .u64 0, .int .u64 1024, .slice (some ⟨b, 0, none⟩) 1 1] w fun e w' => e = .returned (.int .i64 0) ∧ MemB w' p g z1 ∧ Kept [g] w w') := Lib.hid (by
      intro w p g b h hb hB
      rw [← hz1]
      exact fill_in w p g _ h 0 1024 (by have := hl.out; omega) (some ⟨b, 0, none⟩) 1 1 [3] rfl (fun w' hk => row_1 (hB.keep hk (by simpa using hb))) (fun z hz => by simp at hz; omega) (by simp) (by simp))
    obtain ⟨pat, hpat⟩ : ∃ pat : List Int, (if ys.length = 0 then [0] else ys) = pat := ⟨_, rfl⟩
    obtain ⟨z2, hz2⟩ : ∃ z2, splice z1 a (rep pat n) = z2 := ⟨_, rfl⟩
    have hl2 : Hid (z2.length = 1024) := Lib.hid (by rw [← hz2, length_splice _ _ _ (by have := hl1.out; simp; omega)]; exact hl1.out)
    have HF : Hid (∀ i, i < 1024 → z2[i]?.getD 0 = if a ≤ i ∧ i < a + n then pat[(i - a) % pat.length]?.getD 0 else 3) := Lib.hid (fun i hi => by
      rw [← hz2, ← hz1]
      exact filled zs pat a n hl.out (by omega) i hi)
    have HP : Hid ((ys.length = 0 ∧ pat = [0]) ∨ (0 < ys.length ∧ pat = ys)) := Lib.hid (by
      rw [← hpat]
      by_cases h0 : ys.length = 0
      · exact .inl ⟨h0, by rw [if_pos h0]⟩
      · exact .inr ⟨by omega, by rw [if_neg h0]⟩)
    have C5 : Hid (∀ (w : World) p g B A l c, l = ys.length → MemB w p g z1 → OwnI B .u8 5 w (.slice A l c) ys → g < B → Calls Try.prog 11 #[.pointer (some ⟨p, 0, none⟩), .int .u64 a, .int .u64 n, .slice A l c] w fun e w' => e = .returned (.int .i64 0) ∧ MemB w' p g z2 ∧ Kept [g] w w') := Lib.hid (by
      intro w p g B A l c hll h ho hB
      rw [← hz2]
      rcases HP.out with ⟨h0, hp⟩ | ⟨h0, hp⟩
      · obtain rfl : l = 0 := by omega
        rw [hp]
        exact fill_nil w p g _ h a n (by have := hl1.out; omega) A c
      · rw [hp]
        exact fill_in w p g _ h a n (by have := hl1.out; omega) A l c ys hll (fun w' hk => (ho.keepS hk (fun s hs => by simp at hs; omega)).row) HU.out h0 (by omega))
    have C6 : Hid (∀ (w : World) p g, MemB w p g z2 → Calls Try.prog 12 #[.pointer (some ⟨p, 0, none⟩), .int .u64 0, .int .u64 1024] w fun e w' => ∃ A c, e = .returned (.tuple #[.slice A 1024 c, .int .i64 0]) ∧ OwnI w.heap.size .u8 5 w' (.slice A 1024 c) z2 ∧ Kept [] w w') := Lib.hid (by
      intro w p g h
      have := get_in w p g _ h 0 1024 (by have := hl2.out; omega)
      rw [piece_all z2 1024 hl2.out] at this
      unfold GetIs at this
      rw [hl2.out] at this
      exact this)
    clear hz1 hz2 hpat
    go_enter Try.func3, Try.ntmps3
    go_wp2_with fail
    (with_reducible refine (alive_any _).mono ?_)
    rintro e w1 ⟨rfl, hb1⟩
    have hs1 := hb1.size
    (try simp only [World.size_alloc, World.size_setCell, World.size_drew, size_drewN] at hs1)
    go_wp2_with fail
    (with_reducible refine (C1.out _).mono ?_)
    rintro e w2 ⟨rfl, hM2, hb2⟩
    have hs2 := hb2.size
    (try simp only [World.size_alloc, World.size_setCell, World.size_drew, size_drewN] at hs2)
    have M2 := Lib.hid hM2
    have hg2 := hM2.2.1.lt
    clear hM2
    go_wp2_with (refine app_gen .u8 22 5 1 Try.underlying22 info_u8 (by omega) rfl (.tmp 25) (.tmp 26) rfl w2 w2.heap.size _ [] ys rfl (OwnI.made _ (Nat.le_refl _)) a0 _ _ rfl rfl hcap (HR.out.keep (by (repeat' (first | (with_reducible exact Kept.refl _ _) | (with_reducible assumption) | (with_reducible refine Kept.then_ (by with_reducible assumption) ?_) | (with_reducible refine Kept.thenS (by with_reducible assumption) ?_) | (with_reducible refine Kept.alloc ?_ _) | (with_reducible refine Kept.drew ?_) | (with_reducible refine Kept.drewN ?_ _) | (with_reducible refine Kept.setNew ?_ ?_ _) | ((try simp only [World.size_alloc, World.size_setCell, World.size_drew, size_drewN] at *); (try dsimp only); omega))))) (by (repeat' (first | (with_reducible exact Kept.refl _ _) | (with_reducible assumption) | (with_reducible refine Kept.then_ (by with_reducible assumption) ?_) | (with_reducible refine Kept.thenS (by with_reducible assumption) ?_) | (with_reducible refine Kept.alloc ?_ _) | (with_reducible refine Kept.drew ?_) | (with_reducible refine Kept.drewN ?_ _) | (with_reducible refine Kept.setNew ?_ ?_ _) | ((try simp only [World.size_alloc, World.size_setCell, World.size_drew, size_drewN] at *); (try dsimp only); omega)))) (Nat.le_refl _) (by simp) (by simp; omega) ?_)
    intro A3 n3 c3 w3 hn3 hO3 hO3' hb3 hg3 hs3 hc3 hr3
    try simp only [List.nil_append] at hn3 hO3 hr3
    have O3 := Lib.hid hO3
    have M3 := Lib.hid (M2.out.keep0 (by (repeat' (first | (with_reducible exact Kept.refl _ _) | (with_reducible assumption) | (with_reducible refine Kept.then_ (by with_reducible assumption) ?_) | (with_reducible refine Kept.thenS (by with_reducible assumption) ?_) | (with_reducible refine Kept.alloc ?_ _) | (with_reducible refine Kept.drew ?_) | (with_reducible refine Kept.drewN ?_ _) | (with_reducible refine Kept.setNew ?_ ?_ _) | ((try simp only [World.size_alloc, World.size_setCell, World.size_drew, size_drewN] at *); (try dsimp only); omega))) : Kept [] w2 w3))
    clear hO3 hO3' hg3 hr3 M2
    go_wp2_with fail
    (with_reducible refine (C2.out _ _ _ _ (M3.out.keep0 (by (repeat' (first | (with_reducible exact Kept.refl _ _) | (with_reducible assumption) | (with_reducible refine Kept.then_ (by with_reducible assumption) ?_) | (with_reducible refine Kept.thenS (by with_reducible assumption) ?_) | (with_reducible refine Kept.alloc ?_ _) | (with_reducible refine Kept.drew ?_) | (with_reducible refine Kept.drewN ?_ _) | (with_reducible refine Kept.setNew ?_ ?_ _) | ((try simp only [World.size_alloc, World.size_setCell, World.size_drew, size_drewN] at *); (try dsimp only); omega))))) (by omega) (Blk.new _ _ _)).mono ?_)
    rintro e w4 ⟨rfl, hM4, hb4⟩
    have hs4 := hb4.size
    (try simp only [World.size_alloc, World.size_setCell, World.size_drew, size_drewN] at hs4)
    have M4 := Lib.hid hM4
    have hg4 := hM4.2.1.lt
    clear hM4
    have K34 : Hid (Kept [w1.heap.size] w3 w4) := Lib.hid (hb4.thenS (by (repeat' (first | (with_reducible exact Kept.refl _ _) | (with_reducible assumption) | (with_reducible refine Kept.then_ (by with_reducible assumption) ?_) | (with_reducible refine Kept.thenS (by with_reducible assumption) ?_) | (with_reducible refine Kept.alloc ?_ _) | (with_reducible refine Kept.drew ?_) | (with_reducible refine Kept.drewN ?_ _) | (with_reducible refine Kept.setNew ?_ ?_ _) | ((try simp only [World.size_alloc, World.size_setCell, World.size_drew, size_drewN] at *); (try dsimp only); omega)))))
    have O4 := Lib.hid (O3.out.keepS K34.out (fun s hs => by simp at hs; omega))
    clear O3 M3
    obtain rfl : n3 = ys.length := hn3.out
    go_wp2_with fail
    (with_reducible refine (C5.out _ _ _ _ _ _ _ rfl M4.out O4.out hg2).mono ?_)
    rintro e w5 ⟨rfl, hM5, hb5⟩
    have hs5 := hb5.size
    (try simp only [World.size_alloc, World.size_setCell, World.size_drew, size_drewN] at hs5)
    have M5 := Lib.hid hM5
    have hg5 := hM5.2.1.lt
    clear hM5
    have O5 := Lib.hid (O4.out.keepS hb5 (fun s hs => by simp at hs; omega))
    clear O4 M4
    go_wp2_with fail
    (with_reducible refine (C6.out _ _ _ M5.out).mono ?_)
    rintro e w6 ⟨A6, c6, rfl, hO6, hb6⟩
    have hs6 := hb6.size
    (try simp only [World.size_alloc, World.size_setCell, World.size_drew, size_drewN] at hs6)
    have O6 := Lib.hid hO6
    clear hO6
    have O6' := Lib.hid (O5.out.kept hb6)
    have K6 : Hid (Kept [] W w6) := Lib.hid (by (repeat' (first | (with_reducible exact Kept.refl _ _) | (with_reducible assumption) | (with_reducible refine Kept.then_ (by with_reducible assumption) ?_) | (with_reducible refine Kept.thenS (by with_reducible assumption) ?_) | (with_reducible refine Kept.thenG (by with_reducible assumption) ?_ ?_) | (with_reducible refine Kept.alloc ?_ _) | (with_reducible refine Kept.drew ?_) | (with_reducible refine Kept.drewN ?_ _) | (with_reducible refine Kept.setNew ?_ ?_ _) | ((try simp only [World.size_alloc, World.size_setCell, World.size_drew, size_drewN] at *); (try dsimp only); omega))))
    clear O5 M5
    have R6 := Lib.hid (HR.out.keep K6.out)
    obtain ⟨ad, hA, hcs⟩ : ∃ x : Addr, A6 = some x ∧ ∀ i, i < 1024 → w6.cell? (x.add i) = some (.int .u8 (z2[i]?.getD 0)) := by
      obtain ⟨x, h1, _, h2⟩ := O6.out.row (by rw [hl2.out]; omega)
      exact ⟨x, h1, fun i hi => h2 i (by rw [hl2.out]; exact hi)⟩
    subst hA
    have HC := Lib.hid hcs
    clear hcs
    go_wp2_with fail
    go_loop [53] (fun i => ∃ k : Nat, k ≤ 1024 ∧ i = .int .i64 k) (fun i => (1024 - intOf i).toNat)
    case atStart => exact ⟨0, by omega, rfl⟩
    case round =>
      obtain ⟨k, hk, rfl⟩ := hrel
      by_cases hlt : k < 1024
      · have hcell := HC.out k hlt
        rw [HF.out k hlt] at hcell
        by_cases h1 : a ≤ k
        · obtain ⟨j, hj⟩ : ∃ j : Nat, (k : Int) - (a : Int) = (j : Int) := ⟨k - a, by omega⟩
          by_cases h2 : j < n
          · rw [if_pos ⟨h1, by omega⟩, show k - a = j by omega] at hcell
            rcases HP.out with ⟨h0, hp⟩ | ⟨h0, hp⟩
            · rw [hp] at hcell
              simp [Nat.mod_one] at hcell
              have h0' : ¬ (0 < (ys.length : Int)) := by omega
              clear hp
              go_wp2_with fail
              go_round
              case rel => exact ⟨k + 1, by omega, by go_num⟩
              case measure => simp [intOf]; omega
            · rw [hp] at hcell
              have h0' : 0 < (ys.length : Int) := by omega
              obtain ⟨r, hr, hrl⟩ : ∃ r : Nat, j % ys.length = r ∧ r < ys.length := ⟨_, rfl, Nat.mod_lt _ h0⟩
              have hr' : (j : Int) % (ys.length : Int) = (r : Int) := by rw [← hr]; simp
              rw [hr] at hcell
              obtain ⟨pd, hpd, _, hps⟩ := R6.out h0
              have hpc := hps r hrl
              subst hpd
              clear hr hps hp
              generalize ys[r]?.getD 0 = v at hcell hpc
              go_wp2_with fail
              go_round
              case rel => exact ⟨k + 1, by omega, by go_num⟩
              case measure => simp [intOf]; omega
          · rw [if_neg (by omega)] at hcell
            have h2' : ¬ ((j : Int) < (n : Int)) := by omega
            go_wp2_with fail
            go_round
            case rel => exact ⟨k + 1, by omega, by go_num⟩
            case measure => simp [intOf]; omega
        · rw [if_neg (by omega)] at hcell
          have h1' : ¬ (0 ≤ (k : Int) - (a : Int)) := by omega
          have h1'' : ¬ ((a : Int) ≤ (k : Int)) := by omega
          go_wp2_with fail
          go_round
          case rel => exact ⟨k + 1, by omega, by go_num⟩
          case measure => simp [intOf]; omega
      · obtain rfl : k = 1024 := by omega
        go_wp2_with fail
        (with_reducible refine (same_eq _ _ _ _ _ _ _ ys rfl O6'.out.row rfl R6.out).mono ?_)
        rintro e w' ⟨rfl, rfl⟩
        go_wp2_with fail
        go_ret
        exact ⟨rfl, K6.out.below⟩
  · go_enter Try.func3, Try.ntmps3
    go_wp2_with fail
    (with_reducible refine (alive_any _).mono ?_)
    rintro e w1 ⟨rfl, hb1⟩
    have hs1 := hb1.size
    (try simp only [World.size_alloc, World.size_setCell, World.size_drew, size_drewN] at hs1)
    go_wp2_with fail
    go_ret
    exact ⟨rfl, Kept.below (by (repeat' (first | (with_reducible exact Kept.refl _ _) | (with_reducible assumption) | (with_reducible refine Kept.then_ (by with_reducible assumption) ?_) | (with_reducible refine Kept.thenS (by with_reducible assumption) ?_) | (with_reducible refine Kept.alloc ?_ _) | (with_reducible refine Kept.drew ?_) | (with_reducible refine Kept.drewN ?_ _) | (with_reducible refine Kept.setNew ?_ ?_ _) | ((try simp only [World.size_alloc, World.size_setCell, World.size_drew, size_drewN] at *); (try dsimp only); omega))))⟩
theorem own : ownKnob Try.prog.godebug = none := by kernel_rfl
theorem laidOut : laidOutB Try.prog = true := by kernel_rfl
set_option maxRecDepth 100000 in
theorem lifted (os : Os) (started : os.Started) (H : Type) (enc : TypeId × Value → H) :
    ReturnsInHanded {} Try.checked os 3 .any (Rows.memFillsSpec.pre6 enc Try.prog Try.f3 Rows.memFillsRow.domain false) (Rows.memFillsSpec.post enc Try.prog Try.f3 false true false false) := by
  refine returnsInHanded_of_change (C := Try.checked) own started (by kernel_rfl) Try.func3
    (ChangeSpec.witness6 (enc := enc) (C := Try.checked) false ⟨#[], #[.slice none 0 0, .int .u8 0, .int .u8 0], []⟩ 8 (by kernel_rfl) (by kernel_rfl) (by kernel_rfl) (by kernel_rfl)) ?_
  intro W base args ds gs before hval0 hW hcnd _
  have hval : ∀ (j : Nat) t v, Try.f3.params[j]? = some t → args[j]? = some v → Value.okWide Try.prog W .any base t v := hval0
  have hW' := hW
  obtain ⟨p, q, hA0, hV, rfl, hfz, hnd⟩ := hW
  have hA : DataW.TrodAll enc Try.prog W 0 (fun _ => true) true Try.f3.params.toList args.toList ds p := hA0
  rw [Try.params3] at hA hval
  obtain ⟨v0, vs0, d0, ds0, p0, q0, hargs, rfl, rfl, h0, r0⟩ := trodAll_cons hA
  obtain ⟨v1, vs1, d1, ds1, p1, q1, rfl, rfl, rfl, h1, r1⟩ := trodAll_cons r0
  obtain ⟨v2, vs2, d2, ds2, p2, q2, rfl, rfl, rfl, h2, r2⟩ := trodAll_cons r1
  obtain ⟨rfl, rfl, rfl⟩ := trodAll_nil r2
  obtain rfl : args = #[v0, v1, v2] := by cases args; simp_all
  obtain ⟨rfl, rfl⟩ := trodVars_none hV
  have k0 := h0
  have lt0 : ∀ x ∈ p0, x.block < W.heap.size := by obtain ⟨m, hm⟩ := k0; exact DataW.trod_lt m _ _ _ hm
  obtain ⟨a0, len0, cap0, rfl⟩ := okWide_slice Try.underlying22 (hval 0 22 v0 rfl rfl)
  obtain ⟨z0, w0⟩ := isRow_of Try.underlying22 Try.underlying5 (by kernel_rfl) h0
  obtain ⟨a1, rfl, rfl, rfl, w1⟩ := open_int Try.underlying5 (hval 1 5 v1 rfl rfl) h1
  obtain ⟨a2, rfl, rfl, rfl, w2⟩ := open_int Try.underlying5 (hval 2 5 v2 rfl rfl) h2
  clear hA0 hval0
  refine (walk a0 len0 cap0 z0 a1 a2 W w0 w1 w2).mono fun e W' ⟨he, bel⟩ => ?_
  subst he
  exact ⟨_, rfl, _, _, _, [], _, [], hW', trodAll_mk1 (shut_bool Try.underlying4 _), (trodAll_cons_mk (Below.trod laidOut (by kernel_rfl) (of_decide_eq_true (by kernel_rfl)) k0 bel lt0) (trodAll_cons_mk (shut_int Try.underlying5 w1) (trodAll_cons_mk (shut_int Try.underlying5 w2) trodAll_mk0))), rfl, bel.frame _, fun h => by cases h⟩
theorem over : Rows.memFillsRow.holds Try.pinned (OpenSpec.ofChange Rows.memFillsSpec) :=
  OpenClaim.holds_of_wide 3 Try.f3 rfl rfl rfl rfl rfl rfl rfl ⟨rfl, rfl, rfl, rfl, rfl⟩ rfl rfl rfl rfl rfl (by kernel_rfl) Try.func3 (by kernel_rfl)
    (of_decide_eq_true (by kernel_rfl)) (by unfold Func.isWrapper; first | (rw [if_pos (by decide +kernel)]; kernel_rfl) | (rw [if_neg (by decide +kernel)]; exact ⟨rfl, rfl⟩))
    (fun os started H enc _ => lifted os started H enc)
theorem proved : Rows.MemFillsSaid := over
#print axioms proved
end Go.Proofs.Ytlcaddedfgndoaa.MemFills
