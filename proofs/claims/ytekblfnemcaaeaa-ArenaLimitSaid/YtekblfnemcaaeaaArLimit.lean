/- Under a limit just as many are given, one by one; taken back, as many again. No condition. -/
import Derived.Test.YtekblfnemcaaeaaArUp
set_option linter.unusedVariables false
set_option linter.unusedSimpArgs false
namespace Go.Proofs.Ytekblfnemcaaeaa.ArenaLimit
open Go.RowKit Go.ChangeShapes Go.WideShapes Go.ChangeAt Go.Joins
/-- Those from lo to hi are taken, one by one. -/
def St (n k lo hi : Nat) (ref : Int) (a : Ar) : Prop :=
  Inv a ∧ a.n = n ∧ a.lim = k ∧ a.ts = [] ∧ (∀ r, r ∈ a.ls → r.2 = 1) ∧ (∀ i : Nat, i < n → a.bs[i]? = some (decide (lo ≤ i ∧ i < hi))) ∧ total a.ls + lo = hi ∧ a.ref = ref
def StK (W : World) (p n k lo hi : Nat) (ref : Int) (w : World) : Prop := ∃ a, St n k lo hi ref a ∧ UpK W w p a
theorem StK.ltp {W w : World} {p n k lo hi : Nat} {ref : Int} (h : StK W p n k lo hi ref w) : p < w.heap.size := by
  obtain ⟨a, _, h⟩ := h
  exact h.ltp
theorem StK.keep0 {W w w' : World} {p n k lo hi : Nat} {ref : Int} (h : StK W p n k lo hi ref w) (hk : Kept [] w w') : StK W p n k lo hi ref w' := by
  obtain ⟨a, h1, h⟩ := h
  exact ⟨a, h1, h.keep0 hk⟩
theorem StK.again {W w : World} {p n k : Nat} {ref : Int} (h : StK W p n k k k ref w) : StK W p n k 0 0 ref w := by
  obtain ⟨a, ⟨h1, h2, h3, h4, h5, h6, h7, h8⟩, h⟩ := h
  refine ⟨a, ⟨h1, h2, h3, h4, h5, fun i hi => ?_, by omega, h8⟩, h⟩
  rw [h6 i hi]
  congr 1
  rw [decide_eq_decide]
  omega
theorem res_in {W w : World} {p n k hi : Nat} {ref : Int} (h : StK W p n k 0 hi ref w) (hk : hi < k) (hr : 0 ≤ ref ∧ ref ≤ 1000) :
    Calls Try.prog 11 #[.pointer (some ⟨p, 0, none⟩), .int .i64 1] w fun e w' => e = .returned (.tuple #[.int .i64 hi, .int .i64 0]) ∧ StK W p n k 0 (hi + 1) ref w' := by
  obtain ⟨a, ⟨h1, h2, h3, h4, h5, h6, h7, h8⟩, hu⟩ := h
  have hlim := h1.limit
  have hlen := h1.len
  refine (up_res W w p a hu h1 (by rw [h4]; simp) (by omega) 1).mono fun e w' ⟨x, er, a', he, hR, hU⟩ => ?_
  have hfree : FreeAt a.bs hi 1 := ⟨by omega, fun i hi' => by
    rw [show hi + i = hi by omega, h6 hi (by omega)]
    congr 1
    simp⟩
  obtain ⟨rfl, rfl, j, hj, rfl⟩ := hR.ok h1 1 hi rfl (by omega) (by omega) (by rw [h4]; rfl) (by omega) hfree (fun b hb hf => by
    have := hf.2 0 (by omega)
    rw [show b + 0 = b by omega, h6 b (by omega)] at this
    simp [hb] at this)
  refine ⟨he, _, ⟨h1.yes hi 1 j (by omega) hfree hj (by have := h1.sum; omega), h2, h3, by show a.ts.tail = []; rw [h4]; rfl, fun r hr' => ?_, fun i hi' => ?_, by rw [total_yes]; omega, h8⟩, hU⟩
  · rcases mem_ins.1 hr' with rfl | hr'
    · rfl
    · exact h5 r hr'
  · show (put a.bs hi 1 true)[i]? = _
    rw [Inv.put_get _ _ _ _ (by omega) i (by omega), h6 i hi']
    by_cases hc : hi ≤ i ∧ i < hi + 1
    · rw [if_pos hc]
      congr 1
      symm
      rw [decide_eq_true_iff]
      omega
    · rw [if_neg hc]
      congr 1
      rw [decide_eq_decide]
      omega
theorem res_out {W w : World} {p n k : Nat} {ref : Int} (h : StK W p n k 0 k ref w) (hr : 0 ≤ ref ∧ ref ≤ 1000) :
    Calls Try.prog 11 #[.pointer (some ⟨p, 0, none⟩), .int .i64 1] w fun e w' => e = .returned (.tuple #[.int .i64 0, .int .i64 4]) ∧ StK W p n k 0 k (ref + 1) w' := by
  obtain ⟨a, ⟨h1, h2, h3, h4, h5, h6, h7, h8⟩, hu⟩ := h
  have hn1 := h1.n1
  refine (up_res W w p a hu h1 (by rw [h4]; simp) (by omega) 1).mono fun e w' ⟨x, er, a', he, hR, hU⟩ => ?_
  obtain ⟨rfl, rfl, rfl⟩ := hR.full (by omega) (by omega) (.inr (.inl (by omega)))
  exact ⟨he, _, ⟨h1.no, h2, h3, by show a.ts.tail = []; rw [h4]; rfl, h5, h6, h7, by show a.ref + 1 = ref + 1; omega⟩, hU⟩
theorem rel_in {W w : World} {p n k lo : Nat} {ref : Int} (h : StK W p n k lo k ref w) (hk : lo < k) :
    Calls Try.prog 12 #[.pointer (some ⟨p, 0, none⟩), .int .i64 lo] w fun e w' => e = .returned (.int .i64 0) ∧ StK W p n k (lo + 1) k ref w' := by
  obtain ⟨a, ⟨h1, h2, h3, h4, h5, h6, h7, h8⟩, hu⟩ := h
  have hlim := h1.limit
  have hlen := h1.len
  refine (up_rel W w p a hu h1 lo).mono fun e w' ⟨er, a', he, hR, hU⟩ => ?_
  have hm : inR a.ls lo = true := by
    have e1 := h1.marks lo (by omega)
    rw [h6 lo (by omega)] at e1
    injection e1 with e1
    rw [← e1, decide_eq_true_iff]
    omega
  obtain ⟨r, hr, hr1, hr2⟩ := inR_true.1 hm
  have hr3 := h5 r hr
  rcases hR with ⟨h0, _⟩ | ⟨at_, m, j, h9, h10, h11, h12, rfl, rfl⟩
  · exact absurd (by omega) (h0 r hr)
  · have hm1 := h5 _ (rg_mem h11)
    rw [h12] at hm1
    simp only at hm1
    obtain rfl : m = 1 := by omega
    obtain rfl : at_ = lo := by omega
    have her := erase_rg h11
    rw [h12] at her
    have ht := total_ins (a.ls.eraseIdx j) j ((at_ : Int), ((1 : Nat) : Int))
    rw [← her] at ht
    have ht' : total a.ls = total (a.ls.eraseIdx j) + ((1 : Nat) : Int) := ht
    refine ⟨he, _, ⟨h1.back at_ 1 j h11 h12, h2, h3, h4, fun q hq => h5 q (List.mem_of_mem_eraseIdx hq), fun i hi' => ?_, by show total (a.ls.eraseIdx j) + ((at_ + 1 : Nat) : Int) = (k : Int); omega, h8⟩, hU⟩
    show (put a.bs at_ 1 false)[i]? = _
    rw [Inv.put_get _ _ _ _ (by omega) i (by omega), h6 i hi']
    by_cases hc : at_ ≤ i ∧ i < at_ + 1
    · rw [if_pos hc]
      congr 1
      symm
      rw [decide_eq_false_iff_not]
      omega
    · rw [if_neg hc]
      congr 1
      rw [decide_eq_decide]
      omega
set_option maxRecDepth 100000 in
set_option maxHeartbeats 4000000 in
theorem walk (x y : Int) (W : World) (wx : (Lit.int .u8 x).wf = true) (wy : (Lit.int .u8 y).wf = true) :
    Calls Try.prog 3 #[.int .u8 x, .int .u8 y] W fun e W' => e = .returned (.bool true) ∧ Below W.heap.size W W' := by
  have b1 := bounds_u8 wx
  have b2 := bounds_u8 wy
  clear wx wy
  obtain ⟨n, hn⟩ : ∃ n : Nat, x % 64 + 1 = (n : Int) := ⟨(x % 64 + 1).toNat, by omega⟩
  have hn1 : 1 ≤ n ∧ n ≤ 64 := by omega
  obtain ⟨k, hk⟩ : ∃ k : Nat, y % ((n : Int) + 1) = (k : Int) := ⟨(y % ((n : Int) + 1)).toNat, by
    have := Int.emod_nonneg y (show (n : Int) + 1 ≠ 0 by omega)
    omega⟩
  have hkn : k ≤ n := by
    have := Int.emod_lt_of_pos y (show 0 < (n : Int) + 1 by omega)
    omega
  have C1 := Lib.hid (alive_any W)
  have C2 : Hid (∀ w, Kept [] W w → Calls Try.prog 10 #[.int .i64 n, .int .i64 k] w fun e w' => ∃ p, e = .returned (.tuple #[.pointer (some ⟨p, 0, none⟩), .int .i64 0]) ∧ StK W p n k 0 0 0 w') := Lib.hid (fun w hk' => (up_new W w hk' n k (by omega) (by omega) (by omega)).mono fun e w' ⟨p, he, hu⟩ => ⟨p, he, _, ⟨inv_new n k (by omega) (by omega) (by omega), rfl, rfl, rfl, fun r hr => (by cases hr), fun i hi => by
    show (frees n)[i]? = _
    unfold frees
    rw [List.getElem?_replicate, if_pos hi, decide_eq_false (show ¬ (0 ≤ i ∧ i < 0) by omega)], rfl, rfl⟩, hu⟩)
  go_enter Try.func3, Try.ntmps3
  go_wp2_with fail
  (with_reducible refine (C1.out).mono ?_)
  rintro e w1 ⟨rfl, hb1⟩
  have hs1 := hb1.size
  (try simp only [World.size_alloc, World.size_setCell, World.size_drew, size_drewN] at hs1)
  go_wp2_with fail
  (with_reducible refine (C2.out _ hb1).mono ?_)
  rintro e w2 ⟨p, rfl, hs2⟩
  have S2 := Lib.hid hs2
  clear hs2
  clear hb1
  have hp2 := S2.out.ltp
  go_wp2_with fail
  go_loopw [32] (fun v wr => ∃ (q : Nat) (R : Int), q ≤ 2 ∧ v = .int .i64 q ∧ Hid (R = (q : Int) * ((n : Int) - k)) ∧ 0 ≤ R ∧ R ≤ 128 ∧ Hid (StK W p n k 0 0 R wr)) (fun i _ => (2 - intOf i).toNat)
  case atStart => exact ⟨0, 0, by omega, rfl, Lib.hid (by simp), by omega, by omega, S2⟩
  case round =>
    obtain ⟨q, R, hq, rfl, hR, hR0, hR1, hs⟩ := hrel
    have hpr := hs.out.ltp
    by_cases hlt : q < 2
    · have hR2 : R ≤ 64 := by
        have h1 : (0 : Int) ≤ (n : Int) - k := by omega
        have h2 := hR.out
        have h3 : (q : Int) * ((n : Int) - k) ≤ 1 * ((n : Int) - k) := Int.mul_le_mul_of_nonneg_right (by omega) h1
        omega
      obtain ⟨wo, rfl⟩ : ∃ wo : World, wo = wr := ⟨_, rfl⟩
      have d0 : decide ((q : Int) < 2) = true := by simp; omega
      go_wp2_with fail
      go_loopw [35] (fun v w3 => ∃ i c : Nat, i ≤ n ∧ c = min i k ∧ v = .int .i64 i ∧ Hid (StK W p n k 0 c (R + ((i : Int) - c)) w3)) (fun i _ => (n - intOf i).toNat)
      case atStart => exact ⟨0, 0, Nat.zero_le _, by omega, rfl, Lib.hid (by simpa using hs.out)⟩
      case round =>
        obtain ⟨i, c, hi, hc, rfl, hs3⟩ := hrel
        have hp3 := hs3.out.ltp
        by_cases hin : i < n
        · by_cases hik : i < k
          · obtain rfl : c = i := by omega
            have D := Lib.hid (res_in hs3.out hik (by omega))
            have d1 : decide (c < k) = true := by simp; omega
            clear hc
            go_wp2_with fail
            (with_reducible refine D.out.mono ?_)
            rintro e w4 ⟨rfl, hs4⟩
            have S4 := Lib.hid hs4
            clear hs4
            go_wp2_with fail
            go_roundw
            case rel => first | exact ⟨c + 1, c + 1, by omega, by omega, by go_num, Lib.hid (by have := S4.out; rwa [show R + (((c + 1 : Nat) : Int) - ((c + 1 : Nat) : Int)) = R + ((c : Int) - (c : Int)) by omega])⟩ | ((repeat apply Exists.intro); exact ⟨⟨c + 1, c + 1, by omega, by omega, by go_num, Lib.hid (by have := S4.out; rwa [show R + (((c + 1 : Nat) : Int) - ((c + 1 : Nat) : Int)) = R + ((c : Int) - (c : Int)) by omega])⟩, rfl⟩)
            case measure => simp [intOf]; omega
          · obtain rfl : c = k := by omega
            have D := Lib.hid (res_out hs3.out (by omega))
            have d1 : decide (i < c) = false := by simp; omega
            clear hc
            go_wp2_with fail
            (with_reducible refine D.out.mono ?_)
            rintro e w4 ⟨rfl, hs4⟩
            have S4 := Lib.hid hs4
            clear hs4
            go_wp2_with fail
            go_roundw
            case rel => first | exact ⟨i + 1, c, by omega, by omega, by go_num, Lib.hid (by have := S4.out; rwa [show R + (((i + 1 : Nat) : Int) - (c : Int)) = R + ((i : Int) - (c : Int)) + 1 by omega])⟩ | ((repeat apply Exists.intro); exact ⟨⟨i + 1, c, by omega, by omega, by go_num, Lib.hid (by have := S4.out; rwa [show R + (((i + 1 : Nat) : Int) - (c : Int)) = R + ((i : Int) - (c : Int)) + 1 by omega])⟩, rfl⟩)
            case measure => simp [intOf]; omega
        · obtain rfl : i = n := by omega
          obtain rfl : c = k := by omega
          clear hc
          go_wp2_with fail
          go_loopw [68] (fun v w5 => ∃ j : Nat, j ≤ c ∧ v = .int .i64 j ∧ Hid (StK W p i c j c (R + ((i : Int) - c)) w5)) (fun v _ => (c - intOf v).toNat)
          case atStart => exact ⟨0, Nat.zero_le _, rfl, hs3⟩
          case round =>
            obtain ⟨j, hj, rfl, hs5⟩ := hrel
            have hp5 := hs5.out.ltp
            by_cases hjc : j < c
            · have D := Lib.hid (rel_in hs5.out hjc)
              go_wp2_with fail
              (with_reducible refine D.out.mono ?_)
              rintro e w6 ⟨rfl, hs6⟩
              have S6 := Lib.hid hs6
              clear hs6
              go_wp2_with fail
              go_roundw
              case rel => first | exact ⟨j + 1, by omega, by go_num, S6⟩ | ((repeat apply Exists.intro); exact ⟨⟨j + 1, by omega, by go_num, S6⟩, rfl⟩)
              case measure => simp [intOf]; omega
            · obtain rfl : j = c := by omega
              go_wp2_with fail
              go_roundw
              case rel =>
                have HE : Hid (R + ((i : Int) - (j : Int)) = ((q + 1 : Nat) : Int) * ((i : Int) - j)) := Lib.hid (by
                  have h2 := hR.out
                  rw [show ((q + 1 : Nat) : Int) = (q : Int) + 1 by omega, Int.add_mul, ← h2]
                  omega)
                first | exact ⟨q + 1, R + ((i : Int) - (j : Int)), by omega, by go_num, HE, by omega, by omega, Lib.hid hs5.out.again⟩ | ((repeat apply Exists.intro); exact ⟨⟨q + 1, R + ((i : Int) - (j : Int)), by omega, by go_num, HE, by omega, by omega, Lib.hid hs5.out.again⟩, rfl⟩)
              case measure => simp [intOf]; omega
    · obtain rfl : q = 2 := by omega
      have hR2 : R = 2 * ((n : Int) - k) := hR.out
      subst hR2
      have DG : Hid (Calls Try.prog 13 #[.pointer (some ⟨p, 0, none⟩)] wr fun e w' => e = .returned (.int .i64 0) ∧ Kept [] wr w') := Lib.hid (by
        obtain ⟨a, ⟨h1, h2, h3, h4, h5, h6, h7, h8⟩, hu⟩ := hs.out
        exact up_given W wr p a hu h1 0 (by omega))
      have DR : Hid (∀ w', Kept [] wr w' → Calls Try.prog 14 #[.pointer (some ⟨p, 0, none⟩)] w' fun e w'' => e = .returned (.int .i64 (2 * ((n : Int) - k))) ∧ Kept [] w' w'') := Lib.hid (fun w' hk' => by
        obtain ⟨a, ⟨h1, h2, h3, h4, h5, h6, h7, h8⟩, hu⟩ := hs.out
        exact up_refused W w' p a (hu.keep0 hk') _ h8)
      have HK : Hid (Kept [] W wr) := Lib.hid (by
        obtain ⟨a, _, hu⟩ := hs.out
        exact hu.2)
      go_wp2_with fail
      (with_reducible refine (DG.out).mono ?_)
      rintro e w7 ⟨rfl, hb7⟩
      have hs7 := hb7.size
      (try simp only [World.size_alloc, World.size_setCell, World.size_drew, size_drewN] at hs7)
      go_wp2_with fail
      (with_reducible refine (DR.out _ hb7).mono ?_)
      rintro e w8 ⟨rfl, hb8⟩
      go_wp2_with fail
      go_ret
      exact ⟨rfl, (hb8.then_ (hb7.then_ HK.out)).below⟩
theorem own : ownKnob Try.prog.godebug = none := by kernel_rfl
theorem laidOut : laidOutB Try.prog = true := by kernel_rfl
set_option maxRecDepth 100000 in
theorem lifted (os : Os) (started : os.Started) (H : Type) (enc : TypeId × Value → H) :
    ReturnsInHanded {} Try.checked os 3 .any (Rows.arenaLimitSpec.pre6 enc Try.prog Try.f3 Rows.arenaLimitRow.domain false) (Rows.arenaLimitSpec.post enc Try.prog Try.f3 false true false false) := by
  refine returnsInHanded_of_change (C := Try.checked) own started (by kernel_rfl) Try.func3
    (ChangeSpec.witness6 (enc := enc) (C := Try.checked) false ⟨#[], #[.int .u8 0, .int .u8 0], []⟩ 8 (by kernel_rfl) (by kernel_rfl) (by kernel_rfl) (by kernel_rfl)) ?_
  intro W base args ds gs before hval0 hW hcnd _
  have hval : ∀ (j : Nat) t v, Try.f3.params[j]? = some t → args[j]? = some v → Value.okWide Try.prog W .any base t v := hval0
  have hW' := hW
  obtain ⟨p, q, hA0, hV, rfl, hfz, hnd⟩ := hW
  have hA : DataW.TrodAll enc Try.prog W 0 (fun _ => true) true Try.f3.params.toList args.toList ds p := hA0
  rw [Try.params3] at hA hval
  obtain ⟨v0, vs0, d0, ds0, p0, q0, hargs, rfl, rfl, h0, r0⟩ := trodAll_cons hA
  obtain ⟨v1, vs1, d1, ds1, p1, q1, rfl, rfl, rfl, h1, r1⟩ := trodAll_cons r0
  obtain ⟨rfl, rfl, rfl⟩ := trodAll_nil r1
  obtain rfl : args = #[v0, v1] := by cases args; simp_all
  obtain ⟨rfl, rfl⟩ := trodVars_none hV
  obtain ⟨a0, rfl, rfl, rfl, w0⟩ := open_int Try.underlying5 (hval 0 5 v0 rfl rfl) h0
  obtain ⟨a1, rfl, rfl, rfl, w1⟩ := open_int Try.underlying5 (hval 1 5 v1 rfl rfl) h1
  clear hA0 hval0
  refine (walk a0 a1 W w0 w1).mono fun e W' ⟨he, bel⟩ => ?_
  subst he
  exact ⟨_, rfl, _, _, _, [], _, [], hW', trodAll_mk1 (shut_bool Try.underlying4 _), (trodAll_cons_mk (shut_int Try.underlying5 w0) (trodAll_cons_mk (shut_int Try.underlying5 w1) trodAll_mk0)), rfl, bel.frame _, fun h => by cases h⟩
theorem over : Rows.arenaLimitRow.holds Try.pinned (OpenSpec.ofChange Rows.arenaLimitSpec) :=
  OpenClaim.holds_of_wide 3 Try.f3 rfl rfl rfl rfl rfl rfl rfl ⟨rfl, rfl, rfl, rfl, rfl⟩ rfl rfl rfl rfl rfl (by kernel_rfl) Try.func3 (by kernel_rfl)
    (of_decide_eq_true (by kernel_rfl)) (by unfold Func.isWrapper; first | (rw [if_pos (by decide +kernel)]; kernel_rfl) | (rw [if_neg (by decide +kernel)]; exact ⟨rfl, rfl⟩))
    (fun os started H enc _ => lifted os started H enc)
theorem proved : Rows.ArenaLimitSaid := over
#print axioms proved
end Go.Proofs.Ytekblfnemcaaeaa.ArenaLimit
