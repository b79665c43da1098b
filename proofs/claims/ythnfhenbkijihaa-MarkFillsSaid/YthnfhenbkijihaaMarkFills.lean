/- Rows that are taken don't meet; as many come as there is room for; given back, all is free. No condition. -/
import Derived.Test.YthnfhenbkijihaaMarkC
set_option linter.unusedVariables false
set_option linter.unusedSimpArgs false
namespace Go.Proofs.Ythnfhenbkijihaa.MarkFills
open Go.RowKit Go.ChangeShapes Go.WideShapes Go.ChangeAt Go.Joins
theorem put_two (bs : List Bool) (a c k : Nat) (v : Bool) (h : a + k ≤ bs.length) (hc : c ≤ k) : put (put bs a c v) (a + c) (k - c) v = put bs a k v := by
  have hl := length_put bs a c v (by omega)
  apply List.ext_getElem?
  intro i
  rw [put_get _ (a + c) (k - c) v (by omega), put_get bs a k v h, put_get bs a c v (by omega)]
  by_cases h1 : a ≤ i ∧ i < a + k
  · rw [if_pos h1]
    by_cases h2 : a + c ≤ i ∧ i < a + c + (k - c)
    · rw [if_pos h2]
    · rw [if_neg h2, if_pos (by omega)]
  · rw [if_neg h1, if_neg (by omega), if_neg (by omega)]
/-- The first m of S are taken. -/
def fst (S m : Nat) : List Bool := put (frees S) 0 m true
theorem length_fst {S m : Nat} (h : m ≤ S) : (fst S m).length = S := by unfold fst; rw [length_put _ _ _ _ (by rw [length_frees]; omega), length_frees]
theorem fst_get {S m : Nat} (h : m ≤ S) (i : Nat) (hi : i < S) : (fst S m)[i]? = some (decide (i < m)) := by
  unfold fst
  rw [put_get _ _ _ _ (by rw [length_frees]; omega)]
  by_cases h1 : i < m
  · rw [if_pos ⟨by omega, by omega⟩]; simp [h1]
  · rw [if_neg (by omega)]
    unfold frees
    rw [List.getElem?_replicate, if_pos hi]; simp [h1]
theorem fst_free {S m k : Nat} (h : m + k ≤ S) : FreeAt (fst S m) m k := ⟨by rw [length_fst (by omega)]; omega, fun i hi => by rw [fst_get (by omega) _ (by omega)]; simp⟩
theorem fst_no {S m k b : Nat} (h : m ≤ S) (hk : 1 ≤ k) (hb : b < m ∨ S < b + k) : ¬ FreeAt (fst S m) b k := fun hf => by
  have h1 := hf.1
  rw [length_fst h] at h1
  have h2 := hf.2 0 (by omega)
  rw [Nat.add_zero, fst_get h b (by omega)] at h2
  have : ¬ b < m := by simpa using h2
  omega
theorem fst_put {S m k : Nat} (h : m + k ≤ S) : put (fst S m) m k true = fst S (m + k) := by
  have := put_two (frees S) 0 m (m + k) true (by rw [length_frees]; omega) (by omega)
  rw [Nat.zero_add, show m + k - m = k by omega] at this
  exact this
theorem fst_cnt {S m : Nat} (h : m ≤ S) : (cntF (fst S m) : Int) = (S : Int) - (m : Int) := by
  have h1 := cntF_put (frees S) 0 m true (by rw [length_frees]; omega)
  have h2 : cntF ((frees S).drop (0 + m)) = S - m := by unfold frees; rw [List.drop_replicate]; have := cntF_frees (S - (0 + m)); unfold frees at this; rw [this]; omega
  have h3 : cntF ((frees S).take 0) = 0 := by simp [cntF]
  unfold fst
  rw [h1, h2, h3]
  simp
  omega
theorem fst_long {S m : Nat} (h : m ≤ S) : longV (fst S m) = (S : Int) - (m : Int) := by
  rw [long_eq (bs := fst S m) (n := S - m) (b := m) (fun _ => fst_free (by omega)) (fun a => fst_no h (by omega) (by omega))]
  omega
/-- Of the first m of S the first c are free again. -/
def snd (S m c : Nat) : List Bool := put (fst S m) 0 c false
theorem length_snd {S m c : Nat} (h : m ≤ S) (hc : c ≤ m) : (snd S m c).length = S := by unfold snd; rw [length_put _ _ _ _ (by rw [length_fst h]; omega), length_fst h]
theorem snd_all {S m c k : Nat} (h : m ≤ S) (hc : c + k ≤ m) : AllAt (snd S m c) c k true := fun i hi => by
  unfold snd
  rw [put_get _ _ _ _ (by rw [length_fst h]; omega), if_neg (by omega), fst_get h _ (by omega)]
  simp; omega
theorem snd_put {S m c k : Nat} (h : m ≤ S) (hc : c + k ≤ m) : put (snd S m c) c k false = snd S m (c + k) := by
  have := put_two (fst S m) 0 c (c + k) false (by rw [length_fst h]; omega) (by omega)
  rw [Nat.zero_add, show c + k - c = k by omega] at this
  exact this
theorem snd_end {S m : Nat} (h : m ≤ S) : snd S m m = fst S 0 := by
  apply List.ext_getElem?
  intro i
  by_cases hi : i < S
  · rw [fst_get (by omega) i hi]
    unfold snd
    rw [put_get _ _ _ _ (by rw [length_fst h]; omega)]
    by_cases h1 : i < m
    · rw [if_pos (by omega)]; simp
    · rw [if_neg (by omega), fst_get h i hi]; simp [h1]
  · rw [List.getElem?_eq_none (by rw [length_snd h (Nat.le_refl _)]; omega), List.getElem?_eq_none (by rw [length_fst (by omega)]; omega)]
theorem snd_zero (S m : Nat) : snd S m 0 = fst S m := put_zero _ _ _
theorem fst_zero (S : Nat) : fst S 0 = frees S := put_zero _ _ _
set_option maxRecDepth 100000 in
set_option maxHeartbeats 4000000 in
theorem walk1 (a0 a1 : Int) (W : World) (S K q r : Nat) (hS : a0 % 256 + 1 = (S : Int)) (hK : a1 % (S : Int) + 1 = (K : Int)) (h0 : 0 ≤ a0 ∧ a0 ≤ 255) (h1 : 0 ≤ a1 ∧ a1 ≤ 255) (hb : 1 ≤ K ∧ K ≤ S ∧ S ≤ 256) (hq : (S : Int) / (K : Int) = (q : Int)) (hr : (S : Int) % (K : Int) = (r : Int)) (hqr : q * K + r = S) (hrK : r < K) :
    Calls Try.prog 3 #[.int .u8 a0, .int .u8 a1] W fun e W' => e = .returned (.bool true) ∧ Below W.heap.size W W' := by
  have hqK : q * K ≤ S := by omega
  have C1 : Hid (∀ w : World, Calls Try.prog 10 #[.int .i64 (S : Int)] w fun e w' => e = .returned (.tuple #[.pointer (some ⟨w.heap.size + 1, 0, none⟩), .int .i64 0]) ∧ MarkB w' (w.heap.size + 1) w.heap.size (fst S 0) ∧ Kept [] w w') := Lib.hid (fun w => by rw [fst_zero]; exact new_any w S (by omega) (by omega))
  have hq256 : q ≤ 256 := by
    have : q * 1 ≤ q * K := Nat.mul_le_mul_left q hb.1
    omega
  have HQR := Lib.hid hqr
  have HQK := Lib.hid hqK
  clear hqr hqK
  go_enter Try.func3, Try.ntmps3
  go_wp2_with fail
  (with_reducible refine (alive_any _).mono ?_)
  rintro e w1 ⟨rfl, hb1⟩
  have hs1 := hb1.size
  (try simp only [World.size_alloc, World.size_setCell, World.size_drew, size_drewN] at hs1)
  go_wp2_with fail
  (with_reducible refine (C1.out _).mono ?_)
  rintro e w2 ⟨rfl, hM2, hb2⟩
  have hs2 := hb2.size
  (try simp only [World.size_alloc, World.size_setCell, World.size_drew, size_drewN] at hs2)
  have M2 := Lib.hid hM2
  have hg2 := hM2.2.1.lt
  clear hM2
  (try simp only [size_drewN, World.size_drew] at M2 hg2)
  have K2 : Hid (Kept [] W w2) := Lib.hid (by (repeat' (first | (with_reducible exact Kept.refl _ _) | (with_reducible assumption) | (with_reducible refine Kept.then_ (by with_reducible assumption) ?_) | (with_reducible refine Kept.thenS (by with_reducible assumption) ?_) | (with_reducible refine Kept.thenG (by with_reducible assumption) ?_ ?_) | (with_reducible refine Kept.thenG2 (by with_reducible assumption) ?_ ?_ ?_) | (with_reducible refine Kept.alloc ?_ _) | (with_reducible refine Kept.drew ?_) | (with_reducible refine Kept.drewN ?_ _) | (with_reducible refine Kept.setNew ?_ ?_ _) | ((try simp only [World.size_alloc, World.size_setCell, World.size_drew, size_drewN] at *); (try dsimp only); omega))))
  go_wp2_with fail
  go_loopw [36] (fun i wr => ∃ j : Nat, j ≤ q ∧ i = .int .i64 j ∧ Hid (MarkB wr (w1.heap.size + 1) w1.heap.size (fst S (j * K))) ∧ Kept [] W wr) (fun i _ => q - (intOf i).toNat)
  case atStart => exact ⟨0, Nat.zero_le _, rfl, Lib.hid (by rw [Nat.zero_mul]; exact M2.out), K2.out⟩
  case round =>
    obtain ⟨j, hj, rfl, hm, hkw⟩ := hrel
    have hsr := hkw.size
    have hmp := hm.out.ltp
    by_cases hlt : j < q
    · obtain ⟨m, hmv⟩ : ∃ m : Nat, j * K = m := ⟨_, rfl⟩
      have hm1 : m + K ≤ S := by
        have h2 : (j + 1) * K ≤ q * K := Nat.mul_le_mul_right K (by omega)
        rw [Nat.add_mul, Nat.one_mul] at h2
        have := HQK.out
        omega
      have e1 : (j : Int) * (K : Int) = (m : Int) := by rw [← hmv]; simp
      have e2 : ((j : Int) + 1) * (K : Int) = (m : Int) + (K : Int) := by rw [Int.add_mul, e1]; omega
      have e3 : Hid ((j + 1) * K = m + K) := Lib.hid (by rw [Nat.add_mul, Nat.one_mul, hmv])
      have DT : Hid (Calls Try.prog 11 #[.pointer (some ⟨w1.heap.size + 1, 0, none⟩), .int .i64 (K : Int)] wr fun e w' => e = .returned (.tuple #[.int .i64 (m : Int), .int .i64 0]) ∧ MarkB w' (w1.heap.size + 1) w1.heap.size (fst S (m + K)) ∧ Kept [w1.heap.size + 1, w1.heap.size] wr w') := Lib.hid (by
        have h2 := hm.out
        rw [hmv] at h2
        have := take_at wr _ _ _ h2 K m hb.1 (fst_free (by omega)) (fun b hbm => fst_no (by omega) hb.1 (.inl hbm))
        rw [fst_put hm1] at this
        exact this)
      have DC : Hid (∀ w, MarkB w (w1.heap.size + 1) w1.heap.size (fst S (m + K)) → Calls Try.prog 12 #[.pointer (some ⟨w1.heap.size + 1, 0, none⟩)] w fun e w' => e = .returned (.int .i64 ((S : Int) - ((m : Int) + (K : Int)))) ∧ w = w') := Lib.hid (fun w h => by
        have := left_any w _ _ _ h
        rw [fst_cnt hm1, Int.natCast_add] at this
        exact this)
      clear hmv
      go_wp2_with fail
      (with_reducible refine (DT.out).mono ?_)
      rintro e w4 ⟨rfl, hM4, hb4⟩
      have hs4 := hb4.size
      (try simp only [World.size_alloc, World.size_setCell, World.size_drew, size_drewN] at hs4)
      have M4 := Lib.hid hM4
      have hg4 := hM4.2.1.lt
      clear hM4
      (try simp only [size_drewN, World.size_drew] at M4 hg4)
      go_wp2_with fail
      (with_reducible refine (DC.out _ M4.out).mono ?_)
      rintro e w5 ⟨rfl, rfl⟩
      go_wp2_with fail
      go_roundw
      case rel => exact ⟨j + 1, by omega, by go_num, Lib.hid (by rw [e3.out]; exact M4.out), hb4.thenG2 hkw (by omega) (by omega)⟩
      case measure => simp [intOf]; omega
    · obtain rfl : j = q := by omega
      have HM := Lib.hid hm.out
      have DT : Hid (Calls Try.prog 11 #[.pointer (some ⟨w1.heap.size + 1, 0, none⟩), .int .i64 (K : Int)] wr fun e w' => e = .returned (.tuple #[.int .i64 0, .int .i64 4]) ∧ Kept [] wr w') := Lib.hid (take_full wr _ _ _ hm.out K hb.1 (by rw [length_fst HQK.out]; omega) (fun b => fst_no HQK.out hb.1 (by have := HQR.out; omega)))
      have DL : Hid (∀ w, MarkB w (w1.heap.size + 1) w1.heap.size (fst S (j * K)) → Calls Try.prog 13 #[.pointer (some ⟨w1.heap.size + 1, 0, none⟩)] w fun e w' => e = .returned (.int .i64 (r : Int)) ∧ Kept [] w w') := Lib.hid (fun w h => by
        have := longest_any w _ _ _ h
        rw [fst_long HQK.out, show (S : Int) - ((j * K : Nat) : Int) = (r : Int) by have := HQR.out; omega] at this
        exact this)
      go_wp2_with fail
      (with_reducible refine (DT.out).mono ?_)
      rintro e w4 ⟨rfl, hb4⟩
      have hs4 := hb4.size
      (try simp only [World.size_alloc, World.size_setCell, World.size_drew, size_drewN] at hs4)
      have M4 := Lib.hid (hm.out.keep0 hb4)
      have K4 := Lib.hid (hkw.trans0 hb4)
      go_wp2_with fail
      refine wp_region_kept (by kernel_rfl) (by kernel_rfl) ?_
      intro TT FF hne hFF hcl
      repeat (first | go_big_quiet_step ((first | (go_at_call 13; (with_reducible refine kept_call hcl (DL.out _ (M4.out.keep0 (hFF _))))))) | quiet_step ((first | (go_at_call 13; (with_reducible refine kept_call hcl (DL.out _ (M4.out.keep0 (hFF _))))))))
      refine wpQuiet_nil ?_
      rintro w5 ⟨x, hx⟩
      have hb5 := hFF x
      rw [← hx] at hb5
      clear hx x hne hFF hcl 
      have hs5 := hb5.size
      (try simp only [World.size_alloc, World.size_setCell, World.size_drew, size_drewN] at hs5)
      have M5 := Lib.hid (M4.out.keep0 hb5)
      have K5 := Lib.hid (K4.out.trans0 hb5)
      go_wp2_with fail
      rw [hr]
      go_loopw [85] (fun i w6 => ∃ c : Nat, c ≤ j ∧ i = .int .i64 c ∧ Hid (MarkB w6 (w1.heap.size + 1) w1.heap.size (snd S (j * K) (c * K))) ∧ Kept [] W w6) (fun i _ => j - (intOf i).toNat)
      case atStart => exact ⟨0, Nat.zero_le _, rfl, Lib.hid (by rw [Nat.zero_mul, snd_zero]; exact M5.out), K5.out⟩
      case round =>
        obtain ⟨c, hc, rfl, hm6, hk6⟩ := hrel
        have hsr6 := hk6.size
        by_cases hlt : c < j
        · obtain ⟨m, hmv⟩ : ∃ m : Nat, c * K = m := ⟨_, rfl⟩
          have hm1 : Hid (m + K ≤ j * K) := Lib.hid (by
            have h2 : (c + 1) * K ≤ j * K := Nat.mul_le_mul_right K (by omega)
            rw [Nat.add_mul, Nat.one_mul] at h2
            omega)
          have hm256 : m ≤ 256 := by have := hm1.out; have := HQK.out; omega
          have e1 : (c : Int) * (K : Int) = (m : Int) := by rw [← hmv]; simp
          have e3 : Hid ((c + 1) * K = m + K) := Lib.hid (by rw [Nat.add_mul, Nat.one_mul, hmv])
          have DF : Hid (Calls Try.prog 14 #[.pointer (some ⟨w1.heap.size + 1, 0, none⟩), .int .i64 (m : Int), .int .i64 (K : Int)] wr fun e w' => e = .returned (.int .i64 0) ∧ MarkB w' (w1.heap.size + 1) w1.heap.size (snd S (j * K) (m + K)) ∧ Kept [w1.heap.size + 1, w1.heap.size] wr w') := Lib.hid (by
            have h2 := hm6.out
            rw [hmv] at h2
            have := free_ok wr _ _ _ h2 m K hb.1 (by rw [length_snd HQK.out (by have := hm1.out; omega)]; have := hm1.out; have := HQK.out; omega) (snd_all HQK.out hm1.out)
            rw [snd_put HQK.out hm1.out] at this
            exact this)
          clear hmv
          go_wp2_with fail
          (with_reducible refine (DF.out).mono ?_)
          rintro e w7 ⟨rfl, hM7, hb7⟩
          have hs7 := hb7.size
          (try simp only [World.size_alloc, World.size_setCell, World.size_drew, size_drewN] at hs7)
          have M7 := Lib.hid hM7
          have hg7 := hM7.2.1.lt
          clear hM7
          (try simp only [size_drewN, World.size_drew] at M7 hg7)
          go_wp2_with fail
          go_roundw
          case rel => exact ⟨c + 1, by omega, by go_num, Lib.hid (by rw [e3.out]; exact M7.out), hb7.thenG2 hk6 (by omega) (by omega)⟩
          case measure => simp [intOf]; omega
        · obtain rfl : c = j := by omega
          have hfin := hm6.out
          rw [snd_end HQK.out] at hfin
          have HF := Lib.hid hfin
          have DC := Lib.hid (left_any wr _ _ _ hfin)
          have DL2 := Lib.hid (longest_any wr _ _ _ hfin)
          rw [fst_cnt (Nat.zero_le S), show (S : Int) - ((0 : Nat) : Int) = (S : Int) by omega] at DC
          rw [fst_long (Nat.zero_le S), show (S : Int) - ((0 : Nat) : Int) = (S : Int) by omega] at DL2
          clear hfin
          go_wp2_with fail
          (with_reducible refine (DC.out).mono ?_)
          rintro e w8 ⟨rfl, rfl⟩
          go_wp2_with fail
          (with_reducible refine (DL2.out).mono ?_)
          rintro e w9 ⟨rfl, hb9⟩
          have hs9 := hb9.size
          (try simp only [World.size_alloc, World.size_setCell, World.size_drew, size_drewN] at hs9)
          go_wp2_with fail
          go_ret
          exact ⟨rfl, Kept.below (hk6.trans0 hb9)⟩
theorem walk (a0 a1 : Int) (W : World) (w0 : (Lit.int .u8 a0).wf = true) (w1 : (Lit.int .u8 a1).wf = true) :
    Calls Try.prog 3 #[.int .u8 a0, .int .u8 a1] W fun e W' => e = .returned (.bool true) ∧ Below W.heap.size W W' := by
  have b0 := bounds_u8 w0
  have b1 := bounds_u8 w1
  obtain ⟨S, hS⟩ : ∃ S : Nat, a0 % 256 + 1 = (S : Int) := ⟨(a0 % 256 + 1).toNat, by omega⟩
  have hS1 : (0 : Int) < (S : Int) := by omega
  have h2 := Int.emod_nonneg a1 (show (S : Int) ≠ 0 by omega)
  have h3 := Int.emod_lt_of_pos a1 hS1
  obtain ⟨K, hK⟩ : ∃ K : Nat, a1 % (S : Int) + 1 = (K : Int) := ⟨(a1 % (S : Int) + 1).toNat, by omega⟩
  have e := Nat.div_add_mod S K
  rw [Nat.mul_comm] at e
  exact walk1 a0 a1 W S K (S / K) (S % K) hS hK b0 b1 (by omega) (by simp) (by simp) e (Nat.mod_lt _ (by omega))
theorem own : ownKnob Try.prog.godebug = none := by kernel_rfl
theorem laidOut : laidOutB Try.prog = true := by kernel_rfl
set_option maxRecDepth 100000 in
theorem lifted (os : Os) (started : os.Started) (H : Type) (enc : TypeId × Value → H) :
    ReturnsInHanded {} Try.checked os 3 .any (Rows.markFillsSpec.pre6 enc Try.prog Try.f3 Rows.markFillsRow.domain false) (Rows.markFillsSpec.post enc Try.prog Try.f3 false true false false) := by
  refine returnsInHanded_of_change (C := Try.checked) own started (by kernel_rfl) Try.func3
    (ChangeSpec.witness6 (enc := enc) (C := Try.checked) false ⟨#[], #[.int .u8 0, .int .u8 0], []⟩ 8 (by kernel_rfl) (by kernel_rfl) (by kernel_rfl) (by kernel_rfl)) ?_
  intro W base args ds gs before hval0 hW hcnd _
  have hval : ∀ (j : Nat) t v, Try.f3.params[j]? = some t → args[j]? = some v → Value.okWide Try.prog W .any base t v := hval0
  have hW' := hW
  obtain ⟨p, q, hA0, hV, rfl, hfz, hnd⟩ := hW
  have hA : DataW.TrodAll enc Try.prog W 0 (fun _ => true) true Try.f3.params.toList args.toList ds p := hA0
  rw [Try.params3] at hA hval
  obtain ⟨v0, vs0, d0, ds0, p0, q0, hargs, rfl, rfl, h0, r0⟩ := trodAll_cons hA
  obtain ⟨v1, vs1, d1, ds1, p1, q1, rfl, rfl, rfl, h1, r1⟩ := trodAll_cons r0
  obtain ⟨rfl, rfl, rfl⟩ := trodAll_nil r1
  obtain rfl : args = #[v0, v1] := by cases args; simp_all
  obtain ⟨rfl, rfl⟩ := trodVars_none hV
  obtain ⟨a0, rfl, rfl, rfl, w0⟩ := open_int Try.underlying5 (hval 0 5 v0 rfl rfl) h0
  obtain ⟨a1, rfl, rfl, rfl, w1⟩ := open_int Try.underlying5 (hval 1 5 v1 rfl rfl) h1
  clear hA0 hval0
  refine (walk a0 a1 W w0 w1).mono fun e W' ⟨he, bel⟩ => ?_
  subst he
  exact ⟨_, rfl, _, _, _, [], _, [], hW', trodAll_mk1 (shut_bool Try.underlying4 _), (trodAll_cons_mk (shut_int Try.underlying5 w0) (trodAll_cons_mk (shut_int Try.underlying5 w1) trodAll_mk0)), rfl, bel.frame _, fun h => by cases h⟩
theorem over : Rows.markFillsRow.holds Try.pinned (OpenSpec.ofChange Rows.markFillsSpec) :=
  OpenClaim.holds_of_wide 3 Try.f3 rfl rfl rfl rfl rfl rfl rfl ⟨rfl, rfl, rfl, rfl, rfl⟩ rfl rfl rfl rfl rfl (by kernel_rfl) Try.func3 (by kernel_rfl)
    (of_decide_eq_true (by kernel_rfl)) (by unfold Func.isWrapper; first | (rw [if_pos (by decide +kernel)]; kernel_rfl) | (rw [if_neg (by decide +kernel)]; exact ⟨rfl, rfl⟩))
    (fun os started H enc _ => lifted os started H enc)
theorem proved : Rows.MarkFillsSaid := over
#print axioms proved
end Go.Proofs.Ythnfhenbkijihaa.MarkFills
