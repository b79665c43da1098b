/- Joined, a list has the other one's blocks first, in their order; the other one has none. No condition. -/
import Derived.Test.YtapolaefdbdnpaaListC
set_option linter.unusedVariables false
set_option linter.unusedSimpArgs false
namespace Go.Proofs.Ytapolaefdbdnpaa.ListJoins
open Go.RowKit Go.ChangeShapes Go.WideShapes Go.ChangeAt Go.Joins
set_option maxRecDepth 100000 in
set_option maxHeartbeats 4000000 in
theorem walk (a0 : Option Addr) (len0 cap0 : Nat) (z0 : List Int) (x1 : Int) (W : World) (w0 : IsRow .u8 W a0 len0 cap0 z0) (w1 : (Lit.int .u8 x1).wf = true) :
    Calls Try.prog 7 #[.slice a0 len0 cap0, .int .u8 x1] W fun e W' => e = .returned (.bool true) ∧ Below W.heap.size W W' := by
  have bx := bounds_u8 w1
  obtain ⟨ys, hl, hr, _, hwf, hlc, hcm⟩ := w0.seen
  unfold maxLen at hcm
  have hu : ∀ z, z ∈ ys → 0 ≤ z ∧ z ≤ 255 := fun z hz => bounds_u8 (hwf z hz)
  subst hl
  have HU := Lib.hid hu
  have HR := Lib.hid hr
  clear w0 hr hwf hu
  obtain ⟨zs, hzs⟩ : ∃ zs, zeros 2048 = zs := ⟨_, rfl⟩
  have HZL : Hid (zs.length = 2048) := Lib.hid (by rw [← hzs]; exact length_zeros _)
  have C1 : Hid (∀ w : World, Calls Try.prog 11 #[.int .u64 2048] w fun e w' => e = .returned (.tuple #[.pointer (some ⟨w.heap.size + 1, 0, none⟩), .int .i64 0]) ∧ MemB w' (w.heap.size + 1) w.heap.size zs ∧ Kept [] w w') := Lib.hid (by
    intro w; have := new_any w 2048 (by omega) (by omega) (by omega); rw [hzs] at this; exact this)
  clear hzs
  go_enter Try.func7, Try.ntmps7
  go_wp2_with fail
  (with_reducible refine (alive_any _).mono ?_)
  rintro e w1 ⟨rfl, hb1⟩
  have hs1 := hb1.size
  (try simp only [World.size_alloc, World.size_setCell, World.size_drew, size_drewN] at hs1)
  go_wp2_with fail
  (with_reducible refine (C1.out _).mono ?_)
  rintro e w2 ⟨rfl, hM2, hb2⟩
  have hs2 := hb2.size
  (try simp only [World.size_alloc, World.size_setCell, World.size_drew, size_drewN] at hs2)
  have M2 := Lib.hid hM2
  have hg2 := hM2.2.1.lt
  clear hM2
  (try simp only [size_drewN, World.size_drew] at M2 hg2)
  have hp2 := M2.out.1.lt
  go_wp2_with fail
  (with_reducible refine (blocks_any _ _ _ HU.out _ (HR.out.keep (hb1.trans0 hb2)) (by omega)).mono ?_)
  rintro e w3 ⟨⟨A, n, c, ns, rfl, hbl, rfl, hO3, hA3⟩, hb3⟩
  have hs3 := hb3.size
  (try simp only [World.size_alloc, World.size_setCell, World.size_drew, size_drewN] at hs3)
  have O3 := Lib.hid hO3
  clear hO3
  (try simp only [size_drewN, World.size_drew] at O3)
  have M3 := Lib.hid (M2.out.keep0 hb3)
  obtain ⟨xs, rfl, hv, hpw⟩ := hbl.nats
  rw [List.length_map]
  have hlen := hbl.len
  rw [List.length_map] at hlen
  have HV := Lib.hid hv
  have HPW := Lib.hid hpw
  obtain ⟨_, hnc, hcm⟩ := O3.out.cap
  rw [List.length_map] at hnc
  unfold maxLen at hcm
  have K3 : Hid (Kept [] W w3) := Lib.hid (by (repeat' (first | (with_reducible exact Kept.refl _ _) | (with_reducible assumption) | (with_reducible refine Kept.then_ (by with_reducible assumption) ?_) | (with_reducible refine Kept.thenS (by with_reducible assumption) ?_) | (with_reducible refine Kept.thenG (by with_reducible assumption) ?_ ?_) | (with_reducible refine Kept.thenG2 (by with_reducible assumption) ?_ ?_ ?_) | (with_reducible refine Kept.alloc ?_ _) | (with_reducible refine Kept.drew ?_) | (with_reducible refine Kept.drewN ?_ _) | (with_reducible refine Kept.setNew ?_ ?_ _) | ((try simp only [World.size_alloc, World.size_setCell, World.size_drew, size_drewN] at *); (try dsimp only); omega))))
  obtain ⟨k, hk⟩ : ∃ k : Nat, x1 % ((xs.length : Int) + 1) = (k : Int) := ⟨(x1 % ((xs.length : Int) + 1)).toNat, by have := Int.emod_nonneg x1 (b := (xs.length : Int) + 1) (by omega); omega⟩
  have hkn : k ≤ xs.length := by have := Int.emod_lt_of_pos x1 (b := (xs.length : Int) + 1) (by omega); omega
  have q1 : (k : Int) ≤ (c : Int) := by omega
  have q2 : (k : Int) ≤ (xs.length : Int) := by omega
  have q3 : (0 : Int) ≤ (k : Int) := by omega
  clear hv hpw hbl
  obtain ⟨A2, c2, hA2, hs2⟩ : ∃ (A2 : Option Addr) (c2 : Nat), (∀ w ys, RowX .u64 w A ys → ys.length = xs.length → RowX .u64 w A2 (ys.drop k)) ∧ ∀ w, (Instr.slice 29 (.slice A xs.length c) (some (.int .i64 (k : Int))) none none).run Try.prog w = .ok (.slice A2 (xs.length - k) c2) w := by
    refine ⟨if c = k then A else A.map (·.add k), c - k, fun w ys hy hl => ?_, fun w => ?_⟩
    · split
      · rw [List.drop_eq_nil_of_le (by omega)]; exact RowX.nil _ _ _
      · exact hy.drop k
    · simp [run_slice_l, Try.underlying29, go_sem]
      intro hlt; omega
  have HA2 := Lib.hid hA2
  clear hA2
  have HTK : Hid (xs.take k ++ xs.drop k = xs) := Lib.hid (List.take_append_drop k xs)
  have HAP : Hid (Apart xs) := HPW
  have HI : Hid (∀ S w', Kept S ((w3.alloc (.cells #[.int .u64 0, .int .i64 0] 32)).alloc (.cells #[.int .u64 0, .int .i64 0] 32)) w' → (∀ s, s ∈ S → s < w2.heap.size + 1 ∨ w3.heap.size ≤ s) → RowX .u64 w' A (xs.map (fun (x : Nat) => (x : Int)))) := Lib.hid (fun S w' hk hS => by
    have hO := O3.out
    rw [List.length_map] at hO
    exact (((hO.kept ((Kept.refl [] w3).alloc _)).kept ((Kept.refl [] _).alloc _)).keepN hk (fun s hs => by
      rcases hS s hs with h | h
      · left; exact h
      · right; exact hO.new_ne h)).row)
  have D1 : Hid (Calls Try.prog 13 #[.pointer (some ⟨w3.heap.size, 0, none⟩), .pointer (some ⟨w1.heap.size + 1, 0, none⟩), .slice A k c] ((w3.alloc (.cells #[.int .u64 0, .int .i64 0] 32)).alloc (.cells #[.int .u64 0, .int .i64 0] 32)) (PushIs ((w3.alloc (.cells #[.int .u64 0, .int .i64 0] 32)).alloc (.cells #[.int .u64 0, .int .i64 0] 32)) w3.heap.size (w1.heap.size + 1) w1.heap.size zs [] (xs.take k))) := Lib.hid (by
    refine push_chn _ _ _ _ _ 0 [] (xs.take k) A k c ((M3.out.keep0 ((Kept.refl [] w3).alloc _)).keep0 ((Kept.refl [] _).alloc _)) ((Blk.new _ _ _).alloc _) rfl (fun a ha => by have := HV.out a (List.mem_of_mem_take ha); have := HZL.out; omega) ?_ ?_ (by simp; omega) (by simp; omega)
    · rw [List.append_nil]
      have := HAP.out
      rw [← HTK.out] at this
      exact this.left
    · intro w' hk
      have := HI.out _ w' hk (fun s hs => by simp at hs; omega)
      rw [List.map_take]
      exact this.take k)
  go_wp2_with fail
  (with_reducible refine D1.out.mono ?_)
  rintro e w4 ⟨rfl, z4, h4, hM4, hZ4, hC4, hL4, hb4⟩
  have hs4 := hb4.size
  simp only [World.size_alloc] at hs4
  have M4 := Lib.hid hM4
  have Z4 := Lib.hid hZ4
  have C4 := Lib.hid hC4
  have L4 := Lib.hid hL4
  clear hM4 hZ4 hC4 hL4 D1
  have Y4 : Hid (Blk w4 (w3.heap.size + 1) 32 #[.int .u64 0, .int .i64 0]) := Lib.hid (Blk.keep (Blk.new' _ _ _ (by simp)) hb4 (by simp; omega))
  have K4 : Hid (Kept [] W w4) := Lib.hid (hb4.thenL ((K3.out.alloc _).alloc _) (fun s hs => by have := K3.out.size; simp at hs; omega))
  have D2 : Hid (Calls Try.prog 13 #[.pointer (some ⟨w3.heap.size + 1, 0, none⟩), .pointer (some ⟨w1.heap.size + 1, 0, none⟩), .slice A2 (xs.length - k) c2] w4 (PushIs w4 (w3.heap.size + 1) (w1.heap.size + 1) w1.heap.size z4 [] (xs.drop k))) := Lib.hid (by
    refine push_chn _ _ _ _ _ 0 [] (xs.drop k) A2 _ c2 M4.out Y4.out rfl (fun a ha => by have := HV.out a (List.mem_of_mem_drop ha); have := HZL.out; have := Z4.out.1; omega) ?_ ?_ (by simp) (by simp; omega)
    · rw [List.append_nil]
      have := HAP.out
      rw [← HTK.out] at this
      exact this.right
    · intro w' hk
      have := HI.out _ w' ((hb4.mono (T := [w3.heap.size, w3.heap.size + 1, w1.heap.size]) (fun s hs _ => by simp at hs ⊢; omega)).trans hk (fun s hs _ => by simp at hs ⊢; omega)) (fun s hs => by simp at hs; omega)
      rw [List.map_drop]
      exact HA2.out _ _ this (by simp))
  go_wp2_with fail
  (with_reducible refine D2.out.mono ?_)
  rintro e w5 ⟨rfl, z5, h5, hM5, hZ5, hC5, hL5, hb5⟩
  have hs5 := hb5.size
  have M5 := Lib.hid hM5
  have Z5 := Lib.hid hZ5
  have C5 := Lib.hid hC5
  have L5 := Lib.hid hL5
  clear hM5 hZ5 hC5 hL5 D2
  have K5 : Hid (Kept [] W w5) := Lib.hid (hb5.thenL K4.out (fun s hs => by have := K3.out.size; simp at hs; omega))
  have P5 : Hid (Apart ((xs.drop k).reverse ++ (xs.take k).reverse)) := Lib.hid (by
    have h1 := HAP.out
    rw [← HTK.out] at h1
    rw [← List.reverse_append]
    exact h1.perm (List.reverse_perm _).symm)
  have X5 : Hid (ListB w5 w3.heap.size (h4 : Int) (((xs.take k).reverse).length : Int)) := Lib.hid (by
    have := L4.out.keep hb5 (by have := K3.out.size; simp; omega)
    rwa [List.append_nil] at this)
  have CX5 : Hid (Chn z5 h4 (xs.take k).reverse) := Lib.hid (by
    have := C4.out
    rw [List.append_nil] at this
    refine this.rest Z5.out (fun a ha => ?_)
    exact P5.out.far (by simpa using ha))
  have Y5 : Hid (ListB w5 (w3.heap.size + 1) (h5 : Int) (((xs.drop k).reverse).length : Int)) := Lib.hid (by
    have := L5.out
    rwa [List.append_nil] at this)
  have CY5 : Hid (Chn z5 h5 (xs.drop k).reverse) := Lib.hid (by
    have := C5.out
    rwa [List.append_nil] at this)
  have HZ5 : Hid (z5.length = 2048) := Lib.hid (by rw [Z5.out.1, Z4.out.1, HZL.out])
  have HLT : Hid ((xs.take k).reverse.length = k) := Lib.hid (by simp; omega)
  have HLD : Hid ((xs.drop k).reverse.length = xs.length - k) := Lib.hid (by simp)
  generalize (xs.take k).reverse = L1 at P5 X5 CX5 HLT
  generalize (xs.drop k).reverse = L2 at P5 Y5 CY5 HLD
  clear hk q1 q2 q3 hs2
  go_wp2_with fail
  (with_reducible refine (all_chn _ _ _ _ _ _ L1 M5.out X5.out CX5.out (by have := HLT.out; have := HZ5.out; omega)).mono ?_)
  rintro e w6 ⟨⟨A6, c6, rfl, hO6, hA6⟩, hb6⟩
  have hs6 := hb6.size
  have O6 := Lib.hid hO6
  have HA6 := Lib.hid hA6
  clear hO6 hA6
  go_wp2_with fail
  (with_reducible refine (all_chn _ _ _ _ _ _ L2 (M5.out.keep0 hb6) (Y5.out.keep0 hb6) CY5.out (by have := HLD.out; have := HZ5.out; omega)).mono ?_)
  rintro e w7 ⟨⟨A7, c7, rfl, hO7, hA7⟩, hb7⟩
  have hs7 := hb7.size
  have O7 := Lib.hid hO7
  have HA7 := Lib.hid hA7
  clear hO7 hA7
  go_wp2_with fail
  (with_reducible refine (join_chn _ _ _ _ _ _ _ _ L1 L2 ((M5.out.keep0 hb6).keep0 hb7) ((X5.out.keep0 hb6).keep0 hb7) ((Y5.out.keep0 hb6).keep0 hb7) (by omega) CX5.out CY5.out P5.out (by have := HLT.out; omega) (by have := HLD.out; have := HZ5.out; omega)).mono ?_)
  rintro e w8 ⟨rfl, z8, h8, hM8, hZ8, hC8, hX8, hY8, hb8⟩
  have hs8 := hb8.size
  have M8 := Lib.hid hM8
  have C8 := Lib.hid hC8
  have X8 := Lib.hid hX8
  have Y8 := Lib.hid hY8
  have HL8 : Hid ((L2 ++ L1).length = xs.length ∧ z8.length = 2048) := Lib.hid ⟨by have := HLT.out; have := HLD.out; rw [List.length_append]; omega, by rw [hZ8.1, HZ5.out]⟩
  have K8 : Hid (Kept [] W w8) := Lib.hid (hb8.thenL ((K5.out.trans0 hb6).trans0 hb7) (fun s hs => by have := K3.out.size; simp at hs; omega))
  clear hM8 hZ8 hC8 hX8 hY8
  have X8n : Hid (ListB w8 w3.heap.size (h8 : Int) (xs.length : Int)) := Lib.hid (by have := X8.out; rwa [HL8.out.1] at this)
  have D9 : Hid (Calls Try.prog 15 #[.pointer (some ⟨w3.heap.size, 0, none⟩), .pointer (some ⟨w1.heap.size + 1, 0, none⟩)] w8 fun e w' => (∃ A c, e = .returned (.tuple #[.slice A xs.length c, .int .i64 0]) ∧ OwnI w8.heap.size .u64 28 w' (.slice A xs.length c) ((L2 ++ L1).map (fun (x : Nat) => (x : Int)))) ∧ Kept [] w8 w') := Lib.hid (by
    have := all_chn _ _ _ _ _ _ (L2 ++ L1) M8.out X8.out C8.out (by have := HL8.out; omega)
    rw [HL8.out.1] at this
    exact this.mono (fun e w' h => ⟨by obtain ⟨A, c, h1, h2, _⟩ := h.1; exact ⟨A, c, h1, h2⟩, h.2⟩))
  go_wp2_with fail
  (with_reducible refine D9.out.mono ?_)
  rintro e w9 ⟨⟨A9, c9, rfl, hO9⟩, hb9⟩
  have hs9 := hb9.size
  have O9 := Lib.hid hO9
  clear hO9
  have D10 : Hid (Calls Try.prog 15 #[.pointer (some ⟨w3.heap.size + 1, 0, none⟩), .pointer (some ⟨w1.heap.size + 1, 0, none⟩)] w9 fun e w' => (∃ A c, e = .returned (.tuple #[.slice A 0 c, .int .i64 0])) ∧ Kept [] w9 w') := Lib.hid ((all_chn _ _ _ _ z8 0 [] (M8.out.keep0 hb9) (Y8.out.keep0 hb9) rfl (Nat.zero_le _)).mono (fun e w' h => ⟨by obtain ⟨A, c, h1, h2, _⟩ := h.1; exact ⟨A, c, h1⟩, h.2⟩))
  go_wp2_with fail
  (with_reducible refine D10.out.mono ?_)
  rintro e w10 ⟨⟨A10, c10, rfl⟩, hb10⟩
  have hs10 := hb10.size
  have X10 := Lib.hid ((X8n.out.keep0 hb9).keep0 hb10)
  have Y10 := Lib.hid ((Y8.out.keep0 hb9).keep0 hb10)
  have d1 := Blk.cell X10.out 1
  have d2 := Blk.cell Y10.out 0
  have d3 := Blk.cell Y10.out 1
  have l1 := Blk.lt X10.out
  have l2 := Blk.lt Y10.out
  have R7 := Lib.hid ((O7.out.keepN hb8 (fun s hs => by simp at hs; left; omega)).kept (hb9.trans0 hb10)).row
  have R6 := Lib.hid (((O6.out.kept hb7).keepN hb8 (fun s hs => by simp at hs; left; omega)).kept (hb9.trans0 hb10)).row
  have R9 := Lib.hid (O9.out.kept hb10).row
  have HLL : Hid (L1.length + L2.length ≤ 120) := Lib.hid (by have := HLT.out; have := HLD.out; omega)
  go_wp2_with (refine app_gd .u64 29 28 8 Try.underlying29 info_u64 (by omega) (by rfl) (.tmp 111) (.tmp 112) rfl w10 w10.heap.size _ [] (L2.map (fun (x : Nat) => (x : Int))) rfl (OwnI.made' (b := w10.heap.size) _ rfl (Nat.le_refl _)) A7 _ c7 (by simp) rfl (fun h => HA7.out h) (R7.out.keep ((Kept.refl [] w10).alloc _)) ((Kept.refl [] w10).alloc _) (Nat.le_refl _) (by simp) (by have := HLL.out; simp; omega) ?_)
  intro A11 n11 c11 w11 hn11 own11 owo11 hk11 hg11 hs11 hc11 hr11
  (try simp only [World.size_alloc] at hs11)
  have O11 := Lib.hid own11
  have HR11 := Lib.hid (R6.out.keep hk11)
  have HSV := hk11.size
  clear hg11 owo11 own11 hr11
  go_wp2_with (refine app_gd .u64 29 28 8 Try.underlying29 info_u64 (by omega) (by rfl) (.tmp 113) (.tmp 114) rfl w10 w10.heap.size _ _ (L1.map (fun (x : Nat) => (x : Int))) rfl O11.out A6 _ c6 (by simp) rfl (fun h => HA6.out h) HR11.out hk11 (Nat.le_refl _) HSV (by have := HLL.out; simp; omega) ?_)
  intro A12 n12 c12 w12 hn12 own12 owo12 hk12 hg12 hs12 hc12 hr12
  have HN12 : Hid (n12 = ((L2 ++ L1).map (fun (x : Nat) => (x : Int))).length) := Lib.hid (by have := hn12.out; simp at this ⊢; omega)
  have R12 : Hid (RowX .u64 w12 A12 ((L2 ++ L1).map (fun (x : Nat) => (x : Int)))) := Lib.hid (by
    rw [List.map_append]
    simpa using hr12)
  have R9b := Lib.hid (R9.out.keep hk12)
  have HNX : Hid (xs.length = ((L2 ++ L1).map (fun (x : Nat) => (x : Int))).length) := Lib.hid (by rw [List.length_map]; exact HL8.out.1.symm)
  clear hg12 owo12 own12 hr12 hn12
  go_wp2_with fail
  (with_reducible refine (same_eq _ _ _ _ _ _ _ _ HNX.out R9b.out HN12.out R12.out (by have := HNX.out; omega)).mono ?_)
  rintro e w13 ⟨rfl, hb13⟩
  go_wp2_with fail
  go_ret
  exact ⟨rfl, Kept.below ((((K8.out.trans0 hb9).trans0 hb10).trans0 hk12).trans0 hb13)⟩
theorem own : ownKnob Try.prog.godebug = none := by kernel_rfl
theorem laidOut : laidOutB Try.prog = true := by kernel_rfl
set_option maxRecDepth 100000 in
theorem lifted (os : Os) (started : os.Started) (H : Type) (enc : TypeId × Value → H) :
    ReturnsInHanded {} Try.checked os 7 .any (Rows.listJoinsSpec.pre6 enc Try.prog Try.f7 Rows.listJoinsRow.domain false) (Rows.listJoinsSpec.post enc Try.prog Try.f7 false true false false) := by
  refine returnsInHanded_of_change (C := Try.checked) own started (by kernel_rfl) Try.func7
    (ChangeSpec.witness6 (enc := enc) (C := Try.checked) false ⟨#[], #[.slice none 0 0, .int .u8 0], []⟩ 8 (by kernel_rfl) (by kernel_rfl) (by kernel_rfl) (by kernel_rfl)) ?_
  intro W base args ds gs before hval0 hW hcnd _
  have hval : ∀ (j : Nat) t v, Try.f7.params[j]? = some t → args[j]? = some v → Value.okWide Try.prog W .any base t v := hval0
  have hW' := hW
  obtain ⟨p, q, hA0, hV, rfl, hfz, hnd⟩ := hW
  have hA : DataW.TrodAll enc Try.prog W 0 (fun _ => true) true Try.f7.params.toList args.toList ds p := hA0
  rw [Try.params7] at hA hval
  obtain ⟨v0, vs0, d0, ds0, p0, q0, hargs, rfl, rfl, h0, r0⟩ := trodAll_cons hA
  obtain ⟨v1, vs1, d1, ds1, p1, q1, rfl, rfl, rfl, h1, r1⟩ := trodAll_cons r0
  obtain ⟨rfl, rfl, rfl⟩ := trodAll_nil r1
  obtain rfl : args = #[v0, v1] := by cases args; simp_all
  obtain ⟨rfl, rfl⟩ := trodVars_none hV
  have k0 := h0
  have lt0 : ∀ x ∈ p0, x.block < W.heap.size := by obtain ⟨m, hm⟩ := k0; exact DataW.trod_lt m _ _ _ hm
  obtain ⟨a0, len0, cap0, rfl⟩ := okWide_slice Try.underlying22 (hval 0 22 v0 rfl rfl)
  obtain ⟨z0, w0⟩ := isRow_of Try.underlying22 Try.underlying5 (by kernel_rfl) h0
  obtain ⟨a1, rfl, rfl, rfl, w1⟩ := open_int Try.underlying5 (hval 1 5 v1 rfl rfl) h1
  clear hA0 hval0
  refine (walk a0 len0 cap0 z0 a1 W w0 w1).mono fun e W' ⟨he, bel⟩ => ?_
  subst he
  exact ⟨_, rfl, _, _, _, [], _, [], hW', trodAll_mk1 (shut_bool Try.underlying4 _), (trodAll_cons_mk (Below.trod laidOut (by kernel_rfl) (of_decide_eq_true (by kernel_rfl)) k0 bel lt0) (trodAll_cons_mk (shut_int Try.underlying5 w1) trodAll_mk0)), rfl, bel.frame _, fun h => by cases h⟩
theorem over : Rows.listJoinsRow.holds Try.pinned (OpenSpec.ofChange Rows.listJoinsSpec) :=
  OpenClaim.holds_of_wide 7 Try.f7 rfl rfl rfl rfl rfl rfl rfl ⟨rfl, rfl, rfl, rfl, rfl⟩ rfl rfl rfl rfl rfl (by kernel_rfl) Try.func7 (by kernel_rfl)
    (of_decide_eq_true (by kernel_rfl)) (by unfold Func.isWrapper; first | (rw [if_pos (by decide +kernel)]; kernel_rfl) | (rw [if_neg (by decide +kernel)]; exact ⟨rfl, rfl⟩))
    (fun os started H enc _ => lifted os started H enc)
theorem proved : Rows.ListJoinsSaid := over
#print axioms proved
end Go.Proofs.Ytapolaefdbdnpaa.ListJoins
