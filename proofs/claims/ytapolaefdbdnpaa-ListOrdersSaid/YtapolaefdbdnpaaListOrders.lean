/- What is pushed last is popped first; all are there, each once; empty, none is. No condition. -/
import Derived.Test.YtapolaefdbdnpaaListH
set_option linter.unusedVariables false
set_option linter.unusedSimpArgs false
namespace Go.Proofs.Ytapolaefdbdnpaa.ListOrders
open Go.RowKit Go.ChangeShapes Go.WideShapes Go.ChangeAt Go.Joins
set_option maxRecDepth 100000 in
set_option maxHeartbeats 4000000 in
theorem walk (a0 : Option Addr) (len0 cap0 : Nat) (z0 : List Int) (W : World) (w0 : IsRow .u8 W a0 len0 cap0 z0) :
    Calls Try.prog 5 #[.slice a0 len0 cap0] W fun e W' => e = .returned (.bool true) ∧ Below W.heap.size W W' := by
  obtain ⟨ys, hl, hr, _, hwf, hlc, hcm⟩ := w0.seen
  unfold maxLen at hcm
  have hu : ∀ z, z ∈ ys → 0 ≤ z ∧ z ≤ 255 := fun z hz => bounds_u8 (hwf z hz)
  subst hl
  have HU := Lib.hid hu
  have HR := Lib.hid hr
  clear w0 hr hwf hu
  obtain ⟨zs, hzs⟩ : ∃ zs, zeros 2048 = zs := ⟨_, rfl⟩
  have HZL : Hid (zs.length = 2048) := Lib.hid (by rw [← hzs]; exact length_zeros _)
  have C1 : Hid (∀ w : World, Calls Try.prog 11 #[.int .u64 2048] w fun e w' => e = .returned (.tuple #[.pointer (some ⟨w.heap.size + 1, 0, none⟩), .int .i64 0]) ∧ MemB w' (w.heap.size + 1) w.heap.size zs ∧ Kept [] w w') := Lib.hid (by
    intro w; have := new_any w 2048 (by omega) (by omega) (by omega); rw [hzs] at this; exact this)
  clear hzs
  go_enter Try.func5, Try.ntmps5
  go_wp2_with fail
  (with_reducible refine (alive_any _).mono ?_)
  rintro e w1 ⟨rfl, hb1⟩
  have hs1 := hb1.size
  (try simp only [World.size_alloc, World.size_setCell, World.size_drew, size_drewN] at hs1)
  go_wp2_with fail
  (with_reducible refine (C1.out _).mono ?_)
  rintro e w2 ⟨rfl, hM2, hb2⟩
  have hs2 := hb2.size
  (try simp only [World.size_alloc, World.size_setCell, World.size_drew, size_drewN] at hs2)
  have M2 := Lib.hid hM2
  have hg2 := hM2.2.1.lt
  clear hM2
  (try simp only [size_drewN, World.size_drew] at M2 hg2)
  have hp2 := M2.out.1.lt
  go_wp2_with fail
  (with_reducible refine (blocks_any _ _ _ HU.out _ (HR.out.keep (hb1.trans0 hb2)) (by omega)).mono ?_)
  rintro e w3 ⟨⟨A, n, c, ns, rfl, hbl, rfl, hO3, hA3⟩, hb3⟩
  have hs3 := hb3.size
  (try simp only [World.size_alloc, World.size_setCell, World.size_drew, size_drewN] at hs3)
  have O3 := Lib.hid hO3
  clear hO3
  (try simp only [size_drewN, World.size_drew] at O3)
  have M3 := Lib.hid (M2.out.keep0 hb3)
  obtain ⟨xs, rfl, hv, hpw⟩ := hbl.nats
  rw [List.length_map]
  have hlen := hbl.len
  rw [List.length_map] at hlen
  obtain ⟨z2, hd2, hz2, hl2, hch⟩ := push_all zs HZL.out xs hv hpw
  have HL2 := Lib.hid hl2
  have HCH := Lib.hid hch
  have HV := Lib.hid hv
  have K3 : Hid (Kept [] W w3) := Lib.hid (by (repeat' (first | (with_reducible exact Kept.refl _ _) | (with_reducible assumption) | (with_reducible refine Kept.then_ (by with_reducible assumption) ?_) | (with_reducible refine Kept.thenS (by with_reducible assumption) ?_) | (with_reducible refine Kept.thenG (by with_reducible assumption) ?_ ?_) | (with_reducible refine Kept.thenG2 (by with_reducible assumption) ?_ ?_ ?_) | (with_reducible refine Kept.alloc ?_ _) | (with_reducible refine Kept.drew ?_) | (with_reducible refine Kept.drewN ?_ _) | (with_reducible refine Kept.setNew ?_ ?_ _) | ((try simp only [World.size_alloc, World.size_setCell, World.size_drew, size_drewN] at *); (try dsimp only); omega))))
  have DP : Hid (Calls Try.prog 13 #[.pointer (some ⟨w3.heap.size, 0, none⟩), .pointer (some ⟨w1.heap.size + 1, 0, none⟩), .slice A xs.length c] (w3.alloc (.cells #[.int .u64 0, .int .i64 0] 32)) fun e w' => e = .returned (.int .i64 0) ∧ MemB w' (w1.heap.size + 1) w1.heap.size z2 ∧ ListB w' w3.heap.size (hd2 : Int) (xs.length : Int) ∧ Kept [w3.heap.size, w1.heap.size] (w3.alloc (.cells #[.int .u64 0, .int .i64 0] 32)) w') := Lib.hid (by
    have := push_row (w3.alloc (.cells #[.int .u64 0, .int .i64 0] 32)) w3.heap.size (w1.heap.size + 1) w1.heap.size zs 0 0 xs [] 0 A xs.length c (M3.out.keep0 ((Kept.refl [] w3).alloc _)) (Blk.new _ _ _) (by decide) (by omega) (fun a ha => by have := HV.out a ha; have := HZL.out; omega) (.inl ⟨rfl, rfl⟩)
      (fun w' hk => by
        rw [List.append_nil]
        have hO := O3.out
        rw [List.length_map] at hO
        exact ((hO.kept ((Kept.refl [] w3).alloc _)).keepN hk (fun s hs => by
          simp at hs
          rcases hs with rfl | rfl
          · right; exact hO.new_ne (Nat.le_refl _)
          · left; omega)).row) (by simp) (by omega)
    rw [hz2, Int.zero_add] at this
    exact this)
  clear hv hpw hz2 hl2 hch hbl
  go_wp2_with fail
  (with_reducible refine DP.out.mono ?_)
  rintro e w4 ⟨rfl, hM4, hB4, hb4⟩
  have hs4 := hb4.size
  simp only [World.size_alloc] at hs4
  have M4 := Lib.hid hM4
  have B4 := Lib.hid hB4
  have d1 := Blk.cell hB4 1
  have d2 := Blk.lt hB4
  have HI : Hid (∀ w', Kept [w3.heap.size, w1.heap.size] (w3.alloc (.cells #[.int .u64 0, .int .i64 0] 32)) w' → RowX .u64 w' A (xs.map (fun (x : Nat) => (x : Int)))) := Lib.hid (fun w' hk => by
    have hO := O3.out
    rw [List.length_map] at hO
    exact ((hO.kept ((Kept.refl [] w3).alloc _)).keepN hk (fun s hs => by
      simp at hs
      rcases hs with rfl | rfl
      · right; exact hO.new_ne (Nat.le_refl _)
      · left; omega)).row)
  have K4 : Hid (Kept [] W w4) := Lib.hid (hb4.thenG2 (K3.out.alloc _) (by have := K3.out.size; omega) (by omega))
  have DA : Hid (Calls Try.prog 15 #[.pointer (some ⟨w3.heap.size, 0, none⟩), .pointer (some ⟨w1.heap.size + 1, 0, none⟩)] w4 fun e w' => (∃ A c, e = .returned (.tuple #[.slice A xs.length c, .int .i64 0]) ∧ OwnI w4.heap.size .u64 28 w' (.slice A xs.length c) (xs.reverse.map (fun (x : Nat) => (x : Int)))) ∧ Kept [] w4 w') := Lib.hid (by
    have := all_chn w4 w3.heap.size (w1.heap.size + 1) w1.heap.size z2 hd2 xs.reverse M4.out (by rw [List.length_reverse]; exact B4.out) HCH.out (by rw [List.length_reverse]; have := HL2.out; omega)
    rw [List.length_reverse] at this
    refine this.mono ?_
    rintro e w' ⟨⟨A, c, h1, h2, _⟩, hk⟩
    exact ⟨⟨A, c, h1, h2⟩, hk⟩)
  clear hM4 hB4 DP
  go_wp2_with fail
  (with_reducible refine DA.out.mono ?_)
  rintro e w5 ⟨⟨A5, c5, rfl, hR5⟩, hb5⟩
  have R5 := Lib.hid hR5
  have M5 := Lib.hid (M4.out.keep0 hb5)
  have B5 := Lib.hid (B4.out.keep0 hb5)
  have HB5 := Lib.hid (hb5.then_ hb4)
  have K5 := Lib.hid (K4.out.trans0 hb5)
  have HNE := Lib.hid (B5.out.ne M5.out)
  clear hR5 DA
  go_wp2_with fail
  go_loopw [44] (fun i wr => ∃ (j hj : Nat), j ≤ xs.length ∧ i = .int .i64 j ∧ Hid (Chn z2 hj (xs.reverse.drop j)) ∧ Hid (ListB wr w3.heap.size (hj : Int) ((xs.length : Int) - (j : Int))) ∧ Hid (MemB wr (w1.heap.size + 1) w1.heap.size z2) ∧ Kept [w3.heap.size] w5 wr) (fun i _ => xs.length - (intOf i).toNat)
  case atStart => exact ⟨0, hd2, Nat.zero_le _, rfl, HCH, by simpa using B5, M5, Kept.refl _ _⟩
  case round =>
    obtain ⟨j, hj, hjl, rfl, hch, hB, hM, hkw⟩ := hrel
    have hkv : Hid (Kept [w3.heap.size, w1.heap.size] (w3.alloc (.cells #[.int .u64 0, .int .i64 0] 32)) wr) := Lib.hid (HB5.out.trans hkw (fun x hx _ => by simp at hx ⊢; left; exact hx))
    by_cases hlt : j < xs.length
    · obtain ⟨m, hm⟩ : ∃ m : Nat, xs.length = j + 1 + m := ⟨xs.length - j - 1, by omega⟩
      have hml : m < xs.length := by omega
      have hdr : xs.reverse.drop j = xs[m] :: xs.reverse.drop (j + 1) := by
        rw [List.drop_eq_getElem_cons (by rw [List.length_reverse]; exact hlt), List.getElem_reverse]
        congr 2
        omega
      have hch' := hch.out
      rw [hdr] at hch'
      obtain ⟨hj1, ha0, ha8, hnext⟩ := hch'
      have HXM : Hid (xs[m]? = some hj) := Lib.hid (by rw [List.getElem?_eq_getElem hml, hj1])
      have HXR : Hid (xs.reverse[j]? = some hj) := Lib.hid (by
        rw [List.getElem?_eq_getElem (by rw [List.length_reverse]; exact hlt), List.getElem_reverse, hj1]
        congr 2
        omega)
      rw [← hj1] at ha0 ha8 hnext
      have HNX := Lib.hid hnext
      have e1 : (xs.length : Int) - 1 - (j : Int) = (m : Int) := by omega
      have DQ := Lib.hid (pop_any wr w3.heap.size (w1.heap.size + 1) w1.heap.size z2 hj ((xs.length : Int) - (j : Int)) hM.out hB.out (by omega) (by omega) ha8)
      have HHM := Lib.hid hm
      clear hdr hnext hm hj1
      go_wp2_with fail
      (with_reducible refine DQ.out.mono ?_)
      rintro e w6 ⟨rfl, hB6, hb6⟩
      have B6 := Lib.hid hB6
      have k5 : Kept [w3.heap.size] w5 w6 := hb6.thenS hkw
      have kv := hkv.out.trans hb6 (fun x hx _ => by simp at hx ⊢; left; exact hx)
      have K6 := Lib.hid k5
      obtain ⟨ad, rfl, hl1, hc⟩ := HI.out w6 kv (by simp; omega)
      have hcell : w6.cell? (ad.add m) = some (.int .u64 (hj : Int)) := by
        have := hc m (by simp; omega)
        rw [getD_map, HXM.out] at this
        exact this
      obtain ⟨ad5, rfl, hl2, hc5⟩ := (R5.out.keepS k5 (fun s hs => by simp at hs; omega)).row (by simp; omega)
      have hcell5 : w6.cell? (ad5.add j) = some (.int .u64 (hj : Int)) := by
        have := hc5 j (by simp; omega)
        rw [getD_map, HXR.out] at this
        exact this
      have M6 : Hid (MemB w6 (w1.heap.size + 1) w1.heap.size z2) := Lib.hid (hM.out.keep hb6 (by have := HNE.out.1; simp; omega) (by have := HNE.out.2; simp; omega))
      clear hB6 hc hc5 k5 kv DQ
      go_wp2_with fail
      go_roundw
      case rel => exact ⟨j + 1, lk z2 hj, by omega, by go_num, HNX, Lib.hid (by have := B6.out; rwa [show (xs.length : Int) - (j : Int) - 1 = (xs.length : Int) - ((j + 1 : Nat) : Int) by omega] at this), M6, K6.out⟩
      case measure => simp [intOf]; omega
    · obtain rfl : j = xs.length := by omega
      have hh := hch.out
      rw [List.drop_eq_nil_of_le (by rw [List.length_reverse]; omega)] at hh
      have hh' : hj = 0 := hh
      subst hh'
      have B9 : Hid (ListB wr w3.heap.size 0 0) := Lib.hid (by have := hB.out; rwa [Int.sub_self] at this)
      have b0 := Blk.cell B9.out 0
      have b1 := Blk.cell B9.out 1
      have bl := Blk.lt B9.out
      clear hh
      go_wp2_with fail
      (with_reducible refine (pop_empty _ _ _ _ _ _ hM.out B9.out).mono ?_)
      rintro e w9 ⟨rfl, rfl⟩
      go_wp2_with fail
      go_ret
      exact ⟨rfl, Kept.below (hkw.thenG K5.out (by have := K3.out.size; omega))⟩
theorem own : ownKnob Try.prog.godebug = none := by kernel_rfl
theorem laidOut : laidOutB Try.prog = true := by kernel_rfl
set_option maxRecDepth 100000 in
theorem lifted (os : Os) (started : os.Started) (H : Type) (enc : TypeId × Value → H) :
    ReturnsInHanded {} Try.checked os 5 .any (Rows.listOrdersSpec.pre6 enc Try.prog Try.f5 Rows.listOrdersRow.domain false) (Rows.listOrdersSpec.post enc Try.prog Try.f5 false true false false) := by
  refine returnsInHanded_of_change (C := Try.checked) own started (by kernel_rfl) Try.func5
    (ChangeSpec.witness6 (enc := enc) (C := Try.checked) false ⟨#[], #[.slice none 0 0], []⟩ 8 (by kernel_rfl) (by kernel_rfl) (by kernel_rfl) (by kernel_rfl)) ?_
  intro W base args ds gs before hval0 hW hcnd _
  have hval : ∀ (j : Nat) t v, Try.f5.params[j]? = some t → args[j]? = some v → Value.okWide Try.prog W .any base t v := hval0
  have hW' := hW
  obtain ⟨p, q, hA0, hV, rfl, hfz, hnd⟩ := hW
  have hA : DataW.TrodAll enc Try.prog W 0 (fun _ => true) true Try.f5.params.toList args.toList ds p := hA0
  rw [Try.params5] at hA hval
  obtain ⟨v0, vs0, d0, ds0, p0, q0, hargs, rfl, rfl, h0, r0⟩ := trodAll_cons hA
  obtain ⟨rfl, rfl, rfl⟩ := trodAll_nil r0
  obtain rfl : args = #[v0] := by cases args; simp_all
  obtain ⟨rfl, rfl⟩ := trodVars_none hV
  have k0 := h0
  have lt0 : ∀ x ∈ p0, x.block < W.heap.size := by obtain ⟨m, hm⟩ := k0; exact DataW.trod_lt m _ _ _ hm
  obtain ⟨a0, len0, cap0, rfl⟩ := okWide_slice Try.underlying22 (hval 0 22 v0 rfl rfl)
  obtain ⟨z0, w0⟩ := isRow_of Try.underlying22 Try.underlying5 (by kernel_rfl) h0
  clear hA0 hval0
  refine (walk a0 len0 cap0 z0 W w0).mono fun e W' ⟨he, bel⟩ => ?_
  subst he
  exact ⟨_, rfl, _, _, _, [], _, [], hW', trodAll_mk1 (shut_bool Try.underlying4 _), (trodAll_cons_mk (Below.trod laidOut (by kernel_rfl) (of_decide_eq_true (by kernel_rfl)) k0 bel lt0) trodAll_mk0), rfl, bel.frame _, fun h => by cases h⟩
theorem over : Rows.listOrdersRow.holds Try.pinned (OpenSpec.ofChange Rows.listOrdersSpec) :=
  OpenClaim.holds_of_wide 5 Try.f5 rfl rfl rfl rfl rfl rfl rfl ⟨rfl, rfl, rfl, rfl, rfl⟩ rfl rfl rfl rfl rfl (by kernel_rfl) Try.func5 (by kernel_rfl)
    (of_decide_eq_true (by kernel_rfl)) (by unfold Func.isWrapper; first | (rw [if_pos (by decide +kernel)]; kernel_rfl) | (rw [if_neg (by decide +kernel)]; exact ⟨rfl, rfl⟩))
    (fun os started H enc _ => lifted os started H enc)
theorem proved : Rows.ListOrdersSaid := over
#print axioms proved
end Go.Proofs.Ytapolaefdbdnpaa.ListOrders
