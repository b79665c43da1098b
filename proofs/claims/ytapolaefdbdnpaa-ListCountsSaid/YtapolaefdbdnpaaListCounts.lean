/- Through pushes and pops a list has as many as came, less those that went, each once; a pop is of the first one. No condition. -/
import Derived.Test.YtapolaefdbdnpaaListC
import Derived.Test.YtapolaefdbdnpaaBools
set_option linter.unusedVariables false
set_option linter.unusedSimpArgs false
namespace Go.Proofs.Ytapolaefdbdnpaa.ListCounts
open Go.RowKit Go.ChangeShapes Go.WideShapes Go.ChangeAt Go.Joins
theorem all_n (w : World) (b p g : Nat) (zs : List Int) (hd q : Nat) (l : List Nat) (hq : l.length = q) (hM : MemB w p g zs) (hl : ListB w b hd (q : Int)) (hc : Chn zs hd l) (hn : q ≤ zs.length) :
    Calls Try.prog 15 #[.pointer (some ⟨b, 0, none⟩), .pointer (some ⟨p, 0, none⟩)] w fun e w' => (∃ A c, e = .returned (.tuple #[.slice A q c, .int .i64 0]) ∧ OwnI w.heap.size .u64 28 w' (.slice A q c) (l.map (fun (x : Nat) => (x : Int)))) ∧ Kept [] w w' := by
  subst hq
  exact (all_chn w b p g zs hd l hM hl hc hn).mono (fun e w' h => ⟨by obtain ⟨A, c, h1, h2, _⟩ := h.1; exact ⟨A, c, h1, h2⟩, h.2⟩)
set_option maxRecDepth 100000 in
set_option maxHeartbeats 8000000 in
theorem walk (a0 : Option Addr) (len0 cap0 : Nat) (z0 : List Int) (a1 : Option Addr) (len1 cap1 : Nat) (z1 : Nat → Bool) (W : World) (w0 : IsRow .u8 W a0 len0 cap0 z0) (w1 : IsBools W a1 len1 cap1 z1) :
    Calls Try.prog 6 #[.slice a0 len0 cap0, .slice a1 len1 cap1] W fun e W' => e = .returned (.bool true) ∧ Below W.heap.size W W' := by
  obtain ⟨ys, hl, hr, _, hwf, hlc, hcm⟩ := w0.seen
  unfold maxLen at hcm
  have hu : ∀ z, z ∈ ys → 0 ≤ z ∧ z ≤ 255 := fun z hz => bounds_u8 (hwf z hz)
  subst hl
  have HU := Lib.hid hu
  have HR := Lib.hid hr
  have HB := Lib.hid w1
  clear w0 hr hwf hu w1
  obtain ⟨zs, hzs⟩ : ∃ zs, zeros 2048 = zs := ⟨_, rfl⟩
  have HZL : Hid (zs.length = 2048) := Lib.hid (by rw [← hzs]; exact length_zeros _)
  have C1 : Hid (∀ w : World, Calls Try.prog 11 #[.int .u64 2048] w fun e w' => e = .returned (.tuple #[.pointer (some ⟨w.heap.size + 1, 0, none⟩), .int .i64 0]) ∧ MemB w' (w.heap.size + 1) w.heap.size zs ∧ Kept [] w w') := Lib.hid (by
    intro w; have := new_any w 2048 (by omega) (by omega) (by omega); rw [hzs] at this; exact this)
  clear hzs
  by_cases h200 : 200 < len1
  · have h201 : (200 : Int) < (len1 : Int) := by omega
    go_enter Try.func6, Try.ntmps6
    go_wp2_with fail
    (with_reducible refine (alive_any _).mono ?_)
    rintro e w1 ⟨rfl, hb1⟩
    have hs1 := hb1.size
    (try simp only [World.size_alloc, World.size_setCell, World.size_drew, size_drewN] at hs1)
    go_wp2_with fail
    (with_reducible refine (C1.out _).mono ?_)
    rintro e w2 ⟨rfl, hM2, hb2⟩
    have hs2 := hb2.size
    (try simp only [World.size_alloc, World.size_setCell, World.size_drew, size_drewN] at hs2)
    have M2 := Lib.hid hM2
    have hg2 := hM2.2.1.lt
    clear hM2
    (try simp only [size_drewN, World.size_drew] at M2 hg2)
    go_wp2_with fail
    go_ret
    exact ⟨rfl, Kept.below (by (repeat' (first | (with_reducible exact Kept.refl _ _) | (with_reducible assumption) | (with_reducible refine Kept.then_ (by with_reducible assumption) ?_) | (with_reducible refine Kept.thenS (by with_reducible assumption) ?_) | (with_reducible refine Kept.thenG (by with_reducible assumption) ?_ ?_) | (with_reducible refine Kept.thenG2 (by with_reducible assumption) ?_ ?_ ?_) | (with_reducible refine Kept.alloc ?_ _) | (with_reducible refine Kept.drew ?_) | (with_reducible refine Kept.drewN ?_ _) | (with_reducible refine Kept.setNew ?_ ?_ _) | ((try simp only [World.size_alloc, World.size_setCell, World.size_drew, size_drewN] at *); (try dsimp only); omega))))⟩
  · have h201 : decide ((200 : Int) < (len1 : Int)) = false := by simp; omega
    go_enter Try.func6, Try.ntmps6
    go_wp2_with fail
    (with_reducible refine (alive_any _).mono ?_)
    rintro e w1 ⟨rfl, hb1⟩
    have hs1 := hb1.size
    (try simp only [World.size_alloc, World.size_setCell, World.size_drew, size_drewN] at hs1)
    go_wp2_with fail
    (with_reducible refine (C1.out _).mono ?_)
    rintro e w2 ⟨rfl, hM2, hb2⟩
    have hs2 := hb2.size
    (try simp only [World.size_alloc, World.size_setCell, World.size_drew, size_drewN] at hs2)
    have M2 := Lib.hid hM2
    have hg2 := hM2.2.1.lt
    clear hM2
    (try simp only [size_drewN, World.size_drew] at M2 hg2)
    have hp2 := M2.out.1.lt
    have X2 : Hid (ListB (w2.alloc (.cells #[.int .u64 0, .int .i64 0] 32)) w2.heap.size 0 0) := Lib.hid (Blk.new _ _ _)
    go_wp2_with fail
    (with_reducible refine (blocks_any _ _ _ HU.out _ (HR.out.keep ((hb1.trans0 hb2).trans0 ((Kept.refl [] _).alloc _))) (by omega)).mono ?_)
    rintro e w3 ⟨⟨A, n, c, ns, rfl, hbl, rfl, hO3, hA3⟩, hb3⟩
    have hs3 := hb3.size
    simp only [World.size_alloc] at hs3 hO3
    have O3 := Lib.hid hO3
    have M3 := Lib.hid ((M2.out.keep0 ((Kept.refl [] w2).alloc _)).keep0 hb3)
    have X3 := Lib.hid (X2.out.keep0 hb3)
    obtain ⟨xs, rfl, hv, hpw⟩ := hbl.nats
    rw [List.length_map]
    have hlen := hbl.len
    rw [List.length_map] at hlen
    have HV := Lib.hid hv
    have HAP : Hid (Apart xs) := Lib.hid hpw
    have K3 : Hid (Kept [] W w3) := Lib.hid (hb3.then_ ((hb1.trans0 hb2).alloc _))
    have HI : Hid (∀ S w', Kept S w3 w' → (∀ s, s ∈ S → s < w2.heap.size + 2) → RowX .u64 w' A (xs.map (fun (x : Nat) => (x : Int)))) := Lib.hid (fun S w' hk hS => by
      exact (O3.out.keepN hk (fun s hs => .inl (hS s hs))).row)
    clear hv hpw hbl hO3 hA3 X2
    go_wp2_with fail
    go_loopw [9, 37] (fun nn i wr => ∃ (j q : Nat) (L : List Nat) (z : List Int) (hd : Nat), j ≤ xs.length ∧ i = .int .i64 j ∧ nn = .int .i64 q ∧ q ≤ j ∧ Hid (L.length = q) ∧ Hid (L.Sublist (xs.take j).reverse) ∧ Hid (z.length = 2048) ∧ Hid (Chn z hd L) ∧ Hid (MemB wr (w1.heap.size + 1) w1.heap.size z) ∧ Hid (ListB wr w2.heap.size (hd : Int) (q : Int)) ∧ Kept [w2.heap.size, w1.heap.size] w3 wr) (fun _ i _ => xs.length - (intOf i).toNat)
    case atStart => exact ⟨0, 0, [], zs, 0, Nat.zero_le _, rfl, rfl, Nat.le_refl _, Lib.hid rfl, Lib.hid (by simp), HZL, Lib.hid rfl, M3, X3, Kept.refl _ _⟩
    case round =>
      obtain ⟨j, q, L, z, hd, hjl, rfl, rfl, hqj, hLq, hsub, hzl, hc, hM, hX, hkw⟩ := hrel
      have HKW := Lib.hid hkw
      have HWS := Lib.hid hkw.size
      by_cases hlt : j < xs.length
      · obtain ⟨ad, rfl, hcc⟩ := (HI.out _ wr hkw (fun s hs => by simp at hs; omega)).get (by simp; omega)
        have hcell : wr.cell? (ad.add j) = some (.int .u64 ((xs[j] : Nat) : Int)) := by
          have := hcc wr (Kept.refl _ _) j (by simp; omega)
          rw [getD_map, List.getElem?_eq_getElem hlt] at this
          exact this
        have hmem : xs[j] ∈ xs := List.getElem_mem hlt
        have HT : Hid (xs.take (j + 1) = xs.take j ++ [xs[j]]) := Lib.hid (by rw [List.take_add_one, List.getElem?_eq_getElem hlt]; rfl)
        generalize xs[j] = a at hcell hmem HT
        have ha8 := (HV.out a hmem).2
        have HS2 : Hid ((a :: L).Sublist (xs.take (j + 1)).reverse) := Lib.hid (by rw [HT.out, List.reverse_append]; simpa using hsub.out)
        have HA2 : Hid (Apart (a :: L)) := Lib.hid (by
          have h1 : Apart (xs.take (j + 1)).reverse := Apart.perm (List.Pairwise.sublist (List.take_sublist _ _) HAP.out) (List.reverse_perm _).symm
          exact List.Pairwise.sublist HS2.out h1)
        have HNE := Lib.hid (hX.out.ne hM.out)
        have DP : Hid (Calls Try.prog 13 #[.pointer (some ⟨w2.heap.size, 0, none⟩), .pointer (some ⟨w1.heap.size + 1, 0, none⟩), .slice (some ⟨wr.heap.size, 0, none⟩) 1 1] (wr.alloc (.cells #[.int .u64 (a : Int)] 28)) fun e w' => e = .returned (.int .i64 0) ∧ ∃ z h : _, z.length = 2048 ∧ MemB w' (w1.heap.size + 1) w1.heap.size z ∧ Chn z h (a :: L) ∧ ListB w' w2.heap.size (h : Int) (((q + 1 : Nat)) : Int) ∧ Kept [w2.heap.size, w1.heap.size] (wr.alloc (.cells #[.int .u64 (a : Int)] 28)) w') := Lib.hid (by
          refine (push_chn _ _ _ _ z hd L [a] _ _ _ (hM.out.keep0 ((Kept.refl [] _).alloc _)) (by rw [hLq.out]; exact hX.out.keep0 ((Kept.refl [] _).alloc _)) hc.out (fun b hb => ?_) HA2.out (fun w' hk => ?_) rfl (by have := hLq.out; simp; omega)).mono ?_
          · simp at hb
            subst hb
            have := HV.out b hmem
            have := hzl.out
            omega
          · exact row1 (Blk.keep (Blk.new wr _ _) hk (by have := HNE.out; have := hM.out.2.1.lt; have := Blk.lt hX.out; simp; omega))
          · rintro e w' ⟨rfl, z', h', h1, h2, h3, h4, h5⟩
            refine ⟨rfl, z', h', by rw [h2.1]; exact hzl.out, h1, h3, ?_, h5⟩
            have e1 : ([a].reverse ++ L).length = q + 1 := by simp [hLq.out]
            rwa [e1] at h4)
        clear hcc
        go_wp2_with fail
        (with_reducible refine DP.out.mono ?_)
        rintro e w7 ⟨rfl, z7, h7, hzl7, hM7, hC7, hX7, hb7⟩
        have hs7 := hb7.size
        simp only [World.size_alloc] at hs7
        have M7 := Lib.hid hM7
        have C7 := Lib.hid hC7
        have X7 := Lib.hid hX7
        have ZL7 := Lib.hid hzl7
        have K7 : Hid (Kept [w2.heap.size, w1.heap.size] w3 w7) := Lib.hid (Kept.trans (hkw.alloc _) hb7 (fun s hs _ => hs))
        have KW7 : Hid (Kept [] W w7) := Lib.hid (K7.out.thenL K3.out (fun s hs => by have := hb1.size; have := hb2.size; simp at hs; omega))
        have LQ7 : Hid ((a :: L).length = q + 1) := Lib.hid (by simp [hLq.out])
        clear hM7 hC7 hX7 hzl7 DP
        by_cases hj1 : j < len1
        · obtain ⟨pd, rfl, hpl, hpc⟩ := HB.out.get hj1
          have hpcell := hpc w7 KW7.out
          clear hpc
          cases hb : z1 j with
          | true =>
            rw [hb] at hpcell
            have HBB := Lib.hid hb
            clear hb
            have DA1 := Lib.hid (all_n w7 w2.heap.size (w1.heap.size + 1) w1.heap.size z7 h7 (q + 1) (a :: L) LQ7.out M7.out X7.out C7.out (by have := ZL7.out; omega))
            go_wp2_with fail
            (with_reducible refine DA1.out.mono ?_)
            rintro e w8 ⟨⟨A8, c8, rfl, hR8⟩, hb8⟩
            have M8 := Lib.hid (M7.out.keep0 hb8)
            have X8 := Lib.hid (X7.out.keep0 hb8)
            have R8 := Lib.hid hR8
            have HNE8 := Lib.hid (X8.out.ne M8.out)
            have DQ : Hid (Calls Try.prog 17 #[.pointer (some ⟨w2.heap.size, 0, none⟩), .pointer (some ⟨w1.heap.size + 1, 0, none⟩)] w8 fun e w' => e = .returned (.tuple #[.int .u64 (a : Int), .int .i64 0]) ∧ ListB w' w2.heap.size (lk z7 a : Int) (q : Int) ∧ Kept [w2.heap.size] w8 w') := Lib.hid (by
              have := pop_chn w8 w2.heap.size (w1.heap.size + 1) w1.heap.size z7 h7 a L M8.out (by rw [LQ7.out]; exact X8.out) C7.out (by have := LQ7.out; simp at this; omega)
              rwa [hLq.out] at this)
            clear hR8 DA1
            go_wp2_with fail
            (with_reducible refine DQ.out.mono ?_)
            rintro e w10 ⟨rfl, hX10, hb10⟩
            have X10 := Lib.hid hX10
            have M10 := Lib.hid (M8.out.keep hb10 (by have := HNE8.out.1; simp; omega) (by have := HNE8.out.2; simp; omega))
            have K10 : Hid (Kept [w2.heap.size, w1.heap.size] w3 w10) := Lib.hid (Kept.trans (T := [w2.heap.size]) (hb8.then_ K7.out) hb10 (fun s hs _ => by simp at hs ⊢; left; exact hs))
            have C10 : Hid (Chn z7 (lk z7 a) L) := Lib.hid C7.out.next.2.2.2
            have SB10 : Hid (L.Sublist (xs.take (j + 1)).reverse) := Lib.hid (List.Sublist.trans (List.sublist_cons_self a L) HS2.out)
            obtain ⟨ad8, rfl, hc8⟩ := (R8.out.keepS hb10 (fun s hs => by have := HWS.out; simp at hs; omega)).row.get (by simp)
            have hcell8 : w10.cell? (ad8.add 0) = some (.int .u64 (a : Int)) := by
              have h0 := hc8 w10 (Kept.refl _ _) 0 (by simp)
              simpa using h0
            have hcell9 : w10.cell? ad8 = some (.int .u64 (a : Int)) := hcell8
            clear hX10 DQ hc8
            have DA := Lib.hid (all_n w10 w2.heap.size (w1.heap.size + 1) w1.heap.size z7 (lk z7 a) (q) L hLq.out M10.out X10.out C10.out (by have := ZL7.out; omega))
            go_wp2_with fail
            (with_reducible refine DA.out.mono ?_)
            rintro e w9 ⟨⟨A9, c9, rfl, hR9⟩, hb9⟩
            have X9 := Lib.hid (X10.out.keep0 hb9)
            have d1 := Blk.cell X9.out 1
            have l1 := Blk.lt X9.out
            clear hR9 DA
            go_wp2_with fail
            go_roundw
            case rel => exact ⟨j + 1, q, L, z7, (lk z7 a), by omega, by go_num, by (first | rfl | go_num), by omega, hLq, SB10, ZL7, C10, Lib.hid (M10.out.keep0 hb9), X9, hb9.then_ K10.out⟩
            case measure => simp [intOf]; omega
          | false =>
            rw [hb] at hpcell
            have HBB := Lib.hid hb
            clear hb
            have DA := Lib.hid (all_n w7 w2.heap.size (w1.heap.size + 1) w1.heap.size z7 h7 (q + 1) (a :: L) LQ7.out M7.out X7.out C7.out (by have := ZL7.out; omega))
            go_wp2_with fail
            (with_reducible refine DA.out.mono ?_)
            rintro e w9 ⟨⟨A9, c9, rfl, hR9⟩, hb9⟩
            have X9 := Lib.hid (X7.out.keep0 hb9)
            have d1 := Blk.cell X9.out 1
            have l1 := Blk.lt X9.out
            clear hR9 DA
            go_wp2_with fail
            go_roundw
            case rel => exact ⟨j + 1, q + 1, (a :: L), z7, h7, by omega, by go_num, by (first | rfl | go_num), by omega, LQ7, HS2, ZL7, C7, Lib.hid (M7.out.keep0 hb9), X9, hb9.then_ K7.out⟩
            case measure => simp [intOf]; omega
        · have hdj : decide ((j : Int) < (len1 : Int)) = false := by simp; omega
          have DA := Lib.hid (all_n w7 w2.heap.size (w1.heap.size + 1) w1.heap.size z7 h7 (q + 1) (a :: L) LQ7.out M7.out X7.out C7.out (by have := ZL7.out; omega))
          go_wp2_with fail
          (with_reducible refine DA.out.mono ?_)
          rintro e w9 ⟨⟨A9, c9, rfl, hR9⟩, hb9⟩
          have X9 := Lib.hid (X7.out.keep0 hb9)
          have d1 := Blk.cell X9.out 1
          have l1 := Blk.lt X9.out
          clear hR9 DA
          go_wp2_with fail
          go_roundw
          case rel => exact ⟨j + 1, q + 1, (a :: L), z7, h7, by omega, by go_num, by (first | rfl | go_num), by omega, LQ7, HS2, ZL7, C7, Lib.hid (M7.out.keep0 hb9), X9, hb9.then_ K7.out⟩
          case measure => simp [intOf]; omega
      · obtain rfl : j = xs.length := by omega
        go_wp2_with fail
        go_ret
        exact ⟨rfl, Kept.below (hkw.thenL K3.out (fun s hs => by have := hb1.size; have := hb2.size; simp at hs; omega))⟩
theorem own : ownKnob Try.prog.godebug = none := by kernel_rfl
theorem laidOut : laidOutB Try.prog = true := by kernel_rfl
set_option maxRecDepth 100000 in
theorem lifted (os : Os) (started : os.Started) (H : Type) (enc : TypeId × Value → H) :
    ReturnsInHanded {} Try.checked os 6 .any (Rows.listCountsSpec.pre6 enc Try.prog Try.f6 Rows.listCountsRow.domain false) (Rows.listCountsSpec.post enc Try.prog Try.f6 false true false false) := by
  refine returnsInHanded_of_change (C := Try.checked) own started (by kernel_rfl) Try.func6
    (ChangeSpec.witness6 (enc := enc) (C := Try.checked) false ⟨#[], #[.slice none 0 0, .slice none 0 0], []⟩ 8 (by kernel_rfl) (by kernel_rfl) (by kernel_rfl) (by kernel_rfl)) ?_
  intro W base args ds gs before hval0 hW hcnd _
  have hval : ∀ (j : Nat) t v, Try.f6.params[j]? = some t → args[j]? = some v → Value.okWide Try.prog W .any base t v := hval0
  have hW' := hW
  obtain ⟨p, q, hA0, hV, rfl, hfz, hnd⟩ := hW
  have hA : DataW.TrodAll enc Try.prog W 0 (fun _ => true) true Try.f6.params.toList args.toList ds p := hA0
  rw [Try.params6] at hA hval
  obtain ⟨v0, vs0, d0, ds0, p0, q0, hargs, rfl, rfl, h0, r0⟩ := trodAll_cons hA
  obtain ⟨v1, vs1, d1, ds1, p1, q1, rfl, rfl, rfl, h1, r1⟩ := trodAll_cons r0
  obtain ⟨rfl, rfl, rfl⟩ := trodAll_nil r1
  obtain rfl : args = #[v0, v1] := by cases args; simp_all
  obtain ⟨rfl, rfl⟩ := trodVars_none hV
  have k0 := h0
  have lt0 : ∀ x ∈ p0, x.block < W.heap.size := by obtain ⟨m, hm⟩ := k0; exact DataW.trod_lt m _ _ _ hm
  have k1 := h1
  have lt1 : ∀ x ∈ p1, x.block < W.heap.size := by obtain ⟨m, hm⟩ := k1; exact DataW.trod_lt m _ _ _ hm
  obtain ⟨a0, len0, cap0, rfl⟩ := okWide_slice Try.underlying22 (hval 0 22 v0 rfl rfl)
  obtain ⟨z0, w0⟩ := isRow_of Try.underlying22 Try.underlying5 (by kernel_rfl) h0
  obtain ⟨a1, len1, cap1, rfl⟩ := okWide_slice Try.underlying44 (hval 1 44 v1 rfl rfl)
  obtain ⟨z1, w1⟩ := isT44_of h1
  clear hA0 hval0
  refine (walk a0 len0 cap0 z0 a1 len1 cap1 z1 W w0 w1).mono fun e W' ⟨he, bel⟩ => ?_
  subst he
  exact ⟨_, rfl, _, _, _, [], _, [], hW', trodAll_mk1 (shut_bool Try.underlying4 _), (trodAll_cons_mk (Below.trod laidOut (by kernel_rfl) (of_decide_eq_true (by kernel_rfl)) k0 bel lt0) (trodAll_cons_mk (Below.trod laidOut (by kernel_rfl) (of_decide_eq_true (by kernel_rfl)) k1 bel lt1) trodAll_mk0)), rfl, bel.frame _, fun h => by cases h⟩
theorem over : Rows.listCountsRow.holds Try.pinned (OpenSpec.ofChange Rows.listCountsSpec) :=
  OpenClaim.holds_of_wide 6 Try.f6 rfl rfl rfl rfl rfl rfl rfl ⟨rfl, rfl, rfl, rfl, rfl⟩ rfl rfl rfl rfl rfl (by kernel_rfl) Try.func6 (by kernel_rfl)
    (of_decide_eq_true (by kernel_rfl)) (by unfold Func.isWrapper; first | (rw [if_pos (by decide +kernel)]; kernel_rfl) | (rw [if_neg (by decide +kernel)]; exact ⟨rfl, rfl⟩))
    (fun os started H enc _ => lifted os started H enc)
theorem proved : Rows.ListCountsSaid := over
#print axioms proved
end Go.Proofs.Ytapolaefdbdnpaa.ListCounts
