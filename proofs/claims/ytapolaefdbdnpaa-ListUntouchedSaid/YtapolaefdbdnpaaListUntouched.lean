/- But links nothing of memory is written: the rest of blocks, and all others, stay. No condition. -/
import Derived.Test.YtapolaefdbdnpaaListC
set_option linter.unusedVariables false
set_option linter.unusedSimpArgs false
namespace Go.Proofs.Ytapolaefdbdnpaa.ListUntouched
open Go.RowKit Go.ChangeShapes Go.WideShapes Go.ChangeAt Go.Joins
theorem filled (zs : List Int) (x : Int) (h : zs.length = 2048) : ∃ zf, splice zs 0 (rep [x] 2048) = zf ∧ zf.length = 2048 ∧ ∀ i, i < 2048 → zf[i]? = some x := by
  refine ⟨_, rfl, ?_, fun i hi => ?_⟩
  · simp [splice]; omega
  · rw [splice_get zs 0 (rep [x] 2048) (by simp; omega) i, if_neg (by omega), if_pos (by simpa using hi), Nat.sub_zero, rep_get [x] 2048 i hi]
    simp [Nat.mod_one]
set_option maxRecDepth 100000 in
set_option maxHeartbeats 8000000 in
theorem walk (a0 : Option Addr) (len0 cap0 : Nat) (z0 : List Int) (x1 : Int) (W : World) (w0 : IsRow .u8 W a0 len0 cap0 z0) (w1 : (Lit.int .u8 x1).wf = true) :
    Calls Try.prog 9 #[.slice a0 len0 cap0, .int .u8 x1] W fun e W' => e = .returned (.bool true) ∧ Below W.heap.size W W' := by
  have bx := bounds_u8 w1
  have hmm := @run_makeMap Try.prog
  obtain ⟨ys, hl, hr, _, hwf, hlc, hcm⟩ := w0.seen
  unfold maxLen at hcm
  have hu : ∀ z, z ∈ ys → 0 ≤ z ∧ z ≤ 255 := fun z hz => bounds_u8 (hwf z hz)
  subst hl
  have HU := Lib.hid hu
  have HR := Lib.hid hr
  clear w0 hr hwf hu w1
  obtain ⟨zs, hzs⟩ : ∃ zs, zeros 2048 = zs := ⟨_, rfl⟩
  have HZL : Hid (zs.length = 2048) := Lib.hid (by rw [← hzs]; exact length_zeros _)
  have C1 : Hid (∀ w : World, Calls Try.prog 11 #[.int .u64 2048] w fun e w' => e = .returned (.tuple #[.pointer (some ⟨w.heap.size + 1, 0, none⟩), .int .i64 0]) ∧ MemB w' (w.heap.size + 1) w.heap.size zs ∧ Kept [] w w') := Lib.hid (by
    intro w; have := new_any w 2048 (by omega) (by omega) (by omega); rw [hzs] at this; exact this)
  clear hzs
  obtain ⟨zf, hzf, hfl, hfa⟩ := filled zs x1 HZL.out
  have HZF := Lib.hid hzf
  have HFL := Lib.hid hfl
  have HFA := Lib.hid hfa
  clear hzf hfl hfa
  go_enter Try.func9, Try.ntmps9
  go_wp2_with fail
  (with_reducible refine (alive_any _).mono ?_)
  rintro e w1 ⟨rfl, hb1⟩
  have hs1 := hb1.size
  (try simp only [World.size_alloc, World.size_setCell, World.size_drew, size_drewN] at hs1)
  go_wp2_with fail
  (with_reducible refine (C1.out _).mono ?_)
  rintro e w2 ⟨rfl, hM2, hb2⟩
  have hs2 := hb2.size
  (try simp only [World.size_alloc, World.size_setCell, World.size_drew, size_drewN] at hs2)
  have M2 := Lib.hid hM2
  have hg2 := hM2.2.1.lt
  clear hM2
  (try simp only [size_drewN, World.size_drew] at M2 hg2)
  have hp2 := M2.out.1.lt
  go_wp2_with fail
  (with_reducible refine (blocks_any _ _ _ HU.out _ (HR.out.keep (hb1.trans0 hb2)) (by omega)).mono ?_)
  rintro e w3 ⟨⟨A, n, c, ns, rfl, hbl, rfl, hO3, hA3⟩, hb3⟩
  have hs3 := hb3.size
  (try simp only [World.size_alloc, World.size_setCell, World.size_drew, size_drewN] at hs3)
  have O3 := Lib.hid hO3
  clear hO3
  (try simp only [size_drewN, World.size_drew] at O3)
  have M3 := Lib.hid (M2.out.keep0 hb3)
  obtain ⟨xs, rfl, hv, hpw⟩ := hbl.nats
  rw [List.length_map]
  have hlen := hbl.len
  rw [List.length_map] at hlen
  have HV := Lib.hid hv
  have HAP : Hid (Apart xs) := Lib.hid hpw
  have K3 : Hid (Kept [] W w3) := Lib.hid (by (repeat' (first | (with_reducible exact Kept.refl _ _) | (with_reducible assumption) | (with_reducible refine Kept.then_ (by with_reducible assumption) ?_) | (with_reducible refine Kept.thenS (by with_reducible assumption) ?_) | (with_reducible refine Kept.thenG (by with_reducible assumption) ?_ ?_) | (with_reducible refine Kept.thenG2 (by with_reducible assumption) ?_ ?_ ?_) | (with_reducible refine Kept.alloc ?_ _) | (with_reducible refine Kept.drew ?_) | (with_reducible refine Kept.drewN ?_ _) | (with_reducible refine Kept.setNew ?_ ?_ _) | ((try simp only [World.size_alloc, World.size_setCell, World.size_drew, size_drewN] at *); (try dsimp only); omega))))
  clear hv hpw hbl
  obtain ⟨V, hV⟩ : ∃ V, ((w3.alloc (.cells #[.int .u64 0, .int .i64 0] 32)).alloc (.cells #[.int .u64 0, .int .i64 0] 32)).alloc (.cells #[.int .u8 x1] 5) = V := ⟨_, rfl⟩
  have hVs : V.heap.size = w3.heap.size + 1 + 1 + 1 := by rw [← hV]; simp
  have KV : Hid (Kept [] w3 V) := Lib.hid (by rw [← hV]; exact (((Kept.refl [] w3).alloc _).alloc _).alloc _)
  have XV : Hid (ListB V w3.heap.size 0 0) := Lib.hid (by rw [← hV]; exact ((Blk.new _ _ _).alloc _).alloc _)
  have YV : Hid (ListB V (w3.heap.size + 1) 0 0) := Lib.hid (by rw [← hV]; exact (Blk.new' _ _ _ (by simp)).alloc _)
  have FV : Hid (Blk V (w3.heap.size + 1 + 1) 5 #[.int .u8 x1]) := Lib.hid (by rw [← hV]; exact (Blk.new' _ _ _ (by simp)))
  have HI : Hid (∀ S w', Kept S V w' → (∀ s, s ∈ S → s < w2.heap.size + 1 ∨ w3.heap.size ≤ s) → RowX .u64 w' A (xs.map (fun (x : Nat) => (x : Int)))) := Lib.hid (fun S w' hk hS => by
    have hO := O3.out
    rw [List.length_map] at hO
    exact ((hO.kept KV.out).keepN hk (fun s hs => by
      rcases hS s hs with h | h
      · left; exact h
      · right; exact hO.new_ne h)).row)
  have DF : Hid (Calls Try.prog 29 #[.pointer (some ⟨w1.heap.size + 1, 0, none⟩), .int .u64 0, .int .u64 2048, .slice (some ⟨w3.heap.size + 1 + 1, 0, none⟩) 1 1] V fun e w' => e = .returned (.int .i64 0) ∧ MemB w' (w1.heap.size + 1) w1.heap.size zf ∧ Kept [w1.heap.size] V w') := Lib.hid (by
    have := fill_in V (w1.heap.size + 1) w1.heap.size zs (M3.out.keep0 KV.out) 0 2048 (by have := HZL.out; omega) (some ⟨w3.heap.size + 1 + 1, 0, none⟩) 1 1 [x1] rfl (fun w' hk => row1 (FV.out.keep hk (by simp; omega))) (fun z hz => by simp at hz; omega) (by simp) (by simp)
    rw [HZF.out] at this
    exact this)
  go_wp2_with fail
  (with_reducible refine DF.out.mono ?_)
  rintro e w4 ⟨rfl, hM4, hb4⟩
  have hs4 := hb4.size
  have M4 := Lib.hid hM4
  clear hM4 DF
  have D5 : Hid (Calls Try.prog 13 #[.pointer (some ⟨w3.heap.size, 0, none⟩), .pointer (some ⟨w1.heap.size + 1, 0, none⟩), .slice A xs.length c] w4 (PushIs w4 w3.heap.size (w1.heap.size + 1) w1.heap.size zf [] xs)) := Lib.hid (by
    refine push_chn _ _ _ _ _ 0 [] xs A _ c M4.out (XV.out.keep hb4 (by simp; omega)) rfl (fun a ha => by have := HV.out a ha; have := HFL.out; omega) ?_ ?_ rfl (by simp; omega)
    · rw [List.append_nil]; exact HAP.out
    · intro w' hk
      exact HI.out _ w' ((hb4.mono (T := [w3.heap.size, w1.heap.size]) (fun s hs _ => by simp at hs ⊢; omega)).trans hk (fun s hs _ => hs)) (fun s hs => by simp at hs; omega))
  go_wp2_with fail
  (with_reducible refine D5.out.mono ?_)
  rintro e w5 ⟨rfl, z5, h5, hM5, hZ5, hC5, hL5, hb5⟩
  have hs5 := hb5.size
  have M5 := Lib.hid hM5
  have Z5 := Lib.hid hZ5
  have C5 : Hid (Chn z5 h5 xs.reverse) := Lib.hid (by rwa [List.append_nil] at hC5)
  have X5 : Hid (ListB w5 w3.heap.size (h5 : Int) (xs.reverse.length : Int)) := Lib.hid (by rwa [List.append_nil] at hL5)
  have Y5 : Hid (ListB w5 (w3.heap.size + 1) 0 0) := Lib.hid ((YV.out.keep hb4 (by simp; omega)).keep hb5 (by simp; omega))
  have HB5 : Hid (Kept [w3.heap.size, w1.heap.size] V w5) := Lib.hid ((hb4.mono (T := [w3.heap.size, w1.heap.size]) (fun s hs _ => by simp at hs ⊢; omega)).trans hb5 (fun s hs _ => hs))
  have K5 : Hid (Kept [] W w5) := Lib.hid (HB5.out.thenL (KV.out.then_ K3.out) (fun s hs => by have := K3.out.size; simp at hs; omega))
  clear hM5 hZ5 hC5 hL5 D5 hV
  obtain ⟨m, hm⟩ : ∃ m : Nat, (xs.length : Int) / 2 = (m : Int) := ⟨xs.length / 2, by omega⟩
  have hm2 : m ≤ xs.length := by omega
  go_wp2_with fail
  go_loopw [46] (fun i wr => ∃ (j : Nat) (Lx Ly : List Nat) (z : List Int) (hx hy : Nat), j ≤ m ∧ i = .int .i64 j ∧ Hid (Lx.length + j = xs.length ∧ Ly.length = j) ∧ Hid ((Ly ++ Lx).Perm xs) ∧ Hid (Rest xs zf z) ∧ Hid (Chn z hx Lx) ∧ Hid (Chn z hy Ly) ∧ Hid (MemB wr (w1.heap.size + 1) w1.heap.size z) ∧ Hid (ListB wr w3.heap.size (hx : Int) (Lx.length : Int)) ∧ Hid (ListB wr (w3.heap.size + 1) (hy : Int) (Ly.length : Int)) ∧ Kept [w3.heap.size, w3.heap.size + 1, w1.heap.size] w5 wr) (fun i _ => m - (intOf i).toNat)
  case atStart => exact ⟨0, xs.reverse, [], z5, h5, 0, Nat.zero_le _, rfl, Lib.hid ⟨by simp, rfl⟩, Lib.hid (List.reverse_perm _), Z5, C5, Lib.hid rfl, M5, X5, Y5, Kept.refl _ _⟩
  case round =>
    obtain ⟨j, Lx, Ly, z, hx, hy, hjm, rfl, hll, hpm, hrz, hcx, hcy, hM, hX, hY, hkw⟩ := hrel
    by_cases hlt : j < m
    · cases Lx with
      | nil => exact absurd hll.out.1 (by simp; omega)
      | cons a L' =>
        have HA : Hid (a ∈ xs) := Lib.hid (hpm.out.mem_iff.1 (by simp))
        have HAPP : Hid (Apart (Ly ++ a :: L')) := Lib.hid (HAP.out.perm hpm.out.symm)
        have HNE := Lib.hid (hX.out.ne hM.out)
        have HNE2 := Lib.hid (hY.out.ne hM.out)
        have DQ := Lib.hid (pop_chn wr w3.heap.size (w1.heap.size + 1) w1.heap.size z hx a L' hM.out hX.out hcx.out (by have := hll.out.1; simp at this; omega))
        go_wp2_with fail
        (with_reducible refine DQ.out.mono ?_)
        rintro e w6 ⟨rfl, hX6, hb6⟩
        have X6 := Lib.hid hX6
        have hs6 := hb6.size
        have HWR := Lib.hid (hkw.size)
        have M6 : Hid (MemB w6 (w1.heap.size + 1) w1.heap.size z) := Lib.hid (hM.out.keep hb6 (by have := HNE.out.1; simp; omega) (by have := HNE.out.2; simp; omega))
        have Y6 : Hid (ListB w6 (w3.heap.size + 1) (hy : Int) (Ly.length : Int)) := Lib.hid (hY.out.keep hb6 (by simp))
        have DP : Hid (Calls Try.prog 13 #[.pointer (some ⟨w3.heap.size + 1, 0, none⟩), .pointer (some ⟨w1.heap.size + 1, 0, none⟩), .slice (some ⟨w6.heap.size, 0, none⟩) 1 1] (w6.alloc (.cells #[.int .u64 (a : Int)] 28)) (PushIs (w6.alloc (.cells #[.int .u64 (a : Int)] 28)) (w3.heap.size + 1) (w1.heap.size + 1) w1.heap.size z Ly [a])) := Lib.hid (by
          refine push_chn _ _ _ _ _ hy Ly [a] _ _ _ (M6.out.keep0 ((Kept.refl [] _).alloc _)) (Y6.out.keep0 ((Kept.refl [] _).alloc _)) hcy.out (fun b hb => ?_) ?_ (fun w' hk => ?_) rfl (by have := hll.out.2; simp; omega)
          · simp at hb
            subst hb
            have := HV.out b HA.out
            have := hrz.out.1
            have := HFL.out
            omega
          · exact (HAPP.out.perm (List.perm_append_comm.trans (by simpa using List.Perm.cons a List.perm_append_comm))).left
          · exact row1 (Blk.keep (Blk.new w6 _ _) hk (by have := HNE.out; have := M6.out.2.1.lt; have := Blk.lt Y6.out; simp; omega)))
        clear hX6 DQ
        go_wp2_with fail
        (with_reducible refine DP.out.mono ?_)
        rintro e w7 ⟨rfl, z7, h7, hM7, hZ7, hC7, hL7, hb7⟩
        have HS7 := Lib.hid hb7.size
        have HM7 := Lib.hid hM7
        have HZ7 := Lib.hid hZ7
        have HC7 := Lib.hid hC7
        have HL7 := Lib.hid hL7
        clear hM7 hZ7 hC7 hL7 DP
        go_wp2_with fail
        go_roundw
        case rel =>
          refine ⟨j + 1, L', a :: Ly, z7, lk z a, h7, by omega, by go_num, Lib.hid ⟨by have := hll.out.1; simp at this; omega, by have := hll.out.2; simp; omega⟩, Lib.hid ?_, Lib.hid (hrz.out.trans (HZ7.out.mono (fun x hx => by simp at hx; subst hx; exact HA.out))), Lib.hid ?_, HC7, HM7, Lib.hid (X6.out.keep0 ((Kept.refl [] _).alloc _) |>.keep hb7 (by have := HNE.out; simp; omega)), HL7, ?_⟩
          · exact (List.Perm.trans (by simpa using (List.perm_middle (a := a) (l₁ := Ly) (l₂ := L')).symm) hpm.out)
          · have := hcx.out.next.2.2.2
            refine this.rest HZ7.out (fun b hb => ?_)
            simp at hb
            subst hb
            have h1 := List.pairwise_cons.1 (List.pairwise_append.1 HAPP.out).2.1
            intro x hx
            have := h1.1 x hx
            omega
          · exact Kept.trans (T := [w3.heap.size + 1, w1.heap.size]) ((Kept.trans (T := [w3.heap.size]) hkw hb6 (fun x hx _ => by simp at hx ⊢; omega)).alloc _) hb7 (fun x hx _ => by simp at hx ⊢; omega)
        case measure => simp [intOf]; omega
    · obtain rfl : j = m := by omega
      have DJ := Lib.hid (join_chn wr w3.heap.size (w3.heap.size + 1) (w1.heap.size + 1) w1.heap.size z hx hy Lx Ly hM.out hX.out hY.out (by omega) hcx.out hcy.out (HAP.out.perm hpm.out.symm) (by have := hll.out.1; omega) (by have := hll.out; have := hrz.out.1; have := HFL.out; omega))
      go_wp2_with fail
      (with_reducible refine DJ.out.mono ?_)
      rintro e w7 ⟨rfl, z7, h7, hM7, hZ7, hC7, hX7, hY7, hb7⟩
      have hs7 := hb7.size
      have M7 := Lib.hid hM7
      have Z7 : Hid (Rest xs zf z7) := Lib.hid (hrz.out.trans (hZ7.mono (fun x hx => hpm.out.mem_iff.1 (by simp [hx]))))
      have X7 : Hid (ListB w7 w3.heap.size (h7 : Int) (xs.length : Int)) := Lib.hid (by
        have e1 : (Ly ++ Lx).length = xs.length := by have := hll.out; simp; omega
        rwa [e1] at hX7)
      have HB7 : Hid (Kept [w3.heap.size, w3.heap.size + 1, w1.heap.size] V w7) := Lib.hid ((HB5.out.mono (T := [w3.heap.size, w3.heap.size + 1, w1.heap.size]) (fun s hs _ => by simp at hs ⊢; omega)).trans (hkw.trans hb7 (fun s hs _ => hs)) (fun s hs _ => hs))
      have K7 : Hid (Kept [] W w7) := Lib.hid ((hkw.trans hb7 (fun s hs _ => hs)).thenL K5.out (fun s hs => by have := K3.out.size; simp at hs; omega))
      clear hM7 hZ7 hC7 hX7 hY7 DJ hM hX hY hcx hcy hpm hll hrz
      go_wp2_with fail
      go_loopw [69] (fun i wt => ∃ (j k : Nat) (S : Int → Bool), j ≤ xs.length ∧ i = .int .i64 j ∧ k ≤ 8 * j ∧ Hid (SetI Try.prog 28 .u64 wt w7.heap.size k S) ∧ Hid (∀ a : Nat, a ∈ xs.take j → ∀ t : Nat, t < 8 → S ((a : Int) + (t : Int)) = true) ∧ Kept [w7.heap.size] (w7.alloc (.map #[] 0)) wt) (fun i _ => xs.length - (intOf i).toNat)
      case atStart => exact ⟨0, 0, _, Nat.zero_le _, rfl, Nat.le_refl _, Lib.hid (SetI.made _ _ _ _), Lib.hid (by simp), Kept.refl _ _⟩
      case round =>
        obtain ⟨wt, rfl⟩ : ∃ wt : World, wt = wr := ⟨_, rfl⟩
        obtain ⟨i, k, S, hil, rfl, hk8, hS, hSS, hkt⟩ := hrel
        have HB9 : Hid (Kept [w3.heap.size, w3.heap.size + 1, w1.heap.size] V wt) := Lib.hid (hkt.thenG (HB7.out.alloc _) (by have := HB7.out.size; omega))
        by_cases hlt : i < xs.length
        · obtain ⟨ad, rfl, hc⟩ := (HI.out _ wt HB9.out (fun s hs => by simp at hs; omega)).get (by simp; omega)
          have hcell : wt.cell? (ad.add i) = some (.int .u64 ((xs[i] : Nat) : Int)) := by
            have := hc wt (Kept.refl _ _) i (by simp; omega)
            rw [getD_map, List.getElem?_eq_getElem hlt] at this
            exact this
          have hmem : xs[i] ∈ xs := List.getElem_mem hlt
          have HT : Hid (xs.take (i + 1) = xs.take i ++ [xs[i]]) := Lib.hid (by rw [List.take_add_one, List.getElem?_eq_getElem hlt]; rfl)
          generalize xs[i] = a at hcell hmem HT
          have ha8 := (HV.out a hmem).2
          clear hc
          go_wp2_with fail
          go_loopw [73] (fun v wu => ∃ (t k2 : Nat) (S : Int → Bool), t ≤ 8 ∧ v = .int .u64 t ∧ k2 ≤ 8 * i + t ∧ Hid (SetI Try.prog 28 .u64 wu w7.heap.size k2 S) ∧ Hid (∀ b : Nat, b ∈ xs.take i → ∀ t : Nat, t < 8 → S ((b : Int) + (t : Int)) = true) ∧ Hid (∀ u : Nat, u < t → S ((a : Int) + (u : Int)) = true) ∧ Kept [w7.heap.size] (w7.alloc (.map #[] 0)) wu) (fun v _ => 8 - (intOf v).toNat)
          case atStart => exact ⟨0, k, S, Nat.zero_le _, rfl, by omega, hS, hSS, Lib.hid (fun u hu => absurd hu (Nat.not_lt_zero _)), hkt⟩
          case round =>
            obtain ⟨t, k2, S2, ht8, rfl, hk2, hS2, hSS2, hSt, hku⟩ := hrel
            by_cases hlt8 : t < 8
            · have hwf : (Lit.int .u64 ((a : Int) + (t : Int))).wf = true := WalkArith.wf_u64 (by omega)
              obtain ⟨w9, hput, hst9, hk9⟩ := hS2.out.put Try.underlying28 Try.underlying72 (by unfold maxLen; omega) ((a : Int) + (t : Int)) hwf true
              have HS9 := Lib.hid hst9
              have HK9 := Lib.hid (hku.trans hk9 (fun s hs _ => hs))
              clear hst9 hk9
              go_wp2_with fail
              go_roundw
              case rel =>
                refine ⟨t + 1, k2 + 1, _, by omega, by go_num, by omega, HS9, Lib.hid (fun b hb u hu => ?_), Lib.hid (fun u hu => ?_), HK9.out⟩
                · show (if _ then true else S2 _) = true
                  split
                  · rfl
                  · exact hSS2.out b hb u hu
                · show (if _ then true else S2 _) = true
                  split
                  · rfl
                  · exact hSt.out u (by omega)
              case measure => simp [intOf]; omega
            · obtain rfl : t = 8 := by omega
              go_wp2_with fail
              go_roundw
              case rel =>
                refine ⟨i + 1, k2, S2, by omega, by go_num, by omega, hS2, Lib.hid (fun b hb u hu => ?_), hku⟩
                rw [HT.out, List.mem_append] at hb
                rcases hb with hb | hb
                · exact hSS2.out b hb u hu
                · simp at hb
                  subst hb
                  exact hSt.out u hu
              case measure => simp [intOf]; omega
        · obtain rfl : i = xs.length := by omega
          have HSS : Hid (∀ a : Nat, a ∈ xs → ∀ t : Nat, t < 8 → S ((a : Int) + (t : Int)) = true) := Lib.hid (by
            have := hSS.out
            rwa [List.take_of_length_le (Nat.le_refl _)] at this)
          have HME := Lib.hid (X7.out.ne M7.out)
          have M9 : Hid (MemB wt (w1.heap.size + 1) w1.heap.size z7) := Lib.hid ((M7.out.keep0 ((Kept.refl [] _).alloc _)).keep hkt (by have := M7.out.1.lt; simp; omega) (by have := M7.out.2.1.lt; simp; omega))
          have X9 : Hid (ListB wt w3.heap.size (h7 : Int) (xs.length : Int)) := Lib.hid ((X7.out.keep0 ((Kept.refl [] _).alloc _)).keep hkt (by have := Blk.lt X7.out; simp; omega))
          have D10 : Hid (Calls Try.prog 27 #[.pointer (some ⟨w1.heap.size + 1, 0, none⟩), .int .u64 0, .int .u64 2048] wt fun e w' => (∃ A c, e = .returned (.tuple #[.slice A 2048 c, .int .i64 0]) ∧ OwnI wt.heap.size .u8 5 w' (.slice A 2048 c) z7) ∧ Kept [] wt w') := Lib.hid (by
            have hz : z7.length = 2048 := by rw [Z7.out.1, HFL.out]
            have e1 : (z7.drop 0).take 2048 = z7 := by rw [List.drop_zero, List.take_of_length_le (by omega)]
            have := get_in wt (w1.heap.size + 1) w1.heap.size z7 M9.out 0 2048 (by omega)
            rw [e1] at this
            refine this.mono ?_
            rintro e w' ⟨A, c, h1, h2, h3⟩
            rw [hz] at h1 h2
            exact ⟨⟨A, c, h1, h2⟩, h3⟩)
          go_wp2_with fail
          (with_reducible refine D10.out.mono ?_)
          rintro e w10 ⟨⟨A10, c10, rfl, hO10⟩, hb10⟩
          have O10 := Lib.hid hO10
          have S10 := Lib.hid (hS.out.keep hb10 (by simp))
          have X10 := Lib.hid (X9.out.keep0 hb10)
          have K10 : Hid (Kept [] W w10) := Lib.hid (hb10.then_ (hkt.thenG (K7.out.alloc _) (by have := K7.out.size; omega)))
          clear hO10
          go_wp2_with fail
          go_loopw [89] (fun v wu => ∃ t : Nat, t ≤ 2048 ∧ v = .int .i64 t ∧ Kept [] w10 wu) (fun v _ => 2048 - (intOf v).toNat)
          case atStart => exact ⟨0, Nat.zero_le _, rfl, Kept.refl _ _⟩
          case round =>
            obtain ⟨t, ht, rfl, hku⟩ := hrel
            by_cases hlt8 : t < 2048
            · obtain ⟨ad, rfl, hc⟩ := O10.out.row.get (by rw [Z7.out.1, HFL.out]; omega)
              have hcell : wr.cell? (ad.add t) = some (.int .u8 (z7[t]?.getD 0)) := hc wr hku t (by rw [Z7.out.1, HFL.out]; omega)
              have hwf : (Lit.int .u64 (t : Int)).wf = true := WalkArith.wf_u64 (by omega)
              have hlook := (S10.out.keep hku (by simp)).look Try.underlying28 Try.underlying72 (zero_bool wr) (t : Int) hwf
              clear hc
              cases hSt : S (t : Int) with
              | true =>
                rw [hSt] at hlook
                have HSt := Lib.hid hSt
                clear hSt
                generalize z7[t]?.getD 0 = y at hcell
                go_wp2_with fail
                go_roundw
                case rel => exact ⟨t + 1, by omega, by go_num, hku⟩
                case measure => simp [intOf]; omega
              | false =>
                rw [hSt] at hlook
                have hz : z7[t]?.getD 0 = x1 := by
                  rw [Z7.out.2 t (fun a ha hh => by
                    have := HSS.out a ha (t - a) (by omega)
                    rw [show ((a : Int) + ((t - a : Nat) : Int)) = (t : Int) by omega, hSt] at this
                    cases this), HFA.out t hlt8]
                  rfl
                rw [hz] at hcell
                have HSt := Lib.hid hSt
                clear hSt hz
                go_wp2_with fail
                go_roundw
                case rel => exact ⟨t + 1, by omega, by go_num, hku⟩
                case measure => simp [intOf]; omega
            · obtain rfl : t = 2048 := by omega
              have X11 := Lib.hid (X10.out.keep0 hku)
              have d1 := Blk.cell X11.out 1
              have l1 := Blk.lt X11.out
              go_wp2_with fail
              go_ret
              exact ⟨rfl, Kept.below (K10.out.trans0 hku)⟩
theorem own : ownKnob Try.prog.godebug = none := by kernel_rfl
theorem laidOut : laidOutB Try.prog = true := by kernel_rfl
set_option maxRecDepth 100000 in
theorem lifted (os : Os) (started : os.Started) (H : Type) (enc : TypeId × Value → H) :
    ReturnsInHanded {} Try.checked os 9 .any (Rows.listUntouchedSpec.pre6 enc Try.prog Try.f9 Rows.listUntouchedRow.domain false) (Rows.listUntouchedSpec.post enc Try.prog Try.f9 false true false false) := by
  refine returnsInHanded_of_change (C := Try.checked) own started (by kernel_rfl) Try.func9
    (ChangeSpec.witness6 (enc := enc) (C := Try.checked) false ⟨#[], #[.slice none 0 0, .int .u8 0], []⟩ 8 (by kernel_rfl) (by kernel_rfl) (by kernel_rfl) (by kernel_rfl)) ?_
  intro W base args ds gs before hval0 hW hcnd _
  have hval : ∀ (j : Nat) t v, Try.f9.params[j]? = some t → args[j]? = some v → Value.okWide Try.prog W .any base t v := hval0
  have hW' := hW
  obtain ⟨p, q, hA0, hV, rfl, hfz, hnd⟩ := hW
  have hA : DataW.TrodAll enc Try.prog W 0 (fun _ => true) true Try.f9.params.toList args.toList ds p := hA0
  rw [Try.params9] at hA hval
  obtain ⟨v0, vs0, d0, ds0, p0, q0, hargs, rfl, rfl, h0, r0⟩ := trodAll_cons hA
  obtain ⟨v1, vs1, d1, ds1, p1, q1, rfl, rfl, rfl, h1, r1⟩ := trodAll_cons r0
  obtain ⟨rfl, rfl, rfl⟩ := trodAll_nil r1
  obtain rfl : args = #[v0, v1] := by cases args; simp_all
  obtain ⟨rfl, rfl⟩ := trodVars_none hV
  have k0 := h0
  have lt0 : ∀ x ∈ p0, x.block < W.heap.size := by obtain ⟨m, hm⟩ := k0; exact DataW.trod_lt m _ _ _ hm
  obtain ⟨a0, len0, cap0, rfl⟩ := okWide_slice Try.underlying22 (hval 0 22 v0 rfl rfl)
  obtain ⟨z0, w0⟩ := isRow_of Try.underlying22 Try.underlying5 (by kernel_rfl) h0
  obtain ⟨a1, rfl, rfl, rfl, w1⟩ := open_int Try.underlying5 (hval 1 5 v1 rfl rfl) h1
  clear hA0 hval0
  refine (walk a0 len0 cap0 z0 a1 W w0 w1).mono fun e W' ⟨he, bel⟩ => ?_
  subst he
  exact ⟨_, rfl, _, _, _, [], _, [], hW', trodAll_mk1 (shut_bool Try.underlying4 _), (trodAll_cons_mk (Below.trod laidOut (by kernel_rfl) (of_decide_eq_true (by kernel_rfl)) k0 bel lt0) (trodAll_cons_mk (shut_int Try.underlying5 w1) trodAll_mk0)), rfl, bel.frame _, fun h => by cases h⟩
theorem over : Rows.listUntouchedRow.holds Try.pinned (OpenSpec.ofChange Rows.listUntouchedSpec) :=
  OpenClaim.holds_of_wide 9 Try.f9 rfl rfl rfl rfl rfl rfl rfl ⟨rfl, rfl, rfl, rfl, rfl⟩ rfl rfl rfl rfl rfl (by kernel_rfl) Try.func9 (by kernel_rfl)
    (of_decide_eq_true (by kernel_rfl)) (by unfold Func.isWrapper; first | (rw [if_pos (by decide +kernel)]; kernel_rfl) | (rw [if_neg (by decide +kernel)]; exact ⟨rfl, rfl⟩))
    (fun os started H enc _ => lifted os started H enc)
theorem proved : Rows.ListUntouchedSaid := over
#print axioms proved
end Go.Proofs.Ytapolaefdbdnpaa.ListUntouched
