/- The document's ledger: Add. -/
import Derived.Test.YtdallcepachhoaaLgRefC
import Derived.Test.YtdallcepachhoaaLgHeld
import Derived.Test.YtdallcepachhoaaTail
set_option linter.unusedVariables false
set_option linter.unusedSimpArgs false
namespace Go.Proofs.Ytdallcepachhoaa
open Go.RowKit
theorem rowH_one {w : World} {g : Nat} {x : Bool} (h : Blk w g 4 #[.bool x]) : RowS encH w (some ⟨g, 0, none⟩) [x] := fun _ => by
  refine ⟨_, rfl, h.lt, fun j u hu => ?_⟩
  rw [Addr.add_lit, Nat.zero_add, h.cell]
  simpa [encH] using hu
/-- What the region's loads read. -/
def SAdd (m b o : Nat) (v : Value) (a n l : Int) (w : World) : Prop := w.cell? ⟨m, o, none⟩ = some v ∧ w.cell? ⟨b, 0, none⟩ = some (.int .u64 a) ∧ w.cell? ⟨b, 1, none⟩ = some (.int .u64 n) ∧ w.cell? ⟨b, 2, none⟩ = some (.int .u64 l) ∧ m < w.heap.size ∧ b < w.heap.size
theorem SAdd.keep {m b o : Nat} {v : Value} {a n l : Int} {w w' : World} (h : SAdd m b o v a n l w) (hk : Kept [] w w') : SAdd m b o v a n l w' := by
  obtain ⟨h0, h1, h2, h3, h4, h5⟩ := h
  have hz := hk.size
  exact ⟨hk.at_ h4 h0, hk.at_ h5 h1, hk.at_ h5 h2, hk.at_ h5 h3, by omega, by omega⟩
def SAdd1 (m o : Nat) (v : Value) (w : World) : Prop := w.cell? ⟨m, o, none⟩ = some v ∧ m < w.heap.size
theorem SAdd1.keep {m o : Nat} {v : Value} {w w' : World} (h : SAdd1 m o v w) (hk : Kept [] w w') : SAdd1 m o v w' := by
  obtain ⟨h0, h4⟩ := h
  have hz := hk.size
  exact ⟨hk.at_ h4 h0, by omega⟩
theorem AddR.one {ls ls1 ls2 : List EntT} {a n l e1 e2 : Int} (h1 : AddR ls a n l e1 ls1) (h2 : AddR ls a n l e2 ls2) : e1 = e2 ∧ ls1 = ls2 := by
  rcases h1 with ⟨p, rfl, rfl⟩ | ⟨p, q, rfl, rfl⟩ | ⟨p, q, rfl, j, hj, rfl⟩ <;> rcases h2 with ⟨p', rfl, rfl⟩ | ⟨p', q', rfl, rfl⟩ | ⟨p', q', rfl, j', hj', rfl⟩
  · exact ⟨rfl, rfl⟩
  · exact absurd p' p
  · exact absurd p' p
  · exact absurd p p'
  · exact ⟨rfl, rfl⟩
  · exact absurd q' q
  · exact absurd p p'
  · exact absurd q q'
  · exact ⟨rfl, by rw [at_one hj hj']⟩
set_option maxRecDepth 100000 in
set_option maxHeartbeats 40000000 in
theorem radd_any (T : List Nat) (W : World) (m : Nat) (ls ls' : List EntT) (h : RefS T W m ls) (hi : LInv ls) (hl : ls.length ≤ 1000) (a n l er : Int) (ha : 0 ≤ a ∧ a ≤ 18446744073709551615) (hn : 0 ≤ n ∧ n ≤ 18446744073709551615) (hl' : 0 ≤ l ∧ l ≤ 18446744073709551615) (hR : AddR ls a n l er ls') :
    Calls Try.prog 40 #[.pointer (some ⟨m, 0, none⟩), .agg #[.int .u64 a, .int .u64 n, .int .u64 l]] W fun e w' => e = .returned (.int .i64 er) ∧ LeftR T W m ls' w' := by
  have DM := Lib.hid (fun w' => rmay_any a n l w' ha hn hl' _ rfl)
  have DT := Lib.hid (fun w' => takes_any a n l w' hn.1 _ rfl)
  have hml := h.ltp
  by_cases hm : May a n l
  · have hmx := mx_pos hn.1
    have hm1 : n ≤ 1048576 := hm.1
    have hmx1 : mx n ≤ 1048576 := by omega
    have DF := Lib.hid (fun w' (hk : Kept [] W w') => rfree_any T w' m ls (h.keep0 hk) hi hl a (mx n) ha (by omega) _ rfl)
    rw [decide_eq_true hm] at DM
    by_cases hf : FreeL ls a (mx n)
    · rw [decide_eq_true hf] at DF
      obtain ⟨rfl, j, hj, rfl⟩ : er = 0 ∧ ∃ j, AtG ls a j ∧ ls' = ins ls j (a, n, l, false) := by
        rcases hR with ⟨h1, _⟩ | ⟨_, h1, _⟩ | ⟨_, _, h1, h2⟩
        · exact absurd hm h1
        · exact absurd hf h1
        · exact ⟨h1, h2⟩
      clear hR hm hf
      obtain ⟨v, u, rfl, hb, hv, hu⟩ := h
      obtain ⟨A, c, rfl, _⟩ := hv.slice
      obtain ⟨A', c', rfl, _⟩ := hu.slice
      simp only [List.length_map] at hv hu hb ⊢
      obtain ⟨hjl, hjlt, hjge⟩ := hj
      obtain ⟨⟨hr1, hc1, rn1⟩, A2, c2, hr2, hc2, rn2⟩ := own_cuts encB_k 30 33 Try.underlying30 (fun w => by simp [go_sem]) hv j (by simp; omega)
      have HU := Lib.hid hu
      obtain ⟨i0, hi, hz0, hz1, hz2⟩ := info_parts info_blk
      obtain ⟨j0, hj0, hy0, hy1, hy2⟩ := info_parts info_bool
      have HB := Lib.hid hb
      have HN1 : Hid (j = ((ls.map bk).take j).length) := Lib.hid (by simp; omega)
      have HN2 : Hid (ls.length - j = ((ls.map bk).drop j).length) := Lib.hid (by simp)
      have HR1 := Lib.hid hr1
      have HR2 := Lib.hid hr2
      have HJ := Lib.hid hjlt
      have HG := Lib.hid hjge
      have HV := Lib.hid hv
      have q4 : (0 : Int) ≤ (j : Int) := by omega
      have q5 : (j : Int) ≤ (ls.length : Int) := by omega
      clear hr1 hr2 hu hv hb hjlt hjge
      go_enter Try.func40, Try.ntmps40
      go_wp2_with fail
      (with_reducible refine (DM.out _).mono ?_)
      rintro e w1 ⟨rfl, hb1⟩
      have B1 : Blk w1 W.heap.size 33 #[.int .u64 a, .int .u64 n, .int .u64 l] := (Blk.new W _ _).keep0 hb1
      have K1 := Lib.hid (show Kept [] W w1 by (repeat' (first | (with_reducible exact Kept.refl _ _) | (with_reducible assumption) | (with_reducible refine Kept.then_ (by with_reducible assumption) ?_) | (with_reducible refine Kept.thenS (by with_reducible assumption) ?_) | (with_reducible refine Kept.alloc ?_ _) | (with_reducible refine Kept.drew ?_) | (with_reducible refine Kept.drewN ?_ _) | (with_reducible refine Kept.setNew ?_ ?_ _) | ((try simp only [World.size_alloc, World.size_setCell, World.size_drew, size_drewN] at *); (try dsimp only); omega))))
      have HB1 := Lib.hid B1
      clear B1 hb1
      go_wp2_with fail
      refine wp_region_kept (by kernel_rfl) (by kernel_rfl) ?_
      intro TT FF hne hFF hcl
      have q_r0 := fun x => (Blk.keep0 (HB1.out) (hFF x)).cell
      repeat (first | go_big_quiet_step ((first | (go_at_call 50; (with_reducible refine kept_call hcl (DT.out _))) | (go_at_call 39; (with_reducible refine kept_call hcl (DF.out _ ((hFF _).then_ K1.out)))))) | quiet_step ((first | (go_at_call 50; (with_reducible refine kept_call hcl (DT.out _))) | (go_at_call 39; (with_reducible refine kept_call hcl (DF.out _ ((hFF _).then_ K1.out)))))))
      refine wpQuiet_nil ?_
      rintro w3 ⟨x, hx⟩
      have hb3 := hFF x
      rw [← hx] at hb3
      clear hx x hne hFF hcl q_r0
      have hs3 := hb3.size
      (try simp only [World.size_alloc, World.size_setCell, World.size_drew, size_drewN] at hs3)
      have K3 := Lib.hid (hb3.then_ K1.out)
      have HB3 := Lib.hid (HB1.out.keep0 hb3)
      clear hb3
      go_wp2_with fail
      go_loopw [5] (fun v wr => ∃ i : Nat, i ≤ j ∧ v = .int .i64 i ∧ Hid (Kept [] w3 wr)) (fun v _ => (j - intOf v).toNat)
      case atStart => exact ⟨0, Nat.zero_le _, rfl, Lib.hid (Kept.refl _ _)⟩
      case round =>
        obtain ⟨i, hij, rfl, hk⟩ := hrel
        have hB := HB.out.keep0 (hk.out.then_ K3.out)
        have x0 := hB.cell 0
        have x1 := hB.cell 1
        have xl := hB.lt
        have HBr := Lib.hid hB
        have hV := HV.out.keep (hk.out.then_ K3.out)
        have bB := HB3.out.keep0 hk.out
        have b0 := bB.cell
        have bl := bB.lt
        have HBB := Lib.hid bB
        have KR := Lib.hid (hk.out.then_ K3.out)
        have hkl : (ls.map bk).length = ls.length := by simp
        by_cases hlt : i < j
        · have hil : i < ls.length := by omega
          obtain ⟨A9, c9, e9, hL9⟩ := listB_of hV
          rw [hkl] at e9
          cases e9
          obtain ⟨g, _, rfl, hc⟩ := hL9 (by simp; omega)
          obtain ⟨y0, y1, y2⟩ := hc.2 i (by simpa using hil)
          rw [rb_map hil] at y0 y1 y2
          have hgl := hc.1
          have q1 : decide (i < ls.length) = true := by simp; omega
          have q2 : decide ((re ls i).1 < a) = true := by simp; exact HJ.out i hlt
          have q6 : (0 : Int) ≤ (i : Int) := by omega
          have q7 : (i : Int) < (ls.length : Int) := by omega
          clear hV hB hc hL9 bB
          generalize re ls i = e at *
          obtain ⟨ea, en, el, eh⟩ := e
          simp only [bk] at y0 y1 y2
          dsimp only at q2
          go_wp2_with fail
          refine wp_region_kept (by kernel_rfl) (by kernel_rfl) ?_
          intro TT FF hne hFF hcl
          have q_c0 := fun x => (hFF x).at_ hgl y0
          have q_r0 := fun x => (Blk.keep0 (HBr.out) (hFF x)).cell
          have q_r1 := fun x => (Blk.keep0 (HBB.out) (hFF x)).cell
          repeat (first | go_big_quiet_step (fail) | quiet_step (fail))
          refine wpQuiet_nil ?_
          rintro w5 ⟨x, hx⟩
          have hb5 := hFF x
          rw [← hx] at hb5
          clear hx x hne hFF hcl q_r0 q_r1 q_c0
          have hs5 := hb5.size
          (try simp only [World.size_alloc, World.size_setCell, World.size_drew, size_drewN] at hs5)
          have K5 := Lib.hid (hb5.then_ hk.out)
          clear hb5
          go_wp2_with fail
          go_roundw
          case rel => exact ⟨i + 1, by omega, by go_num, K5⟩
          case measure => simp [intOf]; omega
        · obtain rfl : i = j := by omega
          have hcase : i = ls.length ∨ (i < ls.length ∧ a ≤ (re ls i).1) := by
            rcases Nat.lt_or_ge i ls.length with h | h
            · exact .inr ⟨h, HG.out i (Nat.le_refl _) h⟩
            · left; omega
          go_wp2_with fail
          go_cut [35] (fun s35 wx => s35 = .bool false ∧ Hid (Kept [] wr wx))
          case first =>
            refine hcase.elim (fun hcase => ?way1) (fun hcase => ?way2)
            case way1 =>
              have q1 : decide (i < ls.length) = false := by simp; omega
              clear hV hB bB
              go_wp2_with fail
              refine wp_region_kept (by kernel_rfl) (by kernel_rfl) ?_
              intro TT FF hne hFF hcl
              have q_r0 := fun x => (Blk.keep0 (HBr.out) (hFF x)).cell
              have q_r1 := fun x => (Blk.keep0 (HBB.out) (hFF x)).cell
              repeat (first | go_big_quiet_step (fail) | quiet_step (fail))
              refine wpQuiet_nil ?_
              rintro w5 ⟨x, hx⟩
              have hb5 := hFF x
              rw [← hx] at hb5
              clear hx x hne hFF hcl q_r0 q_r1
              have hs5 := hb5.size
              (try simp only [World.size_alloc, World.size_setCell, World.size_drew, size_drewN] at hs5)
              have K5 := Lib.hid hb5
              clear hb5
              go_wp2_with fail
              go_meet
              exact ⟨rfl, K5⟩
            case way2 =>
              obtain ⟨hil, hge⟩ := hcase
              obtain ⟨A9, c9, e9, hL9⟩ := listB_of hV
              rw [hkl] at e9
              cases e9
              obtain ⟨g, _, rfl, hc⟩ := hL9 (by simp; omega)
              obtain ⟨y0, y1, y2⟩ := hc.2 i (by simpa using hil)
              rw [rb_map hil] at y0 y1 y2
              have hgl := hc.1
              have q1 : decide (i < ls.length) = true := by simp; omega
              have q2 : decide ((re ls i).1 < a) = false := by simp; omega
              have q6 : (0 : Int) ≤ (i : Int) := by omega
              have q7 : (i : Int) < (ls.length : Int) := by omega
              clear hV hB hc hL9 bB
              generalize re ls i = e at *
              obtain ⟨ea, en, el, eh⟩ := e
              simp only [bk] at y0 y1 y2
              dsimp only at q2
              go_wp2_with fail
              refine wp_region_kept (by kernel_rfl) (by kernel_rfl) ?_
              intro TT FF hne hFF hcl
              have q_c0 := fun x => (hFF x).at_ hgl y0
              have q_r0 := fun x => (Blk.keep0 (HBr.out) (hFF x)).cell
              have q_r1 := fun x => (Blk.keep0 (HBB.out) (hFF x)).cell
              repeat (first | go_big_quiet_step (fail) | quiet_step (fail))
              refine wpQuiet_nil ?_
              rintro w5 ⟨x, hx⟩
              have hb5 := hFF x
              rw [← hx] at hb5
              clear hx x hne hFF hcl q_r0 q_r1 q_c0
              have hs5 := hb5.size
              (try simp only [World.size_alloc, World.size_setCell, World.size_drew, size_drewN] at hs5)
              have K5 := Lib.hid hb5
              clear hb5
              go_wp2_with fail
              go_meet
              exact ⟨rfl, K5⟩
          case rest =>
            obtain ⟨rfl, hk5⟩ := hcut
            obtain ⟨w5, hw5⟩ : ∃ w5, w5 = wc := ⟨_, rfl⟩
            subst hw5
            have K5 := Lib.hid ((hk5.out.then_ hk.out).then_ K3.out)
            have B5 := Lib.hid (HBr.out.keep0 hk5.out)
            have BB5 := Lib.hid (HBB.out.keep0 hk5.out)
            have hs5 := K5.out.size
            have x0 := B5.out.cell 0
            have x1 := B5.out.cell 1
            have xl := B5.out.lt
            have xf := B5.out.frozen 0
            have b0 := BB5.out.cell
            have bl := BB5.out.lt
            clear hcase hV hB bB
            go_wp2_with fail
            go_cut [] (fun wx => Hid (MidR W m (ins ls i (a, n, l, false)) (.slice A' ls.length c') wx))
            case first =>
              have HS0 : Hid (SAdd m W.heap.size 0 (.slice A ls.length c) a n l w5) := Lib.hid ⟨x0, b0 0, b0 1, b0 2, xl, bl⟩
              refine wp_region_T (SAdd m W.heap.size 0 (.slice A ls.length c) a n l) 19 (by kernel_rfl) ?_
              have hS : (SAdd m W.heap.size 0 (.slice A ls.length c) a n l) _ := HS0.out.keep ((Kept.refl [] w5).drew)
              refine wpAnyT_take (i := 0) (oi := _) (v := ?v1001) rfl (by kernel_rfl) (by kernel_rfl) (by kernel_rfl) (by kernel_rfl) (by kernel_rfl) (by kernel_rfl) (by kernel_rfl) (fun _ _ _ h => h) (Or.inl ⟨by rfl, ?hy1001⟩) hS ?rest1001
              case hy1001 => (intro w' hSw; obtain ⟨s0, s1, s2, s3, s4, s5⟩ := hSw; go_simp; first | done | with_reducible rfl | rfl)
              (try simp only [Act.put, List.setIfInBounds_toArray, List.set_cons_zero, List.set_cons_succ])
              refine wpAnyT_take (i := 2) (oi := _) (v := ?v1002) rfl (by kernel_rfl) (by kernel_rfl) (by kernel_rfl) (by kernel_rfl) (by kernel_rfl) (by kernel_rfl) (by kernel_rfl) (fun _ _ _ h => h) (Or.inl ⟨by rfl, ?hy1002⟩) hS ?rest1002
              case hy1002 => (intro w' hSw; obtain ⟨s0, s1, s2, s3, s4, s5⟩ := hSw; go_simp; first | done | with_reducible rfl | rfl)
              (try simp only [Act.put, List.setIfInBounds_toArray, List.set_cons_zero, List.set_cons_succ])
              refine wpAnyT_take (i := 3) (oi := _) (v := ?v1003) rfl (by kernel_rfl) (by kernel_rfl) (by kernel_rfl) (by kernel_rfl) (by kernel_rfl) (by kernel_rfl) (by kernel_rfl) (fun _ _ _ h => h) (Or.inl ⟨by rfl, ?hy1003⟩) hS ?rest1003
              case hy1003 => (intro w' hSw; obtain ⟨s0, s1, s2, s3, s4, s5⟩ := hSw; go_simp; first | done | with_reducible rfl | rfl)
              (try simp only [Act.put, List.setIfInBounds_toArray, List.set_cons_zero, List.set_cons_succ])
              refine wpAnyT_take (i := 4) (oi := _) (v := ?v1004) rfl (by kernel_rfl) (by kernel_rfl) (by kernel_rfl) (by kernel_rfl) (by kernel_rfl) (by kernel_rfl) (by kernel_rfl) (fun _ _ _ h => h) (Or.inl ⟨by rfl, ?hy1004⟩) hS ?rest1004
              case hy1004 => (intro w' hSw; obtain ⟨s0, s1, s2, s3, s4, s5⟩ := hSw; go_simp; first | done | with_reducible rfl | rfl)
              (try simp only [Act.put, List.setIfInBounds_toArray, List.set_cons_zero, List.set_cons_succ])
              refine wpAnyT_take (i := 5) (oi := _) (v := ?v1005) rfl (by kernel_rfl) (by kernel_rfl) (by kernel_rfl) (by kernel_rfl) (by kernel_rfl) (by kernel_rfl) (by kernel_rfl) (fun _ _ _ h => h) (Or.inl ⟨by rfl, ?hy1005⟩) hS ?rest1005
              case hy1005 => (intro w' hSw; obtain ⟨s0, s1, s2, s3, s4, s5⟩ := hSw; go_simp; first | done | with_reducible rfl | rfl)
              (try simp only [Act.put, List.setIfInBounds_toArray, List.set_cons_zero, List.set_cons_succ])
              refine wpAnyT_take (i := 6) (oi := _) (v := ?v1006) rfl (by kernel_rfl) (by kernel_rfl) (by kernel_rfl) (by kernel_rfl) (by kernel_rfl) (by kernel_rfl) (by kernel_rfl) (fun _ _ _ h => h) (Or.inl ⟨by rfl, ?hy1006⟩) hS ?rest1006
              case hy1006 => (intro w' hSw; obtain ⟨s0, s1, s2, s3, s4, s5⟩ := hSw; go_simp; first | done | with_reducible rfl | rfl)
              (try simp only [Act.put, List.setIfInBounds_toArray, List.set_cons_zero, List.set_cons_succ])
              refine wpAnyT_take (i := 7) (oi := _) (v := ?v1007) rfl (by kernel_rfl) (by kernel_rfl) (by kernel_rfl) (by kernel_rfl) (by kernel_rfl) (by kernel_rfl) (by kernel_rfl) (fun _ _ _ h => h) (Or.inl ⟨by rfl, ?hy1007⟩) hS ?rest1007
              case hy1007 => (intro w' hSw; obtain ⟨s0, s1, s2, s3, s4, s5⟩ := hSw; go_simp; first | done | with_reducible rfl | rfl)
              (try simp only [Act.put, List.setIfInBounds_toArray, List.set_cons_zero, List.set_cons_succ])
              refine wpAnyT_take (i := 9) (oi := _) (v := ?v1008) rfl (by kernel_rfl) (by kernel_rfl) (by kernel_rfl) (by kernel_rfl) (by kernel_rfl) (by kernel_rfl) (by kernel_rfl) (fun _ _ _ h => h) (Or.inl ⟨by rfl, ?hy1008⟩) hS ?rest1008
              case hy1008 => (intro w' hSw; obtain ⟨s0, s1, s2, s3, s4, s5⟩ := hSw; go_simp; first | done | with_reducible rfl | rfl)
              (try simp only [Act.put, List.setIfInBounds_toArray, List.set_cons_zero, List.set_cons_succ])
              refine wpAnyT_take (i := 12) (oi := _) (v := ?v1009) rfl (by kernel_rfl) (by kernel_rfl) (by kernel_rfl) (by kernel_rfl) (by kernel_rfl) (by kernel_rfl) (by kernel_rfl) (fun _ _ _ h => h) (Or.inl ⟨by rfl, ?hy1009⟩) hS ?rest1009
              case hy1009 => (intro w' hSw; obtain ⟨s0, s1, s2, s3, s4, s5⟩ := hSw; go_simp; first | done | with_reducible rfl | rfl)
              (try simp only [Act.put, List.setIfInBounds_toArray, List.set_cons_zero, List.set_cons_succ])
              refine wpAnyT_take (i := 13) (oi := _) (v := ?v1010) rfl (by kernel_rfl) (by kernel_rfl) (by kernel_rfl) (by kernel_rfl) (by kernel_rfl) (by kernel_rfl) (by kernel_rfl) (fun _ _ _ h => h) (Or.inl ⟨by rfl, ?hy1010⟩) hS ?rest1010
              case hy1010 => (intro w' hSw; obtain ⟨s0, s1, s2, s3, s4, s5⟩ := hSw; go_simp; first | done | with_reducible rfl | rfl)
              (try simp only [Act.put, List.setIfInBounds_toArray, List.set_cons_zero, List.set_cons_succ])
              refine wpAnyT_take (i := 14) (oi := _) (v := ?v1011) rfl (by kernel_rfl) (by kernel_rfl) (by kernel_rfl) (by kernel_rfl) (by kernel_rfl) (by kernel_rfl) (by kernel_rfl) (fun _ _ _ h => h) (Or.inl ⟨by rfl, ?hy1011⟩) hS ?rest1011
              case hy1011 => (intro w' hSw; obtain ⟨s0, s1, s2, s3, s4, s5⟩ := hSw; go_simp; first | done | with_reducible rfl | rfl)
              (try simp only [Act.put, List.setIfInBounds_toArray, List.set_cons_zero, List.set_cons_succ])
              refine wpAnyT_take (i := 15) (oi := _) (v := ?v1012) rfl (by kernel_rfl) (by kernel_rfl) (by kernel_rfl) (by kernel_rfl) (by kernel_rfl) (by kernel_rfl) (by kernel_rfl) (fun _ _ _ h => h) (Or.inl ⟨by rfl, ?hy1012⟩) hS ?rest1012
              case hy1012 => (intro w' hSw; obtain ⟨s0, s1, s2, s3, s4, s5⟩ := hSw; go_simp; first | done | with_reducible rfl | rfl)
              (try simp only [Act.put, List.setIfInBounds_toArray, List.set_cons_zero, List.set_cons_succ])
              refine wpAnyT_take (i := 16) (oi := _) (v := ?v1013) rfl (by kernel_rfl) (by kernel_rfl) (by kernel_rfl) (by kernel_rfl) (by kernel_rfl) (by kernel_rfl) (by kernel_rfl) (fun _ _ _ h => h) (Or.inl ⟨by rfl, ?hy1013⟩) hS ?rest1013
              case hy1013 => (intro w' hSw; obtain ⟨s0, s1, s2, s3, s4, s5⟩ := hSw; go_simp; first | done | with_reducible rfl | rfl)
              (try simp only [Act.put, List.setIfInBounds_toArray, List.set_cons_zero, List.set_cons_succ])
              refine wpAnyT_take (i := 17) (oi := _) (v := ?v1014) rfl (by kernel_rfl) (by kernel_rfl) (by kernel_rfl) (by kernel_rfl) (by kernel_rfl) (by kernel_rfl) (by kernel_rfl) (fun _ _ _ h => h) (Or.inl ⟨by rfl, ?hy1014⟩) hS ?rest1014
              case hy1014 => (intro w' hSw; obtain ⟨s0, s1, s2, s3, s4, s5⟩ := hSw; go_simp; first | done | with_reducible rfl | rfl)
              (try simp only [Act.put, List.setIfInBounds_toArray, List.set_cons_zero, List.set_cons_succ])
              refine wpAnyT_ready (rs := [1, 10]) (by kernel_rfl) (by simp) (AllT.cons (i := 1) (o := _) rfl (fun K hK => ?w1015_1) (AllT.cons (i := 10) (o := _) rfl (fun K hK => ?w1015_10) AllT.nil))
              case w1015_1 =>
                go_simp
                refine hK _ _ (fun _ => HS0.out.keep (by (repeat' (first | (with_reducible exact Kept.refl _ _) | (with_reducible assumption) | (with_reducible refine Kept.then_ (by with_reducible assumption) ?_) | (with_reducible refine Kept.thenS (by with_reducible assumption) ?_) | (with_reducible refine Kept.alloc ?_ _) | (with_reducible refine Kept.drew ?_) | (with_reducible refine Kept.drewN ?_ _) | (with_reducible refine Kept.setNew ?_ ?_ _) | ((try simp only [World.size_alloc, World.size_setCell, World.size_drew, size_drewN] at *); (try dsimp only); omega))))) (wpAnyT_with (HS0.out.keep (by (repeat' (first | (with_reducible exact Kept.refl _ _) | (with_reducible assumption) | (with_reducible refine Kept.then_ (by with_reducible assumption) ?_) | (with_reducible refine Kept.thenS (by with_reducible assumption) ?_) | (with_reducible refine Kept.alloc ?_ _) | (with_reducible refine Kept.drew ?_) | (with_reducible refine Kept.drewN ?_ _) | (with_reducible refine Kept.setNew ?_ ?_ _) | ((try simp only [World.size_alloc, World.size_setCell, World.size_drew, size_drewN] at *); (try dsimp only); omega))))) (fun hS1016 => ?_))
                clear hK K
                clear hS
                have hS := hS1016
                clear hS1016
                (try simp only [Act.put, List.setIfInBounds_toArray, List.set_cons_zero, List.set_cons_succ])
                refine wpAnyT_ready (rs := [8, 10]) (by kernel_rfl) (by simp) (AllT.cons (i := 8) (o := _) rfl (fun K hK => ?w1017_8) (AllT.cons (i := 10) (o := _) rfl (fun K hK => ?w1017_10) AllT.nil))
                case w1017_8 =>
                  refine step_app_S encB_k 30 33 i0 _ 24 Try.underlying30 hi hz0 hz1 hz2 rfl (by omega) (by rfl) (.tmp 39) (.tmp 45) (by rfl) w5 w5.heap.size _ ([]) ((ls.map bk).take i) (by rfl) (by first | exact OwnS.drew (OwnS.made _ (by simp) (by simp)) | exact OwnS.drew (OwnS.keep (OwnS.made _ (by simp) (by simp)) ((Kept.refl _ _).alloc _))) _ _ _ HN1.out (by rfl) hc1 (HR1.out.keep (by have := K5.out; (repeat' (first | (with_reducible exact Kept.refl _ _) | (with_reducible assumption) | (with_reducible refine Kept.then_ (by with_reducible assumption) ?_) | (with_reducible refine Kept.thenS (by with_reducible assumption) ?_) | (with_reducible refine Kept.alloc ?_ _) | (with_reducible refine Kept.drew ?_) | (with_reducible refine Kept.drewN ?_ _) | (with_reducible refine Kept.setNew ?_ ?_ _) | ((try simp only [World.size_alloc, World.size_setCell, World.size_drew, size_drewN] at *); (try dsimp only); omega))))) (by (repeat' (first | (with_reducible exact Kept.refl _ _) | (with_reducible assumption) | (with_reducible refine Kept.then_ (by with_reducible assumption) ?_) | (with_reducible refine Kept.thenS (by with_reducible assumption) ?_) | (with_reducible refine Kept.alloc ?_ _) | (with_reducible refine Kept.drew ?_) | (with_reducible refine Kept.drewN ?_ _) | (with_reducible refine Kept.setNew ?_ ?_ _) | ((try simp only [World.size_alloc, World.size_setCell, World.size_drew, size_drewN] at *); (try dsimp only); omega)))) (Nat.le_refl _) (by (try simp only [World.size_alloc, World.size_drew]); omega) (by have := HN1.out; simp only [List.length_nil]; omega) ?_
                  intro A6 n6 c6 w6 hn6 own6 hk6 hkg6 hs6
                  (try (have hx6 : Blk w6 w5.heap.size 33 #[.int .u64 a, .int .u64 n, .int .u64 l] := Blk.keep (Blk.drew (Blk.alloc (Blk.new' _ _ _ (by simp)) _)) hkg6 (by first | (simp [own, Value.ownBlock]; done) | (show _ ∉ own (Value.slice (some ⟨_, 0, none⟩) 0 0); simp [own, Value.ownBlock]))))
                  (try (have hx7 : Blk w6 (w5.heap.size + 1) 33 #[.int .u64 a, .int .u64 n, .int .u64 l] := Blk.keep (Blk.drew (Blk.new' _ _ _ (by simp))) hkg6 (by first | (simp [own, Value.ownBlock]; done) | (show _ ∉ own (Value.slice (some ⟨_, 0, none⟩) 0 0); simp [own, Value.ownBlock]))))
                  refine hK _ _ (fun _ => HS0.out.keep hk6) (wpAnyT_with (HS0.out.keep hk6) (fun hS1018 => ?_))
                  clear hK K
                  clear hS
                  have hS := hS1018
                  clear hS1018
                  (try simp only [Act.put, List.setIfInBounds_toArray, List.set_cons_zero, List.set_cons_succ])
                  refine wpAnyT_ready (rs := [10]) (by kernel_rfl) (by simp) (AllT.cons (i := 10) (o := _) rfl (fun K hK => ?w1019_10) AllT.nil)
                  case w1019_10 =>
                    go_simp
                    refine hK _ _ (fun _ => HS0.out.keep (by (repeat' (first | (with_reducible exact Kept.refl _ _) | (with_reducible assumption) | (with_reducible refine Kept.then_ (by with_reducible assumption) ?_) | (with_reducible refine Kept.thenS (by with_reducible assumption) ?_) | (with_reducible refine Kept.alloc ?_ _) | (with_reducible refine Kept.drew ?_) | (with_reducible refine Kept.drewN ?_ _) | (with_reducible refine Kept.setNew ?_ ?_ _) | ((try simp only [World.size_alloc, World.size_setCell, World.size_drew, size_drewN] at *); (try dsimp only); omega))))) (wpAnyT_with (HS0.out.keep (by (repeat' (first | (with_reducible exact Kept.refl _ _) | (with_reducible assumption) | (with_reducible refine Kept.then_ (by with_reducible assumption) ?_) | (with_reducible refine Kept.thenS (by with_reducible assumption) ?_) | (with_reducible refine Kept.alloc ?_ _) | (with_reducible refine Kept.drew ?_) | (with_reducible refine Kept.drewN ?_ _) | (with_reducible refine Kept.setNew ?_ ?_ _) | ((try simp only [World.size_alloc, World.size_setCell, World.size_drew, size_drewN] at *); (try dsimp only); omega))))) (fun hS1020 => ?_))
                    clear hK K
                    clear hS
                    have hS := hS1020
                    clear hS1020
                    (try simp only [Act.put, List.setIfInBounds_toArray, List.set_cons_zero, List.set_cons_succ])
                    refine wpAnyT_ready (rs := [11]) (by kernel_rfl) (by simp) (AllT.cons (i := 11) (o := _) rfl (fun K hK => ?w1021_11) AllT.nil)
                    case w1021_11 =>
                      refine step_app_S encB_k 30 33 i0 _ 24 Try.underlying30 hi hz0 hz1 hz2 rfl (by omega) (by rfl) (.tmp 46) (.tmp 48) (by rfl) w5 w5.heap.size _ ([] ++ (ls.map bk).take i) ([(a, n, l)]) (by rfl) (by first | exact own6 | exact own6.keep ((Kept.refl _ _).alloc _)) _ _ _ (by rfl) (by rfl) (fun h => by cases h) (by first | exact rowB_one hx6 | exact rowB_one hx7 | exact rowB_one (Blk.new' _ _ _ (by simp))) (by (repeat' (first | (with_reducible exact Kept.refl _ _) | (with_reducible assumption) | (with_reducible refine Kept.then_ (by with_reducible assumption) ?_) | (with_reducible refine Kept.thenS (by with_reducible assumption) ?_) | (with_reducible refine Kept.alloc ?_ _) | (with_reducible refine Kept.drew ?_) | (with_reducible refine Kept.drewN ?_ _) | (with_reducible refine Kept.setNew ?_ ?_ _) | ((try simp only [World.size_alloc, World.size_setCell, World.size_drew, size_drewN] at *); (try dsimp only); omega)))) (Nat.le_refl _) (by have := hk6.size; (try simp only [World.size_alloc, World.size_drew]); omega) (by have := HN1.out; simp only [List.nil_append, List.length_cons, List.length_nil]; omega) ?_
                      intro A7 n7 c7 w7 hn7 own7 hk7 hkg7 hs7
                      refine hK _ _ (fun _ => HS0.out.keep hk7) (wpAnyT_with (HS0.out.keep hk7) (fun hS1022 => ?_))
                      clear hK K
                      clear hS
                      have hS := hS1022
                      clear hS1022
                      (try simp only [Act.put, List.setIfInBounds_toArray, List.set_cons_zero, List.set_cons_succ])
                      refine wpAnyT_ready (rs := [18]) (by kernel_rfl) (by simp) (AllT.cons (i := 18) (o := _) rfl (fun K hK => ?w1023_18) AllT.nil)
                      case w1023_18 =>
                        refine step_app_S encB_k 30 33 i0 _ 24 Try.underlying30 hi hz0 hz1 hz2 rfl (by omega) (by rfl) (.tmp 49) (.tmp 55) (by rfl) w5 w5.heap.size _ ([] ++ (ls.map bk).take i ++ [(a, n, l)]) ((ls.map bk).drop i) (by rfl) own7 _ _ _ HN2.out (by rfl) hc2 (HR2.out.keep (by have := K5.out; (repeat' (first | (with_reducible exact Kept.refl _ _) | (with_reducible assumption) | (with_reducible refine Kept.then_ (by with_reducible assumption) ?_) | (with_reducible refine Kept.thenS (by with_reducible assumption) ?_) | (with_reducible refine Kept.alloc ?_ _) | (with_reducible refine Kept.drew ?_) | (with_reducible refine Kept.drewN ?_ _) | (with_reducible refine Kept.setNew ?_ ?_ _) | ((try simp only [World.size_alloc, World.size_setCell, World.size_drew, size_drewN] at *); (try dsimp only); omega))))) (by (repeat' (first | (with_reducible exact Kept.refl _ _) | (with_reducible assumption) | (with_reducible refine Kept.then_ (by with_reducible assumption) ?_) | (with_reducible refine Kept.thenS (by with_reducible assumption) ?_) | (with_reducible refine Kept.alloc ?_ _) | (with_reducible refine Kept.drew ?_) | (with_reducible refine Kept.drewN ?_ _) | (with_reducible refine Kept.setNew ?_ ?_ _) | ((try simp only [World.size_alloc, World.size_setCell, World.size_drew, size_drewN] at *); (try dsimp only); omega)))) (Nat.le_refl _) (by have := hk7.size; (try simp only [World.size_alloc, World.size_drew]); omega) (by have := HN1.out; have := HN2.out; simp only [List.nil_append, List.length_append, List.length_cons, List.length_nil]; omega) ?_
                        intro A8 n8 c8 w8 hn8 own8 hk8 hkg8 hs8
                        have t0 := (B5.out.keep0 hk8).cell 0
                        have t1 := (B5.out.keep0 hk8).cell 1
                        have tl := (B5.out.keep0 hk8).lt
                        have tf := (B5.out.keep0 hk8).frozen 0
                        have tg := (B5.out.keep0 hk8).frozen 1
                        refine hK _ _ (fun _ => HS0.out.keep hk8) (wpAnyT_with (HS0.out.keep hk8) (fun hS1024 => ?_))
                        clear hK K
                        clear hS
                        have hS := hS1024
                        clear hS1024
                        (try simp only [Act.put, List.setIfInBounds_toArray, List.set_cons_zero, List.set_cons_succ])
                        refine wpAnyT_ready (rs := [19]) (by kernel_rfl) (by simp) (AllT.cons (i := 19) (o := _) rfl (fun K hK => ?_) AllT.nil)
                        go_simp
                        refine hK _ _ (fun h => absurd h (by decide)) ?_
                        clear hK K
                        (try simp only [Act.put, List.setIfInBounds_toArray, List.set_cons_zero, List.set_cons_succ])
                        refine wpAnyT_ready (rs := [20]) (by kernel_rfl) (by simp) (AllT.cons (i := 20) (o := _) rfl (fun K hK => ?_) AllT.nil)
                        go_simp
                        refine hK _ _ (fun h => absurd h (by decide)) ?_
                        clear hK K
                        (try simp only [Act.put, List.setIfInBounds_toArray, List.set_cons_zero, List.set_cons_succ])
                        refine wpAnyT_ready (rs := [21]) (by kernel_rfl) (by simp) (AllT.cons (i := 21) (o := _) rfl (fun K hK => ?_) AllT.nil)
                        go_simp
                        refine hK _ _ (fun h => absurd h (by decide)) ?_
                        clear hK K
                        (try simp only [Act.put, List.setIfInBounds_toArray, List.set_cons_zero, List.set_cons_succ])
                        refine wpAnyT_done (by kernel_rfl) ?_ _
                        have OW := Lib.hid own8
                        have BW := Lib.hid (B5.out.keep0 hk8)
                        have KW := Lib.hid (hk8.then_ K5.out)
                        clear own6 hk6 hkg6 own7 hk7 hkg7 own8 hk8 hkg8
                        (try clear hx6)
                        (try clear hx7)
                        go_wp2_with fail
                        go_meet
                        exact Lib.hid (MidR.of KW.out BW.out (by have := OW.out; simpa [ins, bk, List.map_take, List.map_drop] using this) hs5)
                case w1017_10 =>
                  go_simp
                  refine hK _ _ (fun _ => HS0.out.keep (by (repeat' (first | (with_reducible exact Kept.refl _ _) | (with_reducible assumption) | (with_reducible refine Kept.then_ (by with_reducible assumption) ?_) | (with_reducible refine Kept.thenS (by with_reducible assumption) ?_) | (with_reducible refine Kept.alloc ?_ _) | (with_reducible refine Kept.drew ?_) | (with_reducible refine Kept.drewN ?_ _) | (with_reducible refine Kept.setNew ?_ ?_ _) | ((try simp only [World.size_alloc, World.size_setCell, World.size_drew, size_drewN] at *); (try dsimp only); omega))))) (wpAnyT_with (HS0.out.keep (by (repeat' (first | (with_reducible exact Kept.refl _ _) | (with_reducible assumption) | (with_reducible refine Kept.then_ (by with_reducible assumption) ?_) | (with_reducible refine Kept.thenS (by with_reducible assumption) ?_) | (with_reducible refine Kept.alloc ?_ _) | (with_reducible refine Kept.drew ?_) | (with_reducible refine Kept.drewN ?_ _) | (with_reducible refine Kept.setNew ?_ ?_ _) | ((try simp only [World.size_alloc, World.size_setCell, World.size_drew, size_drewN] at *); (try dsimp only); omega))))) (fun hS1028 => ?_))
                  clear hK K
                  clear hS
                  have hS := hS1028
                  clear hS1028
                  (try simp only [Act.put, List.setIfInBounds_toArray, List.set_cons_zero, List.set_cons_succ])
                  refine wpAnyT_ready (rs := [8]) (by kernel_rfl) (by simp) (AllT.cons (i := 8) (o := _) rfl (fun K hK => ?w1029_8) AllT.nil)
                  case w1029_8 =>
                    refine step_app_S encB_k 30 33 i0 _ 24 Try.underlying30 hi hz0 hz1 hz2 rfl (by omega) (by rfl) (.tmp 39) (.tmp 45) (by rfl) w5 w5.heap.size _ ([]) ((ls.map bk).take i) (by rfl) (by first | exact OwnS.drew (OwnS.made _ (by simp) (by simp)) | exact OwnS.drew (OwnS.keep (OwnS.made _ (by simp) (by simp)) ((Kept.refl _ _).alloc _))) _ _ _ HN1.out (by rfl) hc1 (HR1.out.keep (by have := K5.out; (repeat' (first | (with_reducible exact Kept.refl _ _) | (with_reducible assumption) | (with_reducible refine Kept.then_ (by with_reducible assumption) ?_) | (with_reducible refine Kept.thenS (by with_reducible assumption) ?_) | (with_reducible refine Kept.alloc ?_ _) | (with_reducible refine Kept.drew ?_) | (with_reducible refine Kept.drewN ?_ _) | (with_reducible refine Kept.setNew ?_ ?_ _) | ((try simp only [World.size_alloc, World.size_setCell, World.size_drew, size_drewN] at *); (try dsimp only); omega))))) (by (repeat' (first | (with_reducible exact Kept.refl _ _) | (with_reducible assumption) | (with_reducible refine Kept.then_ (by with_reducible assumption) ?_) | (with_reducible refine Kept.thenS (by with_reducible assumption) ?_) | (with_reducible refine Kept.alloc ?_ _) | (with_reducible refine Kept.drew ?_) | (with_reducible refine Kept.drewN ?_ _) | (with_reducible refine Kept.setNew ?_ ?_ _) | ((try simp only [World.size_alloc, World.size_setCell, World.size_drew, size_drewN] at *); (try dsimp only); omega)))) (Nat.le_refl _) (by (try simp only [World.size_alloc, World.size_drew]); omega) (by have := HN1.out; simp only [List.length_nil]; omega) ?_
                    intro A6 n6 c6 w6 hn6 own6 hk6 hkg6 hs6
                    (try (have hx6 : Blk w6 w5.heap.size 33 #[.int .u64 a, .int .u64 n, .int .u64 l] := Blk.keep (Blk.drew (Blk.alloc (Blk.new' _ _ _ (by simp)) _)) hkg6 (by first | (simp [own, Value.ownBlock]; done) | (show _ ∉ own (Value.slice (some ⟨_, 0, none⟩) 0 0); simp [own, Value.ownBlock]))))
                    (try (have hx7 : Blk w6 (w5.heap.size + 1) 33 #[.int .u64 a, .int .u64 n, .int .u64 l] := Blk.keep (Blk.drew (Blk.new' _ _ _ (by simp))) hkg6 (by first | (simp [own, Value.ownBlock]; done) | (show _ ∉ own (Value.slice (some ⟨_, 0, none⟩) 0 0); simp [own, Value.ownBlock]))))
                    refine hK _ _ (fun _ => HS0.out.keep hk6) (wpAnyT_with (HS0.out.keep hk6) (fun hS1030 => ?_))
                    clear hK K
                    clear hS
                    have hS := hS1030
                    clear hS1030
                    (try simp only [Act.put, List.setIfInBounds_toArray, List.set_cons_zero, List.set_cons_succ])
                    refine wpAnyT_ready (rs := [11]) (by kernel_rfl) (by simp) (AllT.cons (i := 11) (o := _) rfl (fun K hK => ?w1031_11) AllT.nil)
                    case w1031_11 =>
                      refine step_app_S encB_k 30 33 i0 _ 24 Try.underlying30 hi hz0 hz1 hz2 rfl (by omega) (by rfl) (.tmp 46) (.tmp 48) (by rfl) w5 w5.heap.size _ ([] ++ (ls.map bk).take i) ([(a, n, l)]) (by rfl) (by first | exact own6 | exact own6.keep ((Kept.refl _ _).alloc _)) _ _ _ (by rfl) (by rfl) (fun h => by cases h) (by first | exact rowB_one hx6 | exact rowB_one hx7 | exact rowB_one (Blk.new' _ _ _ (by simp))) (by (repeat' (first | (with_reducible exact Kept.refl _ _) | (with_reducible assumption) | (with_reducible refine Kept.then_ (by with_reducible assumption) ?_) | (with_reducible refine Kept.thenS (by with_reducible assumption) ?_) | (with_reducible refine Kept.alloc ?_ _) | (with_reducible refine Kept.drew ?_) | (with_reducible refine Kept.drewN ?_ _) | (with_reducible refine Kept.setNew ?_ ?_ _) | ((try simp only [World.size_alloc, World.size_setCell, World.size_drew, size_drewN] at *); (try dsimp only); omega)))) (Nat.le_refl _) (by have := hk6.size; (try simp only [World.size_alloc, World.size_drew]); omega) (by have := HN1.out; simp only [List.nil_append, List.length_cons, List.length_nil]; omega) ?_
                      intro A7 n7 c7 w7 hn7 own7 hk7 hkg7 hs7
                      refine hK _ _ (fun _ => HS0.out.keep hk7) (wpAnyT_with (HS0.out.keep hk7) (fun hS1032 => ?_))
                      clear hK K
                      clear hS
                      have hS := hS1032
                      clear hS1032
                      (try simp only [Act.put, List.setIfInBounds_toArray, List.set_cons_zero, List.set_cons_succ])
                      refine wpAnyT_ready (rs := [18]) (by kernel_rfl) (by simp) (AllT.cons (i := 18) (o := _) rfl (fun K hK => ?w1033_18) AllT.nil)
                      case w1033_18 =>
                        refine step_app_S encB_k 30 33 i0 _ 24 Try.underlying30 hi hz0 hz1 hz2 rfl (by omega) (by rfl) (.tmp 49) (.tmp 55) (by rfl) w5 w5.heap.size _ ([] ++ (ls.map bk).take i ++ [(a, n, l)]) ((ls.map bk).drop i) (by rfl) own7 _ _ _ HN2.out (by rfl) hc2 (HR2.out.keep (by have := K5.out; (repeat' (first | (with_reducible exact Kept.refl _ _) | (with_reducible assumption) | (with_reducible refine Kept.then_ (by with_reducible assumption) ?_) | (with_reducible refine Kept.thenS (by with_reducible assumption) ?_) | (with_reducible refine Kept.alloc ?_ _) | (with_reducible refine Kept.drew ?_) | (with_reducible refine Kept.drewN ?_ _) | (with_reducible refine Kept.setNew ?_ ?_ _) | ((try simp only [World.size_alloc, World.size_setCell, World.size_drew, size_drewN] at *); (try dsimp only); omega))))) (by (repeat' (first | (with_reducible exact Kept.refl _ _) | (with_reducible assumption) | (with_reducible refine Kept.then_ (by with_reducible assumption) ?_) | (with_reducible refine Kept.thenS (by with_reducible assumption) ?_) | (with_reducible refine Kept.alloc ?_ _) | (with_reducible refine Kept.drew ?_) | (with_reducible refine Kept.drewN ?_ _) | (with_reducible refine Kept.setNew ?_ ?_ _) | ((try simp only [World.size_alloc, World.size_setCell, World.size_drew, size_drewN] at *); (try dsimp only); omega)))) (Nat.le_refl _) (by have := hk7.size; (try simp only [World.size_alloc, World.size_drew]); omega) (by have := HN1.out; have := HN2.out; simp only [List.nil_append, List.length_append, List.length_cons, List.length_nil]; omega) ?_
                        intro A8 n8 c8 w8 hn8 own8 hk8 hkg8 hs8
                        have t0 := (B5.out.keep0 hk8).cell 0
                        have t1 := (B5.out.keep0 hk8).cell 1
                        have tl := (B5.out.keep0 hk8).lt
                        have tf := (B5.out.keep0 hk8).frozen 0
                        have tg := (B5.out.keep0 hk8).frozen 1
                        refine hK _ _ (fun _ => HS0.out.keep hk8) (wpAnyT_with (HS0.out.keep hk8) (fun hS1034 => ?_))
                        clear hK K
                        clear hS
                        have hS := hS1034
                        clear hS1034
                        (try simp only [Act.put, List.setIfInBounds_toArray, List.set_cons_zero, List.set_cons_succ])
                        refine wpAnyT_ready (rs := [19]) (by kernel_rfl) (by simp) (AllT.cons (i := 19) (o := _) rfl (fun K hK => ?_) AllT.nil)
                        go_simp
                        refine hK _ _ (fun h => absurd h (by decide)) ?_
                        clear hK K
                        (try simp only [Act.put, List.setIfInBounds_toArray, List.set_cons_zero, List.set_cons_succ])
                        refine wpAnyT_ready (rs := [20]) (by kernel_rfl) (by simp) (AllT.cons (i := 20) (o := _) rfl (fun K hK => ?_) AllT.nil)
                        go_simp
                        refine hK _ _ (fun h => absurd h (by decide)) ?_
                        clear hK K
                        (try simp only [Act.put, List.setIfInBounds_toArray, List.set_cons_zero, List.set_cons_succ])
                        refine wpAnyT_ready (rs := [21]) (by kernel_rfl) (by simp) (AllT.cons (i := 21) (o := _) rfl (fun K hK => ?_) AllT.nil)
                        go_simp
                        refine hK _ _ (fun h => absurd h (by decide)) ?_
                        clear hK K
                        (try simp only [Act.put, List.setIfInBounds_toArray, List.set_cons_zero, List.set_cons_succ])
                        refine wpAnyT_done (by kernel_rfl) ?_ _
                        have OW := Lib.hid own8
                        have BW := Lib.hid (B5.out.keep0 hk8)
                        have KW := Lib.hid (hk8.then_ K5.out)
                        clear own6 hk6 hkg6 own7 hk7 hkg7 own8 hk8 hkg8
                        (try clear hx6)
                        (try clear hx7)
                        go_wp2_with fail
                        go_meet
                        exact Lib.hid (MidR.of KW.out BW.out (by have := OW.out; simpa [ins, bk, List.map_take, List.map_drop] using this) hs5)
              case w1015_10 =>
                go_simp
                refine hK _ _ (fun _ => HS0.out.keep (by (repeat' (first | (with_reducible exact Kept.refl _ _) | (with_reducible assumption) | (with_reducible refine Kept.then_ (by with_reducible assumption) ?_) | (with_reducible refine Kept.thenS (by with_reducible assumption) ?_) | (with_reducible refine Kept.alloc ?_ _) | (with_reducible refine Kept.drew ?_) | (with_reducible refine Kept.drewN ?_ _) | (with_reducible refine Kept.setNew ?_ ?_ _) | ((try simp only [World.size_alloc, World.size_setCell, World.size_drew, size_drewN] at *); (try dsimp only); omega))))) (wpAnyT_with (HS0.out.keep (by (repeat' (first | (with_reducible exact Kept.refl _ _) | (with_reducible assumption) | (with_reducible refine Kept.then_ (by with_reducible assumption) ?_) | (with_reducible refine Kept.thenS (by with_reducible assumption) ?_) | (with_reducible refine Kept.alloc ?_ _) | (with_reducible refine Kept.drew ?_) | (with_reducible refine Kept.drewN ?_ _) | (with_reducible refine Kept.setNew ?_ ?_ _) | ((try simp only [World.size_alloc, World.size_setCell, World.size_drew, size_drewN] at *); (try dsimp only); omega))))) (fun hS1038 => ?_))
                clear hK K
                clear hS
                have hS := hS1038
                clear hS1038
                (try simp only [Act.put, List.setIfInBounds_toArray, List.set_cons_zero, List.set_cons_succ])
                refine wpAnyT_ready (rs := [1]) (by kernel_rfl) (by simp) (AllT.cons (i := 1) (o := _) rfl (fun K hK => ?w1039_1) AllT.nil)
                case w1039_1 =>
                  go_simp
                  refine hK _ _ (fun _ => HS0.out.keep (by (repeat' (first | (with_reducible exact Kept.refl _ _) | (with_reducible assumption) | (with_reducible refine Kept.then_ (by with_reducible assumption) ?_) | (with_reducible refine Kept.thenS (by with_reducible assumption) ?_) | (with_reducible refine Kept.alloc ?_ _) | (with_reducible refine Kept.drew ?_) | (with_reducible refine Kept.drewN ?_ _) | (with_reducible refine Kept.setNew ?_ ?_ _) | ((try simp only [World.size_alloc, World.size_setCell, World.size_drew, size_drewN] at *); (try dsimp only); omega))))) (wpAnyT_with (HS0.out.keep (by (repeat' (first | (with_reducible exact Kept.refl _ _) | (with_reducible assumption) | (with_reducible refine Kept.then_ (by with_reducible assumption) ?_) | (with_reducible refine Kept.thenS (by with_reducible assumption) ?_) | (with_reducible refine Kept.alloc ?_ _) | (with_reducible refine Kept.drew ?_) | (with_reducible refine Kept.drewN ?_ _) | (with_reducible refine Kept.setNew ?_ ?_ _) | ((try simp only [World.size_alloc, World.size_setCell, World.size_drew, size_drewN] at *); (try dsimp only); omega))))) (fun hS1040 => ?_))
                  clear hK K
                  clear hS
                  have hS := hS1040
                  clear hS1040
                  (try simp only [Act.put, List.setIfInBounds_toArray, List.set_cons_zero, List.set_cons_succ])
                  refine wpAnyT_ready (rs := [8]) (by kernel_rfl) (by simp) (AllT.cons (i := 8) (o := _) rfl (fun K hK => ?w1041_8) AllT.nil)
                  case w1041_8 =>
                    refine step_app_S encB_k 30 33 i0 _ 24 Try.underlying30 hi hz0 hz1 hz2 rfl (by omega) (by rfl) (.tmp 39) (.tmp 45) (by rfl) w5 w5.heap.size _ ([]) ((ls.map bk).take i) (by rfl) (by first | exact OwnS.drew (OwnS.made _ (by simp) (by simp)) | exact OwnS.drew (OwnS.keep (OwnS.made _ (by simp) (by simp)) ((Kept.refl _ _).alloc _))) _ _ _ HN1.out (by rfl) hc1 (HR1.out.keep (by have := K5.out; (repeat' (first | (with_reducible exact Kept.refl _ _) | (with_reducible assumption) | (with_reducible refine Kept.then_ (by with_reducible assumption) ?_) | (with_reducible refine Kept.thenS (by with_reducible assumption) ?_) | (with_reducible refine Kept.alloc ?_ _) | (with_reducible refine Kept.drew ?_) | (with_reducible refine Kept.drewN ?_ _) | (with_reducible refine Kept.setNew ?_ ?_ _) | ((try simp only [World.size_alloc, World.size_setCell, World.size_drew, size_drewN] at *); (try dsimp only); omega))))) (by (repeat' (first | (with_reducible exact Kept.refl _ _) | (with_reducible assumption) | (with_reducible refine Kept.then_ (by with_reducible assumption) ?_) | (with_reducible refine Kept.thenS (by with_reducible assumption) ?_) | (with_reducible refine Kept.alloc ?_ _) | (with_reducible refine Kept.drew ?_) | (with_reducible refine Kept.drewN ?_ _) | (with_reducible refine Kept.setNew ?_ ?_ _) | ((try simp only [World.size_alloc, World.size_setCell, World.size_drew, size_drewN] at *); (try dsimp only); omega)))) (Nat.le_refl _) (by (try simp only [World.size_alloc, World.size_drew]); omega) (by have := HN1.out; simp only [List.length_nil]; omega) ?_
                    intro A6 n6 c6 w6 hn6 own6 hk6 hkg6 hs6
                    (try (have hx6 : Blk w6 w5.heap.size 33 #[.int .u64 a, .int .u64 n, .int .u64 l] := Blk.keep (Blk.drew (Blk.alloc (Blk.new' _ _ _ (by simp)) _)) hkg6 (by first | (simp [own, Value.ownBlock]; done) | (show _ ∉ own (Value.slice (some ⟨_, 0, none⟩) 0 0); simp [own, Value.ownBlock]))))
                    (try (have hx7 : Blk w6 (w5.heap.size + 1) 33 #[.int .u64 a, .int .u64 n, .int .u64 l] := Blk.keep (Blk.drew (Blk.new' _ _ _ (by simp))) hkg6 (by first | (simp [own, Value.ownBlock]; done) | (show _ ∉ own (Value.slice (some ⟨_, 0, none⟩) 0 0); simp [own, Value.ownBlock]))))
                    refine hK _ _ (fun _ => HS0.out.keep hk6) (wpAnyT_with (HS0.out.keep hk6) (fun hS1042 => ?_))
                    clear hK K
                    clear hS
                    have hS := hS1042
                    clear hS1042
                    (try simp only [Act.put, List.setIfInBounds_toArray, List.set_cons_zero, List.set_cons_succ])
                    refine wpAnyT_ready (rs := [11]) (by kernel_rfl) (by simp) (AllT.cons (i := 11) (o := _) rfl (fun K hK => ?w1043_11) AllT.nil)
                    case w1043_11 =>
                      refine step_app_S encB_k 30 33 i0 _ 24 Try.underlying30 hi hz0 hz1 hz2 rfl (by omega) (by rfl) (.tmp 46) (.tmp 48) (by rfl) w5 w5.heap.size _ ([] ++ (ls.map bk).take i) ([(a, n, l)]) (by rfl) (by first | exact own6 | exact own6.keep ((Kept.refl _ _).alloc _)) _ _ _ (by rfl) (by rfl) (fun h => by cases h) (by first | exact rowB_one hx6 | exact rowB_one hx7 | exact rowB_one (Blk.new' _ _ _ (by simp))) (by (repeat' (first | (with_reducible exact Kept.refl _ _) | (with_reducible assumption) | (with_reducible refine Kept.then_ (by with_reducible assumption) ?_) | (with_reducible refine Kept.thenS (by with_reducible assumption) ?_) | (with_reducible refine Kept.alloc ?_ _) | (with_reducible refine Kept.drew ?_) | (with_reducible refine Kept.drewN ?_ _) | (with_reducible refine Kept.setNew ?_ ?_ _) | ((try simp only [World.size_alloc, World.size_setCell, World.size_drew, size_drewN] at *); (try dsimp only); omega)))) (Nat.le_refl _) (by have := hk6.size; (try simp only [World.size_alloc, World.size_drew]); omega) (by have := HN1.out; simp only [List.nil_append, List.length_cons, List.length_nil]; omega) ?_
                      intro A7 n7 c7 w7 hn7 own7 hk7 hkg7 hs7
                      refine hK _ _ (fun _ => HS0.out.keep hk7) (wpAnyT_with (HS0.out.keep hk7) (fun hS1044 => ?_))
                      clear hK K
                      clear hS
                      have hS := hS1044
                      clear hS1044
                      (try simp only [Act.put, List.setIfInBounds_toArray, List.set_cons_zero, List.set_cons_succ])
                      refine wpAnyT_ready (rs := [18]) (by kernel_rfl) (by simp) (AllT.cons (i := 18) (o := _) rfl (fun K hK => ?w1045_18) AllT.nil)
                      case w1045_18 =>
                        refine step_app_S encB_k 30 33 i0 _ 24 Try.underlying30 hi hz0 hz1 hz2 rfl (by omega) (by rfl) (.tmp 49) (.tmp 55) (by rfl) w5 w5.heap.size _ ([] ++ (ls.map bk).take i ++ [(a, n, l)]) ((ls.map bk).drop i) (by rfl) own7 _ _ _ HN2.out (by rfl) hc2 (HR2.out.keep (by have := K5.out; (repeat' (first | (with_reducible exact Kept.refl _ _) | (with_reducible assumption) | (with_reducible refine Kept.then_ (by with_reducible assumption) ?_) | (with_reducible refine Kept.thenS (by with_reducible assumption) ?_) | (with_reducible refine Kept.alloc ?_ _) | (with_reducible refine Kept.drew ?_) | (with_reducible refine Kept.drewN ?_ _) | (with_reducible refine Kept.setNew ?_ ?_ _) | ((try simp only [World.size_alloc, World.size_setCell, World.size_drew, size_drewN] at *); (try dsimp only); omega))))) (by (repeat' (first | (with_reducible exact Kept.refl _ _) | (with_reducible assumption) | (with_reducible refine Kept.then_ (by with_reducible assumption) ?_) | (with_reducible refine Kept.thenS (by with_reducible assumption) ?_) | (with_reducible refine Kept.alloc ?_ _) | (with_reducible refine Kept.drew ?_) | (with_reducible refine Kept.drewN ?_ _) | (with_reducible refine Kept.setNew ?_ ?_ _) | ((try simp only [World.size_alloc, World.size_setCell, World.size_drew, size_drewN] at *); (try dsimp only); omega)))) (Nat.le_refl _) (by have := hk7.size; (try simp only [World.size_alloc, World.size_drew]); omega) (by have := HN1.out; have := HN2.out; simp only [List.nil_append, List.length_append, List.length_cons, List.length_nil]; omega) ?_
                        intro A8 n8 c8 w8 hn8 own8 hk8 hkg8 hs8
                        have t0 := (B5.out.keep0 hk8).cell 0
                        have t1 := (B5.out.keep0 hk8).cell 1
                        have tl := (B5.out.keep0 hk8).lt
                        have tf := (B5.out.keep0 hk8).frozen 0
                        have tg := (B5.out.keep0 hk8).frozen 1
                        refine hK _ _ (fun _ => HS0.out.keep hk8) (wpAnyT_with (HS0.out.keep hk8) (fun hS1046 => ?_))
                        clear hK K
                        clear hS
                        have hS := hS1046
                        clear hS1046
                        (try simp only [Act.put, List.setIfInBounds_toArray, List.set_cons_zero, List.set_cons_succ])
                        refine wpAnyT_ready (rs := [19]) (by kernel_rfl) (by simp) (AllT.cons (i := 19) (o := _) rfl (fun K hK => ?_) AllT.nil)
                        go_simp
                        refine hK _ _ (fun h => absurd h (by decide)) ?_
                        clear hK K
                        (try simp only [Act.put, List.setIfInBounds_toArray, List.set_cons_zero, List.set_cons_succ])
                        refine wpAnyT_ready (rs := [20]) (by kernel_rfl) (by simp) (AllT.cons (i := 20) (o := _) rfl (fun K hK => ?_) AllT.nil)
                        go_simp
                        refine hK _ _ (fun h => absurd h (by decide)) ?_
                        clear hK K
                        (try simp only [Act.put, List.setIfInBounds_toArray, List.set_cons_zero, List.set_cons_succ])
                        refine wpAnyT_ready (rs := [21]) (by kernel_rfl) (by simp) (AllT.cons (i := 21) (o := _) rfl (fun K hK => ?_) AllT.nil)
                        go_simp
                        refine hK _ _ (fun h => absurd h (by decide)) ?_
                        clear hK K
                        (try simp only [Act.put, List.setIfInBounds_toArray, List.set_cons_zero, List.set_cons_succ])
                        refine wpAnyT_done (by kernel_rfl) ?_ _
                        have OW := Lib.hid own8
                        have BW := Lib.hid (B5.out.keep0 hk8)
                        have KW := Lib.hid (hk8.then_ K5.out)
                        clear own6 hk6 hkg6 own7 hk7 hkg7 own8 hk8 hkg8
                        (try clear hx6)
                        (try clear hx7)
                        go_wp2_with fail
                        go_meet
                        exact Lib.hid (MidR.of KW.out BW.out (by have := OW.out; simpa [ins, bk, List.map_take, List.map_drop] using this) hs5)
            case rest =>
              obtain ⟨v6, hb6, ho6, hk6⟩ := hcut.out
              have hu6 := HU.out.keepS hk6 (fun s hs => .inl (by simp at hs; omega))
              obtain ⟨⟨hr3, hc3, rn3⟩, A4, c4, hr4, hc4, rn4⟩ := own_cuts encH_k 51 4 Try.underlying51 (fun w => by simp [go_sem]) hu6 i (by simp; omega)
              have HN3 : Hid (i = ((ls.map hd).take i).length) := Lib.hid (by simp; omega)
              have HN4 : Hid (ls.length - i = ((ls.map hd).drop i).length) := Lib.hid (by simp)
              have HR3 := Lib.hid hr3
              have HR4 := Lib.hid hr4
              have B6 := Lib.hid hb6
              have O6 := Lib.hid ho6
              have K6 := Lib.hid hk6
              have p0 := hb6.cell 0
              have p1 := hb6.cell 1
              have pl := hb6.lt
              have pf := hb6.frozen 1
              clear hcut hb6 ho6 hk6 hu6 hr3 hr4
              go_wp2_with fail
              have HS0 : Hid (SAdd1 m 1 (.slice A' ls.length c') wc) := Lib.hid ⟨p1, pl⟩
              refine wp_region_T (SAdd1 m 1 (.slice A' ls.length c')) 18 (by kernel_rfl) ?_
              have hS : (SAdd1 m 1 (.slice A' ls.length c')) _ := HS0.out.keep ((Kept.refl [] wc).drew)
              refine wpAnyT_take (i := 0) (oi := _) (v := ?v2001) rfl (by kernel_rfl) (by kernel_rfl) (by kernel_rfl) (by kernel_rfl) (by kernel_rfl) (by kernel_rfl) (by kernel_rfl) (fun _ _ _ h => h) (Or.inl ⟨by rfl, ?hy2001⟩) hS ?rest2001
              case hy2001 => (intro w' hSw; obtain ⟨s0, s1⟩ := hSw; go_simp; first | done | with_reducible rfl | rfl)
              (try simp only [Act.put, List.setIfInBounds_toArray, List.set_cons_zero, List.set_cons_succ])
              refine wpAnyT_take (i := 2) (oi := _) (v := ?v2002) rfl (by kernel_rfl) (by kernel_rfl) (by kernel_rfl) (by kernel_rfl) (by kernel_rfl) (by kernel_rfl) (by kernel_rfl) (fun _ _ _ h => h) (Or.inl ⟨by rfl, ?hy2002⟩) hS ?rest2002
              case hy2002 => (intro w' hSw; obtain ⟨s0, s1⟩ := hSw; go_simp; first | done | with_reducible rfl | rfl)
              (try simp only [Act.put, List.setIfInBounds_toArray, List.set_cons_zero, List.set_cons_succ])
              refine wpAnyT_take (i := 3) (oi := _) (v := ?v2003) rfl (by kernel_rfl) (by kernel_rfl) (by kernel_rfl) (by kernel_rfl) (by kernel_rfl) (by kernel_rfl) (by kernel_rfl) (fun _ _ _ h => h) (Or.inl ⟨by rfl, ?hy2003⟩) hS ?rest2003
              case hy2003 => (intro w' hSw; obtain ⟨s0, s1⟩ := hSw; go_simp; first | done | with_reducible rfl | rfl)
              (try simp only [Act.put, List.setIfInBounds_toArray, List.set_cons_zero, List.set_cons_succ])
              refine wpAnyT_take (i := 4) (oi := _) (v := ?v2004) rfl (by kernel_rfl) (by kernel_rfl) (by kernel_rfl) (by kernel_rfl) (by kernel_rfl) (by kernel_rfl) (by kernel_rfl) (fun _ _ _ h => h) (Or.inl ⟨by rfl, ?hy2004⟩) hS ?rest2004
              case hy2004 => (intro w' hSw; obtain ⟨s0, s1⟩ := hSw; go_simp; first | done | with_reducible rfl | rfl)
              (try simp only [Act.put, List.setIfInBounds_toArray, List.set_cons_zero, List.set_cons_succ])
              refine wpAnyT_take (i := 5) (oi := _) (v := ?v2005) rfl (by kernel_rfl) (by kernel_rfl) (by kernel_rfl) (by kernel_rfl) (by kernel_rfl) (by kernel_rfl) (by kernel_rfl) (fun _ _ _ h => h) (Or.inl ⟨by rfl, ?hy2005⟩) hS ?rest2005
              case hy2005 => (intro w' hSw; obtain ⟨s0, s1⟩ := hSw; go_simp; first | done | with_reducible rfl | rfl)
              (try simp only [Act.put, List.setIfInBounds_toArray, List.set_cons_zero, List.set_cons_succ])
              refine wpAnyT_take (i := 6) (oi := _) (v := ?v2006) rfl (by kernel_rfl) (by kernel_rfl) (by kernel_rfl) (by kernel_rfl) (by kernel_rfl) (by kernel_rfl) (by kernel_rfl) (fun _ _ _ h => h) (Or.inl ⟨by rfl, ?hy2006⟩) hS ?rest2006
              case hy2006 => (intro w' hSw; obtain ⟨s0, s1⟩ := hSw; go_simp; first | done | with_reducible rfl | rfl)
              (try simp only [Act.put, List.setIfInBounds_toArray, List.set_cons_zero, List.set_cons_succ])
              refine wpAnyT_take (i := 7) (oi := _) (v := ?v2007) rfl (by kernel_rfl) (by kernel_rfl) (by kernel_rfl) (by kernel_rfl) (by kernel_rfl) (by kernel_rfl) (by kernel_rfl) (fun _ _ _ h => h) (Or.inl ⟨by rfl, ?hy2007⟩) hS ?rest2007
              case hy2007 => (intro w' hSw; obtain ⟨s0, s1⟩ := hSw; go_simp; first | done | with_reducible rfl | rfl)
              (try simp only [Act.put, List.setIfInBounds_toArray, List.set_cons_zero, List.set_cons_succ])
              refine wpAnyT_take (i := 11) (oi := _) (v := ?v2008) rfl (by kernel_rfl) (by kernel_rfl) (by kernel_rfl) (by kernel_rfl) (by kernel_rfl) (by kernel_rfl) (by kernel_rfl) (fun _ _ _ h => h) (Or.inl ⟨by rfl, ?hy2008⟩) hS ?rest2008
              case hy2008 => (intro w' hSw; obtain ⟨s0, s1⟩ := hSw; go_simp; first | done | with_reducible rfl | rfl)
              (try simp only [Act.put, List.setIfInBounds_toArray, List.set_cons_zero, List.set_cons_succ])
              refine wpAnyT_take (i := 12) (oi := _) (v := ?v2009) rfl (by kernel_rfl) (by kernel_rfl) (by kernel_rfl) (by kernel_rfl) (by kernel_rfl) (by kernel_rfl) (by kernel_rfl) (fun _ _ _ h => h) (Or.inl ⟨by rfl, ?hy2009⟩) hS ?rest2009
              case hy2009 => (intro w' hSw; obtain ⟨s0, s1⟩ := hSw; go_simp; first | done | with_reducible rfl | rfl)
              (try simp only [Act.put, List.setIfInBounds_toArray, List.set_cons_zero, List.set_cons_succ])
              refine wpAnyT_take (i := 13) (oi := _) (v := ?v2010) rfl (by kernel_rfl) (by kernel_rfl) (by kernel_rfl) (by kernel_rfl) (by kernel_rfl) (by kernel_rfl) (by kernel_rfl) (fun _ _ _ h => h) (Or.inl ⟨by rfl, ?hy2010⟩) hS ?rest2010
              case hy2010 => (intro w' hSw; obtain ⟨s0, s1⟩ := hSw; go_simp; first | done | with_reducible rfl | rfl)
              (try simp only [Act.put, List.setIfInBounds_toArray, List.set_cons_zero, List.set_cons_succ])
              refine wpAnyT_take (i := 14) (oi := _) (v := ?v2011) rfl (by kernel_rfl) (by kernel_rfl) (by kernel_rfl) (by kernel_rfl) (by kernel_rfl) (by kernel_rfl) (by kernel_rfl) (fun _ _ _ h => h) (Or.inl ⟨by rfl, ?hy2011⟩) hS ?rest2011
              case hy2011 => (intro w' hSw; obtain ⟨s0, s1⟩ := hSw; go_simp; first | done | with_reducible rfl | rfl)
              (try simp only [Act.put, List.setIfInBounds_toArray, List.set_cons_zero, List.set_cons_succ])
              refine wpAnyT_take (i := 15) (oi := _) (v := ?v2012) rfl (by kernel_rfl) (by kernel_rfl) (by kernel_rfl) (by kernel_rfl) (by kernel_rfl) (by kernel_rfl) (by kernel_rfl) (fun _ _ _ h => h) (Or.inl ⟨by rfl, ?hy2012⟩) hS ?rest2012
              case hy2012 => (intro w' hSw; obtain ⟨s0, s1⟩ := hSw; go_simp; first | done | with_reducible rfl | rfl)
              (try simp only [Act.put, List.setIfInBounds_toArray, List.set_cons_zero, List.set_cons_succ])
              refine wpAnyT_take (i := 16) (oi := _) (v := ?v2013) rfl (by kernel_rfl) (by kernel_rfl) (by kernel_rfl) (by kernel_rfl) (by kernel_rfl) (by kernel_rfl) (by kernel_rfl) (fun _ _ _ h => h) (Or.inl ⟨by rfl, ?hy2013⟩) hS ?rest2013
              case hy2013 => (intro w' hSw; obtain ⟨s0, s1⟩ := hSw; go_simp; first | done | with_reducible rfl | rfl)
              (try simp only [Act.put, List.setIfInBounds_toArray, List.set_cons_zero, List.set_cons_succ])
              refine wpAnyT_ready (rs := [1, 9]) (by kernel_rfl) (by simp) (AllT.cons (i := 1) (o := _) rfl (fun K hK => ?w2014_1) (AllT.cons (i := 9) (o := _) rfl (fun K hK => ?w2014_9) AllT.nil))
              case w2014_1 =>
                go_simp
                refine hK _ _ (fun _ => HS0.out.keep (by (repeat' (first | (with_reducible exact Kept.refl _ _) | (with_reducible assumption) | (with_reducible refine Kept.then_ (by with_reducible assumption) ?_) | (with_reducible refine Kept.thenS (by with_reducible assumption) ?_) | (with_reducible refine Kept.alloc ?_ _) | (with_reducible refine Kept.drew ?_) | (with_reducible refine Kept.drewN ?_ _) | (with_reducible refine Kept.setNew ?_ ?_ _) | ((try simp only [World.size_alloc, World.size_setCell, World.size_drew, size_drewN] at *); (try dsimp only); omega))))) (wpAnyT_with (HS0.out.keep (by (repeat' (first | (with_reducible exact Kept.refl _ _) | (with_reducible assumption) | (with_reducible refine Kept.then_ (by with_reducible assumption) ?_) | (with_reducible refine Kept.thenS (by with_reducible assumption) ?_) | (with_reducible refine Kept.alloc ?_ _) | (with_reducible refine Kept.drew ?_) | (with_reducible refine Kept.drewN ?_ _) | (with_reducible refine Kept.setNew ?_ ?_ _) | ((try simp only [World.size_alloc, World.size_setCell, World.size_drew, size_drewN] at *); (try dsimp only); omega))))) (fun hS2015 => ?_))
                clear hK K
                clear hS
                have hS := hS2015
                clear hS2015
                (try simp only [Act.put, List.setIfInBounds_toArray, List.set_cons_zero, List.set_cons_succ])
                refine wpAnyT_ready (rs := [8, 9]) (by kernel_rfl) (by simp) (AllT.cons (i := 8) (o := _) rfl (fun K hK => ?w2016_8) (AllT.cons (i := 9) (o := _) rfl (fun K hK => ?w2016_9) AllT.nil))
                case w2016_8 =>
                  refine step_app_S encH_k 51 4 j0 _ 1 Try.underlying51 hj0 hy0 hy1 hy2 rfl (by omega) (by rfl) (.tmp 60) (.tmp 66) (by rfl) wc wc.heap.size _ ([]) ((ls.map hd).take i) (by rfl) (by first | exact OwnS.drew (OwnS.made _ (by simp) (by simp)) | exact OwnS.drew (OwnS.keep (OwnS.made _ (by simp) (by simp)) ((Kept.refl _ _).alloc _))) _ _ _ HN3.out (by rfl) hc3 (HR3.out.keep (by (repeat' (first | (with_reducible exact Kept.refl _ _) | (with_reducible assumption) | (with_reducible refine Kept.then_ (by with_reducible assumption) ?_) | (with_reducible refine Kept.thenS (by with_reducible assumption) ?_) | (with_reducible refine Kept.alloc ?_ _) | (with_reducible refine Kept.drew ?_) | (with_reducible refine Kept.drewN ?_ _) | (with_reducible refine Kept.setNew ?_ ?_ _) | ((try simp only [World.size_alloc, World.size_setCell, World.size_drew, size_drewN] at *); (try dsimp only); omega))))) (by (repeat' (first | (with_reducible exact Kept.refl _ _) | (with_reducible assumption) | (with_reducible refine Kept.then_ (by with_reducible assumption) ?_) | (with_reducible refine Kept.thenS (by with_reducible assumption) ?_) | (with_reducible refine Kept.alloc ?_ _) | (with_reducible refine Kept.drew ?_) | (with_reducible refine Kept.drewN ?_ _) | (with_reducible refine Kept.setNew ?_ ?_ _) | ((try simp only [World.size_alloc, World.size_setCell, World.size_drew, size_drewN] at *); (try dsimp only); omega)))) (Nat.le_refl _) (by (try simp only [World.size_alloc, World.size_drew]); omega) (by have := HN3.out; simp only [List.length_nil]; omega) ?_
                  intro A6 n6 c6 w6 hn6 own6 hk6 hkg6 hs6
                  (try (have hx6 : Blk w6 wc.heap.size 4 #[.bool false] := Blk.keep (Blk.drew (Blk.alloc (Blk.new' _ _ _ (by simp)) _)) hkg6 (by first | (simp [own, Value.ownBlock]; done) | (show _ ∉ own (Value.slice (some ⟨_, 0, none⟩) 0 0); simp [own, Value.ownBlock]))))
                  (try (have hx7 : Blk w6 (wc.heap.size + 1) 4 #[.bool false] := Blk.keep (Blk.drew (Blk.new' _ _ _ (by simp))) hkg6 (by first | (simp [own, Value.ownBlock]; done) | (show _ ∉ own (Value.slice (some ⟨_, 0, none⟩) 0 0); simp [own, Value.ownBlock]))))
                  refine hK _ _ (fun _ => HS0.out.keep hk6) (wpAnyT_with (HS0.out.keep hk6) (fun hS2017 => ?_))
                  clear hK K
                  clear hS
                  have hS := hS2017
                  clear hS2017
                  (try simp only [Act.put, List.setIfInBounds_toArray, List.set_cons_zero, List.set_cons_succ])
                  refine wpAnyT_ready (rs := [9]) (by kernel_rfl) (by simp) (AllT.cons (i := 9) (o := _) rfl (fun K hK => ?w2018_9) AllT.nil)
                  case w2018_9 =>
                    go_simp
                    refine hK _ _ (fun _ => HS0.out.keep (by (repeat' (first | (with_reducible exact Kept.refl _ _) | (with_reducible assumption) | (with_reducible refine Kept.then_ (by with_reducible assumption) ?_) | (with_reducible refine Kept.thenS (by with_reducible assumption) ?_) | (with_reducible refine Kept.alloc ?_ _) | (with_reducible refine Kept.drew ?_) | (with_reducible refine Kept.drewN ?_ _) | (with_reducible refine Kept.setNew ?_ ?_ _) | ((try simp only [World.size_alloc, World.size_setCell, World.size_drew, size_drewN] at *); (try dsimp only); omega))))) (wpAnyT_with (HS0.out.keep (by (repeat' (first | (with_reducible exact Kept.refl _ _) | (with_reducible assumption) | (with_reducible refine Kept.then_ (by with_reducible assumption) ?_) | (with_reducible refine Kept.thenS (by with_reducible assumption) ?_) | (with_reducible refine Kept.alloc ?_ _) | (with_reducible refine Kept.drew ?_) | (with_reducible refine Kept.drewN ?_ _) | (with_reducible refine Kept.setNew ?_ ?_ _) | ((try simp only [World.size_alloc, World.size_setCell, World.size_drew, size_drewN] at *); (try dsimp only); omega))))) (fun hS2019 => ?_))
                    clear hK K
                    clear hS
                    have hS := hS2019
                    clear hS2019
                    (try simp only [Act.put, List.setIfInBounds_toArray, List.set_cons_zero, List.set_cons_succ])
                    refine wpAnyT_ready (rs := [10]) (by kernel_rfl) (by simp) (AllT.cons (i := 10) (o := _) rfl (fun K hK => ?w2020_10) AllT.nil)
                    case w2020_10 =>
                      refine step_app_S encH_k 51 4 j0 _ 1 Try.underlying51 hj0 hy0 hy1 hy2 rfl (by omega) (by rfl) (.tmp 67) (.tmp 68) (by rfl) wc wc.heap.size _ ([] ++ (ls.map hd).take i) ([false]) (by rfl) (by first | exact own6 | exact own6.keep ((Kept.refl _ _).alloc _)) _ _ _ (by rfl) (by rfl) (fun h => by cases h) (by first | exact rowH_one hx6 | exact rowH_one hx7 | exact rowH_one (Blk.new' _ _ _ (by simp))) (by (repeat' (first | (with_reducible exact Kept.refl _ _) | (with_reducible assumption) | (with_reducible refine Kept.then_ (by with_reducible assumption) ?_) | (with_reducible refine Kept.thenS (by with_reducible assumption) ?_) | (with_reducible refine Kept.alloc ?_ _) | (with_reducible refine Kept.drew ?_) | (with_reducible refine Kept.drewN ?_ _) | (with_reducible refine Kept.setNew ?_ ?_ _) | ((try simp only [World.size_alloc, World.size_setCell, World.size_drew, size_drewN] at *); (try dsimp only); omega)))) (Nat.le_refl _) (by have := hk6.size; (try simp only [World.size_alloc, World.size_drew]); omega) (by have := HN3.out; simp only [List.nil_append, List.length_cons, List.length_nil]; omega) ?_
                      intro A7 n7 c7 w7 hn7 own7 hk7 hkg7 hs7
                      refine hK _ _ (fun _ => HS0.out.keep hk7) (wpAnyT_with (HS0.out.keep hk7) (fun hS2021 => ?_))
                      clear hK K
                      clear hS
                      have hS := hS2021
                      clear hS2021
                      (try simp only [Act.put, List.setIfInBounds_toArray, List.set_cons_zero, List.set_cons_succ])
                      refine wpAnyT_ready (rs := [17]) (by kernel_rfl) (by simp) (AllT.cons (i := 17) (o := _) rfl (fun K hK => ?w2022_17) AllT.nil)
                      case w2022_17 =>
                        refine step_app_S encH_k 51 4 j0 _ 1 Try.underlying51 hj0 hy0 hy1 hy2 rfl (by omega) (by rfl) (.tmp 69) (.tmp 75) (by rfl) wc wc.heap.size _ ([] ++ (ls.map hd).take i ++ [false]) ((ls.map hd).drop i) (by rfl) own7 _ _ _ HN4.out (by rfl) hc4 (HR4.out.keep (by (repeat' (first | (with_reducible exact Kept.refl _ _) | (with_reducible assumption) | (with_reducible refine Kept.then_ (by with_reducible assumption) ?_) | (with_reducible refine Kept.thenS (by with_reducible assumption) ?_) | (with_reducible refine Kept.alloc ?_ _) | (with_reducible refine Kept.drew ?_) | (with_reducible refine Kept.drewN ?_ _) | (with_reducible refine Kept.setNew ?_ ?_ _) | ((try simp only [World.size_alloc, World.size_setCell, World.size_drew, size_drewN] at *); (try dsimp only); omega))))) (by (repeat' (first | (with_reducible exact Kept.refl _ _) | (with_reducible assumption) | (with_reducible refine Kept.then_ (by with_reducible assumption) ?_) | (with_reducible refine Kept.thenS (by with_reducible assumption) ?_) | (with_reducible refine Kept.alloc ?_ _) | (with_reducible refine Kept.drew ?_) | (with_reducible refine Kept.drewN ?_ _) | (with_reducible refine Kept.setNew ?_ ?_ _) | ((try simp only [World.size_alloc, World.size_setCell, World.size_drew, size_drewN] at *); (try dsimp only); omega)))) (Nat.le_refl _) (by have := hk7.size; (try simp only [World.size_alloc, World.size_drew]); omega) (by have := HN3.out; have := HN4.out; simp only [List.nil_append, List.length_append, List.length_cons, List.length_nil]; omega) ?_
                        intro A8 n8 c8 w8 hn8 own8 hk8 hkg8 hs8
                        have t0 := (B6.out.keep0 hk8).cell 0
                        have t1 := (B6.out.keep0 hk8).cell 1
                        have tl := (B6.out.keep0 hk8).lt
                        have tf := (B6.out.keep0 hk8).frozen 0
                        have tg := (B6.out.keep0 hk8).frozen 1
                        refine hK _ _ (fun _ => HS0.out.keep hk8) (wpAnyT_with (HS0.out.keep hk8) (fun hS2023 => ?_))
                        clear hK K
                        clear hS
                        have hS := hS2023
                        clear hS2023
                        (try simp only [Act.put, List.setIfInBounds_toArray, List.set_cons_zero, List.set_cons_succ])
                        refine wpAnyT_ready (rs := [18]) (by kernel_rfl) (by simp) (AllT.cons (i := 18) (o := _) rfl (fun K hK => ?_) AllT.nil)
                        go_simp
                        refine hK _ _ (fun h => absurd h (by decide)) ?_
                        clear hK K
                        (try simp only [Act.put, List.setIfInBounds_toArray, List.set_cons_zero, List.set_cons_succ])
                        refine wpAnyT_ready (rs := [19]) (by kernel_rfl) (by simp) (AllT.cons (i := 19) (o := _) rfl (fun K hK => ?_) AllT.nil)
                        go_simp
                        refine hK _ _ (fun h => absurd h (by decide)) ?_
                        clear hK K
                        (try simp only [Act.put, List.setIfInBounds_toArray, List.set_cons_zero, List.set_cons_succ])
                        refine wpAnyT_ready (rs := [20]) (by kernel_rfl) (by simp) (AllT.cons (i := 20) (o := _) rfl (fun K hK => ?_) AllT.nil)
                        go_simp
                        refine hK _ _ (fun h => absurd h (by decide)) ?_
                        clear hK K
                        (try simp only [Act.put, List.setIfInBounds_toArray, List.set_cons_zero, List.set_cons_succ])
                        refine wpAnyT_done (by kernel_rfl) ?_ _
                        have OW := Lib.hid own8
                        have BW := Lib.hid (B6.out.keep0 hk8)
                        have KW := Lib.hid hk8
                        clear own6 hk6 hkg6 own7 hk7 hkg7 own8 hk8 hkg8
                        (try clear hx6)
                        (try clear hx7)
                        go_wp2_with fail
                        go_ret
                        exact ⟨rfl, LeftR.laid (T := _) BW.out K6.out KW.out O6.out (by have := OW.out; simpa [ins, hd, List.map_take, List.map_drop] using this) hml⟩
                case w2016_9 =>
                  go_simp
                  refine hK _ _ (fun _ => HS0.out.keep (by (repeat' (first | (with_reducible exact Kept.refl _ _) | (with_reducible assumption) | (with_reducible refine Kept.then_ (by with_reducible assumption) ?_) | (with_reducible refine Kept.thenS (by with_reducible assumption) ?_) | (with_reducible refine Kept.alloc ?_ _) | (with_reducible refine Kept.drew ?_) | (with_reducible refine Kept.drewN ?_ _) | (with_reducible refine Kept.setNew ?_ ?_ _) | ((try simp only [World.size_alloc, World.size_setCell, World.size_drew, size_drewN] at *); (try dsimp only); omega))))) (wpAnyT_with (HS0.out.keep (by (repeat' (first | (with_reducible exact Kept.refl _ _) | (with_reducible assumption) | (with_reducible refine Kept.then_ (by with_reducible assumption) ?_) | (with_reducible refine Kept.thenS (by with_reducible assumption) ?_) | (with_reducible refine Kept.alloc ?_ _) | (with_reducible refine Kept.drew ?_) | (with_reducible refine Kept.drewN ?_ _) | (with_reducible refine Kept.setNew ?_ ?_ _) | ((try simp only [World.size_alloc, World.size_setCell, World.size_drew, size_drewN] at *); (try dsimp only); omega))))) (fun hS2027 => ?_))
                  clear hK K
                  clear hS
                  have hS := hS2027
                  clear hS2027
                  (try simp only [Act.put, List.setIfInBounds_toArray, List.set_cons_zero, List.set_cons_succ])
                  refine wpAnyT_ready (rs := [8]) (by kernel_rfl) (by simp) (AllT.cons (i := 8) (o := _) rfl (fun K hK => ?w2028_8) AllT.nil)
                  case w2028_8 =>
                    refine step_app_S encH_k 51 4 j0 _ 1 Try.underlying51 hj0 hy0 hy1 hy2 rfl (by omega) (by rfl) (.tmp 60) (.tmp 66) (by rfl) wc wc.heap.size _ ([]) ((ls.map hd).take i) (by rfl) (by first | exact OwnS.drew (OwnS.made _ (by simp) (by simp)) | exact OwnS.drew (OwnS.keep (OwnS.made _ (by simp) (by simp)) ((Kept.refl _ _).alloc _))) _ _ _ HN3.out (by rfl) hc3 (HR3.out.keep (by (repeat' (first | (with_reducible exact Kept.refl _ _) | (with_reducible assumption) | (with_reducible refine Kept.then_ (by with_reducible assumption) ?_) | (with_reducible refine Kept.thenS (by with_reducible assumption) ?_) | (with_reducible refine Kept.alloc ?_ _) | (with_reducible refine Kept.drew ?_) | (with_reducible refine Kept.drewN ?_ _) | (with_reducible refine Kept.setNew ?_ ?_ _) | ((try simp only [World.size_alloc, World.size_setCell, World.size_drew, size_drewN] at *); (try dsimp only); omega))))) (by (repeat' (first | (with_reducible exact Kept.refl _ _) | (with_reducible assumption) | (with_reducible refine Kept.then_ (by with_reducible assumption) ?_) | (with_reducible refine Kept.thenS (by with_reducible assumption) ?_) | (with_reducible refine Kept.alloc ?_ _) | (with_reducible refine Kept.drew ?_) | (with_reducible refine Kept.drewN ?_ _) | (with_reducible refine Kept.setNew ?_ ?_ _) | ((try simp only [World.size_alloc, World.size_setCell, World.size_drew, size_drewN] at *); (try dsimp only); omega)))) (Nat.le_refl _) (by (try simp only [World.size_alloc, World.size_drew]); omega) (by have := HN3.out; simp only [List.length_nil]; omega) ?_
                    intro A6 n6 c6 w6 hn6 own6 hk6 hkg6 hs6
                    (try (have hx6 : Blk w6 wc.heap.size 4 #[.bool false] := Blk.keep (Blk.drew (Blk.alloc (Blk.new' _ _ _ (by simp)) _)) hkg6 (by first | (simp [own, Value.ownBlock]; done) | (show _ ∉ own (Value.slice (some ⟨_, 0, none⟩) 0 0); simp [own, Value.ownBlock]))))
                    (try (have hx7 : Blk w6 (wc.heap.size + 1) 4 #[.bool false] := Blk.keep (Blk.drew (Blk.new' _ _ _ (by simp))) hkg6 (by first | (simp [own, Value.ownBlock]; done) | (show _ ∉ own (Value.slice (some ⟨_, 0, none⟩) 0 0); simp [own, Value.ownBlock]))))
                    refine hK _ _ (fun _ => HS0.out.keep hk6) (wpAnyT_with (HS0.out.keep hk6) (fun hS2029 => ?_))
                    clear hK K
                    clear hS
                    have hS := hS2029
                    clear hS2029
                    (try simp only [Act.put, List.setIfInBounds_toArray, List.set_cons_zero, List.set_cons_succ])
                    refine wpAnyT_ready (rs := [10]) (by kernel_rfl) (by simp) (AllT.cons (i := 10) (o := _) rfl (fun K hK => ?w2030_10) AllT.nil)
                    case w2030_10 =>
                      refine step_app_S encH_k 51 4 j0 _ 1 Try.underlying51 hj0 hy0 hy1 hy2 rfl (by omega) (by rfl) (.tmp 67) (.tmp 68) (by rfl) wc wc.heap.size _ ([] ++ (ls.map hd).take i) ([false]) (by rfl) (by first | exact own6 | exact own6.keep ((Kept.refl _ _).alloc _)) _ _ _ (by rfl) (by rfl) (fun h => by cases h) (by first | exact rowH_one hx6 | exact rowH_one hx7 | exact rowH_one (Blk.new' _ _ _ (by simp))) (by (repeat' (first | (with_reducible exact Kept.refl _ _) | (with_reducible assumption) | (with_reducible refine Kept.then_ (by with_reducible assumption) ?_) | (with_reducible refine Kept.thenS (by with_reducible assumption) ?_) | (with_reducible refine Kept.alloc ?_ _) | (with_reducible refine Kept.drew ?_) | (with_reducible refine Kept.drewN ?_ _) | (with_reducible refine Kept.setNew ?_ ?_ _) | ((try simp only [World.size_alloc, World.size_setCell, World.size_drew, size_drewN] at *); (try dsimp only); omega)))) (Nat.le_refl _) (by have := hk6.size; (try simp only [World.size_alloc, World.size_drew]); omega) (by have := HN3.out; simp only [List.nil_append, List.length_cons, List.length_nil]; omega) ?_
                      intro A7 n7 c7 w7 hn7 own7 hk7 hkg7 hs7
                      refine hK _ _ (fun _ => HS0.out.keep hk7) (wpAnyT_with (HS0.out.keep hk7) (fun hS2031 => ?_))
                      clear hK K
                      clear hS
                      have hS := hS2031
                      clear hS2031
                      (try simp only [Act.put, List.setIfInBounds_toArray, List.set_cons_zero, List.set_cons_succ])
                      refine wpAnyT_ready (rs := [17]) (by kernel_rfl) (by simp) (AllT.cons (i := 17) (o := _) rfl (fun K hK => ?w2032_17) AllT.nil)
                      case w2032_17 =>
                        refine step_app_S encH_k 51 4 j0 _ 1 Try.underlying51 hj0 hy0 hy1 hy2 rfl (by omega) (by rfl) (.tmp 69) (.tmp 75) (by rfl) wc wc.heap.size _ ([] ++ (ls.map hd).take i ++ [false]) ((ls.map hd).drop i) (by rfl) own7 _ _ _ HN4.out (by rfl) hc4 (HR4.out.keep (by (repeat' (first | (with_reducible exact Kept.refl _ _) | (with_reducible assumption) | (with_reducible refine Kept.then_ (by with_reducible assumption) ?_) | (with_reducible refine Kept.thenS (by with_reducible assumption) ?_) | (with_reducible refine Kept.alloc ?_ _) | (with_reducible refine Kept.drew ?_) | (with_reducible refine Kept.drewN ?_ _) | (with_reducible refine Kept.setNew ?_ ?_ _) | ((try simp only [World.size_alloc, World.size_setCell, World.size_drew, size_drewN] at *); (try dsimp only); omega))))) (by (repeat' (first | (with_reducible exact Kept.refl _ _) | (with_reducible assumption) | (with_reducible refine Kept.then_ (by with_reducible assumption) ?_) | (with_reducible refine Kept.thenS (by with_reducible assumption) ?_) | (with_reducible refine Kept.alloc ?_ _) | (with_reducible refine Kept.drew ?_) | (with_reducible refine Kept.drewN ?_ _) | (with_reducible refine Kept.setNew ?_ ?_ _) | ((try simp only [World.size_alloc, World.size_setCell, World.size_drew, size_drewN] at *); (try dsimp only); omega)))) (Nat.le_refl _) (by have := hk7.size; (try simp only [World.size_alloc, World.size_drew]); omega) (by have := HN3.out; have := HN4.out; simp only [List.nil_append, List.length_append, List.length_cons, List.length_nil]; omega) ?_
                        intro A8 n8 c8 w8 hn8 own8 hk8 hkg8 hs8
                        have t0 := (B6.out.keep0 hk8).cell 0
                        have t1 := (B6.out.keep0 hk8).cell 1
                        have tl := (B6.out.keep0 hk8).lt
                        have tf := (B6.out.keep0 hk8).frozen 0
                        have tg := (B6.out.keep0 hk8).frozen 1
                        refine hK _ _ (fun _ => HS0.out.keep hk8) (wpAnyT_with (HS0.out.keep hk8) (fun hS2033 => ?_))
                        clear hK K
                        clear hS
                        have hS := hS2033
                        clear hS2033
                        (try simp only [Act.put, List.setIfInBounds_toArray, List.set_cons_zero, List.set_cons_succ])
                        refine wpAnyT_ready (rs := [18]) (by kernel_rfl) (by simp) (AllT.cons (i := 18) (o := _) rfl (fun K hK => ?_) AllT.nil)
                        go_simp
                        refine hK _ _ (fun h => absurd h (by decide)) ?_
                        clear hK K
                        (try simp only [Act.put, List.setIfInBounds_toArray, List.set_cons_zero, List.set_cons_succ])
                        refine wpAnyT_ready (rs := [19]) (by kernel_rfl) (by simp) (AllT.cons (i := 19) (o := _) rfl (fun K hK => ?_) AllT.nil)
                        go_simp
                        refine hK _ _ (fun h => absurd h (by decide)) ?_
                        clear hK K
                        (try simp only [Act.put, List.setIfInBounds_toArray, List.set_cons_zero, List.set_cons_succ])
                        refine wpAnyT_ready (rs := [20]) (by kernel_rfl) (by simp) (AllT.cons (i := 20) (o := _) rfl (fun K hK => ?_) AllT.nil)
                        go_simp
                        refine hK _ _ (fun h => absurd h (by decide)) ?_
                        clear hK K
                        (try simp only [Act.put, List.setIfInBounds_toArray, List.set_cons_zero, List.set_cons_succ])
                        refine wpAnyT_done (by kernel_rfl) ?_ _
                        have OW := Lib.hid own8
                        have BW := Lib.hid (B6.out.keep0 hk8)
                        have KW := Lib.hid hk8
                        clear own6 hk6 hkg6 own7 hk7 hkg7 own8 hk8 hkg8
                        (try clear hx6)
                        (try clear hx7)
                        go_wp2_with fail
                        go_ret
                        exact ⟨rfl, LeftR.laid (T := _) BW.out K6.out KW.out O6.out (by have := OW.out; simpa [ins, hd, List.map_take, List.map_drop] using this) hml⟩
              case w2014_9 =>
                go_simp
                refine hK _ _ (fun _ => HS0.out.keep (by (repeat' (first | (with_reducible exact Kept.refl _ _) | (with_reducible assumption) | (with_reducible refine Kept.then_ (by with_reducible assumption) ?_) | (with_reducible refine Kept.thenS (by with_reducible assumption) ?_) | (with_reducible refine Kept.alloc ?_ _) | (with_reducible refine Kept.drew ?_) | (with_reducible refine Kept.drewN ?_ _) | (with_reducible refine Kept.setNew ?_ ?_ _) | ((try simp only [World.size_alloc, World.size_setCell, World.size_drew, size_drewN] at *); (try dsimp only); omega))))) (wpAnyT_with (HS0.out.keep (by (repeat' (first | (with_reducible exact Kept.refl _ _) | (with_reducible assumption) | (with_reducible refine Kept.then_ (by with_reducible assumption) ?_) | (with_reducible refine Kept.thenS (by with_reducible assumption) ?_) | (with_reducible refine Kept.alloc ?_ _) | (with_reducible refine Kept.drew ?_) | (with_reducible refine Kept.drewN ?_ _) | (with_reducible refine Kept.setNew ?_ ?_ _) | ((try simp only [World.size_alloc, World.size_setCell, World.size_drew, size_drewN] at *); (try dsimp only); omega))))) (fun hS2037 => ?_))
                clear hK K
                clear hS
                have hS := hS2037
                clear hS2037
                (try simp only [Act.put, List.setIfInBounds_toArray, List.set_cons_zero, List.set_cons_succ])
                refine wpAnyT_ready (rs := [1]) (by kernel_rfl) (by simp) (AllT.cons (i := 1) (o := _) rfl (fun K hK => ?w2038_1) AllT.nil)
                case w2038_1 =>
                  go_simp
                  refine hK _ _ (fun _ => HS0.out.keep (by (repeat' (first | (with_reducible exact Kept.refl _ _) | (with_reducible assumption) | (with_reducible refine Kept.then_ (by with_reducible assumption) ?_) | (with_reducible refine Kept.thenS (by with_reducible assumption) ?_) | (with_reducible refine Kept.alloc ?_ _) | (with_reducible refine Kept.drew ?_) | (with_reducible refine Kept.drewN ?_ _) | (with_reducible refine Kept.setNew ?_ ?_ _) | ((try simp only [World.size_alloc, World.size_setCell, World.size_drew, size_drewN] at *); (try dsimp only); omega))))) (wpAnyT_with (HS0.out.keep (by (repeat' (first | (with_reducible exact Kept.refl _ _) | (with_reducible assumption) | (with_reducible refine Kept.then_ (by with_reducible assumption) ?_) | (with_reducible refine Kept.thenS (by with_reducible assumption) ?_) | (with_reducible refine Kept.alloc ?_ _) | (with_reducible refine Kept.drew ?_) | (with_reducible refine Kept.drewN ?_ _) | (with_reducible refine Kept.setNew ?_ ?_ _) | ((try simp only [World.size_alloc, World.size_setCell, World.size_drew, size_drewN] at *); (try dsimp only); omega))))) (fun hS2039 => ?_))
                  clear hK K
                  clear hS
                  have hS := hS2039
                  clear hS2039
                  (try simp only [Act.put, List.setIfInBounds_toArray, List.set_cons_zero, List.set_cons_succ])
                  refine wpAnyT_ready (rs := [8]) (by kernel_rfl) (by simp) (AllT.cons (i := 8) (o := _) rfl (fun K hK => ?w2040_8) AllT.nil)
                  case w2040_8 =>
                    refine step_app_S encH_k 51 4 j0 _ 1 Try.underlying51 hj0 hy0 hy1 hy2 rfl (by omega) (by rfl) (.tmp 60) (.tmp 66) (by rfl) wc wc.heap.size _ ([]) ((ls.map hd).take i) (by rfl) (by first | exact OwnS.drew (OwnS.made _ (by simp) (by simp)) | exact OwnS.drew (OwnS.keep (OwnS.made _ (by simp) (by simp)) ((Kept.refl _ _).alloc _))) _ _ _ HN3.out (by rfl) hc3 (HR3.out.keep (by (repeat' (first | (with_reducible exact Kept.refl _ _) | (with_reducible assumption) | (with_reducible refine Kept.then_ (by with_reducible assumption) ?_) | (with_reducible refine Kept.thenS (by with_reducible assumption) ?_) | (with_reducible refine Kept.alloc ?_ _) | (with_reducible refine Kept.drew ?_) | (with_reducible refine Kept.drewN ?_ _) | (with_reducible refine Kept.setNew ?_ ?_ _) | ((try simp only [World.size_alloc, World.size_setCell, World.size_drew, size_drewN] at *); (try dsimp only); omega))))) (by (repeat' (first | (with_reducible exact Kept.refl _ _) | (with_reducible assumption) | (with_reducible refine Kept.then_ (by with_reducible assumption) ?_) | (with_reducible refine Kept.thenS (by with_reducible assumption) ?_) | (with_reducible refine Kept.alloc ?_ _) | (with_reducible refine Kept.drew ?_) | (with_reducible refine Kept.drewN ?_ _) | (with_reducible refine Kept.setNew ?_ ?_ _) | ((try simp only [World.size_alloc, World.size_setCell, World.size_drew, size_drewN] at *); (try dsimp only); omega)))) (Nat.le_refl _) (by (try simp only [World.size_alloc, World.size_drew]); omega) (by have := HN3.out; simp only [List.length_nil]; omega) ?_
                    intro A6 n6 c6 w6 hn6 own6 hk6 hkg6 hs6
                    (try (have hx6 : Blk w6 wc.heap.size 4 #[.bool false] := Blk.keep (Blk.drew (Blk.alloc (Blk.new' _ _ _ (by simp)) _)) hkg6 (by first | (simp [own, Value.ownBlock]; done) | (show _ ∉ own (Value.slice (some ⟨_, 0, none⟩) 0 0); simp [own, Value.ownBlock]))))
                    (try (have hx7 : Blk w6 (wc.heap.size + 1) 4 #[.bool false] := Blk.keep (Blk.drew (Blk.new' _ _ _ (by simp))) hkg6 (by first | (simp [own, Value.ownBlock]; done) | (show _ ∉ own (Value.slice (some ⟨_, 0, none⟩) 0 0); simp [own, Value.ownBlock]))))
                    refine hK _ _ (fun _ => HS0.out.keep hk6) (wpAnyT_with (HS0.out.keep hk6) (fun hS2041 => ?_))
                    clear hK K
                    clear hS
                    have hS := hS2041
                    clear hS2041
                    (try simp only [Act.put, List.setIfInBounds_toArray, List.set_cons_zero, List.set_cons_succ])
                    refine wpAnyT_ready (rs := [10]) (by kernel_rfl) (by simp) (AllT.cons (i := 10) (o := _) rfl (fun K hK => ?w2042_10) AllT.nil)
                    case w2042_10 =>
                      refine step_app_S encH_k 51 4 j0 _ 1 Try.underlying51 hj0 hy0 hy1 hy2 rfl (by omega) (by rfl) (.tmp 67) (.tmp 68) (by rfl) wc wc.heap.size _ ([] ++ (ls.map hd).take i) ([false]) (by rfl) (by first | exact own6 | exact own6.keep ((Kept.refl _ _).alloc _)) _ _ _ (by rfl) (by rfl) (fun h => by cases h) (by first | exact rowH_one hx6 | exact rowH_one hx7 | exact rowH_one (Blk.new' _ _ _ (by simp))) (by (repeat' (first | (with_reducible exact Kept.refl _ _) | (with_reducible assumption) | (with_reducible refine Kept.then_ (by with_reducible assumption) ?_) | (with_reducible refine Kept.thenS (by with_reducible assumption) ?_) | (with_reducible refine Kept.alloc ?_ _) | (with_reducible refine Kept.drew ?_) | (with_reducible refine Kept.drewN ?_ _) | (with_reducible refine Kept.setNew ?_ ?_ _) | ((try simp only [World.size_alloc, World.size_setCell, World.size_drew, size_drewN] at *); (try dsimp only); omega)))) (Nat.le_refl _) (by have := hk6.size; (try simp only [World.size_alloc, World.size_drew]); omega) (by have := HN3.out; simp only [List.nil_append, List.length_cons, List.length_nil]; omega) ?_
                      intro A7 n7 c7 w7 hn7 own7 hk7 hkg7 hs7
                      refine hK _ _ (fun _ => HS0.out.keep hk7) (wpAnyT_with (HS0.out.keep hk7) (fun hS2043 => ?_))
                      clear hK K
                      clear hS
                      have hS := hS2043
                      clear hS2043
                      (try simp only [Act.put, List.setIfInBounds_toArray, List.set_cons_zero, List.set_cons_succ])
                      refine wpAnyT_ready (rs := [17]) (by kernel_rfl) (by simp) (AllT.cons (i := 17) (o := _) rfl (fun K hK => ?w2044_17) AllT.nil)
                      case w2044_17 =>
                        refine step_app_S encH_k 51 4 j0 _ 1 Try.underlying51 hj0 hy0 hy1 hy2 rfl (by omega) (by rfl) (.tmp 69) (.tmp 75) (by rfl) wc wc.heap.size _ ([] ++ (ls.map hd).take i ++ [false]) ((ls.map hd).drop i) (by rfl) own7 _ _ _ HN4.out (by rfl) hc4 (HR4.out.keep (by (repeat' (first | (with_reducible exact Kept.refl _ _) | (with_reducible assumption) | (with_reducible refine Kept.then_ (by with_reducible assumption) ?_) | (with_reducible refine Kept.thenS (by with_reducible assumption) ?_) | (with_reducible refine Kept.alloc ?_ _) | (with_reducible refine Kept.drew ?_) | (with_reducible refine Kept.drewN ?_ _) | (with_reducible refine Kept.setNew ?_ ?_ _) | ((try simp only [World.size_alloc, World.size_setCell, World.size_drew, size_drewN] at *); (try dsimp only); omega))))) (by (repeat' (first | (with_reducible exact Kept.refl _ _) | (with_reducible assumption) | (with_reducible refine Kept.then_ (by with_reducible assumption) ?_) | (with_reducible refine Kept.thenS (by with_reducible assumption) ?_) | (with_reducible refine Kept.alloc ?_ _) | (with_reducible refine Kept.drew ?_) | (with_reducible refine Kept.drewN ?_ _) | (with_reducible refine Kept.setNew ?_ ?_ _) | ((try simp only [World.size_alloc, World.size_setCell, World.size_drew, size_drewN] at *); (try dsimp only); omega)))) (Nat.le_refl _) (by have := hk7.size; (try simp only [World.size_alloc, World.size_drew]); omega) (by have := HN3.out; have := HN4.out; simp only [List.nil_append, List.length_append, List.length_cons, List.length_nil]; omega) ?_
                        intro A8 n8 c8 w8 hn8 own8 hk8 hkg8 hs8
                        have t0 := (B6.out.keep0 hk8).cell 0
                        have t1 := (B6.out.keep0 hk8).cell 1
                        have tl := (B6.out.keep0 hk8).lt
                        have tf := (B6.out.keep0 hk8).frozen 0
                        have tg := (B6.out.keep0 hk8).frozen 1
                        refine hK _ _ (fun _ => HS0.out.keep hk8) (wpAnyT_with (HS0.out.keep hk8) (fun hS2045 => ?_))
                        clear hK K
                        clear hS
                        have hS := hS2045
                        clear hS2045
                        (try simp only [Act.put, List.setIfInBounds_toArray, List.set_cons_zero, List.set_cons_succ])
                        refine wpAnyT_ready (rs := [18]) (by kernel_rfl) (by simp) (AllT.cons (i := 18) (o := _) rfl (fun K hK => ?_) AllT.nil)
                        go_simp
                        refine hK _ _ (fun h => absurd h (by decide)) ?_
                        clear hK K
                        (try simp only [Act.put, List.setIfInBounds_toArray, List.set_cons_zero, List.set_cons_succ])
                        refine wpAnyT_ready (rs := [19]) (by kernel_rfl) (by simp) (AllT.cons (i := 19) (o := _) rfl (fun K hK => ?_) AllT.nil)
                        go_simp
                        refine hK _ _ (fun h => absurd h (by decide)) ?_
                        clear hK K
                        (try simp only [Act.put, List.setIfInBounds_toArray, List.set_cons_zero, List.set_cons_succ])
                        refine wpAnyT_ready (rs := [20]) (by kernel_rfl) (by simp) (AllT.cons (i := 20) (o := _) rfl (fun K hK => ?_) AllT.nil)
                        go_simp
                        refine hK _ _ (fun h => absurd h (by decide)) ?_
                        clear hK K
                        (try simp only [Act.put, List.setIfInBounds_toArray, List.set_cons_zero, List.set_cons_succ])
                        refine wpAnyT_done (by kernel_rfl) ?_ _
                        have OW := Lib.hid own8
                        have BW := Lib.hid (B6.out.keep0 hk8)
                        have KW := Lib.hid hk8
                        clear own6 hk6 hkg6 own7 hk7 hkg7 own8 hk8 hkg8
                        (try clear hx6)
                        (try clear hx7)
                        go_wp2_with fail
                        go_ret
                        exact ⟨rfl, LeftR.laid (T := _) BW.out K6.out KW.out O6.out (by have := OW.out; simpa [ins, hd, List.map_take, List.map_drop] using this) hml⟩
    · rw [decide_eq_false hf] at DF
      obtain ⟨rfl, rfl⟩ : er = 6 ∧ ls' = ls := by
        rcases hR with ⟨h1, _⟩ | ⟨_, _, h1, h2⟩ | ⟨_, h1, _⟩
        · exact absurd hm h1
        · exact ⟨h1, h2⟩
        · exact absurd h1 hf
      have HL := Lib.hid (fun w' (hk : Kept [] W w') => LeftR.of h hk)
      clear hR hm hf h
      go_enter Try.func40, Try.ntmps40
      go_wp2_with fail
      (with_reducible refine (DM.out _).mono ?_)
      rintro e w1 ⟨rfl, hb1⟩
      have B1 : Blk w1 W.heap.size 33 #[.int .u64 a, .int .u64 n, .int .u64 l] := (Blk.new W _ _).keep0 hb1
      have K1 := Lib.hid (show Kept [] W w1 by (repeat' (first | (with_reducible exact Kept.refl _ _) | (with_reducible assumption) | (with_reducible refine Kept.then_ (by with_reducible assumption) ?_) | (with_reducible refine Kept.thenS (by with_reducible assumption) ?_) | (with_reducible refine Kept.alloc ?_ _) | (with_reducible refine Kept.drew ?_) | (with_reducible refine Kept.drewN ?_ _) | (with_reducible refine Kept.setNew ?_ ?_ _) | ((try simp only [World.size_alloc, World.size_setCell, World.size_drew, size_drewN] at *); (try dsimp only); omega))))
      have HB1 := Lib.hid B1
      clear B1 hb1
      go_wp2_with fail
      refine wp_region_kept (by kernel_rfl) (by kernel_rfl) ?_
      intro TT FF hne hFF hcl
      have q_r0 := fun x => (Blk.keep0 (HB1.out) (hFF x)).cell
      repeat (first | go_big_quiet_step ((first | (go_at_call 50; (with_reducible refine kept_call hcl (DT.out _))) | (go_at_call 39; (with_reducible refine kept_call hcl (DF.out _ ((hFF _).then_ K1.out)))))) | quiet_step ((first | (go_at_call 50; (with_reducible refine kept_call hcl (DT.out _))) | (go_at_call 39; (with_reducible refine kept_call hcl (DF.out _ ((hFF _).then_ K1.out)))))))
      refine wpQuiet_nil ?_
      rintro w3 ⟨x, hx⟩
      have hb3 := hFF x
      rw [← hx] at hb3
      clear hx x hne hFF hcl q_r0
      have hs3 := hb3.size
      (try simp only [World.size_alloc, World.size_setCell, World.size_drew, size_drewN] at hs3)
      have K3 := Lib.hid (hb3.then_ K1.out)
      clear hb3
      go_wp2_with fail
      go_ret
      exact ⟨rfl, HL.out _ K3.out⟩
  · rw [decide_eq_false hm] at DM
    obtain ⟨rfl, rfl⟩ : er = 2 ∧ ls' = ls := by
      rcases hR with ⟨_, h1, h2⟩ | ⟨h1, _⟩ | ⟨h1, _⟩
      · exact ⟨h1, h2⟩
      · exact absurd h1 hm
      · exact absurd h1 hm
    have HL := Lib.hid (fun w' (hk : Kept [] W w') => LeftR.of h hk)
    clear hR hm h
    go_enter Try.func40, Try.ntmps40
    go_wp2_with fail
    (with_reducible refine (DM.out _).mono ?_)
    rintro e w1 ⟨rfl, hb1⟩
    have K1 := Lib.hid (show Kept [] W w1 by (repeat' (first | (with_reducible exact Kept.refl _ _) | (with_reducible assumption) | (with_reducible refine Kept.then_ (by with_reducible assumption) ?_) | (with_reducible refine Kept.thenS (by with_reducible assumption) ?_) | (with_reducible refine Kept.alloc ?_ _) | (with_reducible refine Kept.drew ?_) | (with_reducible refine Kept.drewN ?_ _) | (with_reducible refine Kept.setNew ?_ ?_ _) | ((try simp only [World.size_alloc, World.size_setCell, World.size_drew, size_drewN] at *); (try dsimp only); omega))))
    clear hb1
    go_wp2_with fail
    go_ret
    exact ⟨rfl, HL.out _ K1.out⟩
end Go.Proofs.Ytdallcepachhoaa
