/- Bytes are those asked for; with one more, as many more. No condition. -/
import Derived.Test.YtdallcepachhoaaLgAlive
import Derived.Test.YtdallcepachhoaaLgMade
import Derived.Deep.RegionHeld3
set_option linter.unusedVariables false
set_option linter.unusedSimpArgs false
namespace Go.Proofs.Ytdallcepachhoaa
open Go.RowKit
namespace LedgerSums
open Go.RowKit Go.ChangeShapes Go.WideShapes Go.ChangeAt Go.Joins
theorem bytes_ins (ls : List EntT) (j : Nat) (x : EntT) : bytesL (ins ls j x) = bytesL ls + x.2.1 := by
  have e := bytesL_app (ls.take j) (ls.drop j)
  rw [List.take_append_drop] at e
  unfold ins
  rw [bytesL_app, e]
  show bytesL (ls.take j) + (x.2.1 + bytesL (ls.drop j)) = _
  omega
theorem bytes_le : ∀ ls : List EntT, LInv ls → 0 ≤ bytesL ls ∧ bytesL ls ≤ 1048576 * (ls.length : Int)
  | [], _ => ⟨by simp [bytesL], by simp [bytesL]⟩
  | e :: l, h => by
    have h1 := bytes_le l ⟨fun x hx => h.1 x (List.mem_cons_of_mem _ hx), (List.pairwise_cons.1 h.2).2⟩
    have h2 := h.1 e (by simp)
    have h3 := h2.2.2.1
    simp only [bytesL, List.length_cons]
    omega
set_option maxRecDepth 100000 in
set_option maxHeartbeats 4000000 in
theorem walk (a0 : Option Addr) (len0 cap0 : Nat) (z0 : Unit) (x y z : Int) (W : World) (w0 : IsActZ W a0 len0 cap0 z0) (wx : (Lit.int .u64 x).wf = true) (wy : (Lit.int .u64 y).wf = true) (wz : (Lit.int .u64 z).wf = true) :
    Calls Try.prog 4 #[.slice a0 len0 cap0, .agg #[.int .u64 x, .int .u64 y, .int .u64 z]] W fun e W' => e = .returned (.bool true) ∧ Below W.heap.size W W' := by
  have b1 := bounds_u64 wx
  have b2 := bounds_u64 wy
  have b3 := bounds_u64 wz
  have C1 := Lib.hid (fun W => alive_any W)
  have C2 := Lib.hid (fun w hk => great_any w0 w hk)
  have C3 : Hid (len0 ≤ 100 → ∀ w, Kept [] W w → Calls Try.prog 11 #[.slice a0 len0 cap0] w (FilledR len0 w)) := Lib.hid (fun h w hk => filled_any w0 h w hk)
  clear wx wy wz w0
  go_enter Try.func4, Try.ntmps4
  go_wp2_with fail
  (with_reducible refine (C1.out _).mono ?_)
  rintro e w1 ⟨rfl, hb1⟩
  have B1 := Lib.hid ((Blk.new W 33 #[.int .u64 x, .int .u64 y, .int .u64 z]).keep0 hb1)
  have K1 : Hid (Kept [] W w1) := Lib.hid (by (repeat' (first | (with_reducible exact Kept.refl _ _) | (with_reducible assumption) | (with_reducible refine Kept.then_ (by with_reducible assumption) ?_) | (with_reducible refine Kept.thenS (by with_reducible assumption) ?_) | (with_reducible refine Kept.alloc ?_ _) | (with_reducible refine Kept.drew ?_) | (with_reducible refine Kept.drewN ?_ _) | (with_reducible refine Kept.setNew ?_ ?_ _) | ((try simp only [World.size_alloc, World.size_setCell, World.size_drew, size_drewN] at *); (try dsimp only); omega))))
  clear hb1
  go_wp2_with fail
  (with_reducible refine (C2.out _ K1.out).mono ?_)
  rintro e w2 ⟨b, rfl, hlen, hb2⟩
  have B2 := Lib.hid (B1.out.keep0 hb2)
  have K2 := Lib.hid (hb2.then_ K1.out)
  clear hb2
  cases b
  case true =>
    go_wp2_with fail
    go_ret
    exact ⟨rfl, K2.out.below⟩
  case false =>
    have h100 : len0 ≤ 100 := hlen rfl
    clear hlen
    go_wp2_with fail
    (with_reducible refine (C3.out h100 _ K2.out).mono ?_)
    rintro e w3 ⟨p, ls, rfl, hls, hL⟩
    have L3 := Lib.hid hL
    have hp3 := hL.ltp
    have I := Lib.hid hL.inv
    have K3 := Lib.hid (hL.kept.then_ K2.out)
    clear hL
    have hA2 : ls.length ≤ 1000 := by omega
    have hbl := bytes_le ls I.out
    have BD : Hid (∀ j, j < ls.length → 0 ≤ (re ls j).2.1 ∧ (re ls j).2.1 ≤ 1048576) := Lib.hid (fun j hj => by have := re_bd I.out hj; omega)
    have CA := Lib.hid (fun w hk => x_all (w := w) (L3.out.keep0 hk) hA2)
    have CB := Lib.hid (fun w hk r hr => x_bytes (w := w) (L3.out.keep0 hk) hA2 r hr)
    have CD := Lib.hid (fun w hk => x_add (w := w) (L3.out.keep0 hk) hA2 x y z b1 b2 b3)
    have HB2 : Hid (∀ w, Kept [] w2 w → Blk w W.heap.size 33 #[.int .u64 x, .int .u64 y, .int .u64 z]) := Lib.hid (fun w hk => B2.out.keep0 hk)
    have B3 := HB2.out _ L3.out.kept
    have c3 := B3.cell
    have f3 := B3.frozen
    have l3 := B3.lt
    go_wp2_with fail
    (with_reducible refine (CA.out _ (Kept.refl _ _)).mono ?_)
    rintro e w4 ⟨⟨B, c, rfl, hB⟩, hb4⟩
    have HB := Lib.hid hB
    have K4 := Lib.hid hb4
    clear hB hb4
    go_wp2_with fail
    go_loopw [6, 20] (fun u v wr => ∃ (j : Nat) (s : Int), j ≤ ls.length ∧ u = .int .u64 s ∧ v = .int .i64 j ∧ Hid (s = bytesL (ls.take j)) ∧ 0 ≤ s ∧ s ≤ 1048576 * (j : Int) ∧ Hid (Kept [] w4 wr)) (fun _ v _ => (ls.length - intOf v).toNat)
    case atStart => exact ⟨0, 0, Nat.zero_le _, rfl, rfl, Lib.hid (by simp [bytesL]), by omega, by omega, Lib.hid (Kept.refl _ _)⟩
    case round =>
      obtain ⟨j, s, hj, rfl, rfl, hs, hs0, hs1, hk⟩ := hrel
      by_cases hjl : j < ls.length
      · obtain ⟨g, _, rfl, hc⟩ := (HB.out.keep hk.out) (by simp; omega)
        obtain ⟨x0, x1, x2⟩ := hc.2 j (by simpa using hjl)
        rw [rb_map hjl] at x0 x1 x2
        have hgl := hc.1
        have hsr := hk.out.size
        have HT := Lib.hid (bytesL_take ls j hjl)
        have bd := BD.out j hjl
        have dj : decide (j < ls.length) = true := by simp; omega
        generalize re ls j = r at *
        obtain ⟨ra, rn, rl, rh⟩ := r
        simp only [bk] at x0 x1 x2
        dsimp only at HT bd
        clear hc
        go_wp2_with fail
        go_roundw
        case rel => exact ⟨j + 1, s + rn, by omega, rfl, by go_num, Lib.hid (by rw [HT.out, ← hs.out]), by omega, by omega, Lib.hid (by have := hk.out; (repeat' (first | (with_reducible exact Kept.refl _ _) | (with_reducible assumption) | (with_reducible refine Kept.then_ (by with_reducible assumption) ?_) | (with_reducible refine Kept.thenS (by with_reducible assumption) ?_) | (with_reducible refine Kept.alloc ?_ _) | (with_reducible refine Kept.drew ?_) | (with_reducible refine Kept.drewN ?_ _) | (with_reducible refine Kept.setNew ?_ ?_ _) | ((try simp only [World.size_alloc, World.size_setCell, World.size_drew, size_drewN] at *); (try dsimp only); omega))))⟩
        case measure => simp [intOf]; omega
      · obtain rfl : j = ls.length := by omega
        rename_i wr
        have he := hs.out
        rw [List.take_length] at he
        subst he
        have K5 := Lib.hid (hk.out.then_ K4.out)
        go_wp2_with fail
        (with_reducible refine (CA.out _ K5.out).mono ?_)
        rintro e w6 ⟨⟨B', c', rfl, _⟩, hb6⟩
        have K6 := Lib.hid (hb6.then_ K5.out)
        clear hb6
        go_wp2_with fail
        (with_reducible refine (CB.out _ K6.out _ rfl).mono ?_)
        rintro e w7 ⟨rfl, hb7⟩
        have K7 := Lib.hid (hb7.then_ K6.out)
        have B7 := HB2.out _ (K7.out.then_ L3.out.kept)
        have c7 := B7.cell
        have f7 := B7.frozen
        have l7 := B7.lt
        clear hb7
        go_wp2_with fail
        (with_reducible refine (CD.out _ K7.out).mono ?_)
        rintro e w8 ⟨er, ls', rfl, hR, hL8, _⟩
        have L8 := Lib.hid hL8
        have hp8 := hL8.ltp
        have K8 := Lib.hid hL8.kept
        clear hL8
        rcases hR with ⟨_, rfl, rfl⟩ | ⟨_, _, rfl, rfl⟩ | ⟨hm, _, rfl, j, hj, rfl⟩
        · have CA8 := Lib.hid (fun w hk => x_all (w := w) (L8.out.keep0 hk) hA2)
          have CB8 := Lib.hid (fun w hk => x_bytes (w := w) (L8.out.keep0 hk) hA2 _ rfl)
          go_wp2_with fail
          (with_reducible refine (CB8.out _ (Kept.refl _ _)).mono ?_)
          rintro e w9 ⟨rfl, hb9⟩
          go_wp2_with fail
          (with_reducible refine (CA8.out _ hb9).mono ?_)
          rintro e wa ⟨⟨B2', c2', rfl, _⟩, hba⟩
          go_wp2_with fail
          go_ret
          exact ⟨rfl, (((hba.then_ hb9).then_ K8.out).then_ K2.out).below⟩
        · have CA8 := Lib.hid (fun w hk => x_all (w := w) (L8.out.keep0 hk) hA2)
          have CB8 := Lib.hid (fun w hk => x_bytes (w := w) (L8.out.keep0 hk) hA2 _ rfl)
          go_wp2_with fail
          (with_reducible refine (CB8.out _ (Kept.refl _ _)).mono ?_)
          rintro e w9 ⟨rfl, hb9⟩
          go_wp2_with fail
          (with_reducible refine (CA8.out _ hb9).mono ?_)
          rintro e wa ⟨⟨B2', c2', rfl, _⟩, hba⟩
          go_wp2_with fail
          go_ret
          exact ⟨rfl, (((hba.then_ hb9).then_ K8.out).then_ K2.out).below⟩
        · obtain ⟨m1, m2, m3, m4, m5, m6⟩ := hm
          have hl1 : 1 ≤ z := by obtain ⟨i, _, rfl⟩ := m4; have := Int.pow_pos (n := 2) (m := i) (by omega); omega
          have n1 : (z == 0) = false := by rw [beq_eq_false_iff_ne]; omega
          have n2 : ¬ z = 0 := by omega
          have t7 : IntKind.u64.wrap (Int.tmod x z) = 0 := by rw [Int.tmod_eq_emod_of_nonneg b1.1, m6]; rfl
          have t6 : Int.tmod x z = 0 := by rw [Int.tmod_eq_emod_of_nonneg b1.1]; exact m6
          have hln := ins_len ls (x, y, z, false) j hj.1
          have hbi := bytes_ins ls j (x, y, z, false)
          dsimp only at hbi
          have CA8 : Hid (∀ w, Kept [] w8 w → Calls Try.prog 12 #[.pointer (some ⟨p, 0, none⟩)] w fun e w' => (∃ A c, e = .returned (.slice A (ls.length + 1) c)) ∧ Kept [] w w') := Lib.hid (fun w hk => (x_all (w := w) (L8.out.keep0 hk) (by omega)).mono fun e w' ⟨⟨A, c, he, _⟩, hk'⟩ => ⟨⟨A, c, by rw [he, hln]⟩, hk'⟩)
          have CB8 := Lib.hid (fun w hk => x_bytes (w := w) (L8.out.keep0 hk) (by omega) _ hbi)
          have HC8 : Hid (∀ w, Kept [] w8 w → w.cell? ⟨W.heap.size, 0, none⟩ = some (.int .u64 x) ∧ w.cell? ⟨W.heap.size, 1, none⟩ = some (.int .u64 y) ∧ w.cell? ⟨W.heap.size, 2, none⟩ = some (.int .u64 z)) := Lib.hid (fun w hk => by
            have B := HB2.out _ (hk.then_ K8.out)
            exact ⟨B.cell 0, B.cell 1, B.cell 2⟩)
          obtain ⟨d0, d1, d2⟩ := HC8.out _ (Kept.refl _ _)
          have B8 := HB2.out _ K8.out
          have l8 := B8.lt
          generalize bytesL ls = S at *
          have s1 : IntKind.u64.wrap (S + y) = S + y := IntWalk.u64_in _ (by omega)
          have s2 : IntKind.i64.wrap ((ls.length : Int) + 1) = (ls.length : Int) + 1 := IntWalk.i64_in _ (by omega)
          have s3 : ((ls.length + 1 : Nat) : Int) = (ls.length : Int) + 1 := by omega
          clear m4 hln hbi B8 c7 f7 l7 B7 c3 f3 l3 B3
          go_wp2_with fail
          go_region_held3 (fun w' => w'.cell? ⟨W.heap.size, 0, none⟩ = some (.int .u64 x) ∧ w'.cell? ⟨W.heap.size, 1, none⟩ = some (.int .u64 y) ∧ w'.cell? ⟨W.heap.size, 2, none⟩ = some (.int .u64 z)) (first | go_keep | exact ⟨d0, d1, d2⟩ | exact HC8.out _ (by (repeat' (first | (with_reducible exact Kept.refl _ _) | (with_reducible assumption) | (with_reducible refine Kept.then_ (by with_reducible assumption) ?_) | (with_reducible refine Kept.thenS (by with_reducible assumption) ?_) | (with_reducible refine Kept.alloc ?_ _) | (with_reducible refine Kept.drew ?_) | (with_reducible refine Kept.drewN ?_ _) | (with_reducible refine Kept.setNew ?_ ?_ _) | ((try simp only [World.size_alloc, World.size_setCell, World.size_drew, size_drewN] at *); (try dsimp only); omega))))) (first | (go_at_call 14; refine (CB8.out _ (by (repeat' (first | (with_reducible exact Kept.refl _ _) | (with_reducible assumption) | (with_reducible refine Kept.then_ (by with_reducible assumption) ?_) | (with_reducible refine Kept.thenS (by with_reducible assumption) ?_) | (with_reducible refine Kept.alloc ?_ _) | (with_reducible refine Kept.drew ?_) | (with_reducible refine Kept.drewN ?_ _) | (with_reducible refine Kept.setNew ?_ ?_ _) | ((try simp only [World.size_alloc, World.size_setCell, World.size_drew, size_drewN] at *); (try dsimp only); omega))))).mono ?_; rintro e wx ⟨rfl, hbx⟩) | (go_at_call 12; refine (CA8.out _ (by (repeat' (first | (with_reducible exact Kept.refl _ _) | (with_reducible assumption) | (with_reducible refine Kept.then_ (by with_reducible assumption) ?_) | (with_reducible refine Kept.thenS (by with_reducible assumption) ?_) | (with_reducible refine Kept.alloc ?_ _) | (with_reducible refine Kept.drew ?_) | (with_reducible refine Kept.drewN ?_ _) | (with_reducible refine Kept.setNew ?_ ?_ _) | ((try simp only [World.size_alloc, World.size_setCell, World.size_drew, size_drewN] at *); (try dsimp only); omega))))).mono ?_; rintro e wx ⟨⟨A', c', rfl⟩, hbx⟩))
          all_goals
            have hkE : Kept [] w8 wx := by (repeat' (first | (with_reducible exact Kept.refl _ _) | (with_reducible assumption) | (with_reducible refine Kept.then_ (by with_reducible assumption) ?_) | (with_reducible refine Kept.thenS (by with_reducible assumption) ?_) | (with_reducible refine Kept.alloc ?_ _) | (with_reducible refine Kept.drew ?_) | (with_reducible refine Kept.drewN ?_ _) | (with_reducible refine Kept.setNew ?_ ?_ _) | ((try simp only [World.size_alloc, World.size_setCell, World.size_drew, size_drewN] at *); (try dsimp only); omega)))
            go_wp2_with fail
            go_ret
            exact ⟨by first | rfl | (simp_all; done), ((hkE.then_ K8.out).then_ K2.out).below⟩
theorem own : ownKnob Try.prog.godebug = none := by kernel_rfl
theorem laidOut : laidOutB Try.prog = true := by kernel_rfl
set_option maxRecDepth 100000 in
theorem lifted (os : Os) (started : os.Started) (H : Type) (enc : TypeId × Value → H) :
    ReturnsInHanded {} Try.checked os 4 .any (Rows.ledgerSumsSpec.pre6 enc Try.prog Try.f4 Rows.ledgerSumsRow.domain false) (Rows.ledgerSumsSpec.post enc Try.prog Try.f4 false true false false) := by
  refine returnsInHanded_of_change_sized (C := Try.checked) own started (by kernel_rfl) Try.func4
    (ChangeSpec.witness6 (enc := enc) (C := Try.checked) false ⟨#[], #[.slice none 0 0, .agg #[.int .u64 0, .int .u64 0, .int .u64 0]], []⟩ 8 (by kernel_rfl) (by kernel_rfl) (by kernel_rfl) (by kernel_rfl)) ?_
  intro W base args ds gs before hval0 hW hcnd hsz _
  have hval : ∀ (j : Nat) t v, Try.f4.params[j]? = some t → args[j]? = some v → Value.okWide Try.prog W .any base t v := hval0
  have hW' := hW
  obtain ⟨p, q, hA0, hV, rfl, hfz, hnd⟩ := hW
  have hA : DataW.TrodAll enc Try.prog W 0 (fun _ => true) true Try.f4.params.toList args.toList ds p := hA0
  rw [Try.params4] at hA hval hsz
  obtain ⟨v0, vs0, d0, ds0, p0, q0, hargs, rfl, rfl, h0, r0⟩ := trodAll_cons hA
  obtain ⟨v1, vs1, d1, ds1, p1, q1, rfl, rfl, rfl, h1, r1⟩ := trodAll_cons r0
  obtain ⟨rfl, rfl, rfl⟩ := trodAll_nil r1
  obtain rfl : args = #[v0, v1] := by cases args; simp_all
  obtain ⟨rfl, rfl⟩ := trodVars_none hV
  have k0 := h0
  have lt0 : ∀ x ∈ p0, x.block < W.heap.size := by obtain ⟨m, hm⟩ := k0; exact DataW.trod_lt m _ _ _ hm
  have k1 := h1
  have lt1 : ∀ x ∈ p1, x.block < W.heap.size := by obtain ⟨m, hm⟩ := k1; exact DataW.trod_lt m _ _ _ hm
  obtain ⟨a0, len0, cap0, rfl⟩ := okWide_slice Try.underlying22 (hval 0 22 v0 rfl rfl)
  obtain ⟨z0, w0⟩ := isT22_of h0 (fun n hn => by have := List.all_eq_true.1 hsz n (DataW.weights_mem_each (j := 0) (t := 22) rfl rfl n hn); simpa using this)
  obtain ⟨c1_0, c1_1, c1_2, y1_0, y1_1, y1_2, n1, rfl, rfl, rfl, t1_0, t1_1, t1_2⟩ := open_agg3 Try.underlying33 (by kernel_rfl) (by kernel_rfl) (hval 1 33 v1 rfl rfl) h1
  obtain ⟨a1_0, e1_0, _, w1_0⟩ := DataW.trod_int Try.underlying29 t1_0
  simp only [List.cons.injEq, and_true] at e1_0
  subst e1_0
  obtain ⟨a1_1, e1_1, _, w1_1⟩ := DataW.trod_int Try.underlying29 t1_1
  simp only [List.cons.injEq, and_true] at e1_1
  subst e1_1
  obtain ⟨a1_2, e1_2, _, w1_2⟩ := DataW.trod_int Try.underlying29 t1_2
  simp only [List.cons.injEq, and_true] at e1_2
  subst e1_2
  clear hA0 hval0
  refine (walk a0 len0 cap0 z0 a1_0 a1_1 a1_2 W w0 w1_0 w1_1 w1_2).mono fun e W' ⟨he, bel⟩ => ?_
  subst he
  exact ⟨_, rfl, _, _, _, [], _, [], hW', trodAll_mk1 (shut_bool Try.underlying4 _), (trodAll_cons_mk (Below.trod laidOut (by kernel_rfl) (of_decide_eq_true (by kernel_rfl)) k0 bel lt0) (trodAll_cons_mk (Below.trod laidOut (by kernel_rfl) (of_decide_eq_true (by kernel_rfl)) k1 bel lt1) trodAll_mk0)), rfl, bel.frame _, fun h => by cases h⟩
theorem over : Rows.ledgerSumsRow.holds Try.pinned (OpenSpec.ofChange Rows.ledgerSumsSpec) :=
  OpenClaim.holds_of_wide 4 Try.f4 rfl rfl rfl rfl rfl rfl rfl ⟨rfl, rfl, rfl, rfl, rfl⟩ rfl rfl rfl rfl rfl (by kernel_rfl) Try.func4 (by kernel_rfl)
    (of_decide_eq_true (by kernel_rfl)) (by unfold Func.isWrapper; first | (rw [if_pos (by decide +kernel)]; kernel_rfl) | (rw [if_neg (by decide +kernel)]; exact ⟨rfl, rfl⟩))
    (fun os started H enc _ => lifted os started H enc)
theorem proved : Rows.LedgerSumsSaid := over
#print axioms proved
end LedgerSums
end Go.Proofs.Ytdallcepachhoaa
