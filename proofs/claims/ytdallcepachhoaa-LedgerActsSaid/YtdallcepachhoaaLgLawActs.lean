/- Through any acts what each answers, all blocks, and their bytes, are the document's. No condition. -/
import Derived.Test.YtdallcepachhoaaLgDo
import Derived.Test.YtdallcepachhoaaLgMade
import Derived.Test.YtdallcepachhoaaLgSame
set_option linter.unusedVariables false
set_option linter.unusedSimpArgs false
namespace Go.Proofs.Ytdallcepachhoaa
open Go.RowKit
namespace LedgerActs
open Go.RowKit Go.ChangeShapes Go.WideShapes Go.ChangeAt Go.Joins
theorem duo_new (w : World) : Duo w [] ((w.alloc (.cells #[.slice none 0 0] 43)).alloc (.cells #[.slice none 0 0, .slice none 0 0] 53)) w.heap.size [] (w.heap.size + 1) [] := by
  have e : (w.alloc (.cells #[.slice none 0 0] 43)).heap.size = w.heap.size + 1 := by simp
  refine ⟨⟨[w.heap.size], [w.heap.size + 1], ⟨.slice none 0 0, rfl, (Blk.new w _ _).alloc _, OwnS.nil _ _ _⟩, ⟨.slice none 0 0, .slice none 0 0, rfl, Blk.new' _ _ _ e.symm, OwnS.nil _ _ _, OwnS.nil _ _ _⟩, fun x hx => ?_, fun x hx => ?_, fun x hx => ?_⟩, ((Kept.refl [] w).alloc _).alloc _, fun x hx => (by cases hx), linv_nil, linv_nil⟩
  · simp at hx ⊢; omega
  · simp at hx ⊢; omega
  · simp at hx ⊢; omega
theorem duo_all {W w : World} {X : List Nat} {p m : Nat} {ls ms : List EntT} (h : Duo W X w p ls m ms) (hl : ls.length ≤ 1000) : Calls Try.prog 12 #[.pointer (some ⟨p, 0, none⟩)] w fun e w' => (∃ A c, e = .returned (.slice A ls.length c) ∧ ListB (fun _ => True) w' A (ls.map bk)) ∧ Kept [] w w' := by
  obtain ⟨S, hS⟩ := h.lg
  refine (all_any S w p ls hS hl).mono fun e w' ⟨⟨v, he, ho⟩, hk⟩ => ?_
  obtain ⟨A, c, rfl, hL⟩ := listB_of ho
  exact ⟨⟨A, c, by simpa using he, fun h0 => by
    obtain ⟨g, _, e, hc⟩ := hL h0
    exact ⟨g, trivial, e, hc⟩⟩, hk⟩
theorem duo_bytes {W w : World} {X : List Nat} {p m : Nat} {ls ms : List EntT} (h : Duo W X w p ls m ms) (hl : ls.length ≤ 1000) (r : Int) (hr : bytesL ls = r) : Calls Try.prog 14 #[.pointer (some ⟨p, 0, none⟩)] w fun e w' => e = .returned (.int .u64 r) ∧ Kept [] w w' := by
  obtain ⟨S, hS⟩ := h.lg
  exact bytes_any S w p ls hS h.2.2.2.1 hl r hr
theorem duo_rbytes {W w : World} {X : List Nat} {p m : Nat} {ls ms : List EntT} (h : Duo W X w p ls m ms) (hl : ms.length ≤ 1000) (r : Int) (hr : bytesL ms = r) : Calls Try.prog 22 #[.pointer (some ⟨m, 0, none⟩)] w fun e w' => e = .returned (.int .u64 r) ∧ Kept [] w w' := by
  obtain ⟨T, hT⟩ := h.rf
  exact rbytes_any T w m ms hT h.2.2.2.2 hl r hr
set_option maxRecDepth 100000 in
set_option maxHeartbeats 4000000 in
theorem walk (a0 : Option Addr) (len0 cap0 : Nat) (z0 : Unit) (W : World) (w0 : IsActZ W a0 len0 cap0 z0) :
    Calls Try.prog 7 #[.slice a0 len0 cap0] W fun e W' => e = .returned (.bool true) ∧ Below W.heap.size W W' := by
  have C1 := Lib.hid (alive_any W)
  have C2 := Lib.hid (fun w hk => great_any w0 w hk)
  have HA := Lib.hid w0
  clear w0
  go_enter Try.func7, Try.ntmps7
  go_wp2_with fail
  (with_reducible refine (C1.out).mono ?_)
  rintro e w1 ⟨rfl, hb1⟩
  have hs1 := hb1.size
  (try simp only [World.size_alloc, World.size_setCell, World.size_drew, size_drewN] at hs1)
  go_wp2_with fail
  (with_reducible refine (C2.out _ hb1).mono ?_)
  rintro e w2 ⟨b, rfl, hlen, hb2⟩
  have hb2' := hb2.then_ hb1
  clear hb2 hb1
  cases b
  case true =>
    go_wp2_with fail
    go_ret
    exact ⟨rfl, hb2'.below⟩
  case false =>
    have h100 : len0 ≤ 100 := hlen rfl
    have K2 := Lib.hid hb2'
    have N2 := Lib.hid (duo_new w2)
    clear hlen hb2'
    go_wp2_with fail
    go_loopw [15] (fun v wr => ∃ (i : Nat) (ls : List EntT), i ≤ len0 ∧ v = .int .i64 i ∧ ls.length ≤ i ∧ Hid (Duo w2 [] wr w2.heap.size ls (w2.heap.size + 1) ls)) (fun v _ => (len0 - intOf v).toNat)
    case atStart => exact ⟨0, [], Nat.zero_le _, rfl, Nat.le_refl _, N2⟩
    case round =>
      obtain ⟨i, ls, hi, rfl, hls, hD⟩ := hrel
      have hp := hD.out.ltp
      by_cases hlt : i < len0
      · obtain ⟨ad, z, rfl, hadl, hB, wk, y1, y2, y3, hcs⟩ := HA.out.get hlt
        obtain ⟨c0, c1, c2, c3, c4⟩ := hcs wr (hD.out.kept.then_ K2.out)
        have HB := Lib.hid hB
        have b1 := bounds_u64 y1
        have b2 := bounds_u64 y2
        have b3 := bounds_u64 y3
        obtain ⟨zk, za, zn, zl, zA, zlen, zcap, zs⟩ := z
        dsimp only at *
        have hadr : ad.block < wr.heap.size := by have := (hD.out.kept.then_ K2.out).size; omega
        have d0 : decide (i < len0) = true := by simp; omega
        have D1 := Lib.hid (hD.out.more ((Kept.refl [] wr).alloc (.cells #[.int .i64 zk, .int .u64 za, .int .u64 zn, .int .u64 zl, .slice zA zlen zcap] 56)) wr.heap.size (Nat.le_refl _) (by simp))
        have DO := Lib.hid (fun w' (hd : Duo w2 [wr.heap.size] w' w2.heap.size ls (w2.heap.size + 1) ls) => do_any (W0 := W) hd (by omega) K2.out zk za zn zl zA zlen zcap zs b1 b2 b3 HB.out)
        clear hcs wk hB y1 y2 y3 b1 b2 b3
        go_wp2_with fail
        go_region_with (first
          | (go_at_call 21; (refine (DO.out _ (D1.out.keep0 (by (repeat' (first | (with_reducible exact Kept.refl _ _) | (with_reducible assumption) | (with_reducible refine Kept.then_ (by with_reducible assumption) ?_) | (with_reducible refine Kept.thenS (by with_reducible assumption) ?_) | (with_reducible refine Kept.alloc ?_ _) | (with_reducible refine Kept.drew ?_) | (with_reducible refine Kept.drewN ?_ _) | (with_reducible refine Kept.setNew ?_ ?_ _) | ((try simp only [World.size_alloc, World.size_setCell, World.size_drew, size_drewN] at *); (try dsimp only); omega)))))).mono ?_); rintro e w4 ⟨rfl, l2, hl2, hD4, hk4⟩; have hl3 : l2.length ≤ 1000 := (by omega); have D4 := Lib.hid hD4; obtain ⟨T4, hT4⟩ := hD4.rf; obtain ⟨Am, cm, Am', cm', hR4⟩ := hT4.reads; have R4 := Lib.hid hR4; have r0 := hR4.2.1; have r1 := hR4.1; have DA := Lib.hid (duo_all hD4 hl3); clear hD4 hT4 hR4 hk4)
          | (go_at_call 12; (refine DA.out.mono ?_); rintro e w5 ⟨⟨A5, c5, rfl, hL5⟩, hb5⟩; have r5 := (R4.out.keep hb5).2.1; have r6 := (R4.out.keep hb5).1; have DS := Lib.hid (same_any w5 _ _ A5 Am c5 cm (l2.map bk) l2.length (by simp) (by simpa using hl3) hL5 (R4.out.keep hb5).2.2.2.1); have D5 := Lib.hid (D4.out.keep0 hb5); clear hL5 hb5)
          | (go_at_call 16; (refine DS.out.mono ?_); rintro e w6 ⟨rfl, hb6⟩; have D6 := Lib.hid (D5.out.keep0 hb6); obtain ⟨rB, hrB⟩ : ∃ rB, bytesL l2 = rB := ⟨_, rfl⟩; have DB := Lib.hid (fun w' hk => duo_bytes (w := w') (D6.out.keep0 hk) hl3 rB hrB); have DC := Lib.hid (fun w' hk => duo_rbytes (w := w') (D6.out.keep0 hk) hl3 rB hrB); clear hb6 hrB)
          | (go_at_call 14; (first | refine (DB.out _ hb8).mono ?_ | refine (DB.out _ (Kept.refl _ _)).mono ?_); rintro e w7 ⟨rfl, hb7⟩)
          | (go_at_call 22; (first | refine (DC.out _ hb7).mono ?_ | refine (DC.out _ (Kept.refl _ _)).mono ?_); rintro e w8 ⟨rfl, hb8⟩))
        all_goals
          have D9 : Hid (Duo w2 [] _ w2.heap.size l2 (w2.heap.size + 1) l2) := Lib.hid ((by first | exact (D6.out.keep0 hb7).keep0 hb8 | exact (D6.out.keep0 hb8).keep0 hb7 : Duo w2 [wr.heap.size] _ w2.heap.size l2 (w2.heap.size + 1) l2).fewer (fun x hx => by cases hx))
          go_wp2_with fail
          go_roundw
          case rel => first | exact ⟨i + 1, l2, by omega, by go_num, by omega, D9⟩ | ((repeat apply Exists.intro); exact ⟨⟨i + 1, l2, by omega, by go_num, by omega, D9⟩, rfl⟩)
          case measure => simp [intOf]; omega
      · obtain rfl : i = len0 := by omega
        go_wp2_with fail
        go_ret
        exact ⟨rfl, (hD.out.kept.then_ K2.out).below⟩
theorem own : ownKnob Try.prog.godebug = none := by kernel_rfl
theorem laidOut : laidOutB Try.prog = true := by kernel_rfl
set_option maxRecDepth 100000 in
theorem lifted (os : Os) (started : os.Started) (H : Type) (enc : TypeId × Value → H) :
    ReturnsInHanded {} Try.checked os 7 .any (Rows.ledgerActsSpec.pre6 enc Try.prog Try.f7 Rows.ledgerActsRow.domain false) (Rows.ledgerActsSpec.post enc Try.prog Try.f7 false true false false) := by
  refine returnsInHanded_of_change_sized (C := Try.checked) own started (by kernel_rfl) Try.func7
    (ChangeSpec.witness6 (enc := enc) (C := Try.checked) false ⟨#[], #[.slice none 0 0], []⟩ 8 (by kernel_rfl) (by kernel_rfl) (by kernel_rfl) (by kernel_rfl)) ?_
  intro W base args ds gs before hval0 hW hcnd hsz _
  have hval : ∀ (j : Nat) t v, Try.f7.params[j]? = some t → args[j]? = some v → Value.okWide Try.prog W .any base t v := hval0
  have hW' := hW
  obtain ⟨p, q, hA0, hV, rfl, hfz, hnd⟩ := hW
  have hA : DataW.TrodAll enc Try.prog W 0 (fun _ => true) true Try.f7.params.toList args.toList ds p := hA0
  rw [Try.params7] at hA hval hsz
  obtain ⟨v0, vs0, d0, ds0, p0, q0, hargs, rfl, rfl, h0, r0⟩ := trodAll_cons hA
  obtain ⟨rfl, rfl, rfl⟩ := trodAll_nil r0
  obtain rfl : args = #[v0] := by cases args; simp_all
  obtain ⟨rfl, rfl⟩ := trodVars_none hV
  have k0 := h0
  have lt0 : ∀ x ∈ p0, x.block < W.heap.size := by obtain ⟨m, hm⟩ := k0; exact DataW.trod_lt m _ _ _ hm
  obtain ⟨a0, len0, cap0, rfl⟩ := okWide_slice Try.underlying22 (hval 0 22 v0 rfl rfl)
  obtain ⟨z0, w0⟩ := isT22_of h0 (fun n hn => by have := List.all_eq_true.1 hsz n (DataW.weights_mem_each (j := 0) (t := 22) rfl rfl n hn); simpa using this)
  clear hA0 hval0
  refine (walk a0 len0 cap0 z0 W w0).mono fun e W' ⟨he, bel⟩ => ?_
  subst he
  exact ⟨_, rfl, _, _, _, [], _, [], hW', trodAll_mk1 (shut_bool Try.underlying4 _), (trodAll_cons_mk (Below.trod laidOut (by kernel_rfl) (of_decide_eq_true (by kernel_rfl)) k0 bel lt0) trodAll_mk0), rfl, bel.frame _, fun h => by cases h⟩
theorem over : Rows.ledgerActsRow.holds Try.pinned (OpenSpec.ofChange Rows.ledgerActsSpec) :=
  OpenClaim.holds_of_wide 7 Try.f7 rfl rfl rfl rfl rfl rfl rfl ⟨rfl, rfl, rfl, rfl, rfl⟩ rfl rfl rfl rfl rfl (by kernel_rfl) Try.func7 (by kernel_rfl)
    (of_decide_eq_true (by kernel_rfl)) (by unfold Func.isWrapper; first | (rw [if_pos (by decide +kernel)]; kernel_rfl) | (rw [if_neg (by decide +kernel)]; exact ⟨rfl, rfl⟩))
    (fun os started H enc _ => lifted os started H enc)
theorem proved : Rows.LedgerActsSaid := over
#print axioms proved
end LedgerActs
end Go.Proofs.Ytdallcepachhoaa
