/- As often as it was told true it is refused, in that order; behind what was told, it gives. No condition. -/
import Derived.Test.YtekblfnemcaaeaaArUp
import Derived.Test.YtekblfnemcaaeaaBools
set_option linter.unusedVariables false
set_option linter.unusedSimpArgs false
namespace Go.Proofs.Ytekblfnemcaaeaa.ArenaTold
open Go.RowKit Go.ChangeShapes Go.WideShapes Go.ChangeAt Go.Joins
def St (hi : Nat) (ref : Int) (ts : List Bool) (a : Ar) : Prop :=
  Inv a ∧ a.n = 64 ∧ a.lim = 64 ∧ a.ts = ts ∧ (∀ i : Nat, i < 64 → a.bs[i]? = some (decide (i < hi))) ∧ total a.ls = hi ∧ a.ref = ref
def StK (W : World) (p hi : Nat) (ref : Int) (ts : List Bool) (w : World) : Prop := ∃ a, St hi ref ts a ∧ UpK W w p a
theorem StK.ltp {W w : World} {p hi : Nat} {ref : Int} {ts : List Bool} (h : StK W p hi ref ts w) : p < w.heap.size := by
  obtain ⟨a, _, h⟩ := h
  exact h.ltp
theorem StK.keep0 {W w w' : World} {p hi : Nat} {ref : Int} {ts : List Bool} (h : StK W p hi ref ts w) (hk : Kept [] w w') : StK W p hi ref ts w' := by
  obtain ⟨a, h1, h⟩ := h
  exact ⟨a, h1, h.keep0 hk⟩
theorem StK.kept {W w : World} {p hi : Nat} {ref : Int} {ts : List Bool} (h : StK W p hi ref ts w) : Kept [] W w := by
  obtain ⟨a, _, h⟩ := h
  exact h.2
theorem res_yes {W w : World} {p hi : Nat} {ref : Int} {ts : List Bool} (h : StK W p hi ref ts w) (ht : ts.headD false = false) (hl : ts.length ≤ 1000) (hk : hi < 64) (hr : 0 ≤ ref ∧ ref ≤ 1000) :
    Calls Try.prog 11 #[.pointer (some ⟨p, 0, none⟩), .int .i64 1] w fun e w' => e = .returned (.tuple #[.int .i64 hi, .int .i64 0]) ∧ StK W p (hi + 1) ref ts.tail w' := by
  obtain ⟨a, ⟨h1, h2, h3, h4, h6, h7, h8⟩, hu⟩ := h
  have hlim := h1.limit
  have hlen := h1.len
  refine (up_res W w p a hu h1 (by rw [h4]; exact hl) (by omega) 1).mono fun e w' ⟨x, er, a', he, hR, hU⟩ => ?_
  have hfree : FreeAt a.bs hi 1 := ⟨by omega, fun i hi' => by
    rw [show hi + i = hi by omega, h6 hi (by omega)]
    congr 1
    simp⟩
  obtain ⟨rfl, rfl, j, hj, rfl⟩ := hR.ok h1 1 hi rfl (by omega) (by omega) (by rw [h4]; exact ht) (by omega) hfree (fun b hb hf => by
    have := hf.2 0 (by omega)
    rw [show b + 0 = b by omega, h6 b (by omega)] at this
    simp [hb] at this)
  refine ⟨he, _, ⟨h1.yes hi 1 j (by omega) hfree hj (by have := h1.sum; omega), h2, h3, by show a.ts.tail = ts.tail; rw [h4], fun i hi' => ?_, by rw [total_yes]; omega, h8⟩, hU⟩
  show (put a.bs hi 1 true)[i]? = _
  rw [Inv.put_get _ _ _ _ (by omega) i (by omega), h6 i hi']
  by_cases hc : hi ≤ i ∧ i < hi + 1
  · rw [if_pos hc]
    congr 1
    symm
    rw [decide_eq_true_iff]
    omega
  · rw [if_neg hc]
    congr 1
    rw [decide_eq_decide]
    omega
theorem res_no {W w : World} {p hi : Nat} {ref : Int} {ts : List Bool} (h : StK W p hi ref ts w) (ht : ts.headD false = true) (hl : ts.length ≤ 1000) (hr : 0 ≤ ref ∧ ref ≤ 1000) :
    Calls Try.prog 11 #[.pointer (some ⟨p, 0, none⟩), .int .i64 1] w fun e w' => e = .returned (.tuple #[.int .i64 0, .int .i64 4]) ∧ StK W p hi (ref + 1) ts.tail w' := by
  obtain ⟨a, ⟨h1, h2, h3, h4, h6, h7, h8⟩, hu⟩ := h
  refine (up_res W w p a hu h1 (by rw [h4]; exact hl) (by omega) 1).mono fun e w' ⟨x, er, a', he, hR, hU⟩ => ?_
  obtain ⟨rfl, rfl, rfl⟩ := hR.full (by omega) (by omega) (.inl (by rw [h4]; exact ht))
  exact ⟨he, _, ⟨h1.no, h2, h3, by show a.ts.tail = ts.tail; rw [h4], h6, h7, by show a.ref + 1 = ref + 1; omega⟩, hU⟩
def bools (B : Nat → Bool) (n : Nat) : List Bool := (List.range n).map B
theorem bools_len (B : Nat → Bool) (n : Nat) : (bools B n).length = n := by unfold bools; simp
theorem bools_at (B : Nat → Bool) (n i : Nat) (h : i < n) : (bools B n)[i]? = some (B i) := by unfold bools; simp [h]
theorem bools_drop (B : Nat → Bool) (n i : Nat) (h : i < n) : ((bools B n).drop i).headD false = B i := by
  have := bools_at B n i h
  rw [List.headD_eq_head?_getD, List.head?_drop, this]
  rfl
theorem rowB_of {W : World} {a : Option Addr} {len cap : Nat} {B : Nat → Bool} (h : IsBools W a len cap B) : RowB W a (bools B len) := fun h0 => by
  rw [bools_len] at h0
  obtain ⟨x, rfl, hx, _⟩ := h.get h0
  refine ⟨x, rfl, fun i hi => ?_⟩
  rw [bools_len] at hi
  obtain ⟨x', hx', _, hc⟩ := h.get hi
  cases hx'
  rw [hc W (Kept.refl _ _), bools_at B len i hi]
  rfl
theorem isB_none {W : World} {a : Option Addr} {len cap : Nat} {B : Nat → Bool} (h : IsBools W a len cap B) : a = none → cap = 0 := by
  rcases h with ⟨rfl, rfl, rfl⟩ | ⟨x, rfl, _⟩
  · exact fun _ => rfl
  · intro h; cases h
set_option maxRecDepth 100000 in
set_option maxHeartbeats 4000000 in
theorem walk (a0 : Option Addr) (len0 cap0 : Nat) (z0 : Nat → Bool) (W : World) (w0 : IsBools W a0 len0 cap0 z0) :
    Calls Try.prog 4 #[.slice a0 len0 cap0] W fun e W' => e = .returned (.bool true) ∧ Below W.heap.size W W' := by
  have C1 := Lib.hid (alive_any W)
  have C2 : Hid (∀ w, Kept [] W w → Calls Try.prog 10 #[.int .i64 64, .int .i64 64] w fun e w' => ∃ p, e = .returned (.tuple #[.pointer (some ⟨p, 0, none⟩), .int .i64 0]) ∧ StK W p 0 0 [] w') := Lib.hid (fun w hk' => (up_new W w hk' 64 64 (by omega) (by omega) (by omega)).mono fun e w' ⟨p, he, hu⟩ => ⟨p, he, _, ⟨inv_new 64 64 (by omega) (by omega) (by omega), rfl, rfl, rfl, fun i hi => by
    show (frees 64)[i]? = _
    unfold frees
    rw [List.getElem?_replicate, if_pos hi, decide_eq_false (show ¬ (i < 0) by omega)], rfl, rfl⟩, hu⟩)
  have HB := Lib.hid w0
  by_cases hlen : len0 ≤ 60
  · have C3 : Hid (∀ w p, StK W p 0 0 [] w → Calls Try.prog 15 #[.pointer (some ⟨p, 0, none⟩), .slice a0 len0 cap0] w fun e w' => e = .returned (.int .i64 0) ∧ StK W p 0 0 (bools z0 len0) w') := Lib.hid (fun w p ⟨a, ⟨h1, h2, h3, h4, h6, h7, h8⟩, ⟨⟨S, k1, k2⟩, k3⟩⟩ =>
      (refuse_ok S w p a k1 a0 len0 cap0 (bools z0 len0) (bools_len _ _).symm ((rowB_of w0).keep k3) (isB_none w0) (by rw [h4, bools_len]; simp; omega)).mono fun e w' ⟨he, S', l1, l2, l3⟩ => ⟨he, { a with ts := a.ts ++ bools z0 len0 }, ⟨h1.tell _, h2, h3, by show a.ts ++ bools z0 len0 = _; rw [h4]; rfl, h6, h7, h8⟩, UpK.left k2 k3 ⟨S', l1, l2, l3⟩⟩)
    have q0 : (len0 : Int) ≤ 60 := by omega
    clear w0
    go_enter Try.func4, Try.ntmps4
    go_wp2_with fail
    (with_reducible refine (C1.out).mono ?_)
    rintro e w1 ⟨rfl, hb1⟩
    have hs1 := hb1.size
    (try simp only [World.size_alloc, World.size_setCell, World.size_drew, size_drewN] at hs1)
    go_wp2_with fail
    (with_reducible refine (C2.out _ hb1).mono ?_)
    rintro e w2 ⟨p, rfl, hs2⟩
    have S2 := Lib.hid hs2
    clear hs2 hb1
    go_wp2_with fail
    (with_reducible refine (C3.out _ _ S2.out).mono ?_)
    rintro e w3 ⟨rfl, hs3⟩
    have S3 := Lib.hid hs3
    clear hs3
    go_wp2_with fail
    go_loopw [5, 33] (fun u v wr => ∃ i c : Nat, i ≤ len0 ∧ c ≤ i ∧ u = .int .i64 c ∧ v = .int .i64 i ∧ Hid (StK W p (i - c) c ((bools z0 len0).drop i) wr)) (fun _ v _ => (len0 - intOf v).toNat)
    case atStart => exact ⟨0, 0, by omega, by omega, rfl, rfl, Lib.hid (by simpa using S3.out)⟩
    case round =>
      obtain ⟨i, c, hi, hc, rfl, rfl, hs⟩ := hrel
      by_cases hlt : i < len0
      · obtain ⟨ad, rfl, hadl, hcell⟩ := HB.out.get hlt
        have hcl := hcell wr hs.out.kept
        have hdl : ((bools z0 len0).drop i).length ≤ 1000 := by rw [List.length_drop, bools_len]; omega
        have hhd := bools_drop z0 len0 i hlt
        have htl : ((bools z0 len0).drop i).tail = (bools z0 len0).drop (i + 1) := List.tail_drop
        have HHD := Lib.hid hhd
        have HTL := Lib.hid htl
        have hpr := hs.out.ltp
        clear hhd htl hcell
        generalize z0 i = b at hcl HHD
        cases b with
        | true =>
          have D := Lib.hid (res_no hs.out HHD.out hdl (by omega))
          rw [HTL.out] at D
          go_wp2_with fail
          (with_reducible refine D.out.mono ?_)
          rintro e w4 ⟨rfl, hs4⟩
          have S4 := Lib.hid hs4
          clear hs4
          go_wp2_with fail
          go_roundw
          case rel => exact ⟨i + 1, c + 1, by omega, by omega, by go_num, by go_num, Lib.hid (by have := S4.out; rwa [show i + 1 - (c + 1) = i - c by omega, show (((c + 1 : Nat)) : Int) = (c : Int) + 1 by omega])⟩
          case measure => simp [intOf]; omega
        | false =>
          have D := Lib.hid (res_yes hs.out HHD.out hdl (by omega) (by omega))
          rw [HTL.out] at D
          go_wp2_with fail
          (with_reducible refine D.out.mono ?_)
          rintro e w4 ⟨rfl, hs4⟩
          have S4 := Lib.hid hs4
          clear hs4
          go_wp2_with fail
          go_roundw
          case rel => exact ⟨i + 1, c, by omega, by omega, rfl, by go_num, Lib.hid (by have := S4.out; rwa [show i + 1 - c = i - c + 1 by omega])⟩
          case measure => simp [intOf]; omega
      · obtain rfl : i = len0 := by omega
        have hnil : (bools z0 i).drop i = [] := List.drop_eq_nil_of_le (by rw [bools_len]; omega)
        rw [hnil] at hs
        have hs0 := hs.out
        have D := Lib.hid (res_yes hs0 rfl (by simp) (by omega) (by omega))
        have e1 : ((i - c : Nat) : Int) = (i : Int) - (c : Int) := by omega
        rw [e1] at D
        have hpr := hs.out.ltp
        clear hnil hs0
        go_wp2_with fail
        (with_reducible refine D.out.mono ?_)
        rintro e w4 ⟨rfl, hs4⟩
        have DR : Hid (Calls Try.prog 14 #[.pointer (some ⟨p, 0, none⟩)] w4 fun e w'' => e = .returned (.int .i64 c) ∧ Kept [] w4 w'') := Lib.hid (by
          obtain ⟨a, ⟨h1, h2, h3, h4, h6, h7, h8⟩, hu⟩ := hs4
          exact up_refused W w4 p a hu _ h8)
        have DG : Hid (∀ w', Kept [] w4 w' → Calls Try.prog 13 #[.pointer (some ⟨p, 0, none⟩)] w' fun e w'' => e = .returned (.int .i64 ((i : Int) - c + 1)) ∧ Kept [] w' w'') := Lib.hid (fun w' hk' => by
          obtain ⟨a, ⟨h1, h2, h3, h4, h6, h7, h8⟩, hu⟩ := hs4
          exact up_given W w' p a (hu.keep0 hk') h1 _ (by omega))
        have K4 := Lib.hid hs4.kept
        clear hs4 e1
        go_wp2_with fail
        (with_reducible refine (DR.out).mono ?_)
        rintro e w7 ⟨rfl, hb7⟩
        have hs7 := hb7.size
        (try simp only [World.size_alloc, World.size_setCell, World.size_drew, size_drewN] at hs7)
        go_wp2_with fail
        (with_reducible refine (DG.out _ hb7).mono ?_)
        rintro e w8 ⟨rfl, hb8⟩
        go_wp2_with fail
        go_ret
        exact ⟨rfl, (hb8.then_ (hb7.then_ K4.out)).below⟩
  · have q0 : decide (60 < (len0 : Int)) = true := by simp; omega
    clear w0
    go_enter Try.func4, Try.ntmps4
    go_wp2_with fail
    (with_reducible refine (C1.out).mono ?_)
    rintro e w1 ⟨rfl, hb1⟩
    have hs1 := hb1.size
    (try simp only [World.size_alloc, World.size_setCell, World.size_drew, size_drewN] at hs1)
    go_wp2_with fail
    (with_reducible refine (C2.out _ hb1).mono ?_)
    rintro e w2 ⟨p, rfl, hs2⟩
    have S2 := Lib.hid hs2.kept
    clear hs2 hb1
    go_wp2_with fail
    go_ret
    exact ⟨rfl, S2.out.below⟩
theorem own : ownKnob Try.prog.godebug = none := by kernel_rfl
theorem laidOut : laidOutB Try.prog = true := by kernel_rfl
set_option maxRecDepth 100000 in
theorem lifted (os : Os) (started : os.Started) (H : Type) (enc : TypeId × Value → H) :
    ReturnsInHanded {} Try.checked os 4 .any (Rows.arenaToldSpec.pre6 enc Try.prog Try.f4 Rows.arenaToldRow.domain false) (Rows.arenaToldSpec.post enc Try.prog Try.f4 false true false false) := by
  refine returnsInHanded_of_change (C := Try.checked) own started (by kernel_rfl) Try.func4
    (ChangeSpec.witness6 (enc := enc) (C := Try.checked) false ⟨#[], #[.slice none 0 0], []⟩ 8 (by kernel_rfl) (by kernel_rfl) (by kernel_rfl) (by kernel_rfl)) ?_
  intro W base args ds gs before hval0 hW hcnd _
  have hval : ∀ (j : Nat) t v, Try.f4.params[j]? = some t → args[j]? = some v → Value.okWide Try.prog W .any base t v := hval0
  have hW' := hW
  obtain ⟨p, q, hA0, hV, rfl, hfz, hnd⟩ := hW
  have hA : DataW.TrodAll enc Try.prog W 0 (fun _ => true) true Try.f4.params.toList args.toList ds p := hA0
  rw [Try.params4] at hA hval
  obtain ⟨v0, vs0, d0, ds0, p0, q0, hargs, rfl, rfl, h0, r0⟩ := trodAll_cons hA
  obtain ⟨rfl, rfl, rfl⟩ := trodAll_nil r0
  obtain rfl : args = #[v0] := by cases args; simp_all
  obtain ⟨rfl, rfl⟩ := trodVars_none hV
  have k0 := h0
  have lt0 : ∀ x ∈ p0, x.block < W.heap.size := by obtain ⟨m, hm⟩ := k0; exact DataW.trod_lt m _ _ _ hm
  obtain ⟨a0, len0, cap0, rfl⟩ := okWide_slice Try.underlying32 (hval 0 32 v0 rfl rfl)
  obtain ⟨z0, w0⟩ := isT32_of h0
  clear hA0 hval0
  refine (walk a0 len0 cap0 z0 W w0).mono fun e W' ⟨he, bel⟩ => ?_
  subst he
  exact ⟨_, rfl, _, _, _, [], _, [], hW', trodAll_mk1 (shut_bool Try.underlying4 _), (trodAll_cons_mk (Below.trod laidOut (by kernel_rfl) (of_decide_eq_true (by kernel_rfl)) k0 bel lt0) trodAll_mk0), rfl, bel.frame _, fun h => by cases h⟩
theorem over : Rows.arenaToldRow.holds Try.pinned (OpenSpec.ofChange Rows.arenaToldSpec) :=
  OpenClaim.holds_of_wide 4 Try.f4 rfl rfl rfl rfl rfl rfl rfl ⟨rfl, rfl, rfl, rfl, rfl⟩ rfl rfl rfl rfl rfl (by kernel_rfl) Try.func4 (by kernel_rfl)
    (of_decide_eq_true (by kernel_rfl)) (by unfold Func.isWrapper; first | (rw [if_pos (by decide +kernel)]; kernel_rfl) | (rw [if_neg (by decide +kernel)]; exact ⟨rfl, rfl⟩))
    (fun os started H enc _ => lifted os started H enc)
theorem proved : Rows.ArenaToldSaid := over
#print axioms proved
end Go.Proofs.Ytekblfnemcaaeaa.ArenaTold
