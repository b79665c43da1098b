/- The greatest and the least are among them, and no other is beyond; of none there is none. No condition. -/
import Derived.Test.YtnooelpdoeijbaaEnds
set_option linter.unusedVariables false
set_option linter.unusedSimpArgs false
namespace Go.Proofs.Ytnooelpdoeijbaa.CalcEnds
open Go.RowKit Go.ChangeShapes Go.WideShapes Go.ChangeAt Go.Joins
theorem most_at (A : Option Addr) (cap n : Nat) (zs : List Int) (V E : Int) (hn' : n = zs.length) (hV : mxV zs = V) (hE : (if zs.length = 0 then (5 : Int) else 0) = E) (w : World) (hr : RowX .u64 w A zs) (hn : zs.length ≤ 9223372036854775807) :
    Calls Try.prog 21 #[.slice A n cap] w fun e w' => e = .returned (.tuple #[.int .u64 V, .int .i64 E]) ∧ Kept [] w w' := by
  subst hn' hV hE
  exact most_any A cap zs w hr hn
theorem least_at (A : Option Addr) (cap n : Nat) (zs : List Int) (V E : Int) (hn' : n = zs.length) (hV : mnV zs = V) (hE : (if zs.length = 0 then (5 : Int) else 0) = E) (w : World) (hr : RowX .u64 w A zs) (hn : zs.length ≤ 9223372036854775807) :
    Calls Try.prog 22 #[.slice A n cap] w fun e w' => e = .returned (.tuple #[.int .u64 V, .int .i64 E]) ∧ Kept [] w w' := by
  subst hn' hV hE
  exact least_any A cap zs w hr hn
theorem one_row {w : World} {b : Nat} {t : TypeId} {x : Int} (h : Blk w b t #[.int .u64 x]) : RowX .u64 w (some ⟨b, 0, none⟩) [x] :=
  RowX.of_blk h (fun i hi => by
    match i, hi with
    | 0, _ => rfl)
theorem mem_step (zs : List Int) (k : Nat) (h : k < zs.length) (v x : Int) (hx : zs[k]?.getD 0 = x) (b : Bool) (hb : b = decide (v ∈ zs.take k)) : (b || x == v) = decide (v ∈ zs.take (k + 1)) := by
  rw [take_s zs k h, hx, hb, Bool.eq_iff_iff, Bool.or_eq_true, decide_eq_true_iff, decide_eq_true_iff, beq_iff_eq, List.mem_append, List.mem_singleton]
  constructor
  · rintro (h | h)
    · exact .inl h
    · exact .inr h.symm
  · rintro (h | h)
    · exact .inl h
    · exact .inr h.symm
set_option maxRecDepth 100000 in
set_option maxHeartbeats 1000000 in
theorem walk (a0 : Option Addr) (len0 cap0 : Nat) (z0 : List Int) (W : World) (w0 : IsRow .u64 W a0 len0 cap0 z0) :
    Calls Try.prog 10 #[.slice a0 len0 cap0] W fun e w' => e = .returned (.bool true) ∧ Below W.heap.size W w' := by
  obtain ⟨ys, hl, hr, hcap, hwf, hlc, hcm⟩ := w0.seen
  have hz : U64s ys := fun x hx => bounds_u64 (hwf x hx)
  unfold maxLen at hcm
  clear w0 hwf
  by_cases h0 : len0 = 0
  · subst h0
    have hy : ys = [] := List.eq_nil_of_length_eq_zero hl
    subst hy
    have C1 := Lib.hid (fun w => most_at a0 cap0 0 [] 0 5 rfl rfl rfl w (RowX.nil _ _ _) (by simp))
    have C2 := Lib.hid (fun w => least_at a0 cap0 0 [] 0 5 rfl rfl rfl w (RowX.nil _ _ _) (by simp))
    clear hr hz
    go_enter Try.func10, Try.ntmps10
    go_wp2_with fail
    (with_reducible refine (alive_any _).mono ?_)
    rintro e w1 ⟨rfl, hb1⟩
    have hs1 := hb1.size
    (try simp only [World.size_alloc, World.size_setCell, World.size_drew, size_drewN] at hs1)
    go_wp2_with fail
    (with_reducible refine (C1.out _).mono ?_)
    rintro e w2 ⟨rfl, hb2⟩
    have hs2 := hb2.size
    (try simp only [World.size_alloc, World.size_setCell, World.size_drew, size_drewN] at hs2)
    go_wp2_with fail
    (with_reducible refine (C2.out _).mono ?_)
    rintro e w3 ⟨rfl, hb3⟩
    have hs3 := hb3.size
    (try simp only [World.size_alloc, World.size_setCell, World.size_drew, size_drewN] at hs3)
    go_wp2_with fail
    go_ret
    exact ⟨rfl, Kept.below (by (repeat' (first | (with_reducible exact Kept.refl _ _) | (with_reducible assumption) | (with_reducible refine Kept.then_ (by with_reducible assumption) ?_) | (with_reducible refine Kept.thenS (by with_reducible assumption) ?_) | (with_reducible refine Kept.alloc ?_ _) | (with_reducible refine Kept.drew ?_) | (with_reducible refine Kept.drewN ?_ _) | (with_reducible refine Kept.setNew ?_ ?_ _) | ((try simp only [World.size_alloc, World.size_setCell, World.size_drew, size_drewN] at *); (try dsimp only); omega))))⟩
  · have hE : (if ys.length = 0 then (5 : Int) else 0) = 0 := if_neg (by omega)
    have C1 := Lib.hid (fun w (hk : Kept [] W w) => most_at a0 cap0 len0 ys _ 0 hl.symm rfl hE w (hr.keep hk) (by omega))
    have C2 := Lib.hid (fun w (hk : Kept [] W w) => least_at a0 cap0 len0 ys _ 0 hl.symm rfl hE w (hr.keep hk) (by omega))
    obtain ⟨m1, m2⟩ := mxV_mem (zs := ys) (by omega)
    obtain ⟨n1, n2⟩ := mnV_mem (zs := ys) (by omega)
    obtain ⟨ad, rfl, hc⟩ := hr.get (by omega)
    have HC := Lib.hid hc
    have HL := Lib.hid hl
    have M1 := Lib.hid m1
    have M2 := Lib.hid m2
    have N1 := Lib.hid n1
    have N2 := Lib.hid n2
    have HZ := Lib.hid hz
    have hmz := hz _ m1
    have C3 := Lib.hid (fun b t w hB => most_at (some ⟨b, 0, none⟩) 1 1 [mxV ys] (mxV ys) 0 rfl rfl rfl w (one_row (t := t) hB) (by simp))
    generalize mxV ys = a at *
    generalize mnV ys = b at *
    have q0 : ((len0 : Int) == 0) = false := by simpa using h0
    clear hr hz hE hc m1 m2 n1 n2 hl
    go_enter Try.func10, Try.ntmps10
    go_wp2_with fail
    (with_reducible refine (alive_any _).mono ?_)
    rintro e w1 ⟨rfl, hb1⟩
    have hs1 := hb1.size
    (try simp only [World.size_alloc, World.size_setCell, World.size_drew, size_drewN] at hs1)
    go_wp2_with fail
    (with_reducible refine (C1.out _ (by (repeat' (first | (with_reducible exact Kept.refl _ _) | (with_reducible assumption) | (with_reducible refine Kept.then_ (by with_reducible assumption) ?_) | (with_reducible refine Kept.thenS (by with_reducible assumption) ?_) | (with_reducible refine Kept.alloc ?_ _) | (with_reducible refine Kept.drew ?_) | (with_reducible refine Kept.drewN ?_ _) | (with_reducible refine Kept.setNew ?_ ?_ _) | ((try simp only [World.size_alloc, World.size_setCell, World.size_drew, size_drewN] at *); (try dsimp only); omega))))).mono ?_)
    rintro e w2 ⟨rfl, hb2⟩
    have hs2 := hb2.size
    (try simp only [World.size_alloc, World.size_setCell, World.size_drew, size_drewN] at hs2)
    go_wp2_with fail
    (with_reducible refine (C2.out _ (by (repeat' (first | (with_reducible exact Kept.refl _ _) | (with_reducible assumption) | (with_reducible refine Kept.then_ (by with_reducible assumption) ?_) | (with_reducible refine Kept.thenS (by with_reducible assumption) ?_) | (with_reducible refine Kept.alloc ?_ _) | (with_reducible refine Kept.drew ?_) | (with_reducible refine Kept.drewN ?_ _) | (with_reducible refine Kept.setNew ?_ ?_ _) | ((try simp only [World.size_alloc, World.size_setCell, World.size_drew, size_drewN] at *); (try dsimp only); omega))))).mono ?_)
    rintro e w3 ⟨rfl, hb3⟩
    have hs3 := hb3.size
    (try simp only [World.size_alloc, World.size_setCell, World.size_drew, size_drewN] at hs3)
    go_wp2_with fail
    have hk3 : Kept [] W w3 := by (repeat' (first | (with_reducible exact Kept.refl _ _) | (with_reducible assumption) | (with_reducible refine Kept.then_ (by with_reducible assumption) ?_) | (with_reducible refine Kept.thenS (by with_reducible assumption) ?_) | (with_reducible refine Kept.alloc ?_ _) | (with_reducible refine Kept.drew ?_) | (with_reducible refine Kept.drewN ?_ _) | (with_reducible refine Kept.setNew ?_ ?_ _) | ((try simp only [World.size_alloc, World.size_setCell, World.size_drew, size_drewN] at *); (try dsimp only); omega)))
    go_loop [7, 8, 44] (fun c d i => ∃ (k : Nat) (p q : Bool), k ≤ len0 ∧ c = .bool p ∧ d = .bool q ∧ i = .int .i64 k ∧ Hid (p = decide (a ∈ ys.take k) ∧ q = decide (b ∈ ys.take k))) (fun _ _ i => len0 - (intOf i).toNat)
    case atStart => exact ⟨0, false, false, by omega, rfl, rfl, rfl, Lib.hid (by simp)⟩
    case round =>
      obtain ⟨k, p, q, hk, rfl, rfl, rfl, hpq⟩ := hrel
      by_cases hlt : k < len0
      · have hlt' : Hid (k < ys.length) := Lib.hid (by rw [HL.out]; exact hlt)
        have hcell := HC.out w3 hk3 k hlt'.out
        have hm : Hid (ys[k]?.getD 0 ∈ ys) := Lib.hid (getD_mem hlt'.out)
        have hu := M2.out _ hm.out
        have hd := N2.out _ hm.out
        obtain ⟨x, hx⟩ : ∃ x, ys[k]?.getD 0 = x := ⟨_, rfl⟩
        rw [hx] at hcell hu hd
        have HX := Lib.hid hx
        have S1 := Lib.hid (mem_step ys k hlt'.out a x HX.out p hpq.out.1)
        have S2 := Lib.hid (mem_step ys k hlt'.out b x HX.out q hpq.out.2)
        clear hx hm hpq
        cases p <;> cases q <;>
        · go_wp2_with fail
          go_round
          case rel => exact ⟨k + 1, _, _, by omega, rfl, rfl, by go_num, Lib.hid ⟨S1.out, S2.out⟩⟩
          case measure => simp [intOf]; omega
      · obtain rfl : k = len0 := by omega
        have hp : p = true := by rw [hpq.out.1, ← HL.out, List.take_length]; exact decide_eq_true M1.out
        have hq : q = true := by rw [hpq.out.2, ← HL.out, List.take_length]; exact decide_eq_true N1.out
        subst hp hq
        clear hpq
        go_wp2_with fail
        (with_reducible refine (C3.out _ _ _ (Blk.new _ _ _)).mono ?_)
        rintro e w4 ⟨rfl, hb4⟩
        have hs4 := hb4.size
        (try simp only [World.size_alloc, World.size_setCell, World.size_drew, size_drewN] at hs4)
        go_wp2_with fail
        go_ret
        exact ⟨rfl, Kept.below (by (repeat' (first | (with_reducible exact Kept.refl _ _) | (with_reducible assumption) | (with_reducible refine Kept.then_ (by with_reducible assumption) ?_) | (with_reducible refine Kept.thenS (by with_reducible assumption) ?_) | (with_reducible refine Kept.alloc ?_ _) | (with_reducible refine Kept.drew ?_) | (with_reducible refine Kept.drewN ?_ _) | (with_reducible refine Kept.setNew ?_ ?_ _) | ((try simp only [World.size_alloc, World.size_setCell, World.size_drew, size_drewN] at *); (try dsimp only); omega))))⟩
theorem own : ownKnob Try.prog.godebug = none := by kernel_rfl
theorem laidOut : laidOutB Try.prog = true := by kernel_rfl
set_option maxRecDepth 100000 in
theorem lifted (os : Os) (started : os.Started) (H : Type) (enc : TypeId × Value → H) :
    ReturnsInHanded {} Try.checked os 10 .any (Rows.calcEndsSpec.pre6 enc Try.prog Try.f10 Rows.calcEndsRow.domain false) (Rows.calcEndsSpec.post enc Try.prog Try.f10 false true false false) := by
  refine returnsInHanded_of_change (C := Try.checked) own started (by kernel_rfl) Try.func10
    (ChangeSpec.witness6 (enc := enc) (C := Try.checked) false ⟨#[], #[.slice none 0 0], []⟩ 8 (by kernel_rfl) (by kernel_rfl) (by kernel_rfl) (by kernel_rfl)) ?_
  intro W base args ds gs before hval0 hW hcnd _
  have hval : ∀ (j : Nat) t v, Try.f10.params[j]? = some t → args[j]? = some v → Value.okWide Try.prog W .any base t v := hval0
  have hW' := hW
  obtain ⟨p, q, hA0, hV, rfl, hfz, hnd⟩ := hW
  have hA : DataW.TrodAll enc Try.prog W 0 (fun _ => true) true Try.f10.params.toList args.toList ds p := hA0
  rw [Try.params10] at hA hval
  obtain ⟨v0, vs0, d0, ds0, p0, q0, hargs, rfl, rfl, h0, r0⟩ := trodAll_cons hA
  obtain ⟨rfl, rfl, rfl⟩ := trodAll_nil r0
  obtain rfl : args = #[v0] := by cases args; simp_all
  obtain ⟨rfl, rfl⟩ := trodVars_none hV
  have k0 := h0
  have lt0 : ∀ x ∈ p0, x.block < W.heap.size := by obtain ⟨m, hm⟩ := k0; exact DataW.trod_lt m _ _ _ hm
  obtain ⟨a0, len0, cap0, rfl⟩ := okWide_slice Try.underlying22 (hval 0 22 v0 rfl rfl)
  obtain ⟨z0, w0⟩ := isRow_of Try.underlying22 Try.underlying24 (by kernel_rfl) h0
  clear hA0 hval0
  refine (walk a0 len0 cap0 z0 W w0).mono fun e W' ⟨he, bel⟩ => ?_
  subst he
  exact ⟨_, rfl, _, _, _, [], _, [], hW', trodAll_mk1 (shut_bool Try.underlying4 _), (trodAll_cons_mk (Below.trod laidOut (by kernel_rfl) (of_decide_eq_true (by kernel_rfl)) k0 bel lt0) trodAll_mk0), rfl, bel.frame _, fun h => by cases h⟩
theorem over : Rows.calcEndsRow.holds Try.pinned (OpenSpec.ofChange Rows.calcEndsSpec) :=
  OpenClaim.holds_of_wide 10 Try.f10 rfl rfl rfl rfl rfl rfl rfl ⟨rfl, rfl, rfl, rfl, rfl⟩ rfl rfl rfl rfl rfl (by kernel_rfl) Try.func10 (by kernel_rfl)
    (of_decide_eq_true (by kernel_rfl)) (by unfold Func.isWrapper; first | (rw [if_pos (by decide +kernel)]; kernel_rfl) | (rw [if_neg (by decide +kernel)]; exact ⟨rfl, rfl⟩))
    (fun os started H enc _ => lifted os started H enc)
theorem proved : Rows.CalcEndsSaid := over
#print axioms proved
end Go.Proofs.Ytnooelpdoeijbaa.CalcEnds
