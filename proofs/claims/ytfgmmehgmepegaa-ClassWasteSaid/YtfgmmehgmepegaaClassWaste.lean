/- A plan has no more than twice the bytes that were asked for, or 16; small alignments ask for no more. No condition. -/
import Derived.Test.YtfgmmehgmepegaaPlan
set_option linter.unusedVariables false
set_option linter.unusedSimpArgs false
namespace Go.Proofs.Ytfgmmehgmepegaa.ClassWaste
open Go.RowKit Go.ChangeShapes Go.WideShapes Go.ChangeAt Go.Joins
set_option maxRecDepth 100000 in
set_option maxHeartbeats 1000000 in
theorem walk' (a0 n : Int) (W : World) (b0 : 0 ≤ a0 ∧ a0 ≤ 4294967295) (n0 : 1 ≤ n) (n1 : n ≤ 1048576) (hn : a0 % 1048577 = 0 ∧ n = 1 ∨ a0 % 1048577 = n ∧ 1 ≤ n) :
    Calls Try.prog 7 #[.int .u32 a0] W fun e w' => e = .returned (.bool true) ∧ Below W.heap.size W w' := by
  have hok1 : AlignOk 1 := by unfold AlignOk; omega
  obtain ⟨c1, s1, g1, u1, e1, p1⟩ := planIs n 1 n1 hok1
  have C1 := Lib.hid (for_at n 1 (by omega) n1 hok1 _ _ _ _ e1)
  have C2 := Lib.hid (fun (a : Int) (ha : a = 1 ∨ a = 2 ∨ a = 4 ∨ a = 8 ∨ a = 16) => for_at n a (by omega) n1 (by unfold AlignOk; omega) _ _ _ _ ((plan_16 n a ha).trans e1))
  have h1 : u1 ≤ max 16 (2 * n) := by have := p1.waste n0; omega
  clear e1 p1 hok1
  have hc : (u1 ≤ 16 ∧ a0 % 1048577 = 0 ∧ n = 1) ∨ (u1 ≤ 16 ∧ a0 % 1048577 = n ∧ 1 ≤ n ∧ 2 * n ≤ 16) ∨ (u1 ≤ 2 * n ∧ a0 % 1048577 = n ∧ 1 ≤ n ∧ 16 < 2 * n) := by omega
  clear hn h1
  rcases hc with ⟨h1, hn, rfl⟩ | ⟨h1, hn, n2, n3⟩ | ⟨h1, hn, n2, n3⟩ <;>
  · go_enter Try.func7, Try.ntmps7
    go_wp2_with fail
    (with_reducible refine (alive_any _).mono ?_)
    rintro e w1 ⟨rfl, hb1⟩
    have hs1 := hb1.size
    (try simp only [World.size_alloc, World.size_setCell, World.size_drew, size_drewN] at hs1)
    go_wp2_with fail
    (with_reducible refine (C1.out _).mono ?_)
    rintro e w2 ⟨rfl, hb2⟩
    have hs2 := hb2.size
    (try simp only [World.size_alloc, World.size_setCell, World.size_drew, size_drewN] at hs2)
    go_wp2_with fail
    go_loopw [6] (fun c wr => ∃ a, c = .int .u64 a ∧ 1 ≤ a ∧ a ≤ 32 ∧ Hid (a = 1 ∨ a = 2 ∨ a = 4 ∨ a = 8 ∨ a = 16 ∨ a = 32) ∧ Blk wr w2.heap.size 25 #[.int .i64 c1, .int .i64 s1, .int .i64 g1, .int .u64 u1] ∧ Kept [] W wr) (fun c _ => 32 - (intOf c).toNat)
    case atStart => refine ⟨1, rfl, by omega, by omega, Lib.hid (by omega), ?_, ?_⟩; ((with_reducible apply Blk.cast); (case h => (repeat' (first | (with_reducible assumption) | ((with_reducible apply Blk.keep0); (case hk => (with_reducible assumption))) | (with_reducible exact Blk.new _ _ _) | ((with_reducible apply Blk.new'); (case h => (first | (with_reducible rfl) | (simp only [World.size_alloc, World.size_setCell, World.size_drew, size_drewN]; done)))) | (with_reducible apply Blk.alloc) | (with_reducible apply Blk.set_) | ((with_reducible apply Blk.far); (case hp => (simp only []; omega))) | (with_reducible apply Blk.drew) | (with_reducible apply Blk.drewN)))); (case e => rfl)); (repeat' (first | (with_reducible exact Kept.refl _ _) | (with_reducible assumption) | (with_reducible refine Kept.then_ (by with_reducible assumption) ?_) | (with_reducible refine Kept.thenS (by with_reducible assumption) ?_) | (with_reducible refine Kept.alloc ?_ _) | (with_reducible refine Kept.drew ?_) | (with_reducible refine Kept.drewN ?_ _) | (with_reducible refine Kept.setNew ?_ ?_ _) | ((try simp only [World.size_alloc, World.size_setCell, World.size_drew, size_drewN] at *); (try dsimp only); omega)))
    case round =>
      obtain ⟨a, rfl, a1, a2, ha, P, hk⟩ := hrel
      have P_c := P.cell
      have P_f := P.frozen
      have P_z := P.lt
      by_cases h2 : a ≤ 16
      · have c := C2.out a (by have := ha.out; omega)
        have C := Lib.hid c
        clear c
        go_wp2_with fail
        (with_reducible refine (C.out _).mono ?_)
        rintro e w3 ⟨rfl, hb3⟩
        have hs3 := hb3.size
        (try simp only [World.size_alloc, World.size_setCell, World.size_drew, size_drewN] at hs3)
        clear P_c P_f P_z
        replace P : Blk w3 w2.heap.size 25 #[.int .i64 c1, .int .i64 s1, .int .i64 g1, .int .u64 u1] := by ((with_reducible apply Blk.cast); (case h => (repeat' (first | (with_reducible assumption) | ((with_reducible apply Blk.keep0); (case hk => (with_reducible assumption))) | (with_reducible exact Blk.new _ _ _) | ((with_reducible apply Blk.new'); (case h => (first | (with_reducible rfl) | (simp only [World.size_alloc, World.size_setCell, World.size_drew, size_drewN]; done)))) | (with_reducible apply Blk.alloc) | (with_reducible apply Blk.set_) | ((with_reducible apply Blk.far); (case hp => (simp only []; omega))) | (with_reducible apply Blk.drew) | (with_reducible apply Blk.drewN)))); (case e => rfl))
        have P_c := P.cell
        have P_f := P.frozen
        have P_z := P.lt
        go_wp2_with fail
        go_roundw
        case rel => exact ⟨a * 2, by go_num, by omega, by omega, Lib.hid (by have := ha.out; omega), by ((with_reducible apply Blk.cast); (case h => (repeat' (first | (with_reducible assumption) | ((with_reducible apply Blk.keep0); (case hk => (with_reducible assumption))) | (with_reducible exact Blk.new _ _ _) | ((with_reducible apply Blk.new'); (case h => (first | (with_reducible rfl) | (simp only [World.size_alloc, World.size_setCell, World.size_drew, size_drewN]; done)))) | (with_reducible apply Blk.alloc) | (with_reducible apply Blk.set_) | ((with_reducible apply Blk.far); (case hp => (simp only []; omega))) | (with_reducible apply Blk.drew) | (with_reducible apply Blk.drewN)))); (case e => rfl)), by (repeat' (first | (with_reducible exact Kept.refl _ _) | (with_reducible assumption) | (with_reducible refine Kept.then_ (by with_reducible assumption) ?_) | (with_reducible refine Kept.thenS (by with_reducible assumption) ?_) | (with_reducible refine Kept.alloc ?_ _) | (with_reducible refine Kept.drew ?_) | (with_reducible refine Kept.drewN ?_ _) | (with_reducible refine Kept.setNew ?_ ?_ _) | ((try simp only [World.size_alloc, World.size_setCell, World.size_drew, size_drewN] at *); (try dsimp only); omega)))⟩
        case measure => simp [intOf]; omega
      · go_wp2_with fail
        go_ret
        exact ⟨rfl, Kept.below (by (repeat' (first | (with_reducible exact Kept.refl _ _) | (with_reducible assumption) | (with_reducible refine Kept.then_ (by with_reducible assumption) ?_) | (with_reducible refine Kept.thenS (by with_reducible assumption) ?_) | (with_reducible refine Kept.alloc ?_ _) | (with_reducible refine Kept.drew ?_) | (with_reducible refine Kept.drewN ?_ _) | (with_reducible refine Kept.setNew ?_ ?_ _) | ((try simp only [World.size_alloc, World.size_setCell, World.size_drew, size_drewN] at *); (try dsimp only); omega))))⟩
theorem walk (a0 : Int) (W : World) (w0 : (Lit.int .u32 a0).wf = true) :
    Calls Try.prog 7 #[.int .u32 a0] W fun e w' => e = .returned (.bool true) ∧ Below W.heap.size W w' := by
  have b0 := bounds_u32 w0
  exact walk' a0 (max (a0 % 1048577) 1) W b0 (by omega) (by omega) (by omega)
theorem own : ownKnob Try.prog.godebug = none := by kernel_rfl
theorem laidOut : laidOutB Try.prog = true := by kernel_rfl
set_option maxRecDepth 100000 in
theorem lifted (os : Os) (started : os.Started) (H : Type) (enc : TypeId × Value → H) :
    ReturnsInHanded {} Try.checked os 7 .any (Rows.classWasteSpec.pre6 enc Try.prog Try.f7 Rows.classWasteRow.domain false) (Rows.classWasteSpec.post enc Try.prog Try.f7 false true false false) := by
  refine returnsInHanded_of_change (C := Try.checked) own started (by kernel_rfl) Try.func7
    (ChangeSpec.witness6 (enc := enc) (C := Try.checked) false ⟨#[], #[.int .u32 0], []⟩ 8 (by kernel_rfl) (by kernel_rfl) (by kernel_rfl) (by kernel_rfl)) ?_
  intro W base args ds gs before hval0 hW hcnd _
  have hval : ∀ (j : Nat) t v, Try.f7.params[j]? = some t → args[j]? = some v → Value.okWide Try.prog W .any base t v := hval0
  have hW' := hW
  obtain ⟨p, q, hA0, hV, rfl, hfz, hnd⟩ := hW
  have hA : DataW.TrodAll enc Try.prog W 0 (fun _ => true) true Try.f7.params.toList args.toList ds p := hA0
  rw [Try.params7] at hA hval
  obtain ⟨v0, vs0, d0, ds0, p0, q0, hargs, rfl, rfl, h0, r0⟩ := trodAll_cons hA
  obtain ⟨rfl, rfl, rfl⟩ := trodAll_nil r0
  obtain rfl : args = #[v0] := by cases args; simp_all
  obtain ⟨rfl, rfl⟩ := trodVars_none hV
  obtain ⟨a0, rfl, rfl, rfl, w0⟩ := open_int Try.underlying33 (hval 0 33 v0 rfl rfl) h0
  clear hA0 hval0
  refine (walk a0 W w0).mono fun e W' ⟨he, bel⟩ => ?_
  subst he
  exact ⟨_, rfl, _, _, _, [], _, [], hW', trodAll_mk1 (shut_bool Try.underlying4 _), (trodAll_cons_mk (shut_int Try.underlying33 w0) trodAll_mk0), rfl, bel.frame _, fun h => by cases h⟩
theorem over : Rows.classWasteRow.holds Try.pinned (OpenSpec.ofChange Rows.classWasteSpec) :=
  OpenClaim.holds_of_wide 7 Try.f7 rfl rfl rfl rfl rfl rfl rfl ⟨rfl, rfl, rfl, rfl, rfl⟩ rfl rfl rfl rfl rfl (by kernel_rfl) Try.func7 (by kernel_rfl)
    (of_decide_eq_true (by kernel_rfl)) (by unfold Func.isWrapper; first | (rw [if_pos (by decide +kernel)]; kernel_rfl) | (rw [if_neg (by decide +kernel)]; exact ⟨rfl, rfl⟩))
    (fun os started H enc _ => lifted os started H enc)
theorem proved : Rows.ClassWasteSaid := over
#print axioms proved
end Go.Proofs.Ytfgmmehgmepegaa.ClassWaste
