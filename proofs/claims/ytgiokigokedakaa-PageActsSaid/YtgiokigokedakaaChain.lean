/- Chain: a list of what hangs on a block. -/
import Derived.Test.YtgiokigokedakaaList
import Derived.Stop.RegionWithIn
set_option linter.unusedVariables false
set_option linter.unusedSimpArgs false
namespace Go.Proofs.Ytgiokigokedakaa
open Go.RowKit Go.Shelf
attribute [local go_sem] Oper.semAt_some
set_option maxHeartbeats 1000000 in
theorem from_in (n : Nat) (p : Option Addr) (hd : Int) (w : World) :
    CallsIn Fence.wide n Try.prog 65 #[.pointer p, .int .u64 hd] w fun e w' => e = .returned (.func (.func 68) #[] #[.pointer (some ⟨w.heap.size + 1, 0, none⟩), .pointer (some ⟨w.heap.size, 0, none⟩)]) ∧ w' = (w.alloc (.cells #[.pointer p] 25)).alloc (.cells #[.int .u64 hd] 26) := by
  refine callsIn_of_wp Try.func65 rfl trivial ?_ rfl
  simp only [Try.ntmps65, List.size_toArray, List.length_cons, List.length_nil, Nat.reduceAdd, Nat.reduceSub, Array.replicate_succ, Array.replicate_zero, List.push_toArray, List.append_toArray, List.nil_append, List.cons_append]
  gi_wp2
  go_ret
  exact ⟨rfl, rfl⟩
theorem calm_region {F : Fence} {n : Nat} {P : Program} {c : Code} {K : Act → World → Prop} {Q : Exit → Act → World → Prop} {a : Act} {w : World} (h : c.wpIn F n P (Exit.then K (fun _ _ _ => False)) a w) : c.wpIn F n P (Exit.then K Q) a w :=
  wpIn_mono h (fun e a w' hh => by cases e <;> first | exact hh | exact hh.elim)
theorem Same.set {Bs : List Nat} (A : World) (p : Addr) (v : Value) (hp : p.block ∉ Bs) : Same Bs A (A.setCell p v) := Same.kept ((Kept.refl [p.block] A).setIn (by simp) v) (fun b hb h => by
  simp at h
  exact hp (h ▸ hb))
theorem ownBlk {B g : Nat} {t : TypeId} {cs : Array Value} {W W' : World} {row : Option Nat} (h : Blk W g t cs) (hg : W.grownBy W' row) (hr : ∀ r, row = some r → B ≤ r ∧ ∃ o : Obj, W.heap[r]? = some o ∧ o.isCells = false) : Blk W' g t cs := by
  refine (hg.block g h.lt (fun e => ?_)).trans h
  obtain ⟨_, o, ho, hc⟩ := hr g e.symm
  have h' := h
  unfold Blk at h'
  rw [h'] at ho
  injection ho with ho
  rw [← ho] at hc
  cases hc
theorem at_none {zs : List Int} {hd k : Nat} (h : at_ zs hd k = none) (N : Nat) (hN : k ≤ N) : at_ zs hd N = none := by
  induction N with
  | zero => obtain rfl : k = 0 := by omega
            exact h
  | succ n ih =>
    rcases Nat.lt_or_ge k (n + 1) with h1 | h1
    · simp [at_, ih (by omega)]
    · rw [show n + 1 = k by omega]; exact h
theorem at_stop {zs : List Int} {hd k c : Nat} (h : at_ zs hd k = some c) (hc : c = 0 ∨ ¬ c + 8 ≤ zs.length) (N : Nat) (hN : k < N) : at_ zs hd N = none := at_none (k := k + 1) (by
  simp only [at_, h, Option.bind_some]
  rw [if_neg (by omega)]) N hN
/-- It ends at one place at most. -/
theorem at_late {zs : List Int} {hd k c N : Nat} (h : at_ zs hd k = some c) (hc : c ≠ 0) (hN : at_ zs hd N = some 0) : k < N := by
  rcases Nat.lt_or_ge k N with h1 | h1
  · exact h1
  · rcases Nat.lt_or_ge N k with h2 | h2
    · have := at_stop hN (.inl rfl) k h2
      rw [this] at h; cases h
    · obtain rfl : N = k := by omega
      rw [hN] at h
      injection h with h
      omega
theorem at_bad {zs : List Int} {hd k c : Nat} (h : at_ zs hd k = some c) (hc : c ≠ 0) (h8 : ¬ c + 8 ≤ zs.length) (N : Nat) : at_ zs hd N ≠ some 0 := fun hN => by
  have h1 := at_late h hc hN
  have := at_stop h (.inr h8) N h1
  rw [this] at hN; cases hN
/-- What Chain answers. -/
def ChainIs (w : World) (zs : List Int) (hd : Nat) (mo : Int) (e : Ending) (w' : World) : Prop :=
  ((∃ N : Nat, at_ zs hd N = some 0 ∧ (N = 0 ∨ (N : Int) ≤ mo) ∧ e = .returned (.tuple #[.agg #[.int .u64 (hd : Int), .int .i64 (N : Int)], .int .i64 0])) ∨
    ((∀ N : Nat, at_ zs hd N = some 0 → ¬ (N = 0 ∨ (N : Int) ≤ mo)) ∧ e = .returned (.tuple #[.agg #[.int .u64 0, .int .i64 0], .int .i64 3]))) ∧ Kept [] w w'
theorem chain_end {R : Ending → World → Prop} (X : World) (D B C : Nat) (tmps : Array Value) (x y z : Int) (h6 : tmps[6]? = some (.pointer (some ⟨B, 0, none⟩))) (h7 : tmps[7]? = some (.pointer (some ⟨C, 0, none⟩)))
    (b2 : Blk X B 86 #[.int .u64 x, .int .i64 y]) (b3 : Blk X C 32 #[.int .i64 z]) (hK : X.heap[D]? = some (.deferred (some []))) (hB : B ≠ D) (hC : C ≠ D)
    (hpost : R (.returned (.tuple #[.agg #[.int .u64 x, .int .i64 y], .int .i64 z])) (X.putObj D (.deferred none))) :
    bodyPostM Fence.wide 3 Try.prog Try.f45 R Exit.ret { tmps := tmps, defers := [{ target := .collected D, args := #[] }] } X := by
  have c2 : Blk (X.putObj D (.deferred none)) B 86 #[.int .u64 x, .int .i64 y] := (World.putObj_heap_other hB).trans b2
  have c3 : Blk (X.putObj D (.deferred none)) C 32 #[.int .i64 z] := (World.putObj_heap_other hC).trans b3
  have d0 := c2.cell 0
  have d1 := c2.cell 1
  have d3 := c3.cell 0
  refine ⟨by simp, .inl ⟨_, _, rfl, run_takeDeferred hK, ?_⟩⟩
  refine ⟨.tuple #[.agg #[.int .u64 x, .int .i64 y], .int .i64 z], ?_, hpost⟩
  simp [results, Try.results45, go_sem, h6, h7, d0, d1, d3, Try.underlying86, Try.underlying32]
set_option maxRecDepth 100000 in
set_option maxHeartbeats 2000000 in
theorem chain_any (w : World) (p g : Nat) (zs : List Int) (h : MemB w p g zs) (hd : Nat) (hd64 : (hd : Int) < 18446744073709551616) (most mo : Int) (hmo : min most (zs.length : Int) = mo) (hm64 : -9223372036854775808 ≤ most ∧ most ≤ 9223372036854775807) :
    Calls Try.prog 45 #[.pointer (some ⟨p, 0, none⟩), .int .u64 (hd : Int), .int .i64 most] w (ChainIs w zs hd mo) := by
  have HMB := Lib.hid h
  have hzl := h.2.2.1
  have hwr : IntKind.i64.wrap (zs.length : Int) = (zs.length : Int) := by rw [IntKind.wrap_i64]; omega
  have hif : (if (zs.length : Int) < most then (zs.length : Int) else most) = mo := by rw [← hmo]; split <;> omega
  clear h
  refine (callsIn_wide (n := 3)).1 ?_
  have hro : Fence.wide.round = none := rfl
  refine callsIn_of_wp_marks Try.func45 rfl trivial ?_ hro
  simp only [Try.ntmps45, List.size_toArray, List.length_cons, List.length_nil, Nat.reduceAdd, Nat.reduceSub, Array.replicate_succ, Array.replicate_zero, List.push_toArray, List.append_toArray, List.nil_append, List.cons_append]
  gi_wp2_with (fail)
  refine calm_region ?_
  gi_region_with ((try (refine ⟨trivial, ?_⟩)); gi_at_call 53; refine (callsIn_wide.2 (size_any _ _ _ _ (HMB.out.keep0 (by (repeat' (first | (with_reducible exact Kept.refl _ _) | (with_reducible assumption) | (with_reducible refine Kept.then_ (by with_reducible assumption) ?_) | (with_reducible refine Kept.thenS (by with_reducible assumption) ?_) | (with_reducible refine Kept.alloc ?_ _) | (with_reducible refine Kept.drew ?_) | (with_reducible refine Kept.drewN ?_ _) | (with_reducible refine Kept.setNew ?_ ?_ _) | ((try simp only [World.size_alloc, World.size_setCell, World.size_drew, size_drewN] at *); (try dsimp only); omega))))))).mono ?_; rintro e w' ⟨rfl, rfl⟩)
  all_goals gi_wp2_with ((try (refine ⟨trivial, ?_⟩)); gi_at_call 65; refine (from_in _ _ _ _).mono ?_; rintro e w' ⟨rfl, rfl⟩)
  all_goals (
    obtain ⟨V, hV⟩ : ∃ V : World, (((((w.alloc (.cells #[.int .i64 mo] 3)).alloc (.cells #[.int .u64 0, .int .i64 0] 86)).alloc (.cells #[.int .i64 0] 32)).alloc (.cells #[.pointer (some ⟨p, 0, none⟩)] 25)).alloc (.cells #[.int .u64 (hd : Int)] 26)).drew = V := ⟨_, rfl⟩
    rw [hV]
    have hsz : V.heap.size = w.heap.size + 1 + 1 + 1 + 1 + 1 := by rw [← hV]; simp
    have bMo : Blk V w.heap.size 3 #[.int .i64 mo] := by rw [← hV]; exact ((((Blk.new w _ _).alloc _).alloc _).alloc _).alloc _
    have bL : Blk V (w.heap.size + 1) 86 #[.int .u64 0, .int .i64 0] := by rw [← hV]; exact (((Blk.new' _ _ _ (by simp)).alloc _).alloc _).alloc _
    have bE : Blk V (w.heap.size + 1 + 1) 32 #[.int .i64 0] := by rw [← hV]; exact ((Blk.new' _ _ _ (by simp)).alloc _).alloc _
    have bM : Blk V (w.heap.size + 1 + 1 + 1) 25 #[.pointer (some ⟨p, 0, none⟩)] := by rw [← hV]; exact (Blk.new' _ _ _ (by simp)).alloc _
    have bH : Blk V (w.heap.size + 1 + 1 + 1 + 1) 26 #[.int .u64 (hd : Int)] := by rw [← hV]; exact Blk.new' _ _ _ (by simp)
    have kV : Kept [] w V := by rw [← hV]; exact ((((((Kept.refl [] w).alloc _).alloc _).alloc _).alloc _).alloc _).drew
    clear hV
    refine range_own hro (by omega) (gf := 68) (lb := #[.pointer (some ⟨w.heap.size + 1 + 1 + 1 + 1, 0, none⟩), .pointer (some ⟨w.heap.size + 1 + 1 + 1, 0, none⟩)]) rfl trivial (enters_of Try.func68 (by kernel_rfl) rfl)
      (from1_own 2 (by omega) (w.heap.size + 1 + 1 + 1 + 1) (w.heap.size + 1 + 1 + 1) p g hd zs hd64 V bH bM (HMB.out.keep0 kV)) (fun r hr => by simp at hr; omega) (fun r hr => by have h1 := (HMB.out.keep0 kV).1.lt; have h2 := (HMB.out.keep0 kV).2.1.lt; simp at hr; omega) (fun _ => rfl) mo.toNat
      (fun pre W => Blk W w.heap.size 3 #[.int .i64 mo] ∧ Blk W (w.heap.size + 1) 86 #[.int .u64 0, .int .i64 (pre.length : Int)] ∧ Blk W (w.heap.size + 1 + 1) 32 #[.int .i64 0] ∧ Kept [] w W ∧ Hid (at_ zs hd pre.length ≠ none) ∧ pre.length ≤ mo.toNat)
      (fun c pre W => c = .ret ∧ Blk W (w.heap.size + 1) 86 #[.int .u64 0, .int .i64 0] ∧ Blk W (w.heap.size + 1 + 1) 32 #[.int .i64 3] ∧ Kept [] w W ∧ Hid (∀ N : Nat, at_ zs hd N = some 0 → ¬ (N = 0 ∨ (N : Int) ≤ mo)))
      (fun s A B row hs hg hr => ⟨ownBlk hs.1 hg hr, ownBlk hs.2.1 hg hr, ownBlk hs.2.2.1 hg hr, hs.2.2.2.1.grown hg (fun r e => .inl (by have := (hr r e).1; omega)), hs.2.2.2.2⟩)
      (fun c s A B row hs hg hr => ⟨hs.1, ownBlk hs.2.1 hg hr, ownBlk hs.2.2.1 hg hr, hs.2.2.2.1.grown hg (fun r e => .inl (by have := (hr r e).1; omega)), hs.2.2.2.2⟩)
      (fun pre A B hs hk => ⟨hs.1.keep hk (by simp; (try omega)), hs.2.1.keep hk (by simp; (try omega)), hs.2.2.1.keep hk (by simp; (try omega)), hk.thenG hs.2.2.2.1 (by omega), hs.2.2.2.2⟩)
      (fun pre A hs => hs.2.2.2.2.2)
      ⟨bMo, bL, bE, kV, Lib.hid (by simp [at_]), by simp⟩
      (fun x => { tmps := #[.pointer (some ⟨p, 0, none⟩), .int .u64 (hd : Int), .int .i64 most, undef, undef, .pointer (some ⟨w.heap.size, 0, none⟩), .pointer (some ⟨w.heap.size + 1, 0, none⟩), .pointer (some ⟨w.heap.size + 1 + 1, 0, none⟩), undef, .bool x.2,
          .pointer (some ⟨p, 0, none⟩), .bool false, undef, .int .i64 most, .pointer (some ⟨p, 0, none⟩), .int .u64 (zs.length : Int), .int .i64 (zs.length : Int), .int .i64 mo, .pointer (some ⟨p, 0, none⟩), .int .u64 (hd : Int),
          .func (.func 68) #[] #[.pointer (some ⟨w.heap.size + 1 + 1 + 1 + 1, 0, none⟩), .pointer (some ⟨w.heap.size + 1 + 1 + 1, 0, none⟩)], .int .u64 (x.1 : Int), .bool x.2, undef, undef, undef, undef, undef, undef, undef, undef, undef, undef, undef, undef, undef, undef, undef, undef], defers := [] }) ?assign ?body ?done ?stop
    case assign =>
      intro l x W K hK
      dsimp only [encL]
      gi_wp2
      exact hK
    case body =>
      rintro l pre ⟨c, ok⟩ W ⟨b1, b2, b3, hk, hat, hpl⟩ ⟨hx1, hx2, hx3⟩
      dsimp only at hx1 hx2 hx3
      have HX1 := Lib.hid hx1
      have HX2 := Lib.hid hx2
      have c1 := b1.cell 0
      have c2 := b2.cell 1
      have f2 := b2.frozen 1
      have f20 := b2.frozen 0
      have c20 := b2.cell 0
      have c3 := b3.cell 0
      have f3 := b3.frozen 0
      have hm0 := b2.lt
      have Bs0 := Lib.hid (⟨HMB.out.1.lt, HMB.out.2.1.lt⟩ : p < w.heap.size ∧ g < w.heap.size)
      clear hx1 hx2
      by_cases h8 : c + 8 ≤ zs.length
      · obtain rfl : ok = true := by simpa [h8] using hx3
        have H8 := Lib.hid h8
        clear hx3
        by_cases hlt : (pre.length : Int) < mo
        · have hq : decide (mo ≤ (pre.length : Int)) = false := by simp; omega
          have e : (((pre ++ [(c, true)]).length : Nat) : Int) = (pre.length : Int) + 1 := by simp
          have e' : (pre ++ [(c, true)]).length = pre.length + 1 := by simp
          have HE := Lib.hid e
          have HE' := Lib.hid e'
          clear e e'
          gi_wp2
          refine ⟨(KeepsOthers.setCell _ _ _).from _, Same.set _ _ _ (by have := Bs0.out; simp; omega), b1.far (by simp) _, ?_, b3.far (by simp) _, hk.setNew (by simp) _, Lib.hid (by rw [HE'.out, at_succ HX1.out HX2.out H8.out]; simp), by rw [HE'.out]; omega⟩
          rw [HE.out]
          exact b2.set' rfl
        · have hq : decide (mo ≤ (pre.length : Int)) = true := by simp; omega
          gi_wp2
          refine ⟨((KeepsOthers.setCell _ _ _).from _).trans (((KeepsOthers.setCell _ _ _).from _).trans ((KeepsOthers.setCell _ _ _).from _)), rfl, ?_, ?_, ?_, ?_⟩
          · exact ((b2.set_ 0 _).set' rfl).far (by simp) _
          · exact ((b3.far (by simp) _).far (by simp) _).set' rfl
          · exact ((hk.setNew (by simp) _).setNew (by simp) _).setNew (by simp; omega) _
          · exact Lib.hid (fun N hN => by
              have := at_late HX1.out HX2.out hN
              omega)
      · obtain rfl : ok = false := by simpa [h8] using hx3
        have H8 := Lib.hid h8
        clear hx3
        gi_wp2
        refine ⟨((KeepsOthers.setCell _ _ _).from _).trans (((KeepsOthers.setCell _ _ _).from _).trans ((KeepsOthers.setCell _ _ _).from _)), rfl, ?_, ?_, ?_, ?_⟩
        · exact ((b2.set_ 0 _).set' rfl).far (by simp) _
        · exact ((b3.far (by simp) _).far (by simp) _).set' rfl
        · exact ((hk.setNew (by simp) _).setNew (by simp) _).setNew (by simp; omega) _
        · exact Lib.hid (fun N hN => absurd hN (at_bad HX1.out HX2.out H8.out N))
    case done =>
      rintro D xs W hD hS ⟨b1, b2, b3, hk, hat, hpl⟩ hK
      have hend : Hid (at_ zs hd xs.length = some 0) := Lib.hid (by
        rcases hS with hS | ⟨k, c, e1, e2, e3, e4⟩
        · exact hS
        · exact absurd (at_stop e2 (.inr e4) xs.length (by omega)) hat.out)
      have c1 := b2.cell 0
      have c2 := b2.cell 1
      have f1 := b2.frozen 0
      have f2 := b2.frozen 1
      have c3 := b3.cell 0
      have f3 := b3.frozen 0
      clear hS
      have hw0 := b2.lt
      gi_wp2
      have hsD : D < W.heap.size := (Array.getElem?_eq_some_iff.1 hK).1
      refine chain_end _ D (w.heap.size + 1) (w.heap.size + 1 + 1) _ (hd : Int) (xs.length : Int) 0 rfl rfl ((((b2.set_ 0 _).set_ 0 _).set' rfl).far (by simp) _) ((((b3.far (by simp) _).far (by simp) _).far (by simp) _).set' rfl)
        (((((Below.heap_setCell _ _ _ D (by simp; omega)).trans (Below.heap_setCell _ _ _ D (by simp; omega))).trans (Below.heap_setCell _ _ _ D (by simp; omega))).trans (Below.heap_setCell _ _ _ D (by simp; omega))).trans hK) (by omega) (by omega) ⟨.inl ⟨xs.length, hend.out, ?_, rfl⟩, ?_⟩
      · omega
      · refine Kept.grown ((((hk.setNew (by simp) _).setNew (by simp) _).setNew (by simp) _).setNew (by simp; omega) _) (grownBy_putObj' _ D _) (fun k hk => ?_)
        cases hk
        left; omega
    case stop =>
      rintro D c pre W hD ⟨rfl, b2, b3, hk, hfail⟩ hK
      have hsD : D < W.heap.size := (Array.getElem?_eq_some_iff.1 hK).1
      gi_wp2
      refine chain_end _ D (w.heap.size + 1) (w.heap.size + 1 + 1) _ 0 0 3 rfl rfl b2 b3 hK (by omega) (by omega) ⟨.inr ⟨hfail.out, rfl⟩, ?_⟩
      refine Kept.grown hk (grownBy_putObj' _ D _) (fun k hk => ?_)
      cases hk
      left; omega)
end Go.Proofs.Ytgiokigokedakaa
