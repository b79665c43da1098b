/- A number is read. -/
import Derived.Test.YtgiokigokedakaaMemL
set_option linter.unusedVariables false
set_option linter.unusedSimpArgs false
namespace Go.Proofs.Ytgiokigokedakaa
open Go.RowKit Go.Shelf
attribute [local go_sem] Oper.semAt_some
def ldStep (acc : Int) (x : Int × Int) : Int := bits .or .u64 (IntKind.u64.wrap (acc * 256)) (IntKind.u64.wrap x.2)
def ldFold (l : List (Int × Int)) : Int := l.foldl ldStep 0
theorem ldFold_snoc (l : List (Int × Int)) (x : Int × Int) : ldFold (l ++ [x]) = ldStep (ldFold l) x := by simp [ldFold]
set_option maxRecDepth 100000 in
set_option maxHeartbeats 2000000 in
theorem load_raw (w : World) (p g : Nat) (zs : List Int) (h : MemB w p g zs) (a n : Int) (hn : MayN n) (ha : 0 ≤ a) (A : Option Addr) (cp : Nat) (ys : List Int) (er : Int) (hI : Bytes w.heap.size w (.slice A ys.length cp) ys) (hy : ys.length ≤ 8)
    (hin : ∀ w, MemB w p g zs → Calls Try.prog 48 #[.pointer (some ⟨p, 0, none⟩), .int .u64 a, .int .u64 n] w fun e w' => e = .returned (.tuple #[.slice A ys.length cp, .int .i64 er]) ∧ w = w') :
    Calls Try.prog 63 #[.pointer (some ⟨p, 0, none⟩), .int .u64 a, .int .i64 n] w fun e w' => e = .returned (.tuple #[.int .u64 (ldFold (upto (bw ys.length ys) ys.length)), .int .i64 er]) ∧ Below w.heap.size w w' := by
  have hm : max n 0 = n := by unfold MayN at hn; omega
  have hn8 : 0 ≤ n ∧ n ≤ 8 := by unfold MayN at hn; omega
  have HMB := Lib.hid h
  have HN := Lib.hid hn
  have HIN := Lib.hid hin
  clear hin h hn
  refine (callsIn_wide (n := 3)).1 ?_
  have hro : Fence.wide.round = none := rfl
  refine callsIn_of_wp_marks Try.func63 rfl trivial ?_ hro
  simp only [Try.ntmps63, List.size_toArray, List.length_cons, List.length_nil, Nat.reduceAdd, Nat.reduceSub, Array.replicate_succ, Array.replicate_zero, List.push_toArray, List.append_toArray, List.nil_append, List.cons_append]
  gi_wp2_with (first | ((try (refine ⟨trivial, ?_⟩)); gi_at_call 47; refine (callsIn_wide.2 (may_t _ _ HN.out)).mono ?_; rintro e w' ⟨rfl, rfl⟩) | ((try (refine ⟨trivial, ?_⟩)); gi_at_call 48; refine (callsIn_wide.2 (HIN.out _ (HMB.out.keep0 (by (repeat' (first | (with_reducible exact Kept.refl _ _) | (with_reducible assumption) | (with_reducible refine Kept.then_ (by with_reducible assumption) ?_) | (with_reducible refine Kept.thenS (by with_reducible assumption) ?_) | (with_reducible refine Kept.alloc ?_ _) | (with_reducible refine Kept.drew ?_) | (with_reducible refine Kept.drewN ?_ _) | (with_reducible refine Kept.setNew ?_ ?_ _) | ((try simp only [World.size_alloc, World.size_setCell, World.size_drew, size_drewN] at *); (try dsimp only); omega))))))).mono ?_; rintro e w' ⟨rfl, rfl⟩) | ((try (refine ⟨trivial, ?_⟩)); gi_at_call 67; refine (bwd_in Fence.wide _ trivial hro _ _ _ _).mono ?_; rintro e w' ⟨rfl, rfl⟩))
  have bX := Blk.new w 26 #[.int .u64 0]
  have bS := Blk.new (w.alloc (.cells #[.int .u64 0] 26)) 22 #[.slice A ys.length cp]
  rw [World.size_alloc] at bS
  have bX1 := bX.alloc (.cells #[.slice A ys.length cp] 22)
  have hB0 : Below w.heap.size w ((w.alloc (.cells #[.int .u64 0] 26)).alloc (.cells #[.slice A ys.length cp] 22)) := ((Below.refl _ w).alloc (Nat.le_refl _) _).alloc (by simp) _
  refine wpIn_rangeFunc_ownG hro (by omega) (gf := 69) (lb := #[.pointer (some ⟨w.heap.size + 1, 0, none⟩)]) rfl trivial (enters_of Try.func69 (by kernel_rfl) rfl)
    (bwd_stops Fence.wide 2 trivial hro (by omega) (w.heap.size + 1) w.heap.size _ ys (by omega) _ (by simp; omega) bS (hI.below hB0)) KpB.trans (KpB.b (by simp; omega)) (Below.refl _ _) (fun _ => rfl)
    (fun pre W => Blk W w.heap.size 26 #[.int .u64 (ldFold pre)] ∧ Below w.heap.size w W)
    (fun _ _ _ => False)
    (fun s A B row hs hg hr => ⟨?own, ownFrom_below (B := w.heap.size) (Nat.le_refl _) (Nat.le_refl _) s A B row hs.2 hg (fun r e => ⟨by have := (hr r e).1; simp at this; omega, (hr r e).2⟩)⟩)
    (fun _ _ _ _ _ hs _ _ => hs)
    ⟨bX1, hB0⟩
    (fun x => { tmps := #[.pointer (some ⟨p, 0, none⟩), .int .u64 a, .int .i64 n, undef, undef, undef, .pointer (some ⟨w.heap.size, 0, none⟩), .int .i64 er, .slice A ys.length cp, undef, .int .u8 x.2, .pointer (some ⟨p, 0, none⟩), .bool true,
          .bool true, .int .i64 n, .bool true, .bool false, .bool false, .tuple #[.slice A ys.length cp, .int .i64 er], .pointer (some ⟨p, 0, none⟩), .int .u64 a, .int .i64 n,
          .int .i64 n, .int .u64 n, .tuple #[.slice A ys.length cp, .int .i64 er], .slice A ys.length cp, .int .i64 er, .slice A ys.length cp,
          .func (.func 69) #[] #[.pointer (some ⟨w.heap.size + 1, 0, none⟩)], .int .i64 x.1, .int .u8 x.2, undef, undef, undef, undef, undef, undef, undef], defers := [] }) ?assign ?body ?done ?stop
  case own => exact hg.block _ hs.1.lt (fun e => by have := (hr _ e.symm).1; simp at this; omega) |>.trans hs.1
  case assign =>
    intro l x W K hK
    gi_wp2
    exact hK
  case body =>
    rintro l pre x W ⟨hc, hB⟩ _
    have hcc := hc.cell 0
    have hcf := hc.frozen 0
    gi_wp2
    exact ⟨(KeepsOthers.setCell _ _ _).from _, ⟨(Below.refl _ W).setCell (p := ⟨w.heap.size, 0, none⟩) (Nat.le_refl _) _, fun o ho _ => (Below.heap_setCell W ⟨w.heap.size, 0, none⟩ _ (w.heap.size + 1) (by simp)).trans ho⟩,
      by rw [ldFold_snoc]; exact hc.set' rfl, hB.setCell (p := ⟨w.heap.size, 0, none⟩) (Nat.le_refl _) _⟩
  case done =>
    rintro D ys W hD rfl ⟨hc, hB⟩ hK
    have hcc := hc.cell 0
    have hcf := hc.frozen 0
    simp only [World.size_alloc] at hD
    gi_wp2
    have hc' : Blk (W.setCell ⟨w.heap.size, 0, none⟩ (.int .u64 (ldFold (upto (bw ys.length ys) ys.length)))) w.heap.size 26 #[.int .u64 (ldFold (upto (bw ys.length ys) ys.length))] := hc.set' rfl
    have hK' : (W.setCell ⟨w.heap.size, 0, none⟩ (.int .u64 (ldFold (upto (bw ys.length ys) ys.length)))).heap[D]? = some (.deferred (some [])) := (Below.heap_setCell W ⟨w.heap.size, 0, none⟩ _ D (by simp; omega)).trans hK
    have hB' : Below w.heap.size w (W.setCell ⟨w.heap.size, 0, none⟩ (.int .u64 (ldFold (upto (bw ys.length ys) ys.length)))) := hB.setCell (p := ⟨w.heap.size, 0, none⟩) (Nat.le_refl _) _
    have hc'' : Blk ((W.setCell ⟨w.heap.size, 0, none⟩ (.int .u64 (ldFold (upto (bw ys.length ys) ys.length)))).putObj D (.deferred none)) w.heap.size 26 #[.int .u64 (ldFold (upto (bw ys.length ys) ys.length))] := (World.putObj_heap_other (by omega)).trans hc'
    have hcc := hc''.cell 0
    refine ⟨by simp, .inl ⟨_, _, rfl, run_takeDeferred hK', ?_⟩⟩
    refine ⟨.tuple #[.int .u64 (ldFold (upto (bw ys.length ys) ys.length)), .int .i64 er], ?_, rfl, hB'.trans (belowK_b (w := w) (Nat.le_refl _) _ D _ _ (by omega) hK' rfl rfl)⟩
    simp [results, Try.results63, go_sem, hcc]
  case stop =>
    rintro D c pre W _ _ h _
    exact h.elim
end Go.Proofs.Ytgiokigokedakaa
