/- Small words for the laws of memory. -/
import Derived.Test.YtlcaddedfgndoaaMemG
set_option linter.unusedVariables false
set_option linter.unusedSimpArgs false
namespace Go.Proofs.Ytlcaddedfgndoaa
open Go.RowKit
theorem length_zeros (n : Nat) : (zeros n).length = n := by unfold zeros; exact List.length_replicate
theorem piece_all (zs : List Int) (n : Nat) (h : zs.length = n) : (zs.drop 0).take n = zs := by subst h; simp
theorem u8s_of {ys : List Int} (h : ∀ n, n ∈ ys → (Lit.int .u8 n).wf = true) : U8s ys := fun z hz => by have := bounds_u8 (h z hz); omega
theorem ldV_same (L : List Int) (a n : Nat) (x : Int) (h : a + n ≤ L.length) (h0 : 0 ≤ x) (hx : x < 256 ^ n) : ldV (splice L a (bytesOf n x)) a n = x := by
  have := splice_mid L a (bytesOf n x) (by simpa using h)
  rw [length_bytesOf] at this
  unfold ldV
  rw [this, le_bytesOf n x h0 hx]
theorem ldV_far (L : List Int) (a n b m : Nat) (x : Int) (h : a + n ≤ L.length) (hf : b + m ≤ a ∨ a + n ≤ b) : ldV (splice L a (bytesOf n x)) b m = ldV L b m := by
  unfold ldV
  rw [splice_far L a (bytesOf n x) (by simpa using h) b m (by simpa using hf)]
theorem word_piece (L : List Int) (a n : Nat) (x : Int) (h : a + n ≤ L.length) : ((splice L a (bytesOf n x)).drop a).take n = bytesOf n x := by
  have := splice_mid L a (bytesOf n x) (by simpa using h)
  rwa [length_bytesOf] at this
/-- Get of a piece that is known. -/
def GetAt (W : World) (n : Nat) (ys : List Int) (e : Ending) (w' : World) : Prop := ∃ A c, e = .returned (.tuple #[.slice A n c, .int .i64 0]) ∧ OwnI W.heap.size .u8 5 w' (.slice A n c) ys ∧ Kept [] W w'
theorem get_at (w : World) (p g : Nat) (zs : List Int) (h : MemB w p g zs) (a n : Nat) (ys : List Int) (ho : a + n ≤ zs.length) (hy : (zs.drop a).take n = ys) :
    Calls Try.prog 12 #[.pointer (some ⟨p, 0, none⟩), .int .u64 a, .int .u64 n] w (GetAt w n ys) := by
  have c := get_in w p g zs h a n ho
  have hl := piece_len zs a n ho
  rw [hy] at c hl
  unfold GetIs at c
  rw [hl] at c
  exact c
theorem cells_at {w : World} {B : Nat} {A : Option Addr} {n c : Nat} {zs : List Int} (h : OwnI B .u8 5 w (.slice A n c) zs) (hn : n = zs.length) (h0 : 0 < n) :
    ∃ x : Addr, A = some x ∧ ∀ i, i < n → w.cell? (x.add i) = some (.int .u8 (zs[i]?.getD 0)) := by
  obtain ⟨x, h1, _, h2⟩ := h.row (by omega)
  exact ⟨x, h1, fun i hi => h2 i (by omega)⟩
end Go.Proofs.Ytlcaddedfgndoaa
