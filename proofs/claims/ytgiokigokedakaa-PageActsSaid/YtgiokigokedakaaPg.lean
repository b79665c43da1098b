/- A page: its state, and where it lies; its lists' pushes and pops. -/
import Derived.Test.YtgiokigokedakaaPlaceJ
import Derived.Test.YtgiokigokedakaaCell
import Derived.Test.YtgiokigokedakaaIn
set_option linter.unusedVariables false
set_option linter.unusedSimpArgs false
namespace Go.Proofs.Ytgiokigokedakaa
open Go.RowKit
/-- A page: its run, how many are made, its three rows, the blocks that are used and not posted; its cell's tag, how often it was asked. -/
structure PgA where
  F : Nat
  Z : Nat
  N : Nat
  made : Nat
  fr : List Nat
  lo : List Nat
  po : List Nat
  us : List Nat
  tag : Nat
  ask : Nat
def PgA.bl (a : PgA) (i : Nat) : Nat := a.F + i * a.Z
def PgA.cells (a : PgA) (mp fh lh hd : Nat) : Array Value :=
  #[.int .u64 a.F, .int .u64 a.Z, .int .i64 a.N, .int .i64 a.made, .int .i64 ((a.po.length : Int) + (a.us.length : Int)), .pointer (some ⟨mp, 0, none⟩), .int .u64 fh, .int .i64 a.fr.length, .int .u64 lh, .int .i64 a.lo.length, .int .u64 hd, .int .u64 a.tag, .int .i64 a.ask, .int .u64 hd]
structure PgOk (a : PgA) (len : Nat) : Prop where
  run : 1 ≤ a.F ∧ 16 ≤ a.Z ∧ 1 ≤ a.N ∧ a.N ≤ 1024 ∧ a.F + a.N * a.Z ≤ len
  made : a.made ≤ a.N
  all : (a.fr ++ (a.lo ++ (a.po ++ a.us))).Perm ((List.range a.made).map a.bl)
/-- Where it lies: the page at block p, its memory at mp, its bytes zs in g. -/
structure PgR (w : World) (p mp g : Nat) (a : PgA) (zs : List Int) (fh lh hd : Nat) : Prop where
  blk : Blk w p 92 (a.cells mp fh lh hd)
  mem : MemB w mp g zs
  fr : Chn zs fh a.fr
  lo : Chn zs lh a.lo
  po : Chn zs hd a.po
def PgM (w : World) (p mp g : Nat) (a : PgA) (zs : List Int) : Prop := (∃ fh lh hd, PgR w p mp g a zs fh lh hd) ∧ PgOk a zs.length
namespace PgR
variable {w w' : World} {p mp g : Nat} {a : PgA} {zs : List Int} {fh lh hd : Nat}
theorem keep {S : List Nat} (h : PgR w p mp g a zs fh lh hd) (hk : Kept S w w') (h1 : p ∉ S) (h2 : mp ∉ S) (h3 : g ∉ S) : PgR w' p mp g a zs fh lh hd := ⟨h.blk.keep hk h1, h.mem.keep hk h2 h3, h.fr, h.lo, h.po⟩
theorem keep0 (h : PgR w p mp g a zs fh lh hd) (hk : Kept [] w w') : PgR w' p mp g a zs fh lh hd := h.keep hk (by simp) (by simp) (by simp)
theorem ne1 (h : PgR w p mp g a zs fh lh hd) : p ≠ mp := h.blk.ne_ h.mem.1 (by decide)
theorem ne2 (h : PgR w p mp g a zs fh lh hd) : p ≠ g := h.blk.ne_ h.mem.2.1 (by decide)
theorem ne3 (h : PgR w p mp g a zs fh lh hd) : mp ≠ g := h.mem.ne
theorem lens (h : PgR w p mp g a zs fh lh hd) : zs.length ≤ 1048576 := h.mem.2.2.1
theorem atF (h : PgR w p mp g a zs fh lh hd) : LAt w p 6 92 (a.cells mp fh lh hd) fh a.fr.length := ⟨h.blk, rfl, rfl⟩
theorem atL (h : PgR w p mp g a zs fh lh hd) : LAt w p 8 92 (a.cells mp fh lh hd) lh a.lo.length := ⟨h.blk, rfl, rfl⟩
theorem atC (h : PgR w p mp g a zs fh lh hd) : CAt w p 10 92 (a.cells mp fh lh hd) hd a.tag a.ask := ⟨h.blk, rfl, rfl, rfl⟩
theorem c0 (h : PgR w p mp g a zs fh lh hd) : w.cell? ⟨p, 0, none⟩ = some (.int .u64 a.F) := h.blk.cell 0
theorem c1 (h : PgR w p mp g a zs fh lh hd) : w.cell? ⟨p, 1, none⟩ = some (.int .u64 a.Z) := h.blk.cell 1
theorem c2 (h : PgR w p mp g a zs fh lh hd) : w.cell? ⟨p, 2, none⟩ = some (.int .i64 a.N) := h.blk.cell 2
theorem c3 (h : PgR w p mp g a zs fh lh hd) : w.cell? ⟨p, 3, none⟩ = some (.int .i64 a.made) := h.blk.cell 3
theorem c4 (h : PgR w p mp g a zs fh lh hd) : w.cell? ⟨p, 4, none⟩ = some (.int .i64 ((a.po.length : Int) + (a.us.length : Int))) := h.blk.cell 4
theorem c5 (h : PgR w p mp g a zs fh lh hd) : w.cell? ⟨p, 5, none⟩ = some (.pointer (some ⟨mp, 0, none⟩)) := h.blk.cell 5
theorem c6 (h : PgR w p mp g a zs fh lh hd) : w.cell? ⟨p, 6, none⟩ = some (.int .u64 fh) := h.blk.cell 6
theorem c7 (h : PgR w p mp g a zs fh lh hd) : w.cell? ⟨p, 7, none⟩ = some (.int .i64 a.fr.length) := h.blk.cell 7
theorem c8 (h : PgR w p mp g a zs fh lh hd) : w.cell? ⟨p, 8, none⟩ = some (.int .u64 lh) := h.blk.cell 8
theorem c9 (h : PgR w p mp g a zs fh lh hd) : w.cell? ⟨p, 9, none⟩ = some (.int .i64 a.lo.length) := h.blk.cell 9
theorem c10 (h : PgR w p mp g a zs fh lh hd) : w.cell? ⟨p, 10, none⟩ = some (.int .u64 hd) := h.blk.cell 10
theorem c11 (h : PgR w p mp g a zs fh lh hd) : w.cell? ⟨p, 11, none⟩ = some (.int .u64 a.tag) := h.blk.cell 11
theorem c12 (h : PgR w p mp g a zs fh lh hd) : w.cell? ⟨p, 12, none⟩ = some (.int .i64 a.ask) := h.blk.cell 12
theorem c13 (h : PgR w p mp g a zs fh lh hd) : w.cell? ⟨p, 13, none⟩ = some (.int .u64 hd) := h.blk.cell 13
/-- Memory is written at one place, far from the lists. -/
theorem wrote (h : PgR w p mp g a zs fh lh hd) (hk : Kept [g] w w') {x : Nat} {v : Int} (hx : x + 8 ≤ zs.length) (h1 : Far x a.fr) (h2 : Far x a.lo) (h3 : Far x a.po) (hM : MemB w' mp g (splice zs x (bytesOf 8 v))) : PgR w' p mp g a (splice zs x (bytesOf 8 v)) fh lh hd :=
  ⟨h.blk.keep hk (by simp; exact h.ne2), hM, h.fr.splice hx h1, h.lo.splice hx h2, h.po.splice hx h3⟩
end PgR
set_option maxHeartbeats 1000000 in
theorem pushF (w : World) (p mp g : Nat) (a : PgA) (zs : List Int) (fh lh hd x y c : Nat) (h : PgR w p mp g a zs fh lh hd) (hn : a.fr.length ≤ 1000000) (h0 : x ≠ 0) (h8 : x + 8 ≤ zs.length) (h1 : Far x a.fr) (h2 : Far x a.lo) (h3 : Far x a.po) (hy : w.cell? ⟨y, 0, none⟩ = some (.int .u64 (x : Int))) :
    Calls Try.prog 39 #[.pointer (some ⟨p, 6, none⟩), .pointer (some ⟨mp, 0, none⟩), .slice (some ⟨y, 0, none⟩) 1 c] w fun e w' => e = .returned (.int .i64 0) ∧ PgR w' p mp g { a with fr := x :: a.fr } (splice zs x (bytesOf 8 (fh : Int))) x lh hd ∧ Kept [p, g] w w' := by
  have hzl := h.lens
  have h64 := h.fr.hd64 hzl
  refine (push1_at w p 6 mp g 92 _ (by decide) (by decide) zs fh _ x y c h.mem h.atF h64 (by omega) h0 h8 hy).mono fun e w' ⟨he, hM, hB, hk⟩ => ⟨he, ⟨?_, hM, h.fr.push h0 h8 h1 h64, h.lo.splice h8 h2, h.po.splice h8 h3⟩, hk⟩
  exact hB.cast (by simp [put2, PgA.cells])
set_option maxHeartbeats 1000000 in
theorem pushL (w : World) (p mp g : Nat) (a : PgA) (zs : List Int) (fh lh hd x y c : Nat) (h : PgR w p mp g a zs fh lh hd) (hn : a.lo.length ≤ 1000000) (h0 : x ≠ 0) (h8 : x + 8 ≤ zs.length) (h1 : Far x a.fr) (h2 : Far x a.lo) (h3 : Far x a.po) (hy : w.cell? ⟨y, 0, none⟩ = some (.int .u64 (x : Int))) :
    Calls Try.prog 39 #[.pointer (some ⟨p, 8, none⟩), .pointer (some ⟨mp, 0, none⟩), .slice (some ⟨y, 0, none⟩) 1 c] w fun e w' => e = .returned (.int .i64 0) ∧ PgR w' p mp g { a with lo := x :: a.lo } (splice zs x (bytesOf 8 (lh : Int))) fh x hd ∧ Kept [p, g] w w' := by
  have hzl := h.lens
  have h64 := h.lo.hd64 hzl
  refine (push1_at w p 8 mp g 92 _ (by decide) (by decide) zs lh _ x y c h.mem h.atL h64 (by omega) h0 h8 hy).mono fun e w' ⟨he, hM, hB, hk⟩ => ⟨he, ⟨?_, hM, h.fr.splice h8 h1, h.lo.push h0 h8 h2 h64, h.po.splice h8 h3⟩, hk⟩
  exact hB.cast (by simp [put2, PgA.cells])
set_option maxHeartbeats 1000000 in
theorem popF (w : World) (p mp g : Nat) (a : PgA) (zs : List Int) (fh lh hd x : Nat) (r : List Nat) (h : PgR w p mp g a zs fh lh hd) (hn : a.fr.length ≤ 1000000) (hf : a.fr = x :: r) :
    Calls Try.prog 37 #[.pointer (some ⟨p, 6, none⟩), .pointer (some ⟨mp, 0, none⟩)] w fun e w' => e = .returned (.tuple #[.int .u64 (x : Int), .int .i64 0]) ∧ PgR w' p mp g { a with fr := r } zs (lk zs x) lh hd ∧ Kept [p] w w' := by
  have hfr := h.fr
  rw [hf] at hfr
  obtain ⟨rfl, h0, h8, hc⟩ := hfr
  have hl : (a.fr.length : Int) = (r.length : Int) + 1 := by rw [hf]; simp
  refine (pop_at w p 6 mp g 92 _ zs fh _ h.mem h.atF (by omega) (by omega) h8).mono fun e w' ⟨he, hB, hk⟩ => ⟨he, ⟨?_, h.mem.keep hk (by simp; exact h.ne1.symm) (by simp; exact h.ne2.symm), hc, h.lo, h.po⟩, hk⟩
  exact hB.cast (by simp [put2, PgA.cells]; omega)
theorem popE (w : World) (p mp g : Nat) (a : PgA) (zs : List Int) (fh lh hd : Nat) (h : PgR w p mp g a zs fh lh hd) (hf : a.fr = []) :
    Calls Try.prog 37 #[.pointer (some ⟨p, 6, none⟩), .pointer (some ⟨mp, 0, none⟩)] w fun e w' => e = .returned (.tuple #[.int .u64 0, .int .i64 5]) ∧ w = w' :=
  popE_at w p 6 mp g 92 _ zs fh h.mem ⟨h.blk, rfl, by simp [PgA.cells, hf]⟩
namespace PgOk
variable {a : PgA} {len : Nat}
theorem bl_lt (h : PgOk a len) {i : Nat} (hi : i < a.N) : a.bl i ≠ 0 ∧ a.bl i + a.Z ≤ len := by
  obtain ⟨h1, h2, h3, h4, h5⟩ := h.run
  have : (i + 1) * a.Z ≤ a.N * a.Z := Nat.mul_le_mul_right _ hi
  rw [Nat.add_mul] at this
  unfold PgA.bl
  omega
theorem bl_ap (h : PgOk a len) {i j : Nat} (hij : i < j) : a.bl i + a.Z ≤ a.bl j := by
  have : (i + 1) * a.Z ≤ j * a.Z := Nat.mul_le_mul_right _ hij
  rw [Nat.add_mul] at this
  unfold PgA.bl
  omega
theorem bl_far (h : PgOk a len) {i j : Nat} (hij : i ≠ j) : a.bl i + 8 ≤ a.bl j ∨ a.bl j + 8 ≤ a.bl i := by
  have := h.run
  rcases Nat.lt_or_ge i j with h1 | h1
  · have := h.bl_ap h1; omega
  · have := h.bl_ap (show j < i by omega); omega
theorem bl_inj (h : PgOk a len) {i j : Nat} (hij : a.bl i = a.bl j) : i = j := by
  rcases Nat.lt_trichotomy i j with h1 | h1 | h1
  · have := h.bl_far (show i ≠ j by omega); omega
  · exact h1
  · have := h.bl_far (show i ≠ j by omega); omega
theorem mem_all (h : PgOk a len) {x : Nat} (hx : x ∈ a.fr ++ (a.lo ++ (a.po ++ a.us))) : ∃ i, i < a.made ∧ x = a.bl i := by
  have := h.all.mem_iff.1 hx
  obtain ⟨i, hi, rfl⟩ := List.mem_map.1 this
  exact ⟨i, by simpa using hi, rfl⟩
theorem apart (h : PgOk a len) : Apart (a.fr ++ (a.lo ++ (a.po ++ a.us))) := by
  refine Apart.perm ?_ h.all.symm
  unfold Apart
  rw [List.pairwise_map]
  exact (List.pairwise_lt_range (n := a.made)).imp (fun hij => h.bl_far (by omega))
/-- A block that isn't made yet is far from all. -/
theorem far_new (h : PgOk a len) {i : Nat} (hi : a.made ≤ i) {x : Nat} (hx : x ∈ a.fr ++ (a.lo ++ (a.po ++ a.us))) : a.bl i + 8 ≤ x ∨ x + 8 ≤ a.bl i := by
  obtain ⟨j, hj, rfl⟩ := h.mem_all hx
  exact h.bl_far (by omega)
end PgOk
end Go.Proofs.Ytgiokigokedakaa
