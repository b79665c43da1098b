/- A page that a law made; the example; made. -/
import Derived.Test.YtgiokigokedakaaPgNew
set_option linter.unusedVariables false
set_option linter.unusedSimpArgs false
namespace Go.Proofs.Ytgiokigokedakaa
open Go.RowKit
theorem PgM.keepS {S : List Nat} {w w' : World} {p mp g : Nat} {a : PgA} {zs : List Int} (h : PgM w p mp g a zs) (hk : Kept S w w') (h1 : p ∉ S) (h2 : mp ∉ S) (h3 : g ∉ S) : PgM w' p mp g a zs := by
  obtain ⟨⟨fh, lh, hd, hR⟩, hok⟩ := h
  exact ⟨⟨fh, lh, hd, hR.keep hk h1 h2 h3⟩, hok⟩
/-- A page of a law, whatever its memory holds. -/
def PgX (W w : World) (p mp g : Nat) (a : PgA) : Prop := (∃ zs, PgM w p mp g a zs) ∧ Kept [] W w ∧ W.heap.size ≤ p ∧ W.heap.size ≤ g
namespace PgX
variable {W w w' : World} {p mp g : Nat} {a b : PgA}
theorem keep0 (h : PgX W w p mp g a) (hk : Kept [] w w') : PgX W w' p mp g a := by
  obtain ⟨⟨zs, h1⟩, h2, h3⟩ := h
  exact ⟨⟨zs, h1.keep0 hk⟩, hk.then_ h2, h3⟩
theorem kept (h : PgX W w p mp g a) : Kept [] W w := h.2.1
theorem lt (h : PgX W w p mp g a) : p < w.heap.size ∧ mp < w.heap.size ∧ g < w.heap.size := by
  obtain ⟨⟨zs, h1⟩, _⟩ := h
  exact h1.lt
theorem ok (h : PgX W w p mp g a) : ∃ len, len ≤ 1048576 ∧ PgOk a len := by
  obtain ⟨⟨zs, ⟨⟨fh, lh, hd, hR⟩, hok⟩⟩, _⟩ := h
  exact ⟨_, hR.lens, hok⟩
theorem to {zs : List Int} {ts : List Nat} (h : PgX W w p mp g a) (ht : PgTo w p mp g b zs ts w') : PgX W w' p mp g b ∧ Kept [p, g] w w' := by
  obtain ⟨_, h2, h3, h4⟩ := h
  obtain ⟨⟨zs', h5, _⟩, hk⟩ := ht
  exact ⟨⟨⟨zs', h5⟩, h2.trans hk (fun x hx hl => by simp at hx; omega), h3, h4⟩, hk⟩
/-- The law's blocks are others than the page's. -/
theorem blk {x : Nat} {t : TypeId} {cs : Array Value} (h : PgX W w p mp g a) (hb : Blk w x t cs) (h1 : t ≠ 92) (h2 : t ≠ 5) : x ≠ p ∧ x ≠ g := by
  obtain ⟨⟨zs, ⟨⟨fh, lh, hd, hR⟩, hok⟩⟩, _⟩ := h
  exact ⟨hb.ne_ hR.blk h1, hb.ne_ hR.mem.2.1 h2⟩
end PgX
section
variable {W w : World} {p mp g : Nat} {a : PgA}
theorem x_alloc (h : PgX W w p mp g a) (x : Nat) (r : List Nat) (hr : a.ready.fr = x :: r) : Calls Try.prog 12 #[.pointer (some ⟨p, 0, none⟩)] w fun e w' => e = .returned (.tuple #[.int .u64 (x : Int), .int .i64 0]) ∧ PgX W w' p mp g (a.ready.taken x r) ∧ Kept [p, g] w w' := by
  obtain ⟨zs, h1⟩ := h.1
  exact (alloc_is w p mp g a zs h1 x r hr).mono fun e w' ⟨he, ht⟩ => ⟨he, h.to ht⟩
theorem x_full (h : PgX W w p mp g a) (hr : a.ready.fr = []) : Calls Try.prog 12 #[.pointer (some ⟨p, 0, none⟩)] w fun e w' => e = .returned (.tuple #[.int .u64 0, .int .i64 4]) ∧ PgX W w' p mp g a.ready ∧ Kept [p, g] w w' := by
  obtain ⟨zs, h1⟩ := h.1
  exact (alloc_full w p mp g a zs h1 hr).mono fun e w' ⟨he, ht⟩ => ⟨he, h.to ht⟩
theorem x_free1 (h : PgX W w p mp g a) (x y c : Nat) (hx : x ∈ a.us) (hy : Blk w y 26 #[.int .u64 (x : Int)]) : Calls Try.prog 13 #[.pointer (some ⟨p, 0, none⟩), .slice (some ⟨y, 0, none⟩) 1 c] w fun e w' => e = .returned (.int .i64 0) ∧ PgX W w' p mp g (a.free1 x) ∧ Kept [p, g] w w' := by
  obtain ⟨zs, h1⟩ := h.1
  exact (free_one w p mp g a zs h1 x y c hx hy).mono fun e w' ⟨he, ht⟩ => ⟨he, h.to ht⟩
theorem x_freeL (h : PgX W w p mp g a) (xs : List Nat) (hnd : xs.Nodup) (hus : ∀ x, x ∈ xs → x ∈ a.us) (A : Option Addr) (n c : Nat) (hn : n = xs.length) (hr : ∀ w', Kept [p, g] w w' → RowX .u64 w' A (xs.map (fun (x : Nat) => (x : Int)))) : Calls Try.prog 13 #[.pointer (some ⟨p, 0, none⟩), .slice A n c] w fun e w' => e = .returned (.int .i64 0) ∧ PgX W w' p mp g (a.freeL xs) ∧ Kept [p, g] w w' := by
  obtain ⟨zs, h1⟩ := h.1
  exact (free_any w p mp g a zs h1 xs hnd hus A n c hn hr).mono fun e w' ⟨he, ht, hk⟩ => ⟨he, h.to (ts := xs) (zs := zs) ⟨ht, hk⟩⟩
theorem x_used (h : PgX W w p mp g a) (r : Int) (hr : (a.po.length : Int) + (a.us.length : Int) = r) : Calls Try.prog 15 #[.pointer (some ⟨p, 0, none⟩)] w fun e w' => e = .returned (.int .i64 r) ∧ Kept [] w w' := by
  obtain ⟨zs, h1⟩ := h.1
  subst hr
  exact used_any w p mp g a zs h1
theorem x_made (h : PgX W w p mp g a) : Calls Try.prog 16 #[.pointer (some ⟨p, 0, none⟩)] w fun e w' => e = .returned (.int .i64 (a.made : Int)) ∧ Kept [] w w' := by
  obtain ⟨zs, h1⟩ := h.1
  exact made_num w p mp g a zs h1
end
def AL0 : PgA := PgA.new 1024 256 4
def AL1 : PgA := AL0.ready.taken 1024 [1280, 1536, 1792]
def AL2 : PgA := AL1.ready.taken 1280 [1536, 1792]
def AL3 : PgA := AL2.free1 1024
def AL4 : PgA := AL3.ready.taken 1536 [1792]
def AL5 : PgA := AL4.ready.taken 1792 []
def AL6 : PgA := AL5.ready.taken 1024 []
set_option maxRecDepth 100000 in
set_option maxHeartbeats 4000000 in
theorem alive_any (W : World) : Calls Try.prog 10 #[] W fun e w' => e = .returned (.bool true) ∧ Kept [] W w' := by
  obtain ⟨zs, hzs⟩ : ∃ zs, zeros 4096 = zs := ⟨_, rfl⟩
  have HZL : zs.length = 4096 := by rw [← hzs]; exact length_zeros _
  have C1 : Hid (Calls Try.prog 27 #[.int .u64 4096] W fun e w' => e = .returned (.tuple #[.pointer (some ⟨W.heap.size + 1, 0, none⟩), .int .i64 0]) ∧ MemB w' (W.heap.size + 1) W.heap.size zs ∧ Kept [] W w') := Lib.hid (by
    have := new_any W 4096 (by omega) (by omega) (by omega); rw [hzs] at this; exact this)
  have C2 : Hid (∀ w, Kept [] W w → MemB w (W.heap.size + 1) W.heap.size zs → Calls Try.prog 28 #[.pointer (some ⟨W.heap.size + 1, 0, none⟩), .agg #[.int .u64 1024, .int .u64 256, .int .i64 4]] w fun e w' => ∃ p, e = .returned (.tuple #[.pointer (some ⟨p, 0, none⟩), .int .i64 0]) ∧ PgX W w' p (W.heap.size + 1) W.heap.size AL0) := Lib.hid (fun w hk hM =>
    (newp_ok w _ _ zs hM 1024 256 4 (by omega)).mono fun e w' ⟨p, he, hp, hP, hk'⟩ => ⟨p, he, ⟨zs, hP⟩, hk'.then_ hk, by have := hk.size; omega, Nat.le_refl _⟩)
  have D1 : Hid (∀ w p, PgX W w p (W.heap.size + 1) W.heap.size AL0 → Calls Try.prog 12 #[.pointer (some ⟨p, 0, none⟩)] w fun e w' => e = .returned (.tuple #[.int .u64 1024, .int .i64 0]) ∧ PgX W w' p (W.heap.size + 1) W.heap.size AL1 ∧ Kept [p, W.heap.size] w w') := Lib.hid (fun w p h => x_alloc h 1024 [1280, 1536, 1792] rfl)
  have D2 : Hid (∀ w p, PgX W w p (W.heap.size + 1) W.heap.size AL1 → Calls Try.prog 12 #[.pointer (some ⟨p, 0, none⟩)] w fun e w' => e = .returned (.tuple #[.int .u64 1280, .int .i64 0]) ∧ PgX W w' p (W.heap.size + 1) W.heap.size AL2 ∧ Kept [p, W.heap.size] w w') := Lib.hid (fun w p h => x_alloc h 1280 [1536, 1792] rfl)
  have D3 : Hid (∀ w p, PgX W w p (W.heap.size + 1) W.heap.size AL2 → ∀ y c, Blk w y 26 #[.int .u64 1024] → Calls Try.prog 13 #[.pointer (some ⟨p, 0, none⟩), .slice (some ⟨y, 0, none⟩) 1 c] w fun e w' => e = .returned (.int .i64 0) ∧ PgX W w' p (W.heap.size + 1) W.heap.size AL3 ∧ Kept [p, W.heap.size] w w') := Lib.hid (fun w p h y c hy => x_free1 h 1024 y c (by decide) hy)
  have D4 : Hid (∀ w p, PgX W w p (W.heap.size + 1) W.heap.size AL3 → Calls Try.prog 12 #[.pointer (some ⟨p, 0, none⟩)] w fun e w' => e = .returned (.tuple #[.int .u64 1536, .int .i64 0]) ∧ PgX W w' p (W.heap.size + 1) W.heap.size AL4 ∧ Kept [p, W.heap.size] w w') := Lib.hid (fun w p h => x_alloc h 1536 [1792] rfl)
  have D5 : Hid (∀ w p, PgX W w p (W.heap.size + 1) W.heap.size AL4 → Calls Try.prog 12 #[.pointer (some ⟨p, 0, none⟩)] w fun e w' => e = .returned (.tuple #[.int .u64 1792, .int .i64 0]) ∧ PgX W w' p (W.heap.size + 1) W.heap.size AL5 ∧ Kept [p, W.heap.size] w w') := Lib.hid (fun w p h => x_alloc h 1792 [] rfl)
  have D6 : Hid (∀ w p, PgX W w p (W.heap.size + 1) W.heap.size AL5 → Calls Try.prog 12 #[.pointer (some ⟨p, 0, none⟩)] w fun e w' => e = .returned (.tuple #[.int .u64 1024, .int .i64 0]) ∧ PgX W w' p (W.heap.size + 1) W.heap.size AL6 ∧ Kept [p, W.heap.size] w w') := Lib.hid (fun w p h => x_alloc h 1024 [] rfl)
  have D7 := Lib.hid (fun w => alloc_nil w)
  have D8 := Lib.hid (fun w p (h : PgX W w p (W.heap.size + 1) W.heap.size AL6) => x_used h 4 rfl)
  clear hzs HZL
  go_enter Try.func10, Try.ntmps10
  go_wp2_with fail
  (with_reducible refine C1.out.mono ?_)
  rintro e w1 ⟨rfl, hM1, hb1⟩
  have M1 := Lib.hid hM1
  clear hM1
  go_wp2_with fail
  (with_reducible refine (C2.out _ hb1 M1.out).mono ?_)
  rintro e w2 ⟨p, rfl, hP2⟩
  have P2 := Lib.hid hP2
  have l2 := hP2.lt
  clear hP2 hb1
  go_wp2_with fail
  (with_reducible refine (D1.out _ _ P2.out).mono ?_)
  rintro e w3 ⟨rfl, hP3, _⟩
  have P3 := Lib.hid hP3
  clear hP3
  go_wp2_with fail
  (with_reducible refine (D2.out _ _ P3.out).mono ?_)
  rintro e w4 ⟨rfl, hP4, _⟩
  have P4 := Lib.hid hP4
  clear hP4
  go_wp2_with fail
  (with_reducible refine (D3.out _ _ (P4.out.keep0 ((Kept.refl [] w4).alloc _)) _ _ (Blk.new _ _ _)).mono ?_)
  rintro e w5 ⟨rfl, hP5, _⟩
  have P5 := Lib.hid hP5
  clear hP5
  go_wp2_with fail
  (with_reducible refine (D4.out _ _ P5.out).mono ?_)
  rintro e w6 ⟨rfl, hP6, _⟩
  have P6 := Lib.hid hP6
  clear hP6
  go_wp2_with fail
  (with_reducible refine (D5.out _ _ P6.out).mono ?_)
  rintro e w7 ⟨rfl, hP7, _⟩
  have P7 := Lib.hid hP7
  clear hP7
  go_wp2_with fail
  (with_reducible refine (D6.out _ _ P7.out).mono ?_)
  rintro e w8 ⟨rfl, hP8, _⟩
  have P8 := Lib.hid hP8
  clear hP8
  go_wp2_with fail
  (with_reducible refine (D7.out _).mono ?_)
  rintro e w9 ⟨rfl, hb9⟩
  go_wp2_with fail
  (with_reducible refine (D8.out _ _ (P8.out.keep0 hb9)).mono ?_)
  rintro e w10 ⟨rfl, hb10⟩
  go_wp2_with fail
  go_ret
  exact ⟨rfl, (hb10.then_ hb9).then_ P8.out.kept⟩
set_option maxRecDepth 100000 in
set_option maxHeartbeats 4000000 in
theorem made_any (W : World) (x y : Int) (hx : 0 ≤ x ∧ x ≤ 255) (hy : 0 ≤ y ∧ y ≤ 255) (Z N : Nat) (hZ : (Z : Int) = 16 * (x % 16 + 1)) (hN : (N : Int) = y % 60 + 1) :
    Calls Try.prog 11 #[.int .u8 x, .int .u8 y] W fun e w' => ∃ p mp g, e = .returned (.tuple #[.pointer (some ⟨p, 0, none⟩), .pointer (some ⟨mp, 0, none⟩), .agg #[.int .u64 1024, .int .u64 (Z : Int), .int .i64 (N : Int)], .bool true]) ∧ PgX W w' p mp g (PgA.new 1024 Z N) := by
  obtain ⟨zs, hzs⟩ : ∃ zs, zeros 65536 = zs := ⟨_, rfl⟩
  have HZL : zs.length = 65536 := by rw [← hzs]; exact length_zeros _
  have C1 : Hid (∀ w, Calls Try.prog 27 #[.int .u64 65536] w fun e w' => e = .returned (.tuple #[.pointer (some ⟨w.heap.size + 1, 0, none⟩), .int .i64 0]) ∧ MemB w' (w.heap.size + 1) w.heap.size zs ∧ Kept [] w w') := Lib.hid (fun w => by
    have := new_any w 65536 (by omega) (by omega) (by omega); rw [hzs] at this; exact this)
  have hb : 1 ≤ 1024 ∧ 16 ≤ Z ∧ 1 ≤ N ∧ N ≤ 1024 ∧ 1024 + N * Z ≤ 65536 := by
    have h1 : N ≤ 60 := by omega
    have h2 : Z ≤ 256 := by omega
    have h3 : N * Z ≤ 60 * 256 := Nat.mul_le_mul h1 h2
    omega
  have C2 : Hid (∀ w mp g, MemB w mp g zs → Calls Try.prog 28 #[.pointer (some ⟨mp, 0, none⟩), .agg #[.int .u64 1024, .int .u64 (Z : Int), .int .i64 (N : Int)]] w fun e w' => ∃ p, e = .returned (.tuple #[.pointer (some ⟨p, 0, none⟩), .int .i64 0]) ∧ w.heap.size ≤ p ∧ PgM w' p mp g (PgA.new 1024 Z N) zs ∧ Kept [] w w') := Lib.hid (fun w mp g hM => newp_ok w mp g zs hM 1024 Z N (by rw [HZL]; exact hb))
  have t1 : Int.tmod x 16 = x % 16 := Int.tmod_eq_emod_of_nonneg hx.1
  have t2 : Int.tmod y 60 = y % 60 := Int.tmod_eq_emod_of_nonneg hy.1
  have e1 : IntKind.u64.wrap (16 * (x % 16 + 1)) = (Z : Int) := by rw [IntKind.wrap_u64]; omega
  clear hzs HZL hb
  go_enter Try.func11, Try.ntmps11
  go_wp2_with fail
  (with_reducible refine (C1.out _).mono ?_)
  rintro e w1 ⟨rfl, hM1, hb1⟩
  have M1 : Hid (MemB w1 (W.heap.size + 1 + 1) (W.heap.size + 1) zs) := Lib.hid (by have := hM1; simp only [World.size_alloc] at this; exact this)
  clear hM1
  go_wp2_with fail
  rw [← hZ, ← hN]
  clear hZ hN e1
  (with_reducible refine (C2.out _ _ _ (M1.out.keep0 ((Kept.refl [] _).alloc _))).mono ?_)
  rintro e w2 ⟨p, rfl, hp, hP, hb2⟩
  have B2 : Blk w2 w1.heap.size 28 #[.int .u64 1024, .int .u64 (Z : Int), .int .i64 (N : Int)] := (Blk.new w1 _ _).keep0 hb2
  have Q1 : Blk w1 W.heap.size 28 #[.int .u64 0, .int .u64 0, .int .i64 0] := (Blk.new W _ _).keep0 hb1
  have Q2 := (Q1.alloc _).keep0 hb2
  have K2 : Kept [] W w2 := by (repeat' (first | (with_reducible exact Kept.refl _ _) | (with_reducible assumption) | (with_reducible refine Kept.then_ (by with_reducible assumption) ?_) | (with_reducible refine Kept.thenS (by with_reducible assumption) ?_) | (with_reducible refine Kept.alloc ?_ _) | (with_reducible refine Kept.drew ?_) | (with_reducible refine Kept.drewN ?_ _) | (with_reducible refine Kept.setNew ?_ ?_ _) | ((try simp only [World.size_alloc, World.size_setCell, World.size_drew, size_drewN] at *); (try dsimp only); omega)))
  have hs1 := hb1.size
  have hs2 := hb2.size
  simp only [World.size_alloc] at hs1 hs2 hp
  have b0 := B2.cell 0
  have b1 := B2.cell 1
  have b2 := B2.cell 2
  have bl := B2.lt
  have hp1 : w1.heap.size < p := by omega
  have HP := Lib.hid hP
  have HK := Lib.hid K2
  have HQ := Lib.hid Q2
  have c0 := Q2.cell 0
  have c1 := Q2.cell 1
  have c2 := Q2.cell 2
  have cl := Q2.lt
  have f0 := Q2.frozen 0
  have f1 := Q2.frozen 1
  have f2 := Q2.frozen 2
  have hne : W.heap.size ≠ w1.heap.size := by omega
  clear hP hb1 hb2 B2 Q1 Q2 K2
  go_wp2_with fail
  go_region_held3 (fun w' => w'.cell? ⟨w1.heap.size, 0, none⟩ = some (.int .u64 1024) ∧ w'.cell? ⟨w1.heap.size, 1, none⟩ = some (.int .u64 (Z : Int)) ∧ w'.cell? ⟨w1.heap.size, 2, none⟩ = some (.int .i64 (N : Int)) ∧ w1.heap.size < w'.heap.size) (first | exact ⟨b0, b1, b2, bl⟩ | go_keep | (simp [World.setCell]; done)) (fail)
  go_wp2_with fail
  refine bodyPost_ret (v := .tuple #[.pointer (some ⟨p, 0, none⟩), .pointer (some ⟨W.heap.size + 1 + 1, 0, none⟩), .agg #[.int .u64 1024, .int .u64 (Z : Int), .int .i64 (N : Int)], .bool true]) (by simp [results, Try.results11, go_sem, c0, c1, c2, cl, Try.underlying28]) rfl ?_
  refine ⟨p, _, W.heap.size + 1, rfl, ⟨zs, ?_⟩, ?_, by omega, by omega⟩
  · refine PgM.keep0 ?_ ((Kept.refl [] _).drew)
    exact HP.out.keepS ((((Kept.refl [W.heap.size] w2).setIn (by simp) _).setIn (by simp) _).setIn (by simp) _) (by simp; omega) (by simp; omega) (by simp)
  · have := HK.out
    (repeat' (first | (with_reducible exact Kept.refl _ _) | (with_reducible assumption) | (with_reducible refine Kept.then_ (by with_reducible assumption) ?_) | (with_reducible refine Kept.thenS (by with_reducible assumption) ?_) | (with_reducible refine Kept.alloc ?_ _) | (with_reducible refine Kept.drew ?_) | (with_reducible refine Kept.drewN ?_ _) | (with_reducible refine Kept.setNew ?_ ?_ _) | ((try simp only [World.size_alloc, World.size_setCell, World.size_drew, size_drewN] at *); (try dsimp only); omega)))
end Go.Proofs.Ytgiokigokedakaa
