/- The same bytes; the examples. -/
import Derived.Test.YtlcaddedfgndoaaMemF
import Derived.Laws.BytesArg
set_option linter.unusedVariables false
set_option linter.unusedSimpArgs false
namespace Go.Proofs.Ytlcaddedfgndoaa
open Go.RowKit
theorem conv_row (w : World) (A : Option Addr) (n c : Nat) (ys : List Int) (hn : n = ys.length) (hr : RowX .u8 w A ys) :
    (convert 22 9 (.slice A n c)).run Try.prog w = .ok (.string (strOfNums ys)) w := by
  subst hn
  cases A with
  | none =>
    have : ys = [] := by
      cases ys with
      | nil => rfl
      | cons y l => obtain ⟨x, h1, _⟩ := hr (by simp); cases h1
    subst this
    rw [run_convert_bytes_nil w 22 5 Try.underlying22 Try.underlying5 _ c 9 Try.underlying9]
    rfl
  | some ad =>
    have hl : (loadCells ad ys.length).run Try.prog w = .ok (ys.map (Value.int .u8)).toArray w := by
      have := run_loadCells_list (P := Try.prog) w ad (ys.map (Value.int .u8)) (row_vals hr)
      simpa using this
    rw [run_convert_bytes_string w 22 9 5 _ ys.length c Try.underlying22 Try.underlying5 Try.underlying9, run_bytesToString w _ ys.length c ys hl, foldl_push_bytes]
    simp [strOfNums, ByteArray.empty, ByteArray.emptyWithCapacity]
    rfl
theorem same_eq (w : World) (A A' : Option Addr) (n c n' c' : Nat) (ys : List Int) (hn : n = ys.length) (hr : RowX .u8 w A ys) (hn' : n' = ys.length) (hr' : RowX .u8 w A' ys) :
    Calls Try.prog 13 #[.slice A n c, .slice A' n' c'] w fun e w' => e = .returned (.bool true) ∧ w = w' := by
  have h1 := conv_row w A n c ys hn hr
  have h2 := conv_row w A' n' c' ys hn' hr'
  clear hn hn' hr hr'
  go_enter Try.func13, Try.ntmps13
  go_wp2
  go_ret
  exact ⟨rfl, rfl⟩
theorem OwnI.row {B : Nat} {k : IntKind} {e : TypeId} {w : World} {A : Option Addr} {n c : Nat} {zs : List Int} (h : OwnI B k e w (.slice A n c) zs) : RowX k w A zs := by
  obtain ⟨A', c', h1, _, h2, _⟩ := OwnI.slice h
  cases h1
  exact h2
theorem row_2 {k : IntKind} {w : World} {b : Nat} {t : TypeId} {x y : Int} (h : Blk w b t #[.int k x, .int k y]) : RowX k w (some ⟨b, 0, none⟩) [x, y] :=
  RowX.of_blk h (fun i hi => by
    match i, hi with
    | 0, _ => rfl
    | 1, _ => rfl)
theorem row_1 {k : IntKind} {w : World} {b : Nat} {t : TypeId} {x : Int} (h : Blk w b t #[.int k x]) : RowX k w (some ⟨b, 0, none⟩) [x] :=
  RowX.of_blk h (fun i hi => by
    match i, hi with
    | 0, _ => rfl)
theorem row_5 {k : IntKind} {w : World} {b : Nat} {t : TypeId} {x y z u v : Int} (h : Blk w b t #[.int k x, .int k y, .int k z, .int k u, .int k v]) : RowX k w (some ⟨b, 0, none⟩) [x, y, z, u, v] :=
  RowX.of_blk h (fun i hi => by
    match i, hi with
    | 0, _ => rfl
    | 1, _ => rfl
    | 2, _ => rfl
    | 3, _ => rfl
    | 4, _ => rfl)
theorem rep_12 : rep [1, 2] 5 = [1, 2, 1, 2, 1] := rfl
theorem bytes_258 : bytesOf 2 258 = [2, 1] := rfl
theorem alive_piece (zs : List Int) (h : zs.length = 1024) : ((splice zs 8 [2, 1]).drop 8).take 2 = [2, 1] := splice_mid zs 8 [2, 1] (by simp; omega)
theorem alive_piece2 (zs : List Int) (h : zs.length = 1024) : ((splice zs 0 [1, 2, 1, 2, 1]).drop 0).take 5 = [1, 2, 1, 2, 1] := splice_mid zs 0 [1, 2, 1, 2, 1] (by simp; omega)
set_option maxRecDepth 100000 in
set_option maxHeartbeats 1000000 in
theorem alive_any (w : World) : Calls Try.prog 9 #[] w fun e w' => e = .returned (.bool true) ∧ Kept [] w w' := by
  obtain ⟨zs, hzs⟩ : ∃ zs, zeros 1024 = zs := ⟨_, rfl⟩
  have hl : Hid (zs.length = 1024) := Lib.hid (by rw [← hzs]; simp [zeros])
  have C1 : Hid (∀ w : World, Calls Try.prog 10 #[.int .u64 1024] w fun e w' => e = .returned (.tuple #[.pointer (some ⟨w.heap.size + 1, 0, none⟩), .int .i64 0]) ∧ MemB w' (w.heap.size + 1) w.heap.size zs ∧ Kept [] w w') := Lib.hid (by
    intro w; have := new_any w 1024 (by omega) (by omega) (by omega); rw [hzs] at this; exact this)
  clear hzs
  have C2 : Hid (∀ (w : World) p g, MemB w p g zs → Calls Try.prog 16 #[.pointer (some ⟨p, 0, none⟩), .int .u64 8, .int .i64 2, .int .u64 258] w fun e w' => e = .returned (.int .i64 0) ∧ MemB w' p g (splice zs 8 [2, 1]) ∧ Kept [g] w w') := Lib.hid (by
    intro w p g h
    have := store_2 w p g zs h 8 258 (by have := hl.out; omega) (by omega) (by omega)
    rw [bytes_258] at this; exact this)
  have hl2 : Hid ((splice zs 8 [2, 1]).length = 1024) := Lib.hid (by rw [length_splice _ _ _ (by have := hl.out; simp; omega)]; exact hl.out)
  have C3 : Hid (∀ (w : World) p g, MemB w p g (splice zs 8 [2, 1]) → Calls Try.prog 12 #[.pointer (some ⟨p, 0, none⟩), .int .u64 8, .int .u64 2] w (GetIs w [2, 1])) := Lib.hid (by
    intro w p g h
    have := get_in w p g _ h 8 2 (by have := hl2.out; omega)
    rw [alive_piece zs hl.out] at this; exact this)
  have C4 : Hid (∀ (w : World) p g b, MemB w p g (splice zs 8 [2, 1]) → b ≠ g → Blk w b 5 #[.int .u8 1, .int .u8 2] → Calls Try.prog 11 #[.pointer (some ⟨p, 0, none⟩), .int .u64 0, .int .u64 5, .slice (some ⟨b, 0, none⟩) 2 2] w fun e w' => e = .returned (.int .i64 0) ∧ MemB w' p g (splice (splice zs 8 [2, 1]) 0 [1, 2, 1, 2, 1]) ∧ Kept [g] w w') := Lib.hid (by
    intro w p g b h hb hB
    have := fill_in w p g _ h 0 5 (by have := hl2.out; omega) (some ⟨b, 0, none⟩) 2 2 [1, 2] rfl (fun w' hk => row_2 (hB.keep hk (by simpa using hb))) (fun z hz => by simp at hz; omega) (by simp) (by simp)
    rw [rep_12] at this; exact this)
  have hl3 : Hid ((splice (splice zs 8 [2, 1]) 0 [1, 2, 1, 2, 1]).length = 1024) := Lib.hid (by rw [length_splice _ _ _ (by have := hl2.out; simp; omega)]; exact hl2.out)
  have C5 : Hid (∀ (w : World) p g, MemB w p g (splice (splice zs 8 [2, 1]) 0 [1, 2, 1, 2, 1]) → Calls Try.prog 12 #[.pointer (some ⟨p, 0, none⟩), .int .u64 0, .int .u64 5] w (GetIs w [1, 2, 1, 2, 1])) := Lib.hid (by
    intro w p g h
    have := get_in w p g _ h 0 5 (by have := hl3.out; omega)
    rw [alive_piece2 _ hl2.out] at this; exact this)
  go_enter Try.func9, Try.ntmps9
  go_wp2_with fail
  (with_reducible refine (C1.out _).mono ?_)
  rintro e w1 ⟨rfl, hM1, hk1⟩
  have M1 := Lib.hid hM1
  have hs1 := hk1.size
  have hg1 := hM1.2.1.lt
  clear hM1
  go_wp2_with fail
  (with_reducible refine (C2.out _ _ _ M1.out).mono ?_)
  rintro e w2 ⟨rfl, hM2, hk2⟩
  have M2 := Lib.hid hM2
  have hs2 := hk2.size
  clear hM2 M1
  go_wp2_with fail
  (with_reducible refine (C3.out _ _ _ M2.out).mono ?_)
  rintro e w3 ⟨A3, c3, rfl, hO3, hk3⟩
  have M3 := Lib.hid (M2.out.keep0 hk3)
  have O3 := Lib.hid (hO3.less hs2)
  have hs3 := hk3.size
  have hg3 := M3.out.2.1.lt
  clear hO3 M2
  go_wp2_with fail
  (with_reducible refine (C4.out _ _ _ _ (M3.out.keep0 (by (repeat' (first | (with_reducible exact Kept.refl _ _) | (with_reducible assumption) | (with_reducible refine Kept.then_ (by with_reducible assumption) ?_) | (with_reducible refine Kept.thenS (by with_reducible assumption) ?_) | (with_reducible refine Kept.alloc ?_ _) | (with_reducible refine Kept.drew ?_) | (with_reducible refine Kept.drewN ?_ _) | (with_reducible refine Kept.setNew ?_ ?_ _) | ((try simp only [World.size_alloc, World.size_setCell, World.size_drew, size_drewN] at *); (try dsimp only); omega))))) (by omega) (Blk.new _ _ _)).mono ?_)
  rintro e w4 ⟨rfl, hM4, hk4⟩
  have M4 := Lib.hid hM4
  have hs4 := hk4.size
  simp only [World.size_alloc] at hs4
  clear hM4 M3
  go_wp2_with fail
  (with_reducible refine (C5.out _ _ _ M4.out).mono ?_)
  rintro e w5 ⟨A5, c5, rfl, hO5, hk5⟩
  have O5 := Lib.hid hO5
  have hs5 := hk5.size
  have K34 : Hid (Kept [w.heap.size] w3 w4) := Lib.hid (hk4.thenS (by (repeat' (first | (with_reducible exact Kept.refl _ _) | (with_reducible assumption) | (with_reducible refine Kept.then_ (by with_reducible assumption) ?_) | (with_reducible refine Kept.thenS (by with_reducible assumption) ?_) | (with_reducible refine Kept.alloc ?_ _) | (with_reducible refine Kept.drew ?_) | (with_reducible refine Kept.drewN ?_ _) | (with_reducible refine Kept.setNew ?_ ?_ _) | ((try simp only [World.size_alloc, World.size_setCell, World.size_drew, size_drewN] at *); (try dsimp only); omega)))))
  have O3' := Lib.hid ((O3.out.keepS K34.out (fun s hs => by simp at hs; omega)).kept hk5)
  clear hO5 M4 O3
  go_wp2_with fail
  (with_reducible refine (same_eq _ _ _ 2 _ 2 _ [2, 1] rfl (O3'.out.row.keep ((Kept.refl [] _).alloc _)) rfl (row_2 (Blk.new _ _ _))).mono ?_)
  rintro e w' ⟨rfl, rfl⟩
  go_wp2_with fail
  (with_reducible refine (same_eq _ _ _ 5 _ 5 _ [1, 2, 1, 2, 1] rfl (O5.out.row.keep (((Kept.refl [] _).alloc _).alloc _)) rfl (row_5 (b := w5.heap.size + 1) (Blk.new' _ _ _ (by simp)))).mono ?_)
  rintro e w' ⟨rfl, rfl⟩
  go_wp2_with fail
  (with_reducible refine (put_none _ _).mono ?_)
  rintro e w' ⟨rfl, rfl⟩
  go_wp2_with fail
  go_ret
  exact ⟨rfl, by (repeat' (first | (with_reducible exact Kept.refl _ _) | (with_reducible assumption) | (with_reducible refine Kept.then_ (by with_reducible assumption) ?_) | (with_reducible refine Kept.thenS (by with_reducible assumption) ?_) | (with_reducible refine Kept.thenG (by with_reducible assumption) ?_ ?_) | (with_reducible refine Kept.alloc ?_ _) | (with_reducible refine Kept.drew ?_) | (with_reducible refine Kept.drewN ?_ _) | (with_reducible refine Kept.setNew ?_ ?_ _) | ((try simp only [World.size_alloc, World.size_setCell, World.size_drew, size_drewN] at *); (try dsimp only); omega)))⟩
end Go.Proofs.Ytlcaddedfgndoaa
