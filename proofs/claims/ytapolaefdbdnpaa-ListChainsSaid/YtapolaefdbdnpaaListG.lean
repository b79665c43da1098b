/- alive, of lists. -/
import Derived.Test.YtapolaefdbdnpaaListP
import Derived.Deep.QuietTactic
import Derived.BigQuiet
set_option linter.unusedVariables false
set_option linter.unusedSimpArgs false
namespace Go.Proofs.Ytapolaefdbdnpaa
open Go.RowKit
theorem ListB.of {w : World} {b : Nat} {hd n : Int} (h : Blk w b 32 #[.int .u64 hd, .int .i64 n]) : ListB w b hd n := h
theorem OwnI.row {B : Nat} {k : IntKind} {e : TypeId} {w : World} {A : Option Addr} {n c : Nat} {zs : List Int} (h : OwnI B k e w (.slice A n c) zs) : RowX k w A zs := by
  obtain ⟨A', c', h1, _, h2, _⟩ := h.slice
  cases h1
  exact h2
theorem row2 {k : IntKind} {w : World} {b : Nat} {t : TypeId} {x y : Int} (h : Blk w b t #[.int k x, .int k y]) : RowX k w (some ⟨b, 0, none⟩) [x, y] :=
  RowX.of_blk h (fun i hi => by
    match i, hi with
    | 0, _ => rfl
    | 1, _ => rfl)
set_option maxRecDepth 100000 in
set_option maxHeartbeats 2000000 in
theorem same_eq (w : World) (A A' : Option Addr) (n c n' c' : Nat) (ys : List Int) (hn : n = ys.length) (hr : RowX .u64 w A ys) (hn' : n' = ys.length) (hr' : RowX .u64 w A' ys) (hl : ys.length ≤ 9223372036854775807) :
    Calls Try.prog 19 #[.slice A n c, .slice A' n' c'] w fun e w' => e = .returned (.bool true) ∧ Kept [] w w' := by
  subst hn hn'
  have HR := Lib.hid hr
  have HR' := Lib.hid hr'
  clear hr hr'
  go_enter Try.func19, Try.ntmps19
  go_wp2_with fail
  go_loopw [13] (fun i wr => ∃ k : Nat, k ≤ ys.length ∧ i = .int .i64 k ∧ Kept [] w wr) (fun i _ => ys.length - (intOf i).toNat)
  case atStart => exact ⟨0, Nat.zero_le _, rfl, Kept.refl _ _⟩
  case round =>
    obtain ⟨k, hk, rfl, hkw⟩ := hrel
    by_cases hlt : k < ys.length
    · obtain ⟨ad, rfl, hc⟩ := HR.out.get (by omega)
      obtain ⟨ad', rfl, hc'⟩ := HR'.out.get (by omega)
      have c1 := hc wr hkw k hlt
      have c2 := hc' wr hkw k hlt
      clear hc hc'
      generalize ys[k]?.getD 0 = x at c1 c2
      have l1 := cell_lt c1
      have l2 := cell_lt c2
      have q1 : (0 : Int) ≤ (k : Int) := by omega
      have q2 : (k : Int) < (ys.length : Int) := by omega
      go_wp2_with fail
      go_quiet (fail)
      go_wp2_with fail
      go_roundw
      case rel => exact ⟨k + 1, by omega, by go_num, hkw.drewN _⟩
      case measure => simp [intOf]; omega
    · obtain rfl : k = ys.length := by omega
      go_wp2_with fail
      go_ret
      exact ⟨rfl, hkw⟩
set_option maxHeartbeats 1000000 in
theorem push_none (w : World) (p : Option Addr) (A : Option Addr) (n c : Nat) : Calls Try.prog 13 #[.pointer none, .pointer p, .slice A n c] w fun e w' => e = .returned (.int .i64 1) ∧ w = w' := by
  go_enter Try.func13, Try.ntmps13
  go_wp2_with fail
  go_ret
  exact ⟨rfl, rfl⟩
theorem chn_two (zs : List Int) (h : zs.length = 1024) : ∃ z2, pushG zs 0 [16, 32] = (z2, 32) ∧ z2.length = 1024 ∧ Chn z2 32 [32, 16] ∧ lk z2 32 = 16 := by
  refine ⟨_, rfl, ?_, ?_⟩
  · have := pushG_len [16, 32] zs 0 (fun a ha => by simp at ha; omega)
    rw [h] at this
    exact this
  · have hc := Chn.pushG (len := 1024) (by omega) [16, 32] (zs := zs) (hd := 0) (l := []) h rfl (fun a ha => by simp at ha; omega) (by simp) (fun a _ x hx => by cases hx) (by decide)
    have hc' : Chn (pushG zs 0 [16, 32]).1 32 [32, 16] := hc
    exact ⟨hc', hc'.2.2.2.1⟩
set_option maxRecDepth 100000 in
set_option maxHeartbeats 2000000 in
theorem alive_any (w : World) : Calls Try.prog 10 #[] w fun e w' => e = .returned (.bool true) ∧ Kept [] w w' := by
  obtain ⟨zs, hzs⟩ : ∃ zs, zeros 1024 = zs := ⟨_, rfl⟩
  have hl : Hid (zs.length = 1024) := Lib.hid (by rw [← hzs]; unfold zeros; exact List.length_replicate)
  have C1 : Hid (∀ w : World, Calls Try.prog 11 #[.int .u64 1024] w fun e w' => e = .returned (.tuple #[.pointer (some ⟨w.heap.size + 1, 0, none⟩), .int .i64 0]) ∧ MemB w' (w.heap.size + 1) w.heap.size zs ∧ Kept [] w w') := Lib.hid (by
    intro w; have := new_any w 1024 (by omega) (by omega) (by omega); rw [hzs] at this; exact this)
  clear hzs
  obtain ⟨z2, hz2, hl2, hch, hlk⟩ := chn_two zs hl.out
  have HL2 := Lib.hid hl2
  have HCH := Lib.hid hch
  have C2 : Hid (∀ (w : World) p g b q, MemB w p g zs → ListB w b 0 0 → Blk w q 28 #[.int .u64 16, .int .u64 32] → q ≠ b → q ≠ g → Calls Try.prog 13 #[.pointer (some ⟨b, 0, none⟩), .pointer (some ⟨p, 0, none⟩), .slice (some ⟨q, 0, none⟩) 2 2] w fun e w' => e = .returned (.int .i64 0) ∧ MemB w' p g z2 ∧ ListB w' b 32 2 ∧ Kept [b, g] w w') := Lib.hid (by
    intro w p g b q hM hB hQ hqb hqg
    have := push_row w b p g zs 0 0 [16, 32] [] 0 (some ⟨q, 0, none⟩) 2 2 hM hB (by decide) (by simp) (fun a ha => by have := hl.out; simp at ha; omega) (.inl ⟨rfl, rfl⟩) (fun w' hk => row2 (hQ.keep hk (by simp; exact ⟨hqb, hqg⟩))) rfl (by omega)
    rw [hz2] at this
    exact this)
  have C3 : Hid (∀ (w : World) p g b, MemB w p g z2 → ListB w b 32 2 → Calls Try.prog 15 #[.pointer (some ⟨b, 0, none⟩), .pointer (some ⟨p, 0, none⟩)] w fun e w' => (∃ A c, e = .returned (.tuple #[.slice A 2 c, .int .i64 0]) ∧ OwnI w.heap.size .u64 28 w' (.slice A 2 c) [32, 16] ∧ (A = none → c = 0)) ∧ Kept [] w w') := Lib.hid (fun w p g b hM hB => all_chn w b p g z2 32 [32, 16] hM hB HCH.out (by have := HL2.out; simp; omega))
  have C4 : Hid (∀ (w : World) p g, MemB w p g z2 → Calls Try.prog 30 #[.pointer (some ⟨p, 0, none⟩), .int .u64 32, .int .i64 8] w fun e w' => e = .returned (.tuple #[.int .u64 16, .int .i64 0]) ∧ Kept [] w w') := Lib.hid (by
    intro w p g hM
    have := load_8 w p g z2 hM 32 (by have := HL2.out; omega)
    rw [(hM.2.2.2.ldV 32).1, hlk] at this
    exact this)
  clear hz2 hl2 hch hlk
  go_enter Try.func10, Try.ntmps10
  go_wp2_with fail
  (with_reducible refine (C1.out _).mono ?_)
  rintro e w1 ⟨rfl, hM1, hb1⟩
  have hs1 := hb1.size
  (try simp only [World.size_alloc, World.size_setCell, World.size_drew, size_drewN] at hs1)
  have M1 := Lib.hid hM1
  have hg1 := hM1.2.1.lt
  clear hM1
  (try simp only [size_drewN, World.size_drew] at M1 hg1)
  have hp1 := M1.out.1.lt
  go_wp2_with fail
  (with_reducible refine (C2.out _ _ _ w1.heap.size (w1.heap.size + 1) (M1.out.keep0 (by (repeat' (first | (with_reducible exact Kept.refl _ _) | (with_reducible assumption) | (with_reducible refine Kept.then_ (by with_reducible assumption) ?_) | (with_reducible refine Kept.thenS (by with_reducible assumption) ?_) | (with_reducible refine Kept.alloc ?_ _) | (with_reducible refine Kept.drew ?_) | (with_reducible refine Kept.drewN ?_ _) | (with_reducible refine Kept.setNew ?_ ?_ _) | ((try simp only [World.size_alloc, World.size_setCell, World.size_drew, size_drewN] at *); (try dsimp only); omega))))) (ListB.of (Blk.alloc (Blk.new w1 _ _) _)) (Blk.new' _ _ _ (by simp)) (by omega) (by omega)).mono ?_)
  rintro e w2 ⟨rfl, hM2, hB2, hb2⟩
  have M2 := Lib.hid hM2
  have B2 := Lib.hid hB2
  have hs2 := hb2.size
  simp only [World.size_alloc] at hs2
  clear hM2 hB2
  go_wp2_with fail
  (with_reducible refine (C3.out _ _ _ _ M2.out B2.out).mono ?_)
  rintro e w3 ⟨⟨A3, c3, rfl, hO3, hA3⟩, hb3⟩
  have hs3 := hb3.size
  (try simp only [World.size_alloc, World.size_setCell, World.size_drew, size_drewN] at hs3)
  have O3 := Lib.hid hO3
  clear hO3
  (try simp only [size_drewN, World.size_drew] at O3)
  go_wp2_with fail
  (with_reducible refine (C4.out _ _ _ (M2.out.keep0 hb3)).mono ?_)
  rintro e w4 ⟨rfl, hb4⟩
  have hs4 := hb4.size
  (try simp only [World.size_alloc, World.size_setCell, World.size_drew, size_drewN] at hs4)
  have R4 := Lib.hid ((O3.out.kept hb4).row)
  have B4 := Lib.hid ((B2.out.keep0 hb3).keep0 hb4)
  have d1 := Blk.cell B4.out 1
  have l1 := Blk.lt B4.out
  go_wp2_with fail
  (with_reducible refine (same_eq _ _ _ 2 _ 2 _ [32, 16] rfl (R4.out.keep ((Kept.refl [] _).alloc _)) rfl (row2 (Blk.new _ _ _)) (by decide)).mono ?_)
  rintro e w5 ⟨rfl, hb5⟩
  have B5 := Lib.hid ((B4.out.keep0 ((Kept.refl [] _).alloc _)).keep0 hb5)
  have d2 := Blk.cell B5.out 1
  have l2 := Blk.lt B5.out
  go_wp2_with fail
  (with_reducible refine (push_none _ _ _ _ _).mono ?_)
  rintro e w6 ⟨rfl, rfl⟩
  go_wp2_with fail
  go_ret
  exact ⟨rfl, by (repeat' (first | (with_reducible exact Kept.refl _ _) | (with_reducible assumption) | (with_reducible refine Kept.then_ (by with_reducible assumption) ?_) | (with_reducible refine Kept.thenS (by with_reducible assumption) ?_) | (with_reducible refine Kept.thenG (by with_reducible assumption) ?_ ?_) | (with_reducible refine Kept.thenG2 (by with_reducible assumption) ?_ ?_ ?_) | (with_reducible refine Kept.alloc ?_ _) | (with_reducible refine Kept.drew ?_) | (with_reducible refine Kept.drewN ?_ _) | (with_reducible refine Kept.setNew ?_ ?_ _) | ((try simp only [World.size_alloc, World.size_setCell, World.size_drew, size_drewN] at *); (try dsimp only); omega)))⟩
end Go.Proofs.Ytapolaefdbdnpaa
