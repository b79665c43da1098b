/- Links of posted blocks that were written over are told, and end nothing. No condition. -/
import Derived.Test.YtgiokigokedakaaPgLinks
import Derived.Deep.RegionHeld3
import Derived.StillTailTactics
import Derived.RegionTactic
set_option linter.unusedVariables false
set_option linter.unusedSimpArgs false
namespace Go.Proofs.Ytgiokigokedakaa
open Go.RowKit
namespace PageLinks
open Go.RowKit Go.ChangeShapes Go.WideShapes Go.ChangeAt Go.Joins
theorem at_uniq {zs : List Int} {hd M N : Nat} (hM : at_ zs hd M = some 0) (hN : at_ zs hd N = some 0) : M = N := by
  rcases Nat.lt_trichotomy M N with h2 | h2 | h2
  · have := at_stop hM (.inl rfl) _ h2
    rw [this] at hN; cases hN
  · exact h2
  · have := at_stop hN (.inl rfl) M h2
    rw [this] at hM; cases hM
/-- What hangs there is no chain of two. -/
theorem chain_no (mp g : Nat) (zs : List Int) (q x most : Nat) (h0 : q ≠ 0) (h8 : q + 8 ≤ zs.length) (hx : lk zs q = x) (hx0 : x ≠ 0) (hno : ¬ (x + 8 ≤ zs.length ∧ lk zs x = 0)) (hm : most ≤ zs.length) (hzl : zs.length ≤ 1048576) :
    ∃ c y z : Int, (z ≠ 0 ∨ (z = 0 ∧ 2 < y)) ∧ ∀ w', MemB w' mp g zs → Calls Try.prog 45 #[.pointer (some ⟨mp, 0, none⟩), .int .u64 (q : Int), .int .i64 (most : Int)] w' fun e w'' => e = .returned (.tuple #[.agg #[.int .u64 c, .int .i64 y], .int .i64 z]) ∧ Kept [] w' w'' := by
  have a0 : at_ zs q 0 = some q := rfl
  have a1 : at_ zs q 1 = some x := by rw [at_succ a0 h0 h8, hx]
  by_cases hex : ∃ N, at_ zs q N = some 0 ∧ N ≤ most
  · obtain ⟨N, hN, hNm⟩ := hex
    have h3 : 3 ≤ N := by
      rcases N with _ | _ | _ | N
      · rw [a0] at hN; injection hN with h; omega
      · rw [a1] at hN; injection hN with h; omega
      · exfalso
        by_cases hx8 : x + 8 ≤ zs.length
        · rw [at_succ a1 hx0 hx8] at hN
          injection hN with h
          exact hno ⟨hx8, h⟩
        · have := at_stop a1 (.inr hx8) 2 (by omega)
          rw [this] at hN; cases hN
      · omega
    refine ⟨q, N, 0, .inr ⟨rfl, by omega⟩, fun w' hM => (chain_any w' mp g zs hM q (by omega) most most (by omega) (by omega)).mono ?_⟩
    rintro e w'' ⟨⟨M, hM', _, rfl⟩ | ⟨h1, _⟩, hk⟩
    · rw [at_uniq hM' hN]; exact ⟨rfl, hk⟩
    · exact absurd (.inr (by omega)) (h1 N hN)
  · refine ⟨0, 0, 3, .inl (by omega), fun w' hM => (chain_any w' mp g zs hM q (by omega) most most (by omega) (by omega)).mono ?_⟩
    rintro e w'' ⟨⟨M, hM', h1, rfl⟩ | ⟨_, h1⟩, hk⟩
    · exfalso
      rcases h1 with rfl | h1
      · rw [a0] at hM'; injection hM' with h; omega
      · exact hex ⟨M, hM', by omega⟩
    · exact ⟨h1, hk⟩
theorem ready_ta (a : PgA) : a.ready.tag = a.tag ∧ a.ready.ask = a.ask := by
  unfold PgA.ready PgA.swap
  repeat' split
  all_goals exact ⟨rfl, rfl⟩
set_option maxRecDepth 100000 in
set_option maxHeartbeats 4000000 in
theorem walk (x0 x1 : Int) (W : World) (w0 : (Lit.int .u8 x0).wf = true) (w1 : (Lit.int .u64 x1).wf = true) :
    Calls Try.prog 6 #[.int .u8 x0, .int .u64 x1] W fun e W' => e = .returned (.bool true) ∧ Below W.heap.size W W' := by
  have bx := bounds_u8 w0
  have by' := bounds_u64 w1
  obtain ⟨Z, hZ⟩ : ∃ Z : Nat, (Z : Int) = 16 * (x0 % 16 + 1) := ⟨(16 * (x0 % 16 + 1)).toNat, by omega⟩
  obtain ⟨x, rfl⟩ : ∃ x : Nat, x1 = (x : Int) := ⟨x1.toNat, by omega⟩
  have hZ2 : 16 ≤ Z ∧ Z ≤ 256 := by omega
  have C1 := Lib.hid (alive_any W)
  have C2 := Lib.hid (fun w => made_any w x0 8 bx (by omega) Z 9 hZ (by omega))
  obtain ⟨r0, hr0, F1⟩ := (Fsh.new 1024 Z 9).step (by omega)
  obtain ⟨a1, ha1⟩ : ∃ a1, (PgA.new 1024 Z 9).ready.taken (1024 + 0 * Z) r0 = a1 := ⟨_, rfl⟩
  rw [ha1] at F1
  obtain ⟨r1, hr1, F2⟩ := F1.step (by omega)
  obtain ⟨a2, ha2⟩ : ∃ a2, a1.ready.taken (1024 + 1 * Z) r1 = a2 := ⟨_, rfl⟩
  rw [ha2] at F2
  have e0 : 1024 + 0 * Z = 1024 := by omega
  have e1 : 1024 + 1 * Z = 1024 + Z := by omega
  obtain ⟨b, hb⟩ : ∃ b, 1024 + Z = b := ⟨_, rfl⟩
  rw [e0] at hr0 ha1
  rw [e1, hb] at hr1 ha2
  have us2 : a2.us = [b, 1024] := by rw [F2.us]; simp [List.range_succ]; exact hb
  have HBB : Hid (1024 + Z = b) := Lib.hid hb
  have HF2 := Lib.hid F2
  have HU2 := Lib.hid us2
  have D1 := Lib.hid (fun W w p mp g (h : PgX W w p mp g (PgA.new 1024 Z 9)) => x_alloc h 1024 r0 hr0)
  rw [ha1] at D1
  have D2 := Lib.hid (fun W w p mp g (h : PgX W w p mp g a1) => x_alloc h b r1 hr1)
  rw [ha2] at D2
  obtain ⟨t1, k1⟩ := ready_ta (PgA.new 1024 Z 9)
  obtain ⟨t2, k2⟩ := ready_ta a1
  have HT : Hid (a2.tag = 0 ∧ a2.ask = 0 ∧ a2.po = []) := Lib.hid ⟨by rw [← ha2]; show a1.ready.tag = 0; rw [t2, ← ha1]; exact t1, by rw [← ha2]; show a1.ready.ask = 0; rw [k2, ← ha1]; exact k1, F2.po⟩
  have DC := Lib.hid (fun W w p mp g (h : PgX W w p mp g a2) => x_cell h)
  have DL := Lib.hid (fun W w p mp g hd (h : PgH W w p mp g a2 hd) => h.look (by have := HT.out.2.1; omega))
  obtain ⟨A, hA⟩ : ∃ A, a2.late.post 1024 = A := ⟨_, rfl⟩
  have DP : Hid (∀ W w p mp g hd, PgH W w p mp g a2.late hd → Calls Try.prog 20 #[.pointer (some ⟨p, 0, none⟩), .int .u64 1024, .int .u64 (hd : Int), .int .u64 (a2.tag : Int)] w fun e w' => e = .returned (.tuple #[.bool true, .int .i64 0]) ∧ PgH W w' p mp g A 1024 ∧ Kept [p, g] w w') := Lib.hid (fun W w p mp g hd h => by
    rw [← hA]
    exact h.post 1024 (show 1024 ∈ a2.us by rw [us2]; simp) (show a2.tag ≤ 1000000000 by have := HT.out.1; omega) (show a2.ask + 1 ≤ 1000000000 by have := HT.out.2.1; omega))
  have HA : Hid (A.F = 1024 ∧ A.Z = Z ∧ A.N = 9 ∧ A.lo = [] ∧ A.po = [1024] ∧ A.us = [b] ∧ A.tag = 1 ∧ A.ask = 2) := Lib.hid (by
    obtain ⟨h1, h2, h3⟩ := HT.out
    rw [← hA]
    refine ⟨F2.h1, F2.h2, F2.h3, F2.lo, by show 1024 :: a2.po = _; rw [h3], ?_, by show a2.tag + 1 = 1; omega, by show a2.ask + 1 + 1 = 2; omega⟩
    show a2.us.erase 1024 = _
    rw [us2, List.erase_cons_tail (by simp; omega)]
    simp)
  have q0 : (0 : Int) ≤ (x : Int) := by omega
  clear w0 w1 hZ hb hr0 hr1 F1 F2 us2 ha1 ha2 e0 e1 t1 t2 k1 k2 hA
  go_enter Try.func6, Try.ntmps6
  go_wp2_with fail
  (with_reducible refine (C1.out).mono ?_)
  rintro e w1 ⟨rfl, hb1⟩
  have hs1 := hb1.size
  (try simp only [World.size_alloc, World.size_setCell, World.size_drew, size_drewN] at hs1)
  go_wp2_with fail
  (with_reducible refine (C2.out _).mono ?_)
  rintro e w2 ⟨p, mp, g, rfl, hP2⟩
  have HB1 := Lib.hid hb1
  have P2 := Lib.hid (hP2.keep0 ((Kept.refl [] w2).alloc (.cells #[.int .u64 1024, .int .u64 (Z : Int), .int .i64 9] 28)))
  clear hb1 hP2
  go_wp2_with fail
  (with_reducible refine (D1.out _ _ _ _ _ P2.out).mono ?_)
  rintro e w3 ⟨rfl, hP3, hk3⟩
  have P3 := Lib.hid hP3
  have R3 := Lib.hid ((Blk.new w2 28 #[.int .u64 1024, .int .u64 (Z : Int), .int .i64 9]).keep hk3 (by
    obtain ⟨h1, h2⟩ := P2.out.blk (Blk.new w2 _ _) (by decide) (by decide)
    simp; omega))
  clear hP3 hk3
  go_wp2_with fail
  (with_reducible refine (D2.out _ _ _ _ _ P3.out).mono ?_)
  rintro e w4 ⟨rfl, hP4, hk4⟩
  have P4 := Lib.hid hP4
  have R4 := Lib.hid (R3.out.keep hk4 (by
    obtain ⟨h1, h2⟩ := P3.out.blk R3.out (by decide) (by decide)
    simp; omega))
  clear hP4 hk4
  go_wp2_with fail
  (with_reducible refine (DC.out _ _ _ _ _ P4.out).mono ?_)
  rintro e w5 ⟨rfl, hk5⟩
  obtain ⟨hd, hPh⟩ := (P4.out.keep0 hk5).h
  have P5 := Lib.hid hPh
  have R5 := Lib.hid (R4.out.keep0 hk5)
  clear hk5 hPh
  go_wp2_with fail
  (with_reducible refine (DL.out _ _ _ _ _ _ P5.out).mono ?_)
  rintro e w6 ⟨rfl, hP6, hk6⟩
  have P6 := Lib.hid hP6
  have R6 := Lib.hid (R5.out.keep hk6 (by
    obtain ⟨h1, h2⟩ := P5.out.x.blk R5.out (by decide) (by decide)
    simp; omega))
  clear hP6 hk6
  go_wp2_with fail
  (with_reducible refine (DP.out _ _ _ _ _ _ P6.out).mono ?_)
  rintro e w7 ⟨rfl, hP7, hk7⟩
  have R7 := Lib.hid (R6.out.keep hk7 (by
    obtain ⟨h1, h2⟩ := P6.out.x.blk R6.out (by decide) (by decide)
    simp; omega))
  obtain ⟨⟨zs, fh, lh, hR, hok⟩, hkW, hpW, hgW⟩ := hP7
  have hzl := hR.lens
  have far : 1024 ≠ 0 ∧ 1024 + 8 ≤ zs.length ∧ Far 1024 A.fr ∧ Far 1024 A.lo ∧ 1024 + 9 * Z ≤ zs.length := by
    obtain ⟨h1, h2, h3, h4, h5, h6⟩ := HA.out
    have hrun := hok.run
    have hap := hok.apart
    rw [h1, h2, h3] at hrun
    refine ⟨by omega, by omega, fun y hy => ?_, (by rw [h4]; exact fun y hy => by cases hy), by omega⟩
    have := (List.pairwise_append.1 hap).2.2 y hy 1024 (by rw [h5]; simp)
    omega
  obtain ⟨f0, f8, f1, f2, fz⟩ := far
  have DS : Hid (Calls Try.prog 22 #[.pointer (some ⟨mp, 0, none⟩), .int .u64 1024, .int .i64 8, .int .u64 (x : Int)] w7 fun e w' => e = .returned (.int .i64 0) ∧ MemB w' mp g (splice zs 1024 (bytesOf 8 (x : Int))) ∧ Kept [g] w7 w') := Lib.hid (store_8 w7 mp g zs hR.mem 1024 (x : Int) f8 (by omega) (by rw [pow64]; omega))
  have HB7 := Lib.hid hR.blk
  have HM7 := Lib.hid hR.mem
  have HFR := Lib.hid (hR.fr.splice (v := (x : Int)) f8 f1)
  have HLO := Lib.hid (hR.lo.splice (v := (x : Int)) f8 f2)
  have hlen : (splice zs 1024 (bytesOf 8 (x : Int))).length = zs.length := len_splice8 zs 1024 _ f8
  have hlk : lk (splice zs 1024 (bytesOf 8 (x : Int))) 1024 = x := lk_same zs 1024 x f8 (by omega)
  have hkg := hR.ne2
  have hkm := hR.ne3
  generalize splice zs 1024 (bytesOf 8 (x : Int)) = z at *
  have HOK : Hid (PgOk A z.length) := Lib.hid (by rw [hlen]; exact hok)
  have HK7 := Lib.hid hkW
  have HLK := Lib.hid hlk
  have HZ : Hid (z.length ≤ 1048576 ∧ 1024 + 9 * Z ≤ z.length) := Lib.hid (by omega)
  have HPG : Hid (w1.heap.size ≤ p ∧ w1.heap.size ≤ g ∧ p ≠ g ∧ p ≠ mp ∧ mp ≠ g) := Lib.hid ⟨hpW, hgW, hkg, hR.ne1, hkm⟩
  clear hR hok hkW hpW hgW hk7 f1 f2 hlen hlk fz f8 f0 hzl hkg hkm
  go_wp2_with fail
  (with_reducible refine DS.out.mono ?_)
  rintro e w8 ⟨rfl, hM8, hk8⟩
  have B8 : Hid (PgB w8 p mp g A z fh lh 1024) := Lib.hid ⟨HB7.out.keep hk8 (by have := HPG.out; simp; omega), hM8, HFR.out, HLO.out⟩
  have R8 := Lib.hid (R7.out.keep hk8 (fun h => by
    simp at h
    exact R7.out.ne_ (HM7.out.2.1) (by decide) h))
  have K8 : Hid (Kept [] w1 w8) := Lib.hid (HK7.out.trans hk8 (fun y hy hl => by have := HPG.out; simp at hy; omega))
  have YES : Hid (∀ (P : List Nat) (q n : Nat) (r : Int), Chn z 1024 (P ++ [q]) → (P ++ [q]).length = n → n ≤ 2 → 2 - (n : Int) = r → Calls Try.prog 21 #[.pointer (some ⟨p, 0, none⟩)] w8 fun e w' => e = .returned (.tuple #[.int .i64 (n : Int), .int .i64 0]) ∧ (∃ cs, Blk w' p 92 cs ∧ cs[4]? = some (.int .i64 r)) ∧ Kept [p, g] w8 w') := Lib.hid (fun P q n r h1 h2 h3 h4 => by
    obtain ⟨_, _, h7, h8, h9, h10, h11, h12⟩ := HA.out
    exact gather_yes w8 p mp g A z fh lh 1024 q P B8.out (by rw [h7, h8]; simp) (by omega) (by omega) h1 n h2 (by rw [h9, h10]; simpa using h3) (by omega) (by have := HZ.out; omega) (by rw [h9, h10]; simp) r (by rw [h9, h10]; simpa using h4))
  clear hk8 hM8
  by_cases hx : x = 0
  · subst hx
    have c0 : Chn z 1024 ([] ++ [1024]) := ⟨rfl, by omega, by have := HZ.out; omega, HLK.out⟩
    have D := Lib.hid (YES.out [] 1024 1 1 c0 rfl (by omega) (by omega))
    clear c0
    go_wp2_with fail
    (with_reducible refine D.out.mono ?_)
    rintro e w9 ⟨rfl, ⟨cs, hB9, hc9⟩, hk9⟩
    have K9 : Hid (Kept [] w1 w9) := Lib.hid (K8.out.trans hk9 (fun y hy hl => by have := HPG.out; simp at hy; omega))
    have DU := Lib.hid (used_blk w9 p cs hB9 1 hc9)
    clear hB9 hc9 hk9
    go_wp2_with fail
    (with_reducible refine DU.out.mono ?_)
    rintro e w10 ⟨rfl, hk10⟩
    go_wp2_with fail
    go_ret
    exact ⟨rfl, ((hk10.then_ K9.out).then_ HB1.out).below⟩
  · have xq : (((x : Int) == 0) : Bool) = false := by rw [beq_eq_false_iff_ne]; omega
    by_cases hc : x + 8 ≤ z.length ∧ lk z x = 0
    · have c0 : Chn z 1024 ([1024] ++ [x]) := ⟨rfl, by omega, by have := HZ.out; omega, HLK.out, hx, hc.1, hc.2⟩
      have D := Lib.hid (YES.out [1024] x 2 0 c0 rfl (by omega) (by omega))
      clear c0 hc hx
      go_wp2_with fail
      (with_reducible refine D.out.mono ?_)
      rintro e w9 ⟨rfl, ⟨cs, hB9, hc9⟩, hk9⟩
      have K9 : Hid (Kept [] w1 w9) := Lib.hid (K8.out.trans hk9 (fun y hy hl => by have := HPG.out; simp at hy; omega))
      have DU := Lib.hid (used_blk w9 p cs hB9 0 hc9)
      clear hB9 hc9 hk9
      go_wp2_with fail
      (with_reducible refine DU.out.mono ?_)
      rintro e w10 ⟨rfl, hk10⟩
      go_wp2_with fail
      go_ret
      exact ⟨rfl, ((hk10.then_ K9.out).then_ HB1.out).below⟩
    · obtain ⟨c, y, zz, hno, hD⟩ := chain_no mp g z 1024 x 9 (by omega) (by have := HZ.out; omega) HLK.out hx hc (by have := HZ.out; omega) HZ.out.1
      have D : Hid (Calls Try.prog 21 #[.pointer (some ⟨p, 0, none⟩)] w8 fun e w' => e = .returned (.tuple #[.int .i64 0, .int .i64 3]) ∧ PgR w' p mp g A.lost z fh lh 0 ∧ Kept [p, g] w8 w') := Lib.hid (by
        obtain ⟨_, _, h7, h8, h9, h10, h11, h12⟩ := HA.out
        exact gather_no w8 p mp g A z fh lh 1024 B8.out (by omega) (by omega) (by omega) c y zz (by rw [h9, h10]; simpa using hno) (by rw [h7]; exact hD))
      clear hno hD hc hx
      go_wp2_with fail
      (with_reducible refine D.out.mono ?_)
      rintro e w9 ⟨rfl, hP9, hk9⟩
      have P9 : Hid (PgH w1 w9 p mp g A.lost 0) := Lib.hid ⟨⟨z, fh, lh, hP9, HOK.out.lost⟩, K8.out.trans hk9 (fun y hy hl => by have := HPG.out; simp at hy; omega), HPG.out.1, HPG.out.2.1⟩
      have R9 := Lib.hid (R8.out.keep hk9 (by
        obtain ⟨h1, h2⟩ := P9.out.x.blk (R8.out.keep (S := [p, g]) hk9 (by
          simp
          exact ⟨R8.out.ne_ B8.out.blk (by decide), R8.out.ne_ B8.out.mem.2.1 (by decide)⟩)) (by decide) (by decide)
        simp; omega))
      clear hP9 hk9
      have DC9 := Lib.hid (x_cell P9.out.x)
      have DL9 : Hid (∀ w', Kept [] w9 w' → Calls Try.prog 19 #[.pointer (some ⟨p, 10, none⟩)] w' fun e w'' => e = .returned (.tuple #[.int .u64 0, .int .u64 (A.lost.tag : Int)]) ∧ PgH w1 w'' p mp g A.lost.late 0 ∧ Kept [p, g] w' w'') := Lib.hid (fun w' hk => (P9.out.keep0 hk).look (by have := HA.out; show A.ask + 1 ≤ 1000000000; omega))
      go_wp2_with fail
      (with_reducible refine DC9.out.mono ?_)
      rintro e w10 ⟨rfl, hk10⟩
      have DL10 := Lib.hid (DL9.out _ hk10)
      have R10 := Lib.hid (R9.out.keep0 hk10)
      have P10 := Lib.hid (P9.out.keep0 hk10)
      clear hk10
      go_wp2_with fail
      (with_reducible refine DL10.out.mono ?_)
      rintro e w11 ⟨rfl, hP11, hk11⟩
      have R11 := Lib.hid (R10.out.keep hk11 (by
        obtain ⟨h1, h2⟩ := P10.out.x.blk R10.out (by decide) (by decide)
        simp; omega))
      have P11 := Lib.hid hP11.x
      have HL : Hid (A.lost.late.po = [] ∧ A.lost.late.us = [1024, b]) := Lib.hid (by
        obtain ⟨_, _, h7, h8, h9, h10, h11, h12⟩ := HA.out
        refine ⟨rfl, ?_⟩
        show A.po ++ A.us = _
        rw [h9, h10]; rfl)
      have DU := Lib.hid (x_used P11.out 2 (by rw [HL.out.1, HL.out.2]; rfl))
      have l11 := R11.out.lt
      clear hP11 hk11
      go_wp2_with fail
      (with_reducible refine DU.out.mono ?_)
      rintro e w12 ⟨rfl, hk12⟩
      have R12 := Lib.hid (R11.out.keep0 hk12)
      have P12 := Lib.hid (P11.out.keep0 hk12)
      have DF := Lib.hid (x_free1 (P12.out.keep0 ((Kept.refl [] w12).alloc (.cells #[.int .u64 (b : Int)] 26))) b w12.heap.size 1 (by rw [HL.out.2]; simp) (Blk.new w12 _ _))
      clear hk12 l11
      go_wp2_with fail
      (with_reducible refine DF.out.mono ?_)
      rintro e w13 ⟨rfl, hP13, hk13⟩
      have R13 := Lib.hid ((R12.out.alloc (.cells #[.int .u64 (b : Int)] 26)).keep hk13 (by
        obtain ⟨h1, h2⟩ := P12.out.blk R12.out (by decide) (by decide)
        simp; omega))
      have K13 := Lib.hid hP13.kept
      have r0 := R13.out.cell 0
      have r1 := R13.out.cell 1
      have r2 := R13.out.cell 2
      have rl := R13.out.lt
      have DI : Hid (∀ w, Kept [] w13 w → Blk w w13.heap.size 26 #[.int .u64 1024, .int .u64 (b : Int)] → ∀ c, Calls Try.prog 23 #[.agg #[.int .u64 1024, .int .u64 (Z : Int), .int .i64 9], .slice (some ⟨w13.heap.size, 0, none⟩) 2 c] w fun e w' => e = .returned (.bool true) ∧ Kept [] w w') := Lib.hid (fun w hk hb c => by
        have h := in_any 1024 (Z : Int) 9 (some ⟨w13.heap.size, 0, none⟩) c [1024, (b : Int)] (by omega) (by omega) (fun y hy => by simp at hy; omega) w (RowI.of_blk hb (fun i hi => by
          have : i = 0 ∨ i = 1 := by simp at hi; omega
          rcases this with rfl | rfl <;> rfl)) (by simp)
        have hm : MayP 1024 (Z : Int) 9 := by unfold MayP; have := HZ.out; omega
        have hbz := HBB.out
        have e1 : ([1024, (b : Int)].any fun a => outB 1024 (Z : Int) 9 a) = false := by
          simp only [List.any_cons, List.any_nil, Bool.or_false, outB, endV, if_pos hm]
          simp only [Bool.or_eq_false_iff, decide_eq_false_iff_not]
          omega
        rw [e1] at h
        simpa [hm] using h)
      clear hP13 hk13
      go_wp2_with fail
      (with_reducible refine (DI.out _ ((Kept.refl [] w13).alloc _) (Blk.new w13 _ _) _).mono ?_)
      rintro e w14 ⟨rfl, hk14⟩
      go_wp2_with fail
      go_ret
      exact ⟨rfl, ((hk14.then_ (K13.out.alloc _)).then_ HB1.out).below⟩
theorem own : ownKnob Try.prog.godebug = none := by kernel_rfl
theorem laidOut : laidOutB Try.prog = true := by kernel_rfl
set_option maxRecDepth 100000 in
theorem lifted (os : Os) (started : os.Started) (H : Type) (enc : TypeId × Value → H) :
    ReturnsInHanded {} Try.checked os 6 .any (Rows.pageLinksSpec.pre6 enc Try.prog Try.f6 Rows.pageLinksRow.domain false) (Rows.pageLinksSpec.post enc Try.prog Try.f6 false true false false) := by
  refine returnsInHanded_of_change (C := Try.checked) own started (by kernel_rfl) Try.func6
    (ChangeSpec.witness6 (enc := enc) (C := Try.checked) false ⟨#[], #[.int .u8 0, .int .u64 0], []⟩ 8 (by kernel_rfl) (by kernel_rfl) (by kernel_rfl) (by kernel_rfl)) ?_
  intro W base args ds gs before hval0 hW hcnd _
  have hval : ∀ (j : Nat) t v, Try.f6.params[j]? = some t → args[j]? = some v → Value.okWide Try.prog W .any base t v := hval0
  have hW' := hW
  obtain ⟨p, q, hA0, hV, rfl, hfz, hnd⟩ := hW
  have hA : DataW.TrodAll enc Try.prog W 0 (fun _ => true) true Try.f6.params.toList args.toList ds p := hA0
  rw [Try.params6] at hA hval
  obtain ⟨v0, vs0, d0, ds0, p0, q0, hargs, rfl, rfl, h0, r0⟩ := trodAll_cons hA
  obtain ⟨v1, vs1, d1, ds1, p1, q1, rfl, rfl, rfl, h1, r1⟩ := trodAll_cons r0
  obtain ⟨rfl, rfl, rfl⟩ := trodAll_nil r1
  obtain rfl : args = #[v0, v1] := by cases args; simp_all
  obtain ⟨rfl, rfl⟩ := trodVars_none hV
  obtain ⟨a0, rfl, rfl, rfl, w0⟩ := open_int Try.underlying5 (hval 0 5 v0 rfl rfl) h0
  obtain ⟨a1, rfl, rfl, rfl, w1⟩ := open_int Try.underlying26 (hval 1 26 v1 rfl rfl) h1
  clear hA0 hval0
  refine (walk a0 a1 W w0 w1).mono fun e W' ⟨he, bel⟩ => ?_
  subst he
  exact ⟨_, rfl, _, _, _, [], _, [], hW', trodAll_mk1 (shut_bool Try.underlying4 _), (trodAll_cons_mk (shut_int Try.underlying5 w0) (trodAll_cons_mk (shut_int Try.underlying26 w1) trodAll_mk0)), rfl, bel.frame _, fun h => by cases h⟩
theorem over : Rows.pageLinksRow.holds Try.pinned (OpenSpec.ofChange Rows.pageLinksSpec) :=
  OpenClaim.holds_of_wide 6 Try.f6 rfl rfl rfl rfl rfl rfl rfl ⟨rfl, rfl, rfl, rfl, rfl⟩ rfl rfl rfl rfl rfl (by kernel_rfl) Try.func6 (by kernel_rfl)
    (of_decide_eq_true (by kernel_rfl)) (by unfold Func.isWrapper; first | (rw [if_pos (by decide +kernel)]; kernel_rfl) | (rw [if_neg (by decide +kernel)]; exact ⟨rfl, rfl⟩))
    (fun os started H enc _ => lifted os started H enc)
theorem proved : Rows.PageLinksSaid := over
#print axioms proved
end PageLinks
end Go.Proofs.Ytgiokigokedakaa
