/- Any class's size, slices and blocks, any size's class, or the error, and the sizes of any, are the document's. No condition. -/
import Derived.Test.YtfgmmehgmepegaaTab
set_option linter.unusedVariables false
set_option linter.unusedSimpArgs false
namespace Go.Proofs.Ytfgmmehgmepegaa.ClassTables
open Go.RowKit Go.ChangeShapes Go.WideShapes Go.ChangeAt Go.Joins
set_option maxRecDepth 100000 in
set_option maxHeartbeats 4000000 in
theorem walk_cnl (k : Nat) (hk : k < 12) (n : Int) (m : Nat) (n0 : 0 ≤ n) (n1 : n ≤ 1024) (hm : m < 12) (h1 : n ≤ sz m) (h2 : ∀ j, j < m → sz j < n) (a0 : Option Addr) (cap0 : Nat) (zs : List Int) (W : World) (hr : RowX .i64 W a0 zs) (hn : zs.length ≤ 300) (h0 : 0 < zs.length) :
    Calls Try.prog 9 #[.int .i64 (k : Int), .int .u64 n, .slice a0 zs.length cap0] W fun e W' => e = .returned (.bool true) ∧ Below W.heap.size W W' := by
  have S1 := Lib.hid (size_in k hk)
  have S2 := Lib.hid (slices_in k hk)
  have S3 := Lib.hid (blocks_in k hk)
  have S4 := Lib.hid (refslices_in k hk)
  have S5 := Lib.hid (refblocks_in k hk)
  have SZ := Lib.hid (szA_at k hk)
  generalize sz k = s1 at S1 SZ
  generalize slS k = s2 at S2 S4
  generalize bkS k = s3 at S3 S5
  have q1 : (0 : Int) ≤ (k : Int) := by omega
  have q2 : (k : Int) < 12 := by omega
  have O1 := Lib.hid (of_in n m n0 n1 hm h1 h2)
  have O2 := Lib.hid (refof_in n m hm h1 h2)
  clear h1 h2
  have HR := Lib.hid hr
  have qn : decide ((300 : Int) < (zs.length : Int)) = false := by simp; omega
  have qz : ((zs.length : Int) == 0) = false := by rw [beq_eq_false_iff_ne]; omega
  clear hr
  go_enter Try.func9, Try.ntmps9
  go_wp2_with fail
  (with_reducible refine (alive_any _).mono ?_)
  rintro e w1 ⟨rfl, hb1⟩
  have hs1 := hb1.size
  (try simp only [World.size_alloc, World.size_setCell, World.size_drew, size_drewN] at hs1)
  go_wp2_with fail
  (with_reducible refine (S1.out _).mono ?_)
  rintro e w2 ⟨rfl, hb2⟩
  have hs2 := hb2.size
  (try simp only [World.size_alloc, World.size_setCell, World.size_drew, size_drewN] at hs2)
  go_wp2_with fail
  (with_reducible refine (S2.out _).mono ?_)
  rintro e w3 ⟨rfl, hb3⟩
  have hs3 := hb3.size
  (try simp only [World.size_alloc, World.size_setCell, World.size_drew, size_drewN] at hs3)
  go_wp2_with fail
  (with_reducible refine (S3.out _).mono ?_)
  rintro e w4 ⟨rfl, hb4⟩
  have hs4 := hb4.size
  (try simp only [World.size_alloc, World.size_setCell, World.size_drew, size_drewN] at hs4)
  go_wp2_with fail
  (with_reducible refine (O1.out _).mono ?_)
  rintro e w5 ⟨rfl, hb5⟩
  have hs5 := hb5.size
  (try simp only [World.size_alloc, World.size_setCell, World.size_drew, size_drewN] at hs5)
  go_wp2_with fail
  (with_reducible refine (O2.out _).mono ?_)
  rintro e w6 ⟨rfl, hb6⟩
  have hs6 := hb6.size
  (try simp only [World.size_alloc, World.size_setCell, World.size_drew, size_drewN] at hs6)
  go_wp2_with fail
  (with_reducible refine (refsizes_any _).mono ?_)
  rintro e w7 ⟨rfl, hB7, hb7⟩
  have hs7 := hb7.size
  (try simp only [World.size_alloc, World.size_setCell, World.size_drew, size_drewN] at hs7)
  have B7 := Lib.hid hB7
  have K7 : Hid (Kept [] W w7) := Lib.hid (by (repeat' (first | (with_reducible exact Kept.refl _ _) | (with_reducible assumption) | (with_reducible refine Kept.then_ (by with_reducible assumption) ?_) | (with_reducible refine Kept.thenS (by with_reducible assumption) ?_) | (with_reducible refine Kept.alloc ?_ _) | (with_reducible refine Kept.drew ?_) | (with_reducible refine Kept.drewN ?_ _) | (with_reducible refine Kept.setNew ?_ ?_ _) | ((try simp only [World.size_alloc, World.size_setCell, World.size_drew, size_drewN] at *); (try dsimp only); omega))))
  have l7 := hB7.lt
  clear hB7
  have cc := (B7.out.cell k).trans SZ.out
  go_wp2_with fail
  (with_reducible refine (S4.out _).mono ?_)
  rintro e w8 ⟨rfl, hb8⟩
  have hs8 := hb8.size
  (try simp only [World.size_alloc, World.size_setCell, World.size_drew, size_drewN] at hs8)
  go_wp2_with fail
  (with_reducible refine (S5.out _).mono ?_)
  rintro e w9 ⟨rfl, hb9⟩
  have hs9 := hb9.size
  (try simp only [World.size_alloc, World.size_setCell, World.size_drew, size_drewN] at hs9)
  have K9 : Hid (Kept [] w7 w9) := Lib.hid (hb8.trans0 hb9)
  go_wp2_with fail
  go_loopw [18, 133] (fun l v wr => ∃ j : Nat, j ≤ zs.length ∧ v = .int .i64 j ∧ Hid (OwnI w9.heap.size .u64 22 wr l (picks (zs.take j))) ∧ Kept [] w9 wr) (fun _ v _ => zs.length - (intOf v).toNat)
  case atStart => exact ⟨0, Nat.zero_le _, rfl, Lib.hid (OwnI.nil _ _ _ _), Kept.refl _ _⟩
  case round =>
    obtain ⟨j, hj, rfl, ho, hkw⟩ := hrel
    obtain ⟨A1, c1, rfl, _⟩ := ho.out.slice
    by_cases hlt : j < zs.length
    · obtain ⟨ad, rfl, hx⟩ := HR.out.get (by omega)
      have c2 := hx wr (hkw.then_ (K9.out.then_ K7.out)) j hlt
      have l2 := cell_lt c2
      have HT : Hid (picks (zs.take (j + 1)) = picks (zs.take j) ++ picks [zs[j]?.getD 0]) := Lib.hid (by
        rw [List.take_add_one, List.getElem?_eq_getElem hlt, picks_app]; rfl)
      generalize zs[j]?.getD 0 = x at c2 HT
      clear hx
      by_cases hin : 0 ≤ x ∧ x < 12
      · obtain ⟨u, rfl⟩ : ∃ u : Nat, x = (u : Int) := ⟨x.toNat, by omega⟩
        have HP : Hid (picks (zs.take (j + 1)) = picks (zs.take j) ++ [sz u]) := Lib.hid (by
          rw [HT.out]
          simp [picks, hin.2])
        have HLN : Hid ((picks (zs.take j)).length ≤ 300) := Lib.hid (by
          have := picks_len (zs.take j)
          rw [List.length_take] at this
          omega)
        have cs := ((B7.out.keep0 (hkw.then_ K9.out)).cell u).trans (szA_at u (by omega))
        have ls := (B7.out.keep0 (hkw.then_ K9.out)).lt
        have hszw := hkw.size
        generalize sz u = s at HP cs
        have r1 : (0 : Int) ≤ (u : Int) := by omega
        have r2 : (u : Int) < 12 := by omega
        go_wp2_with (refine app_gen .u64 46 22 8 Try.underlying46 info_u64 (by omega) rfl (.tmp 145) (.tmp 150) rfl w9 w9.heap.size _ (picks (zs.take j)) [s] rfl (ho.out.kept ((Kept.refl [] wr).alloc _)) _ _ _ rfl rfl (fun h => by cases h) (RowX.one (Blk.new _ _ _)) (hkw.alloc _) (Nat.le_refl _) (by simp; omega) (by have := HLN.out; simp; omega) ?_)
        intro A4 n4 c4 w40 hn4 own4 owo4 hk4 hg4 hs4 hc4 hr4
        have O4 : Hid (OwnI w9.heap.size .u64 22 w40 (.slice A4 n4 c4) (picks (zs.take (j + 1)))) := Lib.hid (by rw [HP.out]; exact own4)
        clear own4 owo4 hg4 hr4 hn4
        go_wp2_with fail
        go_roundw
        case rel => exact ⟨j + 1, by omega, by go_num, O4, hk4⟩
        case measure => simp [intOf]; omega
      · have HP : Hid (picks (zs.take (j + 1)) = picks (zs.take j)) := Lib.hid (by
          rw [HT.out]
          unfold picks
          rw [if_neg hin]
          simp [picks])
        by_cases h00 : 0 ≤ x
        · have r1 : decide (x < 12) = false := by simp; omega
          go_wp2_with fail
          go_roundw
          case rel => exact ⟨j + 1, by omega, by go_num, Lib.hid (by rw [HP.out]; exact ho.out), hkw⟩
          case measure => simp [intOf]; omega
        · have r1 : decide (0 ≤ x) = false := by simpa using h00
          go_wp2_with fail
          go_roundw
          case rel => exact ⟨j + 1, by omega, by go_num, Lib.hid (by rw [HP.out]; exact ho.out), hkw⟩
          case measure => simp [intOf]; omega
    · obtain rfl : j = zs.length := by omega
      have R1 : Hid (RowX .u64 wr A1 (picks zs)) := Lib.hid (by have := ho.out.row; rwa [List.take_of_length_le (Nat.le_refl _)] at this)
      have HLN : Hid ((picks (zs.take zs.length)).length = (picks zs).length) := Lib.hid (by rw [List.take_of_length_le (Nat.le_refl _)])
      have HLN2 : Hid ((picks zs).length ≤ 300) := Lib.hid (by have := picks_len zs; omega)
      rw [HLN.out]
      have DA := Lib.hid (all_some a0 cap0 zs wr (HR.out.keep (hkw.then_ (K9.out.then_ K7.out))) h0 hn)
      generalize picks zs = L at R1 DA HLN2
      clear ho
      go_wp2_with fail
      (with_reducible refine DA.out.mono ?_)
      rintro e w20 ⟨⟨A2, c2, rfl, hR2⟩, hb20⟩
      have R2 := Lib.hid hR2
      have R1b := Lib.hid (R1.out.keep hb20)
      have K20 : Hid (Kept [] W w20) := Lib.hid ((hkw.trans0 hb20).then_ (K9.out.then_ K7.out))
      clear hR2
      have hL300 := HLN2.out
      go_wp2_with fail
      go_loopw [166] (fun v wr => ∃ t : Nat, t ≤ L.length ∧ v = .int .i64 t ∧ Kept [] w20 wr) (fun v _ => L.length - (intOf v).toNat)
      case atStart => exact ⟨0, Nat.zero_le _, rfl, Kept.refl _ _⟩
      case round =>
        obtain ⟨t, ht, rfl, hkt⟩ := hrel
        by_cases hlt2 : t < L.length
        · obtain ⟨x1, hx1e, hx1⟩ := R1b.out.get (by omega)
          cases hx1e
          obtain ⟨x2, rfl, hx2⟩ := R2.out.get (by omega)
          have d1 := hx1 wr hkt t (by omega)
          (try rw [Addr.add_lit, Nat.zero_add] at d1)
          have d2 := hx2 wr hkt t (by omega)
          have l1 := cell_lt d1
          have l2 := cell_lt d2
          generalize L[t]?.getD 0 = y at d1 d2
          have q3 : (0 : Int) ≤ (t : Int) := by omega
          have q4 : (t : Int) < (L.length : Int) := by omega
          clear hx1 hx2
          go_wp2_with fail
          go_quiet (fail)
          go_wp2_with fail
          go_roundw
          case rel => exact ⟨t + 1, by omega, by go_num, hkt.drewN _⟩
          case measure => simp [intOf]; omega
        · obtain rfl : t = L.length := by omega
          go_wp2_with fail
          go_ret
          exact ⟨rfl, Kept.below (K20.out.trans0 hkt)⟩
set_option maxRecDepth 100000 in
set_option maxHeartbeats 4000000 in
theorem walk_cnx (k : Nat) (hk : k < 12) (n : Int) (m : Nat) (n0 : 0 ≤ n) (n1 : n ≤ 1024) (hm : m < 12) (h1 : n ≤ sz m) (h2 : ∀ j, j < m → sz j < n) (a0 : Option Addr) (cap0 : Nat) (zs : List Int) (W : World) (hr : RowX .i64 W a0 zs) (hn : zs.length ≤ 300)  :
    Calls Try.prog 9 #[.int .i64 (k : Int), .int .u64 n, .slice a0 0 cap0] W fun e W' => e = .returned (.bool true) ∧ Below W.heap.size W W' := by
  have S1 := Lib.hid (size_in k hk)
  have S2 := Lib.hid (slices_in k hk)
  have S3 := Lib.hid (blocks_in k hk)
  have S4 := Lib.hid (refslices_in k hk)
  have S5 := Lib.hid (refblocks_in k hk)
  have SZ := Lib.hid (szA_at k hk)
  generalize sz k = s1 at S1 SZ
  generalize slS k = s2 at S2 S4
  generalize bkS k = s3 at S3 S5
  have q1 : (0 : Int) ≤ (k : Int) := by omega
  have q2 : (k : Int) < 12 := by omega
  have O1 := Lib.hid (of_in n m n0 n1 hm h1 h2)
  have O2 := Lib.hid (refof_in n m hm h1 h2)
  clear h1 h2
  have HR := Lib.hid hr
  clear hr
  go_enter Try.func9, Try.ntmps9
  go_wp2_with fail
  (with_reducible refine (alive_any _).mono ?_)
  rintro e w1 ⟨rfl, hb1⟩
  have hs1 := hb1.size
  (try simp only [World.size_alloc, World.size_setCell, World.size_drew, size_drewN] at hs1)
  go_wp2_with fail
  (with_reducible refine (S1.out _).mono ?_)
  rintro e w2 ⟨rfl, hb2⟩
  have hs2 := hb2.size
  (try simp only [World.size_alloc, World.size_setCell, World.size_drew, size_drewN] at hs2)
  go_wp2_with fail
  (with_reducible refine (S2.out _).mono ?_)
  rintro e w3 ⟨rfl, hb3⟩
  have hs3 := hb3.size
  (try simp only [World.size_alloc, World.size_setCell, World.size_drew, size_drewN] at hs3)
  go_wp2_with fail
  (with_reducible refine (S3.out _).mono ?_)
  rintro e w4 ⟨rfl, hb4⟩
  have hs4 := hb4.size
  (try simp only [World.size_alloc, World.size_setCell, World.size_drew, size_drewN] at hs4)
  go_wp2_with fail
  (with_reducible refine (O1.out _).mono ?_)
  rintro e w5 ⟨rfl, hb5⟩
  have hs5 := hb5.size
  (try simp only [World.size_alloc, World.size_setCell, World.size_drew, size_drewN] at hs5)
  go_wp2_with fail
  (with_reducible refine (O2.out _).mono ?_)
  rintro e w6 ⟨rfl, hb6⟩
  have hs6 := hb6.size
  (try simp only [World.size_alloc, World.size_setCell, World.size_drew, size_drewN] at hs6)
  go_wp2_with fail
  (with_reducible refine (refsizes_any _).mono ?_)
  rintro e w7 ⟨rfl, hB7, hb7⟩
  have hs7 := hb7.size
  (try simp only [World.size_alloc, World.size_setCell, World.size_drew, size_drewN] at hs7)
  have B7 := Lib.hid hB7
  have K7 : Hid (Kept [] W w7) := Lib.hid (by (repeat' (first | (with_reducible exact Kept.refl _ _) | (with_reducible assumption) | (with_reducible refine Kept.then_ (by with_reducible assumption) ?_) | (with_reducible refine Kept.thenS (by with_reducible assumption) ?_) | (with_reducible refine Kept.alloc ?_ _) | (with_reducible refine Kept.drew ?_) | (with_reducible refine Kept.drewN ?_ _) | (with_reducible refine Kept.setNew ?_ ?_ _) | ((try simp only [World.size_alloc, World.size_setCell, World.size_drew, size_drewN] at *); (try dsimp only); omega))))
  have l7 := hB7.lt
  clear hB7
  have cc := (B7.out.cell k).trans SZ.out
  go_wp2_with fail
  (with_reducible refine (S4.out _).mono ?_)
  rintro e w8 ⟨rfl, hb8⟩
  have hs8 := hb8.size
  (try simp only [World.size_alloc, World.size_setCell, World.size_drew, size_drewN] at hs8)
  go_wp2_with fail
  (with_reducible refine (S5.out _).mono ?_)
  rintro e w9 ⟨rfl, hb9⟩
  have hs9 := hb9.size
  (try simp only [World.size_alloc, World.size_setCell, World.size_drew, size_drewN] at hs9)
  have K9 : Hid (Kept [] w7 w9) := Lib.hid (hb8.trans0 hb9)
  go_wp2_with fail
  go_loopw [18, 133] (fun l v wr => ∃ j : Nat, j ≤ zs.length ∧ v = .int .i64 j ∧ Hid (OwnI w9.heap.size .u64 22 wr l (picks (zs.take j))) ∧ Kept [] w9 wr) (fun _ v _ => zs.length - (intOf v).toNat)
  case atStart => exact ⟨0, Nat.zero_le _, rfl, Lib.hid (OwnI.nil _ _ _ _), Kept.refl _ _⟩
  case round =>
    obtain ⟨j, hj, rfl, ho, hkw⟩ := hrel
    obtain ⟨A1, c1, rfl, _⟩ := ho.out.slice
    have hj0 : zs.length = zs.length := rfl
    have R1 : Hid (RowX .u64 wr (some ⟨w6.heap.size, 0, none⟩) szL) := Lib.hid ((row_sz B7.out).keep (hkw.then_ K9.out))
    have DA : Hid (Calls Try.prog 21 #[.slice a0 0 cap0] wr fun e w' => RowIs szL e w' ∧ Kept [] wr w') := Lib.hid (all_none a0 cap0 wr)
    have HLN2 : Hid (szL.length = 12) := Lib.hid rfl
    generalize szL = L at R1 DA HLN2
    clear ho
    go_wp2_with fail
    (with_reducible refine DA.out.mono ?_)
    rintro e w20 ⟨⟨A2, c2, rfl, hR2⟩, hb20⟩
    have R2 := Lib.hid hR2
    have R1b := Lib.hid (R1.out.keep hb20)
    have K20 : Hid (Kept [] W w20) := Lib.hid ((hkw.trans0 hb20).then_ (K9.out.then_ K7.out))
    clear hR2
    have HL12 := HLN2.out
    rw [HLN2.out]
    clear HL12
    go_wp2_with fail
    go_loopw [166] (fun v wr => ∃ t : Nat, t ≤ 12 ∧ v = .int .i64 t ∧ Kept [] w20 wr) (fun v _ => 12 - (intOf v).toNat)
    case atStart => exact ⟨0, Nat.zero_le _, rfl, Kept.refl _ _⟩
    case round =>
      obtain ⟨t, ht, rfl, hkt⟩ := hrel
      by_cases hlt2 : t < 12
      · obtain ⟨x1, hx1e, hx1⟩ := R1b.out.get (by have := HLN2.out; omega)
        cases hx1e
        obtain ⟨x2, rfl, hx2⟩ := R2.out.get (by have := HLN2.out; omega)
        have d1 := hx1 wr hkt t (by have := HLN2.out; omega)
        (try rw [Addr.add_lit, Nat.zero_add] at d1)
        have d2 := hx2 wr hkt t (by have := HLN2.out; omega)
        have l1 := cell_lt d1
        have l2 := cell_lt d2
        generalize L[t]?.getD 0 = y at d1 d2
        have q3 : (0 : Int) ≤ (t : Int) := by omega
        have q4 : (t : Int) < 12 := by omega
        clear hx1 hx2
        go_wp2_with fail
        go_quiet (fail)
        go_wp2_with fail
        go_roundw
        case rel => exact ⟨t + 1, by omega, by go_num, hkt.drewN _⟩
        case measure => simp [intOf]; omega
      · obtain rfl : t = 12 := by omega
        go_wp2_with fail
        go_ret
        exact ⟨rfl, Kept.below (K20.out.trans0 hkt)⟩
set_option maxRecDepth 100000 in
set_option maxHeartbeats 4000000 in
theorem walk_cxl (k : Nat) (hk : k < 12) (n : Int) (n1 : 1024 < n) (a0 : Option Addr) (cap0 : Nat) (zs : List Int) (W : World) (hr : RowX .i64 W a0 zs) (hn : zs.length ≤ 300) (h0 : 0 < zs.length) :
    Calls Try.prog 9 #[.int .i64 (k : Int), .int .u64 n, .slice a0 zs.length cap0] W fun e W' => e = .returned (.bool true) ∧ Below W.heap.size W W' := by
  have S1 := Lib.hid (size_in k hk)
  have S2 := Lib.hid (slices_in k hk)
  have S3 := Lib.hid (blocks_in k hk)
  have S4 := Lib.hid (refslices_in k hk)
  have S5 := Lib.hid (refblocks_in k hk)
  have SZ := Lib.hid (szA_at k hk)
  generalize sz k = s1 at S1 SZ
  generalize slS k = s2 at S2 S4
  generalize bkS k = s3 at S3 S5
  have q1 : (0 : Int) ≤ (k : Int) := by omega
  have q2 : (k : Int) < 12 := by omega
  have O1 := Lib.hid (of_out n n1)
  have O2 := Lib.hid (refof_out n n1)
  have HR := Lib.hid hr
  have qn : decide ((300 : Int) < (zs.length : Int)) = false := by simp; omega
  have qz : ((zs.length : Int) == 0) = false := by rw [beq_eq_false_iff_ne]; omega
  clear hr
  go_enter Try.func9, Try.ntmps9
  go_wp2_with fail
  (with_reducible refine (alive_any _).mono ?_)
  rintro e w1 ⟨rfl, hb1⟩
  have hs1 := hb1.size
  (try simp only [World.size_alloc, World.size_setCell, World.size_drew, size_drewN] at hs1)
  go_wp2_with fail
  (with_reducible refine (S1.out _).mono ?_)
  rintro e w2 ⟨rfl, hb2⟩
  have hs2 := hb2.size
  (try simp only [World.size_alloc, World.size_setCell, World.size_drew, size_drewN] at hs2)
  go_wp2_with fail
  (with_reducible refine (S2.out _).mono ?_)
  rintro e w3 ⟨rfl, hb3⟩
  have hs3 := hb3.size
  (try simp only [World.size_alloc, World.size_setCell, World.size_drew, size_drewN] at hs3)
  go_wp2_with fail
  (with_reducible refine (S3.out _).mono ?_)
  rintro e w4 ⟨rfl, hb4⟩
  have hs4 := hb4.size
  (try simp only [World.size_alloc, World.size_setCell, World.size_drew, size_drewN] at hs4)
  go_wp2_with fail
  (with_reducible refine (O1.out _).mono ?_)
  rintro e w5 ⟨rfl, hb5⟩
  have hs5 := hb5.size
  (try simp only [World.size_alloc, World.size_setCell, World.size_drew, size_drewN] at hs5)
  go_wp2_with fail
  (with_reducible refine (O2.out _).mono ?_)
  rintro e w6 ⟨rfl, hb6⟩
  have hs6 := hb6.size
  (try simp only [World.size_alloc, World.size_setCell, World.size_drew, size_drewN] at hs6)
  go_wp2_with fail
  (with_reducible refine (refsizes_any _).mono ?_)
  rintro e w7 ⟨rfl, hB7, hb7⟩
  have hs7 := hb7.size
  (try simp only [World.size_alloc, World.size_setCell, World.size_drew, size_drewN] at hs7)
  have B7 := Lib.hid hB7
  have K7 : Hid (Kept [] W w7) := Lib.hid (by (repeat' (first | (with_reducible exact Kept.refl _ _) | (with_reducible assumption) | (with_reducible refine Kept.then_ (by with_reducible assumption) ?_) | (with_reducible refine Kept.thenS (by with_reducible assumption) ?_) | (with_reducible refine Kept.alloc ?_ _) | (with_reducible refine Kept.drew ?_) | (with_reducible refine Kept.drewN ?_ _) | (with_reducible refine Kept.setNew ?_ ?_ _) | ((try simp only [World.size_alloc, World.size_setCell, World.size_drew, size_drewN] at *); (try dsimp only); omega))))
  have l7 := hB7.lt
  clear hB7
  have cc := (B7.out.cell k).trans SZ.out
  go_wp2_with fail
  (with_reducible refine (S4.out _).mono ?_)
  rintro e w8 ⟨rfl, hb8⟩
  have hs8 := hb8.size
  (try simp only [World.size_alloc, World.size_setCell, World.size_drew, size_drewN] at hs8)
  go_wp2_with fail
  (with_reducible refine (S5.out _).mono ?_)
  rintro e w9 ⟨rfl, hb9⟩
  have hs9 := hb9.size
  (try simp only [World.size_alloc, World.size_setCell, World.size_drew, size_drewN] at hs9)
  have K9 : Hid (Kept [] w7 w9) := Lib.hid (hb8.trans0 hb9)
  go_wp2_with fail
  go_loopw [18, 133] (fun l v wr => ∃ j : Nat, j ≤ zs.length ∧ v = .int .i64 j ∧ Hid (OwnI w9.heap.size .u64 22 wr l (picks (zs.take j))) ∧ Kept [] w9 wr) (fun _ v _ => zs.length - (intOf v).toNat)
  case atStart => exact ⟨0, Nat.zero_le _, rfl, Lib.hid (OwnI.nil _ _ _ _), Kept.refl _ _⟩
  case round =>
    obtain ⟨j, hj, rfl, ho, hkw⟩ := hrel
    obtain ⟨A1, c1, rfl, _⟩ := ho.out.slice
    by_cases hlt : j < zs.length
    · obtain ⟨ad, rfl, hx⟩ := HR.out.get (by omega)
      have c2 := hx wr (hkw.then_ (K9.out.then_ K7.out)) j hlt
      have l2 := cell_lt c2
      have HT : Hid (picks (zs.take (j + 1)) = picks (zs.take j) ++ picks [zs[j]?.getD 0]) := Lib.hid (by
        rw [List.take_add_one, List.getElem?_eq_getElem hlt, picks_app]; rfl)
      generalize zs[j]?.getD 0 = x at c2 HT
      clear hx
      by_cases hin : 0 ≤ x ∧ x < 12
      · obtain ⟨u, rfl⟩ : ∃ u : Nat, x = (u : Int) := ⟨x.toNat, by omega⟩
        have HP : Hid (picks (zs.take (j + 1)) = picks (zs.take j) ++ [sz u]) := Lib.hid (by
          rw [HT.out]
          simp [picks, hin.2])
        have HLN : Hid ((picks (zs.take j)).length ≤ 300) := Lib.hid (by
          have := picks_len (zs.take j)
          rw [List.length_take] at this
          omega)
        have cs := ((B7.out.keep0 (hkw.then_ K9.out)).cell u).trans (szA_at u (by omega))
        have ls := (B7.out.keep0 (hkw.then_ K9.out)).lt
        have hszw := hkw.size
        generalize sz u = s at HP cs
        have r1 : (0 : Int) ≤ (u : Int) := by omega
        have r2 : (u : Int) < 12 := by omega
        go_wp2_with (refine app_gen .u64 46 22 8 Try.underlying46 info_u64 (by omega) rfl (.tmp 145) (.tmp 150) rfl w9 w9.heap.size _ (picks (zs.take j)) [s] rfl (ho.out.kept ((Kept.refl [] wr).alloc _)) _ _ _ rfl rfl (fun h => by cases h) (RowX.one (Blk.new _ _ _)) (hkw.alloc _) (Nat.le_refl _) (by simp; omega) (by have := HLN.out; simp; omega) ?_)
        intro A4 n4 c4 w40 hn4 own4 owo4 hk4 hg4 hs4 hc4 hr4
        have O4 : Hid (OwnI w9.heap.size .u64 22 w40 (.slice A4 n4 c4) (picks (zs.take (j + 1)))) := Lib.hid (by rw [HP.out]; exact own4)
        clear own4 owo4 hg4 hr4 hn4
        go_wp2_with fail
        go_roundw
        case rel => exact ⟨j + 1, by omega, by go_num, O4, hk4⟩
        case measure => simp [intOf]; omega
      · have HP : Hid (picks (zs.take (j + 1)) = picks (zs.take j)) := Lib.hid (by
          rw [HT.out]
          unfold picks
          rw [if_neg hin]
          simp [picks])
        by_cases h00 : 0 ≤ x
        · have r1 : decide (x < 12) = false := by simp; omega
          go_wp2_with fail
          go_roundw
          case rel => exact ⟨j + 1, by omega, by go_num, Lib.hid (by rw [HP.out]; exact ho.out), hkw⟩
          case measure => simp [intOf]; omega
        · have r1 : decide (0 ≤ x) = false := by simpa using h00
          go_wp2_with fail
          go_roundw
          case rel => exact ⟨j + 1, by omega, by go_num, Lib.hid (by rw [HP.out]; exact ho.out), hkw⟩
          case measure => simp [intOf]; omega
    · obtain rfl : j = zs.length := by omega
      have R1 : Hid (RowX .u64 wr A1 (picks zs)) := Lib.hid (by have := ho.out.row; rwa [List.take_of_length_le (Nat.le_refl _)] at this)
      have HLN : Hid ((picks (zs.take zs.length)).length = (picks zs).length) := Lib.hid (by rw [List.take_of_length_le (Nat.le_refl _)])
      have HLN2 : Hid ((picks zs).length ≤ 300) := Lib.hid (by have := picks_len zs; omega)
      rw [HLN.out]
      have DA := Lib.hid (all_some a0 cap0 zs wr (HR.out.keep (hkw.then_ (K9.out.then_ K7.out))) h0 hn)
      generalize picks zs = L at R1 DA HLN2
      clear ho
      go_wp2_with fail
      (with_reducible refine DA.out.mono ?_)
      rintro e w20 ⟨⟨A2, c2, rfl, hR2⟩, hb20⟩
      have R2 := Lib.hid hR2
      have R1b := Lib.hid (R1.out.keep hb20)
      have K20 : Hid (Kept [] W w20) := Lib.hid ((hkw.trans0 hb20).then_ (K9.out.then_ K7.out))
      clear hR2
      have hL300 := HLN2.out
      go_wp2_with fail
      go_loopw [166] (fun v wr => ∃ t : Nat, t ≤ L.length ∧ v = .int .i64 t ∧ Kept [] w20 wr) (fun v _ => L.length - (intOf v).toNat)
      case atStart => exact ⟨0, Nat.zero_le _, rfl, Kept.refl _ _⟩
      case round =>
        obtain ⟨t, ht, rfl, hkt⟩ := hrel
        by_cases hlt2 : t < L.length
        · obtain ⟨x1, hx1e, hx1⟩ := R1b.out.get (by omega)
          cases hx1e
          obtain ⟨x2, rfl, hx2⟩ := R2.out.get (by omega)
          have d1 := hx1 wr hkt t (by omega)
          (try rw [Addr.add_lit, Nat.zero_add] at d1)
          have d2 := hx2 wr hkt t (by omega)
          have l1 := cell_lt d1
          have l2 := cell_lt d2
          generalize L[t]?.getD 0 = y at d1 d2
          have q3 : (0 : Int) ≤ (t : Int) := by omega
          have q4 : (t : Int) < (L.length : Int) := by omega
          clear hx1 hx2
          go_wp2_with fail
          go_quiet (fail)
          go_wp2_with fail
          go_roundw
          case rel => exact ⟨t + 1, by omega, by go_num, hkt.drewN _⟩
          case measure => simp [intOf]; omega
        · obtain rfl : t = L.length := by omega
          go_wp2_with fail
          go_ret
          exact ⟨rfl, Kept.below (K20.out.trans0 hkt)⟩
set_option maxRecDepth 100000 in
set_option maxHeartbeats 4000000 in
theorem walk_cxx (k : Nat) (hk : k < 12) (n : Int) (n1 : 1024 < n) (a0 : Option Addr) (cap0 : Nat) (zs : List Int) (W : World) (hr : RowX .i64 W a0 zs) (hn : zs.length ≤ 300)  :
    Calls Try.prog 9 #[.int .i64 (k : Int), .int .u64 n, .slice a0 0 cap0] W fun e W' => e = .returned (.bool true) ∧ Below W.heap.size W W' := by
  have S1 := Lib.hid (size_in k hk)
  have S2 := Lib.hid (slices_in k hk)
  have S3 := Lib.hid (blocks_in k hk)
  have S4 := Lib.hid (refslices_in k hk)
  have S5 := Lib.hid (refblocks_in k hk)
  have SZ := Lib.hid (szA_at k hk)
  generalize sz k = s1 at S1 SZ
  generalize slS k = s2 at S2 S4
  generalize bkS k = s3 at S3 S5
  have q1 : (0 : Int) ≤ (k : Int) := by omega
  have q2 : (k : Int) < 12 := by omega
  have O1 := Lib.hid (of_out n n1)
  have O2 := Lib.hid (refof_out n n1)
  have HR := Lib.hid hr
  clear hr
  go_enter Try.func9, Try.ntmps9
  go_wp2_with fail
  (with_reducible refine (alive_any _).mono ?_)
  rintro e w1 ⟨rfl, hb1⟩
  have hs1 := hb1.size
  (try simp only [World.size_alloc, World.size_setCell, World.size_drew, size_drewN] at hs1)
  go_wp2_with fail
  (with_reducible refine (S1.out _).mono ?_)
  rintro e w2 ⟨rfl, hb2⟩
  have hs2 := hb2.size
  (try simp only [World.size_alloc, World.size_setCell, World.size_drew, size_drewN] at hs2)
  go_wp2_with fail
  (with_reducible refine (S2.out _).mono ?_)
  rintro e w3 ⟨rfl, hb3⟩
  have hs3 := hb3.size
  (try simp only [World.size_alloc, World.size_setCell, World.size_drew, size_drewN] at hs3)
  go_wp2_with fail
  (with_reducible refine (S3.out _).mono ?_)
  rintro e w4 ⟨rfl, hb4⟩
  have hs4 := hb4.size
  (try simp only [World.size_alloc, World.size_setCell, World.size_drew, size_drewN] at hs4)
  go_wp2_with fail
  (with_reducible refine (O1.out _).mono ?_)
  rintro e w5 ⟨rfl, hb5⟩
  have hs5 := hb5.size
  (try simp only [World.size_alloc, World.size_setCell, World.size_drew, size_drewN] at hs5)
  go_wp2_with fail
  (with_reducible refine (O2.out _).mono ?_)
  rintro e w6 ⟨rfl, hb6⟩
  have hs6 := hb6.size
  (try simp only [World.size_alloc, World.size_setCell, World.size_drew, size_drewN] at hs6)
  go_wp2_with fail
  (with_reducible refine (refsizes_any _).mono ?_)
  rintro e w7 ⟨rfl, hB7, hb7⟩
  have hs7 := hb7.size
  (try simp only [World.size_alloc, World.size_setCell, World.size_drew, size_drewN] at hs7)
  have B7 := Lib.hid hB7
  have K7 : Hid (Kept [] W w7) := Lib.hid (by (repeat' (first | (with_reducible exact Kept.refl _ _) | (with_reducible assumption) | (with_reducible refine Kept.then_ (by with_reducible assumption) ?_) | (with_reducible refine Kept.thenS (by with_reducible assumption) ?_) | (with_reducible refine Kept.alloc ?_ _) | (with_reducible refine Kept.drew ?_) | (with_reducible refine Kept.drewN ?_ _) | (with_reducible refine Kept.setNew ?_ ?_ _) | ((try simp only [World.size_alloc, World.size_setCell, World.size_drew, size_drewN] at *); (try dsimp only); omega))))
  have l7 := hB7.lt
  clear hB7
  have cc := (B7.out.cell k).trans SZ.out
  go_wp2_with fail
  (with_reducible refine (S4.out _).mono ?_)
  rintro e w8 ⟨rfl, hb8⟩
  have hs8 := hb8.size
  (try simp only [World.size_alloc, World.size_setCell, World.size_drew, size_drewN] at hs8)
  go_wp2_with fail
  (with_reducible refine (S5.out _).mono ?_)
  rintro e w9 ⟨rfl, hb9⟩
  have hs9 := hb9.size
  (try simp only [World.size_alloc, World.size_setCell, World.size_drew, size_drewN] at hs9)
  have K9 : Hid (Kept [] w7 w9) := Lib.hid (hb8.trans0 hb9)
  go_wp2_with fail
  go_loopw [18, 133] (fun l v wr => ∃ j : Nat, j ≤ zs.length ∧ v = .int .i64 j ∧ Hid (OwnI w9.heap.size .u64 22 wr l (picks (zs.take j))) ∧ Kept [] w9 wr) (fun _ v _ => zs.length - (intOf v).toNat)
  case atStart => exact ⟨0, Nat.zero_le _, rfl, Lib.hid (OwnI.nil _ _ _ _), Kept.refl _ _⟩
  case round =>
    obtain ⟨j, hj, rfl, ho, hkw⟩ := hrel
    obtain ⟨A1, c1, rfl, _⟩ := ho.out.slice
    have hj0 : zs.length = zs.length := rfl
    have R1 : Hid (RowX .u64 wr (some ⟨w6.heap.size, 0, none⟩) szL) := Lib.hid ((row_sz B7.out).keep (hkw.then_ K9.out))
    have DA : Hid (Calls Try.prog 21 #[.slice a0 0 cap0] wr fun e w' => RowIs szL e w' ∧ Kept [] wr w') := Lib.hid (all_none a0 cap0 wr)
    have HLN2 : Hid (szL.length = 12) := Lib.hid rfl
    generalize szL = L at R1 DA HLN2
    clear ho
    go_wp2_with fail
    (with_reducible refine DA.out.mono ?_)
    rintro e w20 ⟨⟨A2, c2, rfl, hR2⟩, hb20⟩
    have R2 := Lib.hid hR2
    have R1b := Lib.hid (R1.out.keep hb20)
    have K20 : Hid (Kept [] W w20) := Lib.hid ((hkw.trans0 hb20).then_ (K9.out.then_ K7.out))
    clear hR2
    have HL12 := HLN2.out
    rw [HLN2.out]
    clear HL12
    go_wp2_with fail
    go_loopw [166] (fun v wr => ∃ t : Nat, t ≤ 12 ∧ v = .int .i64 t ∧ Kept [] w20 wr) (fun v _ => 12 - (intOf v).toNat)
    case atStart => exact ⟨0, Nat.zero_le _, rfl, Kept.refl _ _⟩
    case round =>
      obtain ⟨t, ht, rfl, hkt⟩ := hrel
      by_cases hlt2 : t < 12
      · obtain ⟨x1, hx1e, hx1⟩ := R1b.out.get (by have := HLN2.out; omega)
        cases hx1e
        obtain ⟨x2, rfl, hx2⟩ := R2.out.get (by have := HLN2.out; omega)
        have d1 := hx1 wr hkt t (by have := HLN2.out; omega)
        (try rw [Addr.add_lit, Nat.zero_add] at d1)
        have d2 := hx2 wr hkt t (by have := HLN2.out; omega)
        have l1 := cell_lt d1
        have l2 := cell_lt d2
        generalize L[t]?.getD 0 = y at d1 d2
        have q3 : (0 : Int) ≤ (t : Int) := by omega
        have q4 : (t : Int) < 12 := by omega
        clear hx1 hx2
        go_wp2_with fail
        go_quiet (fail)
        go_wp2_with fail
        go_roundw
        case rel => exact ⟨t + 1, by omega, by go_num, hkt.drewN _⟩
        case measure => simp [intOf]; omega
      · obtain rfl : t = 12 := by omega
        go_wp2_with fail
        go_ret
        exact ⟨rfl, Kept.below (K20.out.trans0 hkt)⟩
set_option maxRecDepth 100000 in
set_option maxHeartbeats 4000000 in
theorem walk_xnl (c : Int) (hc : c < 0 ∨ 12 ≤ c) (n : Int) (m : Nat) (n0 : 0 ≤ n) (n1 : n ≤ 1024) (hm : m < 12) (h1 : n ≤ sz m) (h2 : ∀ j, j < m → sz j < n) (a0 : Option Addr) (cap0 : Nat) (zs : List Int) (W : World) (hr : RowX .i64 W a0 zs) (hn : zs.length ≤ 300) (h0 : 0 < zs.length) :
    Calls Try.prog 9 #[.int .i64 c, .int .u64 n, .slice a0 zs.length cap0] W fun e W' => e = .returned (.bool true) ∧ Below W.heap.size W W' := by
  have S1 := Lib.hid (size_out c hc)
  have S2 := Lib.hid (slices_out c hc)
  have S3 := Lib.hid (blocks_out c hc)
  have O1 := Lib.hid (of_in n m n0 n1 hm h1 h2)
  have O2 := Lib.hid (refof_in n m hm h1 h2)
  clear h1 h2
  have HR := Lib.hid hr
  have qn : decide ((300 : Int) < (zs.length : Int)) = false := by simp; omega
  have qz : ((zs.length : Int) == 0) = false := by rw [beq_eq_false_iff_ne]; omega
  clear hr
  go_enter Try.func9, Try.ntmps9
  go_wp2_with fail
  (with_reducible refine (alive_any _).mono ?_)
  rintro e w1 ⟨rfl, hb1⟩
  have hs1 := hb1.size
  (try simp only [World.size_alloc, World.size_setCell, World.size_drew, size_drewN] at hs1)
  go_wp2_with fail
  (with_reducible refine (S1.out _).mono ?_)
  rintro e w2 ⟨rfl, hb2⟩
  have hs2 := hb2.size
  (try simp only [World.size_alloc, World.size_setCell, World.size_drew, size_drewN] at hs2)
  go_wp2_with fail
  (with_reducible refine (S2.out _).mono ?_)
  rintro e w3 ⟨rfl, hb3⟩
  have hs3 := hb3.size
  (try simp only [World.size_alloc, World.size_setCell, World.size_drew, size_drewN] at hs3)
  go_wp2_with fail
  (with_reducible refine (S3.out _).mono ?_)
  rintro e w4 ⟨rfl, hb4⟩
  have hs4 := hb4.size
  (try simp only [World.size_alloc, World.size_setCell, World.size_drew, size_drewN] at hs4)
  go_wp2_with fail
  (with_reducible refine (O1.out _).mono ?_)
  rintro e w5 ⟨rfl, hb5⟩
  have hs5 := hb5.size
  (try simp only [World.size_alloc, World.size_setCell, World.size_drew, size_drewN] at hs5)
  go_wp2_with fail
  (with_reducible refine (O2.out _).mono ?_)
  rintro e w6 ⟨rfl, hb6⟩
  have hs6 := hb6.size
  (try simp only [World.size_alloc, World.size_setCell, World.size_drew, size_drewN] at hs6)
  go_wp2_with fail
  (with_reducible refine (refsizes_any _).mono ?_)
  rintro e w7 ⟨rfl, hB7, hb7⟩
  have hs7 := hb7.size
  (try simp only [World.size_alloc, World.size_setCell, World.size_drew, size_drewN] at hs7)
  have B7 := Lib.hid hB7
  have K7 : Hid (Kept [] W w7) := Lib.hid (by (repeat' (first | (with_reducible exact Kept.refl _ _) | (with_reducible assumption) | (with_reducible refine Kept.then_ (by with_reducible assumption) ?_) | (with_reducible refine Kept.thenS (by with_reducible assumption) ?_) | (with_reducible refine Kept.alloc ?_ _) | (with_reducible refine Kept.drew ?_) | (with_reducible refine Kept.drewN ?_ _) | (with_reducible refine Kept.setNew ?_ ?_ _) | ((try simp only [World.size_alloc, World.size_setCell, World.size_drew, size_drewN] at *); (try dsimp only); omega))))
  have l7 := hB7.lt
  clear hB7
  rcases hc with hc | hc
  · have q1 : decide ((0:Int) ≤ c) = false := by simp; omega
    go_wp2_with fail
    go_loopw [18, 133] (fun l v wr => ∃ j : Nat, j ≤ zs.length ∧ v = .int .i64 j ∧ Hid (OwnI w7.heap.size .u64 22 wr l (picks (zs.take j))) ∧ Kept [] w7 wr) (fun _ v _ => zs.length - (intOf v).toNat)
    case atStart => exact ⟨0, Nat.zero_le _, rfl, Lib.hid (OwnI.nil _ _ _ _), Kept.refl _ _⟩
    case round =>
      obtain ⟨j, hj, rfl, ho, hkw⟩ := hrel
      obtain ⟨A1, c1, rfl, _⟩ := ho.out.slice
      by_cases hlt : j < zs.length
      · obtain ⟨ad, rfl, hx⟩ := HR.out.get (by omega)
        have c2 := hx wr (hkw.then_ ((Kept.refl [] w7).then_ K7.out)) j hlt
        have l2 := cell_lt c2
        have HT : Hid (picks (zs.take (j + 1)) = picks (zs.take j) ++ picks [zs[j]?.getD 0]) := Lib.hid (by
          rw [List.take_add_one, List.getElem?_eq_getElem hlt, picks_app]; rfl)
        generalize zs[j]?.getD 0 = x at c2 HT
        clear hx
        by_cases hin : 0 ≤ x ∧ x < 12
        · obtain ⟨u, rfl⟩ : ∃ u : Nat, x = (u : Int) := ⟨x.toNat, by omega⟩
          have HP : Hid (picks (zs.take (j + 1)) = picks (zs.take j) ++ [sz u]) := Lib.hid (by
            rw [HT.out]
            simp [picks, hin.2])
          have HLN : Hid ((picks (zs.take j)).length ≤ 300) := Lib.hid (by
            have := picks_len (zs.take j)
            rw [List.length_take] at this
            omega)
          have cs := ((B7.out.keep0 (hkw.then_ (Kept.refl [] w7))).cell u).trans (szA_at u (by omega))
          have ls := (B7.out.keep0 (hkw.then_ (Kept.refl [] w7))).lt
          have hszw := hkw.size
          generalize sz u = s at HP cs
          have r1 : (0 : Int) ≤ (u : Int) := by omega
          have r2 : (u : Int) < 12 := by omega
          go_wp2_with (refine app_gen .u64 46 22 8 Try.underlying46 info_u64 (by omega) rfl (.tmp 145) (.tmp 150) rfl w7 w7.heap.size _ (picks (zs.take j)) [s] rfl (ho.out.kept ((Kept.refl [] wr).alloc _)) _ _ _ rfl rfl (fun h => by cases h) (RowX.one (Blk.new _ _ _)) (hkw.alloc _) (Nat.le_refl _) (by simp; omega) (by have := HLN.out; simp; omega) ?_)
          intro A4 n4 c4 w40 hn4 own4 owo4 hk4 hg4 hs4 hc4 hr4
          have O4 : Hid (OwnI w7.heap.size .u64 22 w40 (.slice A4 n4 c4) (picks (zs.take (j + 1)))) := Lib.hid (by rw [HP.out]; exact own4)
          clear own4 owo4 hg4 hr4 hn4
          go_wp2_with fail
          go_roundw
          case rel => exact ⟨j + 1, by omega, by go_num, O4, hk4⟩
          case measure => simp [intOf]; omega
        · have HP : Hid (picks (zs.take (j + 1)) = picks (zs.take j)) := Lib.hid (by
            rw [HT.out]
            unfold picks
            rw [if_neg hin]
            simp [picks])
          by_cases h00 : 0 ≤ x
          · have r1 : decide (x < 12) = false := by simp; omega
            go_wp2_with fail
            go_roundw
            case rel => exact ⟨j + 1, by omega, by go_num, Lib.hid (by rw [HP.out]; exact ho.out), hkw⟩
            case measure => simp [intOf]; omega
          · have r1 : decide (0 ≤ x) = false := by simpa using h00
            go_wp2_with fail
            go_roundw
            case rel => exact ⟨j + 1, by omega, by go_num, Lib.hid (by rw [HP.out]; exact ho.out), hkw⟩
            case measure => simp [intOf]; omega
      · obtain rfl : j = zs.length := by omega
        have R1 : Hid (RowX .u64 wr A1 (picks zs)) := Lib.hid (by have := ho.out.row; rwa [List.take_of_length_le (Nat.le_refl _)] at this)
        have HLN : Hid ((picks (zs.take zs.length)).length = (picks zs).length) := Lib.hid (by rw [List.take_of_length_le (Nat.le_refl _)])
        have HLN2 : Hid ((picks zs).length ≤ 300) := Lib.hid (by have := picks_len zs; omega)
        rw [HLN.out]
        have DA := Lib.hid (all_some a0 cap0 zs wr (HR.out.keep (hkw.then_ ((Kept.refl [] w7).then_ K7.out))) h0 hn)
        generalize picks zs = L at R1 DA HLN2
        clear ho
        go_wp2_with fail
        (with_reducible refine DA.out.mono ?_)
        rintro e w20 ⟨⟨A2, c2, rfl, hR2⟩, hb20⟩
        have R2 := Lib.hid hR2
        have R1b := Lib.hid (R1.out.keep hb20)
        have K20 : Hid (Kept [] W w20) := Lib.hid ((hkw.trans0 hb20).then_ ((Kept.refl [] w7).then_ K7.out))
        clear hR2
        have hL300 := HLN2.out
        go_wp2_with fail
        go_loopw [166] (fun v wr => ∃ t : Nat, t ≤ L.length ∧ v = .int .i64 t ∧ Kept [] w20 wr) (fun v _ => L.length - (intOf v).toNat)
        case atStart => exact ⟨0, Nat.zero_le _, rfl, Kept.refl _ _⟩
        case round =>
          obtain ⟨t, ht, rfl, hkt⟩ := hrel
          by_cases hlt2 : t < L.length
          · obtain ⟨x1, hx1e, hx1⟩ := R1b.out.get (by omega)
            cases hx1e
            obtain ⟨x2, rfl, hx2⟩ := R2.out.get (by omega)
            have d1 := hx1 wr hkt t (by omega)
            (try rw [Addr.add_lit, Nat.zero_add] at d1)
            have d2 := hx2 wr hkt t (by omega)
            have l1 := cell_lt d1
            have l2 := cell_lt d2
            generalize L[t]?.getD 0 = y at d1 d2
            have q3 : (0 : Int) ≤ (t : Int) := by omega
            have q4 : (t : Int) < (L.length : Int) := by omega
            clear hx1 hx2
            go_wp2_with fail
            go_quiet (fail)
            go_wp2_with fail
            go_roundw
            case rel => exact ⟨t + 1, by omega, by go_num, hkt.drewN _⟩
            case measure => simp [intOf]; omega
          · obtain rfl : t = L.length := by omega
            go_wp2_with fail
            go_ret
            exact ⟨rfl, Kept.below (K20.out.trans0 hkt)⟩
  · have q1 : decide (c < 0) = false := by simp; omega
    go_wp2_with fail
    go_loopw [18, 133] (fun l v wr => ∃ j : Nat, j ≤ zs.length ∧ v = .int .i64 j ∧ Hid (OwnI w7.heap.size .u64 22 wr l (picks (zs.take j))) ∧ Kept [] w7 wr) (fun _ v _ => zs.length - (intOf v).toNat)
    case atStart => exact ⟨0, Nat.zero_le _, rfl, Lib.hid (OwnI.nil _ _ _ _), Kept.refl _ _⟩
    case round =>
      obtain ⟨j, hj, rfl, ho, hkw⟩ := hrel
      obtain ⟨A1, c1, rfl, _⟩ := ho.out.slice
      by_cases hlt : j < zs.length
      · obtain ⟨ad, rfl, hx⟩ := HR.out.get (by omega)
        have c2 := hx wr (hkw.then_ ((Kept.refl [] w7).then_ K7.out)) j hlt
        have l2 := cell_lt c2
        have HT : Hid (picks (zs.take (j + 1)) = picks (zs.take j) ++ picks [zs[j]?.getD 0]) := Lib.hid (by
          rw [List.take_add_one, List.getElem?_eq_getElem hlt, picks_app]; rfl)
        generalize zs[j]?.getD 0 = x at c2 HT
        clear hx
        by_cases hin : 0 ≤ x ∧ x < 12
        · obtain ⟨u, rfl⟩ : ∃ u : Nat, x = (u : Int) := ⟨x.toNat, by omega⟩
          have HP : Hid (picks (zs.take (j + 1)) = picks (zs.take j) ++ [sz u]) := Lib.hid (by
            rw [HT.out]
            simp [picks, hin.2])
          have HLN : Hid ((picks (zs.take j)).length ≤ 300) := Lib.hid (by
            have := picks_len (zs.take j)
            rw [List.length_take] at this
            omega)
          have cs := ((B7.out.keep0 (hkw.then_ (Kept.refl [] w7))).cell u).trans (szA_at u (by omega))
          have ls := (B7.out.keep0 (hkw.then_ (Kept.refl [] w7))).lt
          have hszw := hkw.size
          generalize sz u = s at HP cs
          have r1 : (0 : Int) ≤ (u : Int) := by omega
          have r2 : (u : Int) < 12 := by omega
          go_wp2_with (refine app_gen .u64 46 22 8 Try.underlying46 info_u64 (by omega) rfl (.tmp 145) (.tmp 150) rfl w7 w7.heap.size _ (picks (zs.take j)) [s] rfl (ho.out.kept ((Kept.refl [] wr).alloc _)) _ _ _ rfl rfl (fun h => by cases h) (RowX.one (Blk.new _ _ _)) (hkw.alloc _) (Nat.le_refl _) (by simp; omega) (by have := HLN.out; simp; omega) ?_)
          intro A4 n4 c4 w40 hn4 own4 owo4 hk4 hg4 hs4 hc4 hr4
          have O4 : Hid (OwnI w7.heap.size .u64 22 w40 (.slice A4 n4 c4) (picks (zs.take (j + 1)))) := Lib.hid (by rw [HP.out]; exact own4)
          clear own4 owo4 hg4 hr4 hn4
          go_wp2_with fail
          go_roundw
          case rel => exact ⟨j + 1, by omega, by go_num, O4, hk4⟩
          case measure => simp [intOf]; omega
        · have HP : Hid (picks (zs.take (j + 1)) = picks (zs.take j)) := Lib.hid (by
            rw [HT.out]
            unfold picks
            rw [if_neg hin]
            simp [picks])
          by_cases h00 : 0 ≤ x
          · have r1 : decide (x < 12) = false := by simp; omega
            go_wp2_with fail
            go_roundw
            case rel => exact ⟨j + 1, by omega, by go_num, Lib.hid (by rw [HP.out]; exact ho.out), hkw⟩
            case measure => simp [intOf]; omega
          · have r1 : decide (0 ≤ x) = false := by simpa using h00
            go_wp2_with fail
            go_roundw
            case rel => exact ⟨j + 1, by omega, by go_num, Lib.hid (by rw [HP.out]; exact ho.out), hkw⟩
            case measure => simp [intOf]; omega
      · obtain rfl : j = zs.length := by omega
        have R1 : Hid (RowX .u64 wr A1 (picks zs)) := Lib.hid (by have := ho.out.row; rwa [List.take_of_length_le (Nat.le_refl _)] at this)
        have HLN : Hid ((picks (zs.take zs.length)).length = (picks zs).length) := Lib.hid (by rw [List.take_of_length_le (Nat.le_refl _)])
        have HLN2 : Hid ((picks zs).length ≤ 300) := Lib.hid (by have := picks_len zs; omega)
        rw [HLN.out]
        have DA := Lib.hid (all_some a0 cap0 zs wr (HR.out.keep (hkw.then_ ((Kept.refl [] w7).then_ K7.out))) h0 hn)
        generalize picks zs = L at R1 DA HLN2
        clear ho
        go_wp2_with fail
        (with_reducible refine DA.out.mono ?_)
        rintro e w20 ⟨⟨A2, c2, rfl, hR2⟩, hb20⟩
        have R2 := Lib.hid hR2
        have R1b := Lib.hid (R1.out.keep hb20)
        have K20 : Hid (Kept [] W w20) := Lib.hid ((hkw.trans0 hb20).then_ ((Kept.refl [] w7).then_ K7.out))
        clear hR2
        have hL300 := HLN2.out
        go_wp2_with fail
        go_loopw [166] (fun v wr => ∃ t : Nat, t ≤ L.length ∧ v = .int .i64 t ∧ Kept [] w20 wr) (fun v _ => L.length - (intOf v).toNat)
        case atStart => exact ⟨0, Nat.zero_le _, rfl, Kept.refl _ _⟩
        case round =>
          obtain ⟨t, ht, rfl, hkt⟩ := hrel
          by_cases hlt2 : t < L.length
          · obtain ⟨x1, hx1e, hx1⟩ := R1b.out.get (by omega)
            cases hx1e
            obtain ⟨x2, rfl, hx2⟩ := R2.out.get (by omega)
            have d1 := hx1 wr hkt t (by omega)
            (try rw [Addr.add_lit, Nat.zero_add] at d1)
            have d2 := hx2 wr hkt t (by omega)
            have l1 := cell_lt d1
            have l2 := cell_lt d2
            generalize L[t]?.getD 0 = y at d1 d2
            have q3 : (0 : Int) ≤ (t : Int) := by omega
            have q4 : (t : Int) < (L.length : Int) := by omega
            clear hx1 hx2
            go_wp2_with fail
            go_quiet (fail)
            go_wp2_with fail
            go_roundw
            case rel => exact ⟨t + 1, by omega, by go_num, hkt.drewN _⟩
            case measure => simp [intOf]; omega
          · obtain rfl : t = L.length := by omega
            go_wp2_with fail
            go_ret
            exact ⟨rfl, Kept.below (K20.out.trans0 hkt)⟩
set_option maxRecDepth 100000 in
set_option maxHeartbeats 4000000 in
theorem walk_xnx (c : Int) (hc : c < 0 ∨ 12 ≤ c) (n : Int) (m : Nat) (n0 : 0 ≤ n) (n1 : n ≤ 1024) (hm : m < 12) (h1 : n ≤ sz m) (h2 : ∀ j, j < m → sz j < n) (a0 : Option Addr) (cap0 : Nat) (zs : List Int) (W : World) (hr : RowX .i64 W a0 zs) (hn : zs.length ≤ 300)  :
    Calls Try.prog 9 #[.int .i64 c, .int .u64 n, .slice a0 0 cap0] W fun e W' => e = .returned (.bool true) ∧ Below W.heap.size W W' := by
  have S1 := Lib.hid (size_out c hc)
  have S2 := Lib.hid (slices_out c hc)
  have S3 := Lib.hid (blocks_out c hc)
  have O1 := Lib.hid (of_in n m n0 n1 hm h1 h2)
  have O2 := Lib.hid (refof_in n m hm h1 h2)
  clear h1 h2
  have HR := Lib.hid hr
  clear hr
  go_enter Try.func9, Try.ntmps9
  go_wp2_with fail
  (with_reducible refine (alive_any _).mono ?_)
  rintro e w1 ⟨rfl, hb1⟩
  have hs1 := hb1.size
  (try simp only [World.size_alloc, World.size_setCell, World.size_drew, size_drewN] at hs1)
  go_wp2_with fail
  (with_reducible refine (S1.out _).mono ?_)
  rintro e w2 ⟨rfl, hb2⟩
  have hs2 := hb2.size
  (try simp only [World.size_alloc, World.size_setCell, World.size_drew, size_drewN] at hs2)
  go_wp2_with fail
  (with_reducible refine (S2.out _).mono ?_)
  rintro e w3 ⟨rfl, hb3⟩
  have hs3 := hb3.size
  (try simp only [World.size_alloc, World.size_setCell, World.size_drew, size_drewN] at hs3)
  go_wp2_with fail
  (with_reducible refine (S3.out _).mono ?_)
  rintro e w4 ⟨rfl, hb4⟩
  have hs4 := hb4.size
  (try simp only [World.size_alloc, World.size_setCell, World.size_drew, size_drewN] at hs4)
  go_wp2_with fail
  (with_reducible refine (O1.out _).mono ?_)
  rintro e w5 ⟨rfl, hb5⟩
  have hs5 := hb5.size
  (try simp only [World.size_alloc, World.size_setCell, World.size_drew, size_drewN] at hs5)
  go_wp2_with fail
  (with_reducible refine (O2.out _).mono ?_)
  rintro e w6 ⟨rfl, hb6⟩
  have hs6 := hb6.size
  (try simp only [World.size_alloc, World.size_setCell, World.size_drew, size_drewN] at hs6)
  go_wp2_with fail
  (with_reducible refine (refsizes_any _).mono ?_)
  rintro e w7 ⟨rfl, hB7, hb7⟩
  have hs7 := hb7.size
  (try simp only [World.size_alloc, World.size_setCell, World.size_drew, size_drewN] at hs7)
  have B7 := Lib.hid hB7
  have K7 : Hid (Kept [] W w7) := Lib.hid (by (repeat' (first | (with_reducible exact Kept.refl _ _) | (with_reducible assumption) | (with_reducible refine Kept.then_ (by with_reducible assumption) ?_) | (with_reducible refine Kept.thenS (by with_reducible assumption) ?_) | (with_reducible refine Kept.alloc ?_ _) | (with_reducible refine Kept.drew ?_) | (with_reducible refine Kept.drewN ?_ _) | (with_reducible refine Kept.setNew ?_ ?_ _) | ((try simp only [World.size_alloc, World.size_setCell, World.size_drew, size_drewN] at *); (try dsimp only); omega))))
  have l7 := hB7.lt
  clear hB7
  rcases hc with hc | hc
  · have q1 : decide ((0:Int) ≤ c) = false := by simp; omega
    go_wp2_with fail
    go_loopw [18, 133] (fun l v wr => ∃ j : Nat, j ≤ zs.length ∧ v = .int .i64 j ∧ Hid (OwnI w7.heap.size .u64 22 wr l (picks (zs.take j))) ∧ Kept [] w7 wr) (fun _ v _ => zs.length - (intOf v).toNat)
    case atStart => exact ⟨0, Nat.zero_le _, rfl, Lib.hid (OwnI.nil _ _ _ _), Kept.refl _ _⟩
    case round =>
      obtain ⟨j, hj, rfl, ho, hkw⟩ := hrel
      obtain ⟨A1, c1, rfl, _⟩ := ho.out.slice
      have hj0 : zs.length = zs.length := rfl
      have R1 : Hid (RowX .u64 wr (some ⟨w6.heap.size, 0, none⟩) szL) := Lib.hid ((row_sz B7.out).keep (hkw.then_ (Kept.refl [] w7)))
      have DA : Hid (Calls Try.prog 21 #[.slice a0 0 cap0] wr fun e w' => RowIs szL e w' ∧ Kept [] wr w') := Lib.hid (all_none a0 cap0 wr)
      have HLN2 : Hid (szL.length = 12) := Lib.hid rfl
      generalize szL = L at R1 DA HLN2
      clear ho
      go_wp2_with fail
      (with_reducible refine DA.out.mono ?_)
      rintro e w20 ⟨⟨A2, c2, rfl, hR2⟩, hb20⟩
      have R2 := Lib.hid hR2
      have R1b := Lib.hid (R1.out.keep hb20)
      have K20 : Hid (Kept [] W w20) := Lib.hid ((hkw.trans0 hb20).then_ ((Kept.refl [] w7).then_ K7.out))
      clear hR2
      have HL12 := HLN2.out
      rw [HLN2.out]
      clear HL12
      go_wp2_with fail
      go_loopw [166] (fun v wr => ∃ t : Nat, t ≤ 12 ∧ v = .int .i64 t ∧ Kept [] w20 wr) (fun v _ => 12 - (intOf v).toNat)
      case atStart => exact ⟨0, Nat.zero_le _, rfl, Kept.refl _ _⟩
      case round =>
        obtain ⟨t, ht, rfl, hkt⟩ := hrel
        by_cases hlt2 : t < 12
        · obtain ⟨x1, hx1e, hx1⟩ := R1b.out.get (by have := HLN2.out; omega)
          cases hx1e
          obtain ⟨x2, rfl, hx2⟩ := R2.out.get (by have := HLN2.out; omega)
          have d1 := hx1 wr hkt t (by have := HLN2.out; omega)
          (try rw [Addr.add_lit, Nat.zero_add] at d1)
          have d2 := hx2 wr hkt t (by have := HLN2.out; omega)
          have l1 := cell_lt d1
          have l2 := cell_lt d2
          generalize L[t]?.getD 0 = y at d1 d2
          have q3 : (0 : Int) ≤ (t : Int) := by omega
          have q4 : (t : Int) < 12 := by omega
          clear hx1 hx2
          go_wp2_with fail
          go_quiet (fail)
          go_wp2_with fail
          go_roundw
          case rel => exact ⟨t + 1, by omega, by go_num, hkt.drewN _⟩
          case measure => simp [intOf]; omega
        · obtain rfl : t = 12 := by omega
          go_wp2_with fail
          go_ret
          exact ⟨rfl, Kept.below (K20.out.trans0 hkt)⟩
  · have q1 : decide (c < 0) = false := by simp; omega
    go_wp2_with fail
    go_loopw [18, 133] (fun l v wr => ∃ j : Nat, j ≤ zs.length ∧ v = .int .i64 j ∧ Hid (OwnI w7.heap.size .u64 22 wr l (picks (zs.take j))) ∧ Kept [] w7 wr) (fun _ v _ => zs.length - (intOf v).toNat)
    case atStart => exact ⟨0, Nat.zero_le _, rfl, Lib.hid (OwnI.nil _ _ _ _), Kept.refl _ _⟩
    case round =>
      obtain ⟨j, hj, rfl, ho, hkw⟩ := hrel
      obtain ⟨A1, c1, rfl, _⟩ := ho.out.slice
      have hj0 : zs.length = zs.length := rfl
      have R1 : Hid (RowX .u64 wr (some ⟨w6.heap.size, 0, none⟩) szL) := Lib.hid ((row_sz B7.out).keep (hkw.then_ (Kept.refl [] w7)))
      have DA : Hid (Calls Try.prog 21 #[.slice a0 0 cap0] wr fun e w' => RowIs szL e w' ∧ Kept [] wr w') := Lib.hid (all_none a0 cap0 wr)
      have HLN2 : Hid (szL.length = 12) := Lib.hid rfl
      generalize szL = L at R1 DA HLN2
      clear ho
      go_wp2_with fail
      (with_reducible refine DA.out.mono ?_)
      rintro e w20 ⟨⟨A2, c2, rfl, hR2⟩, hb20⟩
      have R2 := Lib.hid hR2
      have R1b := Lib.hid (R1.out.keep hb20)
      have K20 : Hid (Kept [] W w20) := Lib.hid ((hkw.trans0 hb20).then_ ((Kept.refl [] w7).then_ K7.out))
      clear hR2
      have HL12 := HLN2.out
      rw [HLN2.out]
      clear HL12
      go_wp2_with fail
      go_loopw [166] (fun v wr => ∃ t : Nat, t ≤ 12 ∧ v = .int .i64 t ∧ Kept [] w20 wr) (fun v _ => 12 - (intOf v).toNat)
      case atStart => exact ⟨0, Nat.zero_le _, rfl, Kept.refl _ _⟩
      case round =>
        obtain ⟨t, ht, rfl, hkt⟩ := hrel
        by_cases hlt2 : t < 12
        · obtain ⟨x1, hx1e, hx1⟩ := R1b.out.get (by have := HLN2.out; omega)
          cases hx1e
          obtain ⟨x2, rfl, hx2⟩ := R2.out.get (by have := HLN2.out; omega)
          have d1 := hx1 wr hkt t (by have := HLN2.out; omega)
          (try rw [Addr.add_lit, Nat.zero_add] at d1)
          have d2 := hx2 wr hkt t (by have := HLN2.out; omega)
          have l1 := cell_lt d1
          have l2 := cell_lt d2
          generalize L[t]?.getD 0 = y at d1 d2
          have q3 : (0 : Int) ≤ (t : Int) := by omega
          have q4 : (t : Int) < 12 := by omega
          clear hx1 hx2
          go_wp2_with fail
          go_quiet (fail)
          go_wp2_with fail
          go_roundw
          case rel => exact ⟨t + 1, by omega, by go_num, hkt.drewN _⟩
          case measure => simp [intOf]; omega
        · obtain rfl : t = 12 := by omega
          go_wp2_with fail
          go_ret
          exact ⟨rfl, Kept.below (K20.out.trans0 hkt)⟩
set_option maxRecDepth 100000 in
set_option maxHeartbeats 4000000 in
theorem walk_xxl (c : Int) (hc : c < 0 ∨ 12 ≤ c) (n : Int) (n1 : 1024 < n) (a0 : Option Addr) (cap0 : Nat) (zs : List Int) (W : World) (hr : RowX .i64 W a0 zs) (hn : zs.length ≤ 300) (h0 : 0 < zs.length) :
    Calls Try.prog 9 #[.int .i64 c, .int .u64 n, .slice a0 zs.length cap0] W fun e W' => e = .returned (.bool true) ∧ Below W.heap.size W W' := by
  have S1 := Lib.hid (size_out c hc)
  have S2 := Lib.hid (slices_out c hc)
  have S3 := Lib.hid (blocks_out c hc)
  have O1 := Lib.hid (of_out n n1)
  have O2 := Lib.hid (refof_out n n1)
  have HR := Lib.hid hr
  have qn : decide ((300 : Int) < (zs.length : Int)) = false := by simp; omega
  have qz : ((zs.length : Int) == 0) = false := by rw [beq_eq_false_iff_ne]; omega
  clear hr
  go_enter Try.func9, Try.ntmps9
  go_wp2_with fail
  (with_reducible refine (alive_any _).mono ?_)
  rintro e w1 ⟨rfl, hb1⟩
  have hs1 := hb1.size
  (try simp only [World.size_alloc, World.size_setCell, World.size_drew, size_drewN] at hs1)
  go_wp2_with fail
  (with_reducible refine (S1.out _).mono ?_)
  rintro e w2 ⟨rfl, hb2⟩
  have hs2 := hb2.size
  (try simp only [World.size_alloc, World.size_setCell, World.size_drew, size_drewN] at hs2)
  go_wp2_with fail
  (with_reducible refine (S2.out _).mono ?_)
  rintro e w3 ⟨rfl, hb3⟩
  have hs3 := hb3.size
  (try simp only [World.size_alloc, World.size_setCell, World.size_drew, size_drewN] at hs3)
  go_wp2_with fail
  (with_reducible refine (S3.out _).mono ?_)
  rintro e w4 ⟨rfl, hb4⟩
  have hs4 := hb4.size
  (try simp only [World.size_alloc, World.size_setCell, World.size_drew, size_drewN] at hs4)
  go_wp2_with fail
  (with_reducible refine (O1.out _).mono ?_)
  rintro e w5 ⟨rfl, hb5⟩
  have hs5 := hb5.size
  (try simp only [World.size_alloc, World.size_setCell, World.size_drew, size_drewN] at hs5)
  go_wp2_with fail
  (with_reducible refine (O2.out _).mono ?_)
  rintro e w6 ⟨rfl, hb6⟩
  have hs6 := hb6.size
  (try simp only [World.size_alloc, World.size_setCell, World.size_drew, size_drewN] at hs6)
  go_wp2_with fail
  (with_reducible refine (refsizes_any _).mono ?_)
  rintro e w7 ⟨rfl, hB7, hb7⟩
  have hs7 := hb7.size
  (try simp only [World.size_alloc, World.size_setCell, World.size_drew, size_drewN] at hs7)
  have B7 := Lib.hid hB7
  have K7 : Hid (Kept [] W w7) := Lib.hid (by (repeat' (first | (with_reducible exact Kept.refl _ _) | (with_reducible assumption) | (with_reducible refine Kept.then_ (by with_reducible assumption) ?_) | (with_reducible refine Kept.thenS (by with_reducible assumption) ?_) | (with_reducible refine Kept.alloc ?_ _) | (with_reducible refine Kept.drew ?_) | (with_reducible refine Kept.drewN ?_ _) | (with_reducible refine Kept.setNew ?_ ?_ _) | ((try simp only [World.size_alloc, World.size_setCell, World.size_drew, size_drewN] at *); (try dsimp only); omega))))
  have l7 := hB7.lt
  clear hB7
  rcases hc with hc | hc
  · have q1 : decide ((0:Int) ≤ c) = false := by simp; omega
    go_wp2_with fail
    go_loopw [18, 133] (fun l v wr => ∃ j : Nat, j ≤ zs.length ∧ v = .int .i64 j ∧ Hid (OwnI w7.heap.size .u64 22 wr l (picks (zs.take j))) ∧ Kept [] w7 wr) (fun _ v _ => zs.length - (intOf v).toNat)
    case atStart => exact ⟨0, Nat.zero_le _, rfl, Lib.hid (OwnI.nil _ _ _ _), Kept.refl _ _⟩
    case round =>
      obtain ⟨j, hj, rfl, ho, hkw⟩ := hrel
      obtain ⟨A1, c1, rfl, _⟩ := ho.out.slice
      by_cases hlt : j < zs.length
      · obtain ⟨ad, rfl, hx⟩ := HR.out.get (by omega)
        have c2 := hx wr (hkw.then_ ((Kept.refl [] w7).then_ K7.out)) j hlt
        have l2 := cell_lt c2
        have HT : Hid (picks (zs.take (j + 1)) = picks (zs.take j) ++ picks [zs[j]?.getD 0]) := Lib.hid (by
          rw [List.take_add_one, List.getElem?_eq_getElem hlt, picks_app]; rfl)
        generalize zs[j]?.getD 0 = x at c2 HT
        clear hx
        by_cases hin : 0 ≤ x ∧ x < 12
        · obtain ⟨u, rfl⟩ : ∃ u : Nat, x = (u : Int) := ⟨x.toNat, by omega⟩
          have HP : Hid (picks (zs.take (j + 1)) = picks (zs.take j) ++ [sz u]) := Lib.hid (by
            rw [HT.out]
            simp [picks, hin.2])
          have HLN : Hid ((picks (zs.take j)).length ≤ 300) := Lib.hid (by
            have := picks_len (zs.take j)
            rw [List.length_take] at this
            omega)
          have cs := ((B7.out.keep0 (hkw.then_ (Kept.refl [] w7))).cell u).trans (szA_at u (by omega))
          have ls := (B7.out.keep0 (hkw.then_ (Kept.refl [] w7))).lt
          have hszw := hkw.size
          generalize sz u = s at HP cs
          have r1 : (0 : Int) ≤ (u : Int) := by omega
          have r2 : (u : Int) < 12 := by omega
          go_wp2_with (refine app_gen .u64 46 22 8 Try.underlying46 info_u64 (by omega) rfl (.tmp 145) (.tmp 150) rfl w7 w7.heap.size _ (picks (zs.take j)) [s] rfl (ho.out.kept ((Kept.refl [] wr).alloc _)) _ _ _ rfl rfl (fun h => by cases h) (RowX.one (Blk.new _ _ _)) (hkw.alloc _) (Nat.le_refl _) (by simp; omega) (by have := HLN.out; simp; omega) ?_)
          intro A4 n4 c4 w40 hn4 own4 owo4 hk4 hg4 hs4 hc4 hr4
          have O4 : Hid (OwnI w7.heap.size .u64 22 w40 (.slice A4 n4 c4) (picks (zs.take (j + 1)))) := Lib.hid (by rw [HP.out]; exact own4)
          clear own4 owo4 hg4 hr4 hn4
          go_wp2_with fail
          go_roundw
          case rel => exact ⟨j + 1, by omega, by go_num, O4, hk4⟩
          case measure => simp [intOf]; omega
        · have HP : Hid (picks (zs.take (j + 1)) = picks (zs.take j)) := Lib.hid (by
            rw [HT.out]
            unfold picks
            rw [if_neg hin]
            simp [picks])
          by_cases h00 : 0 ≤ x
          · have r1 : decide (x < 12) = false := by simp; omega
            go_wp2_with fail
            go_roundw
            case rel => exact ⟨j + 1, by omega, by go_num, Lib.hid (by rw [HP.out]; exact ho.out), hkw⟩
            case measure => simp [intOf]; omega
          · have r1 : decide (0 ≤ x) = false := by simpa using h00
            go_wp2_with fail
            go_roundw
            case rel => exact ⟨j + 1, by omega, by go_num, Lib.hid (by rw [HP.out]; exact ho.out), hkw⟩
            case measure => simp [intOf]; omega
      · obtain rfl : j = zs.length := by omega
        have R1 : Hid (RowX .u64 wr A1 (picks zs)) := Lib.hid (by have := ho.out.row; rwa [List.take_of_length_le (Nat.le_refl _)] at this)
        have HLN : Hid ((picks (zs.take zs.length)).length = (picks zs).length) := Lib.hid (by rw [List.take_of_length_le (Nat.le_refl _)])
        have HLN2 : Hid ((picks zs).length ≤ 300) := Lib.hid (by have := picks_len zs; omega)
        rw [HLN.out]
        have DA := Lib.hid (all_some a0 cap0 zs wr (HR.out.keep (hkw.then_ ((Kept.refl [] w7).then_ K7.out))) h0 hn)
        generalize picks zs = L at R1 DA HLN2
        clear ho
        go_wp2_with fail
        (with_reducible refine DA.out.mono ?_)
        rintro e w20 ⟨⟨A2, c2, rfl, hR2⟩, hb20⟩
        have R2 := Lib.hid hR2
        have R1b := Lib.hid (R1.out.keep hb20)
        have K20 : Hid (Kept [] W w20) := Lib.hid ((hkw.trans0 hb20).then_ ((Kept.refl [] w7).then_ K7.out))
        clear hR2
        have hL300 := HLN2.out
        go_wp2_with fail
        go_loopw [166] (fun v wr => ∃ t : Nat, t ≤ L.length ∧ v = .int .i64 t ∧ Kept [] w20 wr) (fun v _ => L.length - (intOf v).toNat)
        case atStart => exact ⟨0, Nat.zero_le _, rfl, Kept.refl _ _⟩
        case round =>
          obtain ⟨t, ht, rfl, hkt⟩ := hrel
          by_cases hlt2 : t < L.length
          · obtain ⟨x1, hx1e, hx1⟩ := R1b.out.get (by omega)
            cases hx1e
            obtain ⟨x2, rfl, hx2⟩ := R2.out.get (by omega)
            have d1 := hx1 wr hkt t (by omega)
            (try rw [Addr.add_lit, Nat.zero_add] at d1)
            have d2 := hx2 wr hkt t (by omega)
            have l1 := cell_lt d1
            have l2 := cell_lt d2
            generalize L[t]?.getD 0 = y at d1 d2
            have q3 : (0 : Int) ≤ (t : Int) := by omega
            have q4 : (t : Int) < (L.length : Int) := by omega
            clear hx1 hx2
            go_wp2_with fail
            go_quiet (fail)
            go_wp2_with fail
            go_roundw
            case rel => exact ⟨t + 1, by omega, by go_num, hkt.drewN _⟩
            case measure => simp [intOf]; omega
          · obtain rfl : t = L.length := by omega
            go_wp2_with fail
            go_ret
            exact ⟨rfl, Kept.below (K20.out.trans0 hkt)⟩
  · have q1 : decide (c < 0) = false := by simp; omega
    go_wp2_with fail
    go_loopw [18, 133] (fun l v wr => ∃ j : Nat, j ≤ zs.length ∧ v = .int .i64 j ∧ Hid (OwnI w7.heap.size .u64 22 wr l (picks (zs.take j))) ∧ Kept [] w7 wr) (fun _ v _ => zs.length - (intOf v).toNat)
    case atStart => exact ⟨0, Nat.zero_le _, rfl, Lib.hid (OwnI.nil _ _ _ _), Kept.refl _ _⟩
    case round =>
      obtain ⟨j, hj, rfl, ho, hkw⟩ := hrel
      obtain ⟨A1, c1, rfl, _⟩ := ho.out.slice
      by_cases hlt : j < zs.length
      · obtain ⟨ad, rfl, hx⟩ := HR.out.get (by omega)
        have c2 := hx wr (hkw.then_ ((Kept.refl [] w7).then_ K7.out)) j hlt
        have l2 := cell_lt c2
        have HT : Hid (picks (zs.take (j + 1)) = picks (zs.take j) ++ picks [zs[j]?.getD 0]) := Lib.hid (by
          rw [List.take_add_one, List.getElem?_eq_getElem hlt, picks_app]; rfl)
        generalize zs[j]?.getD 0 = x at c2 HT
        clear hx
        by_cases hin : 0 ≤ x ∧ x < 12
        · obtain ⟨u, rfl⟩ : ∃ u : Nat, x = (u : Int) := ⟨x.toNat, by omega⟩
          have HP : Hid (picks (zs.take (j + 1)) = picks (zs.take j) ++ [sz u]) := Lib.hid (by
            rw [HT.out]
            simp [picks, hin.2])
          have HLN : Hid ((picks (zs.take j)).length ≤ 300) := Lib.hid (by
            have := picks_len (zs.take j)
            rw [List.length_take] at this
            omega)
          have cs := ((B7.out.keep0 (hkw.then_ (Kept.refl [] w7))).cell u).trans (szA_at u (by omega))
          have ls := (B7.out.keep0 (hkw.then_ (Kept.refl [] w7))).lt
          have hszw := hkw.size
          generalize sz u = s at HP cs
          have r1 : (0 : Int) ≤ (u : Int) := by omega
          have r2 : (u : Int) < 12 := by omega
          go_wp2_with (refine app_gen .u64 46 22 8 Try.underlying46 info_u64 (by omega) rfl (.tmp 145) (.tmp 150) rfl w7 w7.heap.size _ (picks (zs.take j)) [s] rfl (ho.out.kept ((Kept.refl [] wr).alloc _)) _ _ _ rfl rfl (fun h => by cases h) (RowX.one (Blk.new _ _ _)) (hkw.alloc _) (Nat.le_refl _) (by simp; omega) (by have := HLN.out; simp; omega) ?_)
          intro A4 n4 c4 w40 hn4 own4 owo4 hk4 hg4 hs4 hc4 hr4
          have O4 : Hid (OwnI w7.heap.size .u64 22 w40 (.slice A4 n4 c4) (picks (zs.take (j + 1)))) := Lib.hid (by rw [HP.out]; exact own4)
          clear own4 owo4 hg4 hr4 hn4
          go_wp2_with fail
          go_roundw
          case rel => exact ⟨j + 1, by omega, by go_num, O4, hk4⟩
          case measure => simp [intOf]; omega
        · have HP : Hid (picks (zs.take (j + 1)) = picks (zs.take j)) := Lib.hid (by
            rw [HT.out]
            unfold picks
            rw [if_neg hin]
            simp [picks])
          by_cases h00 : 0 ≤ x
          · have r1 : decide (x < 12) = false := by simp; omega
            go_wp2_with fail
            go_roundw
            case rel => exact ⟨j + 1, by omega, by go_num, Lib.hid (by rw [HP.out]; exact ho.out), hkw⟩
            case measure => simp [intOf]; omega
          · have r1 : decide (0 ≤ x) = false := by simpa using h00
            go_wp2_with fail
            go_roundw
            case rel => exact ⟨j + 1, by omega, by go_num, Lib.hid (by rw [HP.out]; exact ho.out), hkw⟩
            case measure => simp [intOf]; omega
      · obtain rfl : j = zs.length := by omega
        have R1 : Hid (RowX .u64 wr A1 (picks zs)) := Lib.hid (by have := ho.out.row; rwa [List.take_of_length_le (Nat.le_refl _)] at this)
        have HLN : Hid ((picks (zs.take zs.length)).length = (picks zs).length) := Lib.hid (by rw [List.take_of_length_le (Nat.le_refl _)])
        have HLN2 : Hid ((picks zs).length ≤ 300) := Lib.hid (by have := picks_len zs; omega)
        rw [HLN.out]
        have DA := Lib.hid (all_some a0 cap0 zs wr (HR.out.keep (hkw.then_ ((Kept.refl [] w7).then_ K7.out))) h0 hn)
        generalize picks zs = L at R1 DA HLN2
        clear ho
        go_wp2_with fail
        (with_reducible refine DA.out.mono ?_)
        rintro e w20 ⟨⟨A2, c2, rfl, hR2⟩, hb20⟩
        have R2 := Lib.hid hR2
        have R1b := Lib.hid (R1.out.keep hb20)
        have K20 : Hid (Kept [] W w20) := Lib.hid ((hkw.trans0 hb20).then_ ((Kept.refl [] w7).then_ K7.out))
        clear hR2
        have hL300 := HLN2.out
        go_wp2_with fail
        go_loopw [166] (fun v wr => ∃ t : Nat, t ≤ L.length ∧ v = .int .i64 t ∧ Kept [] w20 wr) (fun v _ => L.length - (intOf v).toNat)
        case atStart => exact ⟨0, Nat.zero_le _, rfl, Kept.refl _ _⟩
        case round =>
          obtain ⟨t, ht, rfl, hkt⟩ := hrel
          by_cases hlt2 : t < L.length
          · obtain ⟨x1, hx1e, hx1⟩ := R1b.out.get (by omega)
            cases hx1e
            obtain ⟨x2, rfl, hx2⟩ := R2.out.get (by omega)
            have d1 := hx1 wr hkt t (by omega)
            (try rw [Addr.add_lit, Nat.zero_add] at d1)
            have d2 := hx2 wr hkt t (by omega)
            have l1 := cell_lt d1
            have l2 := cell_lt d2
            generalize L[t]?.getD 0 = y at d1 d2
            have q3 : (0 : Int) ≤ (t : Int) := by omega
            have q4 : (t : Int) < (L.length : Int) := by omega
            clear hx1 hx2
            go_wp2_with fail
            go_quiet (fail)
            go_wp2_with fail
            go_roundw
            case rel => exact ⟨t + 1, by omega, by go_num, hkt.drewN _⟩
            case measure => simp [intOf]; omega
          · obtain rfl : t = L.length := by omega
            go_wp2_with fail
            go_ret
            exact ⟨rfl, Kept.below (K20.out.trans0 hkt)⟩
set_option maxRecDepth 100000 in
set_option maxHeartbeats 4000000 in
theorem walk_xxx (c : Int) (hc : c < 0 ∨ 12 ≤ c) (n : Int) (n1 : 1024 < n) (a0 : Option Addr) (cap0 : Nat) (zs : List Int) (W : World) (hr : RowX .i64 W a0 zs) (hn : zs.length ≤ 300)  :
    Calls Try.prog 9 #[.int .i64 c, .int .u64 n, .slice a0 0 cap0] W fun e W' => e = .returned (.bool true) ∧ Below W.heap.size W W' := by
  have S1 := Lib.hid (size_out c hc)
  have S2 := Lib.hid (slices_out c hc)
  have S3 := Lib.hid (blocks_out c hc)
  have O1 := Lib.hid (of_out n n1)
  have O2 := Lib.hid (refof_out n n1)
  have HR := Lib.hid hr
  clear hr
  go_enter Try.func9, Try.ntmps9
  go_wp2_with fail
  (with_reducible refine (alive_any _).mono ?_)
  rintro e w1 ⟨rfl, hb1⟩
  have hs1 := hb1.size
  (try simp only [World.size_alloc, World.size_setCell, World.size_drew, size_drewN] at hs1)
  go_wp2_with fail
  (with_reducible refine (S1.out _).mono ?_)
  rintro e w2 ⟨rfl, hb2⟩
  have hs2 := hb2.size
  (try simp only [World.size_alloc, World.size_setCell, World.size_drew, size_drewN] at hs2)
  go_wp2_with fail
  (with_reducible refine (S2.out _).mono ?_)
  rintro e w3 ⟨rfl, hb3⟩
  have hs3 := hb3.size
  (try simp only [World.size_alloc, World.size_setCell, World.size_drew, size_drewN] at hs3)
  go_wp2_with fail
  (with_reducible refine (S3.out _).mono ?_)
  rintro e w4 ⟨rfl, hb4⟩
  have hs4 := hb4.size
  (try simp only [World.size_alloc, World.size_setCell, World.size_drew, size_drewN] at hs4)
  go_wp2_with fail
  (with_reducible refine (O1.out _).mono ?_)
  rintro e w5 ⟨rfl, hb5⟩
  have hs5 := hb5.size
  (try simp only [World.size_alloc, World.size_setCell, World.size_drew, size_drewN] at hs5)
  go_wp2_with fail
  (with_reducible refine (O2.out _).mono ?_)
  rintro e w6 ⟨rfl, hb6⟩
  have hs6 := hb6.size
  (try simp only [World.size_alloc, World.size_setCell, World.size_drew, size_drewN] at hs6)
  go_wp2_with fail
  (with_reducible refine (refsizes_any _).mono ?_)
  rintro e w7 ⟨rfl, hB7, hb7⟩
  have hs7 := hb7.size
  (try simp only [World.size_alloc, World.size_setCell, World.size_drew, size_drewN] at hs7)
  have B7 := Lib.hid hB7
  have K7 : Hid (Kept [] W w7) := Lib.hid (by (repeat' (first | (with_reducible exact Kept.refl _ _) | (with_reducible assumption) | (with_reducible refine Kept.then_ (by with_reducible assumption) ?_) | (with_reducible refine Kept.thenS (by with_reducible assumption) ?_) | (with_reducible refine Kept.alloc ?_ _) | (with_reducible refine Kept.drew ?_) | (with_reducible refine Kept.drewN ?_ _) | (with_reducible refine Kept.setNew ?_ ?_ _) | ((try simp only [World.size_alloc, World.size_setCell, World.size_drew, size_drewN] at *); (try dsimp only); omega))))
  have l7 := hB7.lt
  clear hB7
  rcases hc with hc | hc
  · have q1 : decide ((0:Int) ≤ c) = false := by simp; omega
    go_wp2_with fail
    go_loopw [18, 133] (fun l v wr => ∃ j : Nat, j ≤ zs.length ∧ v = .int .i64 j ∧ Hid (OwnI w7.heap.size .u64 22 wr l (picks (zs.take j))) ∧ Kept [] w7 wr) (fun _ v _ => zs.length - (intOf v).toNat)
    case atStart => exact ⟨0, Nat.zero_le _, rfl, Lib.hid (OwnI.nil _ _ _ _), Kept.refl _ _⟩
    case round =>
      obtain ⟨j, hj, rfl, ho, hkw⟩ := hrel
      obtain ⟨A1, c1, rfl, _⟩ := ho.out.slice
      have hj0 : zs.length = zs.length := rfl
      have R1 : Hid (RowX .u64 wr (some ⟨w6.heap.size, 0, none⟩) szL) := Lib.hid ((row_sz B7.out).keep (hkw.then_ (Kept.refl [] w7)))
      have DA : Hid (Calls Try.prog 21 #[.slice a0 0 cap0] wr fun e w' => RowIs szL e w' ∧ Kept [] wr w') := Lib.hid (all_none a0 cap0 wr)
      have HLN2 : Hid (szL.length = 12) := Lib.hid rfl
      generalize szL = L at R1 DA HLN2
      clear ho
      go_wp2_with fail
      (with_reducible refine DA.out.mono ?_)
      rintro e w20 ⟨⟨A2, c2, rfl, hR2⟩, hb20⟩
      have R2 := Lib.hid hR2
      have R1b := Lib.hid (R1.out.keep hb20)
      have K20 : Hid (Kept [] W w20) := Lib.hid ((hkw.trans0 hb20).then_ ((Kept.refl [] w7).then_ K7.out))
      clear hR2
      have HL12 := HLN2.out
      rw [HLN2.out]
      clear HL12
      go_wp2_with fail
      go_loopw [166] (fun v wr => ∃ t : Nat, t ≤ 12 ∧ v = .int .i64 t ∧ Kept [] w20 wr) (fun v _ => 12 - (intOf v).toNat)
      case atStart => exact ⟨0, Nat.zero_le _, rfl, Kept.refl _ _⟩
      case round =>
        obtain ⟨t, ht, rfl, hkt⟩ := hrel
        by_cases hlt2 : t < 12
        · obtain ⟨x1, hx1e, hx1⟩ := R1b.out.get (by have := HLN2.out; omega)
          cases hx1e
          obtain ⟨x2, rfl, hx2⟩ := R2.out.get (by have := HLN2.out; omega)
          have d1 := hx1 wr hkt t (by have := HLN2.out; omega)
          (try rw [Addr.add_lit, Nat.zero_add] at d1)
          have d2 := hx2 wr hkt t (by have := HLN2.out; omega)
          have l1 := cell_lt d1
          have l2 := cell_lt d2
          generalize L[t]?.getD 0 = y at d1 d2
          have q3 : (0 : Int) ≤ (t : Int) := by omega
          have q4 : (t : Int) < 12 := by omega
          clear hx1 hx2
          go_wp2_with fail
          go_quiet (fail)
          go_wp2_with fail
          go_roundw
          case rel => exact ⟨t + 1, by omega, by go_num, hkt.drewN _⟩
          case measure => simp [intOf]; omega
        · obtain rfl : t = 12 := by omega
          go_wp2_with fail
          go_ret
          exact ⟨rfl, Kept.below (K20.out.trans0 hkt)⟩
  · have q1 : decide (c < 0) = false := by simp; omega
    go_wp2_with fail
    go_loopw [18, 133] (fun l v wr => ∃ j : Nat, j ≤ zs.length ∧ v = .int .i64 j ∧ Hid (OwnI w7.heap.size .u64 22 wr l (picks (zs.take j))) ∧ Kept [] w7 wr) (fun _ v _ => zs.length - (intOf v).toNat)
    case atStart => exact ⟨0, Nat.zero_le _, rfl, Lib.hid (OwnI.nil _ _ _ _), Kept.refl _ _⟩
    case round =>
      obtain ⟨j, hj, rfl, ho, hkw⟩ := hrel
      obtain ⟨A1, c1, rfl, _⟩ := ho.out.slice
      have hj0 : zs.length = zs.length := rfl
      have R1 : Hid (RowX .u64 wr (some ⟨w6.heap.size, 0, none⟩) szL) := Lib.hid ((row_sz B7.out).keep (hkw.then_ (Kept.refl [] w7)))
      have DA : Hid (Calls Try.prog 21 #[.slice a0 0 cap0] wr fun e w' => RowIs szL e w' ∧ Kept [] wr w') := Lib.hid (all_none a0 cap0 wr)
      have HLN2 : Hid (szL.length = 12) := Lib.hid rfl
      generalize szL = L at R1 DA HLN2
      clear ho
      go_wp2_with fail
      (with_reducible refine DA.out.mono ?_)
      rintro e w20 ⟨⟨A2, c2, rfl, hR2⟩, hb20⟩
      have R2 := Lib.hid hR2
      have R1b := Lib.hid (R1.out.keep hb20)
      have K20 : Hid (Kept [] W w20) := Lib.hid ((hkw.trans0 hb20).then_ ((Kept.refl [] w7).then_ K7.out))
      clear hR2
      have HL12 := HLN2.out
      rw [HLN2.out]
      clear HL12
      go_wp2_with fail
      go_loopw [166] (fun v wr => ∃ t : Nat, t ≤ 12 ∧ v = .int .i64 t ∧ Kept [] w20 wr) (fun v _ => 12 - (intOf v).toNat)
      case atStart => exact ⟨0, Nat.zero_le _, rfl, Kept.refl _ _⟩
      case round =>
        obtain ⟨t, ht, rfl, hkt⟩ := hrel
        by_cases hlt2 : t < 12
        · obtain ⟨x1, hx1e, hx1⟩ := R1b.out.get (by have := HLN2.out; omega)
          cases hx1e
          obtain ⟨x2, rfl, hx2⟩ := R2.out.get (by have := HLN2.out; omega)
          have d1 := hx1 wr hkt t (by have := HLN2.out; omega)
          (try rw [Addr.add_lit, Nat.zero_add] at d1)
          have d2 := hx2 wr hkt t (by have := HLN2.out; omega)
          have l1 := cell_lt d1
          have l2 := cell_lt d2
          generalize L[t]?.getD 0 = y at d1 d2
          have q3 : (0 : Int) ≤ (t : Int) := by omega
          have q4 : (t : Int) < 12 := by omega
          clear hx1 hx2
          go_wp2_with fail
          go_quiet (fail)
          go_wp2_with fail
          go_roundw
          case rel => exact ⟨t + 1, by omega, by go_num, hkt.drewN _⟩
          case measure => simp [intOf]; omega
        · obtain rfl : t = 12 := by omega
          go_wp2_with fail
          go_ret
          exact ⟨rfl, Kept.below (K20.out.trans0 hkt)⟩
set_option maxRecDepth 100000 in
set_option maxHeartbeats 1000000 in
theorem walk_great (c n : Int) (a0 : Option Addr) (l cap0 : Nat) (W : World) (h : 300 < l) :
    Calls Try.prog 9 #[.int .i64 c, .int .u64 n, .slice a0 l cap0] W fun e W' => e = .returned (.bool true) ∧ Below W.heap.size W W' := by
  have q : (300 : Int) < (l : Int) := by omega
  go_enter Try.func9, Try.ntmps9
  go_wp2_with fail
  (with_reducible refine (alive_any _).mono ?_)
  rintro e w1 ⟨rfl, hb1⟩
  have hs1 := hb1.size
  (try simp only [World.size_alloc, World.size_setCell, World.size_drew, size_drewN] at hs1)
  go_wp2_with fail
  go_ret
  exact ⟨rfl, Kept.below hb1⟩
theorem walk (c n : Int) (a0 : Option Addr) (len0 cap0 : Nat) (z0 : List Int) (W : World) (w0 : (Lit.int .i64 c).wf = true) (w1 : (Lit.int .u64 n).wf = true) (w2 : IsRow .i64 W a0 len0 cap0 z0) :
    Calls Try.prog 9 #[.int .i64 c, .int .u64 n, .slice a0 len0 cap0] W fun e W' => e = .returned (.bool true) ∧ Below W.heap.size W W' := by
  have b1 := bounds_u64 w1
  obtain ⟨zs, hl, hr, _, hwf, hlc, hcm⟩ := w2.seen
  subst hl
  by_cases h300 : 300 < zs.length
  · exact walk_great c n a0 _ cap0 W h300
  · by_cases hc : 0 ≤ c ∧ c < 12
    · obtain ⟨k, rfl⟩ : ∃ k : Nat, c = (k : Int) := ⟨c.toNat, by omega⟩
      by_cases hn : n ≤ 1024
      · obtain ⟨m, hm, h1, h2⟩ := cls_ex n hn
        by_cases h0 : 0 < zs.length
        · exact walk_cnl k (by omega) n m b1.1 hn hm h1 h2 a0 cap0 zs W hr (by omega) h0
        · have e : zs.length = 0 := by omega
          rw [e]
          exact walk_cnx k (by omega) n m b1.1 hn hm h1 h2 a0 cap0 zs W hr (by omega)
      · by_cases h0 : 0 < zs.length
        · exact walk_cxl k (by omega) n (by omega) a0 cap0 zs W hr (by omega) h0
        · have e : zs.length = 0 := by omega
          rw [e]
          exact walk_cxx k (by omega) n (by omega) a0 cap0 zs W hr (by omega)
    · by_cases hn : n ≤ 1024
      · obtain ⟨m, hm, h1, h2⟩ := cls_ex n hn
        by_cases h0 : 0 < zs.length
        · exact walk_xnl c (by omega) n m b1.1 hn hm h1 h2 a0 cap0 zs W hr (by omega) h0
        · have e : zs.length = 0 := by omega
          rw [e]
          exact walk_xnx c (by omega) n m b1.1 hn hm h1 h2 a0 cap0 zs W hr (by omega)
      · by_cases h0 : 0 < zs.length
        · exact walk_xxl c (by omega) n (by omega) a0 cap0 zs W hr (by omega) h0
        · have e : zs.length = 0 := by omega
          rw [e]
          exact walk_xxx c (by omega) n (by omega) a0 cap0 zs W hr (by omega)
theorem own : ownKnob Try.prog.godebug = none := by kernel_rfl
theorem laidOut : laidOutB Try.prog = true := by kernel_rfl
set_option maxRecDepth 100000 in
theorem lifted (os : Os) (started : os.Started) (H : Type) (enc : TypeId × Value → H) :
    ReturnsInHanded {} Try.checked os 9 .any (Rows.classTablesSpec.pre6 enc Try.prog Try.f9 Rows.classTablesRow.domain false) (Rows.classTablesSpec.post enc Try.prog Try.f9 false true false false) := by
  refine returnsInHanded_of_change (C := Try.checked) own started (by kernel_rfl) Try.func9
    (ChangeSpec.witness6 (enc := enc) (C := Try.checked) false ⟨#[], #[.int .i64 0, .int .u64 0, .slice none 0 0], []⟩ 8 (by kernel_rfl) (by kernel_rfl) (by kernel_rfl) (by kernel_rfl)) ?_
  intro W base args ds gs before hval0 hW hcnd _
  have hval : ∀ (j : Nat) t v, Try.f9.params[j]? = some t → args[j]? = some v → Value.okWide Try.prog W .any base t v := hval0
  have hW' := hW
  obtain ⟨p, q, hA0, hV, rfl, hfz, hnd⟩ := hW
  have hA : DataW.TrodAll enc Try.prog W 0 (fun _ => true) true Try.f9.params.toList args.toList ds p := hA0
  rw [Try.params9] at hA hval
  obtain ⟨v0, vs0, d0, ds0, p0, q0, hargs, rfl, rfl, h0, r0⟩ := trodAll_cons hA
  obtain ⟨v1, vs1, d1, ds1, p1, q1, rfl, rfl, rfl, h1, r1⟩ := trodAll_cons r0
  obtain ⟨v2, vs2, d2, ds2, p2, q2, rfl, rfl, rfl, h2, r2⟩ := trodAll_cons r1
  obtain ⟨rfl, rfl, rfl⟩ := trodAll_nil r2
  obtain rfl : args = #[v0, v1, v2] := by cases args; simp_all
  obtain ⟨rfl, rfl⟩ := trodVars_none hV
  have k2 := h2
  have lt2 : ∀ x ∈ p2, x.block < W.heap.size := by obtain ⟨m, hm⟩ := k2; exact DataW.trod_lt m _ _ _ hm
  obtain ⟨a0, rfl, rfl, rfl, w0⟩ := open_int Try.underlying3 (hval 0 3 v0 rfl rfl) h0
  obtain ⟨a1, rfl, rfl, rfl, w1⟩ := open_int Try.underlying22 (hval 1 22 v1 rfl rfl) h1
  obtain ⟨a2, len2, cap2, rfl⟩ := okWide_slice Try.underlying43 (hval 2 43 v2 rfl rfl)
  obtain ⟨z2, w2⟩ := isRow_of Try.underlying43 Try.underlying3 (by kernel_rfl) h2
  clear hA0 hval0
  refine (walk a0 a1 a2 len2 cap2 z2 W w0 w1 w2).mono fun e W' ⟨he, bel⟩ => ?_
  subst he
  exact ⟨_, rfl, _, _, _, [], _, [], hW', trodAll_mk1 (shut_bool Try.underlying4 _), (trodAll_cons_mk (shut_int Try.underlying3 w0) (trodAll_cons_mk (shut_int Try.underlying22 w1) (trodAll_cons_mk (Below.trod laidOut (by kernel_rfl) (of_decide_eq_true (by kernel_rfl)) k2 bel lt2) trodAll_mk0))), rfl, bel.frame _, fun h => by cases h⟩
theorem over : Rows.classTablesRow.holds Try.pinned (OpenSpec.ofChange Rows.classTablesSpec) :=
  OpenClaim.holds_of_wide 9 Try.f9 rfl rfl rfl rfl rfl rfl rfl ⟨rfl, rfl, rfl, rfl, rfl⟩ rfl rfl rfl rfl rfl (by kernel_rfl) Try.func9 (by kernel_rfl)
    (of_decide_eq_true (by kernel_rfl)) (by unfold Func.isWrapper; first | (rw [if_pos (by decide +kernel)]; kernel_rfl) | (rw [if_neg (by decide +kernel)]; exact ⟨rfl, rfl⟩))
    (fun os started H enc _ => lifted os started H enc)
theorem proved : Rows.ClassTablesSaid := over
#print axioms proved
end Go.Proofs.Ytfgmmehgmepegaa.ClassTables
