/- A copy has the bytes that were there, even if both overlap; the rest stays. No condition. -/
import Derived.Test.YtlcaddedfgndoaaMemH
import Derived.StillTailTactics
set_option linter.unusedVariables false
set_option linter.unusedSimpArgs false
namespace Go.Proofs.Ytlcaddedfgndoaa.MemCopies
open Go.RowKit Go.ChangeShapes Go.WideShapes Go.ChangeAt Go.Joins
theorem step_copy_kept {P : Program} {ops : Array Oper} {o : Oper} {a : Act} {w : World} {K : Act → World → Prop} {Q : Exit → Act → World → Prop} {E : Prop} (hgd : o.guard = none) (d s : Operand) (dT sT : TypeId)
    (ho : o.op = .call { callee := .builtin .copy, args := #[d, s], argTypes := #[dT, sT] }) (elem : TypeId) (hu : P.underlying dT = some (.slice elem)) (hsz : (P.info? elem).map (·.size) = some 1)
    (dp sp : Option Addr) (dLen dCap sLen sCap : Nat) (hd : a.eval d = .slice dp dLen dCap) (hs : a.eval s = .slice sp sLen sCap)
    (g off : Nat) (cur : List Value) (t : TypeId) (hg : Blk w g t cur.toArray) (cs : List Value) (hn : cs.length = Nat.min sLen dLen)
    (hpos : 0 < cs.length → dp = some ⟨g, off, none⟩ ∧ ∃ ad, sp = some ad ∧ ∀ j v, cs[j]? = some v → w.cell? (ad.add j) = some v)
    (hfit : off + cs.length ≤ cur.length) (h1 : ∀ v ∈ cs, v.oneCell' = true)
    (h : ∀ w', Hid (Blk w' g t (splice cur off cs).toArray) → Kept [g] w w' → K (a.put o.dst (goInt cs.length)) w') :
    if Region.wanted o (yielded ops a.tmps) = true then Oper.wp P o a w K Q else E := by
  have hw : Region.wanted o (yielded ops a.tmps) = true := by simp [Region.wanted, hgd]
  rw [if_pos hw]
  by_cases h0 : cs.length = 0
  · obtain rfl : cs = [] := List.eq_nil_of_length_eq_zero h0
    have hrun := run_copy_none (P := P) w dT sT o.type elem dp sp dLen dCap sLen sCap hu hsz (by simpa using hn.symm)
    unfold Oper.wp
    simp [execOp, ho, resolve, invoke, builtin, hd, hs, hrun, Result.andThen]
    exact h w (show _ = _ by simpa [splice, Blk] using hg) (Kept.refl _ _)
  · obtain ⟨rfl, ad, rfl, hsrc⟩ := hpos (by omega)
    have hrun := run_copy_row (P := P) w dT sT o.type elem g off dLen dCap ad sLen sCap cur.toArray t cs hu hsz hg hn hsrc (by simpa using hfit) h1
    unfold Oper.wp
    simp [execOp, ho, resolve, invoke, builtin, hd, hs, hrun, Result.andThen]
    exact h _ (show _ = _ by simpa [splice] using setRow_heap w g _ _ t _ hg) (kept_setRow _ _ _)
theorem blk_splice {w : World} {g : Nat} {z : List Int} {a : Nat} {ys : List Int} (h : Blk w g 5 (splice (z.map (Value.int .u8)) a (ys.map (Value.int .u8))).toArray) : Blk w g 5 (cellsOf (splice z a ys)) := by
  unfold cellsOf; rw [map_splice]; exact h
theorem made (n : Nat) (h : n ≤ 100000) : ∀ w : World, (Instr.makeSlice 22 (.int .i64 (n : Int)) (.int .i64 (n : Int))).run Try.prog w = .ok (.slice (some ⟨w.heap.size, 0, none⟩) n n) (w.alloc (.cells (cellsOf (zeros n)) 5)) := by
  intro w
  obtain ⟨i0, hi, hz0, hz1, hz2⟩ := info_parts info_u8
  have := run_make (P := Try.prog) w 22 5 i0 (.int .u8 0) Try.underlying22 hi hz0 .i64 .i64 n n (by omega) (Int.le_refl _) (by rw [hz2]; omega) (by omega)
  simp only [Int.toNat_natCast, hz1, made_zeros] at this
  exact this
/-- The bytes that are got, and those that are wanted. -/
theorem got_want (zs a1 : List Int) (t f n : Nat) (hz : zs.length = 1024) (ha : a1.length = 600) (ht : t + n ≤ 600) (hf : f + n ≤ 600) :
    ((splice (splice zs 0 a1) t (((splice zs 0 a1).drop f).take n)).drop 0).take 600 = splice a1 t ((a1.drop f).take n) := by
  have hl : (splice zs 0 a1).length = 1024 := by rw [length_splice _ _ _ (by omega)]; exact hz
  have hg : ∀ i, i < 600 → (splice zs 0 a1)[i]? = a1[i]? := by
    intro i hi
    rw [splice_get _ _ _ (by omega), if_neg (by omega), if_pos (by omega)]
    rfl
  have e : ((splice zs 0 a1).drop f).take n = (a1.drop f).take n := by
    apply List.ext_getElem?
    intro i
    by_cases hi : i < n
    · rw [List.getElem?_take_of_lt hi, List.getElem?_take_of_lt hi, List.getElem?_drop, List.getElem?_drop, hg _ (by omega)]
    · rw [List.getElem?_eq_none (by rw [List.length_take]; omega), List.getElem?_eq_none (by rw [List.length_take]; omega)]
  rw [e]
  have hc : ((a1.drop f).take n).length = n := by simp; omega
  apply List.ext_getElem?
  intro i
  by_cases hi : i < 600
  · rw [List.getElem?_take_of_lt hi, List.getElem?_drop, Nat.zero_add, splice_get (splice zs 0 a1) _ _ (by omega), splice_get a1 _ _ (by omega), hg i hi]
  · have h2 : (splice a1 t ((a1.drop f).take n)).length = 600 := by rw [length_splice _ _ _ (by omega)]; exact ha
    rw [List.getElem?_eq_none (by rw [List.length_take]; omega), List.getElem?_eq_none (by omega)]
theorem own_blk {B : Nat} {w : World} {A : Option Addr} {c : Nat} {zs : List Int} (h : OwnI B .u8 5 w (.slice A zs.length c) zs) (h0 : 0 < zs.length) :
    ∃ (g : Nat) (cur : List Value), A = some ⟨g, 0, none⟩ ∧ B ≤ g ∧ zs.length ≤ c ∧ Blk w g 5 cur.toArray ∧ cur.take zs.length = zs.map (Value.int .u8) ∧ zs.length ≤ cur.length := by
  rcases h.2 with ⟨h1, h2⟩ | ⟨g, cap, cur, h1, hb, hg, hn, hm, hs, ht⟩
  · omega
  · injection h1 with hA _ hc
    refine ⟨g, cur.toList, hA, hb, by omega, hg, by simpa using ht, ?_⟩
    have := congrArg List.length ht
    simp at this
    simp
    omega
theorem want_row {w : World} {g : Nat} {cur : List Value} {a1 : List Int} {t : Nat} {ys : List Int} (h : Blk w g 5 (splice cur t (ys.map (Value.int .u8))).toArray) (ht : cur.take a1.length = a1.map (Value.int .u8)) (hf : t + ys.length ≤ a1.length) (hl : a1.length ≤ cur.length) :
    RowX .u8 w (some ⟨g, 0, none⟩) (splice a1 t ys) := by
  refine RowX.of_blk h (fun i hi => ?_)
  have hls : (splice a1 t ys).length = a1.length := length_splice _ _ _ hf
  have e : (splice cur t (ys.map (Value.int .u8)))[i]? = ((splice a1 t ys).map (Value.int .u8))[i]? := by
    rw [map_splice, splice_get _ _ _ (by simp; omega), splice_get _ _ _ (by simp; omega)]
    have hc : cur[i]? = (a1.map (Value.int .u8))[i]? := by rw [← ht, List.getElem?_take_of_lt (by omega)]
    rw [hc]
  rw [List.getElem?_toArray, e, List.getElem?_map, List.getElem?_eq_getElem hi]
  rfl
set_option maxRecDepth 100000 in
set_option maxHeartbeats 2000000 in
theorem walk1 (a0_0 : Option Addr) (len0_0 cap0_0 : Nat) (ys : List Int) (t f n : Nat) (W : World) (hl : ys.length = len0_0) (hr : RowX .u8 W a0_0 ys) (hu : U8s ys) (hlc : len0_0 ≤ 9223372036854775807) (ht : t ≤ 255) (hf : f ≤ 255) (hn : n ≤ 255) :
    Calls Try.prog 4 #[.agg #[.slice a0_0 len0_0 cap0_0, .int .u8 t, .int .u8 f, .int .u8 n]] W fun e W' => e = .returned (.bool true) ∧ Below W.heap.size W W' := by
  subst hl
  have HR := Lib.hid hr
  clear hr
  obtain ⟨z0, hz0⟩ : ∃ z0, zeros 600 = z0 := ⟨_, rfl⟩
  have hl0 : Hid (z0.length = 600) := Lib.hid (by rw [← hz0]; exact length_zeros _)
  have hu0 : U8s z0 := by rw [← hz0]; exact U8s.zeros _
  have hmk : ∀ w : World, (Instr.makeSlice 22 (.int .i64 600) (.int .i64 600)).run Try.prog w = .ok (.slice (some ⟨w.heap.size, 0, none⟩) 600 600) (w.alloc (.cells (cellsOf z0) 5)) := by
    rw [← hz0]; exact made 600 (by omega)
  clear hz0
  obtain ⟨zs, hzs⟩ : ∃ zs, zeros 1024 = zs := ⟨_, rfl⟩
  have hl : Hid (zs.length = 1024) := Lib.hid (by rw [← hzs]; exact length_zeros _)
  have C1 : Hid (∀ w : World, Calls Try.prog 10 #[.int .u64 1024] w fun e w' => e = .returned (.tuple #[.pointer (some ⟨w.heap.size + 1, 0, none⟩), .int .i64 0]) ∧ MemB w' (w.heap.size + 1) w.heap.size zs ∧ Kept [] w w') := Lib.hid (by
    intro w; have := new_any w 1024 (by omega) (by omega) (by omega); rw [hzs] at this; exact this)
  clear hzs
  obtain ⟨xs, hxs⟩ : ∃ xs, ys.take 600 = xs := ⟨_, rfl⟩
  have hxl : xs.length = min ys.length 600 := by rw [← hxs, List.length_take]; omega
  have HXL := Lib.hid hxl
  have hux : U8s xs := by rw [← hxs]; exact hu.take 600
  obtain ⟨a1, ha1⟩ : ∃ a1, splice z0 0 xs = a1 := ⟨_, rfl⟩
  have hla : Hid (a1.length = 600) := Lib.hid (by rw [← ha1, length_splice _ _ _ (by have := hl0.out; omega)]; exact hl0.out)
  have hua : U8s a1 := by rw [← ha1]; exact hu0.splice hux 0
  obtain ⟨z1, hz1⟩ : ∃ z1, splice zs 0 a1 = z1 := ⟨_, rfl⟩
  have hl1 : Hid (z1.length = 1024) := Lib.hid (by rw [← hz1, length_splice _ _ _ (by have := hl.out; have := hla.out; omega)]; exact hl.out)
  obtain ⟨z2, hz2⟩ : ∃ z2, splice z1 t ((z1.drop f).take n) = z2 := ⟨_, rfl⟩
  have hl2 : Hid (z2.length = 1024) := Lib.hid (by rw [← hz2, length_splice _ _ _ (by have := hl1.out; simp; omega)]; exact hl1.out)
  obtain ⟨ws, hws⟩ : ∃ ws, splice a1 t ((a1.drop f).take n) = ws := ⟨_, rfl⟩
  have hcl : ((a1.drop f).take n).length = n := piece_len a1 f n (by have := hla.out; omega)
  have hlw : Hid (ws.length = 600) := Lib.hid (by rw [← hws, length_splice _ _ _ (by have := hla.out; omega)]; exact hla.out)
  have C2 : Hid (∀ (w : World) p g b, MemB w p g zs → Blk w b 5 (cellsOf a1) → Calls Try.prog 14 #[.pointer (some ⟨p, 0, none⟩), .int .u64 0, .slice (some ⟨b, 0, none⟩) 600 600] w fun e w' => e = .returned (.int .i64 0) ∧ MemB w' p g z1 ∧ Kept [g] w w') := Lib.hid (by
    intro w p g b h hB
    rw [← hz1]
    exact put_in w p g _ h 0 (some ⟨b, 0, none⟩) 600 600 a1 hla.out.symm (RowX.of_blk hB (fun i hi => cellsOf_lt hi)) hua (by have := hl.out; have := hla.out; omega))
  have C3 : Hid (∀ (w : World) p g, MemB w p g z1 → Calls Try.prog 15 #[.pointer (some ⟨p, 0, none⟩), .int .u64 t, .int .u64 f, .int .u64 n] w fun e w' => e = .returned (.int .i64 0) ∧ MemB w' p g z2 ∧ Kept [g] w w') := Lib.hid (by
    intro w p g h
    rw [← hz2]
    exact copy_in w p g _ h t f n (by have := hl1.out; omega) (by have := hl1.out; omega))
  have C4 : Hid (∀ (w : World) p g, MemB w p g z2 → Calls Try.prog 12 #[.pointer (some ⟨p, 0, none⟩), .int .u64 0, .int .u64 600] w (GetAt w 600 ws)) := Lib.hid (by
    intro w p g h
    exact get_at w p g z2 h 0 600 ws (by have := hl2.out; omega) (by rw [← hz2, ← hz1, ← hws]; exact got_want zs a1 t f n hl.out hla.out (by omega) (by omega)))
  clear hz1 hz2 hxl
  have HX := Lib.hid hxs
  have HA := Lib.hid ha1
  have HW := Lib.hid hws
  clear hxs ha1 hws
  go_enter Try.func4, Try.ntmps4
  go_wp2_with fail
  (with_reducible refine (alive_any _).mono ?_)
  rintro e w1 ⟨rfl, hb1⟩
  have hs1 := hb1.size
  (try simp only [World.size_alloc, World.size_setCell, World.size_drew, size_drewN] at hs1)
  have B0 : Blk w1 W.heap.size 35 #[.slice a0_0 ys.length cap0_0, .int .u8 t, .int .u8 f, .int .u8 n] := by ((with_reducible apply Blk.cast); (case h => (repeat' (first | (with_reducible assumption) | ((with_reducible apply Blk.keep0); (case hk => (with_reducible assumption))) | (with_reducible exact Blk.new _ _ _) | ((with_reducible apply Blk.new'); (case h => (first | (with_reducible rfl) | (simp only [World.size_alloc, World.size_setCell, World.size_drew, size_drewN]; done)))) | (with_reducible apply Blk.alloc) | (with_reducible apply Blk.set_) | ((with_reducible apply Blk.far); (case hp => (simp only []; omega))) | (with_reducible apply Blk.drew) | (with_reducible apply Blk.drewN)))); (case e => rfl))
  have B0_c := B0.cell
  have B0_f := B0.frozen
  have B0_z := B0.lt
  go_wp2_with fail
  go_quiet (fail)
  go_wp2_with fail
  (with_reducible refine (C1.out _).mono ?_)
  rintro e w2 ⟨rfl, hM2, hb2⟩
  have hs2 := hb2.size
  (try simp only [World.size_alloc, World.size_setCell, World.size_drew, size_drewN] at hs2)
  have M2 := Lib.hid hM2
  have hg2 := hM2.2.1.lt
  clear hM2
  (try simp only [size_drewN, World.size_drew] at M2 hg2)
  go_wp2_with (refine copy_kept rfl (.tmp 28) (.tmp 29) 22 22 rfl 5 Try.underlying22 size_u8 (some ⟨w2.heap.size, 0, none⟩) a0_0 _ _ _ _ rfl rfl w2.heap.size 0 (z0.map (Value.int .u8)) 5 (Blk.new w2 _ _) (xs.map (Value.int .u8)) (by rw [List.length_map]; exact HXL.out) (fun h0 => ?hpos) (by rw [List.length_map, List.length_map]; have := HXL.out; have := hl0.out; omega) (one_vals xs) ?_)
  case hpos =>
    have h0' : 0 < xs.length := by simpa using h0
    have h1' : 0 < ys.length := by have := HXL.out; omega
    have KA : Kept [] W (w2.alloc (.cells (cellsOf z0) 5)) := by (repeat' (first | (with_reducible exact Kept.refl _ _) | (with_reducible assumption) | (with_reducible refine Kept.then_ (by with_reducible assumption) ?_) | (with_reducible refine Kept.thenS (by with_reducible assumption) ?_) | (with_reducible refine Kept.alloc ?_ _) | (with_reducible refine Kept.drew ?_) | (with_reducible refine Kept.drewN ?_ _) | (with_reducible refine Kept.setNew ?_ ?_ _) | ((try simp only [World.size_alloc, World.size_setCell, World.size_drew, size_drewN] at *); (try dsimp only); omega)))
    obtain ⟨ad, hA, hv⟩ : ∃ ad, a0_0 = some ad ∧ ∀ j v, (xs.map (Value.int .u8))[j]? = some v → (w2.alloc (.cells (cellsOf z0) 5)).cell? (ad.add j) = some v := by
      have hrow := HR.out.keep KA
      obtain ⟨ad, hA⟩ := row_some hrow h1'
      rw [hA] at hrow
      refine ⟨ad, hA, fun j v hj => row_vals hrow j v ?_⟩
      rw [← HX.out, List.map_take] at hj
      have hjl : j < 600 := by
        rcases Nat.lt_or_ge j 600 with h | h
        · exact h
        · rw [List.getElem?_eq_none (by rw [List.length_take]; omega)] at hj; cases hj
      rwa [List.getElem?_take_of_lt hjl] at hj
    exact ⟨ad, hA, fun j v hj => hv j _ (by rw [List.getElem?_map, hj]; rfl)⟩
  intro w3 hB3 hb3
  have B3 : Blk w3 w2.heap.size 5 (cellsOf a1) := by rw [← HA.out]; exact blk_splice hB3.out
  have hs3 := hb3.size
  simp only [World.size_alloc] at hs3
  clear hB3
  have K3 : Hid (Kept [] W w3) := Lib.hid (by (repeat' (first | (with_reducible exact Kept.refl _ _) | (with_reducible assumption) | (with_reducible refine Kept.then_ (by with_reducible assumption) ?_) | (with_reducible refine Kept.thenS (by with_reducible assumption) ?_) | (with_reducible refine Kept.thenG (by with_reducible assumption) ?_ ?_) | (with_reducible refine Kept.alloc ?_ _) | (with_reducible refine Kept.drew ?_) | (with_reducible refine Kept.drewN ?_ _) | (with_reducible refine Kept.setNew ?_ ?_ _) | ((try simp only [World.size_alloc, World.size_setCell, World.size_drew, size_drewN] at *); (try dsimp only); omega))))
  have hp2 := M2.out.1.lt
  (try simp only [size_drewN, World.size_drew] at hp2)
  have M3 := Lib.hid ((M2.out.keep0 ((Kept.refl [] w2).alloc (.cells (cellsOf z0) 5))).keep hb3 (by simp; omega) (by simp; omega))
  clear M2
  go_wp2_with fail
  (with_reducible refine (C2.out _ _ _ _ M3.out B3).mono ?_)
  rintro e w4 ⟨rfl, hM4, hb4⟩
  have hs4 := hb4.size
  (try simp only [World.size_alloc, World.size_setCell, World.size_drew, size_drewN] at hs4)
  have M4 := Lib.hid hM4
  have hg4 := hM4.2.1.lt
  clear hM4
  (try simp only [size_drewN, World.size_drew] at M4 hg4)
  have B4 := Lib.hid (B3.keep hb4 (by simp; omega))
  go_wp2_with fail
  (with_reducible refine (C3.out _ _ _ M4.out).mono ?_)
  rintro e w5 ⟨rfl, hM5, hb5⟩
  have hs5 := hb5.size
  (try simp only [World.size_alloc, World.size_setCell, World.size_drew, size_drewN] at hs5)
  have M5 := Lib.hid hM5
  have hg5 := hM5.2.1.lt
  clear hM5
  (try simp only [size_drewN, World.size_drew] at M5 hg5)
  have B5 := Lib.hid (B4.out.keep hb5 (by simp; omega))
  clear M4 M3 B4 B3
  go_wp2_with fail
  (with_reducible refine (C4.out _ _ _ M5.out).mono ?_)
  rintro e w6 ⟨A6, c6, rfl, hO6, hb6⟩
  have hs6 := hb6.size
  (try simp only [World.size_alloc, World.size_setCell, World.size_drew, size_drewN] at hs6)
  have O6 := Lib.hid hO6
  clear hO6
  (try simp only [size_drewN, World.size_drew] at O6)
  have B6 := Lib.hid (B5.out.keep0 hb6)
  clear M5 B5
  have K6 : Hid (Kept [] W w6) := Lib.hid ((hb5.thenG (hb4.thenG K3.out (by omega)) (by omega)).trans0 hb6)
  go_wp2_with (refine app_gen .u8 22 5 1 Try.underlying22 info_u8 (by omega) rfl (.tmp 55) (.tmp 56) rfl w6 w6.heap.size _ [] a1 rfl (OwnI.made _ (Nat.le_refl _)) (some ⟨w2.heap.size, 0, none⟩) _ _ hla.out.symm rfl (fun h => by cases h) (RowX.of_blk (B6.out.alloc _) (fun i hi => cellsOf_lt hi)) (by (repeat' (first | (with_reducible exact Kept.refl _ _) | (with_reducible assumption) | (with_reducible refine Kept.then_ (by with_reducible assumption) ?_) | (with_reducible refine Kept.thenS (by with_reducible assumption) ?_) | (with_reducible refine Kept.alloc ?_ _) | (with_reducible refine Kept.drew ?_) | (with_reducible refine Kept.drewN ?_ _) | (with_reducible refine Kept.setNew ?_ ?_ _) | ((try simp only [World.size_alloc, World.size_setCell, World.size_drew, size_drewN] at *); (try dsimp only); omega)))) (Nat.le_refl _) (by simp) (by have := hla.out; simp; omega) ?_)
  intro A7 n7 c7 w7 hn7 hO7 hO7' hb7 hg7 hs7 hc7 hr7
  try simp only [List.nil_append] at hn7 hO7 hr7
  clear hO7' hg7 hr7
  have hn7' : n7 = a1.length := hn7.out
  subst hn7'
  obtain ⟨gw, cur, hA7, hBg, hcc, hBw, htk, hcl2⟩ := own_blk hO7 (by have := hla.out; omega)
  subst hA7
  rw [hla.out] at hcc hcl2 ⊢
  have HBW := Lib.hid hBw
  have HTK := Lib.hid htk
  have B7 := Lib.hid (B6.out.keep0 hb7)
  have HCL := Lib.hid hcl
  clear hO7 hBw htk hcl B6
  go_wp2_with fail
  have hnn : Hid ((((a1.drop f).take n).map (Value.int .u8)).length = Nat.min n (600 - t)) := Lib.hid (by
    rw [List.length_map, HCL.out]
    show n = min n (600 - t)
    omega)
  have hpp : Hid (0 < (((a1.drop f).take n).map (Value.int .u8)).length → (some ⟨gw, t, none⟩ : Option Addr) = some ⟨gw, t, none⟩ ∧ ∃ ad, (some ⟨w2.heap.size, f, none⟩ : Option Addr) = some ad ∧ ∀ j v, (((a1.drop f).take n).map (Value.int .u8))[j]? = some v → w7.drew.cell? (ad.add j) = some v) := Lib.hid (fun _ => ⟨rfl, _, rfl, fun j v hj => by
    have hjl : j < n := by
      rcases Nat.lt_or_ge j n with h | h
      · exact h
      · rw [List.getElem?_eq_none (by rw [List.length_map, HCL.out]; omega)] at hj; cases hj
    rw [List.getElem?_map, List.getElem?_take_of_lt hjl, List.getElem?_drop, ← cellsOf_get] at hj
    rw [Addr.add_lit]
    exact (B7.out.drew.cell (f + j)).trans hj⟩)
  have hff : Hid (t + (((a1.drop f).take n).map (Value.int .u8)).length ≤ cur.length) := Lib.hid (by rw [List.length_map, HCL.out]; omega)
  have hbw : Hid (Blk w7.drew gw 5 cur.toArray) := Lib.hid HBW.out.drew
  have hov := Lib.hid (one_vals ((a1.drop f).take n))
  generalize hcs : ((a1.drop f).take n).map (Value.int .u8) = cs at hnn hpp hff hov
  have HCS := Lib.hid hcs
  clear hcs
  have q1 : (t : Int) ≤ 600 := by omega
  have q2 : ¬ c7 = t := by omega
  have q3 : (f : Int) + (n : Int) ≤ 600 := by omega
  have q4 : ¬ 600 = f := by omega
  have q12 : max ((f : Int) + (n : Int)) 0 = (f : Int) + (n : Int) := by omega
  have q6 : ((f : Int) + (n : Int)).toNat = f + n := by omega
  have q7 : f + n - f = n := by omega
  have q8 : (f : Int) ≤ (f : Int) + (n : Int) := by omega
  have q9 : 0 ≤ (f : Int) + (n : Int) := by omega
  have q10 : IntKind.i64.wrap (f : Int) = (f : Int) := IntWalk.i64_in _ (by omega)
  have q11 : IntKind.i64.wrap (n : Int) = (n : Int) := IntWalk.i64_in _ (by omega)
  have q5 : IntKind.i64.wrap ((f : Int) + (n : Int)) = (f : Int) + (n : Int) := IntWalk.i64_in _ (by omega)
  go_still_tail 12, (by kernel_rfl)
  refine copy_kept rfl (.tmp 60) (.tmp 69) 22 22 rfl 5 Try.underlying22 size_u8 (some ⟨gw, t, none⟩) (some ⟨w2.heap.size, f, none⟩) (600 - t) (c7 - t) n (600 - f) rfl rfl gw t cur 5 hbw.out cs hnn.out hpp.out hff.out hov.out ?_
  intro w8 hB8 hb8
  have hw8 : RowX .u8 w8 (some ⟨gw, 0, none⟩) ws := by
    have h := hB8.out
    rw [← HCS.out] at h
    rw [← HW.out]
    exact want_row h HTK.out (by rw [HCL.out, hla.out]; omega) (by rw [hla.out]; exact hcl2)
  have HW8 := Lib.hid hw8
  have O8 := Lib.hid (O6.out.kept (hb8.thenG (hb7.drew) hBg))
  have K8 : Hid (Kept [] W w8) := Lib.hid (hb8.thenG ((K6.out.trans0 hb7).drew) (by omega))
  clear hw8 hB8 q5 q6 q7 q10 q11 q12
  go_wp2_with fail
  (with_reducible refine (same_eq _ _ _ _ _ _ _ ws hlw.out.symm O8.out.row hlw.out.symm HW8.out).mono ?_)
  rintro e w' ⟨rfl, rfl⟩
  go_wp2_with fail
  go_ret
  exact ⟨rfl, K8.out.below⟩
theorem walk (a0_0 : Option Addr) (len0_0 cap0_0 : Nat) (z0_0 : List Int) (a0_1 a0_2 a0_3 : Int) (W : World) (w0_0 : IsRow .u8 W a0_0 len0_0 cap0_0 z0_0) (w0_1 : (Lit.int .u8 a0_1).wf = true) (w0_2 : (Lit.int .u8 a0_2).wf = true) (w0_3 : (Lit.int .u8 a0_3).wf = true) :
    Calls Try.prog 4 #[.agg #[.slice a0_0 len0_0 cap0_0, .int .u8 a0_1, .int .u8 a0_2, .int .u8 a0_3]] W fun e W' => e = .returned (.bool true) ∧ Below W.heap.size W W' := by
  have b1 := bounds_u8 w0_1
  have b2 := bounds_u8 w0_2
  have b3 := bounds_u8 w0_3
  obtain ⟨ys, hl, hr, hcap, hwf, hlc, hcm⟩ := w0_0.seen
  unfold maxLen at hcm
  obtain ⟨t, rfl⟩ := Int.eq_ofNat_of_zero_le b1.1
  obtain ⟨f, rfl⟩ := Int.eq_ofNat_of_zero_le b2.1
  obtain ⟨n, rfl⟩ := Int.eq_ofNat_of_zero_le b3.1
  exact walk1 a0_0 len0_0 cap0_0 ys t f n W hl hr (u8s_of hwf) (by omega) (by omega) (by omega) (by omega)
theorem own : ownKnob Try.prog.godebug = none := by kernel_rfl
theorem laidOut : laidOutB Try.prog = true := by kernel_rfl
set_option maxRecDepth 100000 in
theorem lifted (os : Os) (started : os.Started) (H : Type) (enc : TypeId × Value → H) :
    ReturnsInHanded {} Try.checked os 4 .any (Rows.memCopiesSpec.pre6 enc Try.prog Try.f4 Rows.memCopiesRow.domain false) (Rows.memCopiesSpec.post enc Try.prog Try.f4 false true false false) := by
  refine returnsInHanded_of_change (C := Try.checked) own started (by kernel_rfl) Try.func4
    (ChangeSpec.witness6 (enc := enc) (C := Try.checked) false ⟨#[], #[.agg #[.slice none 0 0, .int .u8 0, .int .u8 0, .int .u8 0]], []⟩ 8 (by kernel_rfl) (by kernel_rfl) (by kernel_rfl) (by kernel_rfl)) ?_
  intro W base args ds gs before hval0 hW hcnd _
  have hval : ∀ (j : Nat) t v, Try.f4.params[j]? = some t → args[j]? = some v → Value.okWide Try.prog W .any base t v := hval0
  have hW' := hW
  obtain ⟨p, q, hA0, hV, rfl, hfz, hnd⟩ := hW
  have hA : DataW.TrodAll enc Try.prog W 0 (fun _ => true) true Try.f4.params.toList args.toList ds p := hA0
  rw [Try.params4] at hA hval
  obtain ⟨v0, vs0, d0, ds0, p0, q0, hargs, rfl, rfl, h0, r0⟩ := trodAll_cons hA
  obtain ⟨rfl, rfl, rfl⟩ := trodAll_nil r0
  obtain rfl : args = #[v0] := by cases args; simp_all
  obtain ⟨rfl, rfl⟩ := trodVars_none hV
  have k0 := h0
  have lt0 : ∀ x ∈ p0, x.block < W.heap.size := by obtain ⟨m, hm⟩ := k0; exact DataW.trod_lt m _ _ _ hm
  obtain ⟨c0_0, c0_1, c0_2, c0_3, y0_0, y0_1, y0_2, y0_3, n0, rfl, rfl, rfl, t0_0, t0_1, t0_2, t0_3⟩ := open_agg4 Try.underlying35 (by kernel_rfl) (by kernel_rfl) (hval 0 35 v0 rfl rfl) h0
  obtain ⟨a0_0, len0_0, cap0_0, z0_0, e0_0, w0_0⟩ := isRow_trod Try.underlying22 Try.underlying5 (by kernel_rfl) t0_0
  simp only [List.cons.injEq, and_true] at e0_0
  subst e0_0
  obtain ⟨a0_1, e0_1, _, w0_1⟩ := DataW.trod_int Try.underlying5 t0_1
  simp only [List.cons.injEq, and_true] at e0_1
  subst e0_1
  obtain ⟨a0_2, e0_2, _, w0_2⟩ := DataW.trod_int Try.underlying5 t0_2
  simp only [List.cons.injEq, and_true] at e0_2
  subst e0_2
  obtain ⟨a0_3, e0_3, _, w0_3⟩ := DataW.trod_int Try.underlying5 t0_3
  simp only [List.cons.injEq, and_true] at e0_3
  subst e0_3
  clear hA0 hval0
  refine (walk a0_0 len0_0 cap0_0 z0_0 a0_1 a0_2 a0_3 W w0_0 w0_1 w0_2 w0_3).mono fun e W' ⟨he, bel⟩ => ?_
  subst he
  exact ⟨_, rfl, _, _, _, [], _, [], hW', trodAll_mk1 (shut_bool Try.underlying4 _), (trodAll_cons_mk (Below.trod laidOut (by kernel_rfl) (of_decide_eq_true (by kernel_rfl)) k0 bel lt0) trodAll_mk0), rfl, bel.frame _, fun h => by cases h⟩
theorem over : Rows.memCopiesRow.holds Try.pinned (OpenSpec.ofChange Rows.memCopiesSpec) :=
  OpenClaim.holds_of_wide 4 Try.f4 rfl rfl rfl rfl rfl rfl rfl ⟨rfl, rfl, rfl, rfl, rfl⟩ rfl rfl rfl rfl rfl (by kernel_rfl) Try.func4 (by kernel_rfl)
    (of_decide_eq_true (by kernel_rfl)) (by unfold Func.isWrapper; first | (rw [if_pos (by decide +kernel)]; kernel_rfl) | (rw [if_neg (by decide +kernel)]; exact ⟨rfl, rfl⟩))
    (fun os started H enc _ => lifted os started H enc)
theorem proved : Rows.MemCopiesSaid := over
#print axioms proved
end Go.Proofs.Ytlcaddedfgndoaa.MemCopies
