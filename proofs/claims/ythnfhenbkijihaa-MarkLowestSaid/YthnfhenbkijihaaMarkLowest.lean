/- Without the document's answer: what is taken was free, and no lower row was; what is refused as full has no such row. No condition. -/
import Derived.Test.YthnfhenbkijihaaMarkLow
set_option linter.unusedVariables false
set_option linter.unusedSimpArgs false
namespace Go.Proofs.Ythnfhenbkijihaa.MarkLowest
open Go.RowKit Go.ChangeShapes Go.WideShapes Go.ChangeAt Go.Joins
/-- The lowest free row at n or above. -/
def LowIs (bs : List Bool) (k n : Nat) (wv : Int) : Prop := (wv = -1 ∧ ∀ b, n ≤ b → b < 64 → ¬ FreeAt bs b k) ∨ ∃ b : Nat, wv = (b : Int) ∧ n ≤ b ∧ b < 64 ∧ FreeAt bs b k ∧ ∀ c, n ≤ c → c < b → ¬ FreeAt bs c k
theorem low_end (bs : List Bool) (k : Nat) : LowIs bs k 64 (-1) := .inl ⟨rfl, fun b h1 h2 => by omega⟩
theorem low_yes {bs : List Bool} {k n : Nat} (hn : n < 64) (h : FreeAt bs n k) : LowIs bs k n (n : Int) := .inr ⟨n, rfl, Nat.le_refl _, hn, h, fun c h1 h2 => by omega⟩
theorem low_no {bs : List Bool} {k n : Nat} {wv : Int} (h : ¬ FreeAt bs n k) (hl : LowIs bs k (n + 1) wv) : LowIs bs k n wv := by
  rcases hl with ⟨h1, h2⟩ | ⟨b, h1, h2, h3, h4, h5⟩
  · refine .inl ⟨h1, fun b hb hb2 => ?_⟩
    rcases Nat.lt_or_ge n b with h3 | h3
    · exact h2 b h3 hb2
    · rw [show b = n by omega]; exact h
  · refine .inr ⟨b, h1, by omega, h3, h4, fun c hc hc2 => ?_⟩
    rcases Nat.lt_or_ge n c with h6 | h6
    · exact h5 c h6 hc2
    · rw [show c = n by omega]; exact h
theorem low_lo {bs : List Bool} {k n : Nat} {wv : Int} (hl : LowIs bs k n wv) : -1 ≤ wv ∧ wv < 64 := by
  rcases hl with ⟨h1, _⟩ | ⟨b, h1, h2, h3, _⟩ <;> omega
/-- The box of the memory of places. -/
def BoxM (w : World) (b p : Nat) : Prop := Blk w b 23 #[.pointer (some ⟨p, 0, none⟩)]
set_option maxRecDepth 100000 in
set_option maxHeartbeats 4000000 in
theorem walk1 (a0 : Option Addr) (len0 cap0 : Nat) (z0 : List (Int × Int × Int)) (x1 : Int) (W : World) (w0 : IsActs W a0 len0 cap0 z0) (h1 : 0 ≤ x1 ∧ x1 ≤ 255) (hlen : (len0 : Int) ≤ 100) (k : Nat) (hkx : x1 % 64 + 1 = (k : Int)) :
    Calls Try.prog 6 #[.slice a0 len0 cap0, .int .u8 x1] W fun e W' => e = .returned (.bool true) ∧ Below W.heap.size W W' := by
  have HA := Lib.hid w0
  have hkb : 1 ≤ k ∧ k ≤ 64 := by omega
  clear w0
  have C1 : Hid (∀ w : World, Calls Try.prog 10 #[.int .i64 64] w fun e w' => e = .returned (.tuple #[.pointer (some ⟨w.heap.size + 1, 0, none⟩), .int .i64 0]) ∧ MarkB w' (w.heap.size + 1) w.heap.size (frees 64) ∧ Kept [] w w') := Lib.hid (fun w => new_any w 64 (by omega) (by omega))
  go_enter Try.func6, Try.ntmps6
  go_wp2_with fail
  (with_reducible refine (alive_any _).mono ?_)
  rintro e w1 ⟨rfl, hb1⟩
  have hs1 := hb1.size
  (try simp only [World.size_alloc, World.size_setCell, World.size_drew, size_drewN] at hs1)
  go_wp2_with fail
  (with_reducible refine (C1.out _).mono ?_)
  rintro e w2 ⟨rfl, hM2, hb2⟩
  have hs2 := hb2.size
  (try simp only [World.size_alloc, World.size_setCell, World.size_drew, size_drewN] at hs2)
  have M2 := Lib.hid hM2
  have hg2 := hM2.2.1.lt
  clear hM2
  (try simp only [size_drewN, World.size_drew] at M2 hg2)
  have K2 : Hid (Kept [] W w2) := Lib.hid (by (repeat' (first | (with_reducible exact Kept.refl _ _) | (with_reducible assumption) | (with_reducible refine Kept.then_ (by with_reducible assumption) ?_) | (with_reducible refine Kept.thenS (by with_reducible assumption) ?_) | (with_reducible refine Kept.thenG (by with_reducible assumption) ?_ ?_) | (with_reducible refine Kept.thenG2 (by with_reducible assumption) ?_ ?_ ?_) | (with_reducible refine Kept.alloc ?_ _) | (with_reducible refine Kept.drew ?_) | (with_reducible refine Kept.drewN ?_ _) | (with_reducible refine Kept.setNew ?_ ?_ _) | ((try simp only [World.size_alloc, World.size_setCell, World.size_drew, size_drewN] at *); (try dsimp only); omega))))
  have hp2 := M2.out.ltp
  (try simp only [size_drewN, World.size_drew] at hp2)
  have F64 : Hid ((frees 64).length = 64) := Lib.hid (length_frees 64)
  go_wp2_with fail
  go_loopw [32] (fun i wr => ∃ (kq : Nat) (bs : List Bool), kq ≤ len0 ∧ i = .int .i64 kq ∧ Hid (bs.length = 64) ∧ Hid (MarkB wr (w1.heap.size + 1) w1.heap.size bs) ∧ Hid (BoxM wr w2.heap.size (w1.heap.size + 1)) ∧ Kept [] W wr) (fun i _ => len0 - (intOf i).toNat)
  case atStart => exact ⟨0, _, Nat.zero_le _, rfl, F64, Lib.hid (M2.out.keep0 ((Kept.refl [] w2).alloc _)), Lib.hid (Blk.new _ _ _), K2.out.alloc _⟩
  case round =>
    obtain ⟨kq, bs, hk, rfl, hbl, hm, hbx, hkw⟩ := hrel
    have hxc := hbx.out.cell 0
    have hxl := hbx.out.lt
    have hmg := hm.out.lt
    have hmp := hm.out.ltp
    have hne : w2.heap.size ≠ w1.heap.size + 1 ∧ w2.heap.size ≠ w1.heap.size := ⟨by omega, by omega⟩
    by_cases hlt : kq < len0
    · obtain ⟨ad, rfl, hcs⟩ := HA.out.get (by omega)
      obtain ⟨kk, pp, rr, _, wp, wq, hcc⟩ := hcs kq hlt
      obtain ⟨c0, c1, c2⟩ := hcc wr hkw
      have b1 := bounds_i64 wp
      have b2 := bounds_i64 wq
      clear hcs hcc wp wq
      have hsr := hkw.size
      go_wp2_with fail
      (with_reducible refine (mark_gen _ _ _ _ (hm.out.keep0 ((Kept.refl [] wr).alloc _)) _ _).mono ?_)
      rintro e w5 ⟨x5, bs5, rfl, hl5, hm5, hk5⟩
      have HM5 := Lib.hid hm5
      have HL5 : Hid (bs5.length = 64) := Lib.hid (by rw [hl5]; exact hbl.out)
      have HX5 : Hid (BoxM w5 w2.heap.size (w1.heap.size + 1)) := Lib.hid ((hbx.out.alloc _).keep hk5 (by simp; omega))
      clear hm5 hl5
      go_wp2_with fail
      go_roundw
      case rel => exact ⟨kq + 1, bs5, by omega, by go_num, HL5, HM5, HX5, hk5.thenG2 (hkw.alloc _) (by omega) (by omega)⟩
      case measure => (simp [intOf]); try omega
    · obtain rfl : kq = len0 := by omega
      obtain ⟨wo, rfl⟩ : ∃ wo : World, wo = wr := ⟨_, rfl⟩
      have HW : Hid (∀ w3, Kept [] (wo.alloc (.cells #[.int .i64 (k : Int)] 3)) w3 → MarkB w3 (w1.heap.size + 1) w1.heap.size bs ∧ BoxM w3 w2.heap.size (w1.heap.size + 1) ∧ Blk w3 wo.heap.size 3 #[.int .i64 (k : Int)] ∧ Kept [] W w3) := Lib.hid (fun w3 h3 => ⟨(hm.out.keep0 ((Kept.refl [] wo).alloc _)).keep0 h3, Blk.keep0 (Blk.alloc hbx.out _) h3, (Blk.new _ _ _).keep0 h3, h3.then_ (hkw.alloc _)⟩)
      have DF : Hid (∀ (w3 : World) (n : Nat) (v : Bool), Kept [] (wo.alloc (.cells #[.int .i64 (k : Int)] 3)) w3 → n < 64 → (v = true ↔ FreeAt bs n k) → Calls Try.prog 16 #[.int .i64 n, .pointer (some ⟨wo.heap.size, 0, none⟩), .pointer (some ⟨w2.heap.size, 0, none⟩)] w3 fun e w' => e = .returned (.bool v) ∧ Kept [] w3 w') := Lib.hid (fun w3 n v h3 hn hv => by
        obtain ⟨q1, q2, q3, q4⟩ := HW.out w3 h3
        exact low_one w3 _ _ _ _ bs q1 hbl.out q2 n k q3 hn hkb.1 hkb.2 v hv)
      go_wp2_with fail
      go_loopw [11, 12] (fun c i w3 => ∃ (n : Nat) (wv : Int), n ≤ 64 ∧ -1 ≤ wv ∧ wv < 64 ∧ c = .int .i64 wv ∧ i = .int .i64 ((n : Int) - 1) ∧ Hid (LowIs bs k n wv) ∧ Kept [] (wo.alloc (.cells #[.int .i64 (k : Int)] 3)) w3) (fun _ i _ => (intOf i + 1).toNat)
      case atStart => exact ⟨64, -1, by omega, by omega, by omega, rfl, by go_num, Lib.hid (low_end bs k), Kept.refl _ _⟩
      case round =>
        obtain ⟨n, wv, hn, hw1, hw2, rfl, rfl, hlow, hk3⟩ := hrel
        by_cases hlt : 0 < n
        · obtain ⟨m, rfl⟩ : ∃ m : Nat, n = m + 1 := ⟨n - 1, by omega⟩
          rw [show ((m + 1 : Nat) : Int) - 1 = (m : Int) by omega]
          by_cases hf : FreeAt bs m k
          · have HF := Lib.hid hf
            clear hf
            go_wp2_with fail
            (with_reducible refine (DF.out _ m true hk3 (by omega) ⟨fun _ => HF.out, fun _ => rfl⟩).mono ?_)
            rintro e w6 ⟨rfl, hb6⟩
            go_wp2_with fail
            go_roundw
            case rel => exact ⟨m, (m : Int), by omega, by omega, by omega, rfl, rfl, Lib.hid (low_yes (by omega) HF.out), hb6.then_ hk3⟩
            case measure => (simp [intOf]); try omega
          · have HF := Lib.hid hf
            clear hf
            go_wp2_with fail
            (with_reducible refine (DF.out _ m false hk3 (by omega) ⟨fun h => (by cases h), fun h => absurd h HF.out⟩).mono ?_)
            rintro e w6 ⟨rfl, hb6⟩
            go_wp2_with fail
            go_roundw
            case rel => exact ⟨m, wv, by omega, by omega, by omega, rfl, rfl, Lib.hid (low_no HF.out hlow.out), hb6.then_ hk3⟩
            case measure => (simp [intOf]); try omega
        · obtain rfl : n = 0 := by omega
          obtain ⟨q1, q2, q3, q4⟩ := HW.out _ hk3
          have M3 := Lib.hid q1
          have B3 := Lib.hid q2
          have Q3 := Lib.hid q3
          have K3 := Lib.hid q4
          have d1 := q2.cell 0
          have d2 := q3.cell 0
          have d3 := Blk.lt q2
          have d4 := Blk.lt q3
          clear q1 q2 q3 q4
          rcases hlow.out with ⟨rfl, hno⟩ | ⟨b, rfl, _, hb64, hfa, hno⟩
          · have HN : Hid (∀ b, ¬ FreeAt bs b k) := Lib.hid (fun b hf => by
              have := hf.1
              have := hbl.out
              exact hno b (by omega) (by omega) hf)
            obtain ⟨Q, hQ⟩ : ∃ Q : Int, longV bs = Q := ⟨_, rfl⟩
            have hQk : Q < (k : Int) := by
              rcases Int.lt_or_le Q (k : Int) with h | h
              · exact h
              · obtain ⟨n, c, e, h3, h4⟩ := long_is bs (by omega)
                exact absurd (h4.less (by omega)) (HN.out c)
            have HQ := Lib.hid hQ
            have DT : Hid (Calls Try.prog 11 #[.pointer (some ⟨w1.heap.size + 1, 0, none⟩), .int .i64 (k : Int)] wr fun e w' => e = .returned (.tuple #[.int .i64 0, .int .i64 4]) ∧ Kept [] wr w') := Lib.hid (take_full wr _ _ _ M3.out k hkb.1 (by have := hbl.out; omega) HN.out)
            have DL : Hid (∀ w, MarkB w (w1.heap.size + 1) w1.heap.size bs → Calls Try.prog 13 #[.pointer (some ⟨w1.heap.size + 1, 0, none⟩)] w fun e w' => e = .returned (.int .i64 Q) ∧ Kept [] w w') := Lib.hid (fun w h => by
              have := longest_any w _ _ bs h
              rw [HQ.out] at this; exact this)
            clear hno hQ
            go_wp2_with fail
            (with_reducible refine (DT.out).mono ?_)
            rintro e w7 ⟨rfl, hb7⟩
            have hs7 := hb7.size
            (try simp only [World.size_alloc, World.size_setCell, World.size_drew, size_drewN] at hs7)
            have M7 := Lib.hid (M3.out.keep0 hb7)
            have B7 := Lib.hid (B3.out.keep0 hb7)
            have Q7 := Lib.hid (Q3.out.keep0 hb7)
            have d1 := Blk.cell B7.out 0
            have d2 := Q7.out.cell 0
            have d3 := Blk.lt B7.out
            have d4 := Q7.out.lt
            go_wp2_with fail
            refine wp_region_kept (by kernel_rfl) (by kernel_rfl) ?_
            intro TT FF hne hFF hcl
            have q_r0 := fun x => (Blk.keep0 (B7.out) (hFF x)).cell
            have q_r1 := fun x => (Blk.keep0 (Q7.out) (hFF x)).cell
            repeat (first | go_big_quiet_step ((first | (go_at_call 13; (with_reducible refine kept_call hcl (DL.out _ (M7.out.keep0 (hFF _))))))) | quiet_step ((first | (go_at_call 13; (with_reducible refine kept_call hcl (DL.out _ (M7.out.keep0 (hFF _))))))))
            refine wpQuiet_nil ?_
            rintro w8 ⟨x, hx⟩
            have hb8 := hFF x
            rw [← hx] at hb8
            clear hx x hne hFF hcl q_r0 q_r1
            have hs8 := hb8.size
            (try simp only [World.size_alloc, World.size_setCell, World.size_drew, size_drewN] at hs8)
            go_wp2_with fail
            go_ret
            exact ⟨rfl, Kept.below (hb8.then_ (hb7.then_ K3.out))⟩
          · have HFA := Lib.hid hfa
            have HN : Hid (∀ c, c < b → ¬ FreeAt bs c k) := Lib.hid (fun c hc => hno c (by omega) hc)
            have DT : Hid (Calls Try.prog 11 #[.pointer (some ⟨w1.heap.size + 1, 0, none⟩), .int .i64 (k : Int)] wr fun e w' => e = .returned (.tuple #[.int .i64 (b : Int), .int .i64 0]) ∧ MarkB w' (w1.heap.size + 1) w1.heap.size (put bs b k true) ∧ Kept [w1.heap.size + 1, w1.heap.size] wr w') := Lib.hid (take_at wr _ _ _ M3.out k b hkb.1 hfa HN.out)
            have hbk : b + k ≤ 64 := by have := hfa.1; have := hbl.out; omega
            have DH : Hid (∀ w t g, MarkB w (w1.heap.size + 1) w1.heap.size (put bs b k true) → Blk w g t #[.int .i64 (b : Int), .int .i64 ((b : Int) + (k : Int) - 1)] → Calls Try.prog 17 #[.pointer (some ⟨w1.heap.size + 1, 0, none⟩), .slice (some ⟨g, 0, none⟩) 2 2] w fun e w' => e = .returned (.bool true) ∧ Kept [] w w') := Lib.hid (fun w t g h hB => has_any w _ _ _ h _ 2 2 [(b : Int), (b : Int) + (k : Int) - 1] rfl (row_2i hB) (by simp) true (by
              have hb := hbl.out
              have e1 : outB (put bs b k true) ((b : Nat) : Int) = false := outB_in (by rw [put_get bs b k true (by omega), if_pos (by omega)])
              have e2 : outB (put bs b k true) ((b : Int) + (k : Int) - 1) = false := by
                rw [show (b : Int) + (k : Int) - 1 = ((b + k - 1 : Nat) : Int) by omega]
                exact outB_in (by rw [put_get bs b k true (by omega), if_pos (by omega)])
              simp [e1, e2]))
            clear hno hfa
            go_wp2_with fail
            (with_reducible refine (DT.out).mono ?_)
            rintro e w7 ⟨rfl, hM7, hb7⟩
            have hs7 := hb7.size
            (try simp only [World.size_alloc, World.size_setCell, World.size_drew, size_drewN] at hs7)
            have M7 := Lib.hid hM7
            have hg7 := hM7.2.1.lt
            clear hM7
            (try simp only [size_drewN, World.size_drew] at M7 hg7)
            have B7 : Hid (BoxM w7 w2.heap.size (w1.heap.size + 1)) := Lib.hid (Blk.keep B3.out hb7 (by simp; omega))
            have Q7 := Lib.hid (Q3.out.keep hb7 (by simp; omega))
            have d1 := Blk.cell B7.out 0
            have d2 := Q7.out.cell 0
            have d3 := Blk.lt B7.out
            have d4 := Q7.out.lt
            go_wp2_with fail
            (with_reducible refine (DH.out _ _ _ (M7.out.keep0 ((Kept.refl [] w7).alloc _)) (Blk.new _ _ _)).mono ?_)
            rintro e w8 ⟨rfl, hb8⟩
            go_wp2_with fail
            go_ret
            exact ⟨rfl, Kept.below (hb8.then_ ((hb7.thenG2 K3.out (by omega) (by omega)).alloc _))⟩
theorem walk (a0 : Option Addr) (len0 cap0 : Nat) (z0 : List (Int × Int × Int)) (x1 : Int) (W : World) (w0 : IsActs W a0 len0 cap0 z0) (w1 : (Lit.int .u8 x1).wf = true) :
    Calls Try.prog 6 #[.slice a0 len0 cap0, .int .u8 x1] W fun e W' => e = .returned (.bool true) ∧ Below W.heap.size W W' := by
  have b1 := bounds_u8 w1
  by_cases hlen : (len0 : Int) ≤ 100
  · obtain ⟨k, hk⟩ : ∃ k : Nat, x1 % 64 + 1 = (k : Int) := ⟨(x1 % 64 + 1).toNat, by omega⟩
    exact walk1 a0 len0 cap0 z0 x1 W w0 b1 hlen k hk
  · have C1 : Hid (∀ w : World, Calls Try.prog 10 #[.int .i64 64] w fun e w' => e = .returned (.tuple #[.pointer (some ⟨w.heap.size + 1, 0, none⟩), .int .i64 0]) ∧ MarkB w' (w.heap.size + 1) w.heap.size (frees 64) ∧ Kept [] w w') := Lib.hid (fun w => new_any w 64 (by omega) (by omega))
    have hlen' : decide (100 < (len0 : Int)) = true := by simp; omega
    clear w0
    go_enter Try.func6, Try.ntmps6
    go_wp2_with fail
    (with_reducible refine (alive_any _).mono ?_)
    rintro e w1 ⟨rfl, hb1⟩
    have hs1 := hb1.size
    (try simp only [World.size_alloc, World.size_setCell, World.size_drew, size_drewN] at hs1)
    go_wp2_with fail
    (with_reducible refine (C1.out _).mono ?_)
    rintro e w2 ⟨rfl, hM2, hb2⟩
    have hs2 := hb2.size
    (try simp only [World.size_alloc, World.size_setCell, World.size_drew, size_drewN] at hs2)
    have M2 := Lib.hid hM2
    have hg2 := hM2.2.1.lt
    clear hM2
    (try simp only [size_drewN, World.size_drew] at M2 hg2)
    go_wp2_with fail
    go_ret
    refine ⟨rfl, Kept.below ?_⟩
    (repeat' (first | (with_reducible exact Kept.refl _ _) | (with_reducible assumption) | (with_reducible refine Kept.then_ (by with_reducible assumption) ?_) | (with_reducible refine Kept.thenS (by with_reducible assumption) ?_) | (with_reducible refine Kept.thenG (by with_reducible assumption) ?_ ?_) | (with_reducible refine Kept.thenG2 (by with_reducible assumption) ?_ ?_ ?_) | (with_reducible refine Kept.alloc ?_ _) | (with_reducible refine Kept.drew ?_) | (with_reducible refine Kept.drewN ?_ _) | (with_reducible refine Kept.setNew ?_ ?_ _) | ((try simp only [World.size_alloc, World.size_setCell, World.size_drew, size_drewN] at *); (try dsimp only); omega)))
theorem own : ownKnob Try.prog.godebug = none := by kernel_rfl
theorem laidOut : laidOutB Try.prog = true := by kernel_rfl
set_option maxRecDepth 100000 in
theorem lifted (os : Os) (started : os.Started) (H : Type) (enc : TypeId × Value → H) :
    ReturnsInHanded {} Try.checked os 6 .any (Rows.markLowestSpec.pre6 enc Try.prog Try.f6 Rows.markLowestRow.domain false) (Rows.markLowestSpec.post enc Try.prog Try.f6 false true false false) := by
  refine returnsInHanded_of_change (C := Try.checked) own started (by kernel_rfl) Try.func6
    (ChangeSpec.witness6 (enc := enc) (C := Try.checked) false ⟨#[], #[.slice none 0 0, .int .u8 0], []⟩ 8 (by kernel_rfl) (by kernel_rfl) (by kernel_rfl) (by kernel_rfl)) ?_
  intro W base args ds gs before hval0 hW hcnd _
  have hval : ∀ (j : Nat) t v, Try.f6.params[j]? = some t → args[j]? = some v → Value.okWide Try.prog W .any base t v := hval0
  have hW' := hW
  obtain ⟨p, q, hA0, hV, rfl, hfz, hnd⟩ := hW
  have hA : DataW.TrodAll enc Try.prog W 0 (fun _ => true) true Try.f6.params.toList args.toList ds p := hA0
  rw [Try.params6] at hA hval
  obtain ⟨v0, vs0, d0, ds0, p0, q0, hargs, rfl, rfl, h0, r0⟩ := trodAll_cons hA
  obtain ⟨v1, vs1, d1, ds1, p1, q1, rfl, rfl, rfl, h1, r1⟩ := trodAll_cons r0
  obtain ⟨rfl, rfl, rfl⟩ := trodAll_nil r1
  obtain rfl : args = #[v0, v1] := by cases args; simp_all
  obtain ⟨rfl, rfl⟩ := trodVars_none hV
  have k0 := h0
  have lt0 : ∀ x ∈ p0, x.block < W.heap.size := by obtain ⟨m, hm⟩ := k0; exact DataW.trod_lt m _ _ _ hm
  obtain ⟨a0, len0, cap0, rfl⟩ := okWide_slice Try.underlying32 (hval 0 32 v0 rfl rfl)
  obtain ⟨z0, w0⟩ := isT32_of h0
  obtain ⟨a1, rfl, rfl, rfl, w1⟩ := open_int Try.underlying5 (hval 1 5 v1 rfl rfl) h1
  clear hA0 hval0
  refine (walk a0 len0 cap0 z0 a1 W w0 w1).mono fun e W' ⟨he, bel⟩ => ?_
  subst he
  exact ⟨_, rfl, _, _, _, [], _, [], hW', trodAll_mk1 (shut_bool Try.underlying4 _), (trodAll_cons_mk (Below.trod laidOut (by kernel_rfl) (of_decide_eq_true (by kernel_rfl)) k0 bel lt0) (trodAll_cons_mk (shut_int Try.underlying5 w1) trodAll_mk0)), rfl, bel.frame _, fun h => by cases h⟩
theorem over : Rows.markLowestRow.holds Try.pinned (OpenSpec.ofChange Rows.markLowestSpec) :=
  OpenClaim.holds_of_wide 6 Try.f6 rfl rfl rfl rfl rfl rfl rfl ⟨rfl, rfl, rfl, rfl, rfl⟩ rfl rfl rfl rfl rfl (by kernel_rfl) Try.func6 (by kernel_rfl)
    (of_decide_eq_true (by kernel_rfl)) (by unfold Func.isWrapper; first | (rw [if_pos (by decide +kernel)]; kernel_rfl) | (rw [if_neg (by decide +kernel)]; exact ⟨rfl, rfl⟩))
    (fun os started H enc _ => lifted os started H enc)
theorem proved : Rows.MarkLowestSaid := over
#print axioms proved
end Go.Proofs.Ythnfhenbkijihaa.MarkLowest
