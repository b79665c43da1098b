/- The document's ledger: At, In, Free, Bytes, May. -/
import Derived.Test.YtdallcepachhoaaLgRef
set_option linter.unusedVariables false
set_option linter.unusedSimpArgs false
namespace Go.Proofs.Ytdallcepachhoaa
open Go.RowKit
set_option maxRecDepth 100000 in
set_option maxHeartbeats 2000000 in
theorem rAt_any (T : List Nat) (w : World) (m : Nat) (ls : List EntT) (h : RefS T w m ls) (hl : ls.length ≤ 1000) (z : Int) (r : BlkT × Int) (hr : atP ls z = r) :
    Calls Try.prog 37 #[.pointer (some ⟨m, 0, none⟩), .int .u64 z] w fun e w' => e = .returned (ansB r.1 r.2) ∧ Kept [] w w' := by
  have DA := Lib.hid (fun w' (hk : Kept [] w w') => rat_any T w' m ls (h.keep0 hk) hl z _ rfl)
  obtain ⟨q, D1, DA'⟩ : ∃ q : Int, Hid (∀ w', Kept [] w w' → Calls Try.prog 49 #[.pointer (some ⟨m, 0, none⟩), .int .i64 q] w' fun e w'' => e = .returned (ansB r.1 r.2) ∧ Kept [] w' w'') ∧ Hid (∀ w', Kept [] w w' → Calls Try.prog 48 #[.pointer (some ⟨m, 0, none⟩), .int .u64 z] w' fun e w'' => e = .returned (.int .i64 q) ∧ Kept [] w' w'') := by
    refine ⟨atI ls z, Lib.hid (fun w' hk => ?_), DA⟩
    unfold atP at hr
    cases hi : idxL ls z with
    | none =>
      have e1 : atI ls z = -1 := by unfold atI; rw [hi]
      rw [hi] at hr
      subst hr
      rw [e1]
      exact rone_none T w' m ls (h.keep0 hk)
    | some k =>
      have e1 : atI ls z = (k : Int) := by unfold atI; rw [hi]
      rw [hi] at hr
      rw [e1]
      refine rone_any T w' m ls (h.keep0 hk) k ?_ hl r hr
      unfold idxL at hi
      rw [List.findIdx?_eq_some_iff_getElem] at hi
      exact hi.1
  clear DA hr h
  obtain ⟨⟨ra, rn, rl⟩, er⟩ := r
  unfold ansB at D1
  dsimp only at D1
  go_enter Try.func37, Try.ntmps37
  go_wp2_with fail
  (with_reducible refine (DA'.out _ (by (repeat' (first | (with_reducible exact Kept.refl _ _) | (with_reducible assumption) | (with_reducible refine Kept.then_ (by with_reducible assumption) ?_) | (with_reducible refine Kept.thenS (by with_reducible assumption) ?_) | (with_reducible refine Kept.alloc ?_ _) | (with_reducible refine Kept.drew ?_) | (with_reducible refine Kept.drewN ?_ _) | (with_reducible refine Kept.setNew ?_ ?_ _) | ((try simp only [World.size_alloc, World.size_setCell, World.size_drew, size_drewN] at *); (try dsimp only); omega))))).mono ?_)
  rintro e w1 ⟨rfl, hb1⟩
  have B1 := (Blk.new w 33 _).keep0 hb1
  have hs1 := hb1.size
  go_wp2_with fail
  (with_reducible refine (D1.out _ (by (repeat' (first | (with_reducible exact Kept.refl _ _) | (with_reducible assumption) | (with_reducible refine Kept.then_ (by with_reducible assumption) ?_) | (with_reducible refine Kept.thenS (by with_reducible assumption) ?_) | (with_reducible refine Kept.alloc ?_ _) | (with_reducible refine Kept.drew ?_) | (with_reducible refine Kept.drewN ?_ _) | (with_reducible refine Kept.setNew ?_ ?_ _) | ((try simp only [World.size_alloc, World.size_setCell, World.size_drew, size_drewN] at *); (try dsimp only); omega))))).mono ?_)
  rintro e w3 ⟨rfl, hb3⟩
  have B3 := B1.keep0 hb3
  have B3c := B3.cell
  have B3f := B3.frozen
  have B3l := B3.lt
  go_wp2_with fail
  refine bodyPost_ret (v := ansB (ra, rn, rl) er) (by simp [results, Try.results37, go_sem, ansB, B3l, B3c]) rfl ⟨rfl, by (repeat' (first | (with_reducible exact Kept.refl _ _) | (with_reducible assumption) | (with_reducible refine Kept.then_ (by with_reducible assumption) ?_) | (with_reducible refine Kept.thenS (by with_reducible assumption) ?_) | (with_reducible refine Kept.alloc ?_ _) | (with_reducible refine Kept.drew ?_) | (with_reducible refine Kept.drewN ?_ _) | (with_reducible refine Kept.setNew ?_ ?_ _) | ((try simp only [World.size_alloc, World.size_setCell, World.size_drew, size_drewN] at *); (try dsimp only); omega)))⟩
set_option maxRecDepth 100000 in
set_option maxHeartbeats 2000000 in
theorem rbytes_any (T : List Nat) (w : World) (m : Nat) (ls : List EntT) (h : RefS T w m ls) (hi : LInv ls) (hl : ls.length ≤ 1000) (r : Int) (hr : bytesL ls = r) :
    Calls Try.prog 22 #[.pointer (some ⟨m, 0, none⟩)] w fun e w' => e = .returned (.int .u64 r) ∧ Kept [] w w' := by
  subst hr
  obtain ⟨A, c, A', c', hR⟩ := h.reads
  have HR := Lib.hid hR
  obtain ⟨x0, x1, x2, _⟩ := hR
  have BD : Hid (∀ j, j < ls.length → 0 ≤ (re ls j).2.1 ∧ (re ls j).2.1 ≤ 1048576) := Lib.hid (fun j hj => by have := re_bd hi hj; omega)
  clear h hi
  go_enter Try.func22, Try.ntmps22
  go_wp2_with fail
  go_loopw [3, 11] (fun u v wr => ∃ (j : Nat) (s : Int), j ≤ ls.length ∧ u = .int .u64 s ∧ v = .int .i64 j ∧ Hid (s = bytesL (ls.take j)) ∧ 0 ≤ s ∧ s ≤ 1048576 * (j : Int) ∧ Hid (Kept [] w wr)) (fun _ v _ => (ls.length - intOf v).toNat)
  case atStart => exact ⟨0, 0, Nat.zero_le _, rfl, rfl, Lib.hid (by simp [bytesL]), by omega, by omega, Lib.hid (Kept.refl _ _)⟩
  case round =>
    obtain ⟨j, s, hj, rfl, rfl, hs, hs0, hs1, hk⟩ := hrel
    by_cases hjl : j < ls.length
    · obtain ⟨g, rfl, hgl, y0, y1, y2⟩ := (HR.out.keep hk.out).blk hjl
      have HT := Lib.hid (bytesL_take ls j hjl)
      have bd := BD.out j hjl
      have dj : decide (j < ls.length) = true := by simp; omega
      generalize re ls j = r at *
      obtain ⟨ra, rn, rl, rh⟩ := r
      dsimp only at HT bd y0 y1 y2
      go_wp2_with fail
      go_roundw
      case rel => exact ⟨j + 1, s + rn, by omega, rfl, by go_num, Lib.hid (by rw [HT.out, ← hs.out]), by omega, by omega, Lib.hid (by have := hk.out; (repeat' (first | (with_reducible exact Kept.refl _ _) | (with_reducible assumption) | (with_reducible refine Kept.then_ (by with_reducible assumption) ?_) | (with_reducible refine Kept.thenS (by with_reducible assumption) ?_) | (with_reducible refine Kept.alloc ?_ _) | (with_reducible refine Kept.drew ?_) | (with_reducible refine Kept.drewN ?_ _) | (with_reducible refine Kept.setNew ?_ ?_ _) | ((try simp only [World.size_alloc, World.size_setCell, World.size_drew, size_drewN] at *); (try dsimp only); omega))))⟩
      case measure => simp [intOf]; omega
    · obtain rfl : j = ls.length := by omega
      have he := hs.out
      rw [List.take_length] at he
      subst he
      go_wp2_with fail
      go_ret
      exact ⟨rfl, hk.out⟩
theorem inR_hit {ls : List EntT} (hi : LInv ls) {z : Int} {r : BlkT × Int} (hr : InR ls z r) {j : Nat} (hj : Takes ls z j) : oneP ls j = r := by
  rcases hr with ⟨i, ht, h1⟩ | ⟨h1, _⟩
  · rw [takes_one hi hj ht]; exact h1
  · exact absurd hj (h1 j)
theorem inR_miss {ls : List EntT} {z : Int} {r : BlkT × Int} (hr : InR ls z r) (h : ∀ i, i < ls.length → ¬ Takes ls z i) : r = ((0, 0, 0), 5) := by
  rcases hr with ⟨i, ht, h1⟩ | ⟨_, h1⟩
  · exact absurd ht (h i ht.1)
  · exact h1
set_option maxRecDepth 100000 in
set_option maxHeartbeats 4000000 in
theorem rin_any (T : List Nat) (w : World) (m : Nat) (ls : List EntT) (h : RefS T w m ls) (hi : LInv ls) (hl : ls.length ≤ 1000) (z : Int) (r : BlkT × Int) (hr : InR ls z r) :
    Calls Try.prog 38 #[.pointer (some ⟨m, 0, none⟩), .int .u64 z] w fun e w' => e = .returned (ansB r.1 r.2) ∧ Kept [] w w' := by
  obtain ⟨A, c, A', c', hR⟩ := h.reads
  have HR := Lib.hid hR
  obtain ⟨x0, x1, x2, _⟩ := hR
  have HI := Lib.hid hi
  have HIR := Lib.hid hr
  have D1 := Lib.hid (fun w' (hk : Kept [] w w') j (hj : Takes ls z j) => rone_any T w' m ls (h.keep0 hk) j hj.1 hl r (inR_hit hi hr hj))
  have D0 := Lib.hid (fun w' (hk : Kept [] w w') => rone_none T w' m ls (h.keep0 hk))
  have HML := Lib.hid (fun w' (hk : Kept [] w w') => (h.keep0 hk).ltp)
  obtain ⟨⟨ra, rn, rl⟩, er⟩ := r
  unfold ansB at D1 D0
  dsimp only at D0 D1
  clear h hi hr
  go_enter Try.func38, Try.ntmps38
  go_wp2_with fail
  go_loopw [13] (fun v wr => ∃ j : Nat, j ≤ ls.length ∧ v = .int .i64 j ∧ Hid (∀ i, i < j → ¬ Takes ls z i) ∧ Hid (Kept [] w wr) ∧ Hid (Blk wr w.heap.size 33 #[.int .u64 0, .int .u64 0, .int .u64 0])) (fun v _ => (ls.length - intOf v).toNat)
  case atStart => exact ⟨0, Nat.zero_le _, rfl, Lib.hid (fun i hi => by omega), Lib.hid (by (repeat' (first | (with_reducible exact Kept.refl _ _) | (with_reducible assumption) | (with_reducible refine Kept.then_ (by with_reducible assumption) ?_) | (with_reducible refine Kept.thenS (by with_reducible assumption) ?_) | (with_reducible refine Kept.alloc ?_ _) | (with_reducible refine Kept.drew ?_) | (with_reducible refine Kept.drewN ?_ _) | (with_reducible refine Kept.setNew ?_ ?_ _) | ((try simp only [World.size_alloc, World.size_setCell, World.size_drew, size_drewN] at *); (try dsimp only); omega)))), Lib.hid (Blk.new _ _ _)⟩
  case round =>
    obtain ⟨j, hj, rfl, hn, hk, hB⟩ := hrel
    by_cases hjl : j < ls.length
    · obtain ⟨g, rfl, hgl, y0, y1, y2⟩ := (HR.out.keep hk.out).blk hjl
      have dj : decide (j < ls.length) = true := by simp; omega
      have bq := re_bd HI.out hjl
      have hpl := HML.out wr hk.out
      have hT : Hid (Takes ls z j ↔ (re ls j).1 ≤ z ∧ z < (re ls j).1 + mx (re ls j).2.1) := Lib.hid ⟨fun h => h.2, fun h => ⟨hjl, h⟩⟩
      have DT := Lib.hid (fun w' => takes_any (re ls j).1 (re ls j).2.1 (re ls j).2.2.1 w' bq.2.2.1 _ rfl)
      generalize re ls j = e at *
      obtain ⟨ea, en, el, eh⟩ := e
      dsimp only at y0 y1 y2 bq hT DT
      generalize mx en = me at *
      by_cases h1 : ea ≤ z
      · have q1 : decide (ea ≤ z) = true := by simp; omega
        by_cases h2 : z < ea + me
        · have q2 : decide (z < ea + me) = true := by simp; omega
          have DR := Lib.hid (fun w' hk => D1.out w' hk j (hT.out.2 ⟨h1, h2⟩))
          clear h2
          go_wp2_with fail
          refine wp_region_kept (by kernel_rfl) (by kernel_rfl) ?_
          intro TT FF hne hFF hcl
          have q_r0 := fun x => (Blk.keep0 (Blk.new _ _ _) (hFF x)).cell
          repeat (first | go_big_quiet_step ((first | (go_at_call 50; (with_reducible refine kept_call hcl (DT.out _))))) | quiet_step ((first | (go_at_call 50; (with_reducible refine kept_call hcl (DT.out _))))))
          refine wpQuiet_nil ?_
          rintro w5 ⟨x, hx⟩
          have hb5 := hFF x
          rw [← hx] at hb5
          clear hx x hne hFF hcl q_r0
          have hs5 := hb5.size
          (try simp only [World.size_alloc, World.size_setCell, World.size_drew, size_drewN] at hs5)
          go_wp2_with fail
          have K5 : Kept [] wr w5 := by (repeat' (first | (with_reducible exact Kept.refl _ _) | (with_reducible assumption) | (with_reducible refine Kept.then_ (by with_reducible assumption) ?_) | (with_reducible refine Kept.thenS (by with_reducible assumption) ?_) | (with_reducible refine Kept.alloc ?_ _) | (with_reducible refine Kept.drew ?_) | (with_reducible refine Kept.drewN ?_ _) | (with_reducible refine Kept.setNew ?_ ?_ _) | ((try simp only [World.size_alloc, World.size_setCell, World.size_drew, size_drewN] at *); (try dsimp only); omega)))
          (with_reducible refine (DR.out _ (K5.then_ hk.out)).mono ?_)
          rintro e w6 ⟨rfl, hb6⟩
          have B6 : Blk w6 w.heap.size 33 #[.int .u64 0, .int .u64 0, .int .u64 0] := (hB.out.keep0 K5).keep0 hb6
          have B6c := B6.cell
          have B6f := B6.frozen
          have B6l := B6.lt
          have K6 := (hb6.then_ K5).then_ hk.out
          go_wp2_with fail
          refine bodyPost_ret (v := ansB (ra, rn, rl) er) (by simp [results, Try.results38, go_sem, ansB, B6l, B6c]) rfl ⟨rfl, by (repeat' (first | (with_reducible exact Kept.refl _ _) | (with_reducible assumption) | (with_reducible refine Kept.then_ (by with_reducible assumption) ?_) | (with_reducible refine Kept.thenS (by with_reducible assumption) ?_) | (with_reducible refine Kept.alloc ?_ _) | (with_reducible refine Kept.drew ?_) | (with_reducible refine Kept.drewN ?_ _) | (with_reducible refine Kept.setNew ?_ ?_ _) | ((try simp only [World.size_alloc, World.size_setCell, World.size_drew, size_drewN] at *); (try dsimp only); omega)))⟩
        · have q2 : decide (z < ea + me) = false := by simp; omega
          have HN : Hid (∀ i, i < j + 1 → ¬ Takes ls z i) := Lib.hid (fun i hi => by
            rcases Nat.lt_or_ge i j with h | h
            · exact hn.out i h
            · rw [show i = j by omega, hT.out]; omega)
          clear h2
          go_wp2_with fail
          refine wp_region_kept (by kernel_rfl) (by kernel_rfl) ?_
          intro TT FF hne hFF hcl
          have q_r0 := fun x => (Blk.keep0 (Blk.new _ _ _) (hFF x)).cell
          repeat (first | go_big_quiet_step ((first | (go_at_call 50; (with_reducible refine kept_call hcl (DT.out _))))) | quiet_step ((first | (go_at_call 50; (with_reducible refine kept_call hcl (DT.out _))))))
          refine wpQuiet_nil ?_
          rintro w5 ⟨x, hx⟩
          have hb5 := hFF x
          rw [← hx] at hb5
          clear hx x hne hFF hcl q_r0
          have hs5 := hb5.size
          (try simp only [World.size_alloc, World.size_setCell, World.size_drew, size_drewN] at hs5)
          have K5 : Kept [] wr w5 := by (repeat' (first | (with_reducible exact Kept.refl _ _) | (with_reducible assumption) | (with_reducible refine Kept.then_ (by with_reducible assumption) ?_) | (with_reducible refine Kept.thenS (by with_reducible assumption) ?_) | (with_reducible refine Kept.alloc ?_ _) | (with_reducible refine Kept.drew ?_) | (with_reducible refine Kept.drewN ?_ _) | (with_reducible refine Kept.setNew ?_ ?_ _) | ((try simp only [World.size_alloc, World.size_setCell, World.size_drew, size_drewN] at *); (try dsimp only); omega)))
          go_wp2_with fail
          go_roundw
          case rel => exact ⟨j + 1, by omega, by go_num, HN, Lib.hid (K5.then_ hk.out), Lib.hid (hB.out.keep0 K5)⟩
          case measure => simp [intOf]; omega
      · have q1 : decide (ea ≤ z) = false := by simp; omega
        have HN : Hid (∀ i, i < j + 1 → ¬ Takes ls z i) := Lib.hid (fun i hi => by
          rcases Nat.lt_or_ge i j with h | h
          · exact hn.out i h
          · rw [show i = j by omega, hT.out]; omega)
        clear h1
        go_wp2_with fail
        refine wp_region_kept (by kernel_rfl) (by kernel_rfl) ?_
        intro TT FF hne hFF hcl
        have q_r0 := fun x => (Blk.keep0 (Blk.new _ _ _) (hFF x)).cell
        repeat (first | go_big_quiet_step ((first | (go_at_call 50; (with_reducible refine kept_call hcl (DT.out _))))) | quiet_step ((first | (go_at_call 50; (with_reducible refine kept_call hcl (DT.out _))))))
        refine wpQuiet_nil ?_
        rintro w5 ⟨x, hx⟩
        have hb5 := hFF x
        rw [← hx] at hb5
        clear hx x hne hFF hcl q_r0
        have hs5 := hb5.size
        (try simp only [World.size_alloc, World.size_setCell, World.size_drew, size_drewN] at hs5)
        have K5 : Kept [] wr w5 := by (repeat' (first | (with_reducible exact Kept.refl _ _) | (with_reducible assumption) | (with_reducible refine Kept.then_ (by with_reducible assumption) ?_) | (with_reducible refine Kept.thenS (by with_reducible assumption) ?_) | (with_reducible refine Kept.alloc ?_ _) | (with_reducible refine Kept.drew ?_) | (with_reducible refine Kept.drewN ?_ _) | (with_reducible refine Kept.setNew ?_ ?_ _) | ((try simp only [World.size_alloc, World.size_setCell, World.size_drew, size_drewN] at *); (try dsimp only); omega)))
        go_wp2_with fail
        go_roundw
        case rel => exact ⟨j + 1, by omega, by go_num, HN, Lib.hid (K5.then_ hk.out), Lib.hid (hB.out.keep0 K5)⟩
        case measure => simp [intOf]; omega
    · obtain rfl : j = ls.length := by omega
      have hm := inR_miss HIR.out hn.out
      have hB' := hB.out
      have hpl := HML.out wr hk.out
      go_wp2_with fail
      (with_reducible refine (D0.out _ hk.out).mono ?_)
      rintro e w6 ⟨rfl, hb6⟩
      have B6 : Blk w6 w.heap.size 33 #[.int .u64 0, .int .u64 0, .int .u64 0] := hB.out.keep0 hb6
      have B6c := B6.cell
      have B6f := B6.frozen
      have B6l := B6.lt
      have K6 := hb6.then_ hk.out
      go_wp2_with fail
      refine bodyPost_ret (v := ansB (0, 0, 0) 5) (by simp [results, Try.results38, go_sem, ansB, B6l, B6c]) rfl ⟨by cases hm; rfl, by (repeat' (first | (with_reducible exact Kept.refl _ _) | (with_reducible assumption) | (with_reducible refine Kept.then_ (by with_reducible assumption) ?_) | (with_reducible refine Kept.thenS (by with_reducible assumption) ?_) | (with_reducible refine Kept.alloc ?_ _) | (with_reducible refine Kept.drew ?_) | (with_reducible refine Kept.drewN ?_ _) | (with_reducible refine Kept.setNew ?_ ?_ _) | ((try simp only [World.size_alloc, World.size_setCell, World.size_drew, size_drewN] at *); (try dsimp only); omega)))⟩
set_option maxRecDepth 100000 in
set_option maxHeartbeats 4000000 in
theorem rfree_any (T : List Nat) (w : World) (m : Nat) (ls : List EntT) (h : RefS T w m ls) (hi : LInv ls) (hl : ls.length ≤ 1000) (a n : Int) (ha : 0 ≤ a ∧ a ≤ 18446744073709551615) (hn : 0 ≤ n ∧ n ≤ 18446744073709551615) (b : Bool) (hb : decide (FreeL ls a n) = b) :
    Calls Try.prog 39 #[.pointer (some ⟨m, 0, none⟩), .int .u64 a, .int .u64 n] w fun e w' => e = .returned (.bool b) ∧ Kept [] w w' := by
  subst hb
  obtain ⟨A, c, A', c', hR⟩ := h.reads
  have HR := Lib.hid hR
  obtain ⟨x0, x1, x2, _⟩ := hR
  have HML := Lib.hid (fun w' (hk : Kept [] w w') => (h.keep0 hk).ltp)
  have HI := Lib.hid hi
  clear h hi
  by_cases n0 : n = 0
  · have hF : decide (FreeL ls a n) = true := decide_eq_true (.inl n0)
    rw [hF]
    subst n0
    clear hF
    go_enter Try.func39, Try.ntmps39
    go_wp2_with fail
    go_loopw [24] (fun v wr => ∃ j : Nat, j ≤ ls.length ∧ v = .int .i64 j ∧ Hid (Kept [] w wr)) (fun v _ => (ls.length - intOf v).toNat)
    case atStart => exact ⟨0, Nat.zero_le _, rfl, Lib.hid (Kept.refl _ _)⟩
    case round =>
      obtain ⟨j, hj, rfl, hk⟩ := hrel
      by_cases hjl : j < ls.length
      · obtain ⟨g, rfl, hgl, y0, y1, y2⟩ := (HR.out.keep hk.out).blk hjl
        have dj : decide (j < ls.length) = true := by simp; omega
        generalize re ls j = e at *
        obtain ⟨ea, en, el, eh⟩ := e
        dsimp only at y0 y1 y2
        go_wp2_with fail
        refine wp_region_kept (by kernel_rfl) (by kernel_rfl) ?_
        intro TT FF hne hFF hcl
        have q_r0 := fun x => (Blk.keep0 (Blk.new _ _ _) (hFF x)).cell
        repeat (first | go_big_quiet_step (fail) | quiet_step (fail))
        refine wpQuiet_nil ?_
        rintro w5 ⟨x, hx⟩
        have hb5 := hFF x
        rw [← hx] at hb5
        clear hx x hne hFF hcl q_r0
        have hs5 := hb5.size
        (try simp only [World.size_alloc, World.size_setCell, World.size_drew, size_drewN] at hs5)
        have K5 : Kept [] wr w5 := by (repeat' (first | (with_reducible exact Kept.refl _ _) | (with_reducible assumption) | (with_reducible refine Kept.then_ (by with_reducible assumption) ?_) | (with_reducible refine Kept.thenS (by with_reducible assumption) ?_) | (with_reducible refine Kept.alloc ?_ _) | (with_reducible refine Kept.drew ?_) | (with_reducible refine Kept.drewN ?_ _) | (with_reducible refine Kept.setNew ?_ ?_ _) | ((try simp only [World.size_alloc, World.size_setCell, World.size_drew, size_drewN] at *); (try dsimp only); omega)))
        go_wp2_with fail
        go_roundw
        case rel => exact ⟨j + 1, by omega, by go_num, Lib.hid (K5.then_ hk.out)⟩
        case measure => simp [intOf]; omega
      · obtain rfl : j = ls.length := by omega
        go_wp2_with fail
        go_ret
        exact ⟨rfl, hk.out⟩
  · have n1 : 1 ≤ n := by omega
    have nb : decide (0 < n) = true := by simp; omega
    by_cases ho : a + (n - 1) ≤ 18446744073709551615
    · have oo : decide (a + (n - 1) < a) = false := by simp; omega
      have HF : Hid (FreeL ls a n ↔ ∀ i, i < ls.length → ¬ ((re ls i).1 < a + n ∧ a < (re ls i).1 + mx (re ls i).2.1)) := Lib.hid (by
        unfold FreeL
        constructor
        · rintro (h | ⟨_, h⟩) i hi
          · omega
          · exact h _ (re_mem hi)
        · intro h
          refine .inr ⟨ho, fun e he => ?_⟩
          obtain ⟨i, hi, rfl⟩ := mem_re he
          exact h i hi)
      go_enter Try.func39, Try.ntmps39
      go_wp2_with fail
      go_loopw [24] (fun v wr => ∃ j : Nat, j ≤ ls.length ∧ v = .int .i64 j ∧ Hid (∀ i, i < j → ¬ ((re ls i).1 < a + n ∧ a < (re ls i).1 + mx (re ls i).2.1)) ∧ Hid (Kept [] w wr)) (fun v _ => (ls.length - intOf v).toNat)
      case atStart => exact ⟨0, Nat.zero_le _, rfl, Lib.hid (fun i hi => by omega), Lib.hid (Kept.refl _ _)⟩
      case round =>
        obtain ⟨j, hj, rfl, hN, hk⟩ := hrel
        by_cases hjl : j < ls.length
        · obtain ⟨g, rfl, hgl, y0, y1, y2⟩ := (HR.out.keep hk.out).blk hjl
          have dj : decide (j < ls.length) = true := by simp; omega
          have bq := re_bd HI.out hjl
          have DT := Lib.hid (fun w' => takes_any (re ls j).1 (re ls j).2.1 (re ls j).2.2.1 w' bq.2.2.1 _ rfl)
          by_cases h1 : a ≤ (re ls j).1 + mx (re ls j).2.1 - 1
          · have q1 : decide (a ≤ (re ls j).1 + mx (re ls j).2.1 - 1) = true := by simp; omega
            by_cases h2 : (re ls j).1 ≤ a + (n - 1)
            · have q2 : decide ((re ls j).1 ≤ a + (n - 1)) = true := by simp; omega
              have HB : Hid (decide (FreeL ls a n) = false) := Lib.hid (decide_eq_false (fun h => HF.out.1 h j hjl ⟨by omega, by omega⟩))
              clear h1 h2
              generalize re ls j = e at *
              obtain ⟨ea, en, el, eh⟩ := e
              dsimp only at y0 y1 y2 bq DT q1 q2
              generalize mx en = me at *
              go_wp2_with fail
              refine wp_region_kept (by kernel_rfl) (by kernel_rfl) ?_
              intro TT FF hne hFF hcl
              have q_r0 := fun x => (Blk.keep0 (Blk.new _ _ _) (hFF x)).cell
              repeat (first | go_big_quiet_step ((first | (go_at_call 50; (with_reducible refine kept_call hcl (DT.out _))))) | quiet_step ((first | (go_at_call 50; (with_reducible refine kept_call hcl (DT.out _))))))
              refine wpQuiet_nil ?_
              rintro w5 ⟨x, hx⟩
              have hb5 := hFF x
              rw [← hx] at hb5
              clear hx x hne hFF hcl q_r0
              have hs5 := hb5.size
              (try simp only [World.size_alloc, World.size_setCell, World.size_drew, size_drewN] at hs5)
              have K5 : Kept [] wr w5 := by (repeat' (first | (with_reducible exact Kept.refl _ _) | (with_reducible assumption) | (with_reducible refine Kept.then_ (by with_reducible assumption) ?_) | (with_reducible refine Kept.thenS (by with_reducible assumption) ?_) | (with_reducible refine Kept.alloc ?_ _) | (with_reducible refine Kept.drew ?_) | (with_reducible refine Kept.drewN ?_ _) | (with_reducible refine Kept.setNew ?_ ?_ _) | ((try simp only [World.size_alloc, World.size_setCell, World.size_drew, size_drewN] at *); (try dsimp only); omega)))
              go_wp2_with fail
              go_ret
              exact ⟨ret_bool HB.out.symm, K5.then_ hk.out⟩
            · have q2 : decide ((re ls j).1 ≤ a + (n - 1)) = false := by simp; omega
              have HN : Hid (∀ i, i < j + 1 → ¬ ((re ls i).1 < a + n ∧ a < (re ls i).1 + mx (re ls i).2.1)) := Lib.hid (fun i hi => by
                rcases Nat.lt_or_ge i j with h | h
                · exact hN.out i h
                · rw [show i = j by omega]; omega)
              clear h1 h2
              generalize re ls j = e at *
              obtain ⟨ea, en, el, eh⟩ := e
              dsimp only at y0 y1 y2 bq DT q1 q2
              generalize mx en = me at *
              go_wp2_with fail
              refine wp_region_kept (by kernel_rfl) (by kernel_rfl) ?_
              intro TT FF hne hFF hcl
              have q_r0 := fun x => (Blk.keep0 (Blk.new _ _ _) (hFF x)).cell
              repeat (first | go_big_quiet_step ((first | (go_at_call 50; (with_reducible refine kept_call hcl (DT.out _))))) | quiet_step ((first | (go_at_call 50; (with_reducible refine kept_call hcl (DT.out _))))))
              refine wpQuiet_nil ?_
              rintro w5 ⟨x, hx⟩
              have hb5 := hFF x
              rw [← hx] at hb5
              clear hx x hne hFF hcl q_r0
              have hs5 := hb5.size
              (try simp only [World.size_alloc, World.size_setCell, World.size_drew, size_drewN] at hs5)
              have K5 : Kept [] wr w5 := by (repeat' (first | (with_reducible exact Kept.refl _ _) | (with_reducible assumption) | (with_reducible refine Kept.then_ (by with_reducible assumption) ?_) | (with_reducible refine Kept.thenS (by with_reducible assumption) ?_) | (with_reducible refine Kept.alloc ?_ _) | (with_reducible refine Kept.drew ?_) | (with_reducible refine Kept.drewN ?_ _) | (with_reducible refine Kept.setNew ?_ ?_ _) | ((try simp only [World.size_alloc, World.size_setCell, World.size_drew, size_drewN] at *); (try dsimp only); omega)))
              go_wp2_with fail
              go_roundw
              case rel => exact ⟨j + 1, by omega, by go_num, HN, Lib.hid (K5.then_ hk.out)⟩
              case measure => simp [intOf]; omega
          · have q1 : decide (a ≤ (re ls j).1 + mx (re ls j).2.1 - 1) = false := by simp; omega
            have HN : Hid (∀ i, i < j + 1 → ¬ ((re ls i).1 < a + n ∧ a < (re ls i).1 + mx (re ls i).2.1)) := Lib.hid (fun i hi => by
              rcases Nat.lt_or_ge i j with h | h
              · exact hN.out i h
              · rw [show i = j by omega]; omega)
            clear h1
            generalize re ls j = e at *
            obtain ⟨ea, en, el, eh⟩ := e
            dsimp only at y0 y1 y2 bq DT q1
            generalize mx en = me at *
            go_wp2_with fail
            refine wp_region_kept (by kernel_rfl) (by kernel_rfl) ?_
            intro TT FF hne hFF hcl
            have q_r0 := fun x => (Blk.keep0 (Blk.new _ _ _) (hFF x)).cell
            repeat (first | go_big_quiet_step ((first | (go_at_call 50; (with_reducible refine kept_call hcl (DT.out _))))) | quiet_step ((first | (go_at_call 50; (with_reducible refine kept_call hcl (DT.out _))))))
            refine wpQuiet_nil ?_
            rintro w5 ⟨x, hx⟩
            have hb5 := hFF x
            rw [← hx] at hb5
            clear hx x hne hFF hcl q_r0
            have hs5 := hb5.size
            (try simp only [World.size_alloc, World.size_setCell, World.size_drew, size_drewN] at hs5)
            have K5 : Kept [] wr w5 := by (repeat' (first | (with_reducible exact Kept.refl _ _) | (with_reducible assumption) | (with_reducible refine Kept.then_ (by with_reducible assumption) ?_) | (with_reducible refine Kept.thenS (by with_reducible assumption) ?_) | (with_reducible refine Kept.alloc ?_ _) | (with_reducible refine Kept.drew ?_) | (with_reducible refine Kept.drewN ?_ _) | (with_reducible refine Kept.setNew ?_ ?_ _) | ((try simp only [World.size_alloc, World.size_setCell, World.size_drew, size_drewN] at *); (try dsimp only); omega)))
            go_wp2_with fail
            go_roundw
            case rel => exact ⟨j + 1, by omega, by go_num, HN, Lib.hid (K5.then_ hk.out)⟩
            case measure => simp [intOf]; omega
        · obtain rfl : j = ls.length := by omega
          have HB : Hid (decide (FreeL ls a n) = true) := Lib.hid (decide_eq_true (HF.out.2 hN.out))
          go_wp2_with fail
          go_ret
          exact ⟨ret_bool HB.out.symm, hk.out⟩
    · have hF : decide (FreeL ls a n) = false := decide_eq_false (fun hf => by rcases hf with h | h <;> omega)
      rw [hF]
      obtain ⟨r, hr⟩ : ∃ r, a + (n - 1) - 18446744073709551616 = r := ⟨_, rfl⟩
      have ow : IntKind.u64.wrap (a + (n - 1)) = r := by rw [IntKind.wrap_u64]; omega
      have oo : decide (r < a) = true := by simp; omega
      clear hr hF
      go_enter Try.func39, Try.ntmps39
      go_wp2_with fail
      go_ret
      exact ⟨rfl, by (repeat' (first | (with_reducible exact Kept.refl _ _) | (with_reducible assumption) | (with_reducible refine Kept.then_ (by with_reducible assumption) ?_) | (with_reducible refine Kept.thenS (by with_reducible assumption) ?_) | (with_reducible refine Kept.alloc ?_ _) | (with_reducible refine Kept.drew ?_) | (with_reducible refine Kept.drewN ?_ _) | (with_reducible refine Kept.setNew ?_ ?_ _) | ((try simp only [World.size_alloc, World.size_setCell, World.size_drew, size_drewN] at *); (try dsimp only); omega)))⟩
end Go.Proofs.Ytdallcepachhoaa
