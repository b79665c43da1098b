/- All, where the chain isn't the list's: refused. -/
import Derived.Test.YtapolaefdbdnpaaAll
set_option linter.unusedVariables false
set_option linter.unusedSimpArgs false
namespace Go.Proofs.Ytapolaefdbdnpaa
open Go.RowKit Go.Shelf
attribute [local go_sem] Oper.semAt_some
set_option maxRecDepth 100000 in
set_option maxHeartbeats 4000000 in
theorem all_bad3 (w : World) (b p : Nat) (hd n : Int) (hl : ListB w b hd n)
    (D : Hid (∀ w', Kept [] w w' → Calls Try.prog 14 #[.pointer (some ⟨p, 0, none⟩), .int .u64 hd, .int .i64 n] w' fun e w'' => e = .returned (.tuple #[.agg #[.int .u64 0, .int .i64 0], .int .i64 3]) ∧ Kept [] w' w'')) :
    Calls Try.prog 15 #[.pointer (some ⟨b, 0, none⟩), .pointer (some ⟨p, 0, none⟩)] w fun e w' => e = .returned (.tuple #[.slice none 0 0, .int .i64 3]) ∧ Kept [] w w' := by
  have HL := Lib.hid hl
  have hbl := Blk.lt hl
  have c0 := Blk.cell hl 0
  have c1 := Blk.cell hl 1
  clear hl
  refine (callsIn_wide (n := 3)).1 ?_
  have hro : Fence.wide.round = none := rfl
  refine callsIn_of_wp_marks Try.func15 rfl trivial ?_ hro
  simp only [Try.ntmps15, List.size_toArray, List.length_cons, List.length_nil, Nat.reduceAdd, Nat.reduceSub, Array.replicate_succ, Array.replicate_zero, List.push_toArray, List.append_toArray, List.nil_append, List.cons_append]
  gi_wp2_with (fail)
  gi_cut [6, 7] from 15 (fun s6 s7 wx => s7 = .int .i64 3 ∧ ∃ B, s6 = .pointer (some ⟨B, 0, none⟩) ∧ w.heap.size < B ∧ Hid (Blk wx B 32 #[.int .u64 0, .int .i64 0]) ∧ Hid (Blk wx w.heap.size 29 #[.slice none 0 0]) ∧ Kept [] w wx)
  case first =>
    refine calm_region ?_
    gi_region_with ((try (refine ⟨trivial, ?_⟩)); gi_at_call 14; refine (callsIn_wide.2 (D.out _ (by (repeat' (first | (with_reducible exact Kept.refl _ _) | (with_reducible assumption) | (with_reducible refine Kept.then_ (by with_reducible assumption) ?_) | (with_reducible refine Kept.thenS (by with_reducible assumption) ?_) | (with_reducible refine Kept.alloc ?_ _) | (with_reducible refine Kept.drew ?_) | (with_reducible refine Kept.drewN ?_ _) | (with_reducible refine Kept.setNew ?_ ?_ _) | ((try simp only [World.size_alloc, World.size_setCell, World.size_drew, size_drewN] at *); (try dsimp only); omega)))))).mono ?_; rintro e w4 ⟨rfl, hb1⟩; (try (have hx : Blk w4 (w.heap.size + 1) 32 #[.int .u64 0, .int .i64 0] := (by first | exact Blk.keep0 (Blk.new' _ _ _ (by simp)) hb1 | exact Blk.keep0 (Blk.drew (Blk.new' _ _ _ (by simp))) hb1); have x0 := hx.cell 0; have x1 := hx.cell 1; have y0 := hx.frozen 0; have y1 := hx.frozen 1; have zz := hx.lt)))
    all_goals gi_wp2
    all_goals gi_meet
    all_goals (first
      | exact ⟨rfl, w4.heap.size, rfl, by have := hb1.size; simp [World.size_drew] at this; omega, Lib.hid (Blk.new _ _ _), Lib.hid (Blk.alloc (Blk.keep0 (Blk.drew (Blk.new w _ _)) hb1) _), (hb1.then_ ((Kept.refl [] w).alloc _).drew).alloc _⟩
      | exact ⟨rfl, w.heap.size + 1, rfl, by omega, Lib.hid ((Blk.set_ hx 0 _).set' rfl), Lib.hid (((Blk.keep0 (Blk.drew ((Blk.new w _ _).alloc _)) hb1).far (by simp) _).far (by simp) _), ((hb1.then_ ((((Kept.refl [] w).alloc _).alloc _).drew)).setNew (by simp) _).setNew (by simp) _⟩)
  case rest =>
    obtain ⟨rfl, B, rfl, hB, hbc, hbo, hkc⟩ := hcut
    have d0 := Blk.cell (HL.out.keep0 hkc) 0
    have d1 := Blk.cell (HL.out.keep0 hkc) 1
    have d2 := hbc.out.cell 0
    have d3 := hbc.out.cell 1
    have dl := hbc.out.lt
    have dl2 := hkc.size
    have o0 := hbo.out.cell 0
    have o1 := hbo.out.frozen 0
    have ol := hbo.out.lt
    gi_wp2_with (fail)
    gi_quiet (fail)
    gi_wp2_with (fail)
    have o2 := ((Blk.drewN hbo.out nq).set' (i := 0) (u := .slice none 0 0) rfl).cell 0
    refine ⟨.tuple #[.slice none 0 0, .int .i64 3], ?_, rfl, (hkc.drewN _).setNew (by simp) _⟩
    simp [results, Try.results15, go_sem, o2, Try.underlying29]
set_option maxRecDepth 100000 in
set_option maxHeartbeats 4000000 in
theorem all_bad0 (w : World) (b p : Nat) (hd n cn : Int) (q1 : (cn != n) = true) (q2 : (cn == n) = false) (q3 : decide (cn = n) = false) (hl : ListB w b hd n)
    (D : Hid (∀ w', Kept [] w w' → Calls Try.prog 14 #[.pointer (some ⟨p, 0, none⟩), .int .u64 hd, .int .i64 n] w' fun e w'' => e = .returned (.tuple #[.agg #[.int .u64 hd, .int .i64 cn], .int .i64 0]) ∧ Kept [] w' w'')) :
    Calls Try.prog 15 #[.pointer (some ⟨b, 0, none⟩), .pointer (some ⟨p, 0, none⟩)] w fun e w' => e = .returned (.tuple #[.slice none 0 0, .int .i64 3]) ∧ Kept [] w w' := by
  have HL := Lib.hid hl
  have hbl := Blk.lt hl
  have c0 := Blk.cell hl 0
  have c1 := Blk.cell hl 1
  clear hl
  refine (callsIn_wide (n := 3)).1 ?_
  have hro : Fence.wide.round = none := rfl
  refine callsIn_of_wp_marks Try.func15 rfl trivial ?_ hro
  simp only [Try.ntmps15, List.size_toArray, List.length_cons, List.length_nil, Nat.reduceAdd, Nat.reduceSub, Array.replicate_succ, Array.replicate_zero, List.push_toArray, List.append_toArray, List.nil_append, List.cons_append]
  gi_wp2_with (fail)
  gi_cut [6, 7] from 15 (fun s6 s7 wx => s7 = .int .i64 0 ∧ ∃ B, s6 = .pointer (some ⟨B, 0, none⟩) ∧ w.heap.size < B ∧ Hid (Blk wx B 32 #[.int .u64 hd, .int .i64 cn]) ∧ Hid (Blk wx w.heap.size 29 #[.slice none 0 0]) ∧ Kept [] w wx)
  case first =>
    refine calm_region ?_
    gi_region_with ((try (refine ⟨trivial, ?_⟩)); gi_at_call 14; refine (callsIn_wide.2 (D.out _ (by (repeat' (first | (with_reducible exact Kept.refl _ _) | (with_reducible assumption) | (with_reducible refine Kept.then_ (by with_reducible assumption) ?_) | (with_reducible refine Kept.thenS (by with_reducible assumption) ?_) | (with_reducible refine Kept.alloc ?_ _) | (with_reducible refine Kept.drew ?_) | (with_reducible refine Kept.drewN ?_ _) | (with_reducible refine Kept.setNew ?_ ?_ _) | ((try simp only [World.size_alloc, World.size_setCell, World.size_drew, size_drewN] at *); (try dsimp only); omega)))))).mono ?_; rintro e w4 ⟨rfl, hb1⟩; (try (have hx : Blk w4 (w.heap.size + 1) 32 #[.int .u64 0, .int .i64 0] := (by first | exact Blk.keep0 (Blk.new' _ _ _ (by simp)) hb1 | exact Blk.keep0 (Blk.drew (Blk.new' _ _ _ (by simp))) hb1); have x0 := hx.cell 0; have x1 := hx.cell 1; have y0 := hx.frozen 0; have y1 := hx.frozen 1; have zz := hx.lt)))
    all_goals gi_wp2
    all_goals gi_meet
    all_goals (first
      | exact ⟨rfl, w4.heap.size, rfl, by have := hb1.size; simp [World.size_drew] at this; omega, Lib.hid (Blk.new _ _ _), Lib.hid (Blk.alloc (Blk.keep0 (Blk.drew (Blk.new w _ _)) hb1) _), (hb1.then_ ((Kept.refl [] w).alloc _).drew).alloc _⟩
      | exact ⟨rfl, w.heap.size + 1, rfl, by omega, Lib.hid ((Blk.set_ hx 0 _).set' rfl), Lib.hid (((Blk.keep0 (Blk.drew ((Blk.new w _ _).alloc _)) hb1).far (by simp) _).far (by simp) _), ((hb1.then_ ((((Kept.refl [] w).alloc _).alloc _).drew)).setNew (by simp) _).setNew (by simp) _⟩)
  case rest =>
    obtain ⟨rfl, B, rfl, hB, hbc, hbo, hkc⟩ := hcut
    have d0 := Blk.cell (HL.out.keep0 hkc) 0
    have d1 := Blk.cell (HL.out.keep0 hkc) 1
    have d2 := hbc.out.cell 0
    have d3 := hbc.out.cell 1
    have dl := hbc.out.lt
    have dl2 := hkc.size
    have o0 := hbo.out.cell 0
    have o1 := hbo.out.frozen 0
    have ol := hbo.out.lt
    gi_wp2_with (fail)
    gi_quiet (fail)
    gi_wp2_with (fail)
    have o2 := ((Blk.drewN hbo.out nq).set' (i := 0) (u := .slice none 0 0) rfl).cell 0
    refine ⟨.tuple #[.slice none 0 0, .int .i64 3], ?_, rfl, (hkc.drewN _).setNew (by simp) _⟩
    simp [results, Try.results15, go_sem, o2, Try.underlying29]
/-- All, whatever hangs there: refused if it isn't n. -/
theorem all_not (w : World) (b p g : Nat) (zs : List Int) (hd : Nat) (n : Int) (hM : MemB w p g zs) (hl : ListB w b hd n) (hd64 : (hd : Int) < 18446744073709551616) (hn64 : -9223372036854775808 ≤ n ∧ n ≤ 9223372036854775807) (h : ∀ N : Nat, at_ zs hd N = some 0 → (N : Int) = n → zs.length < N) :
    Calls Try.prog 15 #[.pointer (some ⟨b, 0, none⟩), .pointer (some ⟨p, 0, none⟩)] w fun e w' => e = .returned (.tuple #[.slice none 0 0, .int .i64 3]) ∧ Kept [] w w' := by
  by_cases hx : ∃ N : Nat, at_ zs hd N = some 0 ∧ (N = 0 ∨ (N : Int) ≤ min n (zs.length : Int))
  · obtain ⟨N, hN, hNm⟩ := hx
    have hne : (N : Int) ≠ n := fun e => by have := h N hN e; omega
    refine all_bad0 w b p hd n N (by simpa using hne) (by simpa using hne) (by simpa using hne) hl (Lib.hid (fun w' hk => ?_))
    refine (chain_any w' p g zs (hM.keep0 hk) hd hd64 n _ rfl hn64).mono ?_
    rintro e w'' ⟨h1 | ⟨h1, _⟩, hk2⟩
    · obtain ⟨M, hM2, _, rfl⟩ := h1
      refine ⟨?_, hk2⟩
      have : M = N := by
        rcases Nat.lt_trichotomy M N with h2 | h2 | h2
        · have := at_stop hM2 (.inl rfl) N h2
          rw [this] at hN; cases hN
        · exact h2
        · have := at_stop hN (.inl rfl) M h2
          rw [this] at hM2; cases hM2
      rw [this]
    · exact absurd hNm (h1 N hN)
  · refine all_bad3 w b p hd n hl (Lib.hid (fun w' hk => ?_))
    refine (chain_any w' p g zs (hM.keep0 hk) hd hd64 n _ rfl hn64).mono ?_
    rintro e w'' ⟨h1 | ⟨_, h1⟩, hk2⟩
    · obtain ⟨M, hM2, h3, _⟩ := h1
      exact absurd ⟨M, hM2, h3⟩ hx
    · exact ⟨h1, hk2⟩
end Go.Proofs.Ytapolaefdbdnpaa
