/- The document's May. -/
import Derived.Test.YtdallcepachhoaaLgRefB
set_option linter.unusedVariables false
set_option linter.unusedSimpArgs false
namespace Go.Proofs.Ytdallcepachhoaa
open Go.RowKit
def Pw (x : Int) : Prop := x = 1 ∨ x = 2 ∨ x = 4 ∨ x = 8 ∨ x = 16 ∨ x = 32 ∨ x = 64 ∨ x = 128 ∨ x = 256 ∨ x = 512 ∨ x = 1024
theorem pw_pow {x : Int} (h : Pw x) : IsPow x := by
  unfold Pw at h
  rcases h with rfl | rfl | rfl | rfl | rfl | rfl | rfl | rfl | rfl | rfl | rfl
  · exact ⟨0, by omega, by decide⟩
  · exact ⟨1, by omega, by decide⟩
  · exact ⟨2, by omega, by decide⟩
  · exact ⟨3, by omega, by decide⟩
  · exact ⟨4, by omega, by decide⟩
  · exact ⟨5, by omega, by decide⟩
  · exact ⟨6, by omega, by decide⟩
  · exact ⟨7, by omega, by decide⟩
  · exact ⟨8, by omega, by decide⟩
  · exact ⟨9, by omega, by decide⟩
  · exact ⟨10, by omega, by decide⟩
theorem pow_pw {x : Int} (h : IsPow x) (hl : x ≤ 1024) : Pw x := by
  obtain ⟨i, _, rfl⟩ := h
  have hi : i ≤ 10 := by
    rcases Nat.lt_or_ge 10 i with h | h
    · exfalso
      have h1 : 2 ^ 11 ≤ 2 ^ i := Nat.pow_le_pow_right (by omega) h
      have h2 : ((2 ^ i : Nat) : Int) = 2 ^ i := by simp
      rw [← h2] at hl
      omega
    · exact h
  unfold Pw
  have : i = 0 ∨ i = 1 ∨ i = 2 ∨ i = 3 ∨ i = 4 ∨ i = 5 ∨ i = 6 ∨ i = 7 ∨ i = 8 ∨ i = 9 ∨ i = 10 := by omega
  rcases this with rfl | rfl | rfl | rfl | rfl | rfl | rfl | rfl | rfl | rfl | rfl <;> simp
set_option maxRecDepth 100000 in
set_option maxHeartbeats 4000000 in
theorem rmay_any (a n l : Int) (w : World) (h1 : 0 ≤ a ∧ a ≤ 18446744073709551615) (h2 : 0 ≤ n ∧ n ≤ 18446744073709551615) (h3 : 0 ≤ l ∧ l ≤ 18446744073709551615) (b : Bool) (hb : decide (May a n l) = b) :
    Calls Try.prog 51 #[.agg #[.int .u64 a, .int .u64 n, .int .u64 l]] w fun e w' => e = .returned (.bool b) ∧ Kept [] w w' := by
  subst hb
  have DT := Lib.hid (fun w' => takes_any a n l w' h2.1 _ rfl)
  by_cases k1 : n ≤ 1048576
  · have q1 : decide (1048576 < n) = false := by simp; omega
    by_cases k2 : a ≤ 1048576
    · have q2 : decide (1048576 < a) = false := by simp; omega
      have hmx := mx_pos h2.1
      by_cases k3 : a + mx n ≤ 1048576
      · have q3 : decide (1048576 < a + mx n) = false := by simp; omega
        have HM : Hid (∀ x, Pw x → x = l → decide (May a n l) = decide (a % x = 0)) := Lib.hid (fun x hx e => by
          subst e
          rw [decide_eq_decide]
          have : x ≤ 1024 := by unfold Pw at hx; omega
          exact ⟨fun h => h.2.2.2.2.2, fun h => ⟨k1, k2, k3, pw_pow hx, this, h⟩⟩)
        have HN : Hid ((∀ x, Pw x → x ≠ l) → decide (May a n l) = false) := Lib.hid (fun h => decide_eq_false (fun hm => h l (pow_pw hm.2.2.2.1 hm.2.2.2.2.1) rfl))
        obtain ⟨PB, hPB⟩ : ∃ PB, decide (May a n l) = PB := ⟨_, rfl⟩
        rw [hPB] at HM HN ⊢
        clear hPB
        generalize mx n = me at *
        go_enter Try.func51, Try.ntmps51
        go_wp2_with fail
        refine wp_region_kept (by kernel_rfl) (by kernel_rfl) ?_
        intro TT FF hne hFF hcl
        have q_r0 := fun x => (Blk.keep0 (Blk.new _ _ _) (hFF x)).cell
        repeat (first | go_big_quiet_step ((first | (go_at_call 50; (with_reducible refine kept_call hcl (DT.out _))))) | quiet_step ((first | (go_at_call 50; (with_reducible refine kept_call hcl (DT.out _))))))
        refine wpQuiet_nil ?_
        rintro w5 ⟨x, hx⟩
        have hb5 := hFF x
        rw [← hx] at hb5
        clear hx x hne hFF hcl q_r0
        have hs5 := hb5.size
        (try simp only [World.size_alloc, World.size_setCell, World.size_drew, size_drewN] at hs5)
        have B5 : Blk w5 w.heap.size 33 #[.int .u64 a, .int .u64 n, .int .u64 l] := (Blk.new w _ _).keep0 hb5
        have K5 : Kept [] w w5 := by (repeat' (first | (with_reducible exact Kept.refl _ _) | (with_reducible assumption) | (with_reducible refine Kept.then_ (by with_reducible assumption) ?_) | (with_reducible refine Kept.thenS (by with_reducible assumption) ?_) | (with_reducible refine Kept.alloc ?_ _) | (with_reducible refine Kept.drew ?_) | (with_reducible refine Kept.drewN ?_ _) | (with_reducible refine Kept.setNew ?_ ?_ _) | ((try simp only [World.size_alloc, World.size_setCell, World.size_drew, size_drewN] at *); (try dsimp only); omega)))
        have HB5 := Lib.hid B5
        have HK5 := Lib.hid K5
        clear B5 K5 hb5
        go_wp2_with fail
        go_loopw [3] (fun v wr => ∃ x : Int, v = .int .u64 x ∧ (Pw x ∨ x = 2048) ∧ Hid (∀ y, Pw y → y < x → y ≠ l) ∧ wr = w5) (fun v _ => (2048 - intOf v).toNat)
        case atStart => exact ⟨1, rfl, .inl (.inl rfl), Lib.hid (fun y hy h => by unfold Pw at hy; omega), rfl⟩
        case round =>
          obtain ⟨x, rfl, hx, hN, rfl⟩ := hrel
          have B5 := HB5.out
          have B5c := B5.cell
          have B5l := B5.lt
          rcases hx with hx | rfl
          · have hx0 : 1 ≤ x ∧ x ≤ 1024 := by unfold Pw at hx; omega
            have qx : decide (x ≤ 1024) = true := by simp; omega
            by_cases he : x = l
            · have HE := Lib.hid (HM.out x hx he)
              subst he
              have n0 : (x == 0) = false := by rw [beq_eq_false_iff_ne]; omega
              have n1 : ¬ (x = 0) := by omega
              have tm : Int.tmod a x = a % x := Int.tmod_eq_emod_of_nonneg h1.1
              clear hx hN
              go_wp2_with fail
              go_ret
              exact ⟨ret_bool (by rw [HE.out]; (try rfl)), HK5.out⟩
            · have hb : (x == l) = false := by rw [beq_eq_false_iff_ne]; exact he
              have HN' : Hid (∀ y, Pw y → y < x * 2 → y ≠ l) := Lib.hid (fun y hy h => by
                rcases Int.lt_trichotomy y x with h4 | h4 | h4
                · exact hN.out y hy h4
                · rw [h4]; exact he
                · exfalso
                  unfold Pw at hy hx
                  omega)
              have HX : Hid (Pw (x * 2) ∨ x * 2 = 2048) := Lib.hid (by unfold Pw at hx ⊢; omega)
              clear hx he
              go_wp2_with fail
              go_roundw
              case rel => exact ⟨x * 2, by go_num, HX.out, HN', by trivial⟩
              case measure => simp [intOf]; omega
          · have HE := Lib.hid (HN.out (fun x hx => hN.out x hx (by unfold Pw at hx; omega)))
            go_wp2_with fail
            go_ret
            exact ⟨ret_bool HE.out.symm, HK5.out⟩
      · have q3 : decide (1048576 < a + mx n) = true := by simp; omega
        have hF : decide (May a n l) = false := decide_eq_false (fun h => k3 h.2.2.1)
        rw [hF]
        clear hF k3
        generalize mx n = me at *
        go_enter Try.func51, Try.ntmps51
        go_wp2_with fail
        refine wp_region_kept (by kernel_rfl) (by kernel_rfl) ?_
        intro TT FF hne hFF hcl
        have q_r0 := fun x => (Blk.keep0 (Blk.new _ _ _) (hFF x)).cell
        repeat (first | go_big_quiet_step ((first | (go_at_call 50; (with_reducible refine kept_call hcl (DT.out _))))) | quiet_step ((first | (go_at_call 50; (with_reducible refine kept_call hcl (DT.out _))))))
        refine wpQuiet_nil ?_
        rintro w5 ⟨x, hx⟩
        have hb5 := hFF x
        rw [← hx] at hb5
        clear hx x hne hFF hcl q_r0
        have hs5 := hb5.size
        (try simp only [World.size_alloc, World.size_setCell, World.size_drew, size_drewN] at hs5)
        go_wp2_with fail
        go_ret
        exact ⟨rfl, by (repeat' (first | (with_reducible exact Kept.refl _ _) | (with_reducible assumption) | (with_reducible refine Kept.then_ (by with_reducible assumption) ?_) | (with_reducible refine Kept.thenS (by with_reducible assumption) ?_) | (with_reducible refine Kept.alloc ?_ _) | (with_reducible refine Kept.drew ?_) | (with_reducible refine Kept.drewN ?_ _) | (with_reducible refine Kept.setNew ?_ ?_ _) | ((try simp only [World.size_alloc, World.size_setCell, World.size_drew, size_drewN] at *); (try dsimp only); omega)))⟩
    · have q2 : decide (1048576 < a) = true := by simp; omega
      have hF : decide (May a n l) = false := decide_eq_false (fun h => k2 h.2.1)
      rw [hF]
      clear hF k2
      generalize mx n = me at *
      go_enter Try.func51, Try.ntmps51
      go_wp2_with fail
      refine wp_region_kept (by kernel_rfl) (by kernel_rfl) ?_
      intro TT FF hne hFF hcl
      have q_r0 := fun x => (Blk.keep0 (Blk.new _ _ _) (hFF x)).cell
      repeat (first | go_big_quiet_step ((first | (go_at_call 50; (with_reducible refine kept_call hcl (DT.out _))))) | quiet_step ((first | (go_at_call 50; (with_reducible refine kept_call hcl (DT.out _))))))
      refine wpQuiet_nil ?_
      rintro w5 ⟨x, hx⟩
      have hb5 := hFF x
      rw [← hx] at hb5
      clear hx x hne hFF hcl q_r0
      have hs5 := hb5.size
      (try simp only [World.size_alloc, World.size_setCell, World.size_drew, size_drewN] at hs5)
      go_wp2_with fail
      go_ret
      exact ⟨rfl, by (repeat' (first | (with_reducible exact Kept.refl _ _) | (with_reducible assumption) | (with_reducible refine Kept.then_ (by with_reducible assumption) ?_) | (with_reducible refine Kept.thenS (by with_reducible assumption) ?_) | (with_reducible refine Kept.alloc ?_ _) | (with_reducible refine Kept.drew ?_) | (with_reducible refine Kept.drewN ?_ _) | (with_reducible refine Kept.setNew ?_ ?_ _) | ((try simp only [World.size_alloc, World.size_setCell, World.size_drew, size_drewN] at *); (try dsimp only); omega)))⟩
  · have q1 : decide (1048576 < n) = true := by simp; omega
    have hF : decide (May a n l) = false := decide_eq_false (fun h => k1 h.1)
    rw [hF]
    clear hF k1
    generalize mx n = me at *
    go_enter Try.func51, Try.ntmps51
    go_wp2_with fail
    refine wp_region_kept (by kernel_rfl) (by kernel_rfl) ?_
    intro TT FF hne hFF hcl
    have q_r0 := fun x => (Blk.keep0 (Blk.new _ _ _) (hFF x)).cell
    repeat (first | go_big_quiet_step ((first | (go_at_call 50; (with_reducible refine kept_call hcl (DT.out _))))) | quiet_step ((first | (go_at_call 50; (with_reducible refine kept_call hcl (DT.out _))))))
    refine wpQuiet_nil ?_
    rintro w5 ⟨x, hx⟩
    have hb5 := hFF x
    rw [← hx] at hb5
    clear hx x hne hFF hcl q_r0
    have hs5 := hb5.size
    (try simp only [World.size_alloc, World.size_setCell, World.size_drew, size_drewN] at hs5)
    go_wp2_with fail
    go_ret
    exact ⟨rfl, by (repeat' (first | (with_reducible exact Kept.refl _ _) | (with_reducible assumption) | (with_reducible refine Kept.then_ (by with_reducible assumption) ?_) | (with_reducible refine Kept.thenS (by with_reducible assumption) ?_) | (with_reducible refine Kept.alloc ?_ _) | (with_reducible refine Kept.drew ?_) | (with_reducible refine Kept.drewN ?_ _) | (with_reducible refine Kept.setNew ?_ ?_ _) | ((try simp only [World.size_alloc, World.size_setCell, World.size_drew, size_drewN] at *); (try dsimp only); omega)))⟩
end Go.Proofs.Ytdallcepachhoaa
