/- Meet. -/
import Derived.Test.YtfmgeidlbekfpaaGeoSrt
set_option linter.unusedVariables false
set_option linter.unusedSimpArgs false
namespace Go.Proofs.Ytfmgeidlbekfpaa
open Go.RowKit
/-- Two runs meet. -/
def ov (x y : RunT) : Bool := !dropP x && !dropP y && decide (x.1 < endV y.1 y.2.1 y.2.2) && decide (y.1 < endV x.1 x.2.1 x.2.2)
theorem ov_symm (x y : RunT) : ov x y = ov y x := by
  unfold ov
  cases dropP x <;> cases dropP y <;> simp [Bool.and_comm]
def Sep (rs : List RunT) : Prop := rs.Pairwise (fun x y => ov x y = false)
instance (rs : List RunT) : Decidable (Sep rs) := by unfold Sep; infer_instance
theorem sep_keep (rs : List RunT) : Sep (keepR rs) ↔ Sep rs := by
  unfold Sep keepR
  rw [List.pairwise_filter]
  constructor
  · refine List.Pairwise.imp ?_
    intro a b h
    cases ha : dropP a with
    | true => simp [ov, ha]
    | false => cases hb : dropP b with
      | true => simp [ov, hb]
      | false => exact h (by simp [ha]) (by simp [hb])
  · exact List.Pairwise.imp (fun h _ _ => h)
theorem sep_perm {rs ss : List RunT} (h : ss.Perm rs) : Sep ss ↔ Sep rs := List.Perm.pairwise_iff (fun {x y} h => by rw [ov_symm]; exact h) h
theorem end_gt {r : RunT} (h : dropP r = false) : r.1 < endV r.1 r.2.1 r.2.2 := by
  unfold dropP at h
  simp at h
  obtain ⟨h1, h2⟩ := h
  have h1' := h1
  unfold MayP at h1
  unfold endV
  rw [if_pos h1']
  have : 1 * 1 ≤ r.2.2 * r.2.1 := Int.mul_le_mul (by omega) (by omega) (by omega) (by omega)
  omega
theorem sep_next {ss : List RunT} (hs : ss.Pairwise (fun a b => a.1 ≤ b.1)) (h : ∀ i : Nat, 0 < i → i < ss.length → endV (rd ss (i - 1)).1 (rd ss (i - 1)).2.1 (rd ss (i - 1)).2.2 ≤ (rd ss i).1) : Sep ss := by
  unfold Sep
  rw [List.pairwise_iff_getElem]
  intro i j hi hj hij
  rw [List.pairwise_iff_getElem] at hs
  have e1 := h (i + 1) (by omega) (by omega)
  have e0 : rd ss (i + 1 - 1) = ss[i] := by unfold rd; rw [Nat.add_sub_cancel, List.getElem?_eq_getElem hi]; rfl
  have e2 : rd ss (i + 1) = ss[i + 1] := by unfold rd; rw [List.getElem?_eq_getElem (by omega)]; rfl
  rw [e0, e2] at e1
  have : ss[i + 1].1 ≤ ss[j].1 := by
    rcases Nat.lt_or_ge (i + 1) j with h | h
    · exact hs _ _ _ _ h
    · have : i + 1 = j := by omega
      subst this; exact Int.le_refl _
  have hd : decide (ss[j].1 < endV ss[i].1 ss[i].2.1 ss[i].2.2) = false := decide_eq_false (by omega)
  unfold ov
  rw [hd, Bool.and_false]
theorem not_sep {ss : List RunT} (hs : ss.Pairwise (fun a b => a.1 ≤ b.1)) (hk : ∀ r, r ∈ ss → dropP r = false) {i : Nat} (h0 : 0 < i) (hi : i < ss.length) (h : (rd ss i).1 < endV (rd ss (i - 1)).1 (rd ss (i - 1)).2.1 (rd ss (i - 1)).2.2) : ¬ Sep ss := by
  intro hp
  unfold Sep at hp
  rw [List.pairwise_iff_getElem] at hs hp
  have h1 := hs (i - 1) i (by omega) hi (by omega)
  have h2 := hp (i - 1) i (by omega) hi (by omega)
  have e0 : rd ss (i - 1) = ss[i - 1] := by unfold rd; rw [List.getElem?_eq_getElem (by omega)]; rfl
  have e2 : rd ss i = ss[i] := by unfold rd; rw [List.getElem?_eq_getElem hi]; rfl
  rw [e0, e2] at h
  have k0 := hk ss[i - 1] (List.getElem_mem _)
  have k1 := hk ss[i] (List.getElem_mem _)
  have g1 := end_gt k1
  unfold ov at h2
  rw [k0, k1, decide_eq_true h, decide_eq_true (by omega)] at h2
  simp at h2
theorem OwnS.of_nil {B : Nat} {w : World} {rs : List RunT} (h : rs.length = 0) : OwnS B 43 3 encR w (.slice none 0 0) rs := by
  obtain rfl := List.length_eq_zero_iff.1 h
  exact OwnS.nil _ _ _
theorem clone_any (A : Option Addr) (n c : Nat) (rs : List RunT) (w : World) (hn : n = rs.length) (hA : A = none → n = 0) (hr : RowS encR w A rs) (hl : n ≤ 1000000) :
    Calls Try.prog 30 #[.slice A n c] w fun e w' => CloneIs w rs e w' ∧ Kept [] w w' := by
  cases A with
  | none =>
    obtain rfl := hA rfl
    exact (clone_nil w c).mono (by rintro e w' ⟨rfl, rfl⟩; exact ⟨⟨_, rfl, OwnS.of_nil hn.symm⟩, Kept.refl _ _⟩)
  | some ad => exact clone_some ad n c rs w hn hr hl
def OwnIs (B : Nat) (rs : List RunT) (e : Ending) (w' : World) : Prop := ∃ v, e = .returned v ∧ OwnS B 43 3 encR w' v rs
theorem kept_own {W w w' : World} {B g : Nat} (hk : Kept [] W w) (hWB : W.heap.size ≤ B) (hB : B ≤ g) (h : Kept [g] w w') : Kept [] W w' := hk.trans h (fun x hx hl => by simp at hx; omega)
theorem delete_own (W : World) (B : Nat) (v : Value) (rs : List RunT) (w : World) (ho : OwnS B 43 3 encR w v rs) (hz : ∀ r, r ∈ rs → 0 ≤ r.1 ∧ 0 ≤ r.2.1) (hn : rs.length ≤ 1000000) (hk : Kept [] W w) (hWB : W.heap.size ≤ B) :
    Calls Try.prog 29 #[v, .func (.func 31) #[] #[]] w fun e w' => OwnIs B (keepR rs) e w' ∧ Kept [] W w' := by
  rcases ho.2 with ⟨rfl, h0⟩ | ⟨g, cap, cur, rfl, hb, hg, hn1, hm, hs, ht⟩
  · refine (delete_nil 0 w).mono ?_
    rintro e w' ⟨rfl, hk1⟩
    obtain rfl := List.length_eq_zero_iff.1 h0
    exact ⟨⟨_, rfl, OwnS.of_nil rfl⟩, hk1.then_ hk⟩
  · refine (delete_any B g cap rs w ho hz hn).mono ?_
    rintro e w' ⟨⟨M, rfl, h1⟩, hk1⟩
    exact ⟨⟨_, rfl, h1⟩, kept_own hk hWB hb hk1⟩
def ReadR (w : World) (v : Value) (ss : List RunT) : Prop := (v = .slice none 0 0 ∧ ss = []) ∨ ∃ g c, v = .slice (some ⟨g, 0, none⟩) ss.length c ∧ CellsR w g ss
def SrtIs (v : Value) (rs : List RunT) (e : Ending) (w' : World) : Prop := e = .returned (.tuple #[]) ∧ ∃ ss : List RunT, ss.Perm rs ∧ ss.Pairwise (fun a b => a.1 ≤ b.1) ∧ ReadR w' v ss
theorem sort_own (W : World) (B : Nat) (v : Value) (rs : List RunT) (w : World) (ho : OwnS B 43 3 encR w v rs) (hn : rs.length ≤ 1000000) (hk : Kept [] W w) (hWB : W.heap.size ≤ B) :
    Calls Try.prog 32 #[v, .func (.func 33) #[] #[]] w fun e w' => SrtIs v rs e w' ∧ Kept [] W w' := by
  rcases ho.2 with ⟨rfl, h0⟩ | ⟨g, cap, cur, rfl, hb, hg, hn1, hm, hs, ht⟩
  · refine (sort_nil 0 w).mono ?_
    rintro e w' ⟨rfl, hk1⟩
    obtain rfl := List.length_eq_zero_iff.1 h0
    exact ⟨⟨rfl, [], List.Perm.refl _, List.Pairwise.nil, .inl ⟨rfl, rfl⟩⟩, hk1.then_ hk⟩
  · refine (sort_any B g cap rs w ho hn).mono ?_
    rintro e w' ⟨⟨rfl, ss, hp, hs, hc⟩, hk1⟩
    exact ⟨⟨rfl, ss, hp, hs, .inr ⟨g, cap, by rw [hp.length_eq], hc⟩⟩, kept_own hk hWB hb hk1⟩
theorem keepR_ok {rs : List RunT} (h : ∀ r, r ∈ rs → 0 ≤ r.1 ∧ 0 ≤ r.2.1) : ∀ r, r ∈ keepR rs → 0 ≤ r.1 ∧ 0 ≤ r.2.1 := fun r hr => h r (List.mem_filter.1 hr).1
theorem keepR_len (rs : List RunT) : (keepR rs).length ≤ rs.length := List.length_filter_le _ _
set_option maxRecDepth 100000 in
set_option maxHeartbeats 4000000 in
theorem meet_any (A : Option Addr) (n c : Nat) (rs : List RunT) (w : World) (hn : n = rs.length) (hA : A = none → n = 0) (hr : RowS encR w A rs) (hz : ∀ r, r ∈ rs → 0 ≤ r.1 ∧ 0 ≤ r.2.1) (hl : n ≤ 1000000) :
    Calls Try.prog 25 #[.slice A n c] w fun e w' => e = .returned (.bool (!decide (Sep rs))) ∧ Kept [] w w' := by
  have DC := Lib.hid (clone_any A n c rs w hn hA hr hl)
  have HZ := Lib.hid hz
  have HL : Hid (rs.length ≤ 1000000) := Lib.hid (by omega)
  have HKL := Lib.hid (keepR_len rs)
  obtain ⟨b, hb⟩ : ∃ b, (!decide (Sep rs)) = b := ⟨_, rfl⟩
  have HB := Lib.hid hb
  rw [hb]
  clear hn hA hr hz hl hb
  go_enter Try.func25, Try.ntmps25
  go_wp2_with fail
  (with_reducible refine DC.out.mono ?_)
  rintro e w1 ⟨⟨v1, rfl, o1⟩, hk1⟩
  have O1 := Lib.hid o1
  have K1 := Lib.hid hk1
  clear o1 hk1
  go_wp2_with fail
  (with_reducible refine (delete_own w w.heap.size v1 rs _ O1.out HZ.out HL.out K1.out (Nat.le_refl _)).mono ?_)
  rintro e w2 ⟨⟨v2, rfl, o2⟩, hk2⟩
  have O2 := Lib.hid o2
  have K2 := Lib.hid hk2
  clear o2 hk2
  go_wp2_with fail
  (with_reducible refine (sort_own w w.heap.size v2 (keepR rs) _ O2.out (Nat.le_trans HKL.out HL.out) K2.out (Nat.le_refl _)).mono ?_)
  rintro e w3 ⟨⟨rfl, ss, hp, hs, hrd⟩, hk3⟩
  have HE : Hid (Sep ss ↔ Sep rs) := Lib.hid ((sep_perm hp).trans (sep_keep rs))
  have HK : Hid (∀ r, r ∈ ss → dropP r = false) := Lib.hid (fun r hr => by
    have := (hp.mem_iff).1 hr
    unfold keepR at this
    rw [List.mem_filter] at this
    simpa using this.2)
  have HZ3 : Hid (∀ i, 0 ≤ (rd ss i).1 ∧ 0 ≤ (rd ss i).2.1) := Lib.hid (fun i => run_ok (fun r hr => keepR_ok HZ.out r ((hp.mem_iff).1 hr)) i)
  have HS := Lib.hid hs
  have HL3 : Hid (ss.length ≤ 1000000) := Lib.hid (by rw [hp.length_eq]; exact Nat.le_trans HKL.out HL.out)
  have K3 := Lib.hid hk3
  clear hp hs hk3 HKL
  rcases hrd with ⟨rfl, rfl⟩ | ⟨g, cc, rfl, hc⟩
  · have hbf : b = false := by rw [← HB.out]; simp; exact HE.out.1 List.Pairwise.nil
    subst hbf
    go_wp2_with fail
    go_loopw [11] (fun v wr => v = .int .i64 0 ∧ Hid (Kept [] w wr)) (fun _ _ => 0)
    case atStart => exact ⟨rfl, K3⟩
    case round =>
      obtain ⟨rfl, hkw⟩ := hrel
      go_wp2_with fail
      go_ret
      exact ⟨rfl, hkw.out⟩
  · have HC := Lib.hid hc
    have hl3 := HL3.out
    clear hc
    go_wp2_with fail
    go_loopw [11] (fun v wr => ∃ j : Nat, v = .int .i64 j ∧ j ≤ ss.length ∧ Hid (∀ i : Nat, 0 < i → i < j → endV (rd ss (i - 1)).1 (rd ss (i - 1)).2.1 (rd ss (i - 1)).2.2 ≤ (rd ss i).1) ∧ Hid (Kept [] w wr) ∧ Hid (CellsR wr g ss)) (fun v _ => ss.length - (intOf v).toNat)
    case atStart => exact ⟨0, rfl, Nat.zero_le _, Lib.hid (fun i h0 hi => by omega), K3, HC⟩
    case round =>
      obtain ⟨j, rfl, hj, hall, hkw, hcc⟩ := hrel
      by_cases hlt : j < ss.length
      · by_cases h0 : 0 < j
        · obtain ⟨k, rfl⟩ : ∃ k, j = k + 1 := ⟨j - 1, by omega⟩
          have hg := hcc.out.1
          obtain ⟨z1, z2⟩ := HZ3.out k
          obtain ⟨y1, y2⟩ := HZ3.out (k + 1)
          have HR1 := Lib.hid (hcc.out.2 (k + 1) hlt)
          have HR0 := Lib.hid (hcc.out.2 k (by omega))
          obtain ⟨q1, hq1⟩ : ∃ q, rd ss (k + 1) = q := ⟨_, rfl⟩
          obtain ⟨q0, hq0⟩ : ∃ q, rd ss k = q := ⟨_, rfl⟩
          have HQ1 := Lib.hid hq1
          have HQ0 := Lib.hid hq0
          have hr1 : ss[k + 1]?.getD (0, 0, 0) = q1 := hq1
          have hr0 : ss[k]?.getD (0, 0, 0) = q0 := hq0
          rw [hr1] at HR1
          rw [hr0] at HR0
          rw [hq0] at z1 z2
          rw [hq1] at y1 y2
          obtain ⟨f1, s1, n1⟩ := q1
          obtain ⟨f0, s0, n0⟩ := q0
          dsimp only at HR1 HR0 z1 z2 y1 y2
          clear hq1 hq0 hr1 hr0
          have DE := Lib.hid (end_any f0 s0 n0 z1 z2)
          have HEV : Hid ((if MayP f0 s0 n0 then f0 + n0 * s0 else 0) = endV f0 s0 n0) := Lib.hid rfl
          rw [HEV.out] at DE
          generalize hE : endV f0 s0 n0 = E at DE
          have HEE := Lib.hid hE
          clear hE HEV
          have q2 : (0 : Int) ≤ (k : Int) + 1 := by omega
          have q3 : (k : Int) + 1 < (ss.length : Int) := by omega
          have q4 : (0 : Int) ≤ (k : Int) := by omega
          have q5 : (k : Int) < (ss.length : Int) := by omega
          have q6 : (0 : Int) < (k : Int) + 1 := by omega
          go_wp2_with fail
          refine wp_region_kept (by kernel_rfl) (by kernel_rfl) ?_
          intro TT FF hne hFF hcl
          have HCX : Hid (∀ x, CellsR (FF x) g ss) := Lib.hid (fun x => hcc.out.keep (hFF x))
          have e1 : ss[k + 1]?.getD (0, 0, 0) = (f1, s1, n1) := HQ1.out
          have e0 : ss[k]?.getD (0, 0, 0) = (f0, s0, n0) := HQ0.out
          have c10 : ∀ x, (FF x).cell? ⟨g, (k + 1) * 3, none⟩ = some (.int .u64 f1) := fun x => by have := ((HCX.out x).2 (k + 1) hlt).1; rwa [e1] at this
          have c00 : ∀ x, (FF x).cell? ⟨g, k * 3, none⟩ = some (.int .u64 f0) := fun x => by have := ((HCX.out x).2 k (by omega)).1; rwa [e0] at this
          have c01 : ∀ x, (FF x).cell? ⟨g, k * 3 + 1, none⟩ = some (.int .u64 s0) := fun x => by have := ((HCX.out x).2 k (by omega)).2.1; rwa [e0] at this
          have c02 : ∀ x, (FF x).cell? ⟨g, k * 3 + 2, none⟩ = some (.int .i64 n0) := fun x => by have := ((HCX.out x).2 k (by omega)).2.2; rwa [e0] at this
          clear e1 e0
          repeat (first | go_big_quiet_step ((go_at_call 21; (with_reducible refine kept_call hcl (DE.out _)))) | quiet_step ((go_at_call 21; (with_reducible refine kept_call hcl (DE.out _)))))
          refine wpQuiet_nil ?_
          rintro w5 ⟨x, hx⟩
          have hb5 := hFF x
          rw [← hx] at hb5
          clear hx x hne hFF hcl c10 c00 c01 c02 HCX
          have K5 := Lib.hid (hb5.then_ hkw.out)
          have C5 := Lib.hid (hcc.out.keep hb5)
          clear hb5
          by_cases hm : f1 < E
          · have hbt : b = true := by
              rw [← HB.out]
              simp
              exact fun hsep => not_sep (i := k + 1) HS.out HK.out (by omega) hlt (by rw [Nat.add_sub_cancel, HQ1.out, HQ0.out, HEE.out]; exact hm) (HE.out.2 hsep)
            subst hbt
            go_wp2_with fail
            go_ret
            exact ⟨rfl, K5.out⟩
          · have HA : Hid (∀ i : Nat, 0 < i → i < k + 1 + 1 → endV (rd ss (i - 1)).1 (rd ss (i - 1)).2.1 (rd ss (i - 1)).2.2 ≤ (rd ss i).1) := Lib.hid (fun i h0 hi => by
              rcases Nat.lt_or_ge i (k + 1) with h | h
              · exact hall.out i h0 h
              · obtain rfl : i = k + 1 := by omega
                rw [Nat.add_sub_cancel, HQ1.out, HQ0.out, HEE.out]
                exact Int.not_lt.1 hm)
            go_wp2_with fail
            go_roundw
            case rel => exact ⟨k + 1 + 1, by go_num, by omega, HA, K5, C5⟩
            case measure => simp [intOf]; omega
        · obtain rfl : j = 0 := by omega
          go_wp2_with fail
          refine wp_region_kept (by kernel_rfl) (by kernel_rfl) ?_
          intro TT FF hne hFF hcl
          repeat (first | go_big_quiet_step (fail) | quiet_step (fail))
          refine wpQuiet_nil ?_
          rintro w5 ⟨x, hx⟩
          have hb5 := hFF x
          rw [← hx] at hb5
          clear hx x hne hFF hcl
          have K5 := Lib.hid (hb5.then_ hkw.out)
          have C5 := Lib.hid (hcc.out.keep hb5)
          have HA : Hid (∀ i : Nat, 0 < i → i < 0 + 1 → endV (rd ss (i - 1)).1 (rd ss (i - 1)).2.1 (rd ss (i - 1)).2.2 ≤ (rd ss i).1) := Lib.hid (fun i h0 hi => by omega)
          clear hb5
          go_wp2_with fail
          go_roundw
          case rel => exact ⟨0 + 1, by go_num, by omega, HA, K5, C5⟩
          case measure => simp [intOf]; omega
      · obtain rfl : j = ss.length := by omega
        have hbf : b = false := by rw [← HB.out]; simp; exact HE.out.1 (sep_next HS.out hall.out)
        subst hbf
        go_wp2_with fail
        go_ret
        exact ⟨rfl, hkw.out⟩
end Go.Proofs.Ytfmgeidlbekfpaa
