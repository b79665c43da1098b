/- each; Drop, Hold, Let. -/
import Derived.Test.YtdallcepachhoaaLgAll
set_option linter.unusedVariables false
set_option linter.unusedSimpArgs false
namespace Go.Proofs.Ytdallcepachhoaa
open Go.RowKit
/-- Where the one that begins at an address stands. -/
def idxL (ls : List EntT) (z : Int) : Option Nat := ls.findIdx? (fun e => decide (e.1 = z))
/-- Something is done with each, till one error. -/
def eachP (step : List EntT → Nat → Int × List EntT) : List EntT → List Int → Int × List EntT
  | ls, [] => (0, ls)
  | ls, z :: zs => match idxL ls z with
    | none => (5, ls)
    | some k => if (step ls k).1 = 0 then eachP step (step ls k).2 zs else step ls k
theorem idx_hit {ls : List EntT} (hi : LInv ls) {z : Int} {k : Nat} (hk : AtG ls z k) (hh : hitG ls z k = true) : idxL ls z = some k ∧ k < ls.length := by
  unfold hitG at hh
  simp only [Bool.and_eq_true, decide_eq_true_eq] at hh
  refine ⟨?_, hh.1⟩
  unfold idxL
  rw [List.findIdx?_eq_some_iff_getElem]
  have e1 := re_some hh.1
  rw [List.getElem?_eq_getElem hh.1] at e1
  injection e1 with e1
  refine ⟨hh.1, by rw [e1]; simpa using hh.2, fun j hj => ?_⟩
  have hjl : j < ls.length := by omega
  have h2 := hk.2.1 j hj
  have e2 := re_some hjl
  rw [List.getElem?_eq_getElem hjl] at e2
  injection e2 with e2
  rw [e2]
  simp
  omega
theorem idx_miss {ls : List EntT} (hi : LInv ls) {z : Int} {k : Nat} (hk : AtG ls z k) (hh : hitG ls z k = false) : idxL ls z = none := by
  unfold idxL
  rw [List.findIdx?_eq_none_iff]
  intro e he
  obtain ⟨i, hil, rfl⟩ := mem_re he
  simp only [decide_eq_false_iff_not]
  intro h1
  rcases Nat.lt_or_ge i k with h | h
  · have := hk.2.1 i h; omega
  · have hkl : k < ls.length := by omega
    unfold hitG at hh
    rw [decide_eq_true hkl, Bool.true_and, decide_eq_false_iff_not] at hh
    have h2 := hk.2.2 k (Nat.le_refl _) hkl
    rcases Nat.lt_or_ge k i with h3 | h3
    · have h4 := re_ap hi h3 hil
      have h5 := re_bd hi hkl
      omega
    · rw [show i = k by omega] at h1
      exact hh h1
/-- What a step keeps. -/
def StepOk (step : List EntT → Nat → Int × List EntT) : Prop := ∀ ls k, LInv ls → k < ls.length → LInv (step ls k).2 ∧ (step ls k).2.length ≤ ls.length
theorem eachP_ok {step : List EntT → Nat → Int × List EntT} (hs : StepOk step) : ∀ (zs : List Int) (ls : List EntT), LInv ls → LInv (eachP step ls zs).2 ∧ (eachP step ls zs).2.length ≤ ls.length := by
  intro zs
  induction zs with
  | nil => exact fun ls h => ⟨h, Nat.le_refl _⟩
  | cons z zs ih =>
    intro ls h
    unfold eachP
    split
    · exact ⟨h, Nat.le_refl _⟩
    · rename_i k hk
      have hkl : k < ls.length := by
        unfold idxL at hk
        rw [List.findIdx?_eq_some_iff_getElem] at hk
        exact hk.1
      obtain ⟨h1, h2⟩ := hs ls k h hkl
      split
      · obtain ⟨h3, h4⟩ := ih _ h1
        exact ⟨h3, by omega⟩
      · exact ⟨h1, h2⟩
def EachR (S : List Nat) (W : World) (p : Nat) (r : Int × List EntT) (e : Ending) (w' : World) : Prop := e = .returned (.int .i64 r.1) ∧ LeftL S W p r.2 w'
theorem LeftL.place {S : List Nat} {W w : World} {p : Nat} {ls : List EntT} (h : LeftL S W p ls w) (t : Int) (hn : ls.length ≤ 1000) (k : Nat) (hk : AtG ls t k) (b : Bool) (hb : hitG ls t k = b) :
    Calls Try.prog 24 #[.pointer (some ⟨p, 0, none⟩), .int .u64 t] w fun e w' => e = .returned (.tuple #[.int .i64 k, .bool b]) ∧ Kept [] w w' := by
  obtain ⟨S', h1, _, _⟩ := h
  exact place_any S' w p ls h1 t (by omega) k hk b hb
theorem rowX_keepS {k : IntKind} {S : List Nat} {w w' : World} {A : Option Addr} {zs : List Int} (h : RowX k w A zs) (hk : Kept S w w') (hA : 0 < zs.length → ∀ x, A = some x → x.block ∉ S) : RowX k w' A zs := fun h0 => by
  obtain ⟨x, rfl, hb, hc⟩ := h h0
  exact ⟨x, rfl, Nat.lt_of_lt_of_le hb hk.size, fun i hi => (World.cell?_of_block (by rw [add_block]; exact hk.block x.block hb (hA h0 x rfl))).trans (hc i hi)⟩
set_option maxRecDepth 100000 in
set_option maxHeartbeats 4000000 in
theorem each_any (S : List Nat) (W : World) (p : Nat) (ls : List EntT) (h : LgS S W p ls) (hi : LInv ls) (hll : ls.length ≤ 1000) (F : FuncId) (caps : Array Value) (step : List EntT → Nat → Int × List EntT) (hs : StepOk step)
    (eg : ∀ args w, (callFunc F args).run Try.prog w = .ok (.enter F args) w)
    (hstep : ∀ w ls k, LeftL S W p ls w → k < ls.length → ls.length ≤ 1000 → Calls Try.prog F (#[.int .i64 (k : Int)] ++ caps) w (EachR S W p (step ls k)))
    (A : Option Addr) (c : Nat) (zs : List Int) (hz : RowX .u64 W A zs) (hA : 0 < zs.length → ∀ x, A = some x → x.block ∉ S) (hzl : zs.length ≤ 9223372036854775807) :
    Calls Try.prog 28 #[.pointer (some ⟨p, 0, none⟩), .func (.func F) #[] caps, .slice A zs.length c] W (EachR S W p (eachP step ls zs)) := by
  have H0 := Lib.hid (LeftL.of h)
  have HI := Lib.hid hi
  have HS := Lib.hid hs
  have HST := Lib.hid hstep
  have HZ := Lib.hid hz
  have HAN := Lib.hid hA
  have hpl := h.ltp
  clear h hi hs hstep hz hA
  go_enter Try.func28, Try.ntmps28
  go_wp2_with fail
  go_loopw [16] (fun v wr => ∃ (j : Nat) (l1 : List EntT), j ≤ zs.length ∧ v = .int .i64 j ∧ Hid (LeftL S W p l1 wr) ∧ Hid (LInv l1) ∧ l1.length ≤ 1000 ∧ Hid (eachP step ls zs = eachP step l1 (zs.drop j))) (fun v _ => (zs.length - intOf v).toNat)
  case atStart => exact ⟨0, ls, Nat.zero_le _, rfl, H0, HI, hll, Lib.hid rfl⟩
  case round =>
    obtain ⟨j, l1, hj, rfl, hL, hi1, hl1, he⟩ := hrel
    have hpr := hL.out.ltp
    by_cases hjl : j < zs.length
    · have hk := hL.out
      obtain ⟨S', _, _, hkS⟩ := hk
      obtain ⟨x, rfl, hxl, hcs⟩ := (rowX_keepS HZ.out hkS HAN.out) (by omega)
      have hc := hcs j hjl
      have hd : zs.drop j = (zs[j]?.getD 0) :: zs.drop (j + 1) := by
        rw [List.drop_eq_getElem_cons hjl, List.getElem?_eq_getElem hjl]; rfl
      have he' := he.out
      rw [hd] at he'
      generalize zs[j]?.getD 0 = z at hc he' hd
      have dj : decide (j < zs.length) = true := by simp; omega
      obtain ⟨k, hk⟩ := at_ex hi1.out z
      cases hh : hitG l1 z k with
      | false =>
        have hm := idx_miss hi1.out hk hh
        have hr : eachP step ls zs = (5, l1) := by rw [he']; unfold eachP; rw [hm]
        have HR : Hid (∀ w', LeftL S W p l1 w' → EachR S W p (eachP step ls zs) (.returned (.int .i64 5)) w') := Lib.hid (fun w' h' => by rw [hr]; exact ⟨rfl, h'⟩)
        have DP := Lib.hid (hL.out.place z hl1 k hk false hh)
        clear hcs hkS he' hm hr hk hh hd
        go_wp2_with fail
        (with_reducible refine DP.out.mono ?_)
        rintro e w1 ⟨rfl, hb1⟩
        have HR1 := Lib.hid (HR.out w1 (hL.out.keep0 hb1))
        go_wp2_with fail
        go_ret
        exact HR1.out
      | true =>
        obtain ⟨hm, hkl⟩ := idx_hit hi1.out hk hh
        have DP := Lib.hid (hL.out.place z hl1 k hk true hh)
        have hok := HS.out l1 k hi1.out hkl
        obtain ⟨er, l2, hst⟩ : ∃ er l2, step l1 k = (er, l2) := ⟨_, _, rfl⟩
        rw [hst] at hok
        have DS : Hid (∀ w', LeftL S W p l1 w' → Calls Try.prog F (#[.int .i64 (k : Int)] ++ caps) w' (EachR S W p (er, l2))) := Lib.hid (fun w' h' => by rw [← hst]; exact HST.out w' l1 k h' hkl hl1)
        by_cases h0 : er = 0
        · subst h0
          have hr : eachP step ls zs = eachP step l2 (zs.drop (j + 1)) := by rw [he']; conv => lhs; unfold eachP; rw [hm]; simp only [hst, if_true]
          have HR := Lib.hid hr
          have HOK := Lib.hid hok.1
          have hl2 : l2.length ≤ 1000 := by have := hok.2; simp only at this; omega
          clear hcs hkS he' hm hr hk hh hd hst hok
          go_wp2_with fail
          (with_reducible refine DP.out.mono ?_)
          rintro e w1 ⟨rfl, hb1⟩
          go_wp2_with fail
          (refine (DS.out w1 (hL.out.keep0 hb1)).mono ?_)
          rintro e w2 ⟨rfl, hL2⟩
          have HL2 := Lib.hid hL2
          clear hL2
          go_wp2_with fail
          go_roundw
          case rel => exact ⟨j + 1, l2, by omega, by go_num, HL2, HOK, hl2, HR⟩
          case measure => simp [intOf]; omega
        · have hr : eachP step ls zs = (er, l2) := by rw [he']; conv => lhs; unfold eachP; rw [hm]; simp only [hst, if_neg h0]
          have HR : Hid (∀ w', LeftL S W p l2 w' → EachR S W p (eachP step ls zs) (.returned (.int .i64 er)) w') := Lib.hid (fun w' h' => by rw [hr]; exact ⟨rfl, h'⟩)
          have h0b : (er != 0) = true := by rw [bne_iff_ne]; exact h0
          clear hcs hkS he' hm hr hk hh hd hst hok
          go_wp2_with fail
          (with_reducible refine DP.out.mono ?_)
          rintro e w1 ⟨rfl, hb1⟩
          go_wp2_with fail
          (refine (DS.out w1 (hL.out.keep0 hb1)).mono ?_)
          rintro e w2 ⟨rfl, hL2⟩
          have HR1 := Lib.hid (HR.out w2 hL2)
          clear hL2
          go_wp2_with fail
          go_ret
          exact HR1.out
    · obtain rfl : j = zs.length := by omega
      have he' := he.out
      rw [List.drop_length] at he'
      have HR : Hid (EachR S W p (eachP step ls zs) (.returned (.int .i64 0)) wr) := Lib.hid (by rw [he']; exact ⟨rfl, hL.out⟩)
      clear he'
      go_wp2_with fail
      go_ret
      exact HR.out
end Go.Proofs.Ytdallcepachhoaa
