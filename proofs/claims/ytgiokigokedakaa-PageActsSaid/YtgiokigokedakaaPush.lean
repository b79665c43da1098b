/- Push, Pop: the head of a list in memory. -/
import Derived.Test.YtgiokigokedakaaChain
set_option linter.unusedVariables false
set_option linter.unusedSimpArgs false
namespace Go.Proofs.Ytgiokigokedakaa
open Go.RowKit
/-- The list at block b: its head, how many. -/
def ListB (w : World) (b : Nat) (hd n : Int) : Prop := Blk w b 86 #[.int .u64 hd, .int .i64 n]
theorem ListB.keep0 {w w' : World} {b : Nat} {hd n : Int} (h : ListB w b hd n) (hk : Kept [] w w') : ListB w' b hd n := Blk.keep0 h hk
theorem MemB.far {w : World} {p g : Nat} {zs : List Int} (h : MemB w p g zs) {q : Addr} (hp : p ≠ q.block) (hg : g ≠ q.block) (u : Value) : MemB (w.setCell q u) p g zs := ⟨h.1.far hp u, h.2.1.far hg u, h.2.2⟩
theorem ListB.ne {w : World} {b p g : Nat} {hd n : Int} {zs : List Int} (h : ListB w b hd n) (hM : MemB w p g zs) : b ≠ p ∧ b ≠ g := ⟨Blk.ne_ h hM.1 (by decide), Blk.ne_ h hM.2.1 (by decide)⟩
set_option maxHeartbeats 1000000 in
theorem pop_empty (w : World) (b p g : Nat) (zs : List Int) (hd : Int) (hM : MemB w p g zs) (hl : ListB w b hd 0) :
    Calls Try.prog 37 #[.pointer (some ⟨b, 0, none⟩), .pointer (some ⟨p, 0, none⟩)] w fun e w' => e = .returned (.tuple #[.int .u64 0, .int .i64 5]) ∧ w = w' := by
  have c1 := Blk.cell hl 1
  clear hM
  go_enter Try.func37, Try.ntmps37
  go_wp2_with fail
  (first | go_ret2 | go_ret)
  exact ⟨rfl, rfl⟩
set_option maxHeartbeats 1000000 in
theorem pop_any (w : World) (b p g : Nat) (zs : List Int) (hd : Nat) (n : Int) (hM : MemB w p g zs) (hl : ListB w b hd n) (hn : 0 < n) (hn2 : n ≤ 9223372036854775807) (h8 : hd + 8 ≤ zs.length) :
    Calls Try.prog 37 #[.pointer (some ⟨b, 0, none⟩), .pointer (some ⟨p, 0, none⟩)] w fun e w' => e = .returned (.tuple #[.int .u64 (hd : Int), .int .i64 0]) ∧ ListB w' b (lk zs hd : Int) (n - 1) ∧ Kept [b] w w' := by
  have c0 := Blk.cell hl 0
  have c1 := Blk.cell hl 1
  have hq : (n == 0) = false := by simp; omega
  have hq2 : decide (n = 0) = false := by simp; omega
  obtain ⟨hlv, hl64⟩ := hM.2.2.2.ldV hd
  have DL : Hid (Calls Try.prog 63 #[.pointer (some ⟨p, 0, none⟩), .int .u64 (hd : Int), .int .i64 8] w fun e w' => e = .returned (.tuple #[.int .u64 (lk zs hd : Int), .int .i64 0]) ∧ Kept [] w w') := Lib.hid (by
    have := load_8 w p g zs hM hd h8
    rwa [hlv] at this)
  have HL := Lib.hid hl
  clear hlv hM hl
  go_enter Try.func37, Try.ntmps37
  go_wp2_with (go_at_call 63; refine DL.out.mono ?_; rintro e w1 ⟨rfl, hb1⟩; have B1 := Lib.hid (HL.out.keep0 hb1); have d0 := Blk.cell B1.out 0; have d1 := Blk.cell B1.out 1; have e0 := Blk.frozen B1.out 0; have e1 := Blk.frozen B1.out 1)
  (first | go_ret2 | go_ret)
  refine ⟨rfl, ?_, ?_⟩
  · exact (Blk.set_ B1.out 0 _).set' rfl
  · exact ((Kept.mono hb1 (fun _ h _ => by cases h)).setIn (by simp) _).setIn (by simp) _
/-- What Push makes of memory and of a list's head. -/
def pushG : List Int → Nat → List Nat → List Int × Nat
  | zs, hd, [] => (zs, hd)
  | zs, hd, a :: l => pushG (splice zs a (bytesOf 8 (hd : Int))) a l
theorem pushG_snoc (l : List Nat) (a : Nat) : ∀ (zs : List Int) (hd : Nat), pushG zs hd (l ++ [a]) = (splice (pushG zs hd l).1 a (bytesOf 8 ((pushG zs hd l).2 : Int)), a) := by
  induction l with
  | nil => intro zs hd; rfl
  | cons x l ih => intro zs hd; exact ih _ _
theorem pushG_len (l : List Nat) : ∀ (zs : List Int) (hd : Nat), (∀ a, a ∈ l → a + 8 ≤ zs.length) → (pushG zs hd l).1.length = zs.length := by
  induction l with
  | nil => intro zs hd _; rfl
  | cons x l ih =>
    intro zs hd h
    have h1 : (splice zs x (bytesOf 8 (hd : Int))).length = zs.length := by
      have := h x (by simp)
      simp [splice]; omega
    have := ih (splice zs x (bytesOf 8 (hd : Int))) x (fun a ha => by rw [h1]; exact h a (by simp [ha]))
    rw [show pushG zs hd (x :: l) = pushG (splice zs x (bytesOf 8 (hd : Int))) x l from rfl, this, h1]
theorem pushG_hd (l : List Nat) : ∀ (zs : List Int) (hd : Nat), (∀ a, a ∈ l → a + 8 ≤ 1048576) → (hd : Int) < 18446744073709551616 → ((pushG zs hd l).2 : Int) < 18446744073709551616 := by
  induction l with
  | nil => intro zs hd _ h; exact h
  | cons x l ih =>
    intro zs hd h _
    exact ih _ _ (fun a ha => h a (by simp [ha])) (by have := h x (by simp); omega)
theorem pow64 : (256 : Int) ^ 8 = 18446744073709551616 := by decide
/-- Where Push stops, with what. -/
def PushEnd (len : Nat) (rest : List Nat) (er : Int) : Prop := (rest = [] ∧ er = 0) ∨ ∃ a r, rest = a :: r ∧ ((a = 0 ∧ er = 2) ∨ (a ≠ 0 ∧ len < a + 8 ∧ er = 3))
theorem getD_map (ys : List Nat) (j : Nat) : ((ys.map (fun (x : Nat) => (x : Int)))[j]?.getD 0) = ((ys[j]?.getD 0 : Nat) : Int) := by
  rw [List.getElem?_map]
  cases ys[j]? <;> simp
set_option maxRecDepth 100000 in
set_option maxHeartbeats 4000000 in
theorem push_row (w : World) (b p g : Nat) (zs : List Int) (hd : Nat) (n : Int) (l rest : List Nat) (er : Int) (A : Option Addr) (len cap : Nat) (hM : MemB w p g zs) (hl : ListB w b hd n) (hd64 : (hd : Int) < 18446744073709551616) (hn : 0 ≤ n ∧ n + l.length ≤ 1000000000)
    (hv : ∀ a, a ∈ l → a ≠ 0 ∧ a + 8 ≤ zs.length) (hend : PushEnd zs.length rest er) (hr : ∀ w', Kept [b, g] w w' → RowX .u64 w' A ((l ++ rest).map (fun (x : Nat) => (x : Int)))) (hlen : len = (l ++ rest).length) (hlen2 : len ≤ 9223372036854775807) :
    Calls Try.prog 39 #[.pointer (some ⟨b, 0, none⟩), .pointer (some ⟨p, 0, none⟩), .slice A len cap] w fun e w' => e = .returned (.int .i64 er) ∧ MemB w' p g (pushG zs hd l).1 ∧ ListB w' b ((pushG zs hd l).2 : Int) (n + l.length) ∧ Kept [b, g] w w' := by
  have hzl := hM.2.2.1
  have HM := Lib.hid hM
  have HL := Lib.hid hl
  have HV := Lib.hid hv
  have HE := Lib.hid hend
  have HR := Lib.hid hr
  have HN := Lib.hid hlen
  have HNE := Lib.hid (hl.ne hM)
  clear hM hl hv hend hr hlen
  go_enter Try.func39, Try.ntmps39
  go_wp2_with fail
  go_loopw [18] (fun i wr => ∃ (j : Nat) (zj : List Int) (hj : Nat), j ≤ l.length ∧ i = .int .i64 j ∧ Hid (pushG zs hd (l.take j) = (zj, hj)) ∧ Hid (MemB wr p g zj) ∧ Hid (ListB wr b (hj : Int) (n + (j : Int))) ∧ Kept [b, g] w wr) (fun i _ => l.length + 1 - (intOf i).toNat)
  case atStart => exact ⟨0, zs, hd, Nat.zero_le _, rfl, Lib.hid rfl, HM, by simpa using HL, Kept.refl _ _⟩
  case round =>
    obtain ⟨j, zj, hj, hjl, rfl, hst, hmj, hlj, hkw⟩ := hrel
    have HZL : Hid (zj.length = zs.length) := Lib.hid (by
      have := pushG_len (l.take j) zs hd (fun a ha => (HV.out a (List.mem_of_mem_take ha)).2)
      rw [hst.out] at this
      exact this)
    have HJ64 : (hj : Int) < 18446744073709551616 := by
      have := pushG_hd (l.take j) zs hd (fun a ha => by have := (HV.out a (List.mem_of_mem_take ha)).2; omega) hd64
      rw [hst.out] at this
      exact this
    have c0 := Blk.cell hlj.out 0
    have c1 := Blk.cell hlj.out 1
    by_cases hlt : j < l.length
    · obtain ⟨ad, rfl, hc⟩ := (HR.out wr hkw).get (by simp; omega)
      have hcell : wr.cell? (ad.add j) = some (.int .u64 ((l[j] : Nat) : Int)) := by
        have := hc wr (Kept.refl _ _) j (by simp; omega)
        rw [getD_map, List.getElem?_append_left hlt, List.getElem?_eq_getElem hlt] at this
        exact this
      have hjn : j < len := by rw [HN.out]; simp; omega
      have hmem : l[j] ∈ l := List.getElem_mem hlt
      have HT : Hid (l.take (j + 1) = l.take j ++ [l[j]]) := Lib.hid (by rw [List.take_add_one, List.getElem?_eq_getElem hlt]; rfl)
      generalize l[j] = a at hcell hmem HT
      obtain ⟨ha0, ha8⟩ := HV.out a hmem
      have DS : Hid (Calls Try.prog 22 #[.pointer (some ⟨p, 0, none⟩), .int .u64 (a : Int), .int .i64 8, .int .u64 (hj : Int)] wr fun e w' => e = .returned (.int .i64 0) ∧ MemB w' p g (splice zj a (bytesOf 8 (hj : Int))) ∧ Kept [g] wr w') := Lib.hid (store_8 wr p g zj hmj.out a hj (by rw [HZL.out]; exact ha8) (by omega) (by rw [pow64]; omega))
      have hq : ((a : Int) == 0) = false := by simp; omega
      have HT2 : Hid (pushG zs hd (l.take (j + 1)) = (splice zj a (bytesOf 8 (hj : Int)), a)) := Lib.hid (by rw [HT.out, pushG_snoc, hst.out])
      clear hc
      go_wp2_with (go_at_call 22; refine DS.out.mono ?_; rintro e w1 ⟨rfl, hM1, hb1⟩; have M1 := Lib.hid hM1; have B1 : Hid (ListB w1 b (hj : Int) (n + (j : Int))) := Lib.hid (Blk.keep hlj.out hb1 (by have := HNE.out.2; simp; exact this)); clear hM1; have d0 := Blk.cell B1.out 0; have d1 := Blk.cell B1.out 1; have e0 := Blk.frozen B1.out 0; have e1 := Blk.frozen B1.out 1)
      go_roundw
      case rel =>
        refine ⟨j + 1, _, _, by omega, by go_num, HT2, Lib.hid ((M1.out.far (by have := HNE.out.1; simp; omega) (by have := HNE.out.2; simp; omega) _).far (by have := HNE.out.1; simp; omega) (by have := HNE.out.2; simp; omega) _), Lib.hid ((Blk.set_ B1.out 0 _).set' ?_), ((Kept.trans (T := [g]) hkw hb1 (fun x hx _ => by simp at hx ⊢; right; exact hx)).setIn (by simp) _).setIn (by simp) _⟩
        simp
        omega
      case measure => simp [intOf]; omega
    · obtain rfl : j = l.length := by omega
      have HT : Hid (pushG zs hd l = (zj, hj)) := Lib.hid (by have := hst.out; rwa [List.take_of_length_le (Nat.le_refl _)] at this)
      rcases HE.out with ⟨rfl, rfl⟩ | ⟨a, r, rfl, hbad⟩
      · have hjn : len = l.length := by rw [HN.out]; simp
        subst hjn
        go_wp2_with fail
        (first | go_ret2 | go_ret)
        rw [HT.out]
        exact ⟨rfl, hmj.out, hlj.out, hkw⟩
      · have hjn : l.length < len := by rw [HN.out]; simp
        obtain ⟨ad, rfl, hc⟩ := (HR.out wr hkw).get (by simp; omega)
        have hcell : wr.cell? (ad.add l.length) = some (.int .u64 (a : Int)) := by
          have := hc wr (Kept.refl _ _) l.length (by simp)
          rw [getD_map, List.getElem?_append_right (Nat.le_refl _)] at this
          simpa using this
        clear hc
        rcases hbad with ⟨rfl, rfl⟩ | ⟨ha0, ha8, rfl⟩
        · go_wp2_with fail
          (first | go_ret2 | go_ret)
          rw [HT.out]
          exact ⟨rfl, hmj.out, hlj.out, hkw⟩
        · have hq : ((a : Int) == 0) = false := by simp; omega
          have DS : Hid (Calls Try.prog 22 #[.pointer (some ⟨p, 0, none⟩), .int .u64 (a : Int), .int .i64 8, .int .u64 (hj : Int)] wr fun e w' => e = .returned (.int .i64 3) ∧ wr = w') := Lib.hid (store8_out wr p g zj hmj.out a hj (by omega) (by rw [HZL.out]; omega))
          go_wp2_with (go_at_call 22; refine DS.out.mono ?_; rintro e w1 ⟨rfl, rfl⟩)
          (first | go_ret2 | go_ret)
          rw [HT.out]
          exact ⟨rfl, hmj.out, hlj.out, hkw⟩
end Go.Proofs.Ytgiokigokedakaa
