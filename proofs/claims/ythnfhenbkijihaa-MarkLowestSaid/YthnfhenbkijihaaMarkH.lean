/- Whether each of some places is taken. -/
import Derived.Test.YthnfhenbkijihaaMarkT
set_option linter.unusedVariables false
set_option linter.unusedSimpArgs false
namespace Go.Proofs.Ythnfhenbkijihaa
open Go.RowKit Go.Shelf
/-- slices.IndexFunc at []int, a predicate that only makes new memory. -/
def firstAt (p : Int → Bool) (zs : List Int) : Int := match zs.findIdx? p with | some i => i | none => -1
theorem find_none (p : Int → Bool) (zs : List Int) (h : ∀ j, j < zs.length → p (zs[j]?.getD 0) = false) : zs.findIdx? p = none := by
  rw [List.findIdx?_eq_none_iff]
  intro x hx
  obtain ⟨j, hj, rfl⟩ := List.getElem_of_mem hx
  have := h j hj
  simpa [hj] using this
theorem find_some (p : Int → Bool) (zs : List Int) (i : Nat) (hi : i < zs.length) (h : ∀ j, j < i → p (zs[j]?.getD 0) = false) (hp : p (zs[i]?.getD 0) = true) : zs.findIdx? p = some i := by
  rw [List.findIdx?_eq_some_iff_getElem]
  refine ⟨hi, by simpa [hi] using hp, fun j hj => ?_⟩
  have := h j hj
  simpa [show j < zs.length by omega] using this
theorem indexFunc_any (p : Int → Bool) (g : FuncId) (lb : Array Value) (A : Option Addr) (cap : Nat) (zs : List Int) (w : World) (hr : RowX .i64 w A zs) (hn : zs.length ≤ 9223372036854775807)
    (eg : ∀ args w, (callFunc g args).run Try.prog w = .ok (.enter g args) w) (hp : ∀ x, x ∈ zs → ∀ W, Kept [] w W → Calls Try.prog g (#[.int .i64 x] ++ lb) W fun e w' => e = .returned (.bool (p x)) ∧ Kept [] W w') :
    Calls Try.prog 26 #[.slice A zs.length cap, .func (.func g) #[] lb] w fun e w' => e = .returned (.int .i64 (firstAt p zs)) ∧ Kept [] w w' := by
  have Hr := Lib.hid hr
  have Hp := Lib.hid hp
  clear hr hp
  go_enter Try.func26, Try.ntmps26
  go_wp2
  go_loopw [8] (fun c wr => ∃ k : Nat, k ≤ zs.length ∧ c = .int .i64 k ∧ Hid (∀ j, j < k → p (zs[j]?.getD 0) = false) ∧ Kept [] w wr) (fun c _ => zs.length - (intOf c).toNat)
  case atStart => exact ⟨0, Nat.zero_le _, rfl, Lib.hid (fun j hj => by omega), Kept.refl _ _⟩
  case round =>
    obtain ⟨k, hk, rfl, hno, hkw⟩ := hrel
    have hno' := hno
    by_cases hlt : k < zs.length
    · obtain ⟨ad, rfl, hc⟩ := Hr.out.get (by omega)
      have hcell : wr.cell? (ad.add k) = some (.int .i64 (zs[k]?.getD 0)) := hc wr hkw k hlt
      clear hc
      generalize hx : zs[k]?.getD 0 = x at hcell
      have hm : x ∈ zs := by rw [← hx, List.getElem?_eq_getElem hlt]; exact List.getElem_mem hlt
      have HX := Lib.hid hx
      clear hx
      go_wp2_with fail
      (with_reducible refine (Hp.out _ hm _ hkw).mono ?_)
      rintro e w1 ⟨rfl, hk1⟩
      cases hpx : p x
      · go_wp2_with fail
        go_roundw
        case rel => exact ⟨k + 1, by omega, by go_num, Lib.hid (fun j hj => by
          by_cases hjk : j < k
          · exact hno'.out j hjk
          · obtain rfl : j = k := by omega
            rw [HX.out]; exact hpx), hk1.then_ hkw⟩
        case measure => simp [intOf]; omega
      · go_wp2_with fail
        go_ret
        refine ⟨ret_int ?_, hk1.then_ hkw⟩
        go_light
        unfold firstAt
        rw [find_some p zs k hlt hno'.out (by rw [HX.out]; exact hpx)]
    · obtain rfl : k = zs.length := by omega
      go_wp2_with fail
      go_ret
      refine ⟨ret_int ?_, hkw⟩
      go_light
      unfold firstAt
      rw [find_none p zs hno'.out]
theorem firstAt_any (p : Int → Bool) (zs : List Int) : decide (0 ≤ firstAt p zs) = zs.any p := by
  unfold firstAt
  cases h : zs.findIdx? p with
  | none =>
    rw [List.findIdx?_eq_none_iff] at h
    have : zs.any p = false := by rw [List.any_eq_false]; intro x hx; simp [h x hx]
    rw [this]; rfl
  | some i =>
    rw [List.findIdx?_eq_some_iff_getElem] at h
    obtain ⟨hi, hp, _⟩ := h
    have : zs.any p = true := by rw [List.any_eq_true]; exact ⟨_, List.getElem_mem hi, hp⟩
    rw [this]; exact decide_eq_true (Int.natCast_nonneg i)
theorem containsFunc_any (p : Int → Bool) (g : FuncId) (lb : Array Value) (A : Option Addr) (cap : Nat) (zs : List Int) (w : World) (hr : RowX .i64 w A zs) (hn : zs.length ≤ 9223372036854775807)
    (eg : ∀ args w, (callFunc g args).run Try.prog w = .ok (.enter g args) w) (hp : ∀ x, x ∈ zs → ∀ W, Kept [] w W → Calls Try.prog g (#[.int .i64 x] ++ lb) W fun e w' => e = .returned (.bool (p x)) ∧ Kept [] W w') :
    Calls Try.prog 21 #[.slice A zs.length cap, .func (.func g) #[] lb] w fun e w' => e = .returned (.bool (zs.any p)) ∧ Kept [] w w' := by
  have c := indexFunc_any p g lb A cap zs w hr hn eg hp
  have C := Lib.hid c
  clear c hr hp eg
  rw [← firstAt_any]
  go_enter Try.func21, Try.ntmps21
  go_wp2_with fail
  (with_reducible refine C.out.mono ?_)
  rintro e w1 ⟨rfl, hb1⟩
  go_wp2_with fail
  go_ret
  exact ⟨rfl, hb1⟩
/-- Is it no place, or free? -/
def outB (bs : List Bool) (i : Int) : Bool := decide (i < 0) || decide ((bs.length : Int) ≤ i) || !(bs[i.toNat]?.getD false)
theorem has1_any (w : World) (p g B : Nat) (bs : List Bool) (h : MarkB w p g bs) (hB : Blk w B 23 #[.pointer (some ⟨p, 0, none⟩)]) (i : Int) :
    Calls Try.prog 22 #[.int .i64 i, .pointer (some ⟨B, 0, none⟩)] w fun e w' => e = .returned (.bool (outB bs i)) ∧ Kept [] w w' := by
  have hbc := hB.cell 0
  have hmc := h.1.cell
  have hl := h.2.2
  by_cases h1 : i < 0
  · have hv : Hid (true = outB bs i) := Lib.hid (by unfold outB; simp [h1])
    have q1 : decide (i < 0) = true := by simp; omega
    go_enter Try.func22, Try.ntmps22
    go_wp2_with fail
    go_ret
    exact ⟨ret_bool hv.out, Kept.refl _ _⟩
  · have q1 : decide (i < 0) = false := by simp; omega
    by_cases h2 : (bs.length : Int) ≤ i
    · have hv : Hid (true = outB bs i) := Lib.hid (by unfold outB; simp [h2])
      have q2 : decide ((bs.length : Int) ≤ i) = true := by simp; omega
      go_enter Try.func22, Try.ntmps22
      go_wp2_with fail
      go_ret
      exact ⟨ret_bool hv.out, Kept.refl _ _⟩
    · have q2 : decide ((bs.length : Int) ≤ i) = false := by simp; omega
      obtain ⟨k, rfl⟩ := Int.eq_ofNat_of_zero_le (show 0 ≤ i by omega)
      have hcell := (h.2.1.cell k).trans (cellsB_lt (by omega))
      have hv : Hid ((!(bs[k]?.getD false)) = outB bs (k : Int)) := Lib.hid (by unfold outB; rw [q1, q2]; simp)
      generalize bs[k]?.getD false = v at hcell hv
      go_enter Try.func22, Try.ntmps22
      go_wp2_with fail
      go_ret
      exact ⟨ret_bool hv.out, Kept.refl _ _⟩
theorem eg_has (args : Array Value) (w : World) : (callFunc 22 args).run Try.prog w = .ok (.enter 22 args) w :=
  enters_of Try.func22 (by kernel_rfl) rfl args w
theorem has_any (w : World) (p g : Nat) (bs : List Bool) (h : MarkB w p g bs) (A : Option Addr) (n c : Nat) (zs : List Int) (hn : n = zs.length) (hr : RowX .i64 w A zs) (hl : zs.length ≤ 9223372036854775807) (b : Bool) (hb : (!(zs.any (outB bs))) = b) :
    Calls Try.prog 17 #[.pointer (some ⟨p, 0, none⟩), .slice A n c] w fun e w' => e = .returned (.bool b) ∧ Kept [] w w' := by
  subst hn
  have eg := eg_has
  have hmc := h.1.cell
  have hk : Kept [] w (w.alloc (.cells #[.pointer (some ⟨p, 0, none⟩)] 23)) := (Kept.refl [] w).alloc _
  have hc := containsFunc_any (outB bs) 22 #[.pointer (some ⟨w.heap.size, 0, none⟩)] A c zs _ (hr.keep hk) hl eg
    (fun x hx W hW => has1_any W p g w.heap.size bs ((h.keep0 hk).keep0 hW) ((Blk.new w _ _).keep0 hW) x)
  have HC := Lib.hid hc
  clear hc eg hr h
  generalize zs.any (outB bs) = r at *
  go_enter Try.func17, Try.ntmps17
  go_wp2_with fail
  (with_reducible refine HC.out.mono ?_)
  rintro e w2 ⟨rfl, hb2⟩
  go_wp2_with fail
  go_ret
  exact ⟨rfl, by (repeat' (first | (with_reducible exact Kept.refl _ _) | (with_reducible assumption) | (with_reducible refine Kept.then_ (by with_reducible assumption) ?_) | (with_reducible refine Kept.thenS (by with_reducible assumption) ?_) | (with_reducible refine Kept.alloc ?_ _) | (with_reducible refine Kept.drew ?_) | (with_reducible refine Kept.drewN ?_ _) | (with_reducible refine Kept.setNew ?_ ?_ _) | ((try simp only [World.size_alloc, World.size_setCell, World.size_drew, size_drewN] at *); (try dsimp only); omega)))⟩
end Go.Proofs.Ythnfhenbkijihaa
