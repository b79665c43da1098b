/- A ledger and the document's, apart: what a call of either leaves. -/
import Derived.Test.YtdallcepachhoaaLgRefD
import Derived.Test.YtdallcepachhoaaLgRefE
set_option linter.unusedVariables false
set_option linter.unusedSimpArgs false
namespace Go.Proofs.Ytdallcepachhoaa
open Go.RowKit
def Duo (W : World) (X : List Nat) (w : World) (p : Nat) (ls : List EntT) (m : Nat) (ms : List EntT) : Prop :=
  (∃ S T, LgS S w p ls ∧ RefS T w m ms ∧ (∀ x, x ∈ S → x ∉ T) ∧ (∀ x, x ∈ S → W.heap.size ≤ x ∧ x ∉ X) ∧ (∀ x, x ∈ T → W.heap.size ≤ x ∧ x ∉ X)) ∧ Kept [] W w ∧ (∀ x, x ∈ X → x < w.heap.size) ∧ LInv ls ∧ LInv ms
namespace Duo
variable {W w w' : World} {X : List Nat} {p m : Nat} {ls ls' ms ms' : List EntT}
theorem keep0 (h : Duo W X w p ls m ms) (hk : Kept [] w w') : Duo W X w' p ls m ms := by
  obtain ⟨⟨S, T, h1, h2, h3, h4, h5⟩, h6, h7, h8, h9⟩ := h
  exact ⟨⟨S, T, h1.keep0 hk, h2.keep0 hk, h3, h4, h5⟩, hk.then_ h6, fun x hx => by have := h7 x hx; have := hk.size; omega, h8, h9⟩
theorem kept (h : Duo W X w p ls m ms) : Kept [] W w := h.2.1
theorem ltp (h : Duo W X w p ls m ms) : p < w.heap.size ∧ m < w.heap.size := by
  obtain ⟨⟨S, T, h1, h2, _⟩, _⟩ := h
  exact ⟨h1.ltp, h2.ltp⟩
theorem kx (h : Duo W X w p ls m ms) (hk : Kept [] w w') : KeptX X w w' := ⟨hk.size, fun x hx => hk.block x (h.2.2.1 x hx) (by simp)⟩
theorem more (h : Duo W X w p ls m ms) (hk : Kept [] w w') (y : Nat) (h1 : w.heap.size ≤ y) (h2 : y < w'.heap.size) : Duo W (y :: X) w' p ls m ms := by
  obtain ⟨⟨S, T, k1, k2, k3, k4, k5⟩, k6, k7, k8, k9⟩ := h
  refine ⟨⟨S, T, k1.keep0 hk, k2.keep0 hk, k3, fun q hq => ⟨(k4 q hq).1, fun hx => ?_⟩, fun q hq => ⟨(k5 q hq).1, fun hx => ?_⟩⟩, hk.then_ k6, fun x hx => ?_, k8, k9⟩
  · rcases List.mem_cons.1 hx with hx | hx
    · have := k1.lt q hq; omega
    · exact (k4 q hq).2 hx
  · rcases List.mem_cons.1 hx with hx | hx
    · have := k2.lt q hq; omega
    · exact (k5 q hq).2 hx
  · rcases List.mem_cons.1 hx with hx | hx
    · omega
    · have := k7 x hx; have := hk.size; omega
theorem fewer (h : Duo W X w p ls m ms) {Y : List Nat} (hs : ∀ x, x ∈ Y → x ∈ X) : Duo W Y w p ls m ms := by
  obtain ⟨⟨S, T, k1, k2, k3, k4, k5⟩, k6, k7, k8, k9⟩ := h
  exact ⟨⟨S, T, k1, k2, k3, fun q hq => ⟨(k4 q hq).1, fun hx => (k4 q hq).2 (hs q hx)⟩, fun q hq => ⟨(k5 q hq).1, fun hx => (k5 q hq).2 (hs q hx)⟩⟩, k6, fun x hx => k7 x (hs x hx), k8, k9⟩
theorem runL {F : FuncId} {args : Array Value} {R : Ending → Prop} (h : Duo W X w p ls m ms) (hi : LInv ls') (D : ∀ S, LgS S w p ls → (∀ x, x ∈ S → W.heap.size ≤ x) → Calls Try.prog F args w fun e w' => R e ∧ LeftL S w p ls' w') :
    Calls Try.prog F args w fun e w' => R e ∧ Duo W X w' p ls' m ms ∧ KeptX X w w' := by
  obtain ⟨⟨S, T, h1, h2, h3, h4, h5⟩, h6, h7, h8, h9⟩ := h
  refine (D S h1 (fun x hx => (h4 x hx).1)).mono fun e w' ⟨hR, hL⟩ => ⟨hR, ?_⟩
  have hX := LgX.left (W := W) (X := X) h4 h6 h7 hi hL
  obtain ⟨S', k1, k2, k3⟩ := hL
  refine ⟨⟨⟨S', T, k1, h2.keepS k3 (fun q hq => h3 q hq), fun x hx ht => ?_, fun x hx => ?_, h5⟩, hX.1.kept, hX.1.2.2.1, hi, h9⟩, hX.2⟩
  · rcases k2 x hx with hs | hs
    · exact h3 x hs ht
    · have := h2.lt x ht; omega
  · rcases k2 x hx with hs | hs
    · exact h4 x hs
    · exact ⟨by have := h6.size; omega, fun hxX => by have := h7 x hxX; omega⟩
theorem runR {F : FuncId} {args : Array Value} {R : Ending → Prop} (h : Duo W X w p ls m ms) (hi : LInv ms') (D : ∀ T, RefS T w m ms → Calls Try.prog F args w fun e w' => R e ∧ LeftR T w m ms' w') :
    Calls Try.prog F args w fun e w' => R e ∧ Duo W X w' p ls m ms' ∧ KeptX X w w' := by
  obtain ⟨⟨S, T, h1, h2, h3, h4, h5⟩, h6, h7, h8, h9⟩ := h
  refine (D T h2).mono fun e w' ⟨hR, T', k1, k2, k3⟩ => ⟨hR, ?_⟩
  have hz := k3.size
  refine ⟨⟨⟨S, T', h1.keepS k3 (fun q hq hs => h3 q hs hq), k1, fun x hx ht => ?_, h4, fun x hx => ?_⟩, h6.trans k3 (fun x hx hl => by have := (h5 x hx).1; omega), fun x hx => by have := h7 x hx; omega, h8, hi⟩, hz, fun x hx => k3.block x (h7 x hx) (fun ht => (h5 x ht).2 hx)⟩
  · rcases k2 x ht with hs | hs
    · exact h3 x hx hs
    · have := h1.lt x hx; omega
  · rcases k2 x hx with hs | hs
    · exact h5 x hs
    · exact ⟨by have := h6.size; omega, fun hxX => by have := h7 x hxX; omega⟩
end Duo
/-- A call that turns the ledger, or the document's. -/
def DuoE (W : World) (X : List Nat) (p : Nat) (ls : List EntT) (m : Nat) (ms : List EntT) (er : Int) (w : World) (e : Ending) (w' : World) : Prop := e = .returned (.int .i64 er) ∧ Duo W X w' p ls m ms ∧ KeptX X w w'
section
variable {W w : World} {X : List Nat} {p m : Nat} {ls ls' ms ms' : List EntT}
theorem duo_each {A : Option Addr} {n c : Nat} {zs : List Int} (F : FuncId) (step : List EntT → Nat → Int × List EntT) (hs : StepOk step) (h : Duo W X w p ls m ms) (hn : n = zs.length) (hz : RowX .u64 w A zs) (hA : 0 < zs.length → ∀ x, A = some x → x.block < W.heap.size)
    (D : ∀ S, LgS S w p ls → LInv ls → (0 < zs.length → ∀ x, A = some x → x.block ∉ S) → Calls Try.prog F #[.pointer (some ⟨p, 0, none⟩), .slice A n c] w (EachR S w p (eachP step ls zs))) :
    Calls Try.prog F #[.pointer (some ⟨p, 0, none⟩), .slice A n c] w (DuoE W X p (eachP step ls zs).2 m ms (eachP step ls zs).1 w) :=
  h.runL (R := fun e => e = .returned (.int .i64 (eachP step ls zs).1)) (eachP_ok hs zs ls h.2.2.2.1).1 (fun S h1 h2 => D S h1 h.2.2.2.1 (fun h0 x hx hS => by have := hA h0 x hx; have := h2 _ hS; omega))
end
/-- eachP, one at a time. -/
theorem eachP_cons {step : List EntT → Nat → Int × List EntT} (ls : List EntT) (z : Int) (zs : List Int) : eachP step ls (z :: zs) = if (eachP step ls [z]).1 = 0 then eachP step (eachP step ls [z]).2 zs else eachP step ls [z] := by
  cases hi : idxL ls z with
  | none => simp only [eachP, hi]; rfl
  | some k =>
    rw [eachP_one hi]
    simp only [eachP, hi]
set_option maxRecDepth 100000 in
set_option maxHeartbeats 4000000 in
theorem leach_any (St : List EntT → World → Prop) (F : FuncId) (m : Nat) (eg : ∀ args w, (callFunc F args).run Try.prog w = .ok (.enter F args) w) (step : List EntT → Nat → Int × List EntT) (hs : StepOk step) (A : Option Addr) (c : Nat) (zs : List Int) (hzl : zs.length ≤ 9223372036854775807)
    (hrow : ∀ ms w, St ms w → RowX .u64 w A zs) (hstep : ∀ w ms z, LInv ms → ms.length ≤ 1000 → St ms w → Calls Try.prog F #[.pointer (some ⟨m, 0, none⟩), .int .u64 z] w fun e w' => e = .returned (.int .i64 (eachP step ms [z]).1) ∧ St (eachP step ms [z]).2 w')
    (W : World) (ms : List EntT) (h : St ms W) (hi : LInv ms) (hl : ms.length ≤ 1000) :
    Calls Try.prog 33 #[.slice A zs.length c, .func (.func F) #[.pointer (some ⟨m, 0, none⟩)] #[]] W fun e w' => e = .returned (.int .i64 (eachP step ms zs).1) ∧ St (eachP step ms zs).2 w' := by
  have H0 := Lib.hid h
  have HI := Lib.hid hi
  have HS := Lib.hid hs
  have HST := Lib.hid hstep
  have HR := Lib.hid hrow
  clear h hi hs hstep hrow
  go_enter Try.func33, Try.ntmps33
  go_wp2_with fail
  go_loopw [10] (fun v wr => ∃ (j : Nat) (l1 : List EntT), j ≤ zs.length ∧ v = .int .i64 j ∧ Hid (St l1 wr) ∧ Hid (LInv l1) ∧ l1.length ≤ 1000 ∧ Hid (eachP step ms zs = eachP step l1 (zs.drop j))) (fun v _ => (zs.length - intOf v).toNat)
  case atStart => exact ⟨0, ms, Nat.zero_le _, rfl, H0, HI, hl, Lib.hid rfl⟩
  case round =>
    obtain ⟨j, l1, hj, rfl, hL, hi1, hl1, he⟩ := hrel
    by_cases hjl : j < zs.length
    · obtain ⟨x, rfl, hxl, hcs⟩ := (HR.out _ _ hL.out) (by omega)
      have hc := hcs j hjl
      have hd : zs.drop j = (zs[j]?.getD 0) :: zs.drop (j + 1) := by
        rw [List.drop_eq_getElem_cons hjl, List.getElem?_eq_getElem hjl]; rfl
      have he' := he.out
      rw [hd, eachP_cons] at he'
      have hok := eachP_ok HS.out [zs[j]?.getD 0] l1 hi1.out
      have DS := Lib.hid (HST.out wr l1 (zs[j]?.getD 0) hi1.out hl1 hL.out)
      generalize zs[j]?.getD 0 = z at *
      have dj : decide (j < zs.length) = true := by simp; omega
      obtain ⟨er, l2, hst⟩ : ∃ er l2, eachP step l1 [z] = (er, l2) := ⟨_, _, rfl⟩
      rw [hst] at he' hok DS
      dsimp only at he' hok DS
      by_cases h0 : er = 0
      · subst h0
        rw [if_pos rfl] at he'
        have HE := Lib.hid he'
        have HOK := Lib.hid hok.1
        have hl2 : l2.length ≤ 1000 := by have := hok.2; omega
        clear hcs he' hok hst hd
        go_wp2_with fail
        (refine DS.out.mono ?_)
        rintro e w2 ⟨rfl, hS2⟩
        have HS2 := Lib.hid hS2
        clear hS2
        go_wp2_with fail
        go_roundw
        case rel => exact ⟨j + 1, l2, by omega, by go_num, HS2, HOK, hl2, HE⟩
        case measure => simp [intOf]; omega
      · rw [if_neg h0] at he'
        have h0b : (er != 0) = true := by rw [bne_iff_ne]; exact h0
        have HE := Lib.hid he'
        clear hcs he' hok hst hd h0
        go_wp2_with fail
        (refine DS.out.mono ?_)
        rintro e w2 ⟨rfl, hS2⟩
        have HS2 := Lib.hid hS2
        clear hS2
        go_wp2_with fail
        go_ret
        rw [HE.out]
        exact ⟨rfl, HS2.out⟩
    · obtain rfl : j = zs.length := by omega
      have he' := he.out
      rw [List.drop_of_length_le (Nat.le_refl _)] at he'
      have HE := Lib.hid he'
      clear he'
      go_wp2_with fail
      go_ret
      rw [HE.out]
      exact ⟨rfl, hL.out⟩
end Go.Proofs.Ytdallcepachhoaa
