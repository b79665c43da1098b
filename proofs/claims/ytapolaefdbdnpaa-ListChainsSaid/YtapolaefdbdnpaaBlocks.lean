/- blocks: addresses of blocks that are apart, of some numbers. -/
import Derived.Test.YtapolaefdbdnpaaMemC
import Derived.Test.YtapolaefdbdnpaaSet
set_option linter.unusedVariables false
set_option linter.unusedSimpArgs false
namespace Go.Proofs.Ytapolaefdbdnpaa
open Go.RowKit
theorem info_u64 : (Try.prog.info? 28).map (fun i => (i.zero, i.size, i.bytes)) = some (some (.int .u64 0), 1, 8) := by kernel_rfl
theorem zero_bool (w : World) : (zeroValue 4).run Try.prog w = .ok (.bool false) w := by
  have h : Try.t4.zero = some (.bool false) := by kernel_rfl
  simp [zeroValue, go_sem, Try.underlying4, h]
theorem row1 {k : IntKind} {w : World} {b : Nat} {t : TypeId} {x : Int} (h : Blk w b t #[.int k x]) : RowX k w (some ⟨b, 0, none⟩) [x] :=
  RowX.of_blk h (fun i hi => by
    match i, hi with
    | 0, _ => rfl)
theorem OwnI.grown {B : Nat} {k : IntKind} {e : TypeId} {w w' : World} {v : Value} {zs : List Int} (h : OwnI B k e w v zs) (hk : Kept [B - 1] w w') (hB : 0 < B) : OwnI B k e w' v zs := h.keepS hk (fun s hs => by simp at hs; omega)
theorem own_ne {B b : Nat} {k : IntKind} {e : TypeId} {w : World} {v : Value} {zs : List Int} (h : OwnI B k e w v zs) (hb : b < B) : some b ≠ v.ownBlock := fun hh => by
  have := World.ownsRow.lt h b hh.symm
  omega
/-- Addresses of blocks that are apart. -/
def Blocks (ys : List Int) : Prop := ys.Nodup ∧ ∀ y, y ∈ ys → ∃ t : Nat, t < 120 ∧ y = 16 + 16 * (t : Int)
theorem Blocks.nil : Blocks [] := ⟨List.nodup_nil, fun y h => by cases h⟩
theorem Blocks.snoc {ys : List Int} (h : Blocks ys) {t : Nat} (ht : t < 120) (hn : (16 + 16 * (t : Int)) ∉ ys) : Blocks (ys ++ [16 + 16 * (t : Int)]) := by
  refine ⟨List.nodup_append.2 ⟨h.1, by simp, fun a ha b hb => ?_⟩, fun y hy => ?_⟩
  · simp at hb
    rintro rfl
    rw [hb] at ha
    exact hn ha
  · rcases List.mem_append.1 hy with h1 | h1
    · exact h.2 y h1
    · simp at h1
      exact ⟨t, ht, h1⟩
theorem Blocks.len {ys : List Int} (h : Blocks ys) : ys.length ≤ 120 := by
  have h1 : (ys.map (fun y => ((y - 16) / 16).toNat)).Nodup := by
    rw [List.Nodup, List.pairwise_map]
    refine List.Pairwise.imp_of_mem ?_ h.1
    intro a b ha hb hne hh
    obtain ⟨t, ht, rfl⟩ := h.2 a ha
    obtain ⟨u, hu, rfl⟩ := h.2 b hb
    apply hne
    omega
  have := nodup_le 120 _ h1 (fun x hx => by
    obtain ⟨y, hy, rfl⟩ := List.mem_map.1 hx
    obtain ⟨t, ht, rfl⟩ := h.2 y hy
    omega)
  simpa using this
/-- What the map and the row say of one another. -/
def MetIs (S : Int → Bool) (ys : List Int) : Prop := ∀ t : Nat, t < 120 → (S (t : Int) = true ↔ (16 + 16 * (t : Int)) ∈ ys)
theorem MetIs.nil : MetIs (fun _ => false) [] := fun t _ => by simp
theorem MetIs.snoc {S : Int → Bool} {ys : List Int} (h : MetIs S ys) (t : Nat) : MetIs (fun z => if z = (t : Int) then true else S z) (ys ++ [16 + 16 * (t : Int)]) := fun u hu => by
  show (if (u : Int) = (t : Int) then true else S u) = true ↔ _
  by_cases e : (u : Int) = (t : Int)
  · rw [if_pos e, e]; simp
  · rw [if_neg e, h u hu, List.mem_append]
    constructor
    · exact .inl
    · rintro (h1 | h1)
      · exact h1
      · simp at h1; omega
def BlocksIs (B : Nat) (e : Ending) (w' : World) : Prop := ∃ A n c ys, e = .returned (.slice A n c) ∧ Blocks ys ∧ n = ys.length ∧ OwnI B .u64 28 w' (.slice A n c) ys ∧ (A = none → c = 0)
set_option maxRecDepth 100000 in
set_option maxHeartbeats 4000000 in
theorem blocks_any (A : Option Addr) (cap : Nat) (zs : List Int) (hz : ∀ z, z ∈ zs → 0 ≤ z ∧ z ≤ 255) (w : World) (hr : RowX .u8 w A zs) (hn : zs.length ≤ 9223372036854775807) :
    Calls Try.prog 12 #[.slice A zs.length cap] w fun e w' => BlocksIs (w.heap.size + 1) e w' ∧ Kept [] w w' := by
  have hmm := @run_makeMap Try.prog
  have HZ := Lib.hid hz
  have HR := Lib.hid hr
  clear hz hr
  go_enter Try.func12, Try.ntmps12
  go_wp2_with fail
  go_loopw [3, 10] (fun v i wr => ∃ (j : Nat) (ys : List Int) (S : Int → Bool), j ≤ zs.length ∧ i = .int .i64 j ∧ Hid (Blocks ys) ∧ Hid (MetIs S ys) ∧ Hid (OwnI (w.heap.size + 1) .u64 28 wr v ys) ∧ Hid (SetI Try.prog 5 .u8 wr w.heap.size ys.length S) ∧ Kept [] w wr ∧ w.heap.size < wr.heap.size) (fun _ i _ => zs.length - (intOf i).toNat)
  case atStart => exact ⟨0, [], _, Nat.zero_le _, rfl, Lib.hid Blocks.nil, Lib.hid MetIs.nil, Lib.hid (OwnI.nil _ _ _ _), Lib.hid (SetI.made _ _ _ _), (Kept.refl [] w).alloc _, by simp⟩
  case round =>
    obtain ⟨j, ys, S, hj, rfl, hbl, hmt, how, hst, hkw, hsz⟩ := hrel
    by_cases hlt : j < zs.length
    · obtain ⟨ad, rfl, hc⟩ := HR.out.get (by omega)
      have hcell : wr.cell? (ad.add j) = some (.int .u8 (zs[j]?.getD 0)) := hc wr hkw j hlt
      have hzb := HZ.out (zs[j]?.getD 0) (by rw [List.getElem?_eq_getElem hlt]; exact List.getElem_mem hlt)
      generalize zs[j]?.getD 0 = x at hcell hzb
      obtain ⟨t, ht⟩ : ∃ t : Nat, x % 120 = (t : Int) := ⟨(x % 120).toNat, by omega⟩
      have ht1 : t < 120 := by omega
      have hwf : (Lit.int .u8 (t : Int)).wf = true := WalkArith.wf_u8 (by omega)
      clear hc
      have hlook := hst.out.look Try.underlying5 Try.underlying76 (zero_bool wr) (t : Int) hwf
      cases hS : S (t : Int) with
      | true =>
        rw [hS] at hlook
        go_wp2_with fail
        go_roundw
        case rel => exact ⟨j + 1, ys, S, by omega, by go_num, hbl, hmt, how, hst, hkw, hsz⟩
        case measure => simp [intOf]; omega
      | false =>
        rw [hS] at hlook
        have hlen := hbl.out.len
        obtain ⟨w5, hput, hst5, hk5⟩ := hst.out.put Try.underlying5 Try.underlying76 (by unfold maxLen; omega) (t : Int) hwf true
        have hs5 := hk5.size
        have HK5 := Lib.hid (hk5.thenG hkw (Nat.le_refl _))
        have HS5 := Lib.hid hst5
        have HO5 := Lib.hid (how.out.keepS hk5 (fun s hs => by simp at hs; omega))
        have HB : Hid (Blocks (ys ++ [16 + 16 * (t : Int)])) := Lib.hid (hbl.out.snoc ht1 (fun hm => by rw [(hmt.out t ht1).2 hm] at hS; cases hS))
        have HM := Lib.hid (hmt.out.snoc t)
        clear hst5 hk5
        go_wp2_with (refine app_gen .u64 29 28 8 Try.underlying29 info_u64 (by omega) rfl (.tmp 22) (.tmp 28) rfl w (w.heap.size + 1) _ ys [16 + 16 * (t : Int)] rfl (HO5.out.kept ((Kept.refl [] w5).alloc _)) _ _ _ rfl rfl (fun h => by cases h) (row1 (Blk.new _ _ _)) (HK5.out.alloc _) (by omega) (by simp; omega) (by simp; omega) ?_)
        intro A6 n6 c6 w6 hn6 own6 owo6 hk6 hg6 hs6 hc6 hr6
        have HS6 : Hid (SetI Try.prog 5 .u8 w6 w.heap.size (ys ++ [16 + 16 * (t : Int)]).length _) := Lib.hid (((HS5.out.keep ((Kept.refl [] w5).alloc _) (by simp)).grown hg6 (own_ne HO5.out (by omega))).mono (by simp))
        have HO6 := Lib.hid own6
        clear own6 owo6 hg6 hr6 hn6
        go_wp2_with fail
        go_roundw
        case rel => exact ⟨j + 1, _, _, by omega, by go_num, HB, HM, HO6, HS6, hk6, by (try simp at hs6); omega⟩
        case measure => simp [intOf]; omega
    · obtain rfl : j = zs.length := by omega
      obtain ⟨A', c', rfl, h1, h2, _⟩ := how.out.slice
      go_wp2_with fail
      go_ret
      exact ⟨⟨A', _, c', ys, rfl, hbl.out, rfl, how.out, h1⟩, hkw⟩
end Go.Proofs.Ytapolaefdbdnpaa
