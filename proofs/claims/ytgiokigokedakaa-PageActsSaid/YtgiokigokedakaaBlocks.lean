/- blocks: addresses of blocks that are apart, of some numbers. -/
import Derived.Test.YtgiokigokedakaaMemC
import Derived.Test.YtgiokigokedakaaSet
set_option linter.unusedVariables false
set_option linter.unusedSimpArgs false
namespace Go.Proofs.Ytgiokigokedakaa
open Go.RowKit
theorem info_u64 : (Try.prog.info? 26).map (fun i => (i.zero, i.size, i.bytes)) = some (some (.int .u64 0), 1, 8) := by kernel_rfl
theorem zero_bool (w : World) : (zeroValue 4).run Try.prog w = .ok (.bool false) w := by
  have h : Try.t4.zero = some (.bool false) := by kernel_rfl
  simp [zeroValue, go_sem, Try.underlying4, h]
theorem row1 {k : IntKind} {w : World} {b : Nat} {t : TypeId} {x : Int} (h : Blk w b t #[.int k x]) : RowX k w (some ⟨b, 0, none⟩) [x] :=
  RowX.of_blk h (fun i hi => by
    match i, hi with
    | 0, _ => rfl)
theorem OwnI.grown {B : Nat} {k : IntKind} {e : TypeId} {w w' : World} {v : Value} {zs : List Int} (h : OwnI B k e w v zs) (hk : Kept [B - 1] w w') (hB : 0 < B) : OwnI B k e w' v zs := h.keepS hk (fun s hs => by simp at hs; omega)
theorem own_ne {B b : Nat} {k : IntKind} {e : TypeId} {w : World} {v : Value} {zs : List Int} (h : OwnI B k e w v zs) (hb : b < B) : some b ≠ v.ownBlock := fun hh => by
  have := World.ownsRow.lt h b hh.symm
  omega
/-- Addresses of blocks that are apart. -/
def Blocks (ys : List Int) : Prop := ys.Nodup ∧ ∀ y, y ∈ ys → ∃ t : Nat, t < 120 ∧ y = 16 + 16 * (t : Int)
theorem Blocks.nil : Blocks [] := ⟨List.nodup_nil, fun y h => by cases h⟩
theorem Blocks.snoc {ys : List Int} (h : Blocks ys) {t : Nat} (ht : t < 120) (hn : (16 + 16 * (t : Int)) ∉ ys) : Blocks (ys ++ [16 + 16 * (t : Int)]) := by
  refine ⟨List.nodup_append.2 ⟨h.1, by simp, fun a ha b hb => ?_⟩, fun y hy => ?_⟩
  · simp at hb
    rintro rfl
    rw [hb] at ha
    exact hn ha
  · rcases List.mem_append.1 hy with h1 | h1
    · exact h.2 y h1
    · simp at h1
      exact ⟨t, ht, h1⟩
theorem Blocks.len {ys : List Int} (h : Blocks ys) : ys.length ≤ 120 := by
  have h1 : (ys.map (fun y => ((y - 16) / 16).toNat)).Nodup := by
    rw [List.Nodup, List.pairwise_map]
    refine List.Pairwise.imp_of_mem ?_ h.1
    intro a b ha hb hne hh
    obtain ⟨t, ht, rfl⟩ := h.2 a ha
    obtain ⟨u, hu, rfl⟩ := h.2 b hb
    apply hne
    omega
  have := nodup_le 120 _ h1 (fun x hx => by
    obtain ⟨y, hy, rfl⟩ := List.mem_map.1 hx
    obtain ⟨t, ht, rfl⟩ := h.2 y hy
    omega)
  simpa using this
/-- What the map and the row say of one another. -/
def MetIs (S : Int → Bool) (ys : List Int) : Prop := ∀ t : Nat, t < 120 → (S (t : Int) = true ↔ (16 + 16 * (t : Int)) ∈ ys)
theorem MetIs.nil : MetIs (fun _ => false) [] := fun t _ => by simp
theorem MetIs.snoc {S : Int → Bool} {ys : List Int} (h : MetIs S ys) (t : Nat) : MetIs (fun z => if z = (t : Int) then true else S z) (ys ++ [16 + 16 * (t : Int)]) := fun u hu => by
  show (if (u : Int) = (t : Int) then true else S u) = true ↔ _
  by_cases e : (u : Int) = (t : Int)
  · rw [if_pos e, e]; simp
  · rw [if_neg e, h u hu, List.mem_append]
    constructor
    · exact .inl
    · rintro (h1 | h1)
      · exact h1
      · simp at h1; omega
def BlocksIs (B : Nat) (e : Ending) (w' : World) : Prop := ∃ A n c ys, e = .returned (.slice A n c) ∧ Blocks ys ∧ n = ys.length ∧ OwnI B .u64 26 w' (.slice A n c) ys ∧ (A = none → c = 0)
end Go.Proofs.Ytgiokigokedakaa
