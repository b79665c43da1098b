/- A page's law: helpers that walks share. -/
import Derived.Test.YtgiokigokedakaaPgIn
import Derived.Test.YtgiokigokedakaaCutS
set_option linter.unusedVariables false
set_option linter.unusedSimpArgs false
namespace Go.Proofs.Ytgiokigokedakaa
open Go.RowKit
def ownI (v : Value) : List Nat := v.ownBlock.toList
theorem kept_ownI {v : Value} {w w' : World} (h : w.grownBy w' v.ownBlock) : Kept (ownI v) w w' :=
  (Kept.refl (ownI v) w).grown h (fun k hk => .inr (by unfold ownI; rw [hk]; simp))
theorem own_in {B : Nat} {k : IntKind} {e : TypeId} {w : World} {v : Value} {zs : List Int} (h : OwnI B k e w v zs) : ∀ s, s ∈ ownI v → B ≤ s ∧ s < w.heap.size := fun s hs => by
  rcases h.2 with ⟨rfl, _⟩ | ⟨g, cap, cur, rfl, hb, hg, _⟩
  · simp [ownI, Value.ownBlock] at hs
  · simp [ownI, Value.ownBlock] at hs
    subst hs
    exact ⟨hb, (Array.getElem?_eq_some_iff.1 hg).1⟩
theorem PgX.keepN {S : List Nat} {W w w' : World} {p mp g : Nat} {a : PgA} (h : PgX W w p mp g a) (hk : Kept S w w') {B : Nat} (hB : p < B ∧ mp < B ∧ g < B) (hS : ∀ s, s ∈ S → B ≤ s) (hW : W.heap.size ≤ B) : PgX W w' p mp g a := by
  obtain ⟨⟨zs, h1⟩, h2, h3⟩ := h
  exact ⟨⟨zs, h1.keepS hk (fun h => by have := hS _ h; omega) (fun h => by have := hS _ h; omega) (fun h => by have := hS _ h; omega)⟩, h2.trans hk (fun x hx hl => by have := hS x hx; omega), h3⟩
def toI (l : List Nat) : List Int := l.map (fun (x : Nat) => (x : Int))
theorem toI_app (l m : List Nat) : toI (l ++ m) = toI l ++ toI m := List.map_append
theorem toI_get {l : List Nat} {j : Nat} (h : j < l.length) : ((toI l)[j]?.getD 0) = ((l[j]?.getD 0 : Nat) : Int) := getD_map l j
theorem rowI1 {w : World} {g : Nat} {z : Int} (hb : Blk w g 26 #[.int .u64 z]) : RowX .u64 w (some ⟨g, 0, none⟩) [z] := RowX.of_blk hb (fun i hi => by
  have : i = 0 := by simpa using hi
  subst this
  rfl)
def encU (z : Int) : List Value := [.int .u64 z]
theorem encU_k : EncK encU 1 := ⟨by omega, fun _ => rfl, fun x v hv => by
  simp [encU] at hv
  rw [hv]; rfl⟩
theorem flat_encU (zs : List Int) : zs.flatMap encU = zs.map (Value.int .u64) := by
  induction zs with
  | nil => rfl
  | cons z zs ih => rw [List.flatMap_cons, ih]; rfl
theorem ownU {B : Nat} {E : TypeId} {w : World} {v : Value} {zs : List Int} : OwnI B .u64 E w v zs ↔ OwnS B E 1 encU w v zs := by
  unfold OwnI OwnS
  rw [flat_encU]
theorem rowU {w : World} {A : Option Addr} {zs : List Int} (h : RowS encU w A zs) : RowX .u64 w A zs := fun h0 => by
  obtain ⟨x, rfl, hb, hc⟩ := h h0
  refine ⟨x, rfl, hb, fun i hi => hc i _ ?_⟩
  rw [flat_encU, List.getElem?_map, List.getElem?_eq_getElem hi]; rfl
theorem toI_len (l : List Nat) : (toI l).length = l.length := by simp [toI]
theorem toI_take (l : List Nat) (k : Nat) : (toI l).take k = toI (l.take k) := List.map_take.symm
theorem toI_drop (l : List Nat) (k : Nat) : (toI l).drop k = toI (l.drop k) := List.map_drop.symm
theorem mem_eraseIdx_ne {l : List Nat} (h : l.Nodup) {q : Nat} (hq : q < l.length) {y : Nat} (hy : y ∈ l.eraseIdx q) : y ∈ l ∧ y ≠ l[q]?.getD 0 := by
  refine ⟨List.mem_of_mem_eraseIdx hy, fun e => ?_⟩
  rw [List.mem_eraseIdx_iff_getElem] at hy
  obtain ⟨i, hi, hne, hv⟩ := hy
  rw [List.getElem?_eq_getElem hq] at e
  have := List.pairwise_iff_getElem.1 h
  rcases Nat.lt_or_ge i q with h1 | h1
  · exact this i q hi hq h1 (hv.trans e)
  · exact this q i hq hi (by omega) (hv.trans e).symm
end Go.Proofs.Ytgiokigokedakaa
