/-
  No cell of these rows narrows 'for every input' (looked for: loops, veiled, ifaces, maps, wideKeys, modest, calm, conditions, laid).
  DERIVED. THE GIVEN ROWS OF THIS SEAT. 7 by the template 'for every input the law returns true; each argument reads behind the call as it read before'; 0 by the template 'total and deterministic' (their statements: YtfmgeidlbekfpaaTotals.lean).
  GIVEN WITH THE SEED: the statements are not yours to turn. If you find one false, say at which input.
  Laid BY PROGRAM, IN A SANDBOX (cutbox-rows.mjs): the forced cells as the released guide's own fill.sh prints them over the translation 87e39fd06c992003… (all of the seat's roots in one cut). By AI agents, Wed Nov 11 2026. No macro, syntax, notation, axiom, sorry.
-/
import Derived.Test.YtfmgeidlbekfpaaChecked
import GoSem.Claim
import GoSem.ClaimJoined
import GoSem.ClaimMapViews
import Derived.JoinedTies
import Derived.KernelRfl
namespace Go.Proofs.Ytfmgeidlbekfpaa
/- THE CELL 'sum', in the pinned program and in every row, IS THE sha256 OF THE DUMP (.gsa) THAT YtfmgeidlbekfpaaProg.lean LOADS. Nothing in Lean hashes anything: it is a label: what it is worth is what the hold of that sum in a sandbox is worth. -/
noncomputable def Try.pinned : Pinned := { name := "ytfmgeidlbekfpaa", sum := "87e39fd06c992003d215829ffd79522748d94930b97f5ee2966e6ab5e86cc073", checked := Try.checked }
namespace Rows
def none {H : Type} : Left H := { results := [], args := [] }

/-- 'allotmentlaw06.GeoPlaces': WHATEVER THE INPUT: true; the input reads as it did. -/
def geoPlacesSpec : ChangeSpec := { name := "geoPlaces", fn := fun _ => fun
  | [d1, d2] => { results := [.lit (.bool true)], args := [d1, d2] }
  | _ => none }
def geoPlacesRow : OpenClaim := { program := "ytfmgeidlbekfpaa", sum := "87e39fd06c992003d215829ffd79522748d94930b97f5ee2966e6ab5e86cc073", func := "allotment/allotmentlaw06.GeoPlaces", spec := "geoPlaces", apart := false }
def GeoPlacesSaid : Prop := geoPlacesRow.holds Try.pinned (OpenSpec.ofChange geoPlacesSpec)

/-- ITS FALSE NEIGHBOUR: 'it returns false'. Refute it at one input. -/
def geoPlacesWrong : ChangeSpec := { name := "geoPlaces", fn := fun _ => fun
  | [d1, d2] => { results := [.lit (.bool false)], args := [d1, d2] }
  | _ => none }
def GeoPlacesWrongFalsely : Prop := geoPlacesRow.holds Try.pinned (OpenSpec.ofChange geoPlacesWrong)

/-- 'allotmentlaw06.GeoBack': WHATEVER THE INPUT: true; the input reads as it did. -/
def geoBackSpec : ChangeSpec := { name := "geoBack", fn := fun _ => fun
  | [d] => { results := [.lit (.bool true)], args := [d] }
  | _ => none }
def geoBackRow : OpenClaim := { program := "ytfmgeidlbekfpaa", sum := "87e39fd06c992003d215829ffd79522748d94930b97f5ee2966e6ab5e86cc073", func := "allotment/allotmentlaw06.GeoBack", spec := "geoBack", apart := false }
def GeoBackSaid : Prop := geoBackRow.holds Try.pinned (OpenSpec.ofChange geoBackSpec)

/-- ITS FALSE NEIGHBOUR: 'it returns false'. Refute it at one input. -/
def geoBackWrong : ChangeSpec := { name := "geoBack", fn := fun _ => fun
  | [d] => { results := [.lit (.bool false)], args := [d] }
  | _ => none }
def GeoBackWrongFalsely : Prop := geoBackRow.holds Try.pinned (OpenSpec.ofChange geoBackWrong)

/-- 'allotmentlaw06.GeoRuns': WHATEVER THE INPUT: true; the input reads as it did. -/
def geoRunsSpec : ChangeSpec := { name := "geoRuns", fn := fun _ => fun
  | [d1, d2, d3] => { results := [.lit (.bool true)], args := [d1, d2, d3] }
  | _ => none }
def geoRunsRow : OpenClaim := { program := "ytfmgeidlbekfpaa", sum := "87e39fd06c992003d215829ffd79522748d94930b97f5ee2966e6ab5e86cc073", func := "allotment/allotmentlaw06.GeoRuns", spec := "geoRuns", unfollowed := true, recurses := true, apart := false }
def GeoRunsSaid : Prop := geoRunsRow.holds Try.pinned (OpenSpec.ofChange geoRunsSpec)

/-- ITS FALSE NEIGHBOUR: 'it returns false'. Refute it at one input. -/
def geoRunsWrong : ChangeSpec := { name := "geoRuns", fn := fun _ => fun
  | [d1, d2, d3] => { results := [.lit (.bool false)], args := [d1, d2, d3] }
  | _ => none }
def GeoRunsWrongFalsely : Prop := geoRunsRow.holds Try.pinned (OpenSpec.ofChange geoRunsWrong)

/-- 'allotmentlaw06.GeoBlocks': WHATEVER THE INPUT: true; the input reads as it did. -/
def geoBlocksSpec : ChangeSpec := { name := "geoBlocks", fn := fun _ => fun
  | [d] => { results := [.lit (.bool true)], args := [d] }
  | _ => none }
def geoBlocksRow : OpenClaim := { program := "ytfmgeidlbekfpaa", sum := "87e39fd06c992003d215829ffd79522748d94930b97f5ee2966e6ab5e86cc073", func := "allotment/allotmentlaw06.GeoBlocks", spec := "geoBlocks", unfollowed := true, recurses := true, apart := false }
def GeoBlocksSaid : Prop := geoBlocksRow.holds Try.pinned (OpenSpec.ofChange geoBlocksSpec)

/-- ITS FALSE NEIGHBOUR: 'it returns false'. Refute it at one input. -/
def geoBlocksWrong : ChangeSpec := { name := "geoBlocks", fn := fun _ => fun
  | [d] => { results := [.lit (.bool false)], args := [d] }
  | _ => none }
def GeoBlocksWrongFalsely : Prop := geoBlocksRow.holds Try.pinned (OpenSpec.ofChange geoBlocksWrong)

/-- 'allotmentlaw06.GeoMeets': WHATEVER THE INPUT: true; the input reads as it did. -/
def geoMeetsSpec : ChangeSpec := { name := "geoMeets", fn := fun _ => fun
  | [d] => { results := [.lit (.bool true)], args := [d] }
  | _ => none }
def geoMeetsRow : OpenClaim := { program := "ytfmgeidlbekfpaa", sum := "87e39fd06c992003d215829ffd79522748d94930b97f5ee2966e6ab5e86cc073", func := "allotment/allotmentlaw06.GeoMeets", spec := "geoMeets", unfollowed := true, recurses := true, apart := false }
def GeoMeetsSaid : Prop := geoMeetsRow.holds Try.pinned (OpenSpec.ofChange geoMeetsSpec)

/-- ITS FALSE NEIGHBOUR: 'it returns false'. Refute it at one input. -/
def geoMeetsWrong : ChangeSpec := { name := "geoMeets", fn := fun _ => fun
  | [d] => { results := [.lit (.bool false)], args := [d] }
  | _ => none }
def GeoMeetsWrongFalsely : Prop := geoMeetsRow.holds Try.pinned (OpenSpec.ofChange geoMeetsWrong)

/-- 'allotmentlaw06.GeoApart': WHATEVER THE INPUT: true; the input reads as it did. -/
def geoApartSpec : ChangeSpec := { name := "geoApart", fn := fun _ => fun
  | [d1, d2, d3] => { results := [.lit (.bool true)], args := [d1, d2, d3] }
  | _ => none }
def geoApartRow : OpenClaim := { program := "ytfmgeidlbekfpaa", sum := "87e39fd06c992003d215829ffd79522748d94930b97f5ee2966e6ab5e86cc073", func := "allotment/allotmentlaw06.GeoApart", spec := "geoApart", unfollowed := true, recurses := true, apart := false }
def GeoApartSaid : Prop := geoApartRow.holds Try.pinned (OpenSpec.ofChange geoApartSpec)

/-- ITS FALSE NEIGHBOUR: 'it returns false'. Refute it at one input. -/
def geoApartWrong : ChangeSpec := { name := "geoApart", fn := fun _ => fun
  | [d1, d2, d3] => { results := [.lit (.bool false)], args := [d1, d2, d3] }
  | _ => none }
def GeoApartWrongFalsely : Prop := geoApartRow.holds Try.pinned (OpenSpec.ofChange geoApartWrong)

/-- 'allotmentlaw06.GeoSlices': WHATEVER THE INPUT: true; the input reads as it did. -/
def geoSlicesSpec : ChangeSpec := { name := "geoSlices", fn := fun _ => fun
  | [d1, d2] => { results := [.lit (.bool true)], args := [d1, d2] }
  | _ => none }
def geoSlicesRow : OpenClaim := { program := "ytfmgeidlbekfpaa", sum := "87e39fd06c992003d215829ffd79522748d94930b97f5ee2966e6ab5e86cc073", func := "allotment/allotmentlaw06.GeoSlices", spec := "geoSlices", unfollowed := true, recurses := true, apart := false }
def GeoSlicesSaid : Prop := geoSlicesRow.holds Try.pinned (OpenSpec.ofChange geoSlicesSpec)

/-- ITS FALSE NEIGHBOUR: 'it returns false'. Refute it at one input. -/
def geoSlicesWrong : ChangeSpec := { name := "geoSlices", fn := fun _ => fun
  | [d1, d2] => { results := [.lit (.bool false)], args := [d1, d2] }
  | _ => none }
def GeoSlicesWrongFalsely : Prop := geoSlicesRow.holds Try.pinned (OpenSpec.ofChange geoSlicesWrong)

/- THE SECOND FORM. 'bulk': how many values and letters a reading holds, each counted each time it is reached (what is shared counts as often as it is met; a slice's spare places count too). A statement '..UptoSaid' is the law's where the arguments, and the package variables that the reading takes, are together of bulk at most 1048576: NARROWER than '..Said'. Prove '..Said' where nothing that the law and all that it calls make is longer than what came in: it says more and counts as full. Else prove '..UptoSaid'. A law counts once. -/
mutual
def uptoBulk {H : Type} : DataW H → Nat
  | .lit (.string bytes) => bytes.length + 1
  | .lit _ => 1
  | .nil => 1
  | .ptr d => uptoBulk d + 1
  | .slice elems spare => uptoBulkAll elems + uptoBulkAll spare + 1
  | .agg parts => uptoBulkAll parts + 1
  | .iface _ d => uptoBulk d + 1
  | .map entries => uptoBulkEntries entries + 1
  | .held _ => 1
def uptoBulkAll {H : Type} : List (DataW H) → Nat
  | [] => 0
  | d :: r => uptoBulk d + uptoBulkAll r
def uptoBulkEntries {H : Type} : List (Lit × DataW H) → Nat
  | [] => 0
  | x :: r => uptoBulkEntry x + uptoBulkEntries r
def uptoBulkEntry {H : Type} : Lit × DataW H → Nat
  | (.string bytes, d) => bytes.length + uptoBulk d + 1
  | (_, d) => uptoBulk d + 1
 end
def uptoSmall : (H : Type) → List (DataW H) → Bool := fun _ ds => decide (uptoBulkAll ds ≤ 1048576)
def OpenSpec.upto (s : _root_.Go.ChangeSpec) : _root_.Go.OpenSpec := { _root_.Go.OpenSpec.ofChange s with cond := some uptoSmall }

/-- 'allotmentlaw06.GeoPlaces', WHERE WHAT IT READS IS OF BULK AT MOST 1048576: true; the input reads as it did. -/
def geoPlacesUptoRow : OpenClaim := { program := "ytfmgeidlbekfpaa", sum := "87e39fd06c992003d215829ffd79522748d94930b97f5ee2966e6ab5e86cc073", func := "allotment/allotmentlaw06.GeoPlaces", spec := "geoPlaces", apart := false, narrowed := true }
def GeoPlacesUptoSaid : Prop := geoPlacesUptoRow.holds Try.pinned (OpenSpec.upto geoPlacesSpec)

/-- 'allotmentlaw06.GeoBack', WHERE WHAT IT READS IS OF BULK AT MOST 1048576: true; the input reads as it did. -/
def geoBackUptoRow : OpenClaim := { program := "ytfmgeidlbekfpaa", sum := "87e39fd06c992003d215829ffd79522748d94930b97f5ee2966e6ab5e86cc073", func := "allotment/allotmentlaw06.GeoBack", spec := "geoBack", apart := false, narrowed := true }
def GeoBackUptoSaid : Prop := geoBackUptoRow.holds Try.pinned (OpenSpec.upto geoBackSpec)

/-- 'allotmentlaw06.GeoRuns', WHERE WHAT IT READS IS OF BULK AT MOST 1048576: true; the input reads as it did. -/
def geoRunsUptoRow : OpenClaim := { program := "ytfmgeidlbekfpaa", sum := "87e39fd06c992003d215829ffd79522748d94930b97f5ee2966e6ab5e86cc073", func := "allotment/allotmentlaw06.GeoRuns", spec := "geoRuns", unfollowed := true, recurses := true, apart := false, narrowed := true }
def GeoRunsUptoSaid : Prop := geoRunsUptoRow.holds Try.pinned (OpenSpec.upto geoRunsSpec)

/-- 'allotmentlaw06.GeoBlocks', WHERE WHAT IT READS IS OF BULK AT MOST 1048576: true; the input reads as it did. -/
def geoBlocksUptoRow : OpenClaim := { program := "ytfmgeidlbekfpaa", sum := "87e39fd06c992003d215829ffd79522748d94930b97f5ee2966e6ab5e86cc073", func := "allotment/allotmentlaw06.GeoBlocks", spec := "geoBlocks", unfollowed := true, recurses := true, apart := false, narrowed := true }
def GeoBlocksUptoSaid : Prop := geoBlocksUptoRow.holds Try.pinned (OpenSpec.upto geoBlocksSpec)

/-- 'allotmentlaw06.GeoMeets', WHERE WHAT IT READS IS OF BULK AT MOST 1048576: true; the input reads as it did. -/
def geoMeetsUptoRow : OpenClaim := { program := "ytfmgeidlbekfpaa", sum := "87e39fd06c992003d215829ffd79522748d94930b97f5ee2966e6ab5e86cc073", func := "allotment/allotmentlaw06.GeoMeets", spec := "geoMeets", unfollowed := true, recurses := true, apart := false, narrowed := true }
def GeoMeetsUptoSaid : Prop := geoMeetsUptoRow.holds Try.pinned (OpenSpec.upto geoMeetsSpec)

/-- 'allotmentlaw06.GeoApart', WHERE WHAT IT READS IS OF BULK AT MOST 1048576: true; the input reads as it did. -/
def geoApartUptoRow : OpenClaim := { program := "ytfmgeidlbekfpaa", sum := "87e39fd06c992003d215829ffd79522748d94930b97f5ee2966e6ab5e86cc073", func := "allotment/allotmentlaw06.GeoApart", spec := "geoApart", unfollowed := true, recurses := true, apart := false, narrowed := true }
def GeoApartUptoSaid : Prop := geoApartUptoRow.holds Try.pinned (OpenSpec.upto geoApartSpec)

/-- 'allotmentlaw06.GeoSlices', WHERE WHAT IT READS IS OF BULK AT MOST 1048576: true; the input reads as it did. -/
def geoSlicesUptoRow : OpenClaim := { program := "ytfmgeidlbekfpaa", sum := "87e39fd06c992003d215829ffd79522748d94930b97f5ee2966e6ab5e86cc073", func := "allotment/allotmentlaw06.GeoSlices", spec := "geoSlices", unfollowed := true, recurses := true, apart := false, narrowed := true }
def GeoSlicesUptoSaid : Prop := geoSlicesUptoRow.holds Try.pinned (OpenSpec.upto geoSlicesSpec)

end Rows
end Go.Proofs.Ytfmgeidlbekfpaa
