/-
  No cell of these rows narrows 'for every input' (looked for: loops, veiled, ifaces, maps, wideKeys, modest, calm, conditions, laid).
  DERIVED. THE GIVEN ROWS OF THIS SEAT. 7 by the template 'for every input the law returns true; each argument reads behind the call as it read before'; 0 by the template 'total and deterministic' (their statements: YtgiokigokedakaaTotals.lean).
  GIVEN WITH THE SEED: the statements are not yours to turn. If you find one false, say at which input.
  Laid BY PROGRAM, IN A SANDBOX (cutbox-rows.mjs): the forced cells as the released guide's own fill.sh prints them over the translation d98473c2cf794bd5… (all of the seat's roots in one cut). By AI agents, Wed Nov 11 2026. No macro, syntax, notation, axiom, sorry.
-/
import Derived.Test.YtgiokigokedakaaChecked
import GoSem.Claim
import GoSem.ClaimJoined
import GoSem.ClaimMapViews
import Derived.JoinedTies
import Derived.KernelRfl
namespace Go.Proofs.Ytgiokigokedakaa
/- THE CELL 'sum', in the pinned program and in every row, IS THE sha256 OF THE DUMP (.gsa) THAT YtgiokigokedakaaProg.lean LOADS. Nothing in Lean hashes anything: it is a label: what it is worth is what the hold of that sum in a sandbox is worth. -/
noncomputable def Try.pinned : Pinned := { name := "ytgiokigokedakaa", sum := "d98473c2cf794bd5cca98dadcb382ab468926709b68087ec37c6fa0482255eb0", checked := Try.checked }
namespace Rows
def none {H : Type} : Left H := { results := [], args := [] }

/-- 'allotmentlaw09.PageOrders': WHATEVER THE INPUT: true; the input reads as it did. -/
def pageOrdersSpec : ChangeSpec := { name := "pageOrders", fn := fun _ => fun
  | [d1, d2, d3] => { results := [.lit (.bool true)], args := [d1, d2, d3] }
  | _ => none }
def pageOrdersRow : OpenClaim := { program := "ytgiokigokedakaa", sum := "d98473c2cf794bd5cca98dadcb382ab468926709b68087ec37c6fa0482255eb0", func := "allotment/allotmentlaw09.PageOrders", spec := "pageOrders", unfollowed := true, recurses := true, apart := false }
def PageOrdersSaid : Prop := pageOrdersRow.holds Try.pinned (OpenSpec.ofChange pageOrdersSpec)

/-- ITS FALSE NEIGHBOUR: 'it returns false'. Refute it at one input. -/
def pageOrdersWrong : ChangeSpec := { name := "pageOrders", fn := fun _ => fun
  | [d1, d2, d3] => { results := [.lit (.bool false)], args := [d1, d2, d3] }
  | _ => none }
def PageOrdersWrongFalsely : Prop := pageOrdersRow.holds Try.pinned (OpenSpec.ofChange pageOrdersWrong)

/-- 'allotmentlaw09.PageFills': WHATEVER THE INPUT: true; the input reads as it did. -/
def pageFillsSpec : ChangeSpec := { name := "pageFills", fn := fun _ => fun
  | [d1, d2, d3] => { results := [.lit (.bool true)], args := [d1, d2, d3] }
  | _ => none }
def pageFillsRow : OpenClaim := { program := "ytgiokigokedakaa", sum := "d98473c2cf794bd5cca98dadcb382ab468926709b68087ec37c6fa0482255eb0", func := "allotment/allotmentlaw09.PageFills", spec := "pageFills", unfollowed := true, recurses := true, apart := false }
def PageFillsSaid : Prop := pageFillsRow.holds Try.pinned (OpenSpec.ofChange pageFillsSpec)

/-- ITS FALSE NEIGHBOUR: 'it returns false'. Refute it at one input. -/
def pageFillsWrong : ChangeSpec := { name := "pageFills", fn := fun _ => fun
  | [d1, d2, d3] => { results := [.lit (.bool false)], args := [d1, d2, d3] }
  | _ => none }
def PageFillsWrongFalsely : Prop := pageFillsRow.holds Try.pinned (OpenSpec.ofChange pageFillsWrong)

/-- 'allotmentlaw09.PagePosts': WHATEVER THE INPUT: true; the input reads as it did. -/
def pagePostsSpec : ChangeSpec := { name := "pagePosts", fn := fun _ => fun
  | [d1, d2] => { results := [.lit (.bool true)], args := [d1, d2] }
  | _ => none }
def pagePostsRow : OpenClaim := { program := "ytgiokigokedakaa", sum := "d98473c2cf794bd5cca98dadcb382ab468926709b68087ec37c6fa0482255eb0", func := "allotment/allotmentlaw09.PagePosts", spec := "pagePosts", unfollowed := true, recurses := true, apart := false }
def PagePostsSaid : Prop := pagePostsRow.holds Try.pinned (OpenSpec.ofChange pagePostsSpec)

/-- ITS FALSE NEIGHBOUR: 'it returns false'. Refute it at one input. -/
def pagePostsWrong : ChangeSpec := { name := "pagePosts", fn := fun _ => fun
  | [d1, d2] => { results := [.lit (.bool false)], args := [d1, d2] }
  | _ => none }
def PagePostsWrongFalsely : Prop := pagePostsRow.holds Try.pinned (OpenSpec.ofChange pagePostsWrong)

/-- 'allotmentlaw09.PageLinks': WHATEVER THE INPUT: true; the input reads as it did. -/
def pageLinksSpec : ChangeSpec := { name := "pageLinks", fn := fun _ => fun
  | [d1, d2] => { results := [.lit (.bool true)], args := [d1, d2] }
  | _ => none }
def pageLinksRow : OpenClaim := { program := "ytgiokigokedakaa", sum := "d98473c2cf794bd5cca98dadcb382ab468926709b68087ec37c6fa0482255eb0", func := "allotment/allotmentlaw09.PageLinks", spec := "pageLinks", unfollowed := true, recurses := true, apart := false }
def PageLinksSaid : Prop := pageLinksRow.holds Try.pinned (OpenSpec.ofChange pageLinksSpec)

/-- ITS FALSE NEIGHBOUR: 'it returns false'. Refute it at one input. -/
def pageLinksWrong : ChangeSpec := { name := "pageLinks", fn := fun _ => fun
  | [d1, d2] => { results := [.lit (.bool false)], args := [d1, d2] }
  | _ => none }
def PageLinksWrongFalsely : Prop := pageLinksRow.holds Try.pinned (OpenSpec.ofChange pageLinksWrong)

/-- 'allotmentlaw09.PageLasts': WHATEVER THE INPUT: true; the input reads as it did. -/
def pageLastsSpec : ChangeSpec := { name := "pageLasts", fn := fun _ => fun
  | [d1, d2] => { results := [.lit (.bool true)], args := [d1, d2] }
  | _ => none }
def pageLastsRow : OpenClaim := { program := "ytgiokigokedakaa", sum := "d98473c2cf794bd5cca98dadcb382ab468926709b68087ec37c6fa0482255eb0", func := "allotment/allotmentlaw09.PageLasts", spec := "pageLasts", unfollowed := true, recurses := true, apart := false }
def PageLastsSaid : Prop := pageLastsRow.holds Try.pinned (OpenSpec.ofChange pageLastsSpec)

/-- ITS FALSE NEIGHBOUR: 'it returns false'. Refute it at one input. -/
def pageLastsWrong : ChangeSpec := { name := "pageLasts", fn := fun _ => fun
  | [d1, d2] => { results := [.lit (.bool false)], args := [d1, d2] }
  | _ => none }
def PageLastsWrongFalsely : Prop := pageLastsRow.holds Try.pinned (OpenSpec.ofChange pageLastsWrong)

/-- 'allotmentlaw09.PageAdds': WHATEVER THE INPUT: true; the input reads as it did. -/
def pageAddsSpec : ChangeSpec := { name := "pageAdds", fn := fun _ => fun
  | [d1, d2, d3] => { results := [.lit (.bool true)], args := [d1, d2, d3] }
  | _ => none }
def pageAddsRow : OpenClaim := { program := "ytgiokigokedakaa", sum := "d98473c2cf794bd5cca98dadcb382ab468926709b68087ec37c6fa0482255eb0", func := "allotment/allotmentlaw09.PageAdds", spec := "pageAdds", unfollowed := true, recurses := true, apart := false }
def PageAddsSaid : Prop := pageAddsRow.holds Try.pinned (OpenSpec.ofChange pageAddsSpec)

/-- ITS FALSE NEIGHBOUR: 'it returns false'. Refute it at one input. -/
def pageAddsWrong : ChangeSpec := { name := "pageAdds", fn := fun _ => fun
  | [d1, d2, d3] => { results := [.lit (.bool false)], args := [d1, d2, d3] }
  | _ => none }
def PageAddsWrongFalsely : Prop := pageAddsRow.holds Try.pinned (OpenSpec.ofChange pageAddsWrong)

/-- 'allotmentlaw09.PageActs': WHATEVER THE INPUT: true; the input reads as it did. -/
def pageActsSpec : ChangeSpec := { name := "pageActs", fn := fun _ => fun
  | [d1, d2] => { results := [.lit (.bool true)], args := [d1, d2] }
  | _ => none }
def pageActsRow : OpenClaim := { program := "ytgiokigokedakaa", sum := "d98473c2cf794bd5cca98dadcb382ab468926709b68087ec37c6fa0482255eb0", func := "allotment/allotmentlaw09.PageActs", spec := "pageActs", unfollowed := true, recurses := true, apart := false }
def PageActsSaid : Prop := pageActsRow.holds Try.pinned (OpenSpec.ofChange pageActsSpec)

/-- ITS FALSE NEIGHBOUR: 'it returns false'. Refute it at one input. -/
def pageActsWrong : ChangeSpec := { name := "pageActs", fn := fun _ => fun
  | [d1, d2] => { results := [.lit (.bool false)], args := [d1, d2] }
  | _ => none }
def PageActsWrongFalsely : Prop := pageActsRow.holds Try.pinned (OpenSpec.ofChange pageActsWrong)

/- THE SECOND FORM. 'bulk': how many values and letters a reading holds, each counted each time it is reached (what is shared counts as often as it is met; a slice's spare places count too). A statement '..UptoSaid' is the law's where the arguments, and the package variables that the reading takes, are together of bulk at most 1048576: NARROWER than '..Said'. Prove '..Said' where nothing that the law and all that it calls make is longer than what came in: it says more and counts as full. Else prove '..UptoSaid'. A law counts once. -/
mutual
def uptoBulk {H : Type} : DataW H → Nat
  | .lit (.string bytes) => bytes.length + 1
  | .lit _ => 1
  | .nil => 1
  | .ptr d => uptoBulk d + 1
  | .slice elems spare => uptoBulkAll elems + uptoBulkAll spare + 1
  | .agg parts => uptoBulkAll parts + 1
  | .iface _ d => uptoBulk d + 1
  | .map entries => uptoBulkEntries entries + 1
  | .held _ => 1
def uptoBulkAll {H : Type} : List (DataW H) → Nat
  | [] => 0
  | d :: r => uptoBulk d + uptoBulkAll r
def uptoBulkEntries {H : Type} : List (Lit × DataW H) → Nat
  | [] => 0
  | x :: r => uptoBulkEntry x + uptoBulkEntries r
def uptoBulkEntry {H : Type} : Lit × DataW H → Nat
  | (.string bytes, d) => bytes.length + uptoBulk d + 1
  | (_, d) => uptoBulk d + 1
 end
def uptoSmall : (H : Type) → List (DataW H) → Bool := fun _ ds => decide (uptoBulkAll ds ≤ 1048576)
def OpenSpec.upto (s : _root_.Go.ChangeSpec) : _root_.Go.OpenSpec := { _root_.Go.OpenSpec.ofChange s with cond := some uptoSmall }

/-- 'allotmentlaw09.PageOrders', WHERE WHAT IT READS IS OF BULK AT MOST 1048576: true; the input reads as it did. -/
def pageOrdersUptoRow : OpenClaim := { program := "ytgiokigokedakaa", sum := "d98473c2cf794bd5cca98dadcb382ab468926709b68087ec37c6fa0482255eb0", func := "allotment/allotmentlaw09.PageOrders", spec := "pageOrders", unfollowed := true, recurses := true, apart := false, narrowed := true }
def PageOrdersUptoSaid : Prop := pageOrdersUptoRow.holds Try.pinned (OpenSpec.upto pageOrdersSpec)

/-- 'allotmentlaw09.PageFills', WHERE WHAT IT READS IS OF BULK AT MOST 1048576: true; the input reads as it did. -/
def pageFillsUptoRow : OpenClaim := { program := "ytgiokigokedakaa", sum := "d98473c2cf794bd5cca98dadcb382ab468926709b68087ec37c6fa0482255eb0", func := "allotment/allotmentlaw09.PageFills", spec := "pageFills", unfollowed := true, recurses := true, apart := false, narrowed := true }
def PageFillsUptoSaid : Prop := pageFillsUptoRow.holds Try.pinned (OpenSpec.upto pageFillsSpec)

/-- 'allotmentlaw09.PagePosts', WHERE WHAT IT READS IS OF BULK AT MOST 1048576: true; the input reads as it did. -/
def pagePostsUptoRow : OpenClaim := { program := "ytgiokigokedakaa", sum := "d98473c2cf794bd5cca98dadcb382ab468926709b68087ec37c6fa0482255eb0", func := "allotment/allotmentlaw09.PagePosts", spec := "pagePosts", unfollowed := true, recurses := true, apart := false, narrowed := true }
def PagePostsUptoSaid : Prop := pagePostsUptoRow.holds Try.pinned (OpenSpec.upto pagePostsSpec)

/-- 'allotmentlaw09.PageLinks', WHERE WHAT IT READS IS OF BULK AT MOST 1048576: true; the input reads as it did. -/
def pageLinksUptoRow : OpenClaim := { program := "ytgiokigokedakaa", sum := "d98473c2cf794bd5cca98dadcb382ab468926709b68087ec37c6fa0482255eb0", func := "allotment/allotmentlaw09.PageLinks", spec := "pageLinks", unfollowed := true, recurses := true, apart := false, narrowed := true }
def PageLinksUptoSaid : Prop := pageLinksUptoRow.holds Try.pinned (OpenSpec.upto pageLinksSpec)

/-- 'allotmentlaw09.PageLasts', WHERE WHAT IT READS IS OF BULK AT MOST 1048576: true; the input reads as it did. -/
def pageLastsUptoRow : OpenClaim := { program := "ytgiokigokedakaa", sum := "d98473c2cf794bd5cca98dadcb382ab468926709b68087ec37c6fa0482255eb0", func := "allotment/allotmentlaw09.PageLasts", spec := "pageLasts", unfollowed := true, recurses := true, apart := false, narrowed := true }
def PageLastsUptoSaid : Prop := pageLastsUptoRow.holds Try.pinned (OpenSpec.upto pageLastsSpec)

/-- 'allotmentlaw09.PageAdds', WHERE WHAT IT READS IS OF BULK AT MOST 1048576: true; the input reads as it did. -/
def pageAddsUptoRow : OpenClaim := { program := "ytgiokigokedakaa", sum := "d98473c2cf794bd5cca98dadcb382ab468926709b68087ec37c6fa0482255eb0", func := "allotment/allotmentlaw09.PageAdds", spec := "pageAdds", unfollowed := true, recurses := true, apart := false, narrowed := true }
def PageAddsUptoSaid : Prop := pageAddsUptoRow.holds Try.pinned (OpenSpec.upto pageAddsSpec)

/-- 'allotmentlaw09.PageActs', WHERE WHAT IT READS IS OF BULK AT MOST 1048576: true; the input reads as it did. -/
def pageActsUptoRow : OpenClaim := { program := "ytgiokigokedakaa", sum := "d98473c2cf794bd5cca98dadcb382ab468926709b68087ec37c6fa0482255eb0", func := "allotment/allotmentlaw09.PageActs", spec := "pageActs", unfollowed := true, recurses := true, apart := false, narrowed := true }
def PageActsUptoSaid : Prop := pageActsUptoRow.holds Try.pinned (OpenSpec.upto pageActsSpec)

end Rows
end Go.Proofs.Ytgiokigokedakaa
