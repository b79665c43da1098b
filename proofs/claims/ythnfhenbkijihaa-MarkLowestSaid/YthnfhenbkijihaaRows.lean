/-
  No cell of these rows narrows 'for every input' (looked for: loops, veiled, ifaces, maps, wideKeys, modest, calm, conditions, laid).
  DERIVED. THE GIVEN ROWS OF THIS SEAT. 6 by the template 'for every input the law returns true; each argument reads behind the call as it read before'; 0 by the template 'total and deterministic' (their statements: YthnfhenbkijihaaTotals.lean).
  GIVEN WITH THE SEED: the statements are not yours to turn. If you find one false, say at which input.
  Laid BY PROGRAM, IN A SANDBOX (cutbox-rows.mjs): the forced cells as the released guide's own fill.sh prints them over the translation 844991eeb486b83e… (all of the seat's roots in one cut). By AI agents, Wed Nov 11 2026. No macro, syntax, notation, axiom, sorry.
-/
import Derived.Test.YthnfhenbkijihaaChecked
import GoSem.Claim
import GoSem.ClaimJoined
import GoSem.ClaimMapViews
import Derived.JoinedTies
import Derived.KernelRfl
namespace Go.Proofs.Ythnfhenbkijihaa
/- THE CELL 'sum', in the pinned program and in every row, IS THE sha256 OF THE DUMP (.gsa) THAT YthnfhenbkijihaaProg.lean LOADS. Nothing in Lean hashes anything: it is a label: what it is worth is what the hold of that sum in a sandbox is worth. -/
noncomputable def Try.pinned : Pinned := { name := "ythnfhenbkijihaa", sum := "844991eeb486b83eb2dd74c93b84bb0ce1787bdfb9b8edb5c1ca6ce9b4eeac1f", checked := Try.checked }
namespace Rows
def none {H : Type} : Left H := { results := [], args := [] }

/-- 'allotmentlaw03.MarkFills': WHATEVER THE INPUT: true; the input reads as it did. -/
def markFillsSpec : ChangeSpec := { name := "markFills", fn := fun _ => fun
  | [d1, d2] => { results := [.lit (.bool true)], args := [d1, d2] }
  | _ => none }
def markFillsRow : OpenClaim := { program := "ythnfhenbkijihaa", sum := "844991eeb486b83eb2dd74c93b84bb0ce1787bdfb9b8edb5c1ca6ce9b4eeac1f", func := "allotment/allotmentlaw03.MarkFills", spec := "markFills", unfollowed := true, recurses := true, apart := false }
def MarkFillsSaid : Prop := markFillsRow.holds Try.pinned (OpenSpec.ofChange markFillsSpec)

/-- ITS FALSE NEIGHBOUR: 'it returns false'. Refute it at one input. -/
def markFillsWrong : ChangeSpec := { name := "markFills", fn := fun _ => fun
  | [d1, d2] => { results := [.lit (.bool false)], args := [d1, d2] }
  | _ => none }
def MarkFillsWrongFalsely : Prop := markFillsRow.holds Try.pinned (OpenSpec.ofChange markFillsWrong)

/-- 'allotmentlaw03.MarkBack': WHATEVER THE INPUT: true; the input reads as it did. -/
def markBackSpec : ChangeSpec := { name := "markBack", fn := fun _ => fun
  | [d] => { results := [.lit (.bool true)], args := [d] }
  | _ => none }
def markBackRow : OpenClaim := { program := "ythnfhenbkijihaa", sum := "844991eeb486b83eb2dd74c93b84bb0ce1787bdfb9b8edb5c1ca6ce9b4eeac1f", func := "allotment/allotmentlaw03.MarkBack", spec := "markBack", unfollowed := true, recurses := true, apart := false }
def MarkBackSaid : Prop := markBackRow.holds Try.pinned (OpenSpec.ofChange markBackSpec)

/-- ITS FALSE NEIGHBOUR: 'it returns false'. Refute it at one input. -/
def markBackWrong : ChangeSpec := { name := "markBack", fn := fun _ => fun
  | [d] => { results := [.lit (.bool false)], args := [d] }
  | _ => none }
def MarkBackWrongFalsely : Prop := markBackRow.holds Try.pinned (OpenSpec.ofChange markBackWrong)

/-- 'allotmentlaw03.MarkLongest': WHATEVER THE INPUT: true; the input reads as it did. -/
def markLongestSpec : ChangeSpec := { name := "markLongest", fn := fun _ => fun
  | [d] => { results := [.lit (.bool true)], args := [d] }
  | _ => none }
def markLongestRow : OpenClaim := { program := "ythnfhenbkijihaa", sum := "844991eeb486b83eb2dd74c93b84bb0ce1787bdfb9b8edb5c1ca6ce9b4eeac1f", func := "allotment/allotmentlaw03.MarkLongest", spec := "markLongest", unfollowed := true, recurses := true, apart := false }
def MarkLongestSaid : Prop := markLongestRow.holds Try.pinned (OpenSpec.ofChange markLongestSpec)

/-- ITS FALSE NEIGHBOUR: 'it returns false'. Refute it at one input. -/
def markLongestWrong : ChangeSpec := { name := "markLongest", fn := fun _ => fun
  | [d] => { results := [.lit (.bool false)], args := [d] }
  | _ => none }
def MarkLongestWrongFalsely : Prop := markLongestRow.holds Try.pinned (OpenSpec.ofChange markLongestWrong)

/-- 'allotmentlaw03.MarkLowest': WHATEVER THE INPUT: true; the input reads as it did. -/
def markLowestSpec : ChangeSpec := { name := "markLowest", fn := fun _ => fun
  | [d1, d2] => { results := [.lit (.bool true)], args := [d1, d2] }
  | _ => none }
def markLowestRow : OpenClaim := { program := "ythnfhenbkijihaa", sum := "844991eeb486b83eb2dd74c93b84bb0ce1787bdfb9b8edb5c1ca6ce9b4eeac1f", func := "allotment/allotmentlaw03.MarkLowest", spec := "markLowest", unfollowed := true, recurses := true, apart := false }
def MarkLowestSaid : Prop := markLowestRow.holds Try.pinned (OpenSpec.ofChange markLowestSpec)

/-- ITS FALSE NEIGHBOUR: 'it returns false'. Refute it at one input. -/
def markLowestWrong : ChangeSpec := { name := "markLowest", fn := fun _ => fun
  | [d1, d2] => { results := [.lit (.bool false)], args := [d1, d2] }
  | _ => none }
def MarkLowestWrongFalsely : Prop := markLowestRow.holds Try.pinned (OpenSpec.ofChange markLowestWrong)

/-- 'allotmentlaw03.MarkHas': WHATEVER THE INPUT: true; the input reads as it did. -/
def markHasSpec : ChangeSpec := { name := "markHas", fn := fun _ => fun
  | [d1, d2] => { results := [.lit (.bool true)], args := [d1, d2] }
  | _ => none }
def markHasRow : OpenClaim := { program := "ythnfhenbkijihaa", sum := "844991eeb486b83eb2dd74c93b84bb0ce1787bdfb9b8edb5c1ca6ce9b4eeac1f", func := "allotment/allotmentlaw03.MarkHas", spec := "markHas", unfollowed := true, recurses := true, apart := false }
def MarkHasSaid : Prop := markHasRow.holds Try.pinned (OpenSpec.ofChange markHasSpec)

/-- ITS FALSE NEIGHBOUR: 'it returns false'. Refute it at one input. -/
def markHasWrong : ChangeSpec := { name := "markHas", fn := fun _ => fun
  | [d1, d2] => { results := [.lit (.bool false)], args := [d1, d2] }
  | _ => none }
def MarkHasWrongFalsely : Prop := markHasRow.holds Try.pinned (OpenSpec.ofChange markHasWrong)

/-- 'allotmentlaw03.MarkSingles': WHATEVER THE INPUT: true; the input reads as it did. -/
def markSinglesSpec : ChangeSpec := { name := "markSingles", fn := fun _ => fun
  | [d] => { results := [.lit (.bool true)], args := [d] }
  | _ => none }
def markSinglesRow : OpenClaim := { program := "ythnfhenbkijihaa", sum := "844991eeb486b83eb2dd74c93b84bb0ce1787bdfb9b8edb5c1ca6ce9b4eeac1f", func := "allotment/allotmentlaw03.MarkSingles", spec := "markSingles", unfollowed := true, recurses := true, apart := false }
def MarkSinglesSaid : Prop := markSinglesRow.holds Try.pinned (OpenSpec.ofChange markSinglesSpec)

/-- ITS FALSE NEIGHBOUR: 'it returns false'. Refute it at one input. -/
def markSinglesWrong : ChangeSpec := { name := "markSingles", fn := fun _ => fun
  | [d] => { results := [.lit (.bool false)], args := [d] }
  | _ => none }
def MarkSinglesWrongFalsely : Prop := markSinglesRow.holds Try.pinned (OpenSpec.ofChange markSinglesWrong)

/- THE SECOND FORM. 'bulk': how many values and letters a reading holds, each counted each time it is reached (what is shared counts as often as it is met; a slice's spare places count too). A statement '..UptoSaid' is the law's where the arguments, and the package variables that the reading takes, are together of bulk at most 1048576: NARROWER than '..Said'. Prove '..Said' where nothing that the law and all that it calls make is longer than what came in: it says more and counts as full. Else prove '..UptoSaid'. A law counts once. -/
mutual
def uptoBulk {H : Type} : DataW H → Nat
  | .lit (.string bytes) => bytes.length + 1
  | .lit _ => 1
  | .nil => 1
  | .ptr d => uptoBulk d + 1
  | .slice elems spare => uptoBulkAll elems + uptoBulkAll spare + 1
  | .agg parts => uptoBulkAll parts + 1
  | .iface _ d => uptoBulk d + 1
  | .map entries => uptoBulkEntries entries + 1
  | .held _ => 1
def uptoBulkAll {H : Type} : List (DataW H) → Nat
  | [] => 0
  | d :: r => uptoBulk d + uptoBulkAll r
def uptoBulkEntries {H : Type} : List (Lit × DataW H) → Nat
  | [] => 0
  | x :: r => uptoBulkEntry x + uptoBulkEntries r
def uptoBulkEntry {H : Type} : Lit × DataW H → Nat
  | (.string bytes, d) => bytes.length + uptoBulk d + 1
  | (_, d) => uptoBulk d + 1
 end
def uptoSmall : (H : Type) → List (DataW H) → Bool := fun _ ds => decide (uptoBulkAll ds ≤ 1048576)
def OpenSpec.upto (s : _root_.Go.ChangeSpec) : _root_.Go.OpenSpec := { _root_.Go.OpenSpec.ofChange s with cond := some uptoSmall }

/-- 'allotmentlaw03.MarkFills', WHERE WHAT IT READS IS OF BULK AT MOST 1048576: true; the input reads as it did. -/
def markFillsUptoRow : OpenClaim := { program := "ythnfhenbkijihaa", sum := "844991eeb486b83eb2dd74c93b84bb0ce1787bdfb9b8edb5c1ca6ce9b4eeac1f", func := "allotment/allotmentlaw03.MarkFills", spec := "markFills", unfollowed := true, recurses := true, apart := false, narrowed := true }
def MarkFillsUptoSaid : Prop := markFillsUptoRow.holds Try.pinned (OpenSpec.upto markFillsSpec)

/-- 'allotmentlaw03.MarkBack', WHERE WHAT IT READS IS OF BULK AT MOST 1048576: true; the input reads as it did. -/
def markBackUptoRow : OpenClaim := { program := "ythnfhenbkijihaa", sum := "844991eeb486b83eb2dd74c93b84bb0ce1787bdfb9b8edb5c1ca6ce9b4eeac1f", func := "allotment/allotmentlaw03.MarkBack", spec := "markBack", unfollowed := true, recurses := true, apart := false, narrowed := true }
def MarkBackUptoSaid : Prop := markBackUptoRow.holds Try.pinned (OpenSpec.upto markBackSpec)

/-- 'allotmentlaw03.MarkLongest', WHERE WHAT IT READS IS OF BULK AT MOST 1048576: true; the input reads as it did. -/
def markLongestUptoRow : OpenClaim := { program := "ythnfhenbkijihaa", sum := "844991eeb486b83eb2dd74c93b84bb0ce1787bdfb9b8edb5c1ca6ce9b4eeac1f", func := "allotment/allotmentlaw03.MarkLongest", spec := "markLongest", unfollowed := true, recurses := true, apart := false, narrowed := true }
def MarkLongestUptoSaid : Prop := markLongestUptoRow.holds Try.pinned (OpenSpec.upto markLongestSpec)

/-- 'allotmentlaw03.MarkLowest', WHERE WHAT IT READS IS OF BULK AT MOST 1048576: true; the input reads as it did. -/
def markLowestUptoRow : OpenClaim := { program := "ythnfhenbkijihaa", sum := "844991eeb486b83eb2dd74c93b84bb0ce1787bdfb9b8edb5c1ca6ce9b4eeac1f", func := "allotment/allotmentlaw03.MarkLowest", spec := "markLowest", unfollowed := true, recurses := true, apart := false, narrowed := true }
def MarkLowestUptoSaid : Prop := markLowestUptoRow.holds Try.pinned (OpenSpec.upto markLowestSpec)

/-- 'allotmentlaw03.MarkHas', WHERE WHAT IT READS IS OF BULK AT MOST 1048576: true; the input reads as it did. -/
def markHasUptoRow : OpenClaim := { program := "ythnfhenbkijihaa", sum := "844991eeb486b83eb2dd74c93b84bb0ce1787bdfb9b8edb5c1ca6ce9b4eeac1f", func := "allotment/allotmentlaw03.MarkHas", spec := "markHas", unfollowed := true, recurses := true, apart := false, narrowed := true }
def MarkHasUptoSaid : Prop := markHasUptoRow.holds Try.pinned (OpenSpec.upto markHasSpec)

/-- 'allotmentlaw03.MarkSingles', WHERE WHAT IT READS IS OF BULK AT MOST 1048576: true; the input reads as it did. -/
def markSinglesUptoRow : OpenClaim := { program := "ythnfhenbkijihaa", sum := "844991eeb486b83eb2dd74c93b84bb0ce1787bdfb9b8edb5c1ca6ce9b4eeac1f", func := "allotment/allotmentlaw03.MarkSingles", spec := "markSingles", unfollowed := true, recurses := true, apart := false, narrowed := true }
def MarkSinglesUptoSaid : Prop := markSinglesUptoRow.holds Try.pinned (OpenSpec.upto markSinglesSpec)

end Rows
end Go.Proofs.Ythnfhenbkijihaa
