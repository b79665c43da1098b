/-
  No cell of these rows narrows 'for every input' (looked for: loops, veiled, ifaces, maps, wideKeys, modest, calm, conditions, laid).
  DERIVED. THE GIVEN ROWS OF THIS SEAT. 7 by the template 'for every input the law returns true; each argument reads behind the call as it read before'; 0 by the template 'total and deterministic' (their statements: YtapolaefdbdnpaaTotals.lean).
  GIVEN WITH THE SEED: the statements are not yours to turn. If you find one false, say at which input.
  Laid BY PROGRAM, IN A SANDBOX (cutbox-rows.mjs): the forced cells as the released guide's own fill.sh prints them over the translation 7ec56ec5ccfc5fd0… (all of the seat's roots in one cut). By AI agents, Wed Nov 11 2026. No macro, syntax, notation, axiom, sorry.
-/
import Derived.Test.YtapolaefdbdnpaaChecked
import GoSem.Claim
import GoSem.ClaimJoined
import GoSem.ClaimMapViews
import Derived.JoinedTies
import Derived.KernelRfl
namespace Go.Proofs.Ytapolaefdbdnpaa
/- THE CELL 'sum', in the pinned program and in every row, IS THE sha256 OF THE DUMP (.gsa) THAT YtapolaefdbdnpaaProg.lean LOADS. Nothing in Lean hashes anything: it is a label: what it is worth is what the hold of that sum in a sandbox is worth. -/
noncomputable def Try.pinned : Pinned := { name := "ytapolaefdbdnpaa", sum := "7ec56ec5ccfc5fd03b0bf1cd1af28313df79890b9627539245455f84ba8fd67c", checked := Try.checked }
namespace Rows
def none {H : Type} : Left H := { results := [], args := [] }

/-- 'allotmentlaw07.ListChains': WHATEVER THE INPUT: true; the input reads as it did. -/
def listChainsSpec : ChangeSpec := { name := "listChains", fn := fun _ => fun
  | [d1, d2] => { results := [.lit (.bool true)], args := [d1, d2] }
  | _ => none }
def listChainsRow : OpenClaim := { program := "ytapolaefdbdnpaa", sum := "7ec56ec5ccfc5fd03b0bf1cd1af28313df79890b9627539245455f84ba8fd67c", func := "allotment/allotmentlaw07.ListChains", spec := "listChains", unfollowed := true, recurses := true, apart := false }
def ListChainsSaid : Prop := listChainsRow.holds Try.pinned (OpenSpec.ofChange listChainsSpec)

/-- ITS FALSE NEIGHBOUR: 'it returns false'. Refute it at one input. -/
def listChainsWrong : ChangeSpec := { name := "listChains", fn := fun _ => fun
  | [d1, d2] => { results := [.lit (.bool false)], args := [d1, d2] }
  | _ => none }
def ListChainsWrongFalsely : Prop := listChainsRow.holds Try.pinned (OpenSpec.ofChange listChainsWrong)

/-- 'allotmentlaw07.ListRefuses': WHATEVER THE INPUT: true; the input reads as it did. -/
def listRefusesSpec : ChangeSpec := { name := "listRefuses", fn := fun _ => fun
  | [d1, d2, d3] => { results := [.lit (.bool true)], args := [d1, d2, d3] }
  | _ => none }
def listRefusesRow : OpenClaim := { program := "ytapolaefdbdnpaa", sum := "7ec56ec5ccfc5fd03b0bf1cd1af28313df79890b9627539245455f84ba8fd67c", func := "allotment/allotmentlaw07.ListRefuses", spec := "listRefuses", unfollowed := true, recurses := true, apart := false }
def ListRefusesSaid : Prop := listRefusesRow.holds Try.pinned (OpenSpec.ofChange listRefusesSpec)

/-- ITS FALSE NEIGHBOUR: 'it returns false'. Refute it at one input. -/
def listRefusesWrong : ChangeSpec := { name := "listRefuses", fn := fun _ => fun
  | [d1, d2, d3] => { results := [.lit (.bool false)], args := [d1, d2, d3] }
  | _ => none }
def ListRefusesWrongFalsely : Prop := listRefusesRow.holds Try.pinned (OpenSpec.ofChange listRefusesWrong)

/-- 'allotmentlaw07.ListOrders': WHATEVER THE INPUT: true; the input reads as it did. -/
def listOrdersSpec : ChangeSpec := { name := "listOrders", fn := fun _ => fun
  | [d] => { results := [.lit (.bool true)], args := [d] }
  | _ => none }
def listOrdersRow : OpenClaim := { program := "ytapolaefdbdnpaa", sum := "7ec56ec5ccfc5fd03b0bf1cd1af28313df79890b9627539245455f84ba8fd67c", func := "allotment/allotmentlaw07.ListOrders", spec := "listOrders", unfollowed := true, recurses := true, apart := false }
def ListOrdersSaid : Prop := listOrdersRow.holds Try.pinned (OpenSpec.ofChange listOrdersSpec)

/-- ITS FALSE NEIGHBOUR: 'it returns false'. Refute it at one input. -/
def listOrdersWrong : ChangeSpec := { name := "listOrders", fn := fun _ => fun
  | [d] => { results := [.lit (.bool false)], args := [d] }
  | _ => none }
def ListOrdersWrongFalsely : Prop := listOrdersRow.holds Try.pinned (OpenSpec.ofChange listOrdersWrong)

/-- 'allotmentlaw07.ListCounts': WHATEVER THE INPUT: true; the input reads as it did. -/
def listCountsSpec : ChangeSpec := { name := "listCounts", fn := fun _ => fun
  | [d1, d2] => { results := [.lit (.bool true)], args := [d1, d2] }
  | _ => none }
def listCountsRow : OpenClaim := { program := "ytapolaefdbdnpaa", sum := "7ec56ec5ccfc5fd03b0bf1cd1af28313df79890b9627539245455f84ba8fd67c", func := "allotment/allotmentlaw07.ListCounts", spec := "listCounts", unfollowed := true, recurses := true, apart := false }
def ListCountsSaid : Prop := listCountsRow.holds Try.pinned (OpenSpec.ofChange listCountsSpec)

/-- ITS FALSE NEIGHBOUR: 'it returns false'. Refute it at one input. -/
def listCountsWrong : ChangeSpec := { name := "listCounts", fn := fun _ => fun
  | [d1, d2] => { results := [.lit (.bool false)], args := [d1, d2] }
  | _ => none }
def ListCountsWrongFalsely : Prop := listCountsRow.holds Try.pinned (OpenSpec.ofChange listCountsWrong)

/-- 'allotmentlaw07.ListJoins': WHATEVER THE INPUT: true; the input reads as it did. -/
def listJoinsSpec : ChangeSpec := { name := "listJoins", fn := fun _ => fun
  | [d1, d2] => { results := [.lit (.bool true)], args := [d1, d2] }
  | _ => none }
def listJoinsRow : OpenClaim := { program := "ytapolaefdbdnpaa", sum := "7ec56ec5ccfc5fd03b0bf1cd1af28313df79890b9627539245455f84ba8fd67c", func := "allotment/allotmentlaw07.ListJoins", spec := "listJoins", unfollowed := true, recurses := true, apart := false }
def ListJoinsSaid : Prop := listJoinsRow.holds Try.pinned (OpenSpec.ofChange listJoinsSpec)

/-- ITS FALSE NEIGHBOUR: 'it returns false'. Refute it at one input. -/
def listJoinsWrong : ChangeSpec := { name := "listJoins", fn := fun _ => fun
  | [d1, d2] => { results := [.lit (.bool false)], args := [d1, d2] }
  | _ => none }
def ListJoinsWrongFalsely : Prop := listJoinsRow.holds Try.pinned (OpenSpec.ofChange listJoinsWrong)

/-- 'allotmentlaw07.ListActs': WHATEVER THE INPUT: true; the input reads as it did. -/
def listActsSpec : ChangeSpec := { name := "listActs", fn := fun _ => fun
  | [d] => { results := [.lit (.bool true)], args := [d] }
  | _ => none }
def listActsRow : OpenClaim := { program := "ytapolaefdbdnpaa", sum := "7ec56ec5ccfc5fd03b0bf1cd1af28313df79890b9627539245455f84ba8fd67c", func := "allotment/allotmentlaw07.ListActs", spec := "listActs", unfollowed := true, recurses := true, apart := false }
def ListActsSaid : Prop := listActsRow.holds Try.pinned (OpenSpec.ofChange listActsSpec)

/-- ITS FALSE NEIGHBOUR: 'it returns false'. Refute it at one input. -/
def listActsWrong : ChangeSpec := { name := "listActs", fn := fun _ => fun
  | [d] => { results := [.lit (.bool false)], args := [d] }
  | _ => none }
def ListActsWrongFalsely : Prop := listActsRow.holds Try.pinned (OpenSpec.ofChange listActsWrong)

/-- 'allotmentlaw07.ListUntouched': WHATEVER THE INPUT: true; the input reads as it did. -/
def listUntouchedSpec : ChangeSpec := { name := "listUntouched", fn := fun _ => fun
  | [d1, d2] => { results := [.lit (.bool true)], args := [d1, d2] }
  | _ => none }
def listUntouchedRow : OpenClaim := { program := "ytapolaefdbdnpaa", sum := "7ec56ec5ccfc5fd03b0bf1cd1af28313df79890b9627539245455f84ba8fd67c", func := "allotment/allotmentlaw07.ListUntouched", spec := "listUntouched", unfollowed := true, recurses := true, apart := false }
def ListUntouchedSaid : Prop := listUntouchedRow.holds Try.pinned (OpenSpec.ofChange listUntouchedSpec)

/-- ITS FALSE NEIGHBOUR: 'it returns false'. Refute it at one input. -/
def listUntouchedWrong : ChangeSpec := { name := "listUntouched", fn := fun _ => fun
  | [d1, d2] => { results := [.lit (.bool false)], args := [d1, d2] }
  | _ => none }
def ListUntouchedWrongFalsely : Prop := listUntouchedRow.holds Try.pinned (OpenSpec.ofChange listUntouchedWrong)

/- THE SECOND FORM. 'bulk': how many values and letters a reading holds, each counted each time it is reached (what is shared counts as often as it is met; a slice's spare places count too). A statement '..UptoSaid' is the law's where the arguments, and the package variables that the reading takes, are together of bulk at most 1048576: NARROWER than '..Said'. Prove '..Said' where nothing that the law and all that it calls make is longer than what came in: it says more and counts as full. Else prove '..UptoSaid'. A law counts once. -/
mutual
def uptoBulk {H : Type} : DataW H → Nat
  | .lit (.string bytes) => bytes.length + 1
  | .lit _ => 1
  | .nil => 1
  | .ptr d => uptoBulk d + 1
  | .slice elems spare => uptoBulkAll elems + uptoBulkAll spare + 1
  | .agg parts => uptoBulkAll parts + 1
  | .iface _ d => uptoBulk d + 1
  | .map entries => uptoBulkEntries entries + 1
  | .held _ => 1
def uptoBulkAll {H : Type} : List (DataW H) → Nat
  | [] => 0
  | d :: r => uptoBulk d + uptoBulkAll r
def uptoBulkEntries {H : Type} : List (Lit × DataW H) → Nat
  | [] => 0
  | x :: r => uptoBulkEntry x + uptoBulkEntries r
def uptoBulkEntry {H : Type} : Lit × DataW H → Nat
  | (.string bytes, d) => bytes.length + uptoBulk d + 1
  | (_, d) => uptoBulk d + 1
 end
def uptoSmall : (H : Type) → List (DataW H) → Bool := fun _ ds => decide (uptoBulkAll ds ≤ 1048576)
def OpenSpec.upto (s : _root_.Go.ChangeSpec) : _root_.Go.OpenSpec := { _root_.Go.OpenSpec.ofChange s with cond := some uptoSmall }

/-- 'allotmentlaw07.ListChains', WHERE WHAT IT READS IS OF BULK AT MOST 1048576: true; the input reads as it did. -/
def listChainsUptoRow : OpenClaim := { program := "ytapolaefdbdnpaa", sum := "7ec56ec5ccfc5fd03b0bf1cd1af28313df79890b9627539245455f84ba8fd67c", func := "allotment/allotmentlaw07.ListChains", spec := "listChains", unfollowed := true, recurses := true, apart := false, narrowed := true }
def ListChainsUptoSaid : Prop := listChainsUptoRow.holds Try.pinned (OpenSpec.upto listChainsSpec)

/-- 'allotmentlaw07.ListRefuses', WHERE WHAT IT READS IS OF BULK AT MOST 1048576: true; the input reads as it did. -/
def listRefusesUptoRow : OpenClaim := { program := "ytapolaefdbdnpaa", sum := "7ec56ec5ccfc5fd03b0bf1cd1af28313df79890b9627539245455f84ba8fd67c", func := "allotment/allotmentlaw07.ListRefuses", spec := "listRefuses", unfollowed := true, recurses := true, apart := false, narrowed := true }
def ListRefusesUptoSaid : Prop := listRefusesUptoRow.holds Try.pinned (OpenSpec.upto listRefusesSpec)

/-- 'allotmentlaw07.ListOrders', WHERE WHAT IT READS IS OF BULK AT MOST 1048576: true; the input reads as it did. -/
def listOrdersUptoRow : OpenClaim := { program := "ytapolaefdbdnpaa", sum := "7ec56ec5ccfc5fd03b0bf1cd1af28313df79890b9627539245455f84ba8fd67c", func := "allotment/allotmentlaw07.ListOrders", spec := "listOrders", unfollowed := true, recurses := true, apart := false, narrowed := true }
def ListOrdersUptoSaid : Prop := listOrdersUptoRow.holds Try.pinned (OpenSpec.upto listOrdersSpec)

/-- 'allotmentlaw07.ListCounts', WHERE WHAT IT READS IS OF BULK AT MOST 1048576: true; the input reads as it did. -/
def listCountsUptoRow : OpenClaim := { program := "ytapolaefdbdnpaa", sum := "7ec56ec5ccfc5fd03b0bf1cd1af28313df79890b9627539245455f84ba8fd67c", func := "allotment/allotmentlaw07.ListCounts", spec := "listCounts", unfollowed := true, recurses := true, apart := false, narrowed := true }
def ListCountsUptoSaid : Prop := listCountsUptoRow.holds Try.pinned (OpenSpec.upto listCountsSpec)

/-- 'allotmentlaw07.ListJoins', WHERE WHAT IT READS IS OF BULK AT MOST 1048576: true; the input reads as it did. -/
def listJoinsUptoRow : OpenClaim := { program := "ytapolaefdbdnpaa", sum := "7ec56ec5ccfc5fd03b0bf1cd1af28313df79890b9627539245455f84ba8fd67c", func := "allotment/allotmentlaw07.ListJoins", spec := "listJoins", unfollowed := true, recurses := true, apart := false, narrowed := true }
def ListJoinsUptoSaid : Prop := listJoinsUptoRow.holds Try.pinned (OpenSpec.upto listJoinsSpec)

/-- 'allotmentlaw07.ListActs', WHERE WHAT IT READS IS OF BULK AT MOST 1048576: true; the input reads as it did. -/
def listActsUptoRow : OpenClaim := { program := "ytapolaefdbdnpaa", sum := "7ec56ec5ccfc5fd03b0bf1cd1af28313df79890b9627539245455f84ba8fd67c", func := "allotment/allotmentlaw07.ListActs", spec := "listActs", unfollowed := true, recurses := true, apart := false, narrowed := true }
def ListActsUptoSaid : Prop := listActsUptoRow.holds Try.pinned (OpenSpec.upto listActsSpec)

/-- 'allotmentlaw07.ListUntouched', WHERE WHAT IT READS IS OF BULK AT MOST 1048576: true; the input reads as it did. -/
def listUntouchedUptoRow : OpenClaim := { program := "ytapolaefdbdnpaa", sum := "7ec56ec5ccfc5fd03b0bf1cd1af28313df79890b9627539245455f84ba8fd67c", func := "allotment/allotmentlaw07.ListUntouched", spec := "listUntouched", unfollowed := true, recurses := true, apart := false, narrowed := true }
def ListUntouchedUptoSaid : Prop := listUntouchedUptoRow.holds Try.pinned (OpenSpec.upto listUntouchedSpec)

end Rows
end Go.Proofs.Ytapolaefdbdnpaa
