/-
  No cell of these rows narrows 'for every input' (looked for: loops, veiled, ifaces, maps, wideKeys, modest, calm, conditions, laid).
  DERIVED. THE GIVEN ROWS OF THIS SEAT. 6 by the template 'for every input the law returns true; each argument reads behind the call as it read before'; 0 by the template 'total and deterministic' (their statements: YtlcaddedfgndoaaTotals.lean).
  GIVEN WITH THE SEED: the statements are not yours to turn. If you find one false, say at which input.
  Laid BY PROGRAM, IN A SANDBOX (cutbox-rows.mjs): the forced cells as the released guide's own fill.sh prints them over the translation c1ff2efc17038e17… (all of the seat's roots in one cut). By AI agents, Wed Nov 11 2026. No macro, syntax, notation, axiom, sorry.
-/
import Derived.Test.YtlcaddedfgndoaaChecked
import GoSem.Claim
import GoSem.ClaimJoined
import GoSem.ClaimMapViews
import Derived.JoinedTies
import Derived.KernelRfl
namespace Go.Proofs.Ytlcaddedfgndoaa
/- THE CELL 'sum', in the pinned program and in every row, IS THE sha256 OF THE DUMP (.gsa) THAT YtlcaddedfgndoaaProg.lean LOADS. Nothing in Lean hashes anything: it is a label: what it is worth is what the hold of that sum in a sandbox is worth. -/
noncomputable def Try.pinned : Pinned := { name := "ytlcaddedfgndoaa", sum := "c1ff2efc17038e17a3c3b669221b7afb144d86f6925035c9de758a1bbf3c5132", checked := Try.checked }
namespace Rows
def none {H : Type} : Left H := { results := [], args := [] }

/-- 'allotmentlaw02.MemFills': WHATEVER THE INPUT: true; the input reads as it did. -/
def memFillsSpec : ChangeSpec := { name := "memFills", fn := fun _ => fun
  | [d1, d2, d3] => { results := [.lit (.bool true)], args := [d1, d2, d3] }
  | _ => none }
def memFillsRow : OpenClaim := { program := "ytlcaddedfgndoaa", sum := "c1ff2efc17038e17a3c3b669221b7afb144d86f6925035c9de758a1bbf3c5132", func := "allotment/allotmentlaw02.MemFills", spec := "memFills", apart := false }
def MemFillsSaid : Prop := memFillsRow.holds Try.pinned (OpenSpec.ofChange memFillsSpec)

/-- ITS FALSE NEIGHBOUR: 'it returns false'. Refute it at one input. -/
def memFillsWrong : ChangeSpec := { name := "memFills", fn := fun _ => fun
  | [d1, d2, d3] => { results := [.lit (.bool false)], args := [d1, d2, d3] }
  | _ => none }
def MemFillsWrongFalsely : Prop := memFillsRow.holds Try.pinned (OpenSpec.ofChange memFillsWrong)

/-- 'allotmentlaw02.MemCopies': WHATEVER THE INPUT: true; the input reads as it did. -/
def memCopiesSpec : ChangeSpec := { name := "memCopies", fn := fun _ => fun
  | [d] => { results := [.lit (.bool true)], args := [d] }
  | _ => none }
def memCopiesRow : OpenClaim := { program := "ytlcaddedfgndoaa", sum := "c1ff2efc17038e17a3c3b669221b7afb144d86f6925035c9de758a1bbf3c5132", func := "allotment/allotmentlaw02.MemCopies", spec := "memCopies", apart := false }
def MemCopiesSaid : Prop := memCopiesRow.holds Try.pinned (OpenSpec.ofChange memCopiesSpec)

/-- ITS FALSE NEIGHBOUR: 'it returns false'. Refute it at one input. -/
def memCopiesWrong : ChangeSpec := { name := "memCopies", fn := fun _ => fun
  | [d] => { results := [.lit (.bool false)], args := [d] }
  | _ => none }
def MemCopiesWrongFalsely : Prop := memCopiesRow.holds Try.pinned (OpenSpec.ofChange memCopiesWrong)

/-- 'allotmentlaw02.MemLoads': WHATEVER THE INPUT: true; the input reads as it did. -/
def memLoadsSpec : ChangeSpec := { name := "memLoads", fn := fun _ => fun
  | [d1, d2, d3] => { results := [.lit (.bool true)], args := [d1, d2, d3] }
  | _ => none }
def memLoadsRow : OpenClaim := { program := "ytlcaddedfgndoaa", sum := "c1ff2efc17038e17a3c3b669221b7afb144d86f6925035c9de758a1bbf3c5132", func := "allotment/allotmentlaw02.MemLoads", spec := "memLoads", unfollowed := true, recurses := true, apart := false }
def MemLoadsSaid : Prop := memLoadsRow.holds Try.pinned (OpenSpec.ofChange memLoadsSpec)

/-- ITS FALSE NEIGHBOUR: 'it returns false'. Refute it at one input. -/
def memLoadsWrong : ChangeSpec := { name := "memLoads", fn := fun _ => fun
  | [d1, d2, d3] => { results := [.lit (.bool false)], args := [d1, d2, d3] }
  | _ => none }
def MemLoadsWrongFalsely : Prop := memLoadsRow.holds Try.pinned (OpenSpec.ofChange memLoadsWrong)

/-- 'allotmentlaw02.MemWords': WHATEVER THE INPUT: true; the input reads as it did. -/
def memWordsSpec : ChangeSpec := { name := "memWords", fn := fun _ => fun
  | [d] => { results := [.lit (.bool true)], args := [d] }
  | _ => none }
def memWordsRow : OpenClaim := { program := "ytlcaddedfgndoaa", sum := "c1ff2efc17038e17a3c3b669221b7afb144d86f6925035c9de758a1bbf3c5132", func := "allotment/allotmentlaw02.MemWords", spec := "memWords", unfollowed := true, recurses := true, apart := false }
def MemWordsSaid : Prop := memWordsRow.holds Try.pinned (OpenSpec.ofChange memWordsSpec)

/-- ITS FALSE NEIGHBOUR: 'it returns false'. Refute it at one input. -/
def memWordsWrong : ChangeSpec := { name := "memWords", fn := fun _ => fun
  | [d] => { results := [.lit (.bool false)], args := [d] }
  | _ => none }
def MemWordsWrongFalsely : Prop := memWordsRow.holds Try.pinned (OpenSpec.ofChange memWordsWrong)

/-- 'allotmentlaw02.MemCas': WHATEVER THE INPUT: true; the input reads as it did. -/
def memCasSpec : ChangeSpec := { name := "memCas", fn := fun _ => fun
  | [d] => { results := [.lit (.bool true)], args := [d] }
  | _ => none }
def memCasRow : OpenClaim := { program := "ytlcaddedfgndoaa", sum := "c1ff2efc17038e17a3c3b669221b7afb144d86f6925035c9de758a1bbf3c5132", func := "allotment/allotmentlaw02.MemCas", spec := "memCas", unfollowed := true, recurses := true, apart := false }
def MemCasSaid : Prop := memCasRow.holds Try.pinned (OpenSpec.ofChange memCasSpec)

/-- ITS FALSE NEIGHBOUR: 'it returns false'. Refute it at one input. -/
def memCasWrong : ChangeSpec := { name := "memCas", fn := fun _ => fun
  | [d] => { results := [.lit (.bool false)], args := [d] }
  | _ => none }
def MemCasWrongFalsely : Prop := memCasRow.holds Try.pinned (OpenSpec.ofChange memCasWrong)

/-- 'allotmentlaw02.MemEnds': WHATEVER THE INPUT: true; the input reads as it did. -/
def memEndsSpec : ChangeSpec := { name := "memEnds", fn := fun _ => fun
  | [d1, d2] => { results := [.lit (.bool true)], args := [d1, d2] }
  | _ => none }
def memEndsRow : OpenClaim := { program := "ytlcaddedfgndoaa", sum := "c1ff2efc17038e17a3c3b669221b7afb144d86f6925035c9de758a1bbf3c5132", func := "allotment/allotmentlaw02.MemEnds", spec := "memEnds", unfollowed := true, recurses := true, apart := false }
def MemEndsSaid : Prop := memEndsRow.holds Try.pinned (OpenSpec.ofChange memEndsSpec)

/-- ITS FALSE NEIGHBOUR: 'it returns false'. Refute it at one input. -/
def memEndsWrong : ChangeSpec := { name := "memEnds", fn := fun _ => fun
  | [d1, d2] => { results := [.lit (.bool false)], args := [d1, d2] }
  | _ => none }
def MemEndsWrongFalsely : Prop := memEndsRow.holds Try.pinned (OpenSpec.ofChange memEndsWrong)

/- THE SECOND FORM. 'bulk': how many values and letters a reading holds, each counted each time it is reached (what is shared counts as often as it is met; a slice's spare places count too). A statement '..UptoSaid' is the law's where the arguments, and the package variables that the reading takes, are together of bulk at most 1048576: NARROWER than '..Said'. Prove '..Said' where nothing that the law and all that it calls make is longer than what came in: it says more and counts as full. Else prove '..UptoSaid'. A law counts once. -/
mutual
def uptoBulk {H : Type} : DataW H → Nat
  | .lit (.string bytes) => bytes.length + 1
  | .lit _ => 1
  | .nil => 1
  | .ptr d => uptoBulk d + 1
  | .slice elems spare => uptoBulkAll elems + uptoBulkAll spare + 1
  | .agg parts => uptoBulkAll parts + 1
  | .iface _ d => uptoBulk d + 1
  | .map entries => uptoBulkEntries entries + 1
  | .held _ => 1
def uptoBulkAll {H : Type} : List (DataW H) → Nat
  | [] => 0
  | d :: r => uptoBulk d + uptoBulkAll r
def uptoBulkEntries {H : Type} : List (Lit × DataW H) → Nat
  | [] => 0
  | x :: r => uptoBulkEntry x + uptoBulkEntries r
def uptoBulkEntry {H : Type} : Lit × DataW H → Nat
  | (.string bytes, d) => bytes.length + uptoBulk d + 1
  | (_, d) => uptoBulk d + 1
 end
def uptoSmall : (H : Type) → List (DataW H) → Bool := fun _ ds => decide (uptoBulkAll ds ≤ 1048576)
def OpenSpec.upto (s : _root_.Go.ChangeSpec) : _root_.Go.OpenSpec := { _root_.Go.OpenSpec.ofChange s with cond := some uptoSmall }

/-- 'allotmentlaw02.MemFills', WHERE WHAT IT READS IS OF BULK AT MOST 1048576: true; the input reads as it did. -/
def memFillsUptoRow : OpenClaim := { program := "ytlcaddedfgndoaa", sum := "c1ff2efc17038e17a3c3b669221b7afb144d86f6925035c9de758a1bbf3c5132", func := "allotment/allotmentlaw02.MemFills", spec := "memFills", apart := false, narrowed := true }
def MemFillsUptoSaid : Prop := memFillsUptoRow.holds Try.pinned (OpenSpec.upto memFillsSpec)

/-- 'allotmentlaw02.MemCopies', WHERE WHAT IT READS IS OF BULK AT MOST 1048576: true; the input reads as it did. -/
def memCopiesUptoRow : OpenClaim := { program := "ytlcaddedfgndoaa", sum := "c1ff2efc17038e17a3c3b669221b7afb144d86f6925035c9de758a1bbf3c5132", func := "allotment/allotmentlaw02.MemCopies", spec := "memCopies", apart := false, narrowed := true }
def MemCopiesUptoSaid : Prop := memCopiesUptoRow.holds Try.pinned (OpenSpec.upto memCopiesSpec)

/-- 'allotmentlaw02.MemLoads', WHERE WHAT IT READS IS OF BULK AT MOST 1048576: true; the input reads as it did. -/
def memLoadsUptoRow : OpenClaim := { program := "ytlcaddedfgndoaa", sum := "c1ff2efc17038e17a3c3b669221b7afb144d86f6925035c9de758a1bbf3c5132", func := "allotment/allotmentlaw02.MemLoads", spec := "memLoads", unfollowed := true, recurses := true, apart := false, narrowed := true }
def MemLoadsUptoSaid : Prop := memLoadsUptoRow.holds Try.pinned (OpenSpec.upto memLoadsSpec)

/-- 'allotmentlaw02.MemWords', WHERE WHAT IT READS IS OF BULK AT MOST 1048576: true; the input reads as it did. -/
def memWordsUptoRow : OpenClaim := { program := "ytlcaddedfgndoaa", sum := "c1ff2efc17038e17a3c3b669221b7afb144d86f6925035c9de758a1bbf3c5132", func := "allotment/allotmentlaw02.MemWords", spec := "memWords", unfollowed := true, recurses := true, apart := false, narrowed := true }
def MemWordsUptoSaid : Prop := memWordsUptoRow.holds Try.pinned (OpenSpec.upto memWordsSpec)

/-- 'allotmentlaw02.MemCas', WHERE WHAT IT READS IS OF BULK AT MOST 1048576: true; the input reads as it did. -/
def memCasUptoRow : OpenClaim := { program := "ytlcaddedfgndoaa", sum := "c1ff2efc17038e17a3c3b669221b7afb144d86f6925035c9de758a1bbf3c5132", func := "allotment/allotmentlaw02.MemCas", spec := "memCas", unfollowed := true, recurses := true, apart := false, narrowed := true }
def MemCasUptoSaid : Prop := memCasUptoRow.holds Try.pinned (OpenSpec.upto memCasSpec)

/-- 'allotmentlaw02.MemEnds', WHERE WHAT IT READS IS OF BULK AT MOST 1048576: true; the input reads as it did. -/
def memEndsUptoRow : OpenClaim := { program := "ytlcaddedfgndoaa", sum := "c1ff2efc17038e17a3c3b669221b7afb144d86f6925035c9de758a1bbf3c5132", func := "allotment/allotmentlaw02.MemEnds", spec := "memEnds", unfollowed := true, recurses := true, apart := false, narrowed := true }
def MemEndsUptoSaid : Prop := memEndsUptoRow.holds Try.pinned (OpenSpec.upto memEndsSpec)

end Rows
end Go.Proofs.Ytlcaddedfgndoaa
