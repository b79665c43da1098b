/-
  No cell of these rows narrows 'for every input' (looked for: loops, veiled, ifaces, maps, wideKeys, modest, calm, conditions, laid).
  DERIVED. THE GIVEN ROWS OF THIS SEAT. 9 by the template 'for every input the law returns true; each argument reads behind the call as it read before'; 0 by the template 'total and deterministic' (their statements: YtnooelpdoeijbaaTotals.lean).
  GIVEN WITH THE SEED: the statements are not yours to turn. If you find one false, say at which input.
  Laid BY PROGRAM, IN A SANDBOX (cutbox-rows.mjs): the forced cells as the released guide's own fill.sh prints them over the translation fcaf53610e9322e5… (all of the seat's roots in one cut). By AI agents, Wed Nov 11 2026. No macro, syntax, notation, axiom, sorry.
-/
import Derived.Test.YtnooelpdoeijbaaChecked
import GoSem.Claim
import GoSem.ClaimJoined
import GoSem.ClaimMapViews
import Derived.JoinedTies
import Derived.KernelRfl
namespace Go.Proofs.Ytnooelpdoeijbaa
/- THE CELL 'sum', in the pinned program and in every row, IS THE sha256 OF THE DUMP (.gsa) THAT YtnooelpdoeijbaaProg.lean LOADS. Nothing in Lean hashes anything: it is a label: what it is worth is what the hold of that sum in a sandbox is worth. -/
noncomputable def Try.pinned : Pinned := { name := "ytnooelpdoeijbaa", sum := "fcaf53610e9322e583e98aebba416da8e1a0fd8e3fb94b00b12da0fdfa68ca7e", checked := Try.checked }
namespace Rows
def none {H : Type} : Left H := { results := [], args := [] }

/-- 'allotmentlaw01.CalcParts': WHATEVER THE INPUT: true; the input reads as it did. -/
def calcPartsSpec : ChangeSpec := { name := "calcParts", fn := fun _ => fun
  | [d1, d2] => { results := [.lit (.bool true)], args := [d1, d2] }
  | _ => none }
def calcPartsRow : OpenClaim := { program := "ytnooelpdoeijbaa", sum := "fcaf53610e9322e583e98aebba416da8e1a0fd8e3fb94b00b12da0fdfa68ca7e", func := "allotment/allotmentlaw01.CalcParts", spec := "calcParts", inPlace := ["math/bits.Add64"], apart := false }
def CalcPartsSaid : Prop := calcPartsRow.holds Try.pinned (OpenSpec.ofChange calcPartsSpec)

/-- ITS FALSE NEIGHBOUR: 'it returns false'. Refute it at one input. -/
def calcPartsWrong : ChangeSpec := { name := "calcParts", fn := fun _ => fun
  | [d1, d2] => { results := [.lit (.bool false)], args := [d1, d2] }
  | _ => none }
def CalcPartsWrongFalsely : Prop := calcPartsRow.holds Try.pinned (OpenSpec.ofChange calcPartsWrong)

/-- 'allotmentlaw01.CalcRounds': WHATEVER THE INPUT: true; the input reads as it did. -/
def calcRoundsSpec : ChangeSpec := { name := "calcRounds", fn := fun _ => fun
  | [d1, d2] => { results := [.lit (.bool true)], args := [d1, d2] }
  | _ => none }
def calcRoundsRow : OpenClaim := { program := "ytnooelpdoeijbaa", sum := "fcaf53610e9322e583e98aebba416da8e1a0fd8e3fb94b00b12da0fdfa68ca7e", func := "allotment/allotmentlaw01.CalcRounds", spec := "calcRounds", inPlace := ["math/bits.Add64"], apart := false }
def CalcRoundsSaid : Prop := calcRoundsRow.holds Try.pinned (OpenSpec.ofChange calcRoundsSpec)

/-- ITS FALSE NEIGHBOUR: 'it returns false'. Refute it at one input. -/
def calcRoundsWrong : ChangeSpec := { name := "calcRounds", fn := fun _ => fun
  | [d1, d2] => { results := [.lit (.bool false)], args := [d1, d2] }
  | _ => none }
def CalcRoundsWrongFalsely : Prop := calcRoundsRow.holds Try.pinned (OpenSpec.ofChange calcRoundsWrong)

/-- 'allotmentlaw01.CalcNext': WHATEVER THE INPUT: true; the input reads as it did. -/
def calcNextSpec : ChangeSpec := { name := "calcNext", fn := fun _ => fun
  | [d1, d2] => { results := [.lit (.bool true)], args := [d1, d2] }
  | _ => none }
def calcNextRow : OpenClaim := { program := "ytnooelpdoeijbaa", sum := "fcaf53610e9322e583e98aebba416da8e1a0fd8e3fb94b00b12da0fdfa68ca7e", func := "allotment/allotmentlaw01.CalcNext", spec := "calcNext", inPlace := ["math/bits.Add64"], apart := false }
def CalcNextSaid : Prop := calcNextRow.holds Try.pinned (OpenSpec.ofChange calcNextSpec)

/-- ITS FALSE NEIGHBOUR: 'it returns false'. Refute it at one input. -/
def calcNextWrong : ChangeSpec := { name := "calcNext", fn := fun _ => fun
  | [d1, d2] => { results := [.lit (.bool false)], args := [d1, d2] }
  | _ => none }
def CalcNextWrongFalsely : Prop := calcNextRow.holds Try.pinned (OpenSpec.ofChange calcNextWrong)

/-- 'allotmentlaw01.CalcPowers': WHATEVER THE INPUT: true; the input reads as it did. -/
def calcPowersSpec : ChangeSpec := { name := "calcPowers", fn := fun _ => fun
  | [d1, d2] => { results := [.lit (.bool true)], args := [d1, d2] }
  | _ => none }
def calcPowersRow : OpenClaim := { program := "ytnooelpdoeijbaa", sum := "fcaf53610e9322e583e98aebba416da8e1a0fd8e3fb94b00b12da0fdfa68ca7e", func := "allotment/allotmentlaw01.CalcPowers", spec := "calcPowers", inPlace := ["math/bits.Add64"], apart := false }
def CalcPowersSaid : Prop := calcPowersRow.holds Try.pinned (OpenSpec.ofChange calcPowersSpec)

/-- ITS FALSE NEIGHBOUR: 'it returns false'. Refute it at one input. -/
def calcPowersWrong : ChangeSpec := { name := "calcPowers", fn := fun _ => fun
  | [d1, d2] => { results := [.lit (.bool false)], args := [d1, d2] }
  | _ => none }
def CalcPowersWrongFalsely : Prop := calcPowersRow.holds Try.pinned (OpenSpec.ofChange calcPowersWrong)

/-- 'allotmentlaw01.CalcChains': WHATEVER THE INPUT: true; the input reads as it did. -/
def calcChainsSpec : ChangeSpec := { name := "calcChains", fn := fun _ => fun
  | [d1, d2, d3] => { results := [.lit (.bool true)], args := [d1, d2, d3] }
  | _ => none }
def calcChainsRow : OpenClaim := { program := "ytnooelpdoeijbaa", sum := "fcaf53610e9322e583e98aebba416da8e1a0fd8e3fb94b00b12da0fdfa68ca7e", func := "allotment/allotmentlaw01.CalcChains", spec := "calcChains", inPlace := ["math/bits.Add64"], apart := false }
def CalcChainsSaid : Prop := calcChainsRow.holds Try.pinned (OpenSpec.ofChange calcChainsSpec)

/-- ITS FALSE NEIGHBOUR: 'it returns false'. Refute it at one input. -/
def calcChainsWrong : ChangeSpec := { name := "calcChains", fn := fun _ => fun
  | [d1, d2, d3] => { results := [.lit (.bool false)], args := [d1, d2, d3] }
  | _ => none }
def CalcChainsWrongFalsely : Prop := calcChainsRow.holds Try.pinned (OpenSpec.ofChange calcChainsWrong)

/-- 'allotmentlaw01.CalcOrders': WHATEVER THE INPUT: true; the input reads as it did. -/
def calcOrdersSpec : ChangeSpec := { name := "calcOrders", fn := fun _ => fun
  | [d1, d2] => { results := [.lit (.bool true)], args := [d1, d2] }
  | _ => none }
def calcOrdersRow : OpenClaim := { program := "ytnooelpdoeijbaa", sum := "fcaf53610e9322e583e98aebba416da8e1a0fd8e3fb94b00b12da0fdfa68ca7e", func := "allotment/allotmentlaw01.CalcOrders", spec := "calcOrders", inPlace := ["math/bits.Add64"], apart := false }
def CalcOrdersSaid : Prop := calcOrdersRow.holds Try.pinned (OpenSpec.ofChange calcOrdersSpec)

/-- ITS FALSE NEIGHBOUR: 'it returns false'. Refute it at one input. -/
def calcOrdersWrong : ChangeSpec := { name := "calcOrders", fn := fun _ => fun
  | [d1, d2] => { results := [.lit (.bool false)], args := [d1, d2] }
  | _ => none }
def CalcOrdersWrongFalsely : Prop := calcOrdersRow.holds Try.pinned (OpenSpec.ofChange calcOrdersWrong)

/-- 'allotmentlaw01.CalcNoughts': WHATEVER THE INPUT: true; the input reads as it did. -/
def calcNoughtsSpec : ChangeSpec := { name := "calcNoughts", fn := fun _ => fun
  | [d1, d2] => { results := [.lit (.bool true)], args := [d1, d2] }
  | _ => none }
def calcNoughtsRow : OpenClaim := { program := "ytnooelpdoeijbaa", sum := "fcaf53610e9322e583e98aebba416da8e1a0fd8e3fb94b00b12da0fdfa68ca7e", func := "allotment/allotmentlaw01.CalcNoughts", spec := "calcNoughts", inPlace := ["math/bits.Add64"], apart := false }
def CalcNoughtsSaid : Prop := calcNoughtsRow.holds Try.pinned (OpenSpec.ofChange calcNoughtsSpec)

/-- ITS FALSE NEIGHBOUR: 'it returns false'. Refute it at one input. -/
def calcNoughtsWrong : ChangeSpec := { name := "calcNoughts", fn := fun _ => fun
  | [d1, d2] => { results := [.lit (.bool false)], args := [d1, d2] }
  | _ => none }
def CalcNoughtsWrongFalsely : Prop := calcNoughtsRow.holds Try.pinned (OpenSpec.ofChange calcNoughtsWrong)

/-- 'allotmentlaw01.CalcEnds': WHATEVER THE INPUT: true; the input reads as it did. -/
def calcEndsSpec : ChangeSpec := { name := "calcEnds", fn := fun _ => fun
  | [d] => { results := [.lit (.bool true)], args := [d] }
  | _ => none }
def calcEndsRow : OpenClaim := { program := "ytnooelpdoeijbaa", sum := "fcaf53610e9322e583e98aebba416da8e1a0fd8e3fb94b00b12da0fdfa68ca7e", func := "allotment/allotmentlaw01.CalcEnds", spec := "calcEnds", inPlace := ["math/bits.Add64"], unfollowed := true, recurses := true, apart := false }
def CalcEndsSaid : Prop := calcEndsRow.holds Try.pinned (OpenSpec.ofChange calcEndsSpec)

/-- ITS FALSE NEIGHBOUR: 'it returns false'. Refute it at one input. -/
def calcEndsWrong : ChangeSpec := { name := "calcEnds", fn := fun _ => fun
  | [d] => { results := [.lit (.bool false)], args := [d] }
  | _ => none }
def CalcEndsWrongFalsely : Prop := calcEndsRow.holds Try.pinned (OpenSpec.ofChange calcEndsWrong)

/-- 'allotmentlaw01.CalcSums': WHATEVER THE INPUT: true; the input reads as it did. -/
def calcSumsSpec : ChangeSpec := { name := "calcSums", fn := fun _ => fun
  | [d] => { results := [.lit (.bool true)], args := [d] }
  | _ => none }
def calcSumsRow : OpenClaim := { program := "ytnooelpdoeijbaa", sum := "fcaf53610e9322e583e98aebba416da8e1a0fd8e3fb94b00b12da0fdfa68ca7e", func := "allotment/allotmentlaw01.CalcSums", spec := "calcSums", inPlace := ["math/bits.Add64"], unfollowed := true, recurses := true, apart := false }
def CalcSumsSaid : Prop := calcSumsRow.holds Try.pinned (OpenSpec.ofChange calcSumsSpec)

/-- ITS FALSE NEIGHBOUR: 'it returns false'. Refute it at one input. -/
def calcSumsWrong : ChangeSpec := { name := "calcSums", fn := fun _ => fun
  | [d] => { results := [.lit (.bool false)], args := [d] }
  | _ => none }
def CalcSumsWrongFalsely : Prop := calcSumsRow.holds Try.pinned (OpenSpec.ofChange calcSumsWrong)

/- THE SECOND FORM. 'bulk': how many values and letters a reading holds, each counted each time it is reached (what is shared counts as often as it is met; a slice's spare places count too). A statement '..UptoSaid' is the law's where the arguments, and the package variables that the reading takes, are together of bulk at most 1048576: NARROWER than '..Said'. Prove '..Said' where nothing that the law and all that it calls make is longer than what came in: it says more and counts as full. Else prove '..UptoSaid'. A law counts once. -/
mutual
def uptoBulk {H : Type} : DataW H → Nat
  | .lit (.string bytes) => bytes.length + 1
  | .lit _ => 1
  | .nil => 1
  | .ptr d => uptoBulk d + 1
  | .slice elems spare => uptoBulkAll elems + uptoBulkAll spare + 1
  | .agg parts => uptoBulkAll parts + 1
  | .iface _ d => uptoBulk d + 1
  | .map entries => uptoBulkEntries entries + 1
  | .held _ => 1
def uptoBulkAll {H : Type} : List (DataW H) → Nat
  | [] => 0
  | d :: r => uptoBulk d + uptoBulkAll r
def uptoBulkEntries {H : Type} : List (Lit × DataW H) → Nat
  | [] => 0
  | x :: r => uptoBulkEntry x + uptoBulkEntries r
def uptoBulkEntry {H : Type} : Lit × DataW H → Nat
  | (.string bytes, d) => bytes.length + uptoBulk d + 1
  | (_, d) => uptoBulk d + 1
 end
def uptoSmall : (H : Type) → List (DataW H) → Bool := fun _ ds => decide (uptoBulkAll ds ≤ 1048576)
def OpenSpec.upto (s : _root_.Go.ChangeSpec) : _root_.Go.OpenSpec := { _root_.Go.OpenSpec.ofChange s with cond := some uptoSmall }

/-- 'allotmentlaw01.CalcParts', WHERE WHAT IT READS IS OF BULK AT MOST 1048576: true; the input reads as it did. -/
def calcPartsUptoRow : OpenClaim := { program := "ytnooelpdoeijbaa", sum := "fcaf53610e9322e583e98aebba416da8e1a0fd8e3fb94b00b12da0fdfa68ca7e", func := "allotment/allotmentlaw01.CalcParts", spec := "calcParts", inPlace := ["math/bits.Add64"], apart := false, narrowed := true }
def CalcPartsUptoSaid : Prop := calcPartsUptoRow.holds Try.pinned (OpenSpec.upto calcPartsSpec)

/-- 'allotmentlaw01.CalcRounds', WHERE WHAT IT READS IS OF BULK AT MOST 1048576: true; the input reads as it did. -/
def calcRoundsUptoRow : OpenClaim := { program := "ytnooelpdoeijbaa", sum := "fcaf53610e9322e583e98aebba416da8e1a0fd8e3fb94b00b12da0fdfa68ca7e", func := "allotment/allotmentlaw01.CalcRounds", spec := "calcRounds", inPlace := ["math/bits.Add64"], apart := false, narrowed := true }
def CalcRoundsUptoSaid : Prop := calcRoundsUptoRow.holds Try.pinned (OpenSpec.upto calcRoundsSpec)

/-- 'allotmentlaw01.CalcNext', WHERE WHAT IT READS IS OF BULK AT MOST 1048576: true; the input reads as it did. -/
def calcNextUptoRow : OpenClaim := { program := "ytnooelpdoeijbaa", sum := "fcaf53610e9322e583e98aebba416da8e1a0fd8e3fb94b00b12da0fdfa68ca7e", func := "allotment/allotmentlaw01.CalcNext", spec := "calcNext", inPlace := ["math/bits.Add64"], apart := false, narrowed := true }
def CalcNextUptoSaid : Prop := calcNextUptoRow.holds Try.pinned (OpenSpec.upto calcNextSpec)

/-- 'allotmentlaw01.CalcPowers', WHERE WHAT IT READS IS OF BULK AT MOST 1048576: true; the input reads as it did. -/
def calcPowersUptoRow : OpenClaim := { program := "ytnooelpdoeijbaa", sum := "fcaf53610e9322e583e98aebba416da8e1a0fd8e3fb94b00b12da0fdfa68ca7e", func := "allotment/allotmentlaw01.CalcPowers", spec := "calcPowers", inPlace := ["math/bits.Add64"], apart := false, narrowed := true }
def CalcPowersUptoSaid : Prop := calcPowersUptoRow.holds Try.pinned (OpenSpec.upto calcPowersSpec)

/-- 'allotmentlaw01.CalcChains', WHERE WHAT IT READS IS OF BULK AT MOST 1048576: true; the input reads as it did. -/
def calcChainsUptoRow : OpenClaim := { program := "ytnooelpdoeijbaa", sum := "fcaf53610e9322e583e98aebba416da8e1a0fd8e3fb94b00b12da0fdfa68ca7e", func := "allotment/allotmentlaw01.CalcChains", spec := "calcChains", inPlace := ["math/bits.Add64"], apart := false, narrowed := true }
def CalcChainsUptoSaid : Prop := calcChainsUptoRow.holds Try.pinned (OpenSpec.upto calcChainsSpec)

/-- 'allotmentlaw01.CalcOrders', WHERE WHAT IT READS IS OF BULK AT MOST 1048576: true; the input reads as it did. -/
def calcOrdersUptoRow : OpenClaim := { program := "ytnooelpdoeijbaa", sum := "fcaf53610e9322e583e98aebba416da8e1a0fd8e3fb94b00b12da0fdfa68ca7e", func := "allotment/allotmentlaw01.CalcOrders", spec := "calcOrders", inPlace := ["math/bits.Add64"], apart := false, narrowed := true }
def CalcOrdersUptoSaid : Prop := calcOrdersUptoRow.holds Try.pinned (OpenSpec.upto calcOrdersSpec)

/-- 'allotmentlaw01.CalcNoughts', WHERE WHAT IT READS IS OF BULK AT MOST 1048576: true; the input reads as it did. -/
def calcNoughtsUptoRow : OpenClaim := { program := "ytnooelpdoeijbaa", sum := "fcaf53610e9322e583e98aebba416da8e1a0fd8e3fb94b00b12da0fdfa68ca7e", func := "allotment/allotmentlaw01.CalcNoughts", spec := "calcNoughts", inPlace := ["math/bits.Add64"], apart := false, narrowed := true }
def CalcNoughtsUptoSaid : Prop := calcNoughtsUptoRow.holds Try.pinned (OpenSpec.upto calcNoughtsSpec)

/-- 'allotmentlaw01.CalcEnds', WHERE WHAT IT READS IS OF BULK AT MOST 1048576: true; the input reads as it did. -/
def calcEndsUptoRow : OpenClaim := { program := "ytnooelpdoeijbaa", sum := "fcaf53610e9322e583e98aebba416da8e1a0fd8e3fb94b00b12da0fdfa68ca7e", func := "allotment/allotmentlaw01.CalcEnds", spec := "calcEnds", inPlace := ["math/bits.Add64"], unfollowed := true, recurses := true, apart := false, narrowed := true }
def CalcEndsUptoSaid : Prop := calcEndsUptoRow.holds Try.pinned (OpenSpec.upto calcEndsSpec)

/-- 'allotmentlaw01.CalcSums', WHERE WHAT IT READS IS OF BULK AT MOST 1048576: true; the input reads as it did. -/
def calcSumsUptoRow : OpenClaim := { program := "ytnooelpdoeijbaa", sum := "fcaf53610e9322e583e98aebba416da8e1a0fd8e3fb94b00b12da0fdfa68ca7e", func := "allotment/allotmentlaw01.CalcSums", spec := "calcSums", inPlace := ["math/bits.Add64"], unfollowed := true, recurses := true, apart := false, narrowed := true }
def CalcSumsUptoSaid : Prop := calcSumsUptoRow.holds Try.pinned (OpenSpec.upto calcSumsSpec)

end Rows
end Go.Proofs.Ytnooelpdoeijbaa
