/-
  No cell of these rows narrows 'for every input' (looked for: loops, veiled, ifaces, maps, wideKeys, modest, calm, conditions, laid).
  DERIVED. THE GIVEN ROWS OF THIS SEAT. 7 by the template 'for every input the law returns true; each argument reads behind the call as it read before'; 0 by the template 'total and deterministic' (their statements: YtfgmmehgmepegaaTotals.lean).
  GIVEN WITH THE SEED: the statements are not yours to turn. If you find one false, say at which input.
  Laid BY PROGRAM, IN A SANDBOX (cutbox-rows.mjs): the forced cells as the released guide's own fill.sh prints them over the translation 67cb9adb5f2cd072… (all of the seat's roots in one cut). By AI agents, Wed Nov 11 2026. No macro, syntax, notation, axiom, sorry.
-/
import Derived.Test.YtfgmmehgmepegaaChecked
import GoSem.Claim
import GoSem.ClaimJoined
import GoSem.ClaimMapViews
import Derived.JoinedTies
import Derived.KernelRfl
namespace Go.Proofs.Ytfgmmehgmepegaa
/- THE CELL 'sum', in the pinned program and in every row, IS THE sha256 OF THE DUMP (.gsa) THAT YtfgmmehgmepegaaProg.lean LOADS. Nothing in Lean hashes anything: it is a label: what it is worth is what the hold of that sum in a sandbox is worth. -/
noncomputable def Try.pinned : Pinned := { name := "ytfgmmehgmepegaa", sum := "67cb9adb5f2cd072bb1e535a28bd537f64dc912e9529c2d0fed89c2cc5cb6ce2", checked := Try.checked }
namespace Rows
def none {H : Type} : Left H := { results := [], args := [] }

/-- 'allotmentlaw05.ClassPlans': WHATEVER THE INPUT: true; the input reads as it did. -/
def classPlansSpec : ChangeSpec := { name := "classPlans", fn := fun _ => fun
  | [d1, d2] => { results := [.lit (.bool true)], args := [d1, d2] }
  | _ => none }
def classPlansRow : OpenClaim := { program := "ytfgmmehgmepegaa", sum := "67cb9adb5f2cd072bb1e535a28bd537f64dc912e9529c2d0fed89c2cc5cb6ce2", func := "allotment/allotmentlaw05.ClassPlans", spec := "classPlans", apart := false }
def ClassPlansSaid : Prop := classPlansRow.holds Try.pinned (OpenSpec.ofChange classPlansSpec)

/-- ITS FALSE NEIGHBOUR: 'it returns false'. Refute it at one input. -/
def classPlansWrong : ChangeSpec := { name := "classPlans", fn := fun _ => fun
  | [d1, d2] => { results := [.lit (.bool false)], args := [d1, d2] }
  | _ => none }
def ClassPlansWrongFalsely : Prop := classPlansRow.holds Try.pinned (OpenSpec.ofChange classPlansWrong)

/-- 'allotmentlaw05.ClassEnough': WHATEVER THE INPUT: true; the input reads as it did. -/
def classEnoughSpec : ChangeSpec := { name := "classEnough", fn := fun _ => fun
  | [d1, d2] => { results := [.lit (.bool true)], args := [d1, d2] }
  | _ => none }
def classEnoughRow : OpenClaim := { program := "ytfgmmehgmepegaa", sum := "67cb9adb5f2cd072bb1e535a28bd537f64dc912e9529c2d0fed89c2cc5cb6ce2", func := "allotment/allotmentlaw05.ClassEnough", spec := "classEnough", apart := false }
def ClassEnoughSaid : Prop := classEnoughRow.holds Try.pinned (OpenSpec.ofChange classEnoughSpec)

/-- ITS FALSE NEIGHBOUR: 'it returns false'. Refute it at one input. -/
def classEnoughWrong : ChangeSpec := { name := "classEnough", fn := fun _ => fun
  | [d1, d2] => { results := [.lit (.bool false)], args := [d1, d2] }
  | _ => none }
def ClassEnoughWrongFalsely : Prop := classEnoughRow.holds Try.pinned (OpenSpec.ofChange classEnoughWrong)

/-- 'allotmentlaw05.ClassMore': WHATEVER THE INPUT: true; the input reads as it did. -/
def classMoreSpec : ChangeSpec := { name := "classMore", fn := fun _ => fun
  | [d1, d2, d3] => { results := [.lit (.bool true)], args := [d1, d2, d3] }
  | _ => none }
def classMoreRow : OpenClaim := { program := "ytfgmmehgmepegaa", sum := "67cb9adb5f2cd072bb1e535a28bd537f64dc912e9529c2d0fed89c2cc5cb6ce2", func := "allotment/allotmentlaw05.ClassMore", spec := "classMore", apart := false }
def ClassMoreSaid : Prop := classMoreRow.holds Try.pinned (OpenSpec.ofChange classMoreSpec)

/-- ITS FALSE NEIGHBOUR: 'it returns false'. Refute it at one input. -/
def classMoreWrong : ChangeSpec := { name := "classMore", fn := fun _ => fun
  | [d1, d2, d3] => { results := [.lit (.bool false)], args := [d1, d2, d3] }
  | _ => none }
def ClassMoreWrongFalsely : Prop := classMoreRow.holds Try.pinned (OpenSpec.ofChange classMoreWrong)

/-- 'allotmentlaw05.ClassRefuses': WHATEVER THE INPUT: true; the input reads as it did. -/
def classRefusesSpec : ChangeSpec := { name := "classRefuses", fn := fun _ => fun
  | [d1, d2] => { results := [.lit (.bool true)], args := [d1, d2] }
  | _ => none }
def classRefusesRow : OpenClaim := { program := "ytfgmmehgmepegaa", sum := "67cb9adb5f2cd072bb1e535a28bd537f64dc912e9529c2d0fed89c2cc5cb6ce2", func := "allotment/allotmentlaw05.ClassRefuses", spec := "classRefuses", apart := false }
def ClassRefusesSaid : Prop := classRefusesRow.holds Try.pinned (OpenSpec.ofChange classRefusesSpec)

/-- ITS FALSE NEIGHBOUR: 'it returns false'. Refute it at one input. -/
def classRefusesWrong : ChangeSpec := { name := "classRefuses", fn := fun _ => fun
  | [d1, d2] => { results := [.lit (.bool false)], args := [d1, d2] }
  | _ => none }
def ClassRefusesWrongFalsely : Prop := classRefusesRow.holds Try.pinned (OpenSpec.ofChange classRefusesWrong)

/-- 'allotmentlaw05.ClassWaste': WHATEVER THE INPUT: true; the input reads as it did. -/
def classWasteSpec : ChangeSpec := { name := "classWaste", fn := fun _ => fun
  | [d] => { results := [.lit (.bool true)], args := [d] }
  | _ => none }
def classWasteRow : OpenClaim := { program := "ytfgmmehgmepegaa", sum := "67cb9adb5f2cd072bb1e535a28bd537f64dc912e9529c2d0fed89c2cc5cb6ce2", func := "allotment/allotmentlaw05.ClassWaste", spec := "classWaste", apart := false }
def ClassWasteSaid : Prop := classWasteRow.holds Try.pinned (OpenSpec.ofChange classWasteSpec)

/-- ITS FALSE NEIGHBOUR: 'it returns false'. Refute it at one input. -/
def classWasteWrong : ChangeSpec := { name := "classWaste", fn := fun _ => fun
  | [d] => { results := [.lit (.bool false)], args := [d] }
  | _ => none }
def ClassWasteWrongFalsely : Prop := classWasteRow.holds Try.pinned (OpenSpec.ofChange classWasteWrong)

/-- 'allotmentlaw05.ClassFits': WHATEVER THE INPUT: true; the input reads as it did. -/
def classFitsSpec : ChangeSpec := { name := "classFits", fn := fun _ => fun
  | [d] => { results := [.lit (.bool true)], args := [d] }
  | _ => none }
def classFitsRow : OpenClaim := { program := "ytfgmmehgmepegaa", sum := "67cb9adb5f2cd072bb1e535a28bd537f64dc912e9529c2d0fed89c2cc5cb6ce2", func := "allotment/allotmentlaw05.ClassFits", spec := "classFits", apart := false }
def ClassFitsSaid : Prop := classFitsRow.holds Try.pinned (OpenSpec.ofChange classFitsSpec)

/-- ITS FALSE NEIGHBOUR: 'it returns false'. Refute it at one input. -/
def classFitsWrong : ChangeSpec := { name := "classFits", fn := fun _ => fun
  | [d] => { results := [.lit (.bool false)], args := [d] }
  | _ => none }
def ClassFitsWrongFalsely : Prop := classFitsRow.holds Try.pinned (OpenSpec.ofChange classFitsWrong)

/-- 'allotmentlaw05.ClassTables': WHATEVER THE INPUT: true; the input reads as it did. -/
def classTablesSpec : ChangeSpec := { name := "classTables", fn := fun _ => fun
  | [d1, d2, d3] => { results := [.lit (.bool true)], args := [d1, d2, d3] }
  | _ => none }
def classTablesRow : OpenClaim := { program := "ytfgmmehgmepegaa", sum := "67cb9adb5f2cd072bb1e535a28bd537f64dc912e9529c2d0fed89c2cc5cb6ce2", func := "allotment/allotmentlaw05.ClassTables", spec := "classTables", apart := false }
def ClassTablesSaid : Prop := classTablesRow.holds Try.pinned (OpenSpec.ofChange classTablesSpec)

/-- ITS FALSE NEIGHBOUR: 'it returns false'. Refute it at one input. -/
def classTablesWrong : ChangeSpec := { name := "classTables", fn := fun _ => fun
  | [d1, d2, d3] => { results := [.lit (.bool false)], args := [d1, d2, d3] }
  | _ => none }
def ClassTablesWrongFalsely : Prop := classTablesRow.holds Try.pinned (OpenSpec.ofChange classTablesWrong)

/- THE SECOND FORM. 'bulk': how many values and letters a reading holds, each counted each time it is reached (what is shared counts as often as it is met; a slice's spare places count too). A statement '..UptoSaid' is the law's where the arguments, and the package variables that the reading takes, are together of bulk at most 1048576: NARROWER than '..Said'. Prove '..Said' where nothing that the law and all that it calls make is longer than what came in: it says more and counts as full. Else prove '..UptoSaid'. A law counts once. -/
mutual
def uptoBulk {H : Type} : DataW H → Nat
  | .lit (.string bytes) => bytes.length + 1
  | .lit _ => 1
  | .nil => 1
  | .ptr d => uptoBulk d + 1
  | .slice elems spare => uptoBulkAll elems + uptoBulkAll spare + 1
  | .agg parts => uptoBulkAll parts + 1
  | .iface _ d => uptoBulk d + 1
  | .map entries => uptoBulkEntries entries + 1
  | .held _ => 1
def uptoBulkAll {H : Type} : List (DataW H) → Nat
  | [] => 0
  | d :: r => uptoBulk d + uptoBulkAll r
def uptoBulkEntries {H : Type} : List (Lit × DataW H) → Nat
  | [] => 0
  | x :: r => uptoBulkEntry x + uptoBulkEntries r
def uptoBulkEntry {H : Type} : Lit × DataW H → Nat
  | (.string bytes, d) => bytes.length + uptoBulk d + 1
  | (_, d) => uptoBulk d + 1
 end
def uptoSmall : (H : Type) → List (DataW H) → Bool := fun _ ds => decide (uptoBulkAll ds ≤ 1048576)
def OpenSpec.upto (s : _root_.Go.ChangeSpec) : _root_.Go.OpenSpec := { _root_.Go.OpenSpec.ofChange s with cond := some uptoSmall }

/-- 'allotmentlaw05.ClassPlans', WHERE WHAT IT READS IS OF BULK AT MOST 1048576: true; the input reads as it did. -/
def classPlansUptoRow : OpenClaim := { program := "ytfgmmehgmepegaa", sum := "67cb9adb5f2cd072bb1e535a28bd537f64dc912e9529c2d0fed89c2cc5cb6ce2", func := "allotment/allotmentlaw05.ClassPlans", spec := "classPlans", apart := false, narrowed := true }
def ClassPlansUptoSaid : Prop := classPlansUptoRow.holds Try.pinned (OpenSpec.upto classPlansSpec)

/-- 'allotmentlaw05.ClassEnough', WHERE WHAT IT READS IS OF BULK AT MOST 1048576: true; the input reads as it did. -/
def classEnoughUptoRow : OpenClaim := { program := "ytfgmmehgmepegaa", sum := "67cb9adb5f2cd072bb1e535a28bd537f64dc912e9529c2d0fed89c2cc5cb6ce2", func := "allotment/allotmentlaw05.ClassEnough", spec := "classEnough", apart := false, narrowed := true }
def ClassEnoughUptoSaid : Prop := classEnoughUptoRow.holds Try.pinned (OpenSpec.upto classEnoughSpec)

/-- 'allotmentlaw05.ClassMore', WHERE WHAT IT READS IS OF BULK AT MOST 1048576: true; the input reads as it did. -/
def classMoreUptoRow : OpenClaim := { program := "ytfgmmehgmepegaa", sum := "67cb9adb5f2cd072bb1e535a28bd537f64dc912e9529c2d0fed89c2cc5cb6ce2", func := "allotment/allotmentlaw05.ClassMore", spec := "classMore", apart := false, narrowed := true }
def ClassMoreUptoSaid : Prop := classMoreUptoRow.holds Try.pinned (OpenSpec.upto classMoreSpec)

/-- 'allotmentlaw05.ClassRefuses', WHERE WHAT IT READS IS OF BULK AT MOST 1048576: true; the input reads as it did. -/
def classRefusesUptoRow : OpenClaim := { program := "ytfgmmehgmepegaa", sum := "67cb9adb5f2cd072bb1e535a28bd537f64dc912e9529c2d0fed89c2cc5cb6ce2", func := "allotment/allotmentlaw05.ClassRefuses", spec := "classRefuses", apart := false, narrowed := true }
def ClassRefusesUptoSaid : Prop := classRefusesUptoRow.holds Try.pinned (OpenSpec.upto classRefusesSpec)

/-- 'allotmentlaw05.ClassWaste', WHERE WHAT IT READS IS OF BULK AT MOST 1048576: true; the input reads as it did. -/
def classWasteUptoRow : OpenClaim := { program := "ytfgmmehgmepegaa", sum := "67cb9adb5f2cd072bb1e535a28bd537f64dc912e9529c2d0fed89c2cc5cb6ce2", func := "allotment/allotmentlaw05.ClassWaste", spec := "classWaste", apart := false, narrowed := true }
def ClassWasteUptoSaid : Prop := classWasteUptoRow.holds Try.pinned (OpenSpec.upto classWasteSpec)

/-- 'allotmentlaw05.ClassFits', WHERE WHAT IT READS IS OF BULK AT MOST 1048576: true; the input reads as it did. -/
def classFitsUptoRow : OpenClaim := { program := "ytfgmmehgmepegaa", sum := "67cb9adb5f2cd072bb1e535a28bd537f64dc912e9529c2d0fed89c2cc5cb6ce2", func := "allotment/allotmentlaw05.ClassFits", spec := "classFits", apart := false, narrowed := true }
def ClassFitsUptoSaid : Prop := classFitsUptoRow.holds Try.pinned (OpenSpec.upto classFitsSpec)

/-- 'allotmentlaw05.ClassTables', WHERE WHAT IT READS IS OF BULK AT MOST 1048576: true; the input reads as it did. -/
def classTablesUptoRow : OpenClaim := { program := "ytfgmmehgmepegaa", sum := "67cb9adb5f2cd072bb1e535a28bd537f64dc912e9529c2d0fed89c2cc5cb6ce2", func := "allotment/allotmentlaw05.ClassTables", spec := "classTables", apart := false, narrowed := true }
def ClassTablesUptoSaid : Prop := classTablesUptoRow.holds Try.pinned (OpenSpec.upto classTablesSpec)

end Rows
end Go.Proofs.Ytfgmmehgmepegaa
