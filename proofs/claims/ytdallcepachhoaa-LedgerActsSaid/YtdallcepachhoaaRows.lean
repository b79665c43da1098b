/-
  No cell of these rows narrows 'for every input' (looked for: loops, veiled, ifaces, maps, wideKeys, modest, calm, conditions, laid).
  DERIVED. THE GIVEN ROWS OF THIS SEAT. 6 by the template 'for every input the law returns true; each argument reads behind the call as it read before'; 0 by the template 'total and deterministic' (their statements: YtdallcepachhoaaTotals.lean).
  GIVEN WITH THE SEED: the statements are not yours to turn. If you find one false, say at which input.
  Laid BY PROGRAM, IN A SANDBOX (cutbox-rows.mjs): the forced cells as the released guide's own fill.sh prints them over the translation 4463e3e3531dcc84… (all of the seat's roots in one cut). By AI agents, Wed Nov 11 2026. No macro, syntax, notation, axiom, sorry.
-/
import Derived.Test.YtdallcepachhoaaChecked
import GoSem.Claim
import GoSem.ClaimJoined
import GoSem.ClaimMapViews
import Derived.JoinedTies
import Derived.KernelRfl
namespace Go.Proofs.Ytdallcepachhoaa
/- THE CELL 'sum', in the pinned program and in every row, IS THE sha256 OF THE DUMP (.gsa) THAT YtdallcepachhoaaProg.lean LOADS. Nothing in Lean hashes anything: it is a label: what it is worth is what the hold of that sum in a sandbox is worth. -/
noncomputable def Try.pinned : Pinned := { name := "ytdallcepachhoaa", sum := "4463e3e3531dcc848fbaf64cee05d13f114cc0bf2ace25cf13541e2314f5b191", checked := Try.checked }
namespace Rows
def none {H : Type} : Left H := { results := [], args := [] }

/-- 'allotmentlaw15.LedgerApart': WHATEVER THE INPUT: true; the input reads as it did. -/
def ledgerApartSpec : ChangeSpec := { name := "ledgerApart", fn := fun _ => fun
  | [d1, d2, d3] => { results := [.lit (.bool true)], args := [d1, d2, d3] }
  | _ => none }
def ledgerApartRow : OpenClaim := { program := "ytdallcepachhoaa", sum := "4463e3e3531dcc848fbaf64cee05d13f114cc0bf2ace25cf13541e2314f5b191", func := "allotment/allotmentlaw15.LedgerApart", spec := "ledgerApart", inPlace := ["slices.overlaps[allotment/ledger.entry]"], unfollowed := true, recurses := true, apart := false }
def LedgerApartSaid : Prop := ledgerApartRow.holds Try.pinned (OpenSpec.ofChange ledgerApartSpec)

/-- ITS FALSE NEIGHBOUR: 'it returns false'. Refute it at one input. -/
def ledgerApartWrong : ChangeSpec := { name := "ledgerApart", fn := fun _ => fun
  | [d1, d2, d3] => { results := [.lit (.bool false)], args := [d1, d2, d3] }
  | _ => none }
def LedgerApartWrongFalsely : Prop := ledgerApartRow.holds Try.pinned (OpenSpec.ofChange ledgerApartWrong)

/-- 'allotmentlaw15.LedgerSums': WHATEVER THE INPUT: true; the input reads as it did. -/
def ledgerSumsSpec : ChangeSpec := { name := "ledgerSums", fn := fun _ => fun
  | [d1, d2] => { results := [.lit (.bool true)], args := [d1, d2] }
  | _ => none }
def ledgerSumsRow : OpenClaim := { program := "ytdallcepachhoaa", sum := "4463e3e3531dcc848fbaf64cee05d13f114cc0bf2ace25cf13541e2314f5b191", func := "allotment/allotmentlaw15.LedgerSums", spec := "ledgerSums", inPlace := ["slices.overlaps[allotment/ledger.entry]"], unfollowed := true, recurses := true, apart := false }
def LedgerSumsSaid : Prop := ledgerSumsRow.holds Try.pinned (OpenSpec.ofChange ledgerSumsSpec)

/-- ITS FALSE NEIGHBOUR: 'it returns false'. Refute it at one input. -/
def ledgerSumsWrong : ChangeSpec := { name := "ledgerSums", fn := fun _ => fun
  | [d1, d2] => { results := [.lit (.bool false)], args := [d1, d2] }
  | _ => none }
def LedgerSumsWrongFalsely : Prop := ledgerSumsRow.holds Try.pinned (OpenSpec.ofChange ledgerSumsWrong)

/-- 'allotmentlaw15.LedgerOrders': WHATEVER THE INPUT: true; the input reads as it did. -/
def ledgerOrdersSpec : ChangeSpec := { name := "ledgerOrders", fn := fun _ => fun
  | [d1, d2] => { results := [.lit (.bool true)], args := [d1, d2] }
  | _ => none }
def ledgerOrdersRow : OpenClaim := { program := "ytdallcepachhoaa", sum := "4463e3e3531dcc848fbaf64cee05d13f114cc0bf2ace25cf13541e2314f5b191", func := "allotment/allotmentlaw15.LedgerOrders", spec := "ledgerOrders", inPlace := ["slices.overlaps[allotment/ledger.entry]"], unfollowed := true, recurses := true, apart := false }
def LedgerOrdersSaid : Prop := ledgerOrdersRow.holds Try.pinned (OpenSpec.ofChange ledgerOrdersSpec)

/-- ITS FALSE NEIGHBOUR: 'it returns false'. Refute it at one input. -/
def ledgerOrdersWrong : ChangeSpec := { name := "ledgerOrders", fn := fun _ => fun
  | [d1, d2] => { results := [.lit (.bool false)], args := [d1, d2] }
  | _ => none }
def LedgerOrdersWrongFalsely : Prop := ledgerOrdersRow.holds Try.pinned (OpenSpec.ofChange ledgerOrdersWrong)

/-- 'allotmentlaw15.LedgerIn': WHATEVER THE INPUT: true; the input reads as it did. -/
def ledgerInSpec : ChangeSpec := { name := "ledgerIn", fn := fun _ => fun
  | [d1, d2] => { results := [.lit (.bool true)], args := [d1, d2] }
  | _ => none }
def ledgerInRow : OpenClaim := { program := "ytdallcepachhoaa", sum := "4463e3e3531dcc848fbaf64cee05d13f114cc0bf2ace25cf13541e2314f5b191", func := "allotment/allotmentlaw15.LedgerIn", spec := "ledgerIn", inPlace := ["slices.overlaps[allotment/ledger.entry]"], unfollowed := true, recurses := true, apart := false }
def LedgerInSaid : Prop := ledgerInRow.holds Try.pinned (OpenSpec.ofChange ledgerInSpec)

/-- ITS FALSE NEIGHBOUR: 'it returns false'. Refute it at one input. -/
def ledgerInWrong : ChangeSpec := { name := "ledgerIn", fn := fun _ => fun
  | [d1, d2] => { results := [.lit (.bool false)], args := [d1, d2] }
  | _ => none }
def LedgerInWrongFalsely : Prop := ledgerInRow.holds Try.pinned (OpenSpec.ofChange ledgerInWrong)

/-- 'allotmentlaw15.LedgerActs': WHATEVER THE INPUT: true; the input reads as it did. -/
def ledgerActsSpec : ChangeSpec := { name := "ledgerActs", fn := fun _ => fun
  | [d] => { results := [.lit (.bool true)], args := [d] }
  | _ => none }
def ledgerActsRow : OpenClaim := { program := "ytdallcepachhoaa", sum := "4463e3e3531dcc848fbaf64cee05d13f114cc0bf2ace25cf13541e2314f5b191", func := "allotment/allotmentlaw15.LedgerActs", spec := "ledgerActs", inPlace := ["slices.overlaps[allotment/ledger.entry]"], unfollowed := true, recurses := true, apart := false }
def LedgerActsSaid : Prop := ledgerActsRow.holds Try.pinned (OpenSpec.ofChange ledgerActsSpec)

/-- ITS FALSE NEIGHBOUR: 'it returns false'. Refute it at one input. -/
def ledgerActsWrong : ChangeSpec := { name := "ledgerActs", fn := fun _ => fun
  | [d] => { results := [.lit (.bool false)], args := [d] }
  | _ => none }
def LedgerActsWrongFalsely : Prop := ledgerActsRow.holds Try.pinned (OpenSpec.ofChange ledgerActsWrong)

/-- 'allotmentlaw15.LedgerHolds': WHATEVER THE INPUT: true; the input reads as it did. -/
def ledgerHoldsSpec : ChangeSpec := { name := "ledgerHolds", fn := fun _ => fun
  | [d1, d2] => { results := [.lit (.bool true)], args := [d1, d2] }
  | _ => none }
def ledgerHoldsRow : OpenClaim := { program := "ytdallcepachhoaa", sum := "4463e3e3531dcc848fbaf64cee05d13f114cc0bf2ace25cf13541e2314f5b191", func := "allotment/allotmentlaw15.LedgerHolds", spec := "ledgerHolds", inPlace := ["slices.overlaps[allotment/ledger.entry]"], unfollowed := true, recurses := true, apart := false }
def LedgerHoldsSaid : Prop := ledgerHoldsRow.holds Try.pinned (OpenSpec.ofChange ledgerHoldsSpec)

/-- ITS FALSE NEIGHBOUR: 'it returns false'. Refute it at one input. -/
def ledgerHoldsWrong : ChangeSpec := { name := "ledgerHolds", fn := fun _ => fun
  | [d1, d2] => { results := [.lit (.bool false)], args := [d1, d2] }
  | _ => none }
def LedgerHoldsWrongFalsely : Prop := ledgerHoldsRow.holds Try.pinned (OpenSpec.ofChange ledgerHoldsWrong)

/- THE SECOND FORM. 'bulk': how many values and letters a reading holds, each counted each time it is reached (what is shared counts as often as it is met; a slice's spare places count too). A statement '..UptoSaid' is the law's where the arguments, and the package variables that the reading takes, are together of bulk at most 1048576: NARROWER than '..Said'. Prove '..Said' where nothing that the law and all that it calls make is longer than what came in: it says more and counts as full. Else prove '..UptoSaid'. A law counts once. -/
mutual
def uptoBulk {H : Type} : DataW H → Nat
  | .lit (.string bytes) => bytes.length + 1
  | .lit _ => 1
  | .nil => 1
  | .ptr d => uptoBulk d + 1
  | .slice elems spare => uptoBulkAll elems + uptoBulkAll spare + 1
  | .agg parts => uptoBulkAll parts + 1
  | .iface _ d => uptoBulk d + 1
  | .map entries => uptoBulkEntries entries + 1
  | .held _ => 1
def uptoBulkAll {H : Type} : List (DataW H) → Nat
  | [] => 0
  | d :: r => uptoBulk d + uptoBulkAll r
def uptoBulkEntries {H : Type} : List (Lit × DataW H) → Nat
  | [] => 0
  | x :: r => uptoBulkEntry x + uptoBulkEntries r
def uptoBulkEntry {H : Type} : Lit × DataW H → Nat
  | (.string bytes, d) => bytes.length + uptoBulk d + 1
  | (_, d) => uptoBulk d + 1
 end
def uptoSmall : (H : Type) → List (DataW H) → Bool := fun _ ds => decide (uptoBulkAll ds ≤ 1048576)
def OpenSpec.upto (s : _root_.Go.ChangeSpec) : _root_.Go.OpenSpec := { _root_.Go.OpenSpec.ofChange s with cond := some uptoSmall }

/-- 'allotmentlaw15.LedgerApart', WHERE WHAT IT READS IS OF BULK AT MOST 1048576: true; the input reads as it did. -/
def ledgerApartUptoRow : OpenClaim := { program := "ytdallcepachhoaa", sum := "4463e3e3531dcc848fbaf64cee05d13f114cc0bf2ace25cf13541e2314f5b191", func := "allotment/allotmentlaw15.LedgerApart", spec := "ledgerApart", inPlace := ["slices.overlaps[allotment/ledger.entry]"], unfollowed := true, recurses := true, apart := false, narrowed := true }
def LedgerApartUptoSaid : Prop := ledgerApartUptoRow.holds Try.pinned (OpenSpec.upto ledgerApartSpec)

/-- 'allotmentlaw15.LedgerSums', WHERE WHAT IT READS IS OF BULK AT MOST 1048576: true; the input reads as it did. -/
def ledgerSumsUptoRow : OpenClaim := { program := "ytdallcepachhoaa", sum := "4463e3e3531dcc848fbaf64cee05d13f114cc0bf2ace25cf13541e2314f5b191", func := "allotment/allotmentlaw15.LedgerSums", spec := "ledgerSums", inPlace := ["slices.overlaps[allotment/ledger.entry]"], unfollowed := true, recurses := true, apart := false, narrowed := true }
def LedgerSumsUptoSaid : Prop := ledgerSumsUptoRow.holds Try.pinned (OpenSpec.upto ledgerSumsSpec)

/-- 'allotmentlaw15.LedgerOrders', WHERE WHAT IT READS IS OF BULK AT MOST 1048576: true; the input reads as it did. -/
def ledgerOrdersUptoRow : OpenClaim := { program := "ytdallcepachhoaa", sum := "4463e3e3531dcc848fbaf64cee05d13f114cc0bf2ace25cf13541e2314f5b191", func := "allotment/allotmentlaw15.LedgerOrders", spec := "ledgerOrders", inPlace := ["slices.overlaps[allotment/ledger.entry]"], unfollowed := true, recurses := true, apart := false, narrowed := true }
def LedgerOrdersUptoSaid : Prop := ledgerOrdersUptoRow.holds Try.pinned (OpenSpec.upto ledgerOrdersSpec)

/-- 'allotmentlaw15.LedgerIn', WHERE WHAT IT READS IS OF BULK AT MOST 1048576: true; the input reads as it did. -/
def ledgerInUptoRow : OpenClaim := { program := "ytdallcepachhoaa", sum := "4463e3e3531dcc848fbaf64cee05d13f114cc0bf2ace25cf13541e2314f5b191", func := "allotment/allotmentlaw15.LedgerIn", spec := "ledgerIn", inPlace := ["slices.overlaps[allotment/ledger.entry]"], unfollowed := true, recurses := true, apart := false, narrowed := true }
def LedgerInUptoSaid : Prop := ledgerInUptoRow.holds Try.pinned (OpenSpec.upto ledgerInSpec)

/-- 'allotmentlaw15.LedgerActs', WHERE WHAT IT READS IS OF BULK AT MOST 1048576: true; the input reads as it did. -/
def ledgerActsUptoRow : OpenClaim := { program := "ytdallcepachhoaa", sum := "4463e3e3531dcc848fbaf64cee05d13f114cc0bf2ace25cf13541e2314f5b191", func := "allotment/allotmentlaw15.LedgerActs", spec := "ledgerActs", inPlace := ["slices.overlaps[allotment/ledger.entry]"], unfollowed := true, recurses := true, apart := false, narrowed := true }
def LedgerActsUptoSaid : Prop := ledgerActsUptoRow.holds Try.pinned (OpenSpec.upto ledgerActsSpec)

/-- 'allotmentlaw15.LedgerHolds', WHERE WHAT IT READS IS OF BULK AT MOST 1048576: true; the input reads as it did. -/
def ledgerHoldsUptoRow : OpenClaim := { program := "ytdallcepachhoaa", sum := "4463e3e3531dcc848fbaf64cee05d13f114cc0bf2ace25cf13541e2314f5b191", func := "allotment/allotmentlaw15.LedgerHolds", spec := "ledgerHolds", inPlace := ["slices.overlaps[allotment/ledger.entry]"], unfollowed := true, recurses := true, apart := false, narrowed := true }
def LedgerHoldsUptoSaid : Prop := ledgerHoldsUptoRow.holds Try.pinned (OpenSpec.upto ledgerHoldsSpec)

end Rows
end Go.Proofs.Ytdallcepachhoaa
