/-
  No cell of these rows narrows 'for every input' (looked for: loops, veiled, ifaces, maps, wideKeys, modest, calm, conditions, laid).
  DERIVED. THE GIVEN ROWS OF THIS SEAT. 6 by the template 'for every input the law returns true; each argument reads behind the call as it read before'; 0 by the template 'total and deterministic' (their statements: YtekblfnemcaaeaaTotals.lean).
  GIVEN WITH THE SEED: the statements are not yours to turn. If you find one false, say at which input.
  Laid BY PROGRAM, IN A SANDBOX (cutbox-rows.mjs): the forced cells as the released guide's own fill.sh prints them over the translation ac9065ebc1f2e8fa… (all of the seat's roots in one cut). By AI agents, Wed Nov 11 2026. No macro, syntax, notation, axiom, sorry.
-/
import Derived.Test.YtekblfnemcaaeaaChecked
import GoSem.Claim
import GoSem.ClaimJoined
import GoSem.ClaimMapViews
import Derived.JoinedTies
import Derived.KernelRfl
namespace Go.Proofs.Ytekblfnemcaaeaa
/- THE CELL 'sum', in the pinned program and in every row, IS THE sha256 OF THE DUMP (.gsa) THAT YtekblfnemcaaeaaProg.lean LOADS. Nothing in Lean hashes anything: it is a label: what it is worth is what the hold of that sum in a sandbox is worth. -/
noncomputable def Try.pinned : Pinned := { name := "ytekblfnemcaaeaa", sum := "ac9065ebc1f2e8fa273d4cf015dbfc3f6e88828afd34e4fec7e3dde9ee123aa9", checked := Try.checked }
namespace Rows
def none {H : Type} : Left H := { results := [], args := [] }

/-- 'allotmentlaw04.ArenaLimit': WHATEVER THE INPUT: true; the input reads as it did. -/
def arenaLimitSpec : ChangeSpec := { name := "arenaLimit", fn := fun _ => fun
  | [d1, d2] => { results := [.lit (.bool true)], args := [d1, d2] }
  | _ => none }
def arenaLimitRow : OpenClaim := { program := "ytekblfnemcaaeaa", sum := "ac9065ebc1f2e8fa273d4cf015dbfc3f6e88828afd34e4fec7e3dde9ee123aa9", func := "allotment/allotmentlaw04.ArenaLimit", spec := "arenaLimit", inPlace := ["slices.overlaps[allotment/arena.Region]"], unfollowed := true, recurses := true, apart := false }
def ArenaLimitSaid : Prop := arenaLimitRow.holds Try.pinned (OpenSpec.ofChange arenaLimitSpec)

/-- ITS FALSE NEIGHBOUR: 'it returns false'. Refute it at one input. -/
def arenaLimitWrong : ChangeSpec := { name := "arenaLimit", fn := fun _ => fun
  | [d1, d2] => { results := [.lit (.bool false)], args := [d1, d2] }
  | _ => none }
def ArenaLimitWrongFalsely : Prop := arenaLimitRow.holds Try.pinned (OpenSpec.ofChange arenaLimitWrong)

/-- 'allotmentlaw04.ArenaTold': WHATEVER THE INPUT: true; the input reads as it did. -/
def arenaToldSpec : ChangeSpec := { name := "arenaTold", fn := fun _ => fun
  | [d] => { results := [.lit (.bool true)], args := [d] }
  | _ => none }
def arenaToldRow : OpenClaim := { program := "ytekblfnemcaaeaa", sum := "ac9065ebc1f2e8fa273d4cf015dbfc3f6e88828afd34e4fec7e3dde9ee123aa9", func := "allotment/allotmentlaw04.ArenaTold", spec := "arenaTold", inPlace := ["slices.overlaps[allotment/arena.Region]"], unfollowed := true, recurses := true, apart := false }
def ArenaToldSaid : Prop := arenaToldRow.holds Try.pinned (OpenSpec.ofChange arenaToldSpec)

/-- ITS FALSE NEIGHBOUR: 'it returns false'. Refute it at one input. -/
def arenaToldWrong : ChangeSpec := { name := "arenaTold", fn := fun _ => fun
  | [d] => { results := [.lit (.bool false)], args := [d] }
  | _ => none }
def ArenaToldWrongFalsely : Prop := arenaToldRow.holds Try.pinned (OpenSpec.ofChange arenaToldWrong)

/-- 'allotmentlaw04.ArenaBack': WHATEVER THE INPUT: true; the input reads as it did. -/
def arenaBackSpec : ChangeSpec := { name := "arenaBack", fn := fun _ => fun
  | [d1, d2] => { results := [.lit (.bool true)], args := [d1, d2] }
  | _ => none }
def arenaBackRow : OpenClaim := { program := "ytekblfnemcaaeaa", sum := "ac9065ebc1f2e8fa273d4cf015dbfc3f6e88828afd34e4fec7e3dde9ee123aa9", func := "allotment/allotmentlaw04.ArenaBack", spec := "arenaBack", inPlace := ["slices.overlaps[allotment/arena.Region]"], unfollowed := true, recurses := true, apart := false }
def ArenaBackSaid : Prop := arenaBackRow.holds Try.pinned (OpenSpec.ofChange arenaBackSpec)

/-- ITS FALSE NEIGHBOUR: 'it returns false'. Refute it at one input. -/
def arenaBackWrong : ChangeSpec := { name := "arenaBack", fn := fun _ => fun
  | [d1, d2] => { results := [.lit (.bool false)], args := [d1, d2] }
  | _ => none }
def ArenaBackWrongFalsely : Prop := arenaBackRow.holds Try.pinned (OpenSpec.ofChange arenaBackWrong)

/-- 'allotmentlaw04.ArenaLowest': WHATEVER THE INPUT: true; the input reads as it did. -/
def arenaLowestSpec : ChangeSpec := { name := "arenaLowest", fn := fun _ => fun
  | [d] => { results := [.lit (.bool true)], args := [d] }
  | _ => none }
def arenaLowestRow : OpenClaim := { program := "ytekblfnemcaaeaa", sum := "ac9065ebc1f2e8fa273d4cf015dbfc3f6e88828afd34e4fec7e3dde9ee123aa9", func := "allotment/allotmentlaw04.ArenaLowest", spec := "arenaLowest", inPlace := ["slices.overlaps[allotment/arena.Region]"], unfollowed := true, recurses := true, apart := false }
def ArenaLowestSaid : Prop := arenaLowestRow.holds Try.pinned (OpenSpec.ofChange arenaLowestSpec)

/-- ITS FALSE NEIGHBOUR: 'it returns false'. Refute it at one input. -/
def arenaLowestWrong : ChangeSpec := { name := "arenaLowest", fn := fun _ => fun
  | [d] => { results := [.lit (.bool false)], args := [d] }
  | _ => none }
def ArenaLowestWrongFalsely : Prop := arenaLowestRow.holds Try.pinned (OpenSpec.ofChange arenaLowestWrong)

/-- 'allotmentlaw04.ArenaActs': WHATEVER THE INPUT: true; the input reads as it did. -/
def arenaActsSpec : ChangeSpec := { name := "arenaActs", fn := fun _ => fun
  | [d1, d2, d3] => { results := [.lit (.bool true)], args := [d1, d2, d3] }
  | _ => none }
def arenaActsRow : OpenClaim := { program := "ytekblfnemcaaeaa", sum := "ac9065ebc1f2e8fa273d4cf015dbfc3f6e88828afd34e4fec7e3dde9ee123aa9", func := "allotment/allotmentlaw04.ArenaActs", spec := "arenaActs", inPlace := ["slices.overlaps[allotment/arena.Region]"], unfollowed := true, recurses := true, apart := false }
def ArenaActsSaid : Prop := arenaActsRow.holds Try.pinned (OpenSpec.ofChange arenaActsSpec)

/-- ITS FALSE NEIGHBOUR: 'it returns false'. Refute it at one input. -/
def arenaActsWrong : ChangeSpec := { name := "arenaActs", fn := fun _ => fun
  | [d1, d2, d3] => { results := [.lit (.bool false)], args := [d1, d2, d3] }
  | _ => none }
def ArenaActsWrongFalsely : Prop := arenaActsRow.holds Try.pinned (OpenSpec.ofChange arenaActsWrong)

/-- 'allotmentlaw04.ArenaApart': WHATEVER THE INPUT: true; the input reads as it did. -/
def arenaApartSpec : ChangeSpec := { name := "arenaApart", fn := fun _ => fun
  | [d1, d2, d3] => { results := [.lit (.bool true)], args := [d1, d2, d3] }
  | _ => none }
def arenaApartRow : OpenClaim := { program := "ytekblfnemcaaeaa", sum := "ac9065ebc1f2e8fa273d4cf015dbfc3f6e88828afd34e4fec7e3dde9ee123aa9", func := "allotment/allotmentlaw04.ArenaApart", spec := "arenaApart", inPlace := ["slices.overlaps[allotment/arena.Region]"], unfollowed := true, recurses := true, apart := false }
def ArenaApartSaid : Prop := arenaApartRow.holds Try.pinned (OpenSpec.ofChange arenaApartSpec)

/-- ITS FALSE NEIGHBOUR: 'it returns false'. Refute it at one input. -/
def arenaApartWrong : ChangeSpec := { name := "arenaApart", fn := fun _ => fun
  | [d1, d2, d3] => { results := [.lit (.bool false)], args := [d1, d2, d3] }
  | _ => none }
def ArenaApartWrongFalsely : Prop := arenaApartRow.holds Try.pinned (OpenSpec.ofChange arenaApartWrong)

/- THE SECOND FORM. 'bulk': how many values and letters a reading holds, each counted each time it is reached (what is shared counts as often as it is met; a slice's spare places count too). A statement '..UptoSaid' is the law's where the arguments, and the package variables that the reading takes, are together of bulk at most 1048576: NARROWER than '..Said'. Prove '..Said' where nothing that the law and all that it calls make is longer than what came in: it says more and counts as full. Else prove '..UptoSaid'. A law counts once. -/
mutual
def uptoBulk {H : Type} : DataW H → Nat
  | .lit (.string bytes) => bytes.length + 1
  | .lit _ => 1
  | .nil => 1
  | .ptr d => uptoBulk d + 1
  | .slice elems spare => uptoBulkAll elems + uptoBulkAll spare + 1
  | .agg parts => uptoBulkAll parts + 1
  | .iface _ d => uptoBulk d + 1
  | .map entries => uptoBulkEntries entries + 1
  | .held _ => 1
def uptoBulkAll {H : Type} : List (DataW H) → Nat
  | [] => 0
  | d :: r => uptoBulk d + uptoBulkAll r
def uptoBulkEntries {H : Type} : List (Lit × DataW H) → Nat
  | [] => 0
  | x :: r => uptoBulkEntry x + uptoBulkEntries r
def uptoBulkEntry {H : Type} : Lit × DataW H → Nat
  | (.string bytes, d) => bytes.length + uptoBulk d + 1
  | (_, d) => uptoBulk d + 1
 end
def uptoSmall : (H : Type) → List (DataW H) → Bool := fun _ ds => decide (uptoBulkAll ds ≤ 1048576)
def OpenSpec.upto (s : _root_.Go.ChangeSpec) : _root_.Go.OpenSpec := { _root_.Go.OpenSpec.ofChange s with cond := some uptoSmall }

/-- 'allotmentlaw04.ArenaLimit', WHERE WHAT IT READS IS OF BULK AT MOST 1048576: true; the input reads as it did. -/
def arenaLimitUptoRow : OpenClaim := { program := "ytekblfnemcaaeaa", sum := "ac9065ebc1f2e8fa273d4cf015dbfc3f6e88828afd34e4fec7e3dde9ee123aa9", func := "allotment/allotmentlaw04.ArenaLimit", spec := "arenaLimit", inPlace := ["slices.overlaps[allotment/arena.Region]"], unfollowed := true, recurses := true, apart := false, narrowed := true }
def ArenaLimitUptoSaid : Prop := arenaLimitUptoRow.holds Try.pinned (OpenSpec.upto arenaLimitSpec)

/-- 'allotmentlaw04.ArenaTold', WHERE WHAT IT READS IS OF BULK AT MOST 1048576: true; the input reads as it did. -/
def arenaToldUptoRow : OpenClaim := { program := "ytekblfnemcaaeaa", sum := "ac9065ebc1f2e8fa273d4cf015dbfc3f6e88828afd34e4fec7e3dde9ee123aa9", func := "allotment/allotmentlaw04.ArenaTold", spec := "arenaTold", inPlace := ["slices.overlaps[allotment/arena.Region]"], unfollowed := true, recurses := true, apart := false, narrowed := true }
def ArenaToldUptoSaid : Prop := arenaToldUptoRow.holds Try.pinned (OpenSpec.upto arenaToldSpec)

/-- 'allotmentlaw04.ArenaBack', WHERE WHAT IT READS IS OF BULK AT MOST 1048576: true; the input reads as it did. -/
def arenaBackUptoRow : OpenClaim := { program := "ytekblfnemcaaeaa", sum := "ac9065ebc1f2e8fa273d4cf015dbfc3f6e88828afd34e4fec7e3dde9ee123aa9", func := "allotment/allotmentlaw04.ArenaBack", spec := "arenaBack", inPlace := ["slices.overlaps[allotment/arena.Region]"], unfollowed := true, recurses := true, apart := false, narrowed := true }
def ArenaBackUptoSaid : Prop := arenaBackUptoRow.holds Try.pinned (OpenSpec.upto arenaBackSpec)

/-- 'allotmentlaw04.ArenaLowest', WHERE WHAT IT READS IS OF BULK AT MOST 1048576: true; the input reads as it did. -/
def arenaLowestUptoRow : OpenClaim := { program := "ytekblfnemcaaeaa", sum := "ac9065ebc1f2e8fa273d4cf015dbfc3f6e88828afd34e4fec7e3dde9ee123aa9", func := "allotment/allotmentlaw04.ArenaLowest", spec := "arenaLowest", inPlace := ["slices.overlaps[allotment/arena.Region]"], unfollowed := true, recurses := true, apart := false, narrowed := true }
def ArenaLowestUptoSaid : Prop := arenaLowestUptoRow.holds Try.pinned (OpenSpec.upto arenaLowestSpec)

/-- 'allotmentlaw04.ArenaActs', WHERE WHAT IT READS IS OF BULK AT MOST 1048576: true; the input reads as it did. -/
def arenaActsUptoRow : OpenClaim := { program := "ytekblfnemcaaeaa", sum := "ac9065ebc1f2e8fa273d4cf015dbfc3f6e88828afd34e4fec7e3dde9ee123aa9", func := "allotment/allotmentlaw04.ArenaActs", spec := "arenaActs", inPlace := ["slices.overlaps[allotment/arena.Region]"], unfollowed := true, recurses := true, apart := false, narrowed := true }
def ArenaActsUptoSaid : Prop := arenaActsUptoRow.holds Try.pinned (OpenSpec.upto arenaActsSpec)

/-- 'allotmentlaw04.ArenaApart', WHERE WHAT IT READS IS OF BULK AT MOST 1048576: true; the input reads as it did. -/
def arenaApartUptoRow : OpenClaim := { program := "ytekblfnemcaaeaa", sum := "ac9065ebc1f2e8fa273d4cf015dbfc3f6e88828afd34e4fec7e3dde9ee123aa9", func := "allotment/allotmentlaw04.ArenaApart", spec := "arenaApart", inPlace := ["slices.overlaps[allotment/arena.Region]"], unfollowed := true, recurses := true, apart := false, narrowed := true }
def ArenaApartUptoSaid : Prop := arenaApartUptoRow.holds Try.pinned (OpenSpec.upto arenaApartSpec)

end Rows
end Go.Proofs.Ytekblfnemcaaeaa
