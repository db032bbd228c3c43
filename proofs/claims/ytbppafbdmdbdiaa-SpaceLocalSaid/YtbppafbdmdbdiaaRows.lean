/-
  No cell of these rows narrows 'for every input' (looked for: loops, veiled, ifaces, maps, wideKeys, modest, calm, conditions, laid).
  DERIVED. THE GIVEN ROWS OF THIS SEAT. 8 by the template 'for every input the law returns true; each argument reads behind the call as it read before'; 0 by the template 'total and deterministic' (their statements: YtbppafbdmdbdiaaTotals.lean).
  GIVEN WITH THE SEED: the statements are not yours to turn. If you find one false, say at which input.
  Laid BY PROGRAM, IN A SANDBOX (cutbox-rows.mjs): the forced cells as the released guide's own fill.sh prints them over the translation 0882f8de35d5ecad… (all of the seat's roots in one cut). By AI agents, Wed Nov 11 2026. No macro, syntax, notation, axiom, sorry.
-/
import Derived.Test.YtbppafbdmdbdiaaChecked
import GoSem.Claim
import GoSem.ClaimJoined
import GoSem.ClaimMapViews
import Derived.JoinedTies
import Derived.KernelRfl
namespace Go.Proofs.Ytbppafbdmdbdiaa
/- THE CELL 'sum', in the pinned program and in every row, IS THE sha256 OF THE DUMP (.gsa) THAT YtbppafbdmdbdiaaProg.lean LOADS. Nothing in Lean hashes anything: it is a label: what it is worth is what the hold of that sum in a sandbox is worth. -/
noncomputable def Try.pinned : Pinned := { name := "ytbppafbdmdbdiaa", sum := "0882f8de35d5ecad98d8794e05670f6d3384ab64a244fdc06192dfc70bb56914", checked := Try.checked }
namespace Rows
def none {H : Type} : Left H := { results := [], args := [] }

/-- 'replevinlaw18.SpaceEdges': WHATEVER THE INPUT: true; the input reads as it did. -/
def spaceEdgesSpec : ChangeSpec := { name := "spaceEdges", fn := fun _ => fun
  | [d1, d2] => { results := [.lit (.bool true)], args := [d1, d2] }
  | _ => none }
def spaceEdgesRow : OpenClaim := { program := "ytbppafbdmdbdiaa", sum := "0882f8de35d5ecad98d8794e05670f6d3384ab64a244fdc06192dfc70bb56914", func := "replevin/replevinlaw18.SpaceEdges", spec := "spaceEdges", unfollowed := true, recurses := true, apart := false }
def SpaceEdgesSaid : Prop := spaceEdgesRow.holds Try.pinned (OpenSpec.ofChange spaceEdgesSpec)

/-- ITS FALSE NEIGHBOUR: 'it returns false'. Refute it at one input. -/
def spaceEdgesWrong : ChangeSpec := { name := "spaceEdges", fn := fun _ => fun
  | [d1, d2] => { results := [.lit (.bool false)], args := [d1, d2] }
  | _ => none }
def SpaceEdgesWrongFalsely : Prop := spaceEdgesRow.holds Try.pinned (OpenSpec.ofChange spaceEdgesWrong)

/-- 'replevinlaw18.SpaceShares': WHATEVER THE INPUT: true; the input reads as it did. -/
def spaceSharesSpec : ChangeSpec := { name := "spaceShares", fn := fun _ => fun
  | [d1, d2, d3] => { results := [.lit (.bool true)], args := [d1, d2, d3] }
  | _ => none }
def spaceSharesRow : OpenClaim := { program := "ytbppafbdmdbdiaa", sum := "0882f8de35d5ecad98d8794e05670f6d3384ab64a244fdc06192dfc70bb56914", func := "replevin/replevinlaw18.SpaceShares", spec := "spaceShares", unfollowed := true, recurses := true, apart := false }
def SpaceSharesSaid : Prop := spaceSharesRow.holds Try.pinned (OpenSpec.ofChange spaceSharesSpec)

/-- ITS FALSE NEIGHBOUR: 'it returns false'. Refute it at one input. -/
def spaceSharesWrong : ChangeSpec := { name := "spaceShares", fn := fun _ => fun
  | [d1, d2, d3] => { results := [.lit (.bool false)], args := [d1, d2, d3] }
  | _ => none }
def SpaceSharesWrongFalsely : Prop := spaceSharesRow.holds Try.pinned (OpenSpec.ofChange spaceSharesWrong)

/-- 'replevinlaw18.SpaceFaults': WHATEVER THE INPUT: true; the input reads as it did. -/
def spaceFaultsSpec : ChangeSpec := { name := "spaceFaults", fn := fun _ => fun
  | [d1, d2] => { results := [.lit (.bool true)], args := [d1, d2] }
  | _ => none }
def spaceFaultsRow : OpenClaim := { program := "ytbppafbdmdbdiaa", sum := "0882f8de35d5ecad98d8794e05670f6d3384ab64a244fdc06192dfc70bb56914", func := "replevin/replevinlaw18.SpaceFaults", spec := "spaceFaults", unfollowed := true, recurses := true, apart := false }
def SpaceFaultsSaid : Prop := spaceFaultsRow.holds Try.pinned (OpenSpec.ofChange spaceFaultsSpec)

/-- ITS FALSE NEIGHBOUR: 'it returns false'. Refute it at one input. -/
def spaceFaultsWrong : ChangeSpec := { name := "spaceFaults", fn := fun _ => fun
  | [d1, d2] => { results := [.lit (.bool false)], args := [d1, d2] }
  | _ => none }
def SpaceFaultsWrongFalsely : Prop := spaceFaultsRow.holds Try.pinned (OpenSpec.ofChange spaceFaultsWrong)

/-- 'replevinlaw18.SpaceAsksOnce': WHATEVER THE INPUT: true; the input reads as it did. -/
def spaceAsksOnceSpec : ChangeSpec := { name := "spaceAsksOnce", fn := fun _ => fun
  | [d1, d2] => { results := [.lit (.bool true)], args := [d1, d2] }
  | _ => none }
def spaceAsksOnceRow : OpenClaim := { program := "ytbppafbdmdbdiaa", sum := "0882f8de35d5ecad98d8794e05670f6d3384ab64a244fdc06192dfc70bb56914", func := "replevin/replevinlaw18.SpaceAsksOnce", spec := "spaceAsksOnce", unfollowed := true, recurses := true, apart := false }
def SpaceAsksOnceSaid : Prop := spaceAsksOnceRow.holds Try.pinned (OpenSpec.ofChange spaceAsksOnceSpec)

/-- ITS FALSE NEIGHBOUR: 'it returns false'. Refute it at one input. -/
def spaceAsksOnceWrong : ChangeSpec := { name := "spaceAsksOnce", fn := fun _ => fun
  | [d1, d2] => { results := [.lit (.bool false)], args := [d1, d2] }
  | _ => none }
def SpaceAsksOnceWrongFalsely : Prop := spaceAsksOnceRow.holds Try.pinned (OpenSpec.ofChange spaceAsksOnceWrong)

/-- 'replevinlaw18.SpaceForks': WHATEVER THE INPUT: true; the input reads as it did. -/
def spaceForksSpec : ChangeSpec := { name := "spaceForks", fn := fun _ => fun
  | [d1, d2, d3] => { results := [.lit (.bool true)], args := [d1, d2, d3] }
  | _ => none }
def spaceForksRow : OpenClaim := { program := "ytbppafbdmdbdiaa", sum := "0882f8de35d5ecad98d8794e05670f6d3384ab64a244fdc06192dfc70bb56914", func := "replevin/replevinlaw18.SpaceForks", spec := "spaceForks", unfollowed := true, recurses := true, apart := false }
def SpaceForksSaid : Prop := spaceForksRow.holds Try.pinned (OpenSpec.ofChange spaceForksSpec)

/-- ITS FALSE NEIGHBOUR: 'it returns false'. Refute it at one input. -/
def spaceForksWrong : ChangeSpec := { name := "spaceForks", fn := fun _ => fun
  | [d1, d2, d3] => { results := [.lit (.bool false)], args := [d1, d2, d3] }
  | _ => none }
def SpaceForksWrongFalsely : Prop := spaceForksRow.holds Try.pinned (OpenSpec.ofChange spaceForksWrong)

/-- 'replevinlaw18.SpaceOperations': WHATEVER THE INPUT: true; the input reads as it did. -/
def spaceOperationsSpec : ChangeSpec := { name := "spaceOperations", fn := fun _ => fun
  | [d1, d2] => { results := [.lit (.bool true)], args := [d1, d2] }
  | _ => none }
def spaceOperationsRow : OpenClaim := { program := "ytbppafbdmdbdiaa", sum := "0882f8de35d5ecad98d8794e05670f6d3384ab64a244fdc06192dfc70bb56914", func := "replevin/replevinlaw18.SpaceOperations", spec := "spaceOperations", unfollowed := true, recurses := true, apart := false }
def SpaceOperationsSaid : Prop := spaceOperationsRow.holds Try.pinned (OpenSpec.ofChange spaceOperationsSpec)

/-- ITS FALSE NEIGHBOUR: 'it returns false'. Refute it at one input. -/
def spaceOperationsWrong : ChangeSpec := { name := "spaceOperations", fn := fun _ => fun
  | [d1, d2] => { results := [.lit (.bool false)], args := [d1, d2] }
  | _ => none }
def SpaceOperationsWrongFalsely : Prop := spaceOperationsRow.holds Try.pinned (OpenSpec.ofChange spaceOperationsWrong)

/-- 'replevinlaw18.SpaceLocal': WHATEVER THE INPUT: true; the input reads as it did. -/
def spaceLocalSpec : ChangeSpec := { name := "spaceLocal", fn := fun _ => fun
  | [d1, d2, d3] => { results := [.lit (.bool true)], args := [d1, d2, d3] }
  | _ => none }
def spaceLocalRow : OpenClaim := { program := "ytbppafbdmdbdiaa", sum := "0882f8de35d5ecad98d8794e05670f6d3384ab64a244fdc06192dfc70bb56914", func := "replevin/replevinlaw18.SpaceLocal", spec := "spaceLocal", unfollowed := true, recurses := true, apart := false }
def SpaceLocalSaid : Prop := spaceLocalRow.holds Try.pinned (OpenSpec.ofChange spaceLocalSpec)

/-- ITS FALSE NEIGHBOUR: 'it returns false'. Refute it at one input. -/
def spaceLocalWrong : ChangeSpec := { name := "spaceLocal", fn := fun _ => fun
  | [d1, d2, d3] => { results := [.lit (.bool false)], args := [d1, d2, d3] }
  | _ => none }
def SpaceLocalWrongFalsely : Prop := spaceLocalRow.holds Try.pinned (OpenSpec.ofChange spaceLocalWrong)

/-- 'replevinlaw18.SpaceNil': WHATEVER THE INPUT: true; the input reads as it did. -/
def spaceNilSpec : ChangeSpec := { name := "spaceNil", fn := fun _ => fun
  | [d] => { results := [.lit (.bool true)], args := [d] }
  | _ => none }
def spaceNilRow : OpenClaim := { program := "ytbppafbdmdbdiaa", sum := "0882f8de35d5ecad98d8794e05670f6d3384ab64a244fdc06192dfc70bb56914", func := "replevin/replevinlaw18.SpaceNil", spec := "spaceNil", unfollowed := true, recurses := true, apart := false }
def SpaceNilSaid : Prop := spaceNilRow.holds Try.pinned (OpenSpec.ofChange spaceNilSpec)

/-- ITS FALSE NEIGHBOUR: 'it returns false'. Refute it at one input. -/
def spaceNilWrong : ChangeSpec := { name := "spaceNil", fn := fun _ => fun
  | [d] => { results := [.lit (.bool false)], args := [d] }
  | _ => none }
def SpaceNilWrongFalsely : Prop := spaceNilRow.holds Try.pinned (OpenSpec.ofChange spaceNilWrong)

/- THE SECOND FORM. 'bulk': how many values and letters a reading holds, each counted each time it is reached (what is shared counts as often as it is met; a slice's spare places count too). A statement '..UptoSaid' is the law's where the arguments, and the package variables that the reading takes, are together of bulk at most 1048576: NARROWER than '..Said'. Prove '..Said' where nothing that the law and all that it calls make is longer than what came in: it says more and counts as full. Else prove '..UptoSaid'. A law counts once. -/
mutual
def uptoBulk {H : Type} : DataW H → Nat
  | .lit (.string bytes) => bytes.length + 1
  | .lit _ => 1
  | .nil => 1
  | .ptr d => uptoBulk d + 1
  | .slice elems spare => uptoBulkAll elems + uptoBulkAll spare + 1
  | .agg parts => uptoBulkAll parts + 1
  | .iface _ d => uptoBulk d + 1
  | .map entries => uptoBulkEntries entries + 1
  | .held _ => 1
def uptoBulkAll {H : Type} : List (DataW H) → Nat
  | [] => 0
  | d :: r => uptoBulk d + uptoBulkAll r
def uptoBulkEntries {H : Type} : List (Lit × DataW H) → Nat
  | [] => 0
  | x :: r => uptoBulkEntry x + uptoBulkEntries r
def uptoBulkEntry {H : Type} : Lit × DataW H → Nat
  | (.string bytes, d) => bytes.length + uptoBulk d + 1
  | (_, d) => uptoBulk d + 1
 end
def uptoSmall : (H : Type) → List (DataW H) → Bool := fun _ ds => decide (uptoBulkAll ds ≤ 1048576)
def OpenSpec.upto (s : _root_.Go.ChangeSpec) : _root_.Go.OpenSpec := { _root_.Go.OpenSpec.ofChange s with cond := some uptoSmall }

/-- 'replevinlaw18.SpaceEdges', WHERE WHAT IT READS IS OF BULK AT MOST 1048576: true; the input reads as it did. -/
def spaceEdgesUptoRow : OpenClaim := { program := "ytbppafbdmdbdiaa", sum := "0882f8de35d5ecad98d8794e05670f6d3384ab64a244fdc06192dfc70bb56914", func := "replevin/replevinlaw18.SpaceEdges", spec := "spaceEdges", unfollowed := true, recurses := true, apart := false, narrowed := true }
def SpaceEdgesUptoSaid : Prop := spaceEdgesUptoRow.holds Try.pinned (OpenSpec.upto spaceEdgesSpec)

/-- 'replevinlaw18.SpaceShares', WHERE WHAT IT READS IS OF BULK AT MOST 1048576: true; the input reads as it did. -/
def spaceSharesUptoRow : OpenClaim := { program := "ytbppafbdmdbdiaa", sum := "0882f8de35d5ecad98d8794e05670f6d3384ab64a244fdc06192dfc70bb56914", func := "replevin/replevinlaw18.SpaceShares", spec := "spaceShares", unfollowed := true, recurses := true, apart := false, narrowed := true }
def SpaceSharesUptoSaid : Prop := spaceSharesUptoRow.holds Try.pinned (OpenSpec.upto spaceSharesSpec)

/-- 'replevinlaw18.SpaceFaults', WHERE WHAT IT READS IS OF BULK AT MOST 1048576: true; the input reads as it did. -/
def spaceFaultsUptoRow : OpenClaim := { program := "ytbppafbdmdbdiaa", sum := "0882f8de35d5ecad98d8794e05670f6d3384ab64a244fdc06192dfc70bb56914", func := "replevin/replevinlaw18.SpaceFaults", spec := "spaceFaults", unfollowed := true, recurses := true, apart := false, narrowed := true }
def SpaceFaultsUptoSaid : Prop := spaceFaultsUptoRow.holds Try.pinned (OpenSpec.upto spaceFaultsSpec)

/-- 'replevinlaw18.SpaceAsksOnce', WHERE WHAT IT READS IS OF BULK AT MOST 1048576: true; the input reads as it did. -/
def spaceAsksOnceUptoRow : OpenClaim := { program := "ytbppafbdmdbdiaa", sum := "0882f8de35d5ecad98d8794e05670f6d3384ab64a244fdc06192dfc70bb56914", func := "replevin/replevinlaw18.SpaceAsksOnce", spec := "spaceAsksOnce", unfollowed := true, recurses := true, apart := false, narrowed := true }
def SpaceAsksOnceUptoSaid : Prop := spaceAsksOnceUptoRow.holds Try.pinned (OpenSpec.upto spaceAsksOnceSpec)

/-- 'replevinlaw18.SpaceForks', WHERE WHAT IT READS IS OF BULK AT MOST 1048576: true; the input reads as it did. -/
def spaceForksUptoRow : OpenClaim := { program := "ytbppafbdmdbdiaa", sum := "0882f8de35d5ecad98d8794e05670f6d3384ab64a244fdc06192dfc70bb56914", func := "replevin/replevinlaw18.SpaceForks", spec := "spaceForks", unfollowed := true, recurses := true, apart := false, narrowed := true }
def SpaceForksUptoSaid : Prop := spaceForksUptoRow.holds Try.pinned (OpenSpec.upto spaceForksSpec)

/-- 'replevinlaw18.SpaceOperations', WHERE WHAT IT READS IS OF BULK AT MOST 1048576: true; the input reads as it did. -/
def spaceOperationsUptoRow : OpenClaim := { program := "ytbppafbdmdbdiaa", sum := "0882f8de35d5ecad98d8794e05670f6d3384ab64a244fdc06192dfc70bb56914", func := "replevin/replevinlaw18.SpaceOperations", spec := "spaceOperations", unfollowed := true, recurses := true, apart := false, narrowed := true }
def SpaceOperationsUptoSaid : Prop := spaceOperationsUptoRow.holds Try.pinned (OpenSpec.upto spaceOperationsSpec)

/-- 'replevinlaw18.SpaceLocal', WHERE WHAT IT READS IS OF BULK AT MOST 1048576: true; the input reads as it did. -/
def spaceLocalUptoRow : OpenClaim := { program := "ytbppafbdmdbdiaa", sum := "0882f8de35d5ecad98d8794e05670f6d3384ab64a244fdc06192dfc70bb56914", func := "replevin/replevinlaw18.SpaceLocal", spec := "spaceLocal", unfollowed := true, recurses := true, apart := false, narrowed := true }
def SpaceLocalUptoSaid : Prop := spaceLocalUptoRow.holds Try.pinned (OpenSpec.upto spaceLocalSpec)

/-- 'replevinlaw18.SpaceNil', WHERE WHAT IT READS IS OF BULK AT MOST 1048576: true; the input reads as it did. -/
def spaceNilUptoRow : OpenClaim := { program := "ytbppafbdmdbdiaa", sum := "0882f8de35d5ecad98d8794e05670f6d3384ab64a244fdc06192dfc70bb56914", func := "replevin/replevinlaw18.SpaceNil", spec := "spaceNil", unfollowed := true, recurses := true, apart := false, narrowed := true }
def SpaceNilUptoSaid : Prop := spaceNilUptoRow.holds Try.pinned (OpenSpec.upto spaceNilSpec)

end Rows
end Go.Proofs.Ytbppafbdmdbdiaa
