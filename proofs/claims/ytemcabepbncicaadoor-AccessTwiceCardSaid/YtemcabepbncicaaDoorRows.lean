/-
  NARROWER THAN 'FOR EVERY INPUT', by the rows' own cells (each row's printed sentence says how): AccessRequires: laid · AccessParts: laid · AccessApplies: laid · AccessTwice: laid · AccessJoins: laid · AccessChanges: laid · AccessRuns: laid · AccessTexts: laid · AccessParses: laid.
  DERIVED. THE GIVEN ROWS OF THIS SEAT. 9 by the template 'for every input the law returns true; each argument reads behind the call as it read before'; 0 by the template 'total and deterministic' (their statements: YtemcabepbncicaaDoorTotals.lean).
  GIVEN WITH THE SEED: the statements are not yours to turn. If you find one false, say at which input.
  Laid BY PROGRAM, IN A SANDBOX (cutbox-rows.mjs): the forced cells as the released guide's own fill.sh prints them over the translation 99bd6baf0bdc09fe… (all of the seat's roots in one cut). By AI agents, Wed Nov 11 2026. No macro, syntax, notation, axiom, sorry.
-/
import Derived.Test.YtemcabepbncicaaDoorChecked
import GoSem.Claim
import GoSem.ClaimJoined
import GoSem.ClaimMapViews
import Derived.JoinedTies
import Derived.KernelRfl
namespace Go.Proofs.YtemcabepbncicaaDoor
/- THE CELL 'sum', in the pinned program and in every row, IS THE sha256 OF THE DUMP (.gsa) THAT YtemcabepbncicaaDoorProg.lean LOADS. Nothing in Lean hashes anything: it is a label: what it is worth is what the hold of that sum in a sandbox is worth. -/
noncomputable def Tryd.pinned : Pinned := { name := "ytemcabepbncicaadoor", sum := "99bd6baf0bdc09fed09c708a492ca63cbb175b0a56f9d04147f276186abb25b0", checked := Tryd.checked }
namespace Rows
def none {H : Type} : Left H := { results := [], args := [] }

/- WHAT THE LISTED PACKAGE-LEVEL VARIABLES READ AS WHEN THE CALL BEGINS. Each datum BY PROGRAM (the guide's laid-datum.mjs) off the statement by which the dump's own 'gosem.cut.vars' lays the variable. In a bare row this is a premise. The card (YtemcabepbncicaaDoorCards.lean) ties it to the program's text. -/
def laid_replevin_access_shifts {H : Type} : DataW H := .agg [.lit (.int .i64 6), .lit (.int .i64 3), .lit (.int .i64 0)]

/-- 'replevinlaw26.AccessRequires': WHATEVER THE INPUT: true; the input reads as it did. -/
def accessRequiresSpec : ChangeSpec := { name := "accessRequires", fn := fun _ => fun
  | [d1, d2, d3] => { results := [.lit (.bool true)], args := [d1, d2, d3] }
  | _ => none }
def accessRequiresRow : OpenClaim := { program := "ytemcabepbncicaadoor", sum := "99bd6baf0bdc09fed09c708a492ca63cbb175b0a56f9d04147f276186abb25b0", func := "replevin/replevinlaw26.AccessRequires", spec := "accessRequires", inPlace := ["internal/bytealg.IndexByteString", "internal/bytealg.IndexString"], unfollowed := true, recurses := true, named := ["replevin/access.shifts", "internal/bytealg.MaxLen"], apart := false, laid := [("replevin/access.shifts", laid_replevin_access_shifts)] }
def AccessRequiresSaid : Prop := accessRequiresRow.holds Tryd.pinned (OpenSpec.ofChange accessRequiresSpec)

/-- ITS FALSE NEIGHBOUR: 'it returns false'. Refute it at one input. -/
def accessRequiresWrong : ChangeSpec := { name := "accessRequires", fn := fun _ => fun
  | [d1, d2, d3] => { results := [.lit (.bool false)], args := [d1, d2, d3] }
  | _ => none }
def AccessRequiresWrongFalsely : Prop := accessRequiresRow.holds Tryd.pinned (OpenSpec.ofChange accessRequiresWrong)

/-- 'replevinlaw26.AccessParts': WHATEVER THE INPUT: true; the input reads as it did. -/
def accessPartsSpec : ChangeSpec := { name := "accessParts", fn := fun _ => fun
  | [d1, d2, d3] => { results := [.lit (.bool true)], args := [d1, d2, d3] }
  | _ => none }
def accessPartsRow : OpenClaim := { program := "ytemcabepbncicaadoor", sum := "99bd6baf0bdc09fed09c708a492ca63cbb175b0a56f9d04147f276186abb25b0", func := "replevin/replevinlaw26.AccessParts", spec := "accessParts", inPlace := ["internal/bytealg.IndexByteString", "internal/bytealg.IndexString"], unfollowed := true, recurses := true, named := ["replevin/access.shifts", "internal/bytealg.MaxLen"], apart := false, laid := [("replevin/access.shifts", laid_replevin_access_shifts)] }
def AccessPartsSaid : Prop := accessPartsRow.holds Tryd.pinned (OpenSpec.ofChange accessPartsSpec)

/-- ITS FALSE NEIGHBOUR: 'it returns false'. Refute it at one input. -/
def accessPartsWrong : ChangeSpec := { name := "accessParts", fn := fun _ => fun
  | [d1, d2, d3] => { results := [.lit (.bool false)], args := [d1, d2, d3] }
  | _ => none }
def AccessPartsWrongFalsely : Prop := accessPartsRow.holds Tryd.pinned (OpenSpec.ofChange accessPartsWrong)

/-- 'replevinlaw26.AccessApplies': WHATEVER THE INPUT: true; the input reads as it did. -/
def accessAppliesSpec : ChangeSpec := { name := "accessApplies", fn := fun _ => fun
  | [d1, d2] => { results := [.lit (.bool true)], args := [d1, d2] }
  | _ => none }
def accessAppliesRow : OpenClaim := { program := "ytemcabepbncicaadoor", sum := "99bd6baf0bdc09fed09c708a492ca63cbb175b0a56f9d04147f276186abb25b0", func := "replevin/replevinlaw26.AccessApplies", spec := "accessApplies", inPlace := ["internal/bytealg.IndexByteString", "internal/bytealg.IndexString"], unfollowed := true, recurses := true, named := ["replevin/access.shifts", "internal/bytealg.MaxLen"], apart := false, laid := [("replevin/access.shifts", laid_replevin_access_shifts)] }
def AccessAppliesSaid : Prop := accessAppliesRow.holds Tryd.pinned (OpenSpec.ofChange accessAppliesSpec)

/-- ITS FALSE NEIGHBOUR: 'it returns false'. Refute it at one input. -/
def accessAppliesWrong : ChangeSpec := { name := "accessApplies", fn := fun _ => fun
  | [d1, d2] => { results := [.lit (.bool false)], args := [d1, d2] }
  | _ => none }
def AccessAppliesWrongFalsely : Prop := accessAppliesRow.holds Tryd.pinned (OpenSpec.ofChange accessAppliesWrong)

/-- 'replevinlaw26.AccessTwice': WHATEVER THE INPUT: true; the input reads as it did. -/
def accessTwiceSpec : ChangeSpec := { name := "accessTwice", fn := fun _ => fun
  | [d1, d2] => { results := [.lit (.bool true)], args := [d1, d2] }
  | _ => none }
def accessTwiceRow : OpenClaim := { program := "ytemcabepbncicaadoor", sum := "99bd6baf0bdc09fed09c708a492ca63cbb175b0a56f9d04147f276186abb25b0", func := "replevin/replevinlaw26.AccessTwice", spec := "accessTwice", inPlace := ["internal/bytealg.IndexByteString", "internal/bytealg.IndexString"], unfollowed := true, recurses := true, named := ["replevin/access.shifts", "internal/bytealg.MaxLen"], apart := false, laid := [("replevin/access.shifts", laid_replevin_access_shifts)] }
def AccessTwiceSaid : Prop := accessTwiceRow.holds Tryd.pinned (OpenSpec.ofChange accessTwiceSpec)

/-- ITS FALSE NEIGHBOUR: 'it returns false'. Refute it at one input. -/
def accessTwiceWrong : ChangeSpec := { name := "accessTwice", fn := fun _ => fun
  | [d1, d2] => { results := [.lit (.bool false)], args := [d1, d2] }
  | _ => none }
def AccessTwiceWrongFalsely : Prop := accessTwiceRow.holds Tryd.pinned (OpenSpec.ofChange accessTwiceWrong)

/-- 'replevinlaw26.AccessJoins': WHATEVER THE INPUT: true; the input reads as it did. -/
def accessJoinsSpec : ChangeSpec := { name := "accessJoins", fn := fun _ => fun
  | [d1, d2, d3] => { results := [.lit (.bool true)], args := [d1, d2, d3] }
  | _ => none }
def accessJoinsRow : OpenClaim := { program := "ytemcabepbncicaadoor", sum := "99bd6baf0bdc09fed09c708a492ca63cbb175b0a56f9d04147f276186abb25b0", func := "replevin/replevinlaw26.AccessJoins", spec := "accessJoins", inPlace := ["internal/bytealg.IndexByteString", "internal/bytealg.IndexString"], unfollowed := true, recurses := true, named := ["replevin/access.shifts", "internal/bytealg.MaxLen"], apart := false, laid := [("replevin/access.shifts", laid_replevin_access_shifts)] }
def AccessJoinsSaid : Prop := accessJoinsRow.holds Tryd.pinned (OpenSpec.ofChange accessJoinsSpec)

/-- ITS FALSE NEIGHBOUR: 'it returns false'. Refute it at one input. -/
def accessJoinsWrong : ChangeSpec := { name := "accessJoins", fn := fun _ => fun
  | [d1, d2, d3] => { results := [.lit (.bool false)], args := [d1, d2, d3] }
  | _ => none }
def AccessJoinsWrongFalsely : Prop := accessJoinsRow.holds Tryd.pinned (OpenSpec.ofChange accessJoinsWrong)

/-- 'replevinlaw26.AccessChanges': WHATEVER THE INPUT: true; the input reads as it did. -/
def accessChangesSpec : ChangeSpec := { name := "accessChanges", fn := fun _ => fun
  | [d1, d2, d3] => { results := [.lit (.bool true)], args := [d1, d2, d3] }
  | _ => none }
def accessChangesRow : OpenClaim := { program := "ytemcabepbncicaadoor", sum := "99bd6baf0bdc09fed09c708a492ca63cbb175b0a56f9d04147f276186abb25b0", func := "replevin/replevinlaw26.AccessChanges", spec := "accessChanges", inPlace := ["internal/bytealg.IndexByteString", "internal/bytealg.IndexString"], unfollowed := true, recurses := true, named := ["replevin/access.shifts", "internal/bytealg.MaxLen"], apart := false, laid := [("replevin/access.shifts", laid_replevin_access_shifts)] }
def AccessChangesSaid : Prop := accessChangesRow.holds Tryd.pinned (OpenSpec.ofChange accessChangesSpec)

/-- ITS FALSE NEIGHBOUR: 'it returns false'. Refute it at one input. -/
def accessChangesWrong : ChangeSpec := { name := "accessChanges", fn := fun _ => fun
  | [d1, d2, d3] => { results := [.lit (.bool false)], args := [d1, d2, d3] }
  | _ => none }
def AccessChangesWrongFalsely : Prop := accessChangesRow.holds Tryd.pinned (OpenSpec.ofChange accessChangesWrong)

/-- 'replevinlaw26.AccessRuns': WHATEVER THE INPUT: true; the input reads as it did. -/
def accessRunsSpec : ChangeSpec := { name := "accessRuns", fn := fun _ => fun
  | [d1, d2, d3] => { results := [.lit (.bool true)], args := [d1, d2, d3] }
  | _ => none }
def accessRunsRow : OpenClaim := { program := "ytemcabepbncicaadoor", sum := "99bd6baf0bdc09fed09c708a492ca63cbb175b0a56f9d04147f276186abb25b0", func := "replevin/replevinlaw26.AccessRuns", spec := "accessRuns", inPlace := ["internal/bytealg.IndexByteString", "internal/bytealg.IndexString"], unfollowed := true, recurses := true, named := ["replevin/access.shifts", "internal/bytealg.MaxLen"], apart := false, laid := [("replevin/access.shifts", laid_replevin_access_shifts)] }
def AccessRunsSaid : Prop := accessRunsRow.holds Tryd.pinned (OpenSpec.ofChange accessRunsSpec)

/-- ITS FALSE NEIGHBOUR: 'it returns false'. Refute it at one input. -/
def accessRunsWrong : ChangeSpec := { name := "accessRuns", fn := fun _ => fun
  | [d1, d2, d3] => { results := [.lit (.bool false)], args := [d1, d2, d3] }
  | _ => none }
def AccessRunsWrongFalsely : Prop := accessRunsRow.holds Tryd.pinned (OpenSpec.ofChange accessRunsWrong)

/-- 'replevinlaw26.AccessTexts': WHATEVER THE INPUT: true; the input reads as it did. -/
def accessTextsSpec : ChangeSpec := { name := "accessTexts", fn := fun _ => fun
  | [d] => { results := [.lit (.bool true)], args := [d] }
  | _ => none }
def accessTextsRow : OpenClaim := { program := "ytemcabepbncicaadoor", sum := "99bd6baf0bdc09fed09c708a492ca63cbb175b0a56f9d04147f276186abb25b0", func := "replevin/replevinlaw26.AccessTexts", spec := "accessTexts", inPlace := ["internal/bytealg.IndexByteString", "internal/bytealg.IndexString"], unfollowed := true, recurses := true, named := ["replevin/access.shifts", "internal/bytealg.MaxLen"], apart := false, laid := [("replevin/access.shifts", laid_replevin_access_shifts)] }
def AccessTextsSaid : Prop := accessTextsRow.holds Tryd.pinned (OpenSpec.ofChange accessTextsSpec)

/-- ITS FALSE NEIGHBOUR: 'it returns false'. Refute it at one input. -/
def accessTextsWrong : ChangeSpec := { name := "accessTexts", fn := fun _ => fun
  | [d] => { results := [.lit (.bool false)], args := [d] }
  | _ => none }
def AccessTextsWrongFalsely : Prop := accessTextsRow.holds Tryd.pinned (OpenSpec.ofChange accessTextsWrong)

/-- 'replevinlaw26.AccessParses': WHATEVER THE INPUT: true; the input reads as it did. -/
def accessParsesSpec : ChangeSpec := { name := "accessParses", fn := fun _ => fun
  | [d] => { results := [.lit (.bool true)], args := [d] }
  | _ => none }
def accessParsesRow : OpenClaim := { program := "ytemcabepbncicaadoor", sum := "99bd6baf0bdc09fed09c708a492ca63cbb175b0a56f9d04147f276186abb25b0", func := "replevin/replevinlaw26.AccessParses", spec := "accessParses", inPlace := ["internal/bytealg.IndexByteString", "internal/bytealg.IndexString"], unfollowed := true, recurses := true, named := ["replevin/access.shifts", "internal/bytealg.MaxLen"], apart := false, laid := [("replevin/access.shifts", laid_replevin_access_shifts)] }
def AccessParsesSaid : Prop := accessParsesRow.holds Tryd.pinned (OpenSpec.ofChange accessParsesSpec)

/-- ITS FALSE NEIGHBOUR: 'it returns false'. Refute it at one input. -/
def accessParsesWrong : ChangeSpec := { name := "accessParses", fn := fun _ => fun
  | [d] => { results := [.lit (.bool false)], args := [d] }
  | _ => none }
def AccessParsesWrongFalsely : Prop := accessParsesRow.holds Tryd.pinned (OpenSpec.ofChange accessParsesWrong)

/- THE SECOND FORM. 'bulk': how many values and letters a reading holds, each counted each time it is reached (what is shared counts as often as it is met; a slice's spare places count too). A statement '..UptoSaid' is the law's where the arguments, and the package variables that the reading takes, are together of bulk at most 1048576: NARROWER than '..Said'. Prove '..Said' where nothing that the law and all that it calls make is longer than what came in: it says more and counts as full. Else prove '..UptoSaid'. A law counts once. -/
mutual
def uptoBulk {H : Type} : DataW H → Nat
  | .lit (.string bytes) => bytes.length + 1
  | .lit _ => 1
  | .nil => 1
  | .ptr d => uptoBulk d + 1
  | .slice elems spare => uptoBulkAll elems + uptoBulkAll spare + 1
  | .agg parts => uptoBulkAll parts + 1
  | .iface _ d => uptoBulk d + 1
  | .map entries => uptoBulkEntries entries + 1
  | .held _ => 1
def uptoBulkAll {H : Type} : List (DataW H) → Nat
  | [] => 0
  | d :: r => uptoBulk d + uptoBulkAll r
def uptoBulkEntries {H : Type} : List (Lit × DataW H) → Nat
  | [] => 0
  | x :: r => uptoBulkEntry x + uptoBulkEntries r
def uptoBulkEntry {H : Type} : Lit × DataW H → Nat
  | (.string bytes, d) => bytes.length + uptoBulk d + 1
  | (_, d) => uptoBulk d + 1
 end
def uptoSmall : (H : Type) → List (DataW H) → Bool := fun _ ds => decide (uptoBulkAll ds ≤ 1048576)
def OpenSpec.upto (s : _root_.Go.ChangeSpec) : _root_.Go.OpenSpec := { _root_.Go.OpenSpec.ofChange s with cond := some uptoSmall }

/-- 'replevinlaw26.AccessRequires', WHERE WHAT IT READS IS OF BULK AT MOST 1048576: true; the input reads as it did. -/
def accessRequiresUptoRow : OpenClaim := { program := "ytemcabepbncicaadoor", sum := "99bd6baf0bdc09fed09c708a492ca63cbb175b0a56f9d04147f276186abb25b0", func := "replevin/replevinlaw26.AccessRequires", spec := "accessRequires", inPlace := ["internal/bytealg.IndexByteString", "internal/bytealg.IndexString"], unfollowed := true, recurses := true, named := ["replevin/access.shifts", "internal/bytealg.MaxLen"], apart := false, laid := [("replevin/access.shifts", laid_replevin_access_shifts)], narrowed := true }
def AccessRequiresUptoSaid : Prop := accessRequiresUptoRow.holds Tryd.pinned (OpenSpec.upto accessRequiresSpec)

/-- 'replevinlaw26.AccessParts', WHERE WHAT IT READS IS OF BULK AT MOST 1048576: true; the input reads as it did. -/
def accessPartsUptoRow : OpenClaim := { program := "ytemcabepbncicaadoor", sum := "99bd6baf0bdc09fed09c708a492ca63cbb175b0a56f9d04147f276186abb25b0", func := "replevin/replevinlaw26.AccessParts", spec := "accessParts", inPlace := ["internal/bytealg.IndexByteString", "internal/bytealg.IndexString"], unfollowed := true, recurses := true, named := ["replevin/access.shifts", "internal/bytealg.MaxLen"], apart := false, laid := [("replevin/access.shifts", laid_replevin_access_shifts)], narrowed := true }
def AccessPartsUptoSaid : Prop := accessPartsUptoRow.holds Tryd.pinned (OpenSpec.upto accessPartsSpec)

/-- 'replevinlaw26.AccessApplies', WHERE WHAT IT READS IS OF BULK AT MOST 1048576: true; the input reads as it did. -/
def accessAppliesUptoRow : OpenClaim := { program := "ytemcabepbncicaadoor", sum := "99bd6baf0bdc09fed09c708a492ca63cbb175b0a56f9d04147f276186abb25b0", func := "replevin/replevinlaw26.AccessApplies", spec := "accessApplies", inPlace := ["internal/bytealg.IndexByteString", "internal/bytealg.IndexString"], unfollowed := true, recurses := true, named := ["replevin/access.shifts", "internal/bytealg.MaxLen"], apart := false, laid := [("replevin/access.shifts", laid_replevin_access_shifts)], narrowed := true }
def AccessAppliesUptoSaid : Prop := accessAppliesUptoRow.holds Tryd.pinned (OpenSpec.upto accessAppliesSpec)

/-- 'replevinlaw26.AccessTwice', WHERE WHAT IT READS IS OF BULK AT MOST 1048576: true; the input reads as it did. -/
def accessTwiceUptoRow : OpenClaim := { program := "ytemcabepbncicaadoor", sum := "99bd6baf0bdc09fed09c708a492ca63cbb175b0a56f9d04147f276186abb25b0", func := "replevin/replevinlaw26.AccessTwice", spec := "accessTwice", inPlace := ["internal/bytealg.IndexByteString", "internal/bytealg.IndexString"], unfollowed := true, recurses := true, named := ["replevin/access.shifts", "internal/bytealg.MaxLen"], apart := false, laid := [("replevin/access.shifts", laid_replevin_access_shifts)], narrowed := true }
def AccessTwiceUptoSaid : Prop := accessTwiceUptoRow.holds Tryd.pinned (OpenSpec.upto accessTwiceSpec)

/-- 'replevinlaw26.AccessJoins', WHERE WHAT IT READS IS OF BULK AT MOST 1048576: true; the input reads as it did. -/
def accessJoinsUptoRow : OpenClaim := { program := "ytemcabepbncicaadoor", sum := "99bd6baf0bdc09fed09c708a492ca63cbb175b0a56f9d04147f276186abb25b0", func := "replevin/replevinlaw26.AccessJoins", spec := "accessJoins", inPlace := ["internal/bytealg.IndexByteString", "internal/bytealg.IndexString"], unfollowed := true, recurses := true, named := ["replevin/access.shifts", "internal/bytealg.MaxLen"], apart := false, laid := [("replevin/access.shifts", laid_replevin_access_shifts)], narrowed := true }
def AccessJoinsUptoSaid : Prop := accessJoinsUptoRow.holds Tryd.pinned (OpenSpec.upto accessJoinsSpec)

/-- 'replevinlaw26.AccessChanges', WHERE WHAT IT READS IS OF BULK AT MOST 1048576: true; the input reads as it did. -/
def accessChangesUptoRow : OpenClaim := { program := "ytemcabepbncicaadoor", sum := "99bd6baf0bdc09fed09c708a492ca63cbb175b0a56f9d04147f276186abb25b0", func := "replevin/replevinlaw26.AccessChanges", spec := "accessChanges", inPlace := ["internal/bytealg.IndexByteString", "internal/bytealg.IndexString"], unfollowed := true, recurses := true, named := ["replevin/access.shifts", "internal/bytealg.MaxLen"], apart := false, laid := [("replevin/access.shifts", laid_replevin_access_shifts)], narrowed := true }
def AccessChangesUptoSaid : Prop := accessChangesUptoRow.holds Tryd.pinned (OpenSpec.upto accessChangesSpec)

/-- 'replevinlaw26.AccessRuns', WHERE WHAT IT READS IS OF BULK AT MOST 1048576: true; the input reads as it did. -/
def accessRunsUptoRow : OpenClaim := { program := "ytemcabepbncicaadoor", sum := "99bd6baf0bdc09fed09c708a492ca63cbb175b0a56f9d04147f276186abb25b0", func := "replevin/replevinlaw26.AccessRuns", spec := "accessRuns", inPlace := ["internal/bytealg.IndexByteString", "internal/bytealg.IndexString"], unfollowed := true, recurses := true, named := ["replevin/access.shifts", "internal/bytealg.MaxLen"], apart := false, laid := [("replevin/access.shifts", laid_replevin_access_shifts)], narrowed := true }
def AccessRunsUptoSaid : Prop := accessRunsUptoRow.holds Tryd.pinned (OpenSpec.upto accessRunsSpec)

/-- 'replevinlaw26.AccessTexts', WHERE WHAT IT READS IS OF BULK AT MOST 1048576: true; the input reads as it did. -/
def accessTextsUptoRow : OpenClaim := { program := "ytemcabepbncicaadoor", sum := "99bd6baf0bdc09fed09c708a492ca63cbb175b0a56f9d04147f276186abb25b0", func := "replevin/replevinlaw26.AccessTexts", spec := "accessTexts", inPlace := ["internal/bytealg.IndexByteString", "internal/bytealg.IndexString"], unfollowed := true, recurses := true, named := ["replevin/access.shifts", "internal/bytealg.MaxLen"], apart := false, laid := [("replevin/access.shifts", laid_replevin_access_shifts)], narrowed := true }
def AccessTextsUptoSaid : Prop := accessTextsUptoRow.holds Tryd.pinned (OpenSpec.upto accessTextsSpec)

/-- 'replevinlaw26.AccessParses', WHERE WHAT IT READS IS OF BULK AT MOST 1048576: true; the input reads as it did. -/
def accessParsesUptoRow : OpenClaim := { program := "ytemcabepbncicaadoor", sum := "99bd6baf0bdc09fed09c708a492ca63cbb175b0a56f9d04147f276186abb25b0", func := "replevin/replevinlaw26.AccessParses", spec := "accessParses", inPlace := ["internal/bytealg.IndexByteString", "internal/bytealg.IndexString"], unfollowed := true, recurses := true, named := ["replevin/access.shifts", "internal/bytealg.MaxLen"], apart := false, laid := [("replevin/access.shifts", laid_replevin_access_shifts)], narrowed := true }
def AccessParsesUptoSaid : Prop := accessParsesUptoRow.holds Tryd.pinned (OpenSpec.upto accessParsesSpec)

end Rows
end Go.Proofs.YtemcabepbncicaaDoor
