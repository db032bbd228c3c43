/-
  DERIVED. GIVEN WITH THE SEED: THE CARDS: each row of YtemcabepbncicaaDoorRows.lean that lists a variable, with what it lists TIED to the program's text (the seventh form; the later family's looks); each row that meets fmt, with fmt's text TOLD by the authors' own Lean function (tested against real Go, not proved from fmt's source: count such statements apart). THE CARD IS WHAT COUNTS. Prove the row's statement (the work); the ties are given (YtemcabepbncicaaDoorTie.lean); close each card by the builder's one call (the guide's Derived/Test/ToyasCard.lean, 'card_holds'). Laid BY PROGRAM, IN A SANDBOX (cutbox-door.mjs). By AI agents, Wed Nov 11 2026. No macro, syntax, notation, axiom, sorry.
-/
import Derived.Test.YtemcabepbncicaaDoorRows
import GoSem.ClaimSeven
namespace Go.Proofs.YtemcabepbncicaaDoor
namespace Rows

/-- THE TIED CARD OF 'replevinlaw26.AccessRequires'. -/
def accessRequiresCard : Claim7 := { stood := { row := accessRequiresRow, standIns := [], harness := (true, "6ad294eee486767d322b392eb08570443fc9ba3febbfdf5f1a96293f51bfbc69"), looks := false }, kinds := [], alts := [], laidByText := true, laidKinds := [.data], laidTests := true, laidLooks := .later }
def AccessRequiresCardSaid : Prop := Claim7.holds Tryd.pinned (.plain (OpenSpec.ofChange accessRequiresSpec)) accessRequiresCard

/-- THE TIED CARD OF 'replevinlaw26.AccessParts'. -/
def accessPartsCard : Claim7 := { stood := { row := accessPartsRow, standIns := [], harness := (true, "6ad294eee486767d322b392eb08570443fc9ba3febbfdf5f1a96293f51bfbc69"), looks := false }, kinds := [], alts := [], laidByText := true, laidKinds := [.data], laidTests := true, laidLooks := .later }
def AccessPartsCardSaid : Prop := Claim7.holds Tryd.pinned (.plain (OpenSpec.ofChange accessPartsSpec)) accessPartsCard

/-- THE TIED CARD OF 'replevinlaw26.AccessApplies'. -/
def accessAppliesCard : Claim7 := { stood := { row := accessAppliesRow, standIns := [], harness := (true, "6ad294eee486767d322b392eb08570443fc9ba3febbfdf5f1a96293f51bfbc69"), looks := false }, kinds := [], alts := [], laidByText := true, laidKinds := [.data], laidTests := true, laidLooks := .later }
def AccessAppliesCardSaid : Prop := Claim7.holds Tryd.pinned (.plain (OpenSpec.ofChange accessAppliesSpec)) accessAppliesCard

/-- THE TIED CARD OF 'replevinlaw26.AccessTwice'. -/
def accessTwiceCard : Claim7 := { stood := { row := accessTwiceRow, standIns := [], harness := (true, "6ad294eee486767d322b392eb08570443fc9ba3febbfdf5f1a96293f51bfbc69"), looks := false }, kinds := [], alts := [], laidByText := true, laidKinds := [.data], laidTests := true, laidLooks := .later }
def AccessTwiceCardSaid : Prop := Claim7.holds Tryd.pinned (.plain (OpenSpec.ofChange accessTwiceSpec)) accessTwiceCard

/-- THE TIED CARD OF 'replevinlaw26.AccessJoins'. -/
def accessJoinsCard : Claim7 := { stood := { row := accessJoinsRow, standIns := [], harness := (true, "6ad294eee486767d322b392eb08570443fc9ba3febbfdf5f1a96293f51bfbc69"), looks := false }, kinds := [], alts := [], laidByText := true, laidKinds := [.data], laidTests := true, laidLooks := .later }
def AccessJoinsCardSaid : Prop := Claim7.holds Tryd.pinned (.plain (OpenSpec.ofChange accessJoinsSpec)) accessJoinsCard

/-- THE TIED CARD OF 'replevinlaw26.AccessChanges'. -/
def accessChangesCard : Claim7 := { stood := { row := accessChangesRow, standIns := [], harness := (true, "6ad294eee486767d322b392eb08570443fc9ba3febbfdf5f1a96293f51bfbc69"), looks := false }, kinds := [], alts := [], laidByText := true, laidKinds := [.data], laidTests := true, laidLooks := .later }
def AccessChangesCardSaid : Prop := Claim7.holds Tryd.pinned (.plain (OpenSpec.ofChange accessChangesSpec)) accessChangesCard

/-- THE TIED CARD OF 'replevinlaw26.AccessRuns'. -/
def accessRunsCard : Claim7 := { stood := { row := accessRunsRow, standIns := [], harness := (true, "6ad294eee486767d322b392eb08570443fc9ba3febbfdf5f1a96293f51bfbc69"), looks := false }, kinds := [], alts := [], laidByText := true, laidKinds := [.data], laidTests := true, laidLooks := .later }
def AccessRunsCardSaid : Prop := Claim7.holds Tryd.pinned (.plain (OpenSpec.ofChange accessRunsSpec)) accessRunsCard

/-- THE TIED CARD OF 'replevinlaw26.AccessTexts'. -/
def accessTextsCard : Claim7 := { stood := { row := accessTextsRow, standIns := [], harness := (true, "6ad294eee486767d322b392eb08570443fc9ba3febbfdf5f1a96293f51bfbc69"), looks := false }, kinds := [], alts := [], laidByText := true, laidKinds := [.data], laidTests := true, laidLooks := .later }
def AccessTextsCardSaid : Prop := Claim7.holds Tryd.pinned (.plain (OpenSpec.ofChange accessTextsSpec)) accessTextsCard

/-- THE TIED CARD OF 'replevinlaw26.AccessParses'. -/
def accessParsesCard : Claim7 := { stood := { row := accessParsesRow, standIns := [], harness := (true, "6ad294eee486767d322b392eb08570443fc9ba3febbfdf5f1a96293f51bfbc69"), looks := false }, kinds := [], alts := [], laidByText := true, laidKinds := [.data], laidTests := true, laidLooks := .later }
def AccessParsesCardSaid : Prop := Claim7.holds Tryd.pinned (.plain (OpenSpec.ofChange accessParsesSpec)) accessParsesCard

/-- THE SECOND FORM's CARD OF 'replevinlaw26.AccessRequires'. -/
def accessRequiresUptoCard : Claim7 := { stood := { row := accessRequiresUptoRow, standIns := [], harness := (true, "6ad294eee486767d322b392eb08570443fc9ba3febbfdf5f1a96293f51bfbc69"), looks := false }, kinds := [], alts := [], laidByText := true, laidKinds := [.data], laidTests := true, laidLooks := .later }
def AccessRequiresUptoCardSaid : Prop := Claim7.holds Tryd.pinned (.plain (OpenSpec.upto accessRequiresSpec)) accessRequiresUptoCard

/-- THE SECOND FORM's CARD OF 'replevinlaw26.AccessParts'. -/
def accessPartsUptoCard : Claim7 := { stood := { row := accessPartsUptoRow, standIns := [], harness := (true, "6ad294eee486767d322b392eb08570443fc9ba3febbfdf5f1a96293f51bfbc69"), looks := false }, kinds := [], alts := [], laidByText := true, laidKinds := [.data], laidTests := true, laidLooks := .later }
def AccessPartsUptoCardSaid : Prop := Claim7.holds Tryd.pinned (.plain (OpenSpec.upto accessPartsSpec)) accessPartsUptoCard

/-- THE SECOND FORM's CARD OF 'replevinlaw26.AccessApplies'. -/
def accessAppliesUptoCard : Claim7 := { stood := { row := accessAppliesUptoRow, standIns := [], harness := (true, "6ad294eee486767d322b392eb08570443fc9ba3febbfdf5f1a96293f51bfbc69"), looks := false }, kinds := [], alts := [], laidByText := true, laidKinds := [.data], laidTests := true, laidLooks := .later }
def AccessAppliesUptoCardSaid : Prop := Claim7.holds Tryd.pinned (.plain (OpenSpec.upto accessAppliesSpec)) accessAppliesUptoCard

/-- THE SECOND FORM's CARD OF 'replevinlaw26.AccessTwice'. -/
def accessTwiceUptoCard : Claim7 := { stood := { row := accessTwiceUptoRow, standIns := [], harness := (true, "6ad294eee486767d322b392eb08570443fc9ba3febbfdf5f1a96293f51bfbc69"), looks := false }, kinds := [], alts := [], laidByText := true, laidKinds := [.data], laidTests := true, laidLooks := .later }
def AccessTwiceUptoCardSaid : Prop := Claim7.holds Tryd.pinned (.plain (OpenSpec.upto accessTwiceSpec)) accessTwiceUptoCard

/-- THE SECOND FORM's CARD OF 'replevinlaw26.AccessJoins'. -/
def accessJoinsUptoCard : Claim7 := { stood := { row := accessJoinsUptoRow, standIns := [], harness := (true, "6ad294eee486767d322b392eb08570443fc9ba3febbfdf5f1a96293f51bfbc69"), looks := false }, kinds := [], alts := [], laidByText := true, laidKinds := [.data], laidTests := true, laidLooks := .later }
def AccessJoinsUptoCardSaid : Prop := Claim7.holds Tryd.pinned (.plain (OpenSpec.upto accessJoinsSpec)) accessJoinsUptoCard

/-- THE SECOND FORM's CARD OF 'replevinlaw26.AccessChanges'. -/
def accessChangesUptoCard : Claim7 := { stood := { row := accessChangesUptoRow, standIns := [], harness := (true, "6ad294eee486767d322b392eb08570443fc9ba3febbfdf5f1a96293f51bfbc69"), looks := false }, kinds := [], alts := [], laidByText := true, laidKinds := [.data], laidTests := true, laidLooks := .later }
def AccessChangesUptoCardSaid : Prop := Claim7.holds Tryd.pinned (.plain (OpenSpec.upto accessChangesSpec)) accessChangesUptoCard

/-- THE SECOND FORM's CARD OF 'replevinlaw26.AccessRuns'. -/
def accessRunsUptoCard : Claim7 := { stood := { row := accessRunsUptoRow, standIns := [], harness := (true, "6ad294eee486767d322b392eb08570443fc9ba3febbfdf5f1a96293f51bfbc69"), looks := false }, kinds := [], alts := [], laidByText := true, laidKinds := [.data], laidTests := true, laidLooks := .later }
def AccessRunsUptoCardSaid : Prop := Claim7.holds Tryd.pinned (.plain (OpenSpec.upto accessRunsSpec)) accessRunsUptoCard

/-- THE SECOND FORM's CARD OF 'replevinlaw26.AccessTexts'. -/
def accessTextsUptoCard : Claim7 := { stood := { row := accessTextsUptoRow, standIns := [], harness := (true, "6ad294eee486767d322b392eb08570443fc9ba3febbfdf5f1a96293f51bfbc69"), looks := false }, kinds := [], alts := [], laidByText := true, laidKinds := [.data], laidTests := true, laidLooks := .later }
def AccessTextsUptoCardSaid : Prop := Claim7.holds Tryd.pinned (.plain (OpenSpec.upto accessTextsSpec)) accessTextsUptoCard

/-- THE SECOND FORM's CARD OF 'replevinlaw26.AccessParses'. -/
def accessParsesUptoCard : Claim7 := { stood := { row := accessParsesUptoRow, standIns := [], harness := (true, "6ad294eee486767d322b392eb08570443fc9ba3febbfdf5f1a96293f51bfbc69"), looks := false }, kinds := [], alts := [], laidByText := true, laidKinds := [.data], laidTests := true, laidLooks := .later }
def AccessParsesUptoCardSaid : Prop := Claim7.holds Tryd.pinned (.plain (OpenSpec.upto accessParsesSpec)) accessParsesUptoCard
end Rows
end Go.Proofs.YtemcabepbncicaaDoor
