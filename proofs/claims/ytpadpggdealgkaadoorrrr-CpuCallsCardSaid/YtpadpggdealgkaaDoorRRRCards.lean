/-
  DERIVED. GIVEN WITH THE SEED: THE CARDS: each row of YtpadpggdealgkaaDoorRRRRows.lean that lists a variable, with what it lists TIED to the program's text (the seventh form; the later family's looks); each row that meets fmt, with fmt's text TOLD by the authors' own Lean function (tested against real Go, not proved from fmt's source: count such statements apart). THE CARD IS WHAT COUNTS. Prove the row's statement (the work); the ties are given (YtpadpggdealgkaaDoorRRRTie.lean); close each card by the builder's one call (the guide's Derived/Test/ToyasCard.lean, 'card_holds'). Laid BY PROGRAM, IN A SANDBOX (cutbox-door.mjs). By AI agents, Wed Nov 11 2026. No macro, syntax, notation, axiom, sorry.
-/
import Derived.Test.YtpadpggdealgkaaDoorRRRRows
import GoSem.ClaimSeven
namespace Go.Proofs.YtpadpggdealgkaaDoorRRR
namespace Rows

/-- THE TIED CARD OF 'replevinlaw19.CpuCalls'. -/
def cpuCallsCard : Claim7 := { stood := { row := cpuCallsRow, standIns := [], harness := (true, "1d69dd58014068f03231795b5b162a528b69e00257c6b7868338846ebc07269c"), looks := false }, kinds := [], alts := [], laidByText := true, laidKinds := [.data], laidTests := true, laidLooks := .later }
def CpuCallsCardSaid : Prop := Claim7.holds Tryd.pinned (.plain (OpenSpec.ofChange cpuCallsSpec)) cpuCallsCard

/-- THE TIED CARD OF 'replevinlaw19.CpuErrors'. -/
def cpuErrorsCard : Claim7 := { stood := { row := cpuErrorsRow, standIns := [], harness := (true, "1d69dd58014068f03231795b5b162a528b69e00257c6b7868338846ebc07269c"), looks := false }, kinds := [], alts := [], laidByText := true, laidKinds := [.data], laidTests := true, laidLooks := .later }
def CpuErrorsCardSaid : Prop := Claim7.holds Tryd.pinned (.plain (OpenSpec.ofChange cpuErrorsSpec)) cpuErrorsCard

/-- THE TIED CARD OF 'replevinlaw19.CpuPages'. -/
def cpuPagesCard : Claim7 := { stood := { row := cpuPagesRow, standIns := [], harness := (true, "1d69dd58014068f03231795b5b162a528b69e00257c6b7868338846ebc07269c"), looks := false }, kinds := [], alts := [], laidByText := true, laidKinds := [.data], laidTests := true, laidLooks := .later }
def CpuPagesCardSaid : Prop := Claim7.holds Tryd.pinned (.plain (OpenSpec.ofChange cpuPagesSpec)) cpuPagesCard

/-- THE TIED CARD OF 'replevinlaw19.CpuBudgets'. -/
def cpuBudgetsCard : Claim7 := { stood := { row := cpuBudgetsRow, standIns := [], harness := (true, "1d69dd58014068f03231795b5b162a528b69e00257c6b7868338846ebc07269c"), looks := false }, kinds := [], alts := [], laidByText := true, laidKinds := [.data], laidTests := true, laidLooks := .later }
def CpuBudgetsCardSaid : Prop := Claim7.holds Tryd.pinned (.plain (OpenSpec.ofChange cpuBudgetsSpec)) cpuBudgetsCard

/-- THE TIED CARD OF 'replevinlaw19.CpuDecodes'. -/
def cpuDecodesCard : Claim7 := { stood := { row := cpuDecodesRow, standIns := [], harness := (true, "1d69dd58014068f03231795b5b162a528b69e00257c6b7868338846ebc07269c"), looks := false }, kinds := [], alts := [], laidByText := true, laidKinds := [.data], laidTests := true, laidLooks := .later }
def CpuDecodesCardSaid : Prop := Claim7.holds Tryd.pinned (.plain (OpenSpec.ofChange cpuDecodesSpec)) cpuDecodesCard

/-- THE TIED CARD OF 'replevinlaw19.CpuRegisters'. -/
def cpuRegistersCard : Claim7 := { stood := { row := cpuRegistersRow, standIns := [], harness := (true, "1d69dd58014068f03231795b5b162a528b69e00257c6b7868338846ebc07269c"), looks := false }, kinds := [], alts := [], laidByText := true, laidKinds := [.data], laidTests := true, laidLooks := .later }
def CpuRegistersCardSaid : Prop := Claim7.holds Tryd.pinned (.plain (OpenSpec.ofChange cpuRegistersSpec)) cpuRegistersCard

/-- THE SECOND FORM's CARD OF 'replevinlaw19.CpuCalls'. -/
def cpuCallsUptoCard : Claim7 := { stood := { row := cpuCallsUptoRow, standIns := [], harness := (true, "1d69dd58014068f03231795b5b162a528b69e00257c6b7868338846ebc07269c"), looks := false }, kinds := [], alts := [], laidByText := true, laidKinds := [.data], laidTests := true, laidLooks := .later }
def CpuCallsUptoCardSaid : Prop := Claim7.holds Tryd.pinned (.plain (OpenSpec.upto cpuCallsSpec)) cpuCallsUptoCard

/-- THE SECOND FORM's CARD OF 'replevinlaw19.CpuErrors'. -/
def cpuErrorsUptoCard : Claim7 := { stood := { row := cpuErrorsUptoRow, standIns := [], harness := (true, "1d69dd58014068f03231795b5b162a528b69e00257c6b7868338846ebc07269c"), looks := false }, kinds := [], alts := [], laidByText := true, laidKinds := [.data], laidTests := true, laidLooks := .later }
def CpuErrorsUptoCardSaid : Prop := Claim7.holds Tryd.pinned (.plain (OpenSpec.upto cpuErrorsSpec)) cpuErrorsUptoCard

/-- THE SECOND FORM's CARD OF 'replevinlaw19.CpuPages'. -/
def cpuPagesUptoCard : Claim7 := { stood := { row := cpuPagesUptoRow, standIns := [], harness := (true, "1d69dd58014068f03231795b5b162a528b69e00257c6b7868338846ebc07269c"), looks := false }, kinds := [], alts := [], laidByText := true, laidKinds := [.data], laidTests := true, laidLooks := .later }
def CpuPagesUptoCardSaid : Prop := Claim7.holds Tryd.pinned (.plain (OpenSpec.upto cpuPagesSpec)) cpuPagesUptoCard

/-- THE SECOND FORM's CARD OF 'replevinlaw19.CpuBudgets'. -/
def cpuBudgetsUptoCard : Claim7 := { stood := { row := cpuBudgetsUptoRow, standIns := [], harness := (true, "1d69dd58014068f03231795b5b162a528b69e00257c6b7868338846ebc07269c"), looks := false }, kinds := [], alts := [], laidByText := true, laidKinds := [.data], laidTests := true, laidLooks := .later }
def CpuBudgetsUptoCardSaid : Prop := Claim7.holds Tryd.pinned (.plain (OpenSpec.upto cpuBudgetsSpec)) cpuBudgetsUptoCard

/-- THE SECOND FORM's CARD OF 'replevinlaw19.CpuDecodes'. -/
def cpuDecodesUptoCard : Claim7 := { stood := { row := cpuDecodesUptoRow, standIns := [], harness := (true, "1d69dd58014068f03231795b5b162a528b69e00257c6b7868338846ebc07269c"), looks := false }, kinds := [], alts := [], laidByText := true, laidKinds := [.data], laidTests := true, laidLooks := .later }
def CpuDecodesUptoCardSaid : Prop := Claim7.holds Tryd.pinned (.plain (OpenSpec.upto cpuDecodesSpec)) cpuDecodesUptoCard

/-- THE SECOND FORM's CARD OF 'replevinlaw19.CpuRegisters'. -/
def cpuRegistersUptoCard : Claim7 := { stood := { row := cpuRegistersUptoRow, standIns := [], harness := (true, "1d69dd58014068f03231795b5b162a528b69e00257c6b7868338846ebc07269c"), looks := false }, kinds := [], alts := [], laidByText := true, laidKinds := [.data], laidTests := true, laidLooks := .later }
def CpuRegistersUptoCardSaid : Prop := Claim7.holds Tryd.pinned (.plain (OpenSpec.upto cpuRegistersSpec)) cpuRegistersUptoCard
end Rows
end Go.Proofs.YtpadpggdealgkaaDoorRRR
