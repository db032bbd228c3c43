/-
  NARROWER THAN 'FOR EVERY INPUT', by the rows' own cells (each row's printed sentence says how): CpuCalls: laid · CpuErrors: laid · CpuPages: laid · CpuBudgets: laid · CpuDecodes: laid · CpuRegisters: laid.
  DERIVED. THE GIVEN ROWS OF THIS SEAT. 6 by the template 'for every input the law returns true; each argument reads behind the call as it read before'; 0 by the template 'total and deterministic' (their statements: YtpadpggdealgkaaDoorRRRTotals.lean).
  GIVEN WITH THE SEED: the statements are not yours to turn. If you find one false, say at which input.
  Laid BY PROGRAM, IN A SANDBOX (cutbox-rows.mjs): the forced cells as the released guide's own fill.sh prints them over the translation deb9037c6fc11c3b… (all of the seat's roots in one cut). By AI agents, Wed Nov 11 2026. No macro, syntax, notation, axiom, sorry.
-/
import Derived.Test.YtpadpggdealgkaaDoorRRRChecked
import GoSem.Claim
import GoSem.ClaimJoined
import GoSem.ClaimMapViews
import Derived.JoinedTies
import Derived.KernelRfl
namespace Go.Proofs.YtpadpggdealgkaaDoorRRR
/- THE CELL 'sum', in the pinned program and in every row, IS THE sha256 OF THE DUMP (.gsa) THAT YtpadpggdealgkaaDoorRRRProg.lean LOADS. Nothing in Lean hashes anything: it is a label: what it is worth is what the hold of that sum in a sandbox is worth. -/
noncomputable def Tryd.pinned : Pinned := { name := "ytpadpggdealgkaadoorrrr", sum := "deb9037c6fc11c3b7f15a883ae4640f4809e078fc1149afaf647c71b818381d7", checked := Tryd.checked }
namespace Rows
def none {H : Type} : Left H := { results := [], args := [] }

/- WHAT THE LISTED PACKAGE-LEVEL VARIABLES READ AS WHEN THE CALL BEGINS. Each datum BY PROGRAM (the guide's laid-datum.mjs) off the statement by which the dump's own 'gosem.cut.vars' lays the variable. In a bare row this is a premise. The card (YtpadpggdealgkaaDoorRRRCards.lean) ties it to the program's text. -/
def laid_replevin_instr_operations {H : Type} : DataW H := .agg [.agg [.lit (.string [104, 97, 108, 116]), .lit (.int .i64 0), .lit (.int .i64 0), .lit (.int .i64 0), .lit (.bool false), .lit (.bool false)], .agg [.lit (.string [109, 111, 118, 101]), .lit (.int .i64 2), .lit (.int .i64 0), .lit (.int .i64 0), .lit (.bool false), .lit (.bool true)], .agg [.lit (.string [115, 101, 116]), .lit (.int .i64 4), .lit (.int .i64 (-32768)), .lit (.int .i64 32767), .lit (.bool false), .lit (.bool true)], .agg [.lit (.string [104, 105, 103, 104]), .lit (.int .i64 4), .lit (.int .i64 0), .lit (.int .i64 65535), .lit (.bool true), .lit (.bool true)], .agg [.lit (.string [97, 100, 100]), .lit (.int .i64 3), .lit (.int .i64 0), .lit (.int .i64 0), .lit (.bool false), .lit (.bool true)], .agg [.lit (.string [115, 117, 98]), .lit (.int .i64 3), .lit (.int .i64 0), .lit (.int .i64 0), .lit (.bool false), .lit (.bool true)], .agg [.lit (.string [109, 117, 108]), .lit (.int .i64 3), .lit (.int .i64 0), .lit (.int .i64 0), .lit (.bool false), .lit (.bool true)], .agg [.lit (.string [100, 105, 118]), .lit (.int .i64 3), .lit (.int .i64 0), .lit (.int .i64 0), .lit (.bool false), .lit (.bool true)], .agg [.lit (.string [109, 111, 100]), .lit (.int .i64 3), .lit (.int .i64 0), .lit (.int .i64 0), .lit (.bool false), .lit (.bool true)], .agg [.lit (.string [97, 110, 100]), .lit (.int .i64 3), .lit (.int .i64 0), .lit (.int .i64 0), .lit (.bool false), .lit (.bool true)], .agg [.lit (.string [111, 114]), .lit (.int .i64 3), .lit (.int .i64 0), .lit (.int .i64 0), .lit (.bool false), .lit (.bool true)], .agg [.lit (.string [120, 111, 114]), .lit (.int .i64 3), .lit (.int .i64 0), .lit (.int .i64 0), .lit (.bool false), .lit (.bool true)], .agg [.lit (.string [115, 104, 108]), .lit (.int .i64 3), .lit (.int .i64 0), .lit (.int .i64 0), .lit (.bool false), .lit (.bool true)], .agg [.lit (.string [115, 104, 114]), .lit (.int .i64 3), .lit (.int .i64 0), .lit (.int .i64 0), .lit (.bool false), .lit (.bool true)], .agg [.lit (.string [108, 101, 115, 115]), .lit (.int .i64 3), .lit (.int .i64 0), .lit (.int .i64 0), .lit (.bool false), .lit (.bool true)], .agg [.lit (.string [101, 113, 117, 97, 108]), .lit (.int .i64 3), .lit (.int .i64 0), .lit (.int .i64 0), .lit (.bool false), .lit (.bool true)], .agg [.lit (.string [97, 100, 100, 105]), .lit (.int .i64 5), .lit (.int .i64 (-32768)), .lit (.int .i64 32767), .lit (.bool false), .lit (.bool true)], .agg [.lit (.string [108, 111, 97, 100]), .lit (.int .i64 5), .lit (.int .i64 (-32768)), .lit (.int .i64 32767), .lit (.bool false), .lit (.bool true)], .agg [.lit (.string [115, 116, 111, 114, 101]), .lit (.int .i64 5), .lit (.int .i64 (-32768)), .lit (.int .i64 32767), .lit (.bool true), .lit (.bool false)], .agg [.lit (.string [108, 111, 97, 100, 98]), .lit (.int .i64 5), .lit (.int .i64 (-32768)), .lit (.int .i64 32767), .lit (.bool false), .lit (.bool true)], .agg [.lit (.string [115, 116, 111, 114, 101, 98]), .lit (.int .i64 5), .lit (.int .i64 (-32768)), .lit (.int .i64 32767), .lit (.bool true), .lit (.bool false)], .agg [.lit (.string [106, 117, 109, 112]), .lit (.int .i64 6), .lit (.int .i64 0), .lit (.int .i64 4095), .lit (.bool false), .lit (.bool false)], .agg [.lit (.string [106, 117, 109, 112, 122]), .lit (.int .i64 4), .lit (.int .i64 0), .lit (.int .i64 4095), .lit (.bool true), .lit (.bool false)], .agg [.lit (.string [106, 117, 109, 112, 110, 122]), .lit (.int .i64 4), .lit (.int .i64 0), .lit (.int .i64 4095), .lit (.bool true), .lit (.bool false)], .agg [.lit (.string [99, 97, 108, 108]), .lit (.int .i64 4), .lit (.int .i64 0), .lit (.int .i64 4095), .lit (.bool false), .lit (.bool true)], .agg [.lit (.string [98, 97, 99, 107]), .lit (.int .i64 1), .lit (.int .i64 0), .lit (.int .i64 0), .lit (.bool true), .lit (.bool false)], .agg [.lit (.string [116, 114, 97, 112]), .lit (.int .i64 6), .lit (.int .i64 0), .lit (.int .i64 255), .lit (.bool false), .lit (.bool false)]]

/-- 'replevinlaw19.CpuCalls': WHATEVER THE INPUT: true; the input reads as it did. -/
def cpuCallsSpec : ChangeSpec := { name := "cpuCalls", fn := fun _ => fun
  | [d1, d2, d3] => { results := [.lit (.bool true)], args := [d1, d2, d3] }
  | _ => none }
def cpuCallsRow : OpenClaim := { program := "ytpadpggdealgkaadoorrrr", sum := "deb9037c6fc11c3b7f15a883ae4640f4809e078fc1149afaf647c71b818381d7", func := "replevin/replevinlaw19.CpuCalls", spec := "cpuCalls", unfollowed := true, recurses := true, named := ["replevin/instr.operations"], apart := false, laid := [("replevin/instr.operations", laid_replevin_instr_operations)] }
def CpuCallsSaid : Prop := cpuCallsRow.holds Tryd.pinned (OpenSpec.ofChange cpuCallsSpec)

/-- ITS FALSE NEIGHBOUR: 'it returns false'. Refute it at one input. -/
def cpuCallsWrong : ChangeSpec := { name := "cpuCalls", fn := fun _ => fun
  | [d1, d2, d3] => { results := [.lit (.bool false)], args := [d1, d2, d3] }
  | _ => none }
def CpuCallsWrongFalsely : Prop := cpuCallsRow.holds Tryd.pinned (OpenSpec.ofChange cpuCallsWrong)

/-- 'replevinlaw19.CpuErrors': WHATEVER THE INPUT: true; the input reads as it did. -/
def cpuErrorsSpec : ChangeSpec := { name := "cpuErrors", fn := fun _ => fun
  | [d1, d2] => { results := [.lit (.bool true)], args := [d1, d2] }
  | _ => none }
def cpuErrorsRow : OpenClaim := { program := "ytpadpggdealgkaadoorrrr", sum := "deb9037c6fc11c3b7f15a883ae4640f4809e078fc1149afaf647c71b818381d7", func := "replevin/replevinlaw19.CpuErrors", spec := "cpuErrors", unfollowed := true, recurses := true, named := ["replevin/instr.operations"], apart := false, laid := [("replevin/instr.operations", laid_replevin_instr_operations)] }
def CpuErrorsSaid : Prop := cpuErrorsRow.holds Tryd.pinned (OpenSpec.ofChange cpuErrorsSpec)

/-- ITS FALSE NEIGHBOUR: 'it returns false'. Refute it at one input. -/
def cpuErrorsWrong : ChangeSpec := { name := "cpuErrors", fn := fun _ => fun
  | [d1, d2] => { results := [.lit (.bool false)], args := [d1, d2] }
  | _ => none }
def CpuErrorsWrongFalsely : Prop := cpuErrorsRow.holds Tryd.pinned (OpenSpec.ofChange cpuErrorsWrong)

/-- 'replevinlaw19.CpuPages': WHATEVER THE INPUT: true; the input reads as it did. -/
def cpuPagesSpec : ChangeSpec := { name := "cpuPages", fn := fun _ => fun
  | [d1, d2] => { results := [.lit (.bool true)], args := [d1, d2] }
  | _ => none }
def cpuPagesRow : OpenClaim := { program := "ytpadpggdealgkaadoorrrr", sum := "deb9037c6fc11c3b7f15a883ae4640f4809e078fc1149afaf647c71b818381d7", func := "replevin/replevinlaw19.CpuPages", spec := "cpuPages", unfollowed := true, recurses := true, named := ["replevin/instr.operations"], apart := false, laid := [("replevin/instr.operations", laid_replevin_instr_operations)] }
def CpuPagesSaid : Prop := cpuPagesRow.holds Tryd.pinned (OpenSpec.ofChange cpuPagesSpec)

/-- ITS FALSE NEIGHBOUR: 'it returns false'. Refute it at one input. -/
def cpuPagesWrong : ChangeSpec := { name := "cpuPages", fn := fun _ => fun
  | [d1, d2] => { results := [.lit (.bool false)], args := [d1, d2] }
  | _ => none }
def CpuPagesWrongFalsely : Prop := cpuPagesRow.holds Tryd.pinned (OpenSpec.ofChange cpuPagesWrong)

/-- 'replevinlaw19.CpuBudgets': WHATEVER THE INPUT: true; the input reads as it did. -/
def cpuBudgetsSpec : ChangeSpec := { name := "cpuBudgets", fn := fun _ => fun
  | [d1, d2, d3] => { results := [.lit (.bool true)], args := [d1, d2, d3] }
  | _ => none }
def cpuBudgetsRow : OpenClaim := { program := "ytpadpggdealgkaadoorrrr", sum := "deb9037c6fc11c3b7f15a883ae4640f4809e078fc1149afaf647c71b818381d7", func := "replevin/replevinlaw19.CpuBudgets", spec := "cpuBudgets", unfollowed := true, recurses := true, named := ["replevin/instr.operations"], apart := false, laid := [("replevin/instr.operations", laid_replevin_instr_operations)] }
def CpuBudgetsSaid : Prop := cpuBudgetsRow.holds Tryd.pinned (OpenSpec.ofChange cpuBudgetsSpec)

/-- ITS FALSE NEIGHBOUR: 'it returns false'. Refute it at one input. -/
def cpuBudgetsWrong : ChangeSpec := { name := "cpuBudgets", fn := fun _ => fun
  | [d1, d2, d3] => { results := [.lit (.bool false)], args := [d1, d2, d3] }
  | _ => none }
def CpuBudgetsWrongFalsely : Prop := cpuBudgetsRow.holds Tryd.pinned (OpenSpec.ofChange cpuBudgetsWrong)

/-- 'replevinlaw19.CpuDecodes': WHATEVER THE INPUT: true; the input reads as it did. -/
def cpuDecodesSpec : ChangeSpec := { name := "cpuDecodes", fn := fun _ => fun
  | [d] => { results := [.lit (.bool true)], args := [d] }
  | _ => none }
def cpuDecodesRow : OpenClaim := { program := "ytpadpggdealgkaadoorrrr", sum := "deb9037c6fc11c3b7f15a883ae4640f4809e078fc1149afaf647c71b818381d7", func := "replevin/replevinlaw19.CpuDecodes", spec := "cpuDecodes", unfollowed := true, recurses := true, named := ["replevin/instr.operations"], apart := false, laid := [("replevin/instr.operations", laid_replevin_instr_operations)] }
def CpuDecodesSaid : Prop := cpuDecodesRow.holds Tryd.pinned (OpenSpec.ofChange cpuDecodesSpec)

/-- ITS FALSE NEIGHBOUR: 'it returns false'. Refute it at one input. -/
def cpuDecodesWrong : ChangeSpec := { name := "cpuDecodes", fn := fun _ => fun
  | [d] => { results := [.lit (.bool false)], args := [d] }
  | _ => none }
def CpuDecodesWrongFalsely : Prop := cpuDecodesRow.holds Tryd.pinned (OpenSpec.ofChange cpuDecodesWrong)

/-- 'replevinlaw19.CpuRegisters': WHATEVER THE INPUT: true; the input reads as it did. -/
def cpuRegistersSpec : ChangeSpec := { name := "cpuRegisters", fn := fun _ => fun
  | [d1, d2, d3] => { results := [.lit (.bool true)], args := [d1, d2, d3] }
  | _ => none }
def cpuRegistersRow : OpenClaim := { program := "ytpadpggdealgkaadoorrrr", sum := "deb9037c6fc11c3b7f15a883ae4640f4809e078fc1149afaf647c71b818381d7", func := "replevin/replevinlaw19.CpuRegisters", spec := "cpuRegisters", unfollowed := true, recurses := true, named := ["replevin/instr.operations"], apart := false, laid := [("replevin/instr.operations", laid_replevin_instr_operations)] }
def CpuRegistersSaid : Prop := cpuRegistersRow.holds Tryd.pinned (OpenSpec.ofChange cpuRegistersSpec)

/-- ITS FALSE NEIGHBOUR: 'it returns false'. Refute it at one input. -/
def cpuRegistersWrong : ChangeSpec := { name := "cpuRegisters", fn := fun _ => fun
  | [d1, d2, d3] => { results := [.lit (.bool false)], args := [d1, d2, d3] }
  | _ => none }
def CpuRegistersWrongFalsely : Prop := cpuRegistersRow.holds Tryd.pinned (OpenSpec.ofChange cpuRegistersWrong)

/- THE SECOND FORM. 'bulk': how many values and letters a reading holds, each counted each time it is reached (what is shared counts as often as it is met; a slice's spare places count too). A statement '..UptoSaid' is the law's where the arguments, and the package variables that the reading takes, are together of bulk at most 1048576: NARROWER than '..Said'. Prove '..Said' where nothing that the law and all that it calls make is longer than what came in: it says more and counts as full. Else prove '..UptoSaid'. A law counts once. -/
mutual
def uptoBulk {H : Type} : DataW H → Nat
  | .lit (.string bytes) => bytes.length + 1
  | .lit _ => 1
  | .nil => 1
  | .ptr d => uptoBulk d + 1
  | .slice elems spare => uptoBulkAll elems + uptoBulkAll spare + 1
  | .agg parts => uptoBulkAll parts + 1
  | .iface _ d => uptoBulk d + 1
  | .map entries => uptoBulkEntries entries + 1
  | .held _ => 1
def uptoBulkAll {H : Type} : List (DataW H) → Nat
  | [] => 0
  | d :: r => uptoBulk d + uptoBulkAll r
def uptoBulkEntries {H : Type} : List (Lit × DataW H) → Nat
  | [] => 0
  | x :: r => uptoBulkEntry x + uptoBulkEntries r
def uptoBulkEntry {H : Type} : Lit × DataW H → Nat
  | (.string bytes, d) => bytes.length + uptoBulk d + 1
  | (_, d) => uptoBulk d + 1
 end
def uptoSmall : (H : Type) → List (DataW H) → Bool := fun _ ds => decide (uptoBulkAll ds ≤ 1048576)
def OpenSpec.upto (s : _root_.Go.ChangeSpec) : _root_.Go.OpenSpec := { _root_.Go.OpenSpec.ofChange s with cond := some uptoSmall }

/-- 'replevinlaw19.CpuCalls', WHERE WHAT IT READS IS OF BULK AT MOST 1048576: true; the input reads as it did. -/
def cpuCallsUptoRow : OpenClaim := { program := "ytpadpggdealgkaadoorrrr", sum := "deb9037c6fc11c3b7f15a883ae4640f4809e078fc1149afaf647c71b818381d7", func := "replevin/replevinlaw19.CpuCalls", spec := "cpuCalls", unfollowed := true, recurses := true, named := ["replevin/instr.operations"], apart := false, laid := [("replevin/instr.operations", laid_replevin_instr_operations)], narrowed := true }
def CpuCallsUptoSaid : Prop := cpuCallsUptoRow.holds Tryd.pinned (OpenSpec.upto cpuCallsSpec)

/-- 'replevinlaw19.CpuErrors', WHERE WHAT IT READS IS OF BULK AT MOST 1048576: true; the input reads as it did. -/
def cpuErrorsUptoRow : OpenClaim := { program := "ytpadpggdealgkaadoorrrr", sum := "deb9037c6fc11c3b7f15a883ae4640f4809e078fc1149afaf647c71b818381d7", func := "replevin/replevinlaw19.CpuErrors", spec := "cpuErrors", unfollowed := true, recurses := true, named := ["replevin/instr.operations"], apart := false, laid := [("replevin/instr.operations", laid_replevin_instr_operations)], narrowed := true }
def CpuErrorsUptoSaid : Prop := cpuErrorsUptoRow.holds Tryd.pinned (OpenSpec.upto cpuErrorsSpec)

/-- 'replevinlaw19.CpuPages', WHERE WHAT IT READS IS OF BULK AT MOST 1048576: true; the input reads as it did. -/
def cpuPagesUptoRow : OpenClaim := { program := "ytpadpggdealgkaadoorrrr", sum := "deb9037c6fc11c3b7f15a883ae4640f4809e078fc1149afaf647c71b818381d7", func := "replevin/replevinlaw19.CpuPages", spec := "cpuPages", unfollowed := true, recurses := true, named := ["replevin/instr.operations"], apart := false, laid := [("replevin/instr.operations", laid_replevin_instr_operations)], narrowed := true }
def CpuPagesUptoSaid : Prop := cpuPagesUptoRow.holds Tryd.pinned (OpenSpec.upto cpuPagesSpec)

/-- 'replevinlaw19.CpuBudgets', WHERE WHAT IT READS IS OF BULK AT MOST 1048576: true; the input reads as it did. -/
def cpuBudgetsUptoRow : OpenClaim := { program := "ytpadpggdealgkaadoorrrr", sum := "deb9037c6fc11c3b7f15a883ae4640f4809e078fc1149afaf647c71b818381d7", func := "replevin/replevinlaw19.CpuBudgets", spec := "cpuBudgets", unfollowed := true, recurses := true, named := ["replevin/instr.operations"], apart := false, laid := [("replevin/instr.operations", laid_replevin_instr_operations)], narrowed := true }
def CpuBudgetsUptoSaid : Prop := cpuBudgetsUptoRow.holds Tryd.pinned (OpenSpec.upto cpuBudgetsSpec)

/-- 'replevinlaw19.CpuDecodes', WHERE WHAT IT READS IS OF BULK AT MOST 1048576: true; the input reads as it did. -/
def cpuDecodesUptoRow : OpenClaim := { program := "ytpadpggdealgkaadoorrrr", sum := "deb9037c6fc11c3b7f15a883ae4640f4809e078fc1149afaf647c71b818381d7", func := "replevin/replevinlaw19.CpuDecodes", spec := "cpuDecodes", unfollowed := true, recurses := true, named := ["replevin/instr.operations"], apart := false, laid := [("replevin/instr.operations", laid_replevin_instr_operations)], narrowed := true }
def CpuDecodesUptoSaid : Prop := cpuDecodesUptoRow.holds Tryd.pinned (OpenSpec.upto cpuDecodesSpec)

/-- 'replevinlaw19.CpuRegisters', WHERE WHAT IT READS IS OF BULK AT MOST 1048576: true; the input reads as it did. -/
def cpuRegistersUptoRow : OpenClaim := { program := "ytpadpggdealgkaadoorrrr", sum := "deb9037c6fc11c3b7f15a883ae4640f4809e078fc1149afaf647c71b818381d7", func := "replevin/replevinlaw19.CpuRegisters", spec := "cpuRegisters", unfollowed := true, recurses := true, named := ["replevin/instr.operations"], apart := false, laid := [("replevin/instr.operations", laid_replevin_instr_operations)], narrowed := true }
def CpuRegistersUptoSaid : Prop := cpuRegistersUptoRow.holds Tryd.pinned (OpenSpec.upto cpuRegistersSpec)

end Rows
end Go.Proofs.YtpadpggdealgkaaDoorRRR
