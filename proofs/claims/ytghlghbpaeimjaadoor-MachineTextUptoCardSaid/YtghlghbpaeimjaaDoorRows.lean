/-
  NARROWER THAN 'FOR EVERY INPUT', by the rows' own cells (each row's printed sentence says how): MachineExamples: laid · MachineInfo: laid · MachineText: laid · MachineRoundTrip: laid · MachineDistinct: laid · MachineOperands: laid.
  DERIVED. THE GIVEN ROWS OF THIS SEAT. 6 by the template 'for every input the law returns true; each argument reads behind the call as it read before'; 0 by the template 'total and deterministic' (their statements: YtghlghbpaeimjaaDoorTotals.lean).
  GIVEN WITH THE SEED: the statements are not yours to turn. If you find one false, say at which input.
  Laid BY PROGRAM, IN A SANDBOX (cutbox-rows.mjs): the forced cells as the released guide's own fill.sh prints them over the translation feafe7355675273e… (all of the seat's roots in one cut). By AI agents, Wed Nov 11 2026. No macro, syntax, notation, axiom, sorry.
-/
import Derived.Test.YtghlghbpaeimjaaDoorChecked
import GoSem.Claim
import GoSem.ClaimJoined
import GoSem.ClaimMapViews
import Derived.JoinedTies
import Derived.KernelRfl
namespace Go.Proofs.YtghlghbpaeimjaaDoor
/- THE CELL 'sum', in the pinned program and in every row, IS THE sha256 OF THE DUMP (.gsa) THAT YtghlghbpaeimjaaDoorProg.lean LOADS. Nothing in Lean hashes anything: it is a label: what it is worth is what the hold of that sum in a sandbox is worth. -/
noncomputable def Tryd.pinned : Pinned := { name := "ytghlghbpaeimjaadoor", sum := "feafe7355675273e98d0248a029a46ab48ca17822cc41cb0657f1733afbe6787", checked := Tryd.checked }
namespace Rows
def none {H : Type} : Left H := { results := [], args := [] }

/- WHAT THE LISTED PACKAGE-LEVEL VARIABLES READ AS WHEN THE CALL BEGINS. Each datum BY PROGRAM (the guide's laid-datum.mjs) off the statement by which the dump's own 'gosem.cut.vars' lays the variable. In a bare row this is a premise. The card (YtghlghbpaeimjaaDoorCards.lean) ties it to the program's text. -/
def laid_fulling_machine_table {H : Type} : DataW H := .slice [.agg [.lit (.string [110, 111, 112]), .lit (.int .i64 1), .lit (.bool false), .lit (.bool false), .lit (.bool false), .lit (.bool false), .lit (.int .i64 1)], .agg [.lit (.string [114, 101, 116]), .lit (.int .i64 1), .lit (.bool false), .lit (.bool false), .lit (.bool false), .lit (.bool false), .lit (.int .i64 1)], .agg [.lit (.string [116, 105, 99, 107]), .lit (.int .i64 1), .lit (.bool false), .lit (.bool false), .lit (.bool false), .lit (.bool false), .lit (.int .i64 1)], .agg [.lit (.string [116, 114, 97, 112]), .lit (.int .i64 8), .lit (.bool false), .lit (.bool false), .lit (.bool false), .lit (.bool true), .lit (.int .i64 1)], .agg [.lit (.string [106, 109, 112]), .lit (.int .i64 8), .lit (.bool false), .lit (.bool false), .lit (.bool false), .lit (.bool false), .lit (.int .i64 1)], .agg [.lit (.string [99, 97, 108, 108]), .lit (.int .i64 5), .lit (.bool false), .lit (.bool false), .lit (.bool false), .lit (.bool false), .lit (.int .i64 1)], .agg [.lit (.string [106, 122]), .lit (.int .i64 5), .lit (.bool true), .lit (.bool false), .lit (.bool false), .lit (.bool false), .lit (.int .i64 1)], .agg [.lit (.string [106, 110, 122]), .lit (.int .i64 5), .lit (.bool true), .lit (.bool false), .lit (.bool false), .lit (.bool false), .lit (.int .i64 1)], .agg [.lit (.string [111, 117, 116]), .lit (.int .i64 2), .lit (.bool true), .lit (.bool false), .lit (.bool false), .lit (.bool false), .lit (.int .i64 1)], .agg [.lit (.string [109, 111, 118]), .lit (.int .i64 3), .lit (.bool false), .lit (.bool true), .lit (.bool true), .lit (.bool false), .lit (.int .i64 1)], .agg [.lit (.string [99, 109, 111, 118, 122]), .lit (.int .i64 4), .lit (.bool true), .lit (.bool true), .lit (.bool true), .lit (.bool false), .lit (.int .i64 1)], .agg [.lit (.string [99, 109, 111, 118, 110, 122]), .lit (.int .i64 4), .lit (.bool true), .lit (.bool true), .lit (.bool true), .lit (.bool false), .lit (.int .i64 1)], .agg [.lit (.string [108, 100, 105]), .lit (.int .i64 5), .lit (.bool false), .lit (.bool true), .lit (.bool false), .lit (.bool false), .lit (.int .i64 1)], .agg [.lit (.string [108, 100, 99]), .lit (.int .i64 6), .lit (.bool false), .lit (.bool true), .lit (.bool false), .lit (.bool false), .lit (.int .i64 3)], .agg [.lit (.string [110, 101, 103]), .lit (.int .i64 2), .lit (.bool true), .lit (.bool true), .lit (.bool false), .lit (.bool false), .lit (.int .i64 1)], .agg [.lit (.string [110, 111, 116]), .lit (.int .i64 2), .lit (.bool true), .lit (.bool true), .lit (.bool false), .lit (.bool false), .lit (.int .i64 1)], .agg [.lit (.string [97, 100, 100]), .lit (.int .i64 3), .lit (.bool true), .lit (.bool true), .lit (.bool true), .lit (.bool false), .lit (.int .i64 1)], .agg [.lit (.string [115, 117, 98]), .lit (.int .i64 3), .lit (.bool true), .lit (.bool true), .lit (.bool true), .lit (.bool false), .lit (.int .i64 1)], .agg [.lit (.string [109, 117, 108]), .lit (.int .i64 3), .lit (.bool true), .lit (.bool true), .lit (.bool true), .lit (.bool false), .lit (.int .i64 1)], .agg [.lit (.string [100, 105, 118]), .lit (.int .i64 3), .lit (.bool true), .lit (.bool true), .lit (.bool true), .lit (.bool true), .lit (.int .i64 1)], .agg [.lit (.string [114, 101, 109]), .lit (.int .i64 3), .lit (.bool true), .lit (.bool true), .lit (.bool true), .lit (.bool true), .lit (.int .i64 1)], .agg [.lit (.string [97, 110, 100]), .lit (.int .i64 3), .lit (.bool true), .lit (.bool true), .lit (.bool true), .lit (.bool false), .lit (.int .i64 1)], .agg [.lit (.string [111, 114]), .lit (.int .i64 3), .lit (.bool true), .lit (.bool true), .lit (.bool true), .lit (.bool false), .lit (.int .i64 1)], .agg [.lit (.string [120, 111, 114]), .lit (.int .i64 3), .lit (.bool true), .lit (.bool true), .lit (.bool true), .lit (.bool false), .lit (.int .i64 1)], .agg [.lit (.string [115, 104, 108]), .lit (.int .i64 3), .lit (.bool true), .lit (.bool true), .lit (.bool true), .lit (.bool false), .lit (.int .i64 1)], .agg [.lit (.string [115, 104, 114]), .lit (.int .i64 3), .lit (.bool true), .lit (.bool true), .lit (.bool true), .lit (.bool false), .lit (.int .i64 1)], .agg [.lit (.string [115, 97, 114]), .lit (.int .i64 3), .lit (.bool true), .lit (.bool true), .lit (.bool true), .lit (.bool false), .lit (.int .i64 1)], .agg [.lit (.string [101, 113]), .lit (.int .i64 3), .lit (.bool true), .lit (.bool true), .lit (.bool true), .lit (.bool false), .lit (.int .i64 1)], .agg [.lit (.string [110, 101]), .lit (.int .i64 3), .lit (.bool true), .lit (.bool true), .lit (.bool true), .lit (.bool false), .lit (.int .i64 1)], .agg [.lit (.string [108, 116]), .lit (.int .i64 3), .lit (.bool true), .lit (.bool true), .lit (.bool true), .lit (.bool false), .lit (.int .i64 1)], .agg [.lit (.string [108, 101]), .lit (.int .i64 3), .lit (.bool true), .lit (.bool true), .lit (.bool true), .lit (.bool false), .lit (.int .i64 1)], .agg [.lit (.string [108, 116, 117]), .lit (.int .i64 3), .lit (.bool true), .lit (.bool true), .lit (.bool true), .lit (.bool false), .lit (.int .i64 1)], .agg [.lit (.string [97, 100, 100, 105]), .lit (.int .i64 5), .lit (.bool true), .lit (.bool true), .lit (.bool false), .lit (.bool false), .lit (.int .i64 1)], .agg [.lit (.string [108, 100]), .lit (.int .i64 7), .lit (.bool false), .lit (.bool true), .lit (.bool true), .lit (.bool true), .lit (.int .i64 1)], .agg [.lit (.string [115, 116]), .lit (.int .i64 7), .lit (.bool true), .lit (.bool false), .lit (.bool true), .lit (.bool true), .lit (.int .i64 1)], .agg [.lit (.string [108, 100, 115]), .lit (.int .i64 5), .lit (.bool false), .lit (.bool true), .lit (.bool false), .lit (.bool false), .lit (.int .i64 1)], .agg [.lit (.string [115, 116, 115]), .lit (.int .i64 5), .lit (.bool true), .lit (.bool false), .lit (.bool false), .lit (.bool false), .lit (.int .i64 1)]] []

/-- 'fullinglaw29.MachineExamples': WHATEVER THE INPUT: true; the input reads as it did. -/
def machineExamplesSpec : ChangeSpec := { name := "machineExamples", fn := fun _ => fun
  | [] => { results := [.lit (.bool true)], args := [] }
  | _ => none }
def machineExamplesRow : OpenClaim := { program := "ytghlghbpaeimjaadoor", sum := "feafe7355675273e98d0248a029a46ab48ca17822cc41cb0657f1733afbe6787", func := "fulling/fullinglaw29.MachineExamples", spec := "machineExamples", named := ["fulling/machine.table"], apart := false, laid := [("fulling/machine.table", laid_fulling_machine_table)] }
def MachineExamplesSaid : Prop := machineExamplesRow.holds Tryd.pinned (OpenSpec.ofChange machineExamplesSpec)

/-- ITS FALSE NEIGHBOUR: 'it returns false'. Refute it at one input. -/
def machineExamplesWrong : ChangeSpec := { name := "machineExamples", fn := fun _ => fun
  | [] => { results := [.lit (.bool false)], args := [] }
  | _ => none }
def MachineExamplesWrongFalsely : Prop := machineExamplesRow.holds Tryd.pinned (OpenSpec.ofChange machineExamplesWrong)

/-- 'fullinglaw29.MachineInfo': WHATEVER THE INPUT: true; the input reads as it did. -/
def machineInfoSpec : ChangeSpec := { name := "machineInfo", fn := fun _ => fun
  | [d1, d2] => { results := [.lit (.bool true)], args := [d1, d2] }
  | _ => none }
def machineInfoRow : OpenClaim := { program := "ytghlghbpaeimjaadoor", sum := "feafe7355675273e98d0248a029a46ab48ca17822cc41cb0657f1733afbe6787", func := "fulling/fullinglaw29.MachineInfo", spec := "machineInfo", named := ["fulling/machine.table"], apart := false, laid := [("fulling/machine.table", laid_fulling_machine_table)] }
def MachineInfoSaid : Prop := machineInfoRow.holds Tryd.pinned (OpenSpec.ofChange machineInfoSpec)

/-- ITS FALSE NEIGHBOUR: 'it returns false'. Refute it at one input. -/
def machineInfoWrong : ChangeSpec := { name := "machineInfo", fn := fun _ => fun
  | [d1, d2] => { results := [.lit (.bool false)], args := [d1, d2] }
  | _ => none }
def MachineInfoWrongFalsely : Prop := machineInfoRow.holds Tryd.pinned (OpenSpec.ofChange machineInfoWrong)

/-- 'fullinglaw29.MachineText': WHATEVER THE INPUT: true; the input reads as it did. -/
def machineTextSpec : ChangeSpec := { name := "machineText", fn := fun _ => fun
  | [d1, d2, d3, d4, d5, d6] => { results := [.lit (.bool true)], args := [d1, d2, d3, d4, d5, d6] }
  | _ => none }
def machineTextRow : OpenClaim := { program := "ytghlghbpaeimjaadoor", sum := "feafe7355675273e98d0248a029a46ab48ca17822cc41cb0657f1733afbe6787", func := "fulling/fullinglaw29.MachineText", spec := "machineText", named := ["fulling/machine.table"], apart := false, laid := [("fulling/machine.table", laid_fulling_machine_table)] }
def MachineTextSaid : Prop := machineTextRow.holds Tryd.pinned (OpenSpec.ofChange machineTextSpec)

/-- ITS FALSE NEIGHBOUR: 'it returns false'. Refute it at one input. -/
def machineTextWrong : ChangeSpec := { name := "machineText", fn := fun _ => fun
  | [d1, d2, d3, d4, d5, d6] => { results := [.lit (.bool false)], args := [d1, d2, d3, d4, d5, d6] }
  | _ => none }
def MachineTextWrongFalsely : Prop := machineTextRow.holds Tryd.pinned (OpenSpec.ofChange machineTextWrong)

/-- 'fullinglaw29.MachineRoundTrip': WHATEVER THE INPUT: true; the input reads as it did. -/
def machineRoundTripSpec : ChangeSpec := { name := "machineRoundTrip", fn := fun _ => fun
  | [d1, d2] => { results := [.lit (.bool true)], args := [d1, d2] }
  | _ => none }
def machineRoundTripRow : OpenClaim := { program := "ytghlghbpaeimjaadoor", sum := "feafe7355675273e98d0248a029a46ab48ca17822cc41cb0657f1733afbe6787", func := "fulling/fullinglaw29.MachineRoundTrip", spec := "machineRoundTrip", named := ["fulling/machine.table"], apart := false, laid := [("fulling/machine.table", laid_fulling_machine_table)] }
def MachineRoundTripSaid : Prop := machineRoundTripRow.holds Tryd.pinned (OpenSpec.ofChange machineRoundTripSpec)

/-- ITS FALSE NEIGHBOUR: 'it returns false'. Refute it at one input. -/
def machineRoundTripWrong : ChangeSpec := { name := "machineRoundTrip", fn := fun _ => fun
  | [d1, d2] => { results := [.lit (.bool false)], args := [d1, d2] }
  | _ => none }
def MachineRoundTripWrongFalsely : Prop := machineRoundTripRow.holds Tryd.pinned (OpenSpec.ofChange machineRoundTripWrong)

/-- 'fullinglaw29.MachineDistinct': WHATEVER THE INPUT: true; the input reads as it did. -/
def machineDistinctSpec : ChangeSpec := { name := "machineDistinct", fn := fun _ => fun
  | [d1, d2, d3, d4] => { results := [.lit (.bool true)], args := [d1, d2, d3, d4] }
  | _ => none }
def machineDistinctRow : OpenClaim := { program := "ytghlghbpaeimjaadoor", sum := "feafe7355675273e98d0248a029a46ab48ca17822cc41cb0657f1733afbe6787", func := "fulling/fullinglaw29.MachineDistinct", spec := "machineDistinct", named := ["fulling/machine.table"], apart := false, laid := [("fulling/machine.table", laid_fulling_machine_table)] }
def MachineDistinctSaid : Prop := machineDistinctRow.holds Tryd.pinned (OpenSpec.ofChange machineDistinctSpec)

/-- ITS FALSE NEIGHBOUR: 'it returns false'. Refute it at one input. -/
def machineDistinctWrong : ChangeSpec := { name := "machineDistinct", fn := fun _ => fun
  | [d1, d2, d3, d4] => { results := [.lit (.bool false)], args := [d1, d2, d3, d4] }
  | _ => none }
def MachineDistinctWrongFalsely : Prop := machineDistinctRow.holds Tryd.pinned (OpenSpec.ofChange machineDistinctWrong)

/-- 'fullinglaw29.MachineOperands': WHATEVER THE INPUT: true; the input reads as it did. -/
def machineOperandsSpec : ChangeSpec := { name := "machineOperands", fn := fun _ => fun
  | [d1, d2, d3, d4] => { results := [.lit (.bool true)], args := [d1, d2, d3, d4] }
  | _ => none }
def machineOperandsRow : OpenClaim := { program := "ytghlghbpaeimjaadoor", sum := "feafe7355675273e98d0248a029a46ab48ca17822cc41cb0657f1733afbe6787", func := "fulling/fullinglaw29.MachineOperands", spec := "machineOperands", named := ["fulling/machine.table"], apart := false, laid := [("fulling/machine.table", laid_fulling_machine_table)] }
def MachineOperandsSaid : Prop := machineOperandsRow.holds Tryd.pinned (OpenSpec.ofChange machineOperandsSpec)

/-- ITS FALSE NEIGHBOUR: 'it returns false'. Refute it at one input. -/
def machineOperandsWrong : ChangeSpec := { name := "machineOperands", fn := fun _ => fun
  | [d1, d2, d3, d4] => { results := [.lit (.bool false)], args := [d1, d2, d3, d4] }
  | _ => none }
def MachineOperandsWrongFalsely : Prop := machineOperandsRow.holds Tryd.pinned (OpenSpec.ofChange machineOperandsWrong)

/- THE SECOND FORM. 'bulk': how many values and letters a reading holds, each counted each time it is reached (what is shared counts as often as it is met; a slice's spare places count too). A statement '..UptoSaid' is the law's where the arguments, and the package variables that the reading takes, are together of bulk at most 1048576: NARROWER than '..Said'. Prove '..Said' where nothing that the law and all that it calls make is longer than what came in: it says more and counts as full. Else prove '..UptoSaid'. A law counts once. -/
mutual
def uptoBulk {H : Type} : DataW H → Nat
  | .lit (.string bytes) => bytes.length + 1
  | .lit _ => 1
  | .nil => 1
  | .ptr d => uptoBulk d + 1
  | .slice elems spare => uptoBulkAll elems + uptoBulkAll spare + 1
  | .agg parts => uptoBulkAll parts + 1
  | .iface _ d => uptoBulk d + 1
  | .map entries => uptoBulkEntries entries + 1
  | .held _ => 1
def uptoBulkAll {H : Type} : List (DataW H) → Nat
  | [] => 0
  | d :: r => uptoBulk d + uptoBulkAll r
def uptoBulkEntries {H : Type} : List (Lit × DataW H) → Nat
  | [] => 0
  | x :: r => uptoBulkEntry x + uptoBulkEntries r
def uptoBulkEntry {H : Type} : Lit × DataW H → Nat
  | (.string bytes, d) => bytes.length + uptoBulk d + 1
  | (_, d) => uptoBulk d + 1
 end
def uptoSmall : (H : Type) → List (DataW H) → Bool := fun _ ds => decide (uptoBulkAll ds ≤ 1048576)
def OpenSpec.upto (s : _root_.Go.ChangeSpec) : _root_.Go.OpenSpec := { _root_.Go.OpenSpec.ofChange s with cond := some uptoSmall }

/-- 'fullinglaw29.MachineExamples', WHERE WHAT IT READS IS OF BULK AT MOST 1048576: true; the input reads as it did. -/
def machineExamplesUptoRow : OpenClaim := { program := "ytghlghbpaeimjaadoor", sum := "feafe7355675273e98d0248a029a46ab48ca17822cc41cb0657f1733afbe6787", func := "fulling/fullinglaw29.MachineExamples", spec := "machineExamples", named := ["fulling/machine.table"], apart := false, laid := [("fulling/machine.table", laid_fulling_machine_table)], narrowed := true }
def MachineExamplesUptoSaid : Prop := machineExamplesUptoRow.holds Tryd.pinned (OpenSpec.upto machineExamplesSpec)

/-- 'fullinglaw29.MachineInfo', WHERE WHAT IT READS IS OF BULK AT MOST 1048576: true; the input reads as it did. -/
def machineInfoUptoRow : OpenClaim := { program := "ytghlghbpaeimjaadoor", sum := "feafe7355675273e98d0248a029a46ab48ca17822cc41cb0657f1733afbe6787", func := "fulling/fullinglaw29.MachineInfo", spec := "machineInfo", named := ["fulling/machine.table"], apart := false, laid := [("fulling/machine.table", laid_fulling_machine_table)], narrowed := true }
def MachineInfoUptoSaid : Prop := machineInfoUptoRow.holds Tryd.pinned (OpenSpec.upto machineInfoSpec)

/-- 'fullinglaw29.MachineText', WHERE WHAT IT READS IS OF BULK AT MOST 1048576: true; the input reads as it did. -/
def machineTextUptoRow : OpenClaim := { program := "ytghlghbpaeimjaadoor", sum := "feafe7355675273e98d0248a029a46ab48ca17822cc41cb0657f1733afbe6787", func := "fulling/fullinglaw29.MachineText", spec := "machineText", named := ["fulling/machine.table"], apart := false, laid := [("fulling/machine.table", laid_fulling_machine_table)], narrowed := true }
def MachineTextUptoSaid : Prop := machineTextUptoRow.holds Tryd.pinned (OpenSpec.upto machineTextSpec)

/-- 'fullinglaw29.MachineRoundTrip', WHERE WHAT IT READS IS OF BULK AT MOST 1048576: true; the input reads as it did. -/
def machineRoundTripUptoRow : OpenClaim := { program := "ytghlghbpaeimjaadoor", sum := "feafe7355675273e98d0248a029a46ab48ca17822cc41cb0657f1733afbe6787", func := "fulling/fullinglaw29.MachineRoundTrip", spec := "machineRoundTrip", named := ["fulling/machine.table"], apart := false, laid := [("fulling/machine.table", laid_fulling_machine_table)], narrowed := true }
def MachineRoundTripUptoSaid : Prop := machineRoundTripUptoRow.holds Tryd.pinned (OpenSpec.upto machineRoundTripSpec)

/-- 'fullinglaw29.MachineDistinct', WHERE WHAT IT READS IS OF BULK AT MOST 1048576: true; the input reads as it did. -/
def machineDistinctUptoRow : OpenClaim := { program := "ytghlghbpaeimjaadoor", sum := "feafe7355675273e98d0248a029a46ab48ca17822cc41cb0657f1733afbe6787", func := "fulling/fullinglaw29.MachineDistinct", spec := "machineDistinct", named := ["fulling/machine.table"], apart := false, laid := [("fulling/machine.table", laid_fulling_machine_table)], narrowed := true }
def MachineDistinctUptoSaid : Prop := machineDistinctUptoRow.holds Tryd.pinned (OpenSpec.upto machineDistinctSpec)

/-- 'fullinglaw29.MachineOperands', WHERE WHAT IT READS IS OF BULK AT MOST 1048576: true; the input reads as it did. -/
def machineOperandsUptoRow : OpenClaim := { program := "ytghlghbpaeimjaadoor", sum := "feafe7355675273e98d0248a029a46ab48ca17822cc41cb0657f1733afbe6787", func := "fulling/fullinglaw29.MachineOperands", spec := "machineOperands", named := ["fulling/machine.table"], apart := false, laid := [("fulling/machine.table", laid_fulling_machine_table)], narrowed := true }
def MachineOperandsUptoSaid : Prop := machineOperandsUptoRow.holds Tryd.pinned (OpenSpec.upto machineOperandsSpec)

end Rows
end Go.Proofs.YtghlghbpaeimjaaDoor
