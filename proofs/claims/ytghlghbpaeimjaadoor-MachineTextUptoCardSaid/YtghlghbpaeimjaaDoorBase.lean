/- The seat's program as the abstract machine sees it: its functions, its one table, the world in which the table is laid. -/
import Derived.Test.YtghlghbpaeimjaaDoorRows
import Derived.Test.YtghlghbpaeimjaaDoorCards
import Derived.Test.YtghlghbpaeimjaaDoorTie
import Derived.ProofKit
import Derived.OpenShut
import Derived.Deep.DeepHandedRow
import Derived.Deep.DeepWitnessRowRef
import Derived.Test.YtghlghbpaeimjaaDoorAcEnv
import Derived.Test.YtghlghbpaeimjaaDoorAb5
import Derived.Test.YtghlghbpaeimjaaDoorAb4
namespace Go.Proofs.YtghlghbpaeimjaaDoor
open Go Go.Proofs Ab
set_option maxRecDepth 100000
def row (name : List UInt8) (form : Int) (a b c d : Bool) (w : Int) : AV := .agg [.str name, .int .i64 form, .bool a, .bool b, .bool c, .bool d, .int .i64 w]
def table : List AV := [row [110, 111, 112] 1 false false false false 1,
  row [114, 101, 116] 1 false false false false 1,
  row [116, 105, 99, 107] 1 false false false false 1,
  row [116, 114, 97, 112] 8 false false false true 1,
  row [106, 109, 112] 8 false false false false 1,
  row [99, 97, 108, 108] 5 false false false false 1,
  row [106, 122] 5 true false false false 1,
  row [106, 110, 122] 5 true false false false 1,
  row [111, 117, 116] 2 true false false false 1,
  row [109, 111, 118] 3 false true true false 1,
  row [99, 109, 111, 118, 122] 4 true true true false 1,
  row [99, 109, 111, 118, 110, 122] 4 true true true false 1,
  row [108, 100, 105] 5 false true false false 1,
  row [108, 100, 99] 6 false true false false 3,
  row [110, 101, 103] 2 true true false false 1,
  row [110, 111, 116] 2 true true false false 1,
  row [97, 100, 100] 3 true true true false 1,
  row [115, 117, 98] 3 true true true false 1,
  row [109, 117, 108] 3 true true true false 1,
  row [100, 105, 118] 3 true true true true 1,
  row [114, 101, 109] 3 true true true true 1,
  row [97, 110, 100] 3 true true true false 1,
  row [111, 114] 3 true true true false 1,
  row [120, 111, 114] 3 true true true false 1,
  row [115, 104, 108] 3 true true true false 1,
  row [115, 104, 114] 3 true true true false 1,
  row [115, 97, 114] 3 true true true false 1,
  row [101, 113] 3 true true true false 1,
  row [110, 101] 3 true true true false 1,
  row [108, 116] 3 true true true false 1,
  row [108, 101] 3 true true true false 1,
  row [108, 116, 117] 3 true true true false 1,
  row [97, 100, 100, 105] 5 true true false false 1,
  row [108, 100] 7 false true true true 1,
  row [115, 116] 7 true false true true 1,
  row [108, 100, 115] 5 false true false false 1,
  row [115, 116, 115] 5 true false false false 1]

def gl : Nat → Option (List AV)
  | 0 => some [.sl .none table]
  | _ => none
def E : Env := { fn := fnAt, gl := gl }
theorem E_fn : ∀ f fn, E.fn f = some fn → FnOk Tryd.prog f fn := fnOk
theorem E_sp : SpOk Tryd.prog E := fun f sp h => by cases h
theorem mixed : Tryd.prog.follows .mixedOrders = true := by kernel_rfl
theorem laidOut : laidOutB Tryd.prog = true := by kernel_rfl
theorem own : ownKnob Tryd.prog.godebug = none := by kernel_rfl
theorem gTab : Tryd.prog.globalNamed "fulling/machine.table" = some 0 := by kernel_rfl
theorem gTabType : (Tryd.prog.globals[0]?).map (·.type) = some 49 := by kernel_rfl
theorem tabData : dlv Tryd.prog 4 49 (Rows.laid_fulling_machine_table (H := Unit)) = some [.sl .none table] := by kernel_rfl
theorem glob {W : World} (h : laidMetH Tryd.prog [("fulling/machine.table", Rows.laid_fulling_machine_table)] W) : GlobOk E (St.at W) := by
  intro k xs hk
  change gl k = some xs at hk
  unfold gl at hk
  split at hk
  · cases hk
    exact glob_of_laid gTab gTabType tabData h
  · cases hk
def tabCells : List Value := [.string ⟨#[110, 111, 112]⟩, .int .i64 1, .bool false, .bool false, .bool false, .bool false, .int .i64 1, .string ⟨#[114, 101, 116]⟩, .int .i64 1, .bool false, .bool false, .bool false, .bool false, .int .i64 1, .string ⟨#[116, 105, 99, 107]⟩, .int .i64 1, .bool false, .bool false, .bool false, .bool false, .int .i64 1, .string ⟨#[116, 114, 97, 112]⟩, .int .i64 8, .bool false, .bool false, .bool false, .bool true, .int .i64 1, .string ⟨#[106, 109, 112]⟩, .int .i64 8, .bool false, .bool false, .bool false, .bool false, .int .i64 1, .string ⟨#[99, 97, 108, 108]⟩, .int .i64 5, .bool false, .bool false, .bool false, .bool false, .int .i64 1, .string ⟨#[106, 122]⟩, .int .i64 5, .bool true, .bool false, .bool false, .bool false, .int .i64 1, .string ⟨#[106, 110, 122]⟩, .int .i64 5, .bool true, .bool false, .bool false, .bool false, .int .i64 1, .string ⟨#[111, 117, 116]⟩, .int .i64 2, .bool true, .bool false, .bool false, .bool false, .int .i64 1, .string ⟨#[109, 111, 118]⟩, .int .i64 3, .bool false, .bool true, .bool true, .bool false, .int .i64 1, .string ⟨#[99, 109, 111, 118, 122]⟩, .int .i64 4, .bool true, .bool true, .bool true, .bool false, .int .i64 1, .string ⟨#[99, 109, 111, 118, 110, 122]⟩, .int .i64 4, .bool true, .bool true, .bool true, .bool false, .int .i64 1, .string ⟨#[108, 100, 105]⟩, .int .i64 5, .bool false, .bool true, .bool false, .bool false, .int .i64 1, .string ⟨#[108, 100, 99]⟩, .int .i64 6, .bool false, .bool true, .bool false, .bool false, .int .i64 3, .string ⟨#[110, 101, 103]⟩, .int .i64 2, .bool true, .bool true, .bool false, .bool false, .int .i64 1, .string ⟨#[110, 111, 116]⟩, .int .i64 2, .bool true, .bool true, .bool false, .bool false, .int .i64 1, .string ⟨#[97, 100, 100]⟩, .int .i64 3, .bool true, .bool true, .bool true, .bool false, .int .i64 1, .string ⟨#[115, 117, 98]⟩, .int .i64 3, .bool true, .bool true, .bool true, .bool false, .int .i64 1, .string ⟨#[109, 117, 108]⟩, .int .i64 3, .bool true, .bool true, .bool true, .bool false, .int .i64 1, .string ⟨#[100, 105, 118]⟩, .int .i64 3, .bool true, .bool true, .bool true, .bool true, .int .i64 1, .string ⟨#[114, 101, 109]⟩, .int .i64 3, .bool true, .bool true, .bool true, .bool true, .int .i64 1, .string ⟨#[97, 110, 100]⟩, .int .i64 3, .bool true, .bool true, .bool true, .bool false, .int .i64 1, .string ⟨#[111, 114]⟩, .int .i64 3, .bool true, .bool true, .bool true, .bool false, .int .i64 1, .string ⟨#[120, 111, 114]⟩, .int .i64 3, .bool true, .bool true, .bool true, .bool false, .int .i64 1, .string ⟨#[115, 104, 108]⟩, .int .i64 3, .bool true, .bool true, .bool true, .bool false, .int .i64 1, .string ⟨#[115, 104, 114]⟩, .int .i64 3, .bool true, .bool true, .bool true, .bool false, .int .i64 1, .string ⟨#[115, 97, 114]⟩, .int .i64 3, .bool true, .bool true, .bool true, .bool false, .int .i64 1, .string ⟨#[101, 113]⟩, .int .i64 3, .bool true, .bool true, .bool true, .bool false, .int .i64 1, .string ⟨#[110, 101]⟩, .int .i64 3, .bool true, .bool true, .bool true, .bool false, .int .i64 1, .string ⟨#[108, 116]⟩, .int .i64 3, .bool true, .bool true, .bool true, .bool false, .int .i64 1, .string ⟨#[108, 101]⟩, .int .i64 3, .bool true, .bool true, .bool true, .bool false, .int .i64 1, .string ⟨#[108, 116, 117]⟩, .int .i64 3, .bool true, .bool true, .bool true, .bool false, .int .i64 1, .string ⟨#[97, 100, 100, 105]⟩, .int .i64 5, .bool true, .bool true, .bool false, .bool false, .int .i64 1, .string ⟨#[108, 100]⟩, .int .i64 7, .bool false, .bool true, .bool true, .bool true, .int .i64 1, .string ⟨#[115, 116]⟩, .int .i64 7, .bool true, .bool false, .bool true, .bool true, .int .i64 1, .string ⟨#[108, 100, 115]⟩, .int .i64 5, .bool false, .bool true, .bool false, .bool false, .int .i64 1, .string ⟨#[115, 116, 115]⟩, .int .i64 5, .bool true, .bool false, .bool false, .bool false, .int .i64 1]
def putTab : Obj → Obj
  | .cells _ t frozen => .cells #[.slice (some ⟨6, 0, none⟩) 37 37] t frozen
  | o => o
/-- A world for the witness: the settled one, the table's variable holding a slice of a new block that holds its rows. -/
noncomputable def laidWorld (os : Os) : World :=
  { World.holding Tryd.prog os ⟨#[], #[], []⟩ with heap := ((World.holding Tryd.prog os ⟨#[], #[], []⟩).heap.modify 0 putTab).push (.cells tabCells.toArray 23 (0, 0)) }
theorem laid_met (os : Os) (args : Array Value) : laidMet Tryd.prog [("fulling/machine.table", Rows.laid_fulling_machine_table)] ((laidWorld os).forCall (fun _ _ => 0) ⟨#[], args, []⟩).memory :=
  laidMet_of_run' 8 (by kernel_rfl) (by kernel_rfl)
end Go.Proofs.YtghlghbpaeimjaaDoor
