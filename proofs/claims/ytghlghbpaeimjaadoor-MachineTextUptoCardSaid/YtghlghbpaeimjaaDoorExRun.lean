/- MachineExamples, run by the kernel; its contract over every heap. -/
import Derived.Test.YtghlghbpaeimjaaDoorBase
namespace Go.Proofs.YtghlghbpaeimjaaDoor
open Go Go.Proofs Ab
set_option maxRecDepth 100000
def isTrue? (x : Option (AV × Heap)) : Bool := match x with | some (.bool true, []) => true | _ => false
theorem of_isTrue? {x : Option (AV × Heap)} (h : isTrue? x = true) : x = some (.bool true, []) := by
  unfold isTrue? at h
  split at h
  · rfl
  · cases h
theorem examples_run : callF E 3 [] [] = some (.bool true, []) :=
  callF_of (n := 400) (of_isTrue? (by kernel_rfl))
/-- the examples, as a contract over every heap -/
theorem examples_ok (h : Heap) : Cok Tryd.prog E 3 [] h (.bool true) h := (Cok.of_callF mixed E_fn E_sp examples_run).frame rfl rfl h
end Go.Proofs.YtghlghbpaeimjaaDoor
