/- The seat's program as the abstract machine sees it. -/
import Derived.Test.YtkomfefpfalajaaRows
import Derived.ProofKit
import Derived.OpenShut
import Derived.Deep.DeepHandedRow
import Derived.Test.YtkomfefpfalajaaAcEnv
import Derived.Test.YtkomfefpfalajaaAb5
import Derived.Test.YtkomfefpfalajaaAb4
namespace Go.Proofs.Ytkomfefpfalajaa
open Go Go.Proofs Ab
set_option maxRecDepth 100000
def E : Env := { fn := fnAt, gl := fun _ => none }
theorem E_fn : ∀ f fn, E.fn f = some fn → FnOk Try.prog f fn := fnOk
theorem E_sp : SpOk Try.prog E := fun f sp h => by cases h
theorem mixed : Try.prog.follows .mixedOrders = true := by kernel_rfl
theorem laidOut : laidOutB Try.prog = true := by kernel_rfl
theorem own : ownKnob Try.prog.godebug = none := by kernel_rfl
theorem glob {W : World} : GlobOk E (St.at W) := fun k xs hk => by cases hk
def isTrue? (x : Option (AV × Heap)) : Bool := match x with | some (.bool true, []) => true | _ => false
theorem of_isTrue? {x : Option (AV × Heap)} (h : isTrue? x = true) : x = some (.bool true, []) := by
  unfold isTrue? at h
  split at h
  · rfl
  · cases h
end Go.Proofs.Ytkomfefpfalajaa
