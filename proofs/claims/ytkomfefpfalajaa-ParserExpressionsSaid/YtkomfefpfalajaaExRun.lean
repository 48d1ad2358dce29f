/- ParserExamples, run by the kernel; its contract over every heap. -/
import Derived.Test.YtkomfefpfalajaaBase
namespace Go.Proofs.Ytkomfefpfalajaa
open Go Go.Proofs Ab
set_option maxRecDepth 100000
theorem examples_run : callF E 3 [] [] = some (.bool true, []) :=
  callF_of (n := 400) (of_isTrue? (by kernel_rfl))
/-- the examples, as a contract over every heap -/
theorem examples_ok (h : Heap) : Cok Try.prog E 3 [] h (.bool true) h := (Cok.of_callF mixed E_fn E_sp examples_run).frame rfl rfl h
/-- the environment that knows the examples -/
def spEx : Nat → Option (List AV → List Ob → Option (AV × List Ob))
  | 3 => some fun xs h => match xs with | [] => some (.bool true, h) | _ => none
  | _ => none
def E1 : Env := { fn := fnAt, gl := fun _ => none, sp := spEx }
theorem E1_sp : SpOk Try.prog E1 := by
  intro f sp hsp xs h v h' hr
  change spEx f = some sp at hsp
  unfold spEx at hsp
  split at hsp
  · cases hsp
    simp only at hr
    split at hr
    · cases hr; exact (examples_ok h).env rfl rfl
    · cases hr
  · cases hsp
theorem E1_fn : ∀ f fn, E1.fn f = some fn → FnOk Try.prog f fn := fnOk
theorem glob1 {W : World} : GlobOk E1 (St.at W) := fun k xs hk => by cases hk
end Go.Proofs.Ytkomfefpfalajaa
