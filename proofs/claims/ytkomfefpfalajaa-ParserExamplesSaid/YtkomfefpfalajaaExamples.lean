/- ParserExamples returns true; it takes no argument. -/
import Derived.Test.YtkomfefpfalajaaBase
namespace Go.Proofs.Ytkomfefpfalajaa
open Go Go.Proofs Ab Go.RowKit Go.ChangeShapes Go.WideShapes
set_option maxRecDepth 100000
theorem examples_run : callF E 3 [] [] = some (.bool true, []) :=
  callF_of (n := 400) (of_isTrue? (by kernel_rfl))
namespace parserExamples
theorem lifted (os : Os) (started : os.Started) (H : Type) (enc : TypeId × Value → H) (F : Stop.Interp) :
    ReturnsInHanded {} Try.checked os 3 .any ((OpenSpec.ofChange Rows.parserExamplesSpec).preRow enc Try.prog Try.f3 Rows.parserExamplesRow.domain false Rows.parserExamplesRow.laid) (((OpenSpec.ofChange Rows.parserExamplesSpec).at F).post enc Try.prog Try.f3 false true false false) := by
  refine returnsInHanded_of_row (C := Try.checked) (s := OpenSpec.ofChange Rows.parserExamplesSpec) own started (by kernel_rfl) Try.func3
    (witness_row_at (enc := enc) (C := Try.checked) false (World.holding Try.prog os ⟨#[], #[], []⟩) #[] rfl (by kernel_rfl) (by kernel_rfl) (by kernel_rfl)
      (OpenSpec.preRow_of_cond (x := ([], [], [])) 8 (by kernel_rfl) (by kernel_rfl) (fun k hk => by cases hk) (by kernel_rfl) ⟨[], rfl, List.nodup_nil, fun b off h => by cases h⟩)) ?_
  intro W base args ds gs before hval hW _ _ _ hL _ _
  have hd : ds = [] := by
    obtain ⟨p, q, hA, _⟩ := hW
    have hA' : DataW.TrodAll enc Try.prog W 0 (fun _ => true) true [] args.toList ds p := hA
    exact (trodAll_nil hA').2.1
  subst hd
  exact law_contract (n := 4) mixed E_fn laidOut (by kernel_rfl) (tb := 4) (by kernel_rfl) Try.underlying4 rfl hval hW glob rfl (xs := []) rfl examples_run
theorem proved : Rows.ParserExamplesSaid :=
  OpenClaim.holds_of_cond 3 Try.f3 rfl rfl rfl rfl rfl rfl rfl ⟨rfl, rfl, rfl, rfl, rfl⟩ rfl rfl rfl rfl rfl (by kernel_rfl) Try.func3 (by kernel_rfl)
    (of_decide_eq_true (by kernel_rfl)) (by unfold Func.isWrapper; first | (rw [if_pos (by decide +kernel)]; kernel_rfl) | (rw [if_neg (by decide +kernel)]; exact ⟨rfl, rfl⟩))
    (fun os started H enc _ F => by rw [OpenClaim.pre_eq_preRow]; exact lifted os started H enc F)
end parserExamples
end Go.Proofs.Ytkomfefpfalajaa
