/- ParserExpressions returns true for every argument. -/
import Derived.Test.YtkomfefpfalajaaL4
import Derived.Test.YtkomfefpfalajaaAb5
namespace Go.Proofs.Ytkomfefpfalajaa
open Go Go.Proofs Ab Go.RowKit Go.ChangeShapes Go.WideShapes
set_option maxRecDepth 100000
namespace parserExpressions
theorem plainTypes : closedT Try.prog [40, 3, 2] = true := by kernel_rfl
theorem lifted (os : Os) (started : os.Started) (H : Type) (enc : TypeId × Value → H) (F : Stop.Interp) :
    ReturnsInHanded {} Try.checked os 4 .any ((OpenSpec.ofChange Rows.parserExpressionsSpec).preRow enc Try.prog Try.f4 Rows.parserExpressionsRow.domain false Rows.parserExpressionsRow.laid) (((OpenSpec.ofChange Rows.parserExpressionsSpec).at F).post enc Try.prog Try.f4 false true false false) := by
  refine returnsInHanded_of_row (C := Try.checked) (s := OpenSpec.ofChange Rows.parserExpressionsSpec) own started (by kernel_rfl) Try.func4
    (witness_row_at (enc := enc) (C := Try.checked) false (World.holding Try.prog os ⟨#[], #[], []⟩) #[.slice none 0 0] rfl (by kernel_rfl) (by kernel_rfl) (by kernel_rfl)
      (OpenSpec.preRow_of_cond (x := ([.nil], [], [])) 8 (by kernel_rfl) (by kernel_rfl) (fun k hk => by cases hk) (by kernel_rfl) ⟨[], rfl, List.nodup_nil, fun b off h => by cases h⟩)) ?_
  intro W base args ds gs before hval hW _ hcond _ hL _ _
  have hW' := hW
  obtain ⟨p, q, hA0, _⟩ := hW'
  have hA : DataW.TrodAll enc Try.prog W 0 (fun _ => true) true [40] args.toList ds p := hA0
  obtain ⟨v0, vs0, d0, ds0, p0, q0, hargs, rfl, rfl, h0, r0⟩ := trodAll_cons hA
  obtain ⟨rfl, rfl, rfl⟩ := trodAll_nil r0
  obtain ⟨N0, m0, xs0, e0, s0⟩ := open_arg plainTypes (t := 40) (by decide) h0
  obtain ⟨l0, hl0, rfl, b0⟩ := sh_ints Try.underlying40 Try.underlying3 (by kernel_rfl) s0
  obtain ⟨N, hN⟩ : ∃ N, N = N0 := ⟨_, rfl⟩
  exact law_contract (E := E1) (n := N) mixed E1_fn E1_sp laidOut (by kernel_rfl) (tb := 4) (by kernel_rfl) Try.underlying4 rfl hval hW glob1 rfl (xs := [.sl .none (l0.map (AV.int .i64))]) (davs_cons (dav_one (by kernel_rfl) (e0 N (by omega))) (davs_nil)) (expr_run l0 hl0 b0 )
theorem proved : Rows.ParserExpressionsSaid :=
  OpenClaim.holds_of_cond 4 Try.f4 rfl rfl rfl rfl rfl rfl rfl ⟨rfl, rfl, rfl, rfl, rfl⟩ rfl rfl rfl rfl rfl (by kernel_rfl) Try.func4 (by kernel_rfl)
    (of_decide_eq_true (by kernel_rfl)) (by unfold Func.isWrapper; first | (rw [if_pos (by decide +kernel)]; kernel_rfl) | (rw [if_neg (by decide +kernel)]; exact ⟨rfl, rfl⟩))
    (fun os started H enc _ F => by rw [OpenClaim.pre_eq_preRow]; exact lifted os started H enc F)
end parserExpressions
end Go.Proofs.Ytkomfefpfalajaa
