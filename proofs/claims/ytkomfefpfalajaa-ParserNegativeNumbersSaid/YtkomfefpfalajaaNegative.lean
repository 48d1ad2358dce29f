/- ParserNegativeNumbers returns true for every argument. -/
import Derived.Test.YtkomfefpfalajaaN2
import Derived.Test.YtkomfefpfalajaaAb5
namespace Go.Proofs.Ytkomfefpfalajaa
open Go Go.Proofs Ab Go.RowKit Go.ChangeShapes Go.WideShapes
set_option maxRecDepth 100000
namespace parserNegativeNumbers
theorem plainTypes : closedT Try.prog [3, 2] = true := by kernel_rfl
theorem lifted (os : Os) (started : os.Started) (H : Type) (enc : TypeId × Value → H) (F : Stop.Interp) :
    ReturnsInHanded {} Try.checked os 8 .any ((OpenSpec.ofChange Rows.parserNegativeNumbersSpec).preRow enc Try.prog Try.f8 Rows.parserNegativeNumbersRow.domain false Rows.parserNegativeNumbersRow.laid) (((OpenSpec.ofChange Rows.parserNegativeNumbersSpec).at F).post enc Try.prog Try.f8 false true false false) := by
  refine returnsInHanded_of_row (C := Try.checked) (s := OpenSpec.ofChange Rows.parserNegativeNumbersSpec) own started (by kernel_rfl) Try.func8
    (witness_row_at (enc := enc) (C := Try.checked) false (World.holding Try.prog os ⟨#[], #[], []⟩) #[.int .i64 0, .int .i64 0] rfl (by kernel_rfl) (by kernel_rfl) (by kernel_rfl)
      (OpenSpec.preRow_of_cond (x := ([.lit (.int .i64 0), .lit (.int .i64 0)], [], [])) 8 (by kernel_rfl) (by kernel_rfl) (fun k hk => by cases hk) (by kernel_rfl) ⟨[], rfl, List.nodup_nil, fun b off h => by cases h⟩)) ?_
  intro W base args ds gs before hval hW _ hcond _ hL _ _
  have hW' := hW
  obtain ⟨p, q, hA0, _⟩ := hW'
  have hA : DataW.TrodAll enc Try.prog W 0 (fun _ => true) true [2, 3] args.toList ds p := hA0
  obtain ⟨v0, vs0, d0, ds0, p0, q0, hargs, rfl, rfl, h0, r0⟩ := trodAll_cons hA
  obtain ⟨v1, vs1, d1, ds1, p1, q1, rfl, rfl, rfl, h1, r1⟩ := trodAll_cons r0
  obtain ⟨rfl, rfl, rfl⟩ := trodAll_nil r1
  obtain ⟨N0, m0, xs0, e0, s0⟩ := open_arg plainTypes (t := 2) (by decide) h0
  obtain ⟨a0, rfl, w0⟩ := sh_int Try.underlying2 s0
  obtain ⟨N1, m1, xs1, e1, s1⟩ := open_arg plainTypes (t := 3) (by decide) h1
  obtain ⟨a1, rfl, w1⟩ := sh_int Try.underlying3 s1
  obtain ⟨N, hN⟩ : ∃ N, N = N0 + N1 := ⟨_, rfl⟩
  exact law_contract (E := E1) (n := N) mixed E1_fn E1_sp laidOut (by kernel_rfl) (tb := 4) (by kernel_rfl) Try.underlying4 rfl hval hW glob1 rfl (xs := [.int .i64 a0, .int .i64 a1]) (davs_cons (dav_one (by kernel_rfl) (e0 N (by omega))) (davs_cons (dav_one (by kernel_rfl) (e1 N (by omega))) (davs_nil))) (neg_run a0 a1 (wf_i64 w0))
theorem proved : Rows.ParserNegativeNumbersSaid :=
  OpenClaim.holds_of_cond 8 Try.f8 rfl rfl rfl rfl rfl rfl rfl ⟨rfl, rfl, rfl, rfl, rfl⟩ rfl rfl rfl rfl rfl (by kernel_rfl) Try.func8 (by kernel_rfl)
    (of_decide_eq_true (by kernel_rfl)) (by unfold Func.isWrapper; first | (rw [if_pos (by decide +kernel)]; kernel_rfl) | (rw [if_neg (by decide +kernel)]; exact ⟨rfl, rfl⟩))
    (fun os started H enc _ F => by rw [OpenClaim.pre_eq_preRow]; exact lifted os started H enc F)
end parserNegativeNumbers
end Go.Proofs.Ytkomfefpfalajaa
