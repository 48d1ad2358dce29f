/- MachineExamples returns true: for the table that the program lays, with no argument. -/
import Derived.Test.YtghlghbpaeimjaaDoorBase
namespace Go.Proofs.YtghlghbpaeimjaaDoor
open Go Go.Proofs Ab Go.RowKit Go.ChangeShapes Go.WideShapes
set_option maxRecDepth 100000
def isTrue? (x : Option (AV × Heap)) : Bool := match x with | some (.bool true, []) => true | _ => false
theorem of_isTrue? {x : Option (AV × Heap)} (h : isTrue? x = true) : x = some (.bool true, []) := by
  unfold isTrue? at h
  split at h
  · rfl
  · cases h
theorem examples_run : callF E 3 [] [] = some (.bool true, []) :=
  callF_of (n := 400) (of_isTrue? (by kernel_rfl))
namespace machineExamples
theorem lifted (os : Os) (started : os.Started) (H : Type) (enc : TypeId × Value → H) (F : Stop.Interp) :
    ReturnsInHanded {} Tryd.checked os 3 .any ((OpenSpec.ofChange Rows.machineExamplesSpec).preRow enc Tryd.prog Tryd.f3 Rows.machineExamplesRow.domain false Rows.machineExamplesRow.laid) (((OpenSpec.ofChange Rows.machineExamplesSpec).at F).post enc Tryd.prog Tryd.f3 false true false false) := by
  refine returnsInHanded_of_row (C := Tryd.checked) (s := OpenSpec.ofChange Rows.machineExamplesSpec) own started (by kernel_rfl) Tryd.func3
    (witness_row_atRef (enc := enc) (C := Tryd.checked) false (laidWorld os) #[] rfl (by kernel_rfl) (by kernel_rfl) (by kernel_rfl)
      (OpenSpec.preRow_of_cond (x := ([], [], [])) 8 (by kernel_rfl) (by kernel_rfl) (fun k hk => by cases hk) (by kernel_rfl) (laid_met os _))) ?_
  intro W base args ds gs before hval hW _ _ _ hL _ _
  have hd : ds = [] := by
    obtain ⟨p, q, hA, _⟩ := hW
    have hA' : DataW.TrodAll enc Tryd.prog W 0 (fun _ => true) true [] args.toList ds p := hA
    exact (trodAll_nil hA').2.1
  subst hd
  exact law_contract (n := 4) mixed E_fn laidOut (by kernel_rfl) (tb := 4) (by kernel_rfl) Tryd.underlying4 rfl hval hW (glob hL) rfl (xs := []) rfl examples_run
theorem said : Rows.MachineExamplesSaid :=
  OpenClaim.holds_of_cond 3 Tryd.f3 rfl rfl rfl rfl rfl rfl rfl ⟨rfl, rfl, rfl, rfl, rfl⟩ rfl rfl rfl rfl rfl (by kernel_rfl) Tryd.func3 (by kernel_rfl)
    (of_decide_eq_true (by kernel_rfl)) (by unfold Func.isWrapper; first | (rw [if_pos (by decide +kernel)]; kernel_rfl) | (rw [if_neg (by decide +kernel)]; exact ⟨rfl, rfl⟩))
    (fun os started H enc _ F => by rw [OpenClaim.pre_eq_preRow]; exact lifted os started H enc F)
theorem plain (f : FuncId) (fn : Func) (hf : Tryd.pinned.checked.prog.funcNamed "fulling/fullinglaw29.MachineExamples" = some f) (hfn : Tryd.pinned.checked.prog.funcs[f]? = some fn) :
    false = Tryd.pinned.checked.prog.looks [] ∧ ∀ (j : Nat) t, fn.params[j]? = some t → Tryd.pinned.checked.prog.wantsStandIn t = false := by
  obtain rfl : f = 3 := Option.some.inj ((show Tryd.prog.funcNamed "fulling/fullinglaw29.MachineExamples" = some 3 by kernel_rfl).symm.trans hf) |>.symm
  obtain rfl : fn = Tryd.f3 := (Option.some.inj (Tryd.func3.symm.trans hfn)).symm
  refine ⟨by kernel_rfl, fun j t ht => ?_⟩
  have hp : Tryd.f3.params = #[] := by kernel_rfl
  rw [hp] at ht
  simp at ht
theorem card : Rows.MachineExamplesCardSaid :=
  Claim7.holds_tied_plain_at .later [] _ _ _ _ said (fun _ h => by cases h) (by kernel_rfl) (fun _ h => by cases h) machineExamples_row_tie rfl ⟨rfl, rfl⟩ (by kernel_rfl) rfl plain (by kernel_rfl)
end machineExamples
end Go.Proofs.YtghlghbpaeimjaaDoor
