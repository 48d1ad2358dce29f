/- MachineDistinct returns true for every argument; the program's table reads as the program lays it. -/
import Derived.Test.YtghlghbpaeimjaaDoorM15
import Derived.Test.YtghlghbpaeimjaaDoorAb5
namespace Go.Proofs.YtghlghbpaeimjaaDoor
open Go Go.Proofs Ab Go.RowKit Go.ChangeShapes Go.WideShapes
set_option maxRecDepth 100000
namespace machineDistinct
theorem plainTypes : closedT Tryd.prog [3, 2] = true := by kernel_rfl
theorem lifted (os : Os) (started : os.Started) (H : Type) (enc : TypeId × Value → H) (F : Stop.Interp) :
    ReturnsInHanded {} Tryd.checked os 7 .any ((OpenSpec.ofChange Rows.machineDistinctSpec).preRow enc Tryd.prog Tryd.f7 Rows.machineDistinctRow.domain false Rows.machineDistinctRow.laid) (((OpenSpec.ofChange Rows.machineDistinctSpec).at F).post enc Tryd.prog Tryd.f7 false true false false) := by
  refine returnsInHanded_of_row (C := Tryd.checked) (s := OpenSpec.ofChange Rows.machineDistinctSpec) own started (by kernel_rfl) Tryd.func7
    (witness_row_atRef (enc := enc) (C := Tryd.checked) false (laidWorld os) #[.int .i64 0, .int .i64 0, .int .i64 0, .int .i64 0] rfl (by kernel_rfl) (by kernel_rfl) (by kernel_rfl)
      (OpenSpec.preRow_of_cond (x := ([.lit (.int .i64 0), .lit (.int .i64 0), .lit (.int .i64 0), .lit (.int .i64 0)], [], [])) 8 (by kernel_rfl) (by kernel_rfl) (fun k hk => by cases hk) (by kernel_rfl) (laid_met os _))) ?_
  intro W base args ds gs before hval hW _ hcond _ hL _ _
  have hW' := hW
  obtain ⟨p, q, hA0, _⟩ := hW'
  have hA : DataW.TrodAll enc Tryd.prog W 0 (fun _ => true) true [3, 3, 3, 3] args.toList ds p := hA0
  obtain ⟨v0, vs0, d0, ds0, p0, q0, hargs, rfl, rfl, h0, r0⟩ := trodAll_cons hA
  obtain ⟨v1, vs1, d1, ds1, p1, q1, rfl, rfl, rfl, h1, r1⟩ := trodAll_cons r0
  obtain ⟨v2, vs2, d2, ds2, p2, q2, rfl, rfl, rfl, h2, r2⟩ := trodAll_cons r1
  obtain ⟨v3, vs3, d3, ds3, p3, q3, rfl, rfl, rfl, h3, r3⟩ := trodAll_cons r2
  obtain ⟨rfl, rfl, rfl⟩ := trodAll_nil r3
  obtain ⟨N0, m0, xs0, e0, s0⟩ := open_arg plainTypes (t := 3) (by decide) h0
  obtain ⟨a0, rfl, w0⟩ := sh_int Tryd.underlying3 s0
  obtain ⟨N1, m1, xs1, e1, s1⟩ := open_arg plainTypes (t := 3) (by decide) h1
  obtain ⟨a1, rfl, w1⟩ := sh_int Tryd.underlying3 s1
  obtain ⟨N2, m2, xs2, e2, s2⟩ := open_arg plainTypes (t := 3) (by decide) h2
  obtain ⟨a2, rfl, w2⟩ := sh_int Tryd.underlying3 s2
  obtain ⟨N3, m3, xs3, e3, s3⟩ := open_arg plainTypes (t := 3) (by decide) h3
  obtain ⟨a3, rfl, w3⟩ := sh_int Tryd.underlying3 s3
  obtain ⟨N, hN⟩ : ∃ N, N = N0 + N1 + N2 + N3 := ⟨_, rfl⟩
  exact law_contract (E := E2) (n := N) mixed fnOk E2_sp laidOut (by kernel_rfl) (tb := 4) (by kernel_rfl) Tryd.underlying4 rfl hval hW (glob hL) rfl (xs := [.int .i64 a0, .int .i64 a1, .int .i64 a2, .int .i64 a3]) (davs_cons (dav_one (by kernel_rfl) (e0 N (by omega))) (davs_cons (dav_one (by kernel_rfl) (e1 N (by omega))) (davs_cons (dav_one (by kernel_rfl) (e2 N (by omega))) (davs_cons (dav_one (by kernel_rfl) (e3 N (by omega))) (davs_nil))))) (distinct_run a0 a1 a2 a3 (wf_i64 w0) (wf_i64 w1))
theorem said : Rows.MachineDistinctSaid :=
  OpenClaim.holds_of_cond 7 Tryd.f7 rfl rfl rfl rfl rfl rfl rfl ⟨rfl, rfl, rfl, rfl, rfl⟩ rfl rfl rfl rfl rfl (by kernel_rfl) Tryd.func7 (by kernel_rfl)
    (of_decide_eq_true (by kernel_rfl)) (by unfold Func.isWrapper; first | (rw [if_pos (by decide +kernel)]; kernel_rfl) | (rw [if_neg (by decide +kernel)]; exact ⟨rfl, rfl⟩))
    (fun os started H enc _ F => by rw [OpenClaim.pre_eq_preRow]; exact lifted os started H enc F)
theorem plain (f : FuncId) (fn : Func) (hf : Tryd.pinned.checked.prog.funcNamed "fulling/fullinglaw29.MachineDistinct" = some f) (hfn : Tryd.pinned.checked.prog.funcs[f]? = some fn) :
    false = Tryd.pinned.checked.prog.looks [] ∧ ∀ (j : Nat) t, fn.params[j]? = some t → Tryd.pinned.checked.prog.wantsStandIn t = false := by
  obtain rfl : f = 7 := Option.some.inj ((show Tryd.prog.funcNamed "fulling/fullinglaw29.MachineDistinct" = some 7 by kernel_rfl).symm.trans hf) |>.symm
  obtain rfl : fn = Tryd.f7 := (Option.some.inj (Tryd.func7.symm.trans hfn)).symm
  refine ⟨by kernel_rfl, fun j t ht => ?_⟩
  have hp : Tryd.f7.params = #[3, 3, 3, 3] := by kernel_rfl
  rw [hp] at ht
  have hall : ∀ u ∈ #[3, 3, 3, 3], Tryd.prog.wantsStandIn u = false := by
    intro u hu
    have hu' : u ∈ [3, 3, 3, 3] := by simpa using hu
    have := List.all_eq_true.1 (show [3, 3, 3, 3].all (fun u => !Tryd.prog.wantsStandIn u) = true by kernel_rfl) u hu'
    simpa using this
  exact hall t (Array.mem_of_getElem? ht)
theorem card : Rows.MachineDistinctCardSaid :=
  Claim7.holds_tied_plain_at .later [] _ _ _ _ said (fun _ h => by cases h) (by kernel_rfl) (fun _ h => by cases h) machineDistinct_row_tie rfl ⟨rfl, rfl⟩ (by kernel_rfl) rfl plain (by kernel_rfl)
end machineDistinct
end Go.Proofs.YtghlghbpaeimjaaDoor
