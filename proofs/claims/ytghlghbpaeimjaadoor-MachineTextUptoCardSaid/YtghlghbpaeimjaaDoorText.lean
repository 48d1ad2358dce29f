/- MachineText returns true for every argument; the program's table reads as the program lays it. -/
import Derived.Test.YtghlghbpaeimjaaDoorM16
import Derived.Test.YtghlghbpaeimjaaDoorAb5
namespace Go.Proofs.YtghlghbpaeimjaaDoor
open Go Go.Proofs Ab Go.RowKit Go.ChangeShapes Go.WideShapes
set_option maxRecDepth 100000
namespace machineTextUpto
theorem sh_instr {n : Nat} {xs : List AV} (h : ShF Tryd.prog n 27 xs) : ∃ a b c d e, xs = [.int .i64 a, .int .i64 b, .int .i64 c, .int .i64 d, .int .i64 e] := by
  obtain ⟨m, xss, rfl, rfl, ha⟩ := sh_struct Tryd.underlying27 h
  cases ha with | cons h1 ha =>
  cases ha with | cons h2 ha =>
  cases ha with | cons h3 ha =>
  cases ha with | cons h4 ha =>
  cases ha with | cons h5 ha =>
  cases ha
  obtain ⟨a, rfl, _⟩ := sh_int (t := 3) Tryd.underlying3 h1
  obtain ⟨b, rfl, _⟩ := sh_int (t := 3) Tryd.underlying3 h2
  obtain ⟨c, rfl, _⟩ := sh_int (t := 3) Tryd.underlying3 h3
  obtain ⟨d, rfl, _⟩ := sh_int (t := 3) Tryd.underlying3 h4
  obtain ⟨e, rfl, _⟩ := sh_int Tryd.underlying2 h5
  exact ⟨a, b, c, d, e, rfl⟩
theorem plainTypes : closedT Tryd.prog [3, 9, 27, 2] = true := by kernel_rfl
theorem lifted (os : Os) (started : os.Started) (H : Type) (enc : TypeId × Value → H) (F : Stop.Interp) :
    ReturnsInHanded {} Tryd.checked os 5 .any ((Rows.OpenSpec.upto Rows.machineTextSpec).preRow enc Tryd.prog Tryd.f5 Rows.machineTextUptoRow.domain false Rows.machineTextUptoRow.laid) (((Rows.OpenSpec.upto Rows.machineTextSpec).at F).post enc Tryd.prog Tryd.f5 false true false false) := by
  refine returnsInHanded_of_row (C := Tryd.checked) (s := Rows.OpenSpec.upto Rows.machineTextSpec) own started (by kernel_rfl) Tryd.func5
    (witness_row_atRef (enc := enc) (C := Tryd.checked) false (laidWorld os) #[.agg #[.int .i64 0, .int .i64 0, .int .i64 0, .int .i64 0, .int .i64 0], .int .i64 0, .int .i64 0, .int .i64 0, .string ⟨#[]⟩, .int .i64 0] rfl (by kernel_rfl) (by kernel_rfl) (by kernel_rfl)
      (OpenSpec.preRow_of_cond (x := ([.agg [.lit (.int .i64 0), .lit (.int .i64 0), .lit (.int .i64 0), .lit (.int .i64 0), .lit (.int .i64 0)], .lit (.int .i64 0), .lit (.int .i64 0), .lit (.int .i64 0), .lit (.string []), .lit (.int .i64 0)], [], [])) 8 (by kernel_rfl) (by kernel_rfl) (fun k hk => by cases hk; kernel_rfl) (by kernel_rfl) (laid_met os _))) ?_
  intro W base args ds gs before hval hW _ hcond _ hL _ _
  have hW' := hW
  obtain ⟨p, q, hA0, _⟩ := hW'
  have hA : DataW.TrodAll enc Tryd.prog W 0 (fun _ => true) true [27, 3, 3, 3, 9, 3] args.toList ds p := hA0
  obtain ⟨v0, vs0, d0, ds0, p0, q0, hargs, rfl, rfl, h0, r0⟩ := trodAll_cons hA
  obtain ⟨v1, vs1, d1, ds1, p1, q1, rfl, rfl, rfl, h1, r1⟩ := trodAll_cons r0
  obtain ⟨v2, vs2, d2, ds2, p2, q2, rfl, rfl, rfl, h2, r2⟩ := trodAll_cons r1
  obtain ⟨v3, vs3, d3, ds3, p3, q3, rfl, rfl, rfl, h3, r3⟩ := trodAll_cons r2
  obtain ⟨v4, vs4, d4, ds4, p4, q4, rfl, rfl, rfl, h4, r4⟩ := trodAll_cons r3
  obtain ⟨v5, vs5, d5, ds5, p5, q5, rfl, rfl, rfl, h5, r5⟩ := trodAll_cons r4
  obtain ⟨rfl, rfl, rfl⟩ := trodAll_nil r5
  obtain ⟨N0, m0, xs0, e0, s0⟩ := open_arg plainTypes (t := 27) (by decide) h0
  obtain ⟨a0, b0, c0, f0, g0, rfl⟩ := sh_instr s0
  obtain ⟨N1, m1, xs1, e1, s1⟩ := open_arg plainTypes (t := 3) (by decide) h1
  obtain ⟨a1, rfl, w1⟩ := sh_int Tryd.underlying3 s1
  obtain ⟨N2, m2, xs2, e2, s2⟩ := open_arg plainTypes (t := 3) (by decide) h2
  obtain ⟨a2, rfl, w2⟩ := sh_int Tryd.underlying3 s2
  obtain ⟨N3, m3, xs3, e3, s3⟩ := open_arg plainTypes (t := 3) (by decide) h3
  obtain ⟨a3, rfl, w3⟩ := sh_int Tryd.underlying3 s3
  obtain ⟨N4, m4, xs4, e4, s4⟩ := open_arg plainTypes (t := 9) (by decide) h4
  obtain ⟨a4, rfl, w4⟩ := sh_str Tryd.underlying9 s4
  obtain ⟨N5, m5, xs5, e5, s5⟩ := open_arg plainTypes (t := 3) (by decide) h5
  obtain ⟨a5, rfl, w5⟩ := sh_int Tryd.underlying3 s5
  obtain ⟨N, hN⟩ : ∃ N, N = N0 + N1 + N2 + N3 + N4 + N5 := ⟨_, rfl⟩
  have hbulk := of_decide_eq_true (hcond _ rfl)
  simp only [List.cons_append, Rows.uptoBulkAll] at hbulk
  have hd4 := dlv_str Tryd.underlying9 (e4 N4 (Nat.le_refl _))
  have hs4 : a4.length ≤ 1900000 := by
    rw [hd4] at hbulk
    simp only [Rows.uptoBulk] at hbulk
    omega
  exact law_contract (E := E2) (n := N) mixed fnOk E2_sp laidOut (by kernel_rfl) (tb := 4) (by kernel_rfl) Tryd.underlying4 rfl hval hW (glob hL) rfl (xs := [instrV a0 b0 c0 f0 g0, .int .i64 a1, .int .i64 a2, .int .i64 a3, .str a4, .int .i64 a5]) (davs_cons (dav_agg (by kernel_rfl) (e0 N (by omega))) (davs_cons (dav_one (by kernel_rfl) (e1 N (by omega))) (davs_cons (dav_one (by kernel_rfl) (e2 N (by omega))) (davs_cons (dav_one (by kernel_rfl) (e3 N (by omega))) (davs_cons (dav_one (by kernel_rfl) (e4 N (by omega))) (davs_cons (dav_one (by kernel_rfl) (e5 N (by omega))) (davs_nil))))))) (text_run a0 b0 c0 f0 g0 a1 a2 a3 a4 a5 (wf_i64 w1) hs4)
theorem said : Rows.MachineTextUptoSaid :=
  OpenClaim.holds_of_cond 5 Tryd.f5 rfl rfl rfl rfl rfl rfl rfl ⟨rfl, rfl, rfl, rfl, rfl⟩ rfl rfl rfl rfl rfl (by kernel_rfl) Tryd.func5 (by kernel_rfl)
    (of_decide_eq_true (by kernel_rfl)) (by unfold Func.isWrapper; first | (rw [if_pos (by decide +kernel)]; kernel_rfl) | (rw [if_neg (by decide +kernel)]; exact ⟨rfl, rfl⟩))
    (fun os started H enc _ F => by rw [OpenClaim.pre_eq_preRow]; exact lifted os started H enc F)
theorem plain (f : FuncId) (fn : Func) (hf : Tryd.pinned.checked.prog.funcNamed "fulling/fullinglaw29.MachineText" = some f) (hfn : Tryd.pinned.checked.prog.funcs[f]? = some fn) :
    false = Tryd.pinned.checked.prog.looks [] ∧ ∀ (j : Nat) t, fn.params[j]? = some t → Tryd.pinned.checked.prog.wantsStandIn t = false := by
  obtain rfl : f = 5 := Option.some.inj ((show Tryd.prog.funcNamed "fulling/fullinglaw29.MachineText" = some 5 by kernel_rfl).symm.trans hf) |>.symm
  obtain rfl : fn = Tryd.f5 := (Option.some.inj (Tryd.func5.symm.trans hfn)).symm
  refine ⟨by kernel_rfl, fun j t ht => ?_⟩
  have hp : Tryd.f5.params = #[27, 3, 3, 3, 9, 3] := by kernel_rfl
  rw [hp] at ht
  have hall : ∀ u ∈ #[27, 3, 3, 3, 9, 3], Tryd.prog.wantsStandIn u = false := by
    intro u hu
    have hu' : u ∈ [27, 3, 3, 3, 9, 3] := by simpa using hu
    have := List.all_eq_true.1 (show [27, 3, 3, 3, 9, 3].all (fun u => !Tryd.prog.wantsStandIn u) = true by kernel_rfl) u hu'
    simpa using this
  exact hall t (Array.mem_of_getElem? ht)
theorem card : Rows.MachineTextUptoCardSaid :=
  Claim7.holds_tied_plain_at .later [] _ _ _ _ said (fun _ h => by cases h) (by kernel_rfl) (fun _ h => by cases h) machineTextUpto_row_tie rfl ⟨rfl, rfl⟩ (by kernel_rfl) rfl plain (by kernel_rfl)
end machineTextUpto
end Go.Proofs.YtghlghbpaeimjaaDoor
