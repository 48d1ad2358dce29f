/- Info's row, field by field; Valid and ControlFlow, of the program and of the reference. -/
import Derived.Test.YtghlghbpaeimjaaDoorM1
namespace Go.Proofs.YtghlghbpaeimjaaDoor
open Go Go.Proofs Ab
set_option maxRecDepth 100000
set_option linter.unusedSimpArgs false
def avS : AV → List UInt8
  | .str s => s
  | _ => []
def avI : AV → Int
  | .int _ n => n
  | _ => 0
def avB : AV → Bool
  | .bool b => b
  | _ => false
def iRow (op : Int) : List AV := match infoV op with | .tup [.agg xs, _] => xs | _ => []
def iName (op : Int) : List UInt8 := avS ((iRow op).getD 0 .no)
def iForm (op : Int) : Int := avI ((iRow op).getD 1 .no)
def iRA (op : Int) : Bool := avB ((iRow op).getD 2 .no)
def iWA (op : Int) : Bool := avB ((iRow op).getD 3 .no)
def iRB (op : Int) : Bool := avB ((iRow op).getD 4 .no)
def iMT (op : Int) : Bool := avB ((iRow op).getD 5 .no)
def iWords (op : Int) : Int := avI ((iRow op).getD 6 .no)
def iOk (op : Int) : Bool := match infoV op with | .tup [_, .bool b] => b | _ => false
theorem info_eq (op : Int) : infoV op = .tup [.agg [.str (iName op), .int .i64 (iForm op), .bool (iRA op), .bool (iWA op), .bool (iRB op), .bool (iMT op), .int .i64 (iWords op)], .bool (iOk op)] := by
  obtain ⟨nm, f, a, b, c, d, w, ok, hi, _⟩ := infoV_shape op
  simp only [iName, iForm, iRA, iWA, iRB, iMT, iWords, iOk, iRow, hi]
  rfl
/-- what holds at each of the operations and outside of them -/
theorem op_all {p : Int → Prop} [DecidablePred p] (h : (List.range 37).all (fun k => decide (p (Int.ofNat (k + 1)))) = true) : ∀ op, 1 ≤ op → op ≤ 37 → p op := by
  intro op h1 h2
  have := List.all_eq_true.1 h (op - 1).toNat (by rw [List.mem_range]; omega)
  have e : Int.ofNat ((op - 1).toNat + 1) = op := by simp; omega
  rw [e] at this
  exact of_decide_eq_true this
theorem infoV_out {op : Int} (h : ¬ (1 ≤ op ∧ op ≤ 37)) : infoV op = .tup [.agg noInfo, .bool false] := by
  unfold infoV
  split
  · unfold infoAt
    rw [List.getElem?_eq_none (by rw [table_len]; omega)]
  · rfl
theorem iOk_eq (op : Int) : iOk op = decide (1 ≤ op ∧ op ≤ 37) := by
  by_cases h : 1 ≤ op ∧ op ≤ 37
  · rw [decide_eq_true h]
    exact op_all (p := fun op => iOk op = true) (by decide +kernel) op h.1 h.2
  · rw [decide_eq_false h]
    unfold iOk
    rw [infoV_out h]
theorem iForm_eq (op : Int) : iForm op = formR op := by
  by_cases h : 1 ≤ op ∧ op ≤ 37
  · exact op_all (p := fun op => iForm op = formR op) (by decide +kernel) op h.1 h.2
  · have : iForm op = 0 := by
      unfold iForm iRow
      rw [infoV_out h]
      rfl
    rw [this]
    unfold formR
    repeat' split
    all_goals omega
theorem form_ok (op : Int) : formR op ≠ 0 ↔ (1 ≤ op ∧ op ≤ 37) := by
  unfold formR
  repeat' split
  all_goals omega
theorem info9' (op : Int) (H : Heap) : callF E2 9 [.int .i64 op] H = some (.tup [.agg [.str (iName op), .int .i64 (formR op), .bool (iRA op), .bool (iWA op), .bool (iRB op), .bool (iMT op), .int .i64 (iWords op)], .bool (decide (1 ≤ op ∧ op ≤ 37))], H) := by
  rw [c9_2', info_eq, iForm_eq, iOk_eq]
theorem info15' (op : Int) (H : Heap) : callF E2 15 [.int .i64 op] H = some (.tup [.agg [.str (iName op), .int .i64 (formR op), .bool (iRA op), .bool (iWA op), .bool (iRB op), .bool (iMT op), .int .i64 (iWords op)], .bool (decide (1 ≤ op ∧ op ≤ 37))], H) := by
  rw [c15_2', info_eq, iForm_eq, iOk_eq]
def opFacts (op : Int) : Bool := decide ((hasN op = decide (5 ≤ formR op ∧ formR op ≤ 8)) ∧ (op = 6 → formR op = 5) ∧ ((op = 11 ∨ op = 12) ↔ formR op = 4))
theorem hasN_eq (op : Int) : hasN op = decide (5 ≤ formR op ∧ formR op ≤ 8) := by
  unfold hasN formR
  repeat' split
  all_goals (simp; omega)
def validP (op a b c n : Int) : Prop := (1 ≤ op ∧ op ≤ 37) ∧ ((2 ≤ formR op ∧ formR op ≤ 7) ∨ a = 0) ∧ ((formR op = 3 ∨ formR op = 4 ∨ formR op = 7) ∨ b = 0) ∧ (formR op = 4 ∨ c = 0) ∧ ((5 ≤ formR op ∧ formR op ≤ 8) ∨ n = 0) ∧
  (0 ≤ a ∧ a ≤ 7 ∧ (op = 6 → a ≤ 6)) ∧ (0 ≤ b ∧ b < 8) ∧ (0 ≤ c ∧ c < 8) ∧ ((5 ≤ formR op ∧ formR op ≤ 8) → (loI op ≤ n ∧ n ≤ hiI op))
instance (op a b c n : Int) : Decidable (validP op a b c n) := by unfold validP; infer_instance
abbrev instrV (op a b c n : Int) : AV := .agg [.int .i64 op, .int .i64 a, .int .i64 b, .int .i64 c, .int .i64 n]
theorem form6 : formR 6 = 5 := rfl
theorem form_rng (op : Int) : 0 ≤ formR op ∧ formR op ≤ 8 := by
  unfold formR
  repeat' split
  all_goals omega
set_option maxHeartbeats 1000000 in
theorem valid23 (op a b c n : Int) (H : Heap) : callF E2 23 [instrV op a b c n] H = some (.bool (decide (validP op a b c n)), H) := by
  rw [go (fn := F23) rfl rfl rfl]
  simp [F23, info9', fields30, range42]
  repeat' (refine ifE (fun _ => ?_) (fun _ => ?_))
  all_goals (refine fin_bool ?_; simp only [decide_eq_true_eq, Bool.and_eq_true, Bool.false_eq_true, eq_self, true_iff, false_iff]; unfold validP; omega)
set_option maxHeartbeats 1000000 in
theorem valid26 (op a b c n : Int) (H : Heap) : callF E2 26 [instrV op a b c n] H = some (.bool (decide (validP op a b c n)), H) := by
  rw [go (fn := F26) rfl rfl rfl]
  simp [F26, form34, bounds43, reg44, hasN_eq]
  have h1 := form_ok op
  have h2 := form_rng op
  have h3 : op = 6 → formR op = 5 := fun h => by rw [h]; rfl
  repeat' (refine ifE (fun _ => ?_) (fun _ => ?_))
  all_goals (refine fin_bool ?_; simp only [decide_eq_true_eq, Bool.and_eq_true, Bool.false_eq_true, eq_self, true_iff, false_iff]; unfold validP; omega)
theorem flow24 (op a b c n : Int) (H : Heap) : callF E2 24 [instrV op a b c n] H = some (.tup [.bool (decide (validP op a b c n ∧ op ≠ 2 ∧ op ≠ 4 ∧ op ≠ 5)), .bool (decide (validP op a b c n ∧ (op = 5 ∨ op = 7 ∨ op = 8)))], H) := by
  rw [go (fn := F24) rfl rfl rfl]
  simp [F24, valid23]
  by_cases hv : validP op a b c n
  · simp only [hv, true_and, if_true]
    repeat' (refine ifE (fun _ => ?_) (fun _ => ?_))
    all_goals (refine fin_bool2 ?_ ?_ <;> simp <;> omega)
  · simp [hv]
theorem flow25 (op a b c n : Int) (H : Heap) : callF E2 25 [instrV op a b c n] H = some (.tup [.bool (decide (validP op a b c n ∧ op ≠ 2 ∧ op ≠ 4 ∧ op ≠ 5)), .bool (decide (validP op a b c n ∧ (op = 5 ∨ op = 7 ∨ op = 8)))], H) := by
  rw [go (fn := F25) rfl rfl rfl]
  simp [F25, valid26]
  by_cases hv : validP op a b c n
  · simp only [hv, true_and, if_true]
    repeat' (refine ifE (fun _ => ?_) (fun _ => ?_))
    all_goals (refine fin_bool2 ?_ ?_ <;> simp <;> omega)
  · simp [hv]
end Go.Proofs.YtghlghbpaeimjaaDoor
