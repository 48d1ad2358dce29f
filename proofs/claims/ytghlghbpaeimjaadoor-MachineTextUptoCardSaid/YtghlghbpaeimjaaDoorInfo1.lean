/- Info and Lookup, of the program and of the reference: what they answer. -/
import Derived.Test.YtghlghbpaeimjaaDoorBase
namespace Go.Proofs.YtghlghbpaeimjaaDoor
open Go Go.Proofs Ab
set_option maxRecDepth 100000
def noInfo : List AV := [.str [], .int .i64 0, .bool false, .bool false, .bool false, .bool false, .int .i64 0]
def infoAt (k : Nat) : AV := match table[k]? with | some (.agg xs) => .tup [.agg xs, .bool true] | _ => .tup [.agg noInfo, .bool false]
def infoV (op : Int) : AV := if 1 ≤ op then infoAt (op - 1).toNat else .tup [.agg noInfo, .bool false]
def sameR (x : Option (AV × Heap)) (v : AV) : Bool := match x with | some (w, []) => AV.beq w v | _ => false
theorem of_sameR {x : Option (AV × Heap)} {v : AV} (h : sameR x v = true) : x = some (v, []) := by
  unfold sameR at h
  split at h
  · rw [AV.beq_eq _ _ h]
  · cases h
theorem info9_in : (List.range 37).all (fun k => sameR (call E 60 9 [.int .i64 (Int.ofNat (k + 1))] []) (infoAt k)) = true := by kernel_rfl
theorem info15_in : (List.range 37).all (fun k => sameR (call E 90 15 [.int .i64 (Int.ofNat (k + 1))] []) (infoAt k)) = true := by kernel_rfl
theorem form34_out (op : Int) (h : ¬ (1 ≤ op ∧ op ≤ 37)) (H : Heap) : callF E 34 [.int .i64 op] H = some (.int .i64 0, H) := by
  have n1 : (op == 1) = false := by rw [beq_eq_false_iff_ne]; omega
  have n2 : (op == 2) = false := by rw [beq_eq_false_iff_ne]; omega
  have n3 : (op == 3) = false := by rw [beq_eq_false_iff_ne]; omega
  have n4 : (op == 4) = false := by rw [beq_eq_false_iff_ne]; omega
  have n5 : (op == 5) = false := by rw [beq_eq_false_iff_ne]; omega
  have n6 : (op == 6) = false := by rw [beq_eq_false_iff_ne]; omega
  have n7 : (op == 7) = false := by rw [beq_eq_false_iff_ne]; omega
  have n8 : (op == 8) = false := by rw [beq_eq_false_iff_ne]; omega
  have n9 : (op == 9) = false := by rw [beq_eq_false_iff_ne]; omega
  have n10 : (op == 10) = false := by rw [beq_eq_false_iff_ne]; omega
  have n11 : (op == 11) = false := by rw [beq_eq_false_iff_ne]; omega
  have n12 : (op == 12) = false := by rw [beq_eq_false_iff_ne]; omega
  have n13 : (op == 13) = false := by rw [beq_eq_false_iff_ne]; omega
  have n14 : (op == 14) = false := by rw [beq_eq_false_iff_ne]; omega
  have n15 : (op == 15) = false := by rw [beq_eq_false_iff_ne]; omega
  have n16 : (op == 16) = false := by rw [beq_eq_false_iff_ne]; omega
  have n17 : (op == 17) = false := by rw [beq_eq_false_iff_ne]; omega
  have n18 : (op == 18) = false := by rw [beq_eq_false_iff_ne]; omega
  have n19 : (op == 19) = false := by rw [beq_eq_false_iff_ne]; omega
  have n20 : (op == 20) = false := by rw [beq_eq_false_iff_ne]; omega
  have n21 : (op == 21) = false := by rw [beq_eq_false_iff_ne]; omega
  have n22 : (op == 22) = false := by rw [beq_eq_false_iff_ne]; omega
  have n23 : (op == 23) = false := by rw [beq_eq_false_iff_ne]; omega
  have n24 : (op == 24) = false := by rw [beq_eq_false_iff_ne]; omega
  have n25 : (op == 25) = false := by rw [beq_eq_false_iff_ne]; omega
  have n26 : (op == 26) = false := by rw [beq_eq_false_iff_ne]; omega
  have n27 : (op == 27) = false := by rw [beq_eq_false_iff_ne]; omega
  have n28 : (op == 28) = false := by rw [beq_eq_false_iff_ne]; omega
  have n29 : (op == 29) = false := by rw [beq_eq_false_iff_ne]; omega
  have n30 : (op == 30) = false := by rw [beq_eq_false_iff_ne]; omega
  have n31 : (op == 31) = false := by rw [beq_eq_false_iff_ne]; omega
  have n32 : (op == 32) = false := by rw [beq_eq_false_iff_ne]; omega
  have n33 : (op == 33) = false := by rw [beq_eq_false_iff_ne]; omega
  have n34 : (op == 34) = false := by rw [beq_eq_false_iff_ne]; omega
  have n35 : (op == 35) = false := by rw [beq_eq_false_iff_ne]; omega
  have n36 : (op == 36) = false := by rw [beq_eq_false_iff_ne]; omega
  have n37 : (op == 37) = false := by rw [beq_eq_false_iff_ne]; omega
  have hb : callF E 36 [.int .i64 op] H = some (.bool false, H) := by
    rw [callF_eq (fn := F36) rfl rfl rfl]
    by_cases h1 : op ≥ 17
    · have h2 : ¬ op ≤ 32 := by omega
      simp [F36, c36_0, c36_1, c36_2, c36_3, c36, runF_seq, runF_reg, runF_cond, runF_block, runF_skip, runF_exit, runF_ret, opsRun, wants, stepOp, AOp.isCall, heapOp, pureOp, val, Ab.get, put, bin, binI, un, clearO, resOf, finish, arg, argL, okRes, below, one, params, callee, argsOf, fillParts, splice, cellsOf, isLf, mkAgg, h1, h2]
    · simp [F36, c36_0, c36_1, c36_2, c36_3, c36, runF_seq, runF_reg, runF_cond, runF_block, runF_skip, runF_exit, runF_ret, opsRun, wants, stepOp, AOp.isCall, heapOp, pureOp, val, Ab.get, put, bin, binI, un, clearO, resOf, finish, arg, argL, okRes, below, one, params, callee, argsOf, fillParts, splice, cellsOf, isLf, mkAgg, h1]
  have hf : E.fn 36 = some F36 := rfl
  rw [callF_eq (fn := F34) rfl rfl rfl]
  simp [F34, c34_0, c34_1, c34_2, c34_3, c34_4, c34_5, c34_6, c34_7, c34_8, c34_9, c34_10, c34_11, c34_12, c34_13, c34_14, c34_15, c34_16, c34_17, c34_18, c34_19, c34_20, c34_21, c34_22, c34_23, c34_24, c34_25, c34_26, c34_27, c34_28, c34_29, c34_30, c34_31, c34_32, c34_33, c34_34, c34_35, c34_36, c34_37, c34_38, c34_39, c34_40, c34_41, c34_42, c34_43, c34_44, c34_45, c34_46, c34_47, c34_48, c34_49, c34_50, c34_51, c34_52, c34_53, c34_54, c34_55, c34_56, c34_57, c34_58, c34_59, c34_60, c34_61, c34_62, c34_63, c34_64, c34_65, c34_66, c34_67, c34_68, c34_69, c34_70, c34_71, c34_72, c34_73, c34_74, c34_75, c34_76, c34_77, c34_78, c34_79, c34_80, c34_81, c34_82, c34_83, c34_84, c34_85, c34_86, c34_87, c34, runF_seq, runF_reg, runF_cond, runF_block, runF_skip, runF_exit, runF_ret, opsRun, wants, stepOp, AOp.isCall, heapOp, pureOp, val, Ab.get, put, bin, binI, un, clearO, resOf, finish, arg, argL, okRes, below, one, params, callee, argsOf, fillParts, splice, cellsOf, isLf, mkAgg, hb, hf, F36, n1, n2, n3, n4, n5, n6, n7, n8, n9, n10, n11, n12, n13, n14, n15, n16, n17, n18, n19, n20, n21, n22, n23, n24, n25, n26, n27, n28, n29, n30, n31, n32, n33, n34, n35, n36, n37]
theorem info9 (op : Int) : callF E 9 [.int .i64 op] [] = some (infoV op, []) := by
  by_cases h : 1 ≤ op ∧ op ≤ 37
  · have hk := List.all_eq_true.1 info9_in (op - 1).toNat (by rw [List.mem_range]; omega)
    have e : Int.ofNat ((op - 1).toNat + 1) = op := by simp; omega
    rw [e] at hk
    rw [callF_of (of_sameR hk)]
    simp [infoV, h.1]
  · have hv : infoV op = .tup [.agg noInfo, .bool false] := by
      unfold infoV
      split
      · unfold infoAt
        rw [List.getElem?_eq_none (by simp [table]; omega)]
      · rfl
    rw [hv, callF_eq (fn := F9) rfl rfl rfl]
    by_cases h1 : op < 1
    · simp [F9, c9_0, c9_1, c9_2, c9_3, c9_4, c9_5, c9_6, c9_7, c9_8, c9_9, c9, runF_seq, runF_reg, runF_cond, runF_block, runF_skip, runF_exit, runF_ret, opsRun, wants, stepOp, AOp.isCall, heapOp, pureOp, val, Ab.get, put, bin, binI, un, clearO, resOf, finish, arg, argL, okRes, below, one, params, callee, argsOf, fillParts, splice, cellsOf, isLf, mkAgg, noInfo, h1]
    · have h2 : op > 37 := by omega
      simp [F9, c9_0, c9_1, c9_2, c9_3, c9_4, c9_5, c9_6, c9_7, c9_8, c9_9, c9, runF_seq, runF_reg, runF_cond, runF_block, runF_skip, runF_exit, runF_ret, opsRun, wants, stepOp, AOp.isCall, heapOp, pureOp, val, Ab.get, put, bin, binI, un, clearO, resOf, finish, arg, argL, okRes, below, one, params, callee, argsOf, fillParts, splice, cellsOf, isLf, mkAgg, noInfo, h1, h2]
theorem info15 (op : Int) : callF E 15 [.int .i64 op] [] = some (infoV op, []) := by
  by_cases h : 1 ≤ op ∧ op ≤ 37
  · have hk := List.all_eq_true.1 info15_in (op - 1).toNat (by rw [List.mem_range]; omega)
    have e : Int.ofNat ((op - 1).toNat + 1) = op := by simp; omega
    rw [e] at hk
    rw [callF_of (of_sameR hk)]
    simp [infoV, h.1]
  · have hv : infoV op = .tup [.agg noInfo, .bool false] := by
      unfold infoV
      split
      · unfold infoAt
        rw [List.getElem?_eq_none (by simp [table]; omega)]
      · rfl
    have hb := form34_out op h
    have hf : E.fn 34 = some F34 := rfl
    rw [hv, callF_eq (fn := F15) rfl rfl rfl]
    simp [F15, c15, c15_30, c15_29, c15_28, c15_0, c15_1, c15_6, c15_2, c15_5, c15_4, c15_3, runF_seq, runF_reg, runF_cond, runF_block, runF_skip, runF_exit, runF_ret, opsRun, wants, stepOp, AOp.isCall, heapOp, pureOp, val, Ab.get, put, bin, binI, un, clearO, resOf, finish, arg, argL, okRes, below, one, params, callee, argsOf, fillParts, splice, cellsOf, isLf, mkAgg, noInfo, hb, hf, F34]
end Go.Proofs.YtghlghbpaeimjaaDoor
