/- MachineInfo: Info and Lookup return the rows of the table for every operation and name. -/
import Derived.Test.YtghlghbpaeimjaaDoorInfo3
import Derived.Test.YtghlghbpaeimjaaDoorExRun
namespace Go.Proofs.YtghlghbpaeimjaaDoor
open Go Go.Proofs Ab
set_option maxRecDepth 100000
theorem table_cl : table.all clC = true := by kernel_rfl
theorem infoV_cl (op : Int) : clV (infoV op) = true := by
  unfold infoV
  split
  · unfold infoAt
    split
    · rename_i xs h
      have := List.all_eq_true.1 table_cl _ (List.mem_of_getElem? h)
      simp only [clV, List.all_cons, List.all_nil, this]
      rfl
    · rfl
  · rfl
theorem lookV_cl (n : List UInt8) : clV (lookV n) = true := by
  unfold lookV
  split <;> rfl
def spI : Nat → Option (List AV → List Ob → Option (AV × List Ob))
  | 3 => some fun xs h => match xs with | [] => some (.bool true, h) | _ => none
  | 9 => some fun xs h => match xs with | [.int .i64 op] => some (infoV op, h) | _ => none
  | 15 => some fun xs h => match xs with | [.int .i64 op] => some (infoV op, h) | _ => none
  | 16 => some fun xs h => match xs with | [.str n] => some (lookV n, h) | _ => none
  | 17 => some fun xs h => match xs with | [.str n] => some (lookV n, h) | _ => none
  | _ => none
def E2 : Env := { fn := fnAt, gl := gl, sp := spI }
theorem E2_sp : SpOk Tryd.prog E2 := by
  intro f sp hsp xs h v h' hr
  change spI f = some sp at hsp
  unfold spI at hsp
  split at hsp
  · cases hsp
    simp only at hr
    split at hr
    · cases hr; exact (examples_ok h).env rfl rfl
    · cases hr
  · cases hsp
    simp only at hr
    split at hr
    · cases hr; exact ((Cok.of_callF mixed E_fn E_sp (info9 _)).frame rfl (infoV_cl _) h).env rfl rfl
    · cases hr
  · cases hsp
    simp only at hr
    split at hr
    · cases hr; exact ((Cok.of_callF mixed E_fn E_sp (info15 _)).frame rfl (infoV_cl _) h).env rfl rfl
    · cases hr
  · cases hsp
    simp only at hr
    split at hr
    · cases hr; exact (Cok.of_callF mixed E_fn E_sp (look16 _ h)).env rfl rfl
    · cases hr
  · cases hsp
    simp only at hr
    split at hr
    · cases hr; exact (Cok.of_callF mixed (E := E35) fnOk E35_sp (look17 _ h)).env rfl rfl
    · cases hr
  · cases hsp
theorem info_look : (List.range 37).all (fun k => match table[k]? with | some r => AV.beq (lookV (nameOf r)) (.tup [.int .i64 (Int.ofNat (k + 1)), .bool true]) | none => false) = true := by kernel_rfl
def isRow7 : AV → Bool
  | .agg [.str _, .int .i64 _, .bool _, .bool _, .bool _, .bool _, .int .i64 _] => true
  | _ => false
theorem table_rows7 : table.all isRow7 = true := by kernel_rfl
theorem infoV_shape (op : Int) : ∃ nm f a b c d w ok, infoV op = .tup [.agg [.str nm, .int .i64 f, .bool a, .bool b, .bool c, .bool d, .int .i64 w], .bool ok] ∧ (ok = true → lookV nm = .tup [.int .i64 op, .bool true]) := by
  unfold infoV
  split
  · rename_i h1
    unfold infoAt
    split
    · rename_i xs h
      have h2 := List.all_eq_true.1 table_rows7 _ (List.mem_of_getElem? h)
      have hlt : (op - 1).toNat < 37 := by rw [← table_len]; exact lt_of_some h
      have h3 := List.all_eq_true.1 info_look (op - 1).toNat (by rw [List.mem_range]; exact hlt)
      rw [h] at h3
      simp only at h3
      have h4 := AV.beq_eq _ _ h3
      have e : Int.ofNat ((op - 1).toNat + 1) = op := by simp; omega
      rw [e] at h4
      unfold isRow7 at h2
      split at h2
      · rename_i n f a b c d w hx
        cases hx
        exact ⟨_, _, _, _, _, _, _, _, rfl, fun _ => h4⟩
      · cases h2
    · exact ⟨_, _, _, _, _, _, _, _, rfl, fun h => by cases h⟩
  · exact ⟨_, _, _, _, _, _, _, _, rfl, fun h => by cases h⟩
theorem c9_2' (op : Int) (h : Heap) : callF E2 9 [.int .i64 op] h = some (infoV op, h) := callF_sp (sp := fun xs h => match xs with | [.int .i64 op] => some (infoV op, h) | _ => none) rfl
theorem c15_2' (op : Int) (h : Heap) : callF E2 15 [.int .i64 op] h = some (infoV op, h) := callF_sp (sp := fun xs h => match xs with | [.int .i64 op] => some (infoV op, h) | _ => none) rfl
theorem c16_2' (n : List UInt8) (h : Heap) : callF E2 16 [.str n] h = some (lookV n, h) := callF_sp (sp := fun xs h => match xs with | [.str n] => some (lookV n, h) | _ => none) rfl
theorem c17_2' (n : List UInt8) (h : Heap) : callF E2 17 [.str n] h = some (lookV n, h) := callF_sp (sp := fun xs h => match xs with | [.str n] => some (lookV n, h) | _ => none) rfl
theorem c3_2' (h : Heap) : callF E2 3 [] h = some (.bool true, h) := callF_sp (sp := fun xs h => match xs with | [] => some (.bool true, h) | _ => none) rfl
theorem f9_2 : E2.fn 9 = some F9 := rfl
theorem f15_2 : E2.fn 15 = some F15 := rfl
theorem f16_2 : E2.fn 16 = some F16 := rfl
theorem f17_2 : E2.fn 17 = some F17 := rfl
theorem f3_2 : E2.fn 3 = some F3 := rfl
theorem loop4 (x y : AV) : ∀ (j : Nat) (k : Int) (h : Heap), k + j = 70 → -1 ≤ k → ∃ h', runF E2 0 false c4_26 [(0, x), (1, y), (5, .int .i64 k)] h = some (.exit 0, [(0, x), (1, y), (5, .int .i64 70), (21, .bool false)], h')
  | 0, k, h, hk, _ => by
    have : k = 70 := by omega
    subst this
    refine ⟨h, ?_⟩
    rw [c4_26, runF_loop]
    simp [c4_25, c4_4, c4_3, c4_2, runF_seq, runF_reg, runF_cond, runF_block, runF_skip, runF_exit, runF_ret, opsRun, wants, stepOp, AOp.isCall, heapOp, pureOp, val, Ab.get, put, bin, binI, binS, un, clearO, resOf, finish, arg, argL, okRes, below, free, one, params, callee, argsOf, fillParts, splice, cellsOf, isLf, mkAgg, nleaves, leaves, eqLs, eqL]
  | j + 1, k, h, hk, h1 => by
    obtain ⟨nm, f, a, b, c, d, w, ok, hi, hok⟩ := infoV_shape k
    have hc : k < 70 := by omega
    have hw : IntKind.i64.wrap (k + 1) = k + 1 := by
      simp only [IntKind.wrap, IntKind.signed, IntKind.bits]
      simp
      omega
    obtain ⟨h', ih⟩ := loop4 x y j (k + 1) (h ++ [.cells [.str nm, .int .i64 f, .bool a, .bool b, .bool c, .bool d, .int .i64 w]] ++ [.cells [.str nm, .int .i64 f, .bool a, .bool b, .bool c, .bool d, .int .i64 w]]) (by omega) (by omega)
    refine ⟨h', ?_⟩
    rw [← ih, c4_26, runF_loop]
    cases ok with
    | true =>
      have hl := hok rfl
      simp [c4_2, c4_3, c4_4, c4_5, c4_6, c4_7, c4_8, c4_9, c4_10, c4_11, c4_12, c4_13, c4_14, c4_15, c4_16, c4_17, c4_18, c4_19, c4_20, c4_21, c4_22, c4_23, c4_24, c4_25, runF_seq, runF_reg, runF_cond, runF_block, runF_skip, runF_exit, runF_ret, opsRun, wants, stepOp, AOp.isCall, heapOp, pureOp, val, Ab.get, put, bin, binI, binS, un, clearO, resOf, finish, arg, argL, okRes, below, free, one, params, callee, argsOf, fillParts, splice, cellsOf, isLf, mkAgg, nleaves, leaves, eqLs, eqL, hc, hw, hi, hl, c9_2', c15_2', c16_2', f9_2, f15_2, f16_2, F9, F15, F16]
    | false =>
      obtain ⟨m, q, hl⟩ : ∃ m q, lookV nm = .tup [.int .i64 m, .bool q] := by unfold lookV; split <;> exact ⟨_, _, rfl⟩
      simp [c4_2, c4_3, c4_4, c4_5, c4_6, c4_7, c4_8, c4_9, c4_10, c4_11, c4_12, c4_13, c4_14, c4_15, c4_16, c4_17, c4_18, c4_19, c4_20, c4_21, c4_22, c4_23, c4_24, c4_25, runF_seq, runF_reg, runF_cond, runF_block, runF_skip, runF_exit, runF_ret, opsRun, wants, stepOp, AOp.isCall, heapOp, pureOp, val, Ab.get, put, bin, binI, binS, un, clearO, resOf, finish, arg, argL, okRes, below, free, one, params, callee, argsOf, fillParts, splice, cellsOf, isLf, mkAgg, nleaves, leaves, eqLs, eqL, hc, hw, hi, hl, c9_2', c15_2', c16_2', f9_2, f15_2, f16_2, F9, F15, F16]
theorem info_run (op : Int) (name : List UInt8) : callF E2 4 [.int .i64 op, .str name] [] = some (.bool true, []) := by
  obtain ⟨h', hl⟩ := loop4 (.int .i64 op) (.str name) 71 (-1) [] (by omega) (by omega)
  obtain ⟨nm, f, a, b, c, d, w, ok, hi, _⟩ := infoV_shape op
  obtain ⟨m, q, hn⟩ : ∃ m q, lookV name = .tup [.int .i64 m, .bool q] := by unfold lookV; split <;> exact ⟨_, _, rfl⟩
  rw [callF_eq (fn := F4) rfl rfl rfl]
  simp [F4, c4, c4_40, c4_39, c4_38, c4_37, c4_36, c4_35, c4_34, c4_33, c4_32, c4_31, c4_30, c4_29, c4_28, c4_27, c4_1, c4_0, runF_seq, runF_reg, runF_cond, runF_block, runF_skip, runF_exit, runF_ret, opsRun, wants, stepOp, AOp.isCall, heapOp, pureOp, val, Ab.get, put, bin, binI, binS, un, clearO, resOf, finish, arg, argL, okRes, below, free, one, params, callee, argsOf, fillParts, splice, cellsOf, isLf, mkAgg, nleaves, leaves, eqLs, eqL, hl, hi, hn, c9_2', c15_2', c16_2', c17_2', c3_2', f9_2, f15_2, f16_2, f17_2, f3_2, F9, F15, F16, F17, F3]
end Go.Proofs.YtghlghbpaeimjaaDoor
