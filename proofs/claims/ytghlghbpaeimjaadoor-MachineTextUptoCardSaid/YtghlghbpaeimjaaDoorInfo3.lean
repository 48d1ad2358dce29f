/- The reference's Lookup: what it answers; and that it is the program's. -/
import Derived.Test.YtghlghbpaeimjaaDoorInfo2
namespace Go.Proofs.YtghlghbpaeimjaaDoor
open Go Go.Proofs Ab
set_option maxRecDepth 100000
def names : List (List UInt8) := [] :: table.map nameOf
theorem names_len : names.length = 38 := by kernel_rfl
def avNames : List AV := names.map AV.str
theorem names35_run : sameR (call E 20 35 [] []) (.sl .none avNames) = true := by kernel_rfl
theorem names35 (h : Heap) : Cok Tryd.prog E 35 [] h (.sl .none avNames) h := (Cok.of_callF mixed E_fn E_sp (callF_of (of_sameR names35_run))).frame rfl rfl h
def nameIx : List (List UInt8) → Nat → List UInt8 → Option Nat
  | [], _, _ => none
  | r :: rs, k, name => if r == name then some k else nameIx rs (k + 1) name
theorem nameIx_map (name : List UInt8) : ∀ (rs : List AV) (k : Nat), nameIx (rs.map nameOf) (k + 1) name = (lookIx rs k name).map (1 + ·)
  | [], _ => rfl
  | r :: rs, k => by
    simp only [List.map_cons, nameIx, lookIx]
    split
    · simp [Nat.add_comm]
    · exact nameIx_map name rs (k + 1)
def sp35 : Nat → Option (List AV → List Ob → Option (AV × List Ob))
  | 35 => some fun xs h => match xs with | [] => some (.sl .none avNames, h) | _ => none
  | _ => none
def E35 : Env := { fn := fnAt, gl := gl, sp := sp35 }
theorem E35_sp : SpOk Tryd.prog E35 := by
  intro f sp hsp xs h v h' hr
  change sp35 f = some sp at hsp
  unfold sp35 at hsp
  split at hsp
  · cases hsp
    simp only at hr
    split at hr
    · cases hr; exact (names35 h).env rfl rfl
    · cases hr
  · cases hsp
theorem call35 (h : Heap) : callF E35 35 [] h = some (.sl .none avNames, h) := callF_sp (sp := fun xs h => match xs with | [] => some (.sl .none avNames, h) | _ => none) rfl
theorem loop17 (name : List UInt8) (n0 : Nat) (h : Heap) : ∀ (rs : List (List UInt8)) (k : Nat), names.drop k = rs → k + rs.length = 38 →
    runF E35 n0 false c17_15 [(0, .str name), (4, .sl .none avNames), (5, .int .i64 k)] h = match nameIx rs k name with
      | some m => some (.ret, [(2, .int .i64 m), (3, .bool true)], h)
      | none => some (.exit 0, [(0, .str name), (4, .sl .none avNames), (5, .int .i64 38), (10, .bool false)], h)
  | [], k, hd, hk => by
    have hk' : k = 38 := by simpa using hk
    subst hk'
    have hl : avNames.length = 38 := by kernel_rfl
    rw [c17_15, runF_loop]
    simp [c17_14, c17_5, c17_4, c17_3, runF_seq, runF_reg, runF_cond, runF_block, runF_skip, runF_exit, runF_ret, opsRun, wants, stepOp, AOp.isCall, heapOp, pureOp, val, Ab.get, put, bin, binI, binS, un, clearO, resOf, finish, arg, argL, okRes, below, one, params, callee, argsOf, fillParts, splice, cellsOf, isLf, mkAgg, nleaves, leaves, nameIx, hl]
  | r :: rs, k, hd, hk => by
    have hlt : k < 38 := by simp at hk; omega
    have hr : names[k]? = some r := by
      have := congrArg (fun l => l[0]?) hd
      simpa using this
    have hra : avNames[k]? = some (.str r) := by unfold avNames; rw [List.getElem?_map, hr]; rfl
    have hd' : names.drop (k + 1) = rs := by
      have := congrArg List.tail hd
      simpa using this
    have hl : avNames.length = 38 := by kernel_rfl
    have ih := loop17 name n0 h rs (k + 1) hd' (by simp at hk; omega)
    have hc : ((k : Int) < 38) := by omega
    have hw : IntKind.i64.wrap ((k : Int) + 1) = (k : Int) + 1 := wrap64 (by omega) (by omega)
    rw [c17_15, runF_loop]
    by_cases he : r = name
    · subst he
      simp [c17_14, c17_13, c17_12, c17_11, c17_10, c17_9, c17_8, c17_7, c17_6, c17_5, c17_4, c17_3, runF_seq, runF_reg, runF_cond, runF_block, runF_skip, runF_exit, runF_ret, opsRun, wants, stepOp, AOp.isCall, heapOp, pureOp, val, Ab.get, put, bin, binI, binS, un, clearO, resOf, finish, arg, argL, okRes, below, one, params, callee, argsOf, fillParts, splice, cellsOf, isLf, mkAgg, nleaves, leaves, nameIx, hc, hra, hl]
    · have he' : (r == name) = false := by rw [beq_eq_false_iff_ne]; exact he
      rw [nameIx, he']
      simp only [Bool.false_eq_true, if_false]
      rw [← ih, c17_15]
      simp [c17_14, c17_13, c17_12, c17_11, c17_10, c17_9, c17_8, c17_7, c17_6, c17_5, c17_4, c17_3, runF_seq, runF_reg, runF_cond, runF_block, runF_skip, runF_exit, runF_ret, opsRun, wants, stepOp, AOp.isCall, heapOp, pureOp, val, Ab.get, put, bin, binI, binS, un, clearO, resOf, finish, arg, argL, okRes, below, one, params, callee, argsOf, fillParts, splice, cellsOf, isLf, mkAgg, nleaves, leaves, hc, hra, hl, he', hw]
theorem look17 (name : List UInt8) (h : Heap) : callF E35 17 [.str name] h = some (lookV name, h) := by
  have hl := loop17 name h.length h (table.map nameOf) 1 rfl (by rw [List.length_map, table_len])
  rw [nameIx_map name table 0] at hl
  have h35 := call35 h
  have hf : E35.fn 35 = some F35 := rfl
  rw [callF_eq (fn := F17) rfl rfl rfl]
  unfold lookV
  simp only [Int.natCast_one] at hl
  cases hx : lookIx table 0 name with
  | some m =>
    rw [hx] at hl
    simp only [Option.map_some] at hl
    simp [F17, c17, c17_22, c17_21, c17_20, c17_19, c17_18, c17_17, c17_16, c17_2, c17_1, c17_0, runF_seq, runF_reg, runF_cond, runF_block, runF_skip, runF_exit, runF_ret, opsRun, wants, stepOp, AOp.isCall, heapOp, pureOp, val, Ab.get, put, bin, binI, binS, un, clearO, resOf, finish, arg, argL, okRes, below, one, params, callee, argsOf, fillParts, splice, cellsOf, isLf, mkAgg, nleaves, leaves, h35, hf, F35, hl]
  | none =>
    rw [hx] at hl
    simp only [Option.map_none] at hl
    simp [F17, c17, c17_22, c17_21, c17_20, c17_19, c17_18, c17_17, c17_16, c17_2, c17_1, c17_0, runF_seq, runF_reg, runF_cond, runF_block, runF_skip, runF_exit, runF_ret, opsRun, wants, stepOp, AOp.isCall, heapOp, pureOp, val, Ab.get, put, bin, binI, binS, un, clearO, resOf, finish, arg, argL, okRes, below, one, params, callee, argsOf, fillParts, splice, cellsOf, isLf, mkAgg, nleaves, leaves, h35, hf, F35, hl]
end Go.Proofs.YtghlghbpaeimjaaDoor
