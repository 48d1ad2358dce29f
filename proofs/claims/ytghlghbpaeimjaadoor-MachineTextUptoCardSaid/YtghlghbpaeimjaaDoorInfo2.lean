/- Lookup, of the program and of the reference: what it answers. -/
import Derived.Test.YtghlghbpaeimjaaDoorInfo1
namespace Go.Proofs.YtghlghbpaeimjaaDoor
open Go Go.Proofs Ab
set_option maxRecDepth 100000
def isRow : AV → Bool
  | .agg (.str _ :: tl) => tl.length == 6
  | _ => false
def nameOf : AV → List UInt8
  | .agg (.str n :: _) => n
  | _ => []
theorem isRow_spec {r : AV} (h : isRow r = true) : ∃ tl, r = .agg (.str (nameOf r) :: tl) ∧ tl.length = 6 := by
  unfold isRow at h
  split at h
  · rename_i n tl
    exact ⟨tl, rfl, by simpa using h⟩
  · cases h
theorem table_rows : table.all isRow = true := by kernel_rfl
theorem table_len : table.length = 37 := by kernel_rfl
def lookIx : List AV → Nat → List UInt8 → Option Nat
  | [], _, _ => none
  | r :: rs, k, name => if nameOf r == name then some k else lookIx rs (k + 1) name
theorem wrap64 {n : Int} (h0 : 0 ≤ n) (h1 : n < 2 ^ 63) : IntKind.i64.wrap n = n := by
  simp only [IntKind.wrap, IntKind.signed, IntKind.bits]
  simp
  omega
theorem loop16 (name : List UInt8) (n0 : Nat) (h : Heap) : ∀ (rs : List AV) (k : Nat), table.drop k = rs → k + rs.length = 37 →
    runF E n0 false c16_16 [(0, .str name), (6, .int .i64 37), (7, .int .i64 k)] h = match lookIx rs k name with
      | some m => some (.ret, [(2, .int .i64 (1 + m)), (3, .bool true)], h)
      | none => some (.exit 0, [(0, .str name), (6, .int .i64 37), (7, .int .i64 37), (8, .bool false)], h)
  | [], k, hd, hk => by
    have hk' : k = 37 := by simpa using hk
    subst hk'
    rw [c16_16, runF_loop]
    simp [c16_15, c16_14, c16_2, c16_3, runF_seq, runF_reg, runF_cond, runF_block, runF_skip, runF_exit, runF_ret, opsRun, wants, stepOp, AOp.isCall, heapOp, pureOp, val, Ab.get, put, bin, binI, binS, un, clearO, resOf, finish, arg, argL, okRes, below, one, params, callee, argsOf, fillParts, splice, cellsOf, isLf, mkAgg, nleaves, leaves, lookIx]
  | r :: rs, k, hd, hk => by
    have hlt : k < 37 := by simp at hk; omega
    have hr : table[k]? = some r := by
      have := congrArg (fun l => l[0]?) hd
      simpa using this
    have hd' : table.drop (k + 1) = rs := by
      have := congrArg List.tail hd
      simpa using this
    obtain ⟨tl, hrow, htl⟩ := isRow_spec (List.all_eq_true.1 table_rows r (List.mem_of_getElem? hr))
    have ih := loop16 name n0 h rs (k + 1) hd' (by simp at hk; omega)
    have hc : ((k : Int) < 37) := by omega
    have hw : IntKind.i64.wrap ((k : Int) + 1) = (k : Int) + 1 := wrap64 (by omega) (by omega)
    have hw2 : IntKind.i64.wrap (1 + (k : Int)) = 1 + (k : Int) := wrap64 (by omega) (by omega)
    have hg : E.gl 0 = some [.sl .none table] := rfl
    rw [c16_16, runF_loop]
    by_cases he : nameOf r = name
    · subst he
      rw [hrow] at hr
      simp [c16_15, c16_14, c16_13, c16_12, c16_11, c16_10, c16_9, c16_8, c16_7, c16_6, c16_5, c16_4, c16_3, c16_2, runF_seq, runF_reg, runF_cond, runF_block, runF_skip, runF_exit, runF_ret, opsRun, wants, stepOp, AOp.isCall, heapOp, pureOp, val, Ab.get, put, bin, binI, binS, un, clearO, resOf, finish, arg, argL, okRes, below, one, params, callee, argsOf, fillParts, splice, cellsOf, isLf, mkAgg, nleaves, leaves, lookIx, hc, hr, htl, hg, hw2]
    · have he' : (nameOf r == name) = false := by rw [beq_eq_false_iff_ne]; exact he
      rw [hrow] at hr
      rw [lookIx, he']
      simp only [Bool.false_eq_true, if_false]
      rw [← ih, c16_16]
      simp [c16_15, c16_14, c16_13, c16_12, c16_11, c16_10, c16_9, c16_8, c16_7, c16_6, c16_5, c16_4, c16_3, c16_2, runF_seq, runF_reg, runF_cond, runF_block, runF_skip, runF_exit, runF_ret, opsRun, wants, stepOp, AOp.isCall, heapOp, pureOp, val, Ab.get, put, bin, binI, binS, un, clearO, resOf, finish, arg, argL, okRes, below, one, params, callee, argsOf, fillParts, splice, cellsOf, isLf, mkAgg, nleaves, leaves, hc, hr, htl, hg, he', hw]
def lookV (name : List UInt8) : AV := match lookIx table 0 name with
  | some m => .tup [.int .i64 (1 + m), .bool true]
  | none => .tup [.int .i64 0, .bool false]
theorem look16 (name : List UInt8) (h : Heap) : callF E 16 [.str name] h = some (lookV name, h) := by
  have hl := loop16 name h.length h table 0 rfl (by rw [table_len])
  have hg : E.gl 0 = some [.sl .none table] := rfl
  have h37 : ((table.length : Nat) : Int) = 37 := by rw [table_len]; rfl
  rw [callF_eq (fn := F16) rfl rfl rfl]
  unfold lookV
  simp only [Int.natCast_zero] at hl
  cases hx : lookIx table 0 name with
  | some m =>
    rw [hx] at hl
    simp [F16, c16, c16_22, c16_21, c16_20, c16_19, c16_18, c16_17, c16_1, c16_0, runF_seq, runF_reg, runF_cond, runF_block, runF_skip, runF_exit, runF_ret, opsRun, wants, stepOp, AOp.isCall, heapOp, pureOp, val, Ab.get, put, bin, binI, binS, un, clearO, resOf, finish, arg, argL, okRes, below, one, params, callee, argsOf, fillParts, splice, cellsOf, isLf, mkAgg, nleaves, leaves, hg, h37, hl]
  | none =>
    rw [hx] at hl
    simp [F16, c16, c16_22, c16_21, c16_20, c16_19, c16_18, c16_17, c16_1, c16_0, runF_seq, runF_reg, runF_cond, runF_block, runF_skip, runF_exit, runF_ret, opsRun, wants, stepOp, AOp.isCall, heapOp, pureOp, val, Ab.get, put, bin, binI, binS, un, clearO, resOf, finish, arg, argL, okRes, below, one, params, callee, argsOf, fillParts, splice, cellsOf, isLf, mkAgg, nleaves, leaves, hg, h37, hl]
end Go.Proofs.YtghlghbpaeimjaaDoor
