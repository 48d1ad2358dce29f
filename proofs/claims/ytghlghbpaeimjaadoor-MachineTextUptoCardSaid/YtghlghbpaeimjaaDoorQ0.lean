/- How each piece of code is run. Printed by a program of ours. -/
import Derived.Test.YtghlghbpaeimjaaDoorAcEnv
import Derived.Test.YtghlghbpaeimjaaDoorAb6
namespace Go.Proofs.YtghlghbpaeimjaaDoor
open Go Go.Proofs Ab
set_option maxRecDepth 100000
variable {E : Env} {n0 : Nat} {g : Bool} {s : Slots} {h : Heap}
@[simp] theorem q5_0 : runF E n0 g c5_0 s h = regK (some [1, 2, 3, 4, 5, 6]) (runO E n0 g h.length [⟨(some 6), (.bx 0 (.t 0)), none⟩, ⟨(some 12), (.mv (.c (.bool false))), none⟩] s (h ++ [.dead])) := k_reg
@[simp] theorem q5_1 : runF E n0 g c5_1 s h = regT (some [1, 2, 3, 4, 5, 33, 34, 35]) [(0, [2, 4, 7])] (runTr E n0 g h.length [⟨(some 25), (.ld true 5 (.t 6)), none⟩, ⟨(some 26), (.mv (.t 1)), none⟩, ⟨(some 27), (.call 18 [(.t 26)]), none⟩, ⟨(some 28), (.mv (.t 1)), none⟩, ⟨(some 29), (.call 18 [(.t 28)]), none⟩, ⟨(some 30), (.mv (.t 2)), none⟩, ⟨(some 31), (.mv (.t 3)), none⟩, ⟨(some 32), (.call 19 [(.t 29), (.t 30), (.t 31)]), none⟩, ⟨(some 33), (.bsl 5 (.agg [(.int .i64 0), (.int .i64 0), (.int .i64 0), (.int .i64 0), (.int .i64 0)]) 3 [(0, (.t 25)), (1, (.t 27)), (2, (.t 32))]), none⟩, ⟨(some 34), (.len (.t 33)), none⟩, ⟨(some 35), (.mv (.c (.int .i64 0))), none⟩] s h []) := by rw [show c5_1 = .reg (some [1, 2, 3, 4, 5, 33, 34, 35]) [] [⟨(some 25), (.ld true 5 (.t 6)), none⟩, ⟨(some 26), (.mv (.t 1)), none⟩, ⟨(some 27), (.call 18 [(.t 26)]), none⟩, ⟨(some 28), (.mv (.t 1)), none⟩, ⟨(some 29), (.call 18 [(.t 28)]), none⟩, ⟨(some 30), (.mv (.t 2)), none⟩, ⟨(some 31), (.mv (.t 3)), none⟩, ⟨(some 32), (.call 19 [(.t 29), (.t 30), (.t 31)]), none⟩, ⟨(some 33), (.bsl 5 (.agg [(.int .i64 0), (.int .i64 0), (.int .i64 0), (.int .i64 0), (.int .i64 0)]) 3 [(0, (.t 25)), (1, (.t 27)), (2, (.t 32))]), none⟩, ⟨(some 34), (.len (.t 33)), none⟩, ⟨(some 35), (.mv (.c (.int .i64 0))), none⟩] (some [(0, [2, 4, 7])]) from rfl, k_regd, List.append_nil]
@[simp] theorem q5_2 : runF E n0 g c5_2 s h = regK (some [1, 2, 3, 4, 5, 33, 34, 35, 36]) (runO E n0 g h.length [⟨(some 36), (.bin .lss (.t 35) (.t 34)), none⟩] s h) := k_reg0
@[simp] theorem q5_3 : runF E n0 g c5_3 s h = condK E n0 g .skip (.exit 0) s h (get s 36) := k_cond
@[simp] theorem q5_4 : runF E n0 g c5_4 s h = regK (some [1, 2, 3, 4, 5, 14, 33, 34, 35]) (runO E n0 g h.length [⟨(some 37), (.ia 5 (.t 33) (.t 35)), none⟩, ⟨(some 38), (.ld true 5 (.t 37)), none⟩, ⟨(some 14), (.al 0 [(.int .i64 0), (.int .i64 0), (.int .i64 0), (.int .i64 0), (.int .i64 0)]), none⟩, ⟨none, (.st 5 (.t 14) (.t 38)), none⟩] s (h ++ [(.cells [(.int .i64 0), (.int .i64 0), (.int .i64 0), (.int .i64 0), (.int .i64 0)])])) := k_reg
@[simp] theorem q5_5 : runF E n0 g c5_5 s h = regT (some [1, 2, 3, 4, 5, 33, 34, 35, 43]) [(2, [1])] (runTr E n0 g h.length [⟨(some 39), (.ld true 5 (.t 14)), none⟩, ⟨(some 40), (.call 11 [(.t 39)]), none⟩, ⟨(some 41), (.ld true 5 (.t 14)), none⟩, ⟨(some 42), (.call 20 [(.t 41)]), none⟩, ⟨(some 43), (.bin .neq (.t 40) (.t 42)), none⟩] s h []) := by rw [show c5_5 = .reg (some [1, 2, 3, 4, 5, 33, 34, 35, 43]) [] [⟨(some 39), (.ld true 5 (.t 14)), none⟩, ⟨(some 40), (.call 11 [(.t 39)]), none⟩, ⟨(some 41), (.ld true 5 (.t 14)), none⟩, ⟨(some 42), (.call 20 [(.t 41)]), none⟩, ⟨(some 43), (.bin .neq (.t 40) (.t 42)), none⟩] (some [(2, [1])]) from rfl, k_regd, List.append_nil]
@[simp] theorem q5_6 : runF E n0 g c5_6 s h = regK (some [12]) (runO E n0 g h.length [⟨(some 12), (.mv (.c (.bool false))), none⟩] s h) := k_reg0
@[simp] theorem q5_7 : runF E n0 g c5_7 s h = seqK E n0 g .ret (runF E n0 g c5_6 s h) := k_seq
@[simp] theorem q5_8 : runF E n0 g c5_8 s h = condK E n0 g c5_7 .skip s h (get s 43) := k_cond
@[simp] theorem q5_9 : runF E n0 g c5_9 s h = seqK E n0 g c5_8 (runF E n0 g c5_5 s h) := k_seq
@[simp] theorem q5_10 : runF E n0 g c5_10 s h = seqK E n0 g c5_9 (runF E n0 g c5_4 s h) := k_seq
@[simp] theorem q5_11 : runF E n0 g c5_11 s h = blkK (some [1, 2, 3, 4, 5, 33, 34, 35]) 1 (runF E n0 g c5_10 s h) := k_block
@[simp] theorem q5_12 : runF E n0 g c5_12 s h = regK (some [1, 2, 3, 4, 5, 33, 34, 35]) (runO E n0 g h.length [⟨(some 44), (.bin .add (.t 35) (.c (.int .i64 1))), none⟩, ⟨(some 35), (.mv (.t 44)), none⟩] s h) := k_reg0
@[simp] theorem q5_13 : runF E n0 g c5_13 s h = seqK E n0 g c5_12 (runF E n0 g c5_11 s h) := k_seq
@[simp] theorem q5_14 : runF E n0 g c5_14 s h = seqK E n0 g c5_13 (runF E n0 g c5_3 s h) := k_seq
@[simp] theorem q5_15 : runF E n0 g c5_15 s h = seqK E n0 g c5_14 (runF E n0 g c5_2 s h) := k_seq
theorem q5_16 : runF E n0 g c5_16 s h = loopK E n0 g (some [1, 2, 3, 4, 5, 33, 34, 35]) c5_15 (runF E n0 g c5_15 (clearO (some [1, 2, 3, 4, 5, 33, 34, 35]) s) h) := k_loop
@[simp] theorem q5_16L : runF E n0 g (.loop (some [1, 2, 3, 4, 5, 33, 34, 35]) c5_15) s h = runF E n0 g c5_16 s h := rfl
@[simp] theorem q5_17 : runF E n0 g c5_17 s h = blkK (some [1, 2, 3, 4, 5]) 0 (runF E n0 g c5_16 s h) := k_block
@[simp] theorem q5_18 : runF E n0 g c5_18 s h = seqK E n0 g c5_17 (runF E n0 g c5_1 s h) := k_seq
@[simp] theorem q5_19 : runF E n0 g c5_19 s h = regK (some [2, 3, 4, 5, 15]) (runO E n0 g h.length [⟨(some 45), (.mv (.t 1)), none⟩, ⟨(some 46), (.call 18 [(.t 45)]), none⟩, ⟨(some 47), (.call 20 [(.t 46)]), none⟩, ⟨(some 15), (.mv (.t 47)), none⟩] s h) := k_reg0
@[simp] theorem q5_20 : runF E n0 g c5_20 s h = regK (some [2, 3, 4, 15, 16]) (runO E n0 g h.length [⟨(some 48), (.mv (.t 5)), none⟩, ⟨(some 49), (.mv (.t 15)), none⟩, ⟨(some 50), (.lens (.t 49)), none⟩, ⟨(some 51), (.bin .add (.t 50) (.c (.int .i64 1))), none⟩, ⟨(some 52), (.call 21 [(.t 48), (.t 51)]), none⟩, ⟨(some 16), (.mv (.t 52)), none⟩] s h) := k_reg0
@[simp] theorem q5_21 : runF E n0 g c5_21 s h = regK (some [2, 4, 15, 16, 17]) (runO E n0 g h.length [⟨(some 53), (.bsl 1 (.str []) 8 [(0, (.c (.str [32]))), (1, (.c (.str [44]))), (2, (.c (.str [114]))), (3, (.c (.str [48]))), (4, (.c (.str [45]))), (5, (.c (.str [56]))), (6, (.c (.str [120]))), (7, (.c (.str [])))]), none⟩, ⟨(some 54), (.mv (.t 3)), none⟩, ⟨(some 55), (.call 21 [(.t 54), (.c (.int .i64 8))]), none⟩, ⟨(some 56), (.ia 1 (.t 53) (.t 55)), none⟩, ⟨(some 57), (.ld false 1 (.t 56)), none⟩, ⟨(some 17), (.mv (.t 57)), none⟩] s h) := k_reg0
@[simp] theorem q5_22 : runF E n0 g c5_22 s h = regK (some [4, 15, 18]) (runO E n0 g h.length [⟨(some 58), (.mv (.t 15)), none⟩, ⟨(some 59), (.mv (.t 16)), none⟩, ⟨(some 60), (.sls (.t 58) none (some (.t 59))), none⟩, ⟨(some 61), (.mv (.t 17)), none⟩, ⟨(some 62), (.bin .add (.t 60) (.t 61)), none⟩, ⟨(some 63), (.mv (.t 15)), none⟩, ⟨(some 64), (.mv (.t 15)), none⟩, ⟨(some 65), (.lens (.t 64)), none⟩, ⟨(some 66), (.mv (.t 16)), none⟩, ⟨(some 67), (.mv (.t 2)), none⟩, ⟨(some 68), (.call 21 [(.t 67), (.c (.int .i64 3))]), none⟩, ⟨(some 69), (.bin .add (.t 66) (.t 68)), none⟩, ⟨(some 70), (.mm false (.t 65) (.t 69)), none⟩, ⟨(some 71), (.sls (.t 63) (some (.t 70)) none), none⟩, ⟨(some 72), (.bin .add (.t 62) (.t 71)), none⟩, ⟨(some 18), (.mv (.t 72)), none⟩] s h) := by rw [show c5_22 = .reg (some [4, 15, 18]) [] [⟨(some 58), (.mv (.t 15)), none⟩, ⟨(some 59), (.mv (.t 16)), none⟩, ⟨(some 60), (.sls (.t 58) none (some (.t 59))), none⟩, ⟨(some 61), (.mv (.t 17)), none⟩, ⟨(some 62), (.bin .add (.t 60) (.t 61)), none⟩, ⟨(some 63), (.mv (.t 15)), none⟩, ⟨(some 64), (.mv (.t 15)), none⟩, ⟨(some 65), (.lens (.t 64)), none⟩, ⟨(some 66), (.mv (.t 16)), none⟩, ⟨(some 67), (.mv (.t 2)), none⟩, ⟨(some 68), (.call 21 [(.t 67), (.c (.int .i64 3))]), none⟩, ⟨(some 69), (.bin .add (.t 66) (.t 68)), none⟩, ⟨(some 70), (.mm false (.t 65) (.t 69)), none⟩, ⟨(some 71), (.sls (.t 63) (some (.t 70)) none), none⟩, ⟨(some 72), (.bin .add (.t 62) (.t 71)), none⟩, ⟨(some 18), (.mv (.t 72)), none⟩] (some []) from rfl, k_regd0, List.append_nil]
@[simp] theorem q5_23 : runF E n0 g c5_23 s h = regK (some [76, 77, 78]) (runO E n0 g h.length [⟨(some 73), (.mv (.t 4)), none⟩, ⟨(some 74), (.mv (.t 15)), none⟩, ⟨(some 75), (.mv (.t 18)), none⟩, ⟨(some 76), (.bsl 1 (.str []) 3 [(0, (.t 73)), (1, (.t 74)), (2, (.t 75))]), none⟩, ⟨(some 77), (.len (.t 76)), none⟩, ⟨(some 78), (.mv (.c (.int .i64 0))), none⟩] s h) := k_reg0
@[simp] theorem q5_24 : runF E n0 g c5_24 s h = regK (some [76, 77, 78, 79]) (runO E n0 g h.length [⟨(some 79), (.bin .lss (.t 78) (.t 77)), none⟩] s h) := k_reg0
@[simp] theorem q5_25 : runF E n0 g c5_25 s h = condK E n0 g .skip (.exit 2) s h (get s 79) := k_cond
@[simp] theorem q5_26 : runF E n0 g c5_26 s h = regK (some [20, 76, 77, 78]) (runO E n0 g h.length [⟨(some 80), (.ia 1 (.t 76) (.t 78)), none⟩, ⟨(some 81), (.ld false 1 (.t 80)), none⟩, ⟨(some 20), (.mv (.t 81)), none⟩] s h) := k_reg0
@[simp] theorem q5_27 : runF E n0 g c5_27 s h = regK (some [20, 21, 22, 76, 77, 78]) (runO E n0 g h.length [⟨(some 83), (.mv (.t 20)), none⟩, ⟨(some 84), (.call 10 [(.t 83)]), none⟩, ⟨(some 82), (.mv (.t 84)), none⟩, ⟨(some 85), (.ext (.t 82) 0), none⟩, ⟨(some 86), (.ext (.t 82) 1), none⟩, ⟨(some 21), (.al 0 [(.int .i64 0), (.int .i64 0), (.int .i64 0), (.int .i64 0), (.int .i64 0)]), none⟩, ⟨none, (.st 5 (.t 21) (.t 85)), none⟩, ⟨(some 22), (.mv (.t 86)), none⟩] s (h ++ [(.cells [(.int .i64 0), (.int .i64 0), (.int .i64 0), (.int .i64 0), (.int .i64 0)])])) := k_reg
@[simp] theorem q5_28 : runF E n0 g c5_28 s h = regK (some [21, 22, 23, 24, 76, 77, 78]) (runO E n0 g h.length [⟨(some 88), (.mv (.t 20)), none⟩, ⟨(some 89), (.call 22 [(.t 88)]), none⟩, ⟨(some 87), (.mv (.t 89)), none⟩, ⟨(some 90), (.ext (.t 87) 0), none⟩, ⟨(some 91), (.ext (.t 87) 1), none⟩, ⟨(some 23), (.al 0 [(.int .i64 0), (.int .i64 0), (.int .i64 0), (.int .i64 0), (.int .i64 0)]), none⟩, ⟨none, (.st 5 (.t 23) (.t 90)), none⟩, ⟨(some 24), (.mv (.t 91)), none⟩] s (h ++ [(.cells [(.int .i64 0), (.int .i64 0), (.int .i64 0), (.int .i64 0), (.int .i64 0)])])) := k_reg
@[simp] theorem q5_29 : runF E n0 g c5_29 s h = regK (some [76, 77, 78, 99]) (runO E n0 g h.length [⟨(some 92), (.ld true 5 (.t 21)), none⟩, ⟨(some 93), (.ld true 5 (.t 23)), none⟩, ⟨(some 94), (.eqs true [0, 0, 0, 0, 0] (.t 92) (.t 93)), none⟩, ⟨(some 95), (.mv (.t 94)), none⟩, ⟨(some 96), (.mv (.t 22)), (some (95, false))⟩, ⟨(some 97), (.mv (.t 24)), (some (95, false))⟩, ⟨(some 98), (.beq true (.t 96) (.t 97)), (some (95, false))⟩, ⟨(some 99), (.pick (.t 95) (.c (.bool true)) (.t 98)), none⟩] s h) := k_reg0
@[simp] theorem q5_30 : runF E n0 g c5_30 s h = regK (some [12]) (runO E n0 g h.length [⟨(some 12), (.mv (.c (.bool false))), none⟩] s h) := k_reg0
@[simp] theorem q5_31 : runF E n0 g c5_31 s h = seqK E n0 g .ret (runF E n0 g c5_30 s h) := k_seq
@[simp] theorem q5_32 : runF E n0 g c5_32 s h = condK E n0 g c5_31 .skip s h (get s 99) := k_cond
@[simp] theorem q5_33 : runF E n0 g c5_33 s h = seqK E n0 g c5_32 (runF E n0 g c5_29 s h) := k_seq
@[simp] theorem q5_34 : runF E n0 g c5_34 s h = seqK E n0 g c5_33 (runF E n0 g c5_28 s h) := k_seq
@[simp] theorem q5_35 : runF E n0 g c5_35 s h = seqK E n0 g c5_34 (runF E n0 g c5_27 s h) := k_seq
@[simp] theorem q5_36 : runF E n0 g c5_36 s h = seqK E n0 g c5_35 (runF E n0 g c5_26 s h) := k_seq
@[simp] theorem q5_37 : runF E n0 g c5_37 s h = blkK (some [76, 77, 78]) 3 (runF E n0 g c5_36 s h) := k_block
@[simp] theorem q5_38 : runF E n0 g c5_38 s h = regK (some [76, 77, 78]) (runO E n0 g h.length [⟨(some 100), (.bin .add (.t 78) (.c (.int .i64 1))), none⟩, ⟨(some 78), (.mv (.t 100)), none⟩] s h) := k_reg0
@[simp] theorem q5_39 : runF E n0 g c5_39 s h = seqK E n0 g c5_38 (runF E n0 g c5_37 s h) := k_seq
@[simp] theorem q5_40 : runF E n0 g c5_40 s h = seqK E n0 g c5_39 (runF E n0 g c5_25 s h) := k_seq
@[simp] theorem q5_41 : runF E n0 g c5_41 s h = seqK E n0 g c5_40 (runF E n0 g c5_24 s h) := k_seq
theorem q5_42 : runF E n0 g c5_42 s h = loopK E n0 g (some [76, 77, 78]) c5_41 (runF E n0 g c5_41 (clearO (some [76, 77, 78]) s) h) := k_loop
@[simp] theorem q5_42L : runF E n0 g (.loop (some [76, 77, 78]) c5_41) s h = runF E n0 g c5_42 s h := rfl
@[simp] theorem q5_43 : runF E n0 g c5_43 s h = blkK (some []) 2 (runF E n0 g c5_42 s h) := k_block
@[simp] theorem q5_44 : runF E n0 g c5_44 s h = seqK E n0 g c5_43 (runF E n0 g c5_23 s h) := k_seq
@[simp] theorem q5_45 : runF E n0 g c5_45 s h = regK (some [12]) (runO E n0 g h.length [⟨(some 101), (.call 3 []), none⟩, ⟨(some 12), (.mv (.t 101)), none⟩] s h) := k_reg0
@[simp] theorem q5_46 : runF E n0 g c5_46 s h = seqK E n0 g .ret (runF E n0 g c5_45 s h) := k_seq
@[simp] theorem q5_47 : runF E n0 g c5_47 s h = seqK E n0 g c5_46 (runF E n0 g c5_44 s h) := k_seq
@[simp] theorem q5_48 : runF E n0 g c5_48 s h = seqK E n0 g c5_47 (runF E n0 g c5_22 s h) := k_seq
@[simp] theorem q5_49 : runF E n0 g c5_49 s h = seqK E n0 g c5_48 (runF E n0 g c5_21 s h) := k_seq
@[simp] theorem q5_50 : runF E n0 g c5_50 s h = seqK E n0 g c5_49 (runF E n0 g c5_20 s h) := k_seq
@[simp] theorem q5_51 : runF E n0 g c5_51 s h = seqK E n0 g c5_50 (runF E n0 g c5_19 s h) := k_seq
@[simp] theorem q5_52 : runF E n0 g c5_52 s h = seqK E n0 g c5_51 (runF E n0 g c5_18 s h) := k_seq
@[simp] theorem q5_53 : runF E n0 g c5_53 s h = seqK E n0 g c5_52 (runF E n0 g c5_0 s h) := k_seq
@[simp] theorem qq5 : runF E n0 g c5 s h = runF E n0 g c5_53 s h := rfl
@[simp] theorem q6_0 : runF E n0 g c6_0 s h = regK (some [0, 1]) (runO E n0 g h.length [⟨(some 4), (.mv (.c (.bool false))), none⟩] s h) := k_reg0
@[simp] theorem q6_1 : runF E n0 g c6_1 s h = regK (some [1, 5]) (runO E n0 g h.length [⟨(some 10), (.mv (.t 0)), none⟩, ⟨(some 11), (.call 18 [(.t 10)]), none⟩, ⟨(some 5), (.al 0 [(.int .i64 0), (.int .i64 0), (.int .i64 0), (.int .i64 0), (.int .i64 0)]), none⟩, ⟨none, (.st 5 (.t 5) (.t 11)), none⟩] s (h ++ [(.cells [(.int .i64 0), (.int .i64 0), (.int .i64 0), (.int .i64 0), (.int .i64 0)])])) := k_reg
@[simp] theorem q6_2 : runF E n0 g c6_2 s h = regK (some [1, 5, 6, 7]) (runO E n0 g h.length [⟨(some 13), (.ld true 5 (.t 5)), none⟩, ⟨(some 14), (.call 11 [(.t 13)]), none⟩, ⟨(some 15), (.call 10 [(.t 14)]), none⟩, ⟨(some 12), (.mv (.t 15)), none⟩, ⟨(some 16), (.ext (.t 12) 0), none⟩, ⟨(some 17), (.ext (.t 12) 1), none⟩, ⟨(some 6), (.al 0 [(.int .i64 0), (.int .i64 0), (.int .i64 0), (.int .i64 0), (.int .i64 0)]), none⟩, ⟨none, (.st 5 (.t 6) (.t 16)), none⟩, ⟨(some 7), (.mv (.t 17)), none⟩] s (h ++ [(.cells [(.int .i64 0), (.int .i64 0), (.int .i64 0), (.int .i64 0), (.int .i64 0)])])) := k_reg
@[simp] theorem q6_3 : runF E n0 g c6_3 s h = regK (some [1, 5, 6, 7, 8, 9]) (runO E n0 g h.length [⟨(some 19), (.mv (.t 1)), none⟩, ⟨(some 20), (.call 10 [(.t 19)]), none⟩, ⟨(some 18), (.mv (.t 20)), none⟩, ⟨(some 21), (.ext (.t 18) 0), none⟩, ⟨(some 22), (.ext (.t 18) 1), none⟩, ⟨(some 8), (.al 0 [(.int .i64 0), (.int .i64 0), (.int .i64 0), (.int .i64 0), (.int .i64 0)]), none⟩, ⟨none, (.st 5 (.t 8) (.t 21)), none⟩, ⟨(some 9), (.mv (.t 22)), none⟩] s (h ++ [(.cells [(.int .i64 0), (.int .i64 0), (.int .i64 0), (.int .i64 0), (.int .i64 0)])])) := k_reg
@[simp] theorem q6_4 : runF E n0 g c6_4 s h = regK (some [4]) (runO E n0 g h.length [⟨(some 23), (.mv (.t 7)), none⟩, ⟨(some 24), (.mv (.t 23)), none⟩, ⟨(some 25), (.ld true 5 (.t 5)), (some (24, true))⟩, ⟨(some 26), (.ld true 5 (.t 6)), (some (24, true))⟩, ⟨(some 27), (.eqs false [0, 0, 0, 0, 0] (.t 25) (.t 26)), (some (24, true))⟩, ⟨(some 28), (.pick (.t 24) (.t 27) (.c (.bool false))), none⟩, ⟨(some 29), (.mv (.t 28)), none⟩, ⟨(some 30), (.mv (.t 9)), (some (29, true))⟩, ⟨(some 31), (.un .not (.t 30)), (some (29, true))⟩, ⟨(some 32), (.mv (.t 31)), (some (29, true))⟩, ⟨(some 33), (.ld true 5 (.t 8)), (some (32, false))⟩, ⟨(some 34), (.call 23 [(.t 33)]), (some (32, false))⟩, ⟨(some 35), (.mv (.t 34)), (some (32, false))⟩, ⟨(some 36), (.ld true 5 (.t 8)), (some (35, true))⟩, ⟨(some 37), (.call 11 [(.t 36)]), (some (35, true))⟩, ⟨(some 38), (.mv (.t 1)), (some (35, true))⟩, ⟨(some 39), (.bin .eql (.t 37) (.t 38)), (some (35, true))⟩, ⟨(some 40), (.pick (.t 35) (.t 39) (.c (.bool false))), (some (32, false))⟩, ⟨(some 41), (.pick (.t 32) (.c (.bool true)) (.t 40)), (some (29, true))⟩, ⟨(some 42), (.pick (.t 29) (.t 41) (.c (.bool false))), none⟩, ⟨(some 43), (.mv (.t 42)), none⟩, ⟨(some 44), (.call 3 []), (some (43, true))⟩, ⟨(some 45), (.pick (.t 43) (.t 44) (.c (.bool false))), none⟩, ⟨(some 4), (.mv (.t 45)), none⟩] s h) := k_reg0
@[simp] theorem q6_5 : runF E n0 g c6_5 s h = seqK E n0 g .ret (runF E n0 g c6_4 s h) := k_seq
@[simp] theorem q6_6 : runF E n0 g c6_6 s h = seqK E n0 g c6_5 (runF E n0 g c6_3 s h) := k_seq
@[simp] theorem q6_7 : runF E n0 g c6_7 s h = seqK E n0 g c6_6 (runF E n0 g c6_2 s h) := k_seq
@[simp] theorem q6_8 : runF E n0 g c6_8 s h = seqK E n0 g c6_7 (runF E n0 g c6_1 s h) := k_seq
@[simp] theorem q6_9 : runF E n0 g c6_9 s h = seqK E n0 g c6_8 (runF E n0 g c6_0 s h) := k_seq
@[simp] theorem qq6 : runF E n0 g c6 s h = runF E n0 g c6_9 s h := rfl
@[simp] theorem q7_0 : runF E n0 g c7_0 s h = regK (some [0, 1, 2, 3]) (runO E n0 g h.length [⟨(some 8), (.mv (.c (.bool false))), none⟩] s h) := k_reg0
@[simp] theorem q7_1 : runF E n0 g c7_1 s h = regK (some [9, 10, 11]) (runO E n0 g h.length [⟨(some 12), (.mv (.t 0)), none⟩, ⟨(some 13), (.call 18 [(.t 12)]), none⟩, ⟨(some 14), (.mv (.t 1)), none⟩, ⟨(some 15), (.call 18 [(.t 14)]), none⟩, ⟨(some 16), (.mv (.t 0)), none⟩, ⟨(some 17), (.call 18 [(.t 16)]), none⟩, ⟨(some 18), (.mv (.t 2)), none⟩, ⟨(some 19), (.mv (.t 3)), none⟩, ⟨(some 20), (.call 19 [(.t 17), (.t 18), (.t 19)]), none⟩, ⟨(some 9), (.al 0 [(.int .i64 0), (.int .i64 0), (.int .i64 0), (.int .i64 0), (.int .i64 0)]), none⟩, ⟨(some 10), (.al 1 [(.int .i64 0), (.int .i64 0), (.int .i64 0), (.int .i64 0), (.int .i64 0)]), none⟩, ⟨(some 11), (.al 2 [(.int .i64 0), (.int .i64 0), (.int .i64 0), (.int .i64 0), (.int .i64 0)]), none⟩, ⟨none, (.st 5 (.t 9) (.t 13)), none⟩, ⟨none, (.st 5 (.t 10) (.t 15)), none⟩, ⟨none, (.st 5 (.t 11) (.t 20)), none⟩] s (h ++ [(.cells [(.int .i64 0), (.int .i64 0), (.int .i64 0), (.int .i64 0), (.int .i64 0)]), (.cells [(.int .i64 0), (.int .i64 0), (.int .i64 0), (.int .i64 0), (.int .i64 0)]), (.cells [(.int .i64 0), (.int .i64 0), (.int .i64 0), (.int .i64 0), (.int .i64 0)])])) := k_reg
@[simp] theorem q7_2 : runF E n0 g c7_2 s h = regT (some [9, 11, 34]) [(2, [1]), (5, [1, 3]), (6, [1, 3])] (runTr E n0 g h.length [⟨(some 21), (.ld true 5 (.t 9)), none⟩, ⟨(some 22), (.call 11 [(.t 21)]), none⟩, ⟨(some 23), (.ld true 5 (.t 10)), none⟩, ⟨(some 24), (.call 11 [(.t 23)]), none⟩, ⟨(some 25), (.bin .eql (.t 22) (.t 24)), none⟩, ⟨(some 26), (.ld true 5 (.t 9)), none⟩, ⟨(some 27), (.ld true 5 (.t 10)), none⟩, ⟨(some 28), (.eqs false [0, 0, 0, 0, 0] (.t 26) (.t 27)), none⟩, ⟨(some 29), (.beq true (.t 25) (.t 28)), none⟩, ⟨(some 30), (.mv (.t 29)), none⟩, ⟨(some 31), (.ld true 5 (.t 9)), (some (30, false))⟩, ⟨(some 32), (.call 11 [(.t 31)]), (some (30, false))⟩, ⟨(some 33), (.bin .eql (.t 32) (.c (.str []))), (some (30, false))⟩, ⟨(some 34), (.pick (.t 30) (.c (.bool true)) (.t 33)), none⟩] s h []) := by rw [show c7_2 = .reg (some [9, 11, 34]) [] [⟨(some 21), (.ld true 5 (.t 9)), none⟩, ⟨(some 22), (.call 11 [(.t 21)]), none⟩, ⟨(some 23), (.ld true 5 (.t 10)), none⟩, ⟨(some 24), (.call 11 [(.t 23)]), none⟩, ⟨(some 25), (.bin .eql (.t 22) (.t 24)), none⟩, ⟨(some 26), (.ld true 5 (.t 9)), none⟩, ⟨(some 27), (.ld true 5 (.t 10)), none⟩, ⟨(some 28), (.eqs false [0, 0, 0, 0, 0] (.t 26) (.t 27)), none⟩, ⟨(some 29), (.beq true (.t 25) (.t 28)), none⟩, ⟨(some 30), (.mv (.t 29)), none⟩, ⟨(some 31), (.ld true 5 (.t 9)), (some (30, false))⟩, ⟨(some 32), (.call 11 [(.t 31)]), (some (30, false))⟩, ⟨(some 33), (.bin .eql (.t 32) (.c (.str []))), (some (30, false))⟩, ⟨(some 34), (.pick (.t 30) (.c (.bool true)) (.t 33)), none⟩] (some [(2, [1]), (5, [1, 3]), (6, [1, 3])]) from rfl, k_regd, List.append_nil]
@[simp] theorem q7_3 : runF E n0 g c7_3 s h = regK (some [8]) (runO E n0 g h.length [⟨(some 8), (.mv (.c (.bool false))), none⟩] s h) := k_reg0
@[simp] theorem q7_4 : runF E n0 g c7_4 s h = seqK E n0 g .ret (runF E n0 g c7_3 s h) := k_seq
@[simp] theorem q7_5 : runF E n0 g c7_5 s h = condK E n0 g c7_4 .skip s h (get s 34) := k_cond
@[simp] theorem q7_6 : runF E n0 g c7_6 s h = seqK E n0 g c7_5 (runF E n0 g c7_2 s h) := k_seq
@[simp] theorem q7_7 : runF E n0 g c7_7 s h = regT (some [8]) [(6, [5]), (9, [5, 7]), (10, [5, 7])] (runTr E n0 g h.length [⟨(some 35), (.ld true 5 (.t 11)), none⟩, ⟨(some 36), (.call 23 [(.t 35)]), none⟩, ⟨(some 37), (.un .not (.t 36)), none⟩, ⟨(some 38), (.mv (.t 37)), none⟩, ⟨(some 39), (.ld true 5 (.t 9)), (some (38, false))⟩, ⟨(some 40), (.call 11 [(.t 39)]), (some (38, false))⟩, ⟨(some 41), (.ld true 5 (.t 11)), (some (38, false))⟩, ⟨(some 42), (.call 11 [(.t 41)]), (some (38, false))⟩, ⟨(some 43), (.bin .eql (.t 40) (.t 42)), (some (38, false))⟩, ⟨(some 44), (.ld true 5 (.t 9)), (some (38, false))⟩, ⟨(some 45), (.ld true 5 (.t 11)), (some (38, false))⟩, ⟨(some 46), (.eqs false [0, 0, 0, 0, 0] (.t 44) (.t 45)), (some (38, false))⟩, ⟨(some 47), (.beq false (.t 43) (.t 46)), (some (38, false))⟩, ⟨(some 48), (.pick (.t 38) (.c (.bool true)) (.t 47)), none⟩, ⟨(some 49), (.mv (.t 48)), none⟩, ⟨(some 50), (.call 3 []), (some (49, true))⟩, ⟨(some 51), (.pick (.t 49) (.t 50) (.c (.bool false))), none⟩, ⟨(some 8), (.mv (.t 51)), none⟩] s h []) := by rw [show c7_7 = .reg (some [8]) [] [⟨(some 35), (.ld true 5 (.t 11)), none⟩, ⟨(some 36), (.call 23 [(.t 35)]), none⟩, ⟨(some 37), (.un .not (.t 36)), none⟩, ⟨(some 38), (.mv (.t 37)), none⟩, ⟨(some 39), (.ld true 5 (.t 9)), (some (38, false))⟩, ⟨(some 40), (.call 11 [(.t 39)]), (some (38, false))⟩, ⟨(some 41), (.ld true 5 (.t 11)), (some (38, false))⟩, ⟨(some 42), (.call 11 [(.t 41)]), (some (38, false))⟩, ⟨(some 43), (.bin .eql (.t 40) (.t 42)), (some (38, false))⟩, ⟨(some 44), (.ld true 5 (.t 9)), (some (38, false))⟩, ⟨(some 45), (.ld true 5 (.t 11)), (some (38, false))⟩, ⟨(some 46), (.eqs false [0, 0, 0, 0, 0] (.t 44) (.t 45)), (some (38, false))⟩, ⟨(some 47), (.beq false (.t 43) (.t 46)), (some (38, false))⟩, ⟨(some 48), (.pick (.t 38) (.c (.bool true)) (.t 47)), none⟩, ⟨(some 49), (.mv (.t 48)), none⟩, ⟨(some 50), (.call 3 []), (some (49, true))⟩, ⟨(some 51), (.pick (.t 49) (.t 50) (.c (.bool false))), none⟩, ⟨(some 8), (.mv (.t 51)), none⟩] (some [(6, [5]), (9, [5, 7]), (10, [5, 7])]) from rfl, k_regd, List.append_nil]
@[simp] theorem q7_8 : runF E n0 g c7_8 s h = seqK E n0 g .ret (runF E n0 g c7_7 s h) := k_seq
@[simp] theorem q7_9 : runF E n0 g c7_9 s h = seqK E n0 g c7_8 (runF E n0 g c7_6 s h) := k_seq
@[simp] theorem q7_10 : runF E n0 g c7_10 s h = seqK E n0 g c7_9 (runF E n0 g c7_1 s h) := k_seq
@[simp] theorem q7_11 : runF E n0 g c7_11 s h = seqK E n0 g c7_10 (runF E n0 g c7_0 s h) := k_seq
@[simp] theorem qq7 : runF E n0 g c7 s h = runF E n0 g c7_11 s h := rfl
@[simp] theorem q8_0 : runF E n0 g c8_0 s h = regK (some [1, 2, 3, 4]) (runO E n0 g h.length [⟨(some 4), (.bx 0 (.t 0)), none⟩, ⟨(some 8), (.mv (.c (.bool false))), none⟩] s (h ++ [.dead])) := k_reg
@[simp] theorem q8_1 : runF E n0 g c8_1 s h = regT (some [1, 23, 24, 25]) [(0, [2, 4, 7])] (runTr E n0 g h.length [⟨(some 15), (.ld true 5 (.t 4)), none⟩, ⟨(some 16), (.mv (.t 1)), none⟩, ⟨(some 17), (.call 18 [(.t 16)]), none⟩, ⟨(some 18), (.mv (.t 1)), none⟩, ⟨(some 19), (.call 18 [(.t 18)]), none⟩, ⟨(some 20), (.mv (.t 2)), none⟩, ⟨(some 21), (.mv (.t 3)), none⟩, ⟨(some 22), (.call 19 [(.t 19), (.t 20), (.t 21)]), none⟩, ⟨(some 23), (.bsl 5 (.agg [(.int .i64 0), (.int .i64 0), (.int .i64 0), (.int .i64 0), (.int .i64 0)]) 3 [(0, (.t 15)), (1, (.t 17)), (2, (.t 22))]), none⟩, ⟨(some 24), (.len (.t 23)), none⟩, ⟨(some 25), (.mv (.c (.int .i64 0))), none⟩] s h []) := by rw [show c8_1 = .reg (some [1, 23, 24, 25]) [] [⟨(some 15), (.ld true 5 (.t 4)), none⟩, ⟨(some 16), (.mv (.t 1)), none⟩, ⟨(some 17), (.call 18 [(.t 16)]), none⟩, ⟨(some 18), (.mv (.t 1)), none⟩, ⟨(some 19), (.call 18 [(.t 18)]), none⟩, ⟨(some 20), (.mv (.t 2)), none⟩, ⟨(some 21), (.mv (.t 3)), none⟩, ⟨(some 22), (.call 19 [(.t 19), (.t 20), (.t 21)]), none⟩, ⟨(some 23), (.bsl 5 (.agg [(.int .i64 0), (.int .i64 0), (.int .i64 0), (.int .i64 0), (.int .i64 0)]) 3 [(0, (.t 15)), (1, (.t 17)), (2, (.t 22))]), none⟩, ⟨(some 24), (.len (.t 23)), none⟩, ⟨(some 25), (.mv (.c (.int .i64 0))), none⟩] (some [(0, [2, 4, 7])]) from rfl, k_regd, List.append_nil]
@[simp] theorem q8_2 : runF E n0 g c8_2 s h = regK (some [1, 23, 24, 25, 26]) (runO E n0 g h.length [⟨(some 26), (.bin .lss (.t 25) (.t 24)), none⟩] s h) := k_reg0
@[simp] theorem q8_3 : runF E n0 g c8_3 s h = condK E n0 g .skip (.exit 0) s h (get s 26) := k_cond
@[simp] theorem q8_4 : runF E n0 g c8_4 s h = regK (some [1, 10, 23, 24, 25]) (runO E n0 g h.length [⟨(some 27), (.ia 5 (.t 23) (.t 25)), none⟩, ⟨(some 28), (.ld true 5 (.t 27)), none⟩, ⟨(some 10), (.al 0 [(.int .i64 0), (.int .i64 0), (.int .i64 0), (.int .i64 0), (.int .i64 0)]), none⟩, ⟨none, (.st 5 (.t 10) (.t 28)), none⟩] s (h ++ [(.cells [(.int .i64 0), (.int .i64 0), (.int .i64 0), (.int .i64 0), (.int .i64 0)])])) := k_reg
@[simp] theorem q8_5 : runF E n0 g c8_5 s h = regK (some [1, 10, 11, 12, 23, 24, 25]) (runO E n0 g h.length [⟨(some 30), (.ld true 5 (.t 10)), none⟩, ⟨(some 31), (.call 24 [(.t 30)]), none⟩, ⟨(some 29), (.mv (.t 31)), none⟩, ⟨(some 32), (.ext (.t 29) 0), none⟩, ⟨(some 33), (.ext (.t 29) 1), none⟩, ⟨(some 11), (.mv (.t 32)), none⟩, ⟨(some 12), (.mv (.t 33)), none⟩] s h) := k_reg0
@[simp] theorem q8_6 : runF E n0 g c8_6 s h = regK (some [1, 10, 11, 12, 13, 14, 23, 24, 25]) (runO E n0 g h.length [⟨(some 35), (.ld true 5 (.t 10)), none⟩, ⟨(some 36), (.call 25 [(.t 35)]), none⟩, ⟨(some 34), (.mv (.t 36)), none⟩, ⟨(some 37), (.ext (.t 34) 0), none⟩, ⟨(some 38), (.ext (.t 34) 1), none⟩, ⟨(some 13), (.mv (.t 37)), none⟩, ⟨(some 14), (.mv (.t 38)), none⟩] s h) := k_reg0
@[simp] theorem q8_7 : runF E n0 g c8_7 s h = regT (some [1, 23, 24, 25, 69]) [(2, [1]), (18, [17]), (26, [25])] (runTr E n0 g h.length [⟨(some 39), (.ld true 5 (.t 10)), none⟩, ⟨(some 40), (.call 23 [(.t 39)]), none⟩, ⟨(some 41), (.ld true 5 (.t 10)), none⟩, ⟨(some 42), (.call 26 [(.t 41)]), none⟩, ⟨(some 43), (.beq true (.t 40) (.t 42)), none⟩, ⟨(some 44), (.mv (.t 43)), none⟩, ⟨(some 45), (.mv (.t 11)), (some (44, false))⟩, ⟨(some 46), (.mv (.t 13)), (some (44, false))⟩, ⟨(some 47), (.beq true (.t 45) (.t 46)), (some (44, false))⟩, ⟨(some 48), (.pick (.t 44) (.c (.bool true)) (.t 47)), none⟩, ⟨(some 49), (.mv (.t 48)), none⟩, ⟨(some 50), (.mv (.t 12)), (some (49, false))⟩, ⟨(some 51), (.mv (.t 14)), (some (49, false))⟩, ⟨(some 52), (.beq true (.t 50) (.t 51)), (some (49, false))⟩, ⟨(some 53), (.pick (.t 49) (.c (.bool true)) (.t 52)), none⟩, ⟨(some 54), (.mv (.t 53)), none⟩, ⟨(some 55), (.ld true 5 (.t 10)), (some (54, false))⟩, ⟨(some 56), (.call 13 [(.t 55)]), (some (54, false))⟩, ⟨(some 57), (.ld true 5 (.t 10)), (some (54, false))⟩, ⟨(some 58), (.call 27 [(.t 57)]), (some (54, false))⟩, ⟨(some 59), (.call 12 [(.t 56), (.t 58)]), (some (54, false))⟩, ⟨(some 60), (.un .not (.t 59)), (some (54, false))⟩, ⟨(some 61), (.pick (.t 54) (.c (.bool true)) (.t 60)), none⟩, ⟨(some 62), (.mv (.t 61)), none⟩, ⟨(some 63), (.ld true 5 (.t 10)), (some (62, false))⟩, ⟨(some 64), (.call 14 [(.t 63)]), (some (62, false))⟩, ⟨(some 65), (.ld true 5 (.t 10)), (some (62, false))⟩, ⟨(some 66), (.call 28 [(.t 65)]), (some (62, false))⟩, ⟨(some 67), (.call 12 [(.t 64), (.t 66)]), (some (62, false))⟩, ⟨(some 68), (.un .not (.t 67)), (some (62, false))⟩, ⟨(some 69), (.pick (.t 62) (.c (.bool true)) (.t 68)), none⟩] s h []) := by rw [show c8_7 = .reg (some [1, 23, 24, 25, 69]) [] [⟨(some 39), (.ld true 5 (.t 10)), none⟩, ⟨(some 40), (.call 23 [(.t 39)]), none⟩, ⟨(some 41), (.ld true 5 (.t 10)), none⟩, ⟨(some 42), (.call 26 [(.t 41)]), none⟩, ⟨(some 43), (.beq true (.t 40) (.t 42)), none⟩, ⟨(some 44), (.mv (.t 43)), none⟩, ⟨(some 45), (.mv (.t 11)), (some (44, false))⟩, ⟨(some 46), (.mv (.t 13)), (some (44, false))⟩, ⟨(some 47), (.beq true (.t 45) (.t 46)), (some (44, false))⟩, ⟨(some 48), (.pick (.t 44) (.c (.bool true)) (.t 47)), none⟩, ⟨(some 49), (.mv (.t 48)), none⟩, ⟨(some 50), (.mv (.t 12)), (some (49, false))⟩, ⟨(some 51), (.mv (.t 14)), (some (49, false))⟩, ⟨(some 52), (.beq true (.t 50) (.t 51)), (some (49, false))⟩, ⟨(some 53), (.pick (.t 49) (.c (.bool true)) (.t 52)), none⟩, ⟨(some 54), (.mv (.t 53)), none⟩, ⟨(some 55), (.ld true 5 (.t 10)), (some (54, false))⟩, ⟨(some 56), (.call 13 [(.t 55)]), (some (54, false))⟩, ⟨(some 57), (.ld true 5 (.t 10)), (some (54, false))⟩, ⟨(some 58), (.call 27 [(.t 57)]), (some (54, false))⟩, ⟨(some 59), (.call 12 [(.t 56), (.t 58)]), (some (54, false))⟩, ⟨(some 60), (.un .not (.t 59)), (some (54, false))⟩, ⟨(some 61), (.pick (.t 54) (.c (.bool true)) (.t 60)), none⟩, ⟨(some 62), (.mv (.t 61)), none⟩, ⟨(some 63), (.ld true 5 (.t 10)), (some (62, false))⟩, ⟨(some 64), (.call 14 [(.t 63)]), (some (62, false))⟩, ⟨(some 65), (.ld true 5 (.t 10)), (some (62, false))⟩, ⟨(some 66), (.call 28 [(.t 65)]), (some (62, false))⟩, ⟨(some 67), (.call 12 [(.t 64), (.t 66)]), (some (62, false))⟩, ⟨(some 68), (.un .not (.t 67)), (some (62, false))⟩, ⟨(some 69), (.pick (.t 62) (.c (.bool true)) (.t 68)), none⟩] (some [(2, [1]), (18, [17]), (26, [25])]) from rfl, k_regd, List.append_nil]
@[simp] theorem q8_8 : runF E n0 g c8_8 s h = regK (some [8]) (runO E n0 g h.length [⟨(some 8), (.mv (.c (.bool false))), none⟩] s h) := k_reg0
@[simp] theorem q8_9 : runF E n0 g c8_9 s h = seqK E n0 g .ret (runF E n0 g c8_8 s h) := k_seq
@[simp] theorem q8_10 : runF E n0 g c8_10 s h = condK E n0 g c8_9 .skip s h (get s 69) := k_cond
@[simp] theorem q8_11 : runF E n0 g c8_11 s h = seqK E n0 g c8_10 (runF E n0 g c8_7 s h) := k_seq
@[simp] theorem q8_12 : runF E n0 g c8_12 s h = seqK E n0 g c8_11 (runF E n0 g c8_6 s h) := k_seq
@[simp] theorem q8_13 : runF E n0 g c8_13 s h = seqK E n0 g c8_12 (runF E n0 g c8_5 s h) := k_seq
@[simp] theorem q8_14 : runF E n0 g c8_14 s h = seqK E n0 g c8_13 (runF E n0 g c8_4 s h) := k_seq
@[simp] theorem q8_15 : runF E n0 g c8_15 s h = blkK (some [1, 23, 24, 25]) 1 (runF E n0 g c8_14 s h) := k_block
@[simp] theorem q8_16 : runF E n0 g c8_16 s h = regK (some [1, 23, 24, 25]) (runO E n0 g h.length [⟨(some 70), (.bin .add (.t 25) (.c (.int .i64 1))), none⟩, ⟨(some 25), (.mv (.t 70)), none⟩] s h) := k_reg0
@[simp] theorem q8_17 : runF E n0 g c8_17 s h = seqK E n0 g c8_16 (runF E n0 g c8_15 s h) := k_seq
@[simp] theorem q8_18 : runF E n0 g c8_18 s h = seqK E n0 g c8_17 (runF E n0 g c8_3 s h) := k_seq
@[simp] theorem q8_19 : runF E n0 g c8_19 s h = seqK E n0 g c8_18 (runF E n0 g c8_2 s h) := k_seq
theorem q8_20 : runF E n0 g c8_20 s h = loopK E n0 g (some [1, 23, 24, 25]) c8_19 (runF E n0 g c8_19 (clearO (some [1, 23, 24, 25]) s) h) := k_loop
@[simp] theorem q8_20L : runF E n0 g (.loop (some [1, 23, 24, 25]) c8_19) s h = runF E n0 g c8_20 s h := rfl
@[simp] theorem q8_21 : runF E n0 g c8_21 s h = blkK (some [1]) 0 (runF E n0 g c8_20 s h) := k_block
@[simp] theorem q8_22 : runF E n0 g c8_22 s h = seqK E n0 g c8_21 (runF E n0 g c8_1 s h) := k_seq
@[simp] theorem q8_23 : runF E n0 g c8_23 s h = regK (some [8]) (runO E n0 g h.length [⟨(some 71), (.mv (.t 1)), none⟩, ⟨(some 72), (.call 18 [(.t 71)]), none⟩, ⟨(some 73), (.call 23 [(.t 72)]), none⟩, ⟨(some 74), (.mv (.t 73)), none⟩, ⟨(some 75), (.call 3 []), (some (74, true))⟩, ⟨(some 76), (.pick (.t 74) (.t 75) (.c (.bool false))), none⟩, ⟨(some 8), (.mv (.t 76)), none⟩] s h) := k_reg0
@[simp] theorem q8_24 : runF E n0 g c8_24 s h = seqK E n0 g .ret (runF E n0 g c8_23 s h) := k_seq
@[simp] theorem q8_25 : runF E n0 g c8_25 s h = seqK E n0 g c8_24 (runF E n0 g c8_22 s h) := k_seq
@[simp] theorem q8_26 : runF E n0 g c8_26 s h = seqK E n0 g c8_25 (runF E n0 g c8_0 s h) := k_seq
@[simp] theorem qq8 : runF E n0 g c8 s h = runF E n0 g c8_26 s h := rfl
@[simp] theorem q10_0 : runF E n0 g c10_0 s h = regK (some [0, 2]) (runO E n0 g h.length [⟨(some 2), (.al 0 [(.int .i64 0), (.int .i64 0), (.int .i64 0), (.int .i64 0), (.int .i64 0)]), none⟩, ⟨(some 3), (.mv (.c (.bool false))), none⟩] s (h ++ [(.cells [(.int .i64 0), (.int .i64 0), (.int .i64 0), (.int .i64 0), (.int .i64 0)])])) := k_reg
@[simp] theorem q10_1 : runF E n0 g c10_1 s h = regK (some [0, 2, 4, 5]) (runO E n0 g h.length [⟨(some 22), (.mv (.t 0)), none⟩, ⟨(some 23), (.call 29 [(.t 22)]), none⟩, ⟨(some 21), (.mv (.t 23)), none⟩, ⟨(some 24), (.ext (.t 21) 0), none⟩, ⟨(some 25), (.ext (.t 21) 1), none⟩, ⟨(some 4), (.mv (.t 24)), none⟩, ⟨(some 5), (.mv (.t 25)), none⟩] s h) := k_reg0
@[simp] theorem q10_2 : runF E n0 g c10_2 s h = regK (some [0, 2, 5, 6, 7]) (runO E n0 g h.length [⟨(some 27), (.mv (.t 4)), none⟩, ⟨(some 28), (.call 16 [(.t 27)]), none⟩, ⟨(some 26), (.mv (.t 28)), none⟩, ⟨(some 29), (.ext (.t 26) 0), none⟩, ⟨(some 30), (.ext (.t 26) 1), none⟩, ⟨(some 6), (.mv (.t 29)), none⟩, ⟨(some 7), (.mv (.t 30)), none⟩] s h) := k_reg0
@[simp] theorem q10_3 : runF E n0 g c10_3 s h = regK (some [0, 2, 5, 6, 32]) (runO E n0 g h.length [⟨(some 31), (.mv (.t 7)), none⟩, ⟨(some 32), (.un .not (.t 31)), none⟩] s h) := k_reg0
@[simp] theorem q10_4 : runF E n0 g c10_4 s h = regK (some [2, 3]) (runO E n0 g h.length [⟨(some 33), (.bld [(.int .i64 0), (.int .i64 0), (.int .i64 0), (.int .i64 0), (.int .i64 0)] []), none⟩, ⟨none, (.st 5 (.t 2) (.t 33)), none⟩, ⟨(some 3), (.mv (.c (.bool false))), none⟩] s h) := k_reg0
@[simp] theorem q10_5 : runF E n0 g c10_5 s h = seqK E n0 g .ret (runF E n0 g c10_4 s h) := k_seq
@[simp] theorem q10_6 : runF E n0 g c10_6 s h = condK E n0 g c10_5 .skip s h (get s 32) := k_cond
@[simp] theorem q10_7 : runF E n0 g c10_7 s h = seqK E n0 g c10_6 (runF E n0 g c10_3 s h) := k_seq
@[simp] theorem q10_8 : runF E n0 g c10_8 s h = regK (some [0, 2, 5, 6, 8]) (runO E n0 g h.length [⟨(some 35), (.mv (.t 6)), none⟩, ⟨(some 36), (.call 9 [(.t 35)]), none⟩, ⟨(some 34), (.mv (.t 36)), none⟩, ⟨(some 37), (.ext (.t 34) 0), none⟩, ⟨(some 38), (.ext (.t 34) 1), none⟩, ⟨(some 8), (.al 0 [(.str []), (.int .i64 0), (.bool false), (.bool false), (.bool false), (.bool false), (.int .i64 0)]), none⟩, ⟨none, (.st 7 (.t 8) (.t 37)), none⟩, ⟨(some 9), (.mv (.t 38)), none⟩] s (h ++ [(.cells [(.str []), (.int .i64 0), (.bool false), (.bool false), (.bool false), (.bool false), (.int .i64 0)])])) := k_reg
@[simp] theorem q10_9 : runF E n0 g c10_9 s h = regK (some [0, 2, 5, 6, 10, 11, 12, 13]) (runO E n0 g h.length [⟨(some 40), (.fa 1 (.t 8)), none⟩, ⟨(some 41), (.ld false 1 (.t 40)), none⟩, ⟨(some 42), (.call 30 [(.t 41)]), none⟩, ⟨(some 39), (.mv (.t 42)), none⟩, ⟨(some 43), (.ext (.t 39) 0), none⟩, ⟨(some 44), (.ext (.t 39) 1), none⟩, ⟨(some 45), (.ext (.t 39) 2), none⟩, ⟨(some 46), (.ext (.t 39) 3), none⟩, ⟨(some 10), (.mv (.t 43)), none⟩, ⟨(some 11), (.mv (.t 44)), none⟩, ⟨(some 12), (.mv (.t 45)), none⟩, ⟨(some 13), (.mv (.t 46)), none⟩] s h) := k_reg0
@[simp] theorem q10_10 : runF E n0 g c10_10 s h = regK (some [0, 2, 5, 6, 10, 11, 12, 13, 14]) (runO E n0 g h.length [⟨(some 47), (.mv (.t 6)), none⟩, ⟨(some 48), (.bld [(.int .i64 0), (.int .i64 0), (.int .i64 0), (.int .i64 0), (.int .i64 0)] [(0, (1, (.t 47)))]), none⟩, ⟨(some 14), (.al 0 [(.int .i64 0), (.int .i64 0), (.int .i64 0), (.int .i64 0), (.int .i64 0)]), none⟩, ⟨none, (.st 5 (.t 14) (.t 48)), none⟩] s (h ++ [(.cells [(.int .i64 0), (.int .i64 0), (.int .i64 0), (.int .i64 0), (.int .i64 0)])])) := k_reg
@[simp] theorem q10_11 : runF E n0 g c10_11 s h = regK (some [0, 2, 5, 6, 13, 14, 58, 59, 60]) (runO E n0 g h.length [⟨(some 49), (.mv (.t 10)), none⟩, ⟨(some 50), (.fa 1 (.t 14)), none⟩, ⟨(some 51), (.bld [(.bool false), .nilp] [(0, (1, (.t 49))), (1, (1, (.t 50)))]), none⟩, ⟨(some 52), (.mv (.t 11)), none⟩, ⟨(some 53), (.fa 2 (.t 14)), none⟩, ⟨(some 54), (.bld [(.bool false), .nilp] [(0, (1, (.t 52))), (1, (1, (.t 53)))]), none⟩, ⟨(some 55), (.mv (.t 12)), none⟩, ⟨(some 56), (.fa 3 (.t 14)), none⟩, ⟨(some 57), (.bld [(.bool false), .nilp] [(0, (1, (.t 55))), (1, (1, (.t 56)))]), none⟩, ⟨(some 58), (.bsr 0 3 [(.bool false), .nilp, (.bool false), .nilp, (.bool false), .nilp] [(0, (2, (.t 51))), (2, (2, (.t 54))), (4, (2, (.t 57)))]), none⟩, ⟨(some 59), (.len (.t 58)), none⟩, ⟨(some 60), (.mv (.c (.int .i64 0))), none⟩] s (h ++ [.dead])) := k_reg
@[simp] theorem q10_12 : runF E n0 g c10_12 s h = regK (some [0, 2, 5, 6, 13, 14, 58, 59, 60, 61]) (runO E n0 g h.length [⟨(some 61), (.bin .lss (.t 60) (.t 59)), none⟩] s h) := k_reg0
@[simp] theorem q10_13 : runF E n0 g c10_13 s h = condK E n0 g .skip (.exit 0) s h (get s 61) := k_cond
@[simp] theorem q10_14 : runF E n0 g c10_14 s h = regK (some [0, 2, 5, 6, 13, 14, 16, 58, 59, 60]) (runO E n0 g h.length [⟨(some 62), (.ia 2 (.t 58) (.t 60)), none⟩, ⟨(some 63), (.ld true 2 (.t 62)), none⟩, ⟨(some 16), (.al 0 [(.bool false), .nilp]), none⟩, ⟨none, (.st 2 (.t 16) (.t 63)), none⟩] s (h ++ [(.cells [(.bool false), .nilp])])) := k_reg
@[simp] theorem q10_15 : runF E n0 g c10_15 s h = regK (some [0, 2, 5, 6, 13, 14, 16, 58, 59, 60, 66]) (runO E n0 g h.length [⟨(some 64), (.fa 0 (.t 16)), none⟩, ⟨(some 65), (.ld false 1 (.t 64)), none⟩, ⟨(some 66), (.un .not (.t 65)), none⟩] s h) := k_reg0
@[simp] theorem q10_16 : runF E n0 g c10_16 s h = condK E n0 g (.exit 1) .skip s h (get s 66) := k_cond
@[simp] theorem q10_17 : runF E n0 g c10_17 s h = seqK E n0 g c10_16 (runF E n0 g c10_15 s h) := k_seq
@[simp] theorem q10_18 : runF E n0 g c10_18 s h = regK (some [0, 2, 5, 6, 13, 14, 16, 58, 59, 60, 69]) (runO E n0 g h.length [⟨(some 67), (.mv (.t 5)), none⟩, ⟨(some 68), (.len (.t 67)), none⟩, ⟨(some 69), (.bin .eql (.t 68) (.c (.int .i64 0))), none⟩] s h) := k_reg0
@[simp] theorem q10_19 : runF E n0 g c10_19 s h = regK (some [2, 3]) (runO E n0 g h.length [⟨(some 70), (.bld [(.int .i64 0), (.int .i64 0), (.int .i64 0), (.int .i64 0), (.int .i64 0)] []), none⟩, ⟨none, (.st 5 (.t 2) (.t 70)), none⟩, ⟨(some 3), (.mv (.c (.bool false))), none⟩] s h) := k_reg0
@[simp] theorem q10_20 : runF E n0 g c10_20 s h = seqK E n0 g .ret (runF E n0 g c10_19 s h) := k_seq
@[simp] theorem q10_21 : runF E n0 g c10_21 s h = condK E n0 g c10_20 .skip s h (get s 69) := k_cond
@[simp] theorem q10_22 : runF E n0 g c10_22 s h = seqK E n0 g c10_21 (runF E n0 g c10_18 s h) := k_seq
@[simp] theorem q10_23 : runF E n0 g c10_23 s h = regT (some [0, 2, 5, 6, 13, 14, 16, 58, 59, 60]) [(1, [5])] (runTr E n0 g h.length [⟨(some 71), (.fa 1 (.t 16)), none⟩, ⟨(some 72), (.ld false 1 (.t 71)), none⟩, ⟨(some 73), (.mv (.t 5)), none⟩, ⟨(some 74), (.ia 1 (.t 73) (.c (.int .i64 0))), none⟩, ⟨(some 75), (.ld false 1 (.t 74)), none⟩, ⟨(some 76), (.call 31 [(.t 75)]), none⟩, ⟨(some 77), (.nilc (.t 72)), none⟩, ⟨none, (.st 1 (.t 77) (.t 76)), none⟩] s h []) := by rw [show c10_23 = .reg (some [0, 2, 5, 6, 13, 14, 16, 58, 59, 60]) [] [⟨(some 71), (.fa 1 (.t 16)), none⟩, ⟨(some 72), (.ld false 1 (.t 71)), none⟩, ⟨(some 73), (.mv (.t 5)), none⟩, ⟨(some 74), (.ia 1 (.t 73) (.c (.int .i64 0))), none⟩, ⟨(some 75), (.ld false 1 (.t 74)), none⟩, ⟨(some 76), (.call 31 [(.t 75)]), none⟩, ⟨(some 77), (.nilc (.t 72)), none⟩, ⟨none, (.st 1 (.t 77) (.t 76)), none⟩] (some [(1, [5])]) from rfl, k_regd, List.append_nil]
@[simp] theorem q10_24 : runF E n0 g c10_24 s h = regK (some [0, 2, 5, 6, 13, 14, 16, 58, 59, 60, 79]) (runO E n0 g h.length [⟨(some 78), (.mv (.t 6)), none⟩, ⟨(some 79), (.bin .eql (.t 78) (.c (.int .i64 6))), none⟩] s h) := k_reg0
@[simp] theorem q10_25 : runF E n0 g c10_25 s h = regK (some [0, 2, 5, 6, 13, 14, 16, 17, 18, 58, 59, 60]) (runO E n0 g h.length [⟨(some 81), (.mv (.t 5)), none⟩, ⟨(some 82), (.ia 1 (.t 81) (.c (.int .i64 0))), none⟩, ⟨(some 83), (.ld false 1 (.t 82)), none⟩, ⟨(some 84), (.call 32 [(.t 83)]), none⟩, ⟨(some 80), (.mv (.t 84)), none⟩, ⟨(some 85), (.ext (.t 80) 0), none⟩, ⟨(some 86), (.ext (.t 80) 1), none⟩, ⟨(some 17), (.mv (.t 85)), none⟩, ⟨(some 18), (.mv (.t 86)), none⟩] s h) := k_reg0
@[simp] theorem q10_26 : runF E n0 g c10_26 s h = regK (some [0, 2, 5, 6, 13, 14, 16, 17, 58, 59, 60, 96]) (runO E n0 g h.length [⟨(some 87), (.mv (.t 18)), none⟩, ⟨(some 88), (.un .not (.t 87)), none⟩, ⟨(some 89), (.mv (.t 88)), none⟩, ⟨(some 90), (.mv (.t 17)), (some (89, false))⟩, ⟨(some 91), (.bin .lss (.t 90) (.c (.int .i64 0))), (some (89, false))⟩, ⟨(some 92), (.pick (.t 89) (.c (.bool true)) (.t 91)), none⟩, ⟨(some 93), (.mv (.t 92)), none⟩, ⟨(some 94), (.mv (.t 17)), (some (93, false))⟩, ⟨(some 95), (.bin .gtr (.t 94) (.c (.int .i64 6))), (some (93, false))⟩, ⟨(some 96), (.pick (.t 93) (.c (.bool true)) (.t 95)), none⟩] s h) := k_reg0
@[simp] theorem q10_27 : runF E n0 g c10_27 s h = regK (some [2, 3]) (runO E n0 g h.length [⟨(some 97), (.bld [(.int .i64 0), (.int .i64 0), (.int .i64 0), (.int .i64 0), (.int .i64 0)] []), none⟩, ⟨none, (.st 5 (.t 2) (.t 97)), none⟩, ⟨(some 3), (.mv (.c (.bool false))), none⟩] s h) := k_reg0
@[simp] theorem q10_28 : runF E n0 g c10_28 s h = seqK E n0 g .ret (runF E n0 g c10_27 s h) := k_seq
@[simp] theorem q10_29 : runF E n0 g c10_29 s h = condK E n0 g c10_28 .skip s h (get s 96) := k_cond
@[simp] theorem q10_30 : runF E n0 g c10_30 s h = seqK E n0 g c10_29 (runF E n0 g c10_26 s h) := k_seq
@[simp] theorem q10_31 : runF E n0 g c10_31 s h = regK (some [0, 2, 5, 6, 13, 14, 58, 59, 60]) (runO E n0 g h.length [⟨(some 98), (.fa 1 (.t 16)), none⟩, ⟨(some 99), (.ld false 1 (.t 98)), none⟩, ⟨(some 100), (.mv (.t 17)), none⟩, ⟨(some 101), (.nilc (.t 99)), none⟩, ⟨none, (.st 1 (.t 101) (.t 100)), none⟩] s h) := k_reg0
@[simp] theorem q10_32 : runF E n0 g c10_32 s h = seqK E n0 g c10_31 (runF E n0 g c10_30 s h) := k_seq
@[simp] theorem q10_33 : runF E n0 g c10_33 s h = seqK E n0 g c10_32 (runF E n0 g c10_25 s h) := k_seq
@[simp] theorem q10_34 : runF E n0 g c10_34 s h = condK E n0 g c10_33 .skip s h (get s 79) := k_cond
@[simp] theorem q10_35 : runF E n0 g c10_35 s h = seqK E n0 g c10_34 (runF E n0 g c10_24 s h) := k_seq
@[simp] theorem q10_36 : runF E n0 g c10_36 s h = regK (some [0, 2, 5, 6, 13, 14, 58, 59, 60]) (runO E n0 g h.length [⟨(some 102), (.mv (.t 5)), none⟩, ⟨(some 103), (.sll 1 (.t 102) (some (.c (.int .i64 1))) none), none⟩, ⟨(some 5), (.mv (.t 103)), none⟩] s h) := k_reg0
@[simp] theorem q10_37 : runF E n0 g c10_37 s h = seqK E n0 g c10_36 (runF E n0 g c10_35 s h) := k_seq
@[simp] theorem q10_38 : runF E n0 g c10_38 s h = seqK E n0 g c10_37 (runF E n0 g c10_23 s h) := k_seq
@[simp] theorem q10_39 : runF E n0 g c10_39 s h = seqK E n0 g c10_38 (runF E n0 g c10_22 s h) := k_seq
@[simp] theorem q10_40 : runF E n0 g c10_40 s h = seqK E n0 g c10_39 (runF E n0 g c10_17 s h) := k_seq
@[simp] theorem q10_41 : runF E n0 g c10_41 s h = seqK E n0 g c10_40 (runF E n0 g c10_14 s h) := k_seq
@[simp] theorem q10_42 : runF E n0 g c10_42 s h = blkK (some [0, 2, 5, 6, 13, 14, 58, 59, 60]) 1 (runF E n0 g c10_41 s h) := k_block
@[simp] theorem q10_43 : runF E n0 g c10_43 s h = regK (some [0, 2, 5, 6, 13, 14, 58, 59, 60]) (runO E n0 g h.length [⟨(some 104), (.bin .add (.t 60) (.c (.int .i64 1))), none⟩, ⟨(some 60), (.mv (.t 104)), none⟩] s h) := k_reg0
@[simp] theorem q10_44 : runF E n0 g c10_44 s h = seqK E n0 g c10_43 (runF E n0 g c10_42 s h) := k_seq
@[simp] theorem q10_45 : runF E n0 g c10_45 s h = seqK E n0 g c10_44 (runF E n0 g c10_13 s h) := k_seq
@[simp] theorem q10_46 : runF E n0 g c10_46 s h = seqK E n0 g c10_45 (runF E n0 g c10_12 s h) := k_seq
theorem q10_47 : runF E n0 g c10_47 s h = loopK E n0 g (some [0, 2, 5, 6, 13, 14, 58, 59, 60]) c10_46 (runF E n0 g c10_46 (clearO (some [0, 2, 5, 6, 13, 14, 58, 59, 60]) s) h) := k_loop
@[simp] theorem q10_47L : runF E n0 g (.loop (some [0, 2, 5, 6, 13, 14, 58, 59, 60]) c10_46) s h = runF E n0 g c10_47 s h := rfl
@[simp] theorem q10_48 : runF E n0 g c10_48 s h = blkK (some [0, 2, 5, 13, 14]) 0 (runF E n0 g c10_47 s h) := k_block
@[simp] theorem q10_49 : runF E n0 g c10_49 s h = seqK E n0 g c10_48 (runF E n0 g c10_11 s h) := k_seq
@[simp] theorem q10_50 : runF E n0 g c10_50 s h = regK (some [0, 2, 5, 14, 105]) (runO E n0 g h.length [⟨(some 105), (.mv (.t 13)), none⟩] s h) := k_reg0
@[simp] theorem q10_51 : runF E n0 g c10_51 s h = regK (some [0, 2, 5, 14, 108]) (runO E n0 g h.length [⟨(some 106), (.mv (.t 5)), none⟩, ⟨(some 107), (.len (.t 106)), none⟩, ⟨(some 108), (.bin .eql (.t 107) (.c (.int .i64 0))), none⟩] s h) := k_reg0
@[simp] theorem q10_52 : runF E n0 g c10_52 s h = regK (some [2, 3]) (runO E n0 g h.length [⟨(some 109), (.bld [(.int .i64 0), (.int .i64 0), (.int .i64 0), (.int .i64 0), (.int .i64 0)] []), none⟩, ⟨none, (.st 5 (.t 2) (.t 109)), none⟩, ⟨(some 3), (.mv (.c (.bool false))), none⟩] s h) := k_reg0
@[simp] theorem q10_53 : runF E n0 g c10_53 s h = seqK E n0 g .ret (runF E n0 g c10_52 s h) := k_seq
@[simp] theorem q10_54 : runF E n0 g c10_54 s h = condK E n0 g c10_53 .skip s h (get s 108) := k_cond
@[simp] theorem q10_55 : runF E n0 g c10_55 s h = seqK E n0 g c10_54 (runF E n0 g c10_51 s h) := k_seq
@[simp] theorem q10_56 : runF E n0 g c10_56 s h = regK (some [0, 2, 5, 14, 19, 20]) (runO E n0 g h.length [⟨(some 111), (.mv (.t 5)), none⟩, ⟨(some 112), (.ia 1 (.t 111) (.c (.int .i64 0))), none⟩, ⟨(some 113), (.ld false 1 (.t 112)), none⟩, ⟨(some 114), (.call 32 [(.t 113)]), none⟩, ⟨(some 110), (.mv (.t 114)), none⟩, ⟨(some 115), (.ext (.t 110) 0), none⟩, ⟨(some 116), (.ext (.t 110) 1), none⟩, ⟨(some 19), (.mv (.t 115)), none⟩, ⟨(some 20), (.mv (.t 116)), none⟩] s h) := k_reg0
@[simp] theorem q10_57 : runF E n0 g c10_57 s h = regK (some [0, 2, 5, 14, 19, 118]) (runO E n0 g h.length [⟨(some 117), (.mv (.t 20)), none⟩, ⟨(some 118), (.un .not (.t 117)), none⟩] s h) := k_reg0
@[simp] theorem q10_58 : runF E n0 g c10_58 s h = regK (some [2, 3]) (runO E n0 g h.length [⟨(some 119), (.bld [(.int .i64 0), (.int .i64 0), (.int .i64 0), (.int .i64 0), (.int .i64 0)] []), none⟩, ⟨none, (.st 5 (.t 2) (.t 119)), none⟩, ⟨(some 3), (.mv (.c (.bool false))), none⟩] s h) := k_reg0
@[simp] theorem q10_59 : runF E n0 g c10_59 s h = seqK E n0 g .ret (runF E n0 g c10_58 s h) := k_seq
@[simp] theorem q10_60 : runF E n0 g c10_60 s h = condK E n0 g c10_59 .skip s h (get s 118) := k_cond
@[simp] theorem q10_61 : runF E n0 g c10_61 s h = seqK E n0 g c10_60 (runF E n0 g c10_57 s h) := k_seq
@[simp] theorem q10_62 : runF E n0 g c10_62 s h = regK (some [0, 2, 5, 14]) (runO E n0 g h.length [⟨(some 120), (.mv (.t 19)), none⟩, ⟨(some 121), (.fa 4 (.t 14)), none⟩, ⟨none, (.st 1 (.t 121) (.t 120)), none⟩] s h) := k_reg0
@[simp] theorem q10_63 : runF E n0 g c10_63 s h = regK (some [0, 2, 5, 14]) (runO E n0 g h.length [⟨(some 122), (.mv (.t 5)), none⟩, ⟨(some 123), (.sll 1 (.t 122) (some (.c (.int .i64 1))) none), none⟩, ⟨(some 5), (.mv (.t 123)), none⟩] s h) := k_reg0
@[simp] theorem q10_64 : runF E n0 g c10_64 s h = seqK E n0 g c10_63 (runF E n0 g c10_62 s h) := k_seq
@[simp] theorem q10_65 : runF E n0 g c10_65 s h = seqK E n0 g c10_64 (runF E n0 g c10_61 s h) := k_seq
@[simp] theorem q10_66 : runF E n0 g c10_66 s h = seqK E n0 g c10_65 (runF E n0 g c10_56 s h) := k_seq
@[simp] theorem q10_67 : runF E n0 g c10_67 s h = seqK E n0 g c10_66 (runF E n0 g c10_55 s h) := k_seq
@[simp] theorem q10_68 : runF E n0 g c10_68 s h = condK E n0 g c10_67 .skip s h (get s 105) := k_cond
@[simp] theorem q10_69 : runF E n0 g c10_69 s h = seqK E n0 g c10_68 (runF E n0 g c10_50 s h) := k_seq
@[simp] theorem q10_70 : runF E n0 g c10_70 s h = regK (some [2, 14, 137]) (runO E n0 g h.length [⟨(some 124), (.mv (.t 5)), none⟩, ⟨(some 125), (.len (.t 124)), none⟩, ⟨(some 126), (.bin .gtr (.t 125) (.c (.int .i64 0))), none⟩, ⟨(some 127), (.mv (.t 126)), none⟩, ⟨(some 128), (.ld true 5 (.t 14)), (some (127, false))⟩, ⟨(some 129), (.call 23 [(.t 128)]), (some (127, false))⟩, ⟨(some 130), (.un .not (.t 129)), (some (127, false))⟩, ⟨(some 131), (.pick (.t 127) (.c (.bool true)) (.t 130)), none⟩, ⟨(some 132), (.mv (.t 131)), none⟩, ⟨(some 133), (.ld true 5 (.t 14)), (some (132, false))⟩, ⟨(some 134), (.call 11 [(.t 133)]), (some (132, false))⟩, ⟨(some 135), (.mv (.t 0)), (some (132, false))⟩, ⟨(some 136), (.bin .neq (.t 134) (.t 135)), (some (132, false))⟩, ⟨(some 137), (.pick (.t 132) (.c (.bool true)) (.t 136)), none⟩] s h) := k_reg0
@[simp] theorem q10_71 : runF E n0 g c10_71 s h = regK (some [2, 3]) (runO E n0 g h.length [⟨(some 138), (.bld [(.int .i64 0), (.int .i64 0), (.int .i64 0), (.int .i64 0), (.int .i64 0)] []), none⟩, ⟨none, (.st 5 (.t 2) (.t 138)), none⟩, ⟨(some 3), (.mv (.c (.bool false))), none⟩] s h) := k_reg0
@[simp] theorem q10_72 : runF E n0 g c10_72 s h = seqK E n0 g .ret (runF E n0 g c10_71 s h) := k_seq
@[simp] theorem q10_73 : runF E n0 g c10_73 s h = condK E n0 g c10_72 .skip s h (get s 137) := k_cond
@[simp] theorem q10_74 : runF E n0 g c10_74 s h = seqK E n0 g c10_73 (runF E n0 g c10_70 s h) := k_seq
@[simp] theorem q10_75 : runF E n0 g c10_75 s h = regK (some [2, 3]) (runO E n0 g h.length [⟨(some 139), (.ld true 5 (.t 14)), none⟩, ⟨none, (.st 5 (.t 2) (.t 139)), none⟩, ⟨(some 3), (.mv (.c (.bool true))), none⟩] s h) := k_reg0
@[simp] theorem q10_76 : runF E n0 g c10_76 s h = seqK E n0 g .ret (runF E n0 g c10_75 s h) := k_seq
@[simp] theorem q10_77 : runF E n0 g c10_77 s h = seqK E n0 g c10_76 (runF E n0 g c10_74 s h) := k_seq
@[simp] theorem q10_78 : runF E n0 g c10_78 s h = seqK E n0 g c10_77 (runF E n0 g c10_69 s h) := k_seq
@[simp] theorem q10_79 : runF E n0 g c10_79 s h = seqK E n0 g c10_78 (runF E n0 g c10_49 s h) := k_seq
@[simp] theorem q10_80 : runF E n0 g c10_80 s h = seqK E n0 g c10_79 (runF E n0 g c10_10 s h) := k_seq
@[simp] theorem q10_81 : runF E n0 g c10_81 s h = seqK E n0 g c10_80 (runF E n0 g c10_9 s h) := k_seq
@[simp] theorem q10_82 : runF E n0 g c10_82 s h = seqK E n0 g c10_81 (runF E n0 g c10_8 s h) := k_seq
@[simp] theorem q10_83 : runF E n0 g c10_83 s h = seqK E n0 g c10_82 (runF E n0 g c10_7 s h) := k_seq
@[simp] theorem q10_84 : runF E n0 g c10_84 s h = seqK E n0 g c10_83 (runF E n0 g c10_2 s h) := k_seq
@[simp] theorem q10_85 : runF E n0 g c10_85 s h = seqK E n0 g c10_84 (runF E n0 g c10_1 s h) := k_seq
@[simp] theorem q10_86 : runF E n0 g c10_86 s h = seqK E n0 g c10_85 (runF E n0 g c10_0 s h) := k_seq
@[simp] theorem qq10 : runF E n0 g c10 s h = runF E n0 g c10_86 s h := rfl
@[simp] theorem q11_0 : runF E n0 g c11_0 s h = regK (some [1]) (runO E n0 g h.length [⟨(some 1), (.bx 0 (.t 0)), none⟩, ⟨(some 2), (.mv (.c (.str []))), none⟩] s (h ++ [.dead])) := k_reg
@[simp] theorem q11_1 : runF E n0 g c11_1 s h = regK (some [1, 15]) (runO E n0 g h.length [⟨(some 13), (.ld true 5 (.t 1)), none⟩, ⟨(some 14), (.call 23 [(.t 13)]), none⟩, ⟨(some 15), (.un .not (.t 14)), none⟩] s h) := k_reg0
@[simp] theorem q11_2 : runF E n0 g c11_2 s h = regK (some [2]) (runO E n0 g h.length [⟨(some 2), (.mv (.c (.str []))), none⟩] s h) := k_reg0
@[simp] theorem q11_3 : runF E n0 g c11_3 s h = seqK E n0 g .ret (runF E n0 g c11_2 s h) := k_seq
@[simp] theorem q11_4 : runF E n0 g c11_4 s h = condK E n0 g c11_3 .skip s h (get s 15) := k_cond
@[simp] theorem q11_5 : runF E n0 g c11_5 s h = seqK E n0 g c11_4 (runF E n0 g c11_1 s h) := k_seq
@[simp] theorem q11_6 : runF E n0 g c11_6 s h = regK (some [1, 3]) (runO E n0 g h.length [⟨(some 17), (.fa 0 (.t 1)), none⟩, ⟨(some 18), (.ld false 1 (.t 17)), none⟩, ⟨(some 19), (.call 9 [(.t 18)]), none⟩, ⟨(some 16), (.mv (.t 19)), none⟩, ⟨(some 20), (.ext (.t 16) 0), none⟩, ⟨(some 21), (.ext (.t 16) 1), none⟩, ⟨(some 3), (.al 0 [(.str []), (.int .i64 0), (.bool false), (.bool false), (.bool false), (.bool false), (.int .i64 0)]), none⟩, ⟨none, (.st 7 (.t 3) (.t 20)), none⟩, ⟨(some 4), (.mv (.t 21)), none⟩] s (h ++ [(.cells [(.str []), (.int .i64 0), (.bool false), (.bool false), (.bool false), (.bool false), (.int .i64 0)])])) := k_reg
@[simp] theorem q11_7 : runF E n0 g c11_7 s h = regK (some [1, 3, 5, 6, 7, 8]) (runO E n0 g h.length [⟨(some 23), (.fa 1 (.t 3)), none⟩, ⟨(some 24), (.ld false 1 (.t 23)), none⟩, ⟨(some 25), (.call 30 [(.t 24)]), none⟩, ⟨(some 22), (.mv (.t 25)), none⟩, ⟨(some 26), (.ext (.t 22) 0), none⟩, ⟨(some 27), (.ext (.t 22) 1), none⟩, ⟨(some 28), (.ext (.t 22) 2), none⟩, ⟨(some 29), (.ext (.t 22) 3), none⟩, ⟨(some 5), (.mv (.t 26)), none⟩, ⟨(some 6), (.mv (.t 27)), none⟩, ⟨(some 7), (.mv (.t 28)), none⟩, ⟨(some 8), (.mv (.t 29)), none⟩] s h) := k_reg0
@[simp] theorem q11_8 : runF E n0 g c11_8 s h = regK (some [1, 3, 5, 6, 7, 8, 9]) (runO E n0 g h.length [⟨(some 9), (.mv (.c (.sl .full []))), none⟩] s h) := k_reg0
@[simp] theorem q11_9 : runF E n0 g c11_9 s h = regK (some [1, 3, 5, 6, 7, 8, 9, 35]) (runO E n0 g h.length [⟨(some 30), (.mv (.t 5)), none⟩, ⟨(some 31), (.mv (.t 30)), none⟩, ⟨(some 32), (.fa 0 (.t 1)), (some (31, true))⟩, ⟨(some 33), (.ld false 1 (.t 32)), (some (31, true))⟩, ⟨(some 34), (.bin .eql (.t 33) (.c (.int .i64 6))), (some (31, true))⟩, ⟨(some 35), (.pick (.t 31) (.t 34) (.c (.bool false))), none⟩] s h) := k_reg0
@[simp] theorem q11_10 : runF E n0 g c11_10 s h = regK (some [1, 3, 6, 7, 8, 9]) (runO E n0 g h.length [⟨(some 36), (.mv (.t 9)), none⟩, ⟨(some 37), (.fa 1 (.t 1)), none⟩, ⟨(some 38), (.ld false 1 (.t 37)), none⟩, ⟨(some 39), (.call 33 [(.t 38)]), none⟩, ⟨(some 40), (.bsl 1 (.str []) 1 [(0, (.t 39))]), none⟩, ⟨(some 41), (.app 0 1 16 (.t 36) (.t 40)), none⟩, ⟨(some 9), (.mv (.t 41)), none⟩] s (h ++ [.dead])) := k_reg
@[simp] theorem q11_11 : runF E n0 g c11_11 s h = regK (some [1, 3, 6, 7, 8, 9, 42]) (runO E n0 g h.length [⟨(some 42), (.mv (.t 5)), none⟩] s h) := k_reg0
@[simp] theorem q11_12 : runF E n0 g c11_12 s h = regK (some [1, 3, 6, 7, 8, 9]) (runO E n0 g h.length [⟨(some 43), (.mv (.t 9)), none⟩, ⟨(some 44), (.fa 1 (.t 1)), none⟩, ⟨(some 45), (.ld false 1 (.t 44)), none⟩, ⟨(some 46), (.call 33 [(.t 45)]), none⟩, ⟨(some 47), (.bin .add (.c (.str [114])) (.t 46)), none⟩, ⟨(some 48), (.bsl 1 (.str []) 1 [(0, (.t 47))]), none⟩, ⟨(some 49), (.app 0 1 16 (.t 43) (.t 48)), none⟩, ⟨(some 9), (.mv (.t 49)), none⟩] s (h ++ [.dead])) := k_reg
@[simp] theorem q11_13 : runF E n0 g c11_13 s h = condK E n0 g c11_12 .skip s h (get s 42) := k_cond
@[simp] theorem q11_14 : runF E n0 g c11_14 s h = seqK E n0 g c11_13 (runF E n0 g c11_11 s h) := k_seq
@[simp] theorem q11_15 : runF E n0 g c11_15 s h = condK E n0 g c11_10 c11_14 s h (get s 35) := k_cond
@[simp] theorem q11_16 : runF E n0 g c11_16 s h = seqK E n0 g c11_15 (runF E n0 g c11_9 s h) := k_seq
@[simp] theorem q11_17 : runF E n0 g c11_17 s h = regK (some [1, 3, 7, 8, 9, 50]) (runO E n0 g h.length [⟨(some 50), (.mv (.t 6)), none⟩] s h) := k_reg0
@[simp] theorem q11_18 : runF E n0 g c11_18 s h = regK (some [1, 3, 7, 8, 9]) (runO E n0 g h.length [⟨(some 51), (.mv (.t 9)), none⟩, ⟨(some 52), (.fa 2 (.t 1)), none⟩, ⟨(some 53), (.ld false 1 (.t 52)), none⟩, ⟨(some 54), (.call 33 [(.t 53)]), none⟩, ⟨(some 55), (.bin .add (.c (.str [114])) (.t 54)), none⟩, ⟨(some 56), (.bsl 1 (.str []) 1 [(0, (.t 55))]), none⟩, ⟨(some 57), (.app 0 1 16 (.t 51) (.t 56)), none⟩, ⟨(some 9), (.mv (.t 57)), none⟩] s (h ++ [.dead])) := k_reg
@[simp] theorem q11_19 : runF E n0 g c11_19 s h = condK E n0 g c11_18 .skip s h (get s 50) := k_cond
@[simp] theorem q11_20 : runF E n0 g c11_20 s h = seqK E n0 g c11_19 (runF E n0 g c11_17 s h) := k_seq
@[simp] theorem q11_21 : runF E n0 g c11_21 s h = regK (some [1, 3, 8, 9, 58]) (runO E n0 g h.length [⟨(some 58), (.mv (.t 7)), none⟩] s h) := k_reg0
@[simp] theorem q11_22 : runF E n0 g c11_22 s h = regK (some [1, 3, 8, 9]) (runO E n0 g h.length [⟨(some 59), (.mv (.t 9)), none⟩, ⟨(some 60), (.fa 3 (.t 1)), none⟩, ⟨(some 61), (.ld false 1 (.t 60)), none⟩, ⟨(some 62), (.call 33 [(.t 61)]), none⟩, ⟨(some 63), (.bin .add (.c (.str [114])) (.t 62)), none⟩, ⟨(some 64), (.bsl 1 (.str []) 1 [(0, (.t 63))]), none⟩, ⟨(some 65), (.app 0 1 16 (.t 59) (.t 64)), none⟩, ⟨(some 9), (.mv (.t 65)), none⟩] s (h ++ [.dead])) := k_reg
@[simp] theorem q11_23 : runF E n0 g c11_23 s h = condK E n0 g c11_22 .skip s h (get s 58) := k_cond
@[simp] theorem q11_24 : runF E n0 g c11_24 s h = seqK E n0 g c11_23 (runF E n0 g c11_21 s h) := k_seq
@[simp] theorem q11_25 : runF E n0 g c11_25 s h = regK (some [1, 3, 9, 66]) (runO E n0 g h.length [⟨(some 66), (.mv (.t 8)), none⟩] s h) := k_reg0
@[simp] theorem q11_26 : runF E n0 g c11_26 s h = regK (some [3, 9]) (runO E n0 g h.length [⟨(some 67), (.mv (.t 9)), none⟩, ⟨(some 68), (.fa 4 (.t 1)), none⟩, ⟨(some 69), (.ld false 1 (.t 68)), none⟩, ⟨(some 70), (.call 33 [(.t 69)]), none⟩, ⟨(some 71), (.bsl 1 (.str []) 1 [(0, (.t 70))]), none⟩, ⟨(some 72), (.app 0 1 16 (.t 67) (.t 71)), none⟩, ⟨(some 9), (.mv (.t 72)), none⟩] s (h ++ [.dead])) := k_reg
@[simp] theorem q11_27 : runF E n0 g c11_27 s h = condK E n0 g c11_26 .skip s h (get s 66) := k_cond
@[simp] theorem q11_28 : runF E n0 g c11_28 s h = seqK E n0 g c11_27 (runF E n0 g c11_25 s h) := k_seq
@[simp] theorem q11_29 : runF E n0 g c11_29 s h = regK (some [9, 10]) (runO E n0 g h.length [⟨(some 73), (.fa 0 (.t 3)), none⟩, ⟨(some 74), (.ld false 1 (.t 73)), none⟩, ⟨(some 10), (.mv (.t 74)), none⟩] s h) := k_reg0
@[simp] theorem q11_30 : runF E n0 g c11_30 s h = regK (some [10, 75, 76, 77]) (runO E n0 g h.length [⟨(some 75), (.mv (.t 9)), none⟩, ⟨(some 76), (.len (.t 75)), none⟩, ⟨(some 77), (.mv (.c (.int .i64 0))), none⟩] s h) := k_reg0
@[simp] theorem q11_31 : runF E n0 g c11_31 s h = regK (some [10, 75, 76, 77, 78]) (runO E n0 g h.length [⟨(some 78), (.bin .lss (.t 77) (.t 76)), none⟩] s h) := k_reg0
@[simp] theorem q11_32 : runF E n0 g c11_32 s h = condK E n0 g .skip (.exit 0) s h (get s 78) := k_cond
@[simp] theorem q11_33 : runF E n0 g c11_33 s h = regK (some [10, 11, 12, 75, 76, 77]) (runO E n0 g h.length [⟨(some 79), (.mv (.t 77)), none⟩, ⟨(some 80), (.ia 1 (.t 75) (.t 77)), none⟩, ⟨(some 81), (.ld false 1 (.t 80)), none⟩, ⟨(some 11), (.mv (.t 79)), none⟩, ⟨(some 12), (.mv (.t 81)), none⟩] s h) := k_reg0
@[simp] theorem q11_34 : runF E n0 g c11_34 s h = regK (some [10, 12, 75, 76, 77, 83]) (runO E n0 g h.length [⟨(some 82), (.mv (.t 11)), none⟩, ⟨(some 83), (.bin .eql (.t 82) (.c (.int .i64 0))), none⟩] s h) := k_reg0
@[simp] theorem q11_35 : runF E n0 g c11_35 s h = regK (some [10, 75, 76, 77]) (runO E n0 g h.length [⟨(some 84), (.mv (.t 10)), none⟩, ⟨(some 85), (.mv (.t 12)), none⟩, ⟨(some 86), (.bin .add (.c (.str [32])) (.t 85)), none⟩, ⟨(some 87), (.bin .add (.t 84) (.t 86)), none⟩, ⟨(some 10), (.mv (.t 87)), none⟩] s h) := k_reg0
@[simp] theorem q11_36 : runF E n0 g c11_36 s h = regK (some [10, 75, 76, 77]) (runO E n0 g h.length [⟨(some 88), (.mv (.t 10)), none⟩, ⟨(some 89), (.mv (.t 12)), none⟩, ⟨(some 90), (.bin .add (.c (.str [44, 32])) (.t 89)), none⟩, ⟨(some 91), (.bin .add (.t 88) (.t 90)), none⟩, ⟨(some 10), (.mv (.t 91)), none⟩] s h) := k_reg0
@[simp] theorem q11_37 : runF E n0 g c11_37 s h = condK E n0 g c11_35 c11_36 s h (get s 83) := k_cond
@[simp] theorem q11_38 : runF E n0 g c11_38 s h = seqK E n0 g c11_37 (runF E n0 g c11_34 s h) := k_seq
@[simp] theorem q11_39 : runF E n0 g c11_39 s h = seqK E n0 g c11_38 (runF E n0 g c11_33 s h) := k_seq
@[simp] theorem q11_40 : runF E n0 g c11_40 s h = blkK (some [10, 75, 76, 77]) 1 (runF E n0 g c11_39 s h) := k_block
@[simp] theorem q11_41 : runF E n0 g c11_41 s h = regK (some [10, 75, 76, 77]) (runO E n0 g h.length [⟨(some 92), (.bin .add (.t 77) (.c (.int .i64 1))), none⟩, ⟨(some 77), (.mv (.t 92)), none⟩] s h) := k_reg0
@[simp] theorem q11_42 : runF E n0 g c11_42 s h = seqK E n0 g c11_41 (runF E n0 g c11_40 s h) := k_seq
@[simp] theorem q11_43 : runF E n0 g c11_43 s h = seqK E n0 g c11_42 (runF E n0 g c11_32 s h) := k_seq
@[simp] theorem q11_44 : runF E n0 g c11_44 s h = seqK E n0 g c11_43 (runF E n0 g c11_31 s h) := k_seq
theorem q11_45 : runF E n0 g c11_45 s h = loopK E n0 g (some [10, 75, 76, 77]) c11_44 (runF E n0 g c11_44 (clearO (some [10, 75, 76, 77]) s) h) := k_loop
@[simp] theorem q11_45L : runF E n0 g (.loop (some [10, 75, 76, 77]) c11_44) s h = runF E n0 g c11_45 s h := rfl
@[simp] theorem q11_46 : runF E n0 g c11_46 s h = blkK (some [10]) 0 (runF E n0 g c11_45 s h) := k_block
@[simp] theorem q11_47 : runF E n0 g c11_47 s h = seqK E n0 g c11_46 (runF E n0 g c11_30 s h) := k_seq
@[simp] theorem q11_48 : runF E n0 g c11_48 s h = regK (some [2]) (runO E n0 g h.length [⟨(some 93), (.mv (.t 10)), none⟩, ⟨(some 2), (.mv (.t 93)), none⟩] s h) := k_reg0
@[simp] theorem q11_49 : runF E n0 g c11_49 s h = seqK E n0 g .ret (runF E n0 g c11_48 s h) := k_seq
@[simp] theorem q11_50 : runF E n0 g c11_50 s h = seqK E n0 g c11_49 (runF E n0 g c11_47 s h) := k_seq
@[simp] theorem q11_51 : runF E n0 g c11_51 s h = seqK E n0 g c11_50 (runF E n0 g c11_29 s h) := k_seq
@[simp] theorem q11_52 : runF E n0 g c11_52 s h = seqK E n0 g c11_51 (runF E n0 g c11_28 s h) := k_seq
@[simp] theorem q11_53 : runF E n0 g c11_53 s h = seqK E n0 g c11_52 (runF E n0 g c11_24 s h) := k_seq
@[simp] theorem q11_54 : runF E n0 g c11_54 s h = seqK E n0 g c11_53 (runF E n0 g c11_20 s h) := k_seq
@[simp] theorem q11_55 : runF E n0 g c11_55 s h = seqK E n0 g c11_54 (runF E n0 g c11_16 s h) := k_seq
@[simp] theorem q11_56 : runF E n0 g c11_56 s h = seqK E n0 g c11_55 (runF E n0 g c11_8 s h) := k_seq
@[simp] theorem q11_57 : runF E n0 g c11_57 s h = seqK E n0 g c11_56 (runF E n0 g c11_7 s h) := k_seq
@[simp] theorem q11_58 : runF E n0 g c11_58 s h = seqK E n0 g c11_57 (runF E n0 g c11_6 s h) := k_seq
@[simp] theorem q11_59 : runF E n0 g c11_59 s h = seqK E n0 g c11_58 (runF E n0 g c11_5 s h) := k_seq
@[simp] theorem q11_60 : runF E n0 g c11_60 s h = seqK E n0 g c11_59 (runF E n0 g c11_0 s h) := k_seq
@[simp] theorem qq11 : runF E n0 g c11 s h = runF E n0 g c11_60 s h := rfl
@[simp] theorem q12_0 : runF E n0 g c12_0 s h = regK (some [0, 1]) (runO E n0 g h.length [⟨(some 4), (.mv (.c (.bool false))), none⟩] s h) := k_reg0
@[simp] theorem q12_1 : runF E n0 g c12_1 s h = regK (some [0, 1, 10]) (runO E n0 g h.length [⟨(some 6), (.mv (.t 0)), none⟩, ⟨(some 7), (.len (.t 6)), none⟩, ⟨(some 8), (.mv (.t 1)), none⟩, ⟨(some 9), (.len (.t 8)), none⟩, ⟨(some 10), (.bin .neq (.t 7) (.t 9)), none⟩] s h) := k_reg0
@[simp] theorem q12_2 : runF E n0 g c12_2 s h = regK (some [4]) (runO E n0 g h.length [⟨(some 4), (.mv (.c (.bool false))), none⟩] s h) := k_reg0
@[simp] theorem q12_3 : runF E n0 g c12_3 s h = seqK E n0 g .ret (runF E n0 g c12_2 s h) := k_seq
@[simp] theorem q12_4 : runF E n0 g c12_4 s h = condK E n0 g c12_3 .skip s h (get s 10) := k_cond
@[simp] theorem q12_5 : runF E n0 g c12_5 s h = seqK E n0 g c12_4 (runF E n0 g c12_1 s h) := k_seq
@[simp] theorem q12_6 : runF E n0 g c12_6 s h = regK (some [0, 1, 5]) (runO E n0 g h.length [⟨(some 5), (.mv (.c (.int .i64 0))), none⟩] s h) := k_reg0
@[simp] theorem q12_7 : runF E n0 g c12_7 s h = regK (some [0, 1, 5, 14]) (runO E n0 g h.length [⟨(some 11), (.mv (.t 5)), none⟩, ⟨(some 12), (.mv (.t 0)), none⟩, ⟨(some 13), (.len (.t 12)), none⟩, ⟨(some 14), (.bin .lss (.t 11) (.t 13)), none⟩] s h) := k_reg0
@[simp] theorem q12_8 : runF E n0 g c12_8 s h = condK E n0 g .skip (.exit 0) s h (get s 14) := k_cond
@[simp] theorem q12_9 : runF E n0 g c12_9 s h = seqK E n0 g c12_8 (runF E n0 g c12_7 s h) := k_seq
@[simp] theorem q12_10 : runF E n0 g c12_10 s h = regK (some [0, 1, 5, 25]) (runO E n0 g h.length [⟨(some 17), (.mv (.t 0)), none⟩, ⟨(some 18), (.mv (.t 5)), none⟩, ⟨(some 19), (.ia 1 (.t 17) (.t 18)), none⟩, ⟨(some 20), (.ld false 1 (.t 19)), none⟩, ⟨(some 21), (.mv (.t 1)), none⟩, ⟨(some 22), (.mv (.t 5)), none⟩, ⟨(some 23), (.ia 1 (.t 21) (.t 22)), none⟩, ⟨(some 24), (.ld false 1 (.t 23)), none⟩, ⟨(some 25), (.bin .neq (.t 20) (.t 24)), none⟩] s h) := by rw [show c12_10 = .reg (some [0, 1, 5, 25]) [] [⟨(some 17), (.mv (.t 0)), none⟩, ⟨(some 18), (.mv (.t 5)), none⟩, ⟨(some 19), (.ia 1 (.t 17) (.t 18)), none⟩, ⟨(some 20), (.ld false 1 (.t 19)), none⟩, ⟨(some 21), (.mv (.t 1)), none⟩, ⟨(some 22), (.mv (.t 5)), none⟩, ⟨(some 23), (.ia 1 (.t 21) (.t 22)), none⟩, ⟨(some 24), (.ld false 1 (.t 23)), none⟩, ⟨(some 25), (.bin .neq (.t 20) (.t 24)), none⟩] (some []) from rfl, k_regd0, List.append_nil]
@[simp] theorem q12_11 : runF E n0 g c12_11 s h = regK (some [4]) (runO E n0 g h.length [⟨(some 4), (.mv (.c (.bool false))), none⟩] s h) := k_reg0
@[simp] theorem q12_12 : runF E n0 g c12_12 s h = seqK E n0 g .ret (runF E n0 g c12_11 s h) := k_seq
@[simp] theorem q12_13 : runF E n0 g c12_13 s h = condK E n0 g c12_12 .skip s h (get s 25) := k_cond
@[simp] theorem q12_14 : runF E n0 g c12_14 s h = seqK E n0 g c12_13 (runF E n0 g c12_10 s h) := k_seq
@[simp] theorem q12_15 : runF E n0 g c12_15 s h = blkK (some [0, 1, 5]) 1 (runF E n0 g c12_14 s h) := k_block
@[simp] theorem q12_16 : runF E n0 g c12_16 s h = regK (some [0, 1, 5]) (runO E n0 g h.length [⟨(some 15), (.mv (.t 5)), none⟩, ⟨(some 16), (.bin .add (.t 15) (.c (.int .i64 1))), none⟩, ⟨(some 5), (.mv (.t 16)), none⟩] s h) := k_reg0
@[simp] theorem q12_17 : runF E n0 g c12_17 s h = seqK E n0 g c12_16 (runF E n0 g c12_15 s h) := k_seq
@[simp] theorem q12_18 : runF E n0 g c12_18 s h = seqK E n0 g c12_17 (runF E n0 g c12_9 s h) := k_seq
theorem q12_19 : runF E n0 g c12_19 s h = loopK E n0 g (some [0, 1, 5]) c12_18 (runF E n0 g c12_18 (clearO (some [0, 1, 5]) s) h) := k_loop
@[simp] theorem q12_19L : runF E n0 g (.loop (some [0, 1, 5]) c12_18) s h = runF E n0 g c12_19 s h := rfl
@[simp] theorem q12_20 : runF E n0 g c12_20 s h = blkK (some []) 0 (runF E n0 g c12_19 s h) := k_block
@[simp] theorem q12_21 : runF E n0 g c12_21 s h = seqK E n0 g c12_20 (runF E n0 g c12_6 s h) := k_seq
@[simp] theorem q12_22 : runF E n0 g c12_22 s h = regK (some [4]) (runO E n0 g h.length [⟨(some 4), (.mv (.c (.bool true))), none⟩] s h) := k_reg0
@[simp] theorem q12_23 : runF E n0 g c12_23 s h = seqK E n0 g .ret (runF E n0 g c12_22 s h) := k_seq
@[simp] theorem q12_24 : runF E n0 g c12_24 s h = seqK E n0 g c12_23 (runF E n0 g c12_21 s h) := k_seq
@[simp] theorem q12_25 : runF E n0 g c12_25 s h = seqK E n0 g c12_24 (runF E n0 g c12_5 s h) := k_seq
@[simp] theorem q12_26 : runF E n0 g c12_26 s h = seqK E n0 g c12_25 (runF E n0 g c12_0 s h) := k_seq
@[simp] theorem qq12 : runF E n0 g c12 s h = runF E n0 g c12_26 s h := rfl
@[simp] theorem q13_0 : runF E n0 g c13_0 s h = regK (some [1]) (runO E n0 g h.length [⟨(some 1), (.bx 0 (.t 0)), none⟩, ⟨(some 2), (.mv (.c (.sl .full []))), none⟩] s (h ++ [.dead])) := k_reg
@[simp] theorem q13_1 : runF E n0 g c13_1 s h = regK (some [1, 12]) (runO E n0 g h.length [⟨(some 10), (.ld true 5 (.t 1)), none⟩, ⟨(some 11), (.call 23 [(.t 10)]), none⟩, ⟨(some 12), (.un .not (.t 11)), none⟩] s h) := k_reg0
@[simp] theorem q13_2 : runF E n0 g c13_2 s h = regK (some [2]) (runO E n0 g h.length [⟨(some 2), (.mv (.c (.sl .full []))), none⟩] s h) := k_reg0
@[simp] theorem q13_3 : runF E n0 g c13_3 s h = seqK E n0 g .ret (runF E n0 g c13_2 s h) := k_seq
@[simp] theorem q13_4 : runF E n0 g c13_4 s h = condK E n0 g c13_3 .skip s h (get s 12) := k_cond
@[simp] theorem q13_5 : runF E n0 g c13_5 s h = seqK E n0 g c13_4 (runF E n0 g c13_1 s h) := k_seq
@[simp] theorem q13_6 : runF E n0 g c13_6 s h = regK (some [1, 3]) (runO E n0 g h.length [⟨(some 14), (.fa 0 (.t 1)), none⟩, ⟨(some 15), (.ld false 1 (.t 14)), none⟩, ⟨(some 16), (.call 9 [(.t 15)]), none⟩, ⟨(some 13), (.mv (.t 16)), none⟩, ⟨(some 17), (.ext (.t 13) 0), none⟩, ⟨(some 18), (.ext (.t 13) 1), none⟩, ⟨(some 3), (.al 0 [(.str []), (.int .i64 0), (.bool false), (.bool false), (.bool false), (.bool false), (.int .i64 0)]), none⟩, ⟨none, (.st 7 (.t 3) (.t 17)), none⟩, ⟨(some 4), (.mv (.t 18)), none⟩] s (h ++ [(.cells [(.str []), (.int .i64 0), (.bool false), (.bool false), (.bool false), (.bool false), (.int .i64 0)])])) := k_reg
@[simp] theorem q13_7 : runF E n0 g c13_7 s h = regK (some [1, 3, 5]) (runO E n0 g h.length [⟨(some 5), (.al 0 [(.bool false), (.bool false), (.bool false), (.bool false), (.bool false), (.bool false), (.bool false), (.bool false)]), none⟩] s (h ++ [(.cells [(.bool false), (.bool false), (.bool false), (.bool false), (.bool false), (.bool false), (.bool false), (.bool false)])])) := k_reg
@[simp] theorem q13_8 : runF E n0 g c13_8 s h = regK (some [1, 3, 5, 20]) (runO E n0 g h.length [⟨(some 19), (.fa 2 (.t 3)), none⟩, ⟨(some 20), (.ld false 1 (.t 19)), none⟩] s h) := k_reg0
@[simp] theorem q13_9 : runF E n0 g c13_9 s h = regK (some [1, 3, 5]) (runO E n0 g h.length [⟨(some 21), (.fa 1 (.t 1)), none⟩, ⟨(some 22), (.ld false 1 (.t 21)), none⟩, ⟨(some 23), (.iaa 8 1 (.t 5) (.t 22)), none⟩, ⟨none, (.st 1 (.t 23) (.c (.bool true))), none⟩] s h) := k_reg0
@[simp] theorem q13_10 : runF E n0 g c13_10 s h = condK E n0 g c13_9 .skip s h (get s 20) := k_cond
@[simp] theorem q13_11 : runF E n0 g c13_11 s h = seqK E n0 g c13_10 (runF E n0 g c13_8 s h) := k_seq
@[simp] theorem q13_12 : runF E n0 g c13_12 s h = regK (some [1, 5, 25]) (runO E n0 g h.length [⟨(some 24), (.fa 4 (.t 3)), none⟩, ⟨(some 25), (.ld false 1 (.t 24)), none⟩] s h) := k_reg0
@[simp] theorem q13_13 : runF E n0 g c13_13 s h = regK (some [1, 5]) (runO E n0 g h.length [⟨(some 26), (.fa 2 (.t 1)), none⟩, ⟨(some 27), (.ld false 1 (.t 26)), none⟩, ⟨(some 28), (.iaa 8 1 (.t 5) (.t 27)), none⟩, ⟨none, (.st 1 (.t 28) (.c (.bool true))), none⟩] s h) := k_reg0
@[simp] theorem q13_14 : runF E n0 g c13_14 s h = condK E n0 g c13_13 .skip s h (get s 25) := k_cond
@[simp] theorem q13_15 : runF E n0 g c13_15 s h = seqK E n0 g c13_14 (runF E n0 g c13_12 s h) := k_seq
@[simp] theorem q13_16 : runF E n0 g c13_16 s h = regK (some [1, 5, 30]) (runO E n0 g h.length [⟨(some 29), (.fa 0 (.t 1)), none⟩, ⟨(some 30), (.ld false 1 (.t 29)), none⟩] s h) := k_reg0
@[simp] theorem q13_17 : runF E n0 g c13_17 s h = regK (some [1, 5, 30, 31]) (runO E n0 g h.length [⟨(some 32), (.bin .eql (.t 30) (.c (.int .i64 11))), none⟩, ⟨(some 31), (.mv (.t 32)), none⟩] s h) := k_reg0
@[simp] theorem q13_18 : runF E n0 g c13_18 s h = regK (some [1, 5, 30, 31]) (runO E n0 g h.length [⟨(some 33), (.bin .eql (.t 30) (.c (.int .i64 12))), none⟩, ⟨(some 31), (.mv (.t 33)), none⟩] s h) := k_reg0
@[simp] theorem q13_19 : runF E n0 g c13_19 s h = condK E n0 g .skip c13_18 s h (get s 31) := k_cond
@[simp] theorem q13_20 : runF E n0 g c13_20 s h = seqK E n0 g c13_19 (runF E n0 g c13_17 s h) := k_seq
@[simp] theorem q13_21 : runF E n0 g c13_21 s h = regK (some [5]) (runO E n0 g h.length [⟨(some 34), (.fa 3 (.t 1)), none⟩, ⟨(some 35), (.ld false 1 (.t 34)), none⟩, ⟨(some 36), (.iaa 8 1 (.t 5) (.t 35)), none⟩, ⟨none, (.st 1 (.t 36) (.c (.bool true))), none⟩] s h) := k_reg0
@[simp] theorem q13_22 : runF E n0 g c13_22 s h = regK (some [1, 5, 30, 37]) (runO E n0 g h.length [⟨(some 38), (.bin .eql (.t 30) (.c (.int .i64 6))), none⟩, ⟨(some 37), (.mv (.t 38)), none⟩] s h) := k_reg0
@[simp] theorem q13_23 : runF E n0 g c13_23 s h = regK (some [1, 5, 6]) (runO E n0 g h.length [⟨(some 6), (.mv (.c (.int .i64 0))), none⟩] s h) := k_reg0
@[simp] theorem q13_24 : runF E n0 g c13_24 s h = regK (some [1, 5, 6, 42]) (runO E n0 g h.length [⟨(some 39), (.mv (.t 6)), none⟩, ⟨(some 40), (.fa 1 (.t 1)), none⟩, ⟨(some 41), (.ld false 1 (.t 40)), none⟩, ⟨(some 42), (.bin .lss (.t 39) (.t 41)), none⟩] s h) := k_reg0
@[simp] theorem q13_25 : runF E n0 g c13_25 s h = condK E n0 g .skip (.exit 1) s h (get s 42) := k_cond
@[simp] theorem q13_26 : runF E n0 g c13_26 s h = seqK E n0 g c13_25 (runF E n0 g c13_24 s h) := k_seq
@[simp] theorem q13_27 : runF E n0 g c13_27 s h = regK (some [1, 5, 6]) (runO E n0 g h.length [⟨(some 45), (.mv (.t 6)), none⟩, ⟨(some 46), (.iaa 8 1 (.t 5) (.t 45)), none⟩, ⟨none, (.st 1 (.t 46) (.c (.bool true))), none⟩] s h) := k_reg0
@[simp] theorem q13_28 : runF E n0 g c13_28 s h = blkK (some [1, 5, 6]) 2 (runF E n0 g c13_27 s h) := k_block
@[simp] theorem q13_29 : runF E n0 g c13_29 s h = regK (some [1, 5, 6]) (runO E n0 g h.length [⟨(some 43), (.mv (.t 6)), none⟩, ⟨(some 44), (.bin .add (.t 43) (.c (.int .i64 1))), none⟩, ⟨(some 6), (.mv (.t 44)), none⟩] s h) := k_reg0
@[simp] theorem q13_30 : runF E n0 g c13_30 s h = seqK E n0 g c13_29 (runF E n0 g c13_28 s h) := k_seq
@[simp] theorem q13_31 : runF E n0 g c13_31 s h = seqK E n0 g c13_30 (runF E n0 g c13_26 s h) := k_seq
theorem q13_32 : runF E n0 g c13_32 s h = loopK E n0 g (some [1, 5, 6]) c13_31 (runF E n0 g c13_31 (clearO (some [1, 5, 6]) s) h) := k_loop
@[simp] theorem q13_32L : runF E n0 g (.loop (some [1, 5, 6]) c13_31) s h = runF E n0 g c13_32 s h := rfl
@[simp] theorem q13_33 : runF E n0 g c13_33 s h = blkK (some [5]) 1 (runF E n0 g c13_32 s h) := k_block
@[simp] theorem q13_34 : runF E n0 g c13_34 s h = seqK E n0 g c13_33 (runF E n0 g c13_23 s h) := k_seq
@[simp] theorem q13_35 : runF E n0 g c13_35 s h = regK (some [5, 47]) (runO E n0 g h.length [⟨(some 48), (.bin .eql (.t 30) (.c (.int .i64 2))), none⟩, ⟨(some 47), (.mv (.t 48)), none⟩] s h) := k_reg0
@[simp] theorem q13_36 : runF E n0 g c13_36 s h = regK (some [5]) (runO E n0 g h.length [⟨(some 49), (.iaa 8 1 (.t 5) (.c (.int .i64 0))), none⟩, ⟨none, (.st 1 (.t 49) (.c (.bool true))), none⟩] s h) := k_reg0
@[simp] theorem q13_37 : runF E n0 g c13_37 s h = condK E n0 g c13_36 .skip s h (get s 47) := k_cond
@[simp] theorem q13_38 : runF E n0 g c13_38 s h = seqK E n0 g c13_37 (runF E n0 g c13_35 s h) := k_seq
@[simp] theorem q13_39 : runF E n0 g c13_39 s h = condK E n0 g c13_34 c13_38 s h (get s 37) := k_cond
@[simp] theorem q13_40 : runF E n0 g c13_40 s h = seqK E n0 g c13_39 (runF E n0 g c13_22 s h) := k_seq
@[simp] theorem q13_41 : runF E n0 g c13_41 s h = condK E n0 g c13_21 c13_40 s h (get s 31) := k_cond
@[simp] theorem q13_42 : runF E n0 g c13_42 s h = seqK E n0 g (.seq c13_19 c13_41) (runF E n0 g c13_17 s h) := k_assoc
@[simp] theorem q13_42a : runF E n0 g (.seq c13_19 c13_41) s h = condK E n0 g c13_21 (.seq c13_18 c13_41) s h (get s 31) := k_or
@[simp] theorem q13_42ab : runF E n0 g (.seq c13_18 c13_41) s h = seqK E n0 g c13_41 (runF E n0 g c13_18 s h) := k_seq
@[simp] theorem q13_43 : runF E n0 g c13_43 s h = blkK (some [5]) 0 (runF E n0 g c13_42 s h) := k_block
@[simp] theorem q13_44 : runF E n0 g c13_44 s h = seqK E n0 g c13_43 (runF E n0 g c13_16 s h) := k_seq
@[simp] theorem q13_45 : runF E n0 g c13_45 s h = regK (some [5, 7]) (runO E n0 g h.length [⟨(some 7), (.mv (.c (.sl .full []))), none⟩] s h) := k_reg0
@[simp] theorem q13_46 : runF E n0 g c13_46 s h = regK (some [7, 50, 51]) (runO E n0 g h.length [⟨(some 50), (.ld true 8 (.t 5)), none⟩, ⟨(some 51), (.mv (.c (.int .i64 0))), none⟩] s h) := k_reg0
@[simp] theorem q13_47 : runF E n0 g c13_47 s h = regK (some [7, 50, 51, 52]) (runO E n0 g h.length [⟨(some 52), (.bin .lss (.t 51) (.c (.int .i64 8))), none⟩] s h) := k_reg0
@[simp] theorem q13_48 : runF E n0 g c13_48 s h = condK E n0 g .skip (.exit 3) s h (get s 52) := k_cond
@[simp] theorem q13_49 : runF E n0 g c13_49 s h = regK (some [7, 8, 9, 50, 51]) (runO E n0 g h.length [⟨(some 53), (.mv (.t 51)), none⟩, ⟨(some 54), (.ixa false 8 1 (.t 50) (.t 51)), none⟩, ⟨(some 8), (.mv (.t 53)), none⟩, ⟨(some 9), (.mv (.t 54)), none⟩] s h) := k_reg0
@[simp] theorem q13_50 : runF E n0 g c13_50 s h = regK (some [7, 8, 50, 51, 55]) (runO E n0 g h.length [⟨(some 55), (.mv (.t 9)), none⟩] s h) := k_reg0
@[simp] theorem q13_51 : runF E n0 g c13_51 s h = regK (some [7, 50, 51]) (runO E n0 g h.length [⟨(some 56), (.mv (.t 7)), none⟩, ⟨(some 57), (.mv (.t 8)), none⟩, ⟨(some 58), (.bsl 1 (.int .i64 0) 1 [(0, (.t 57))]), none⟩, ⟨(some 59), (.app 0 1 8 (.t 56) (.t 58)), none⟩, ⟨(some 7), (.mv (.t 59)), none⟩] s (h ++ [.dead])) := k_reg
@[simp] theorem q13_52 : runF E n0 g c13_52 s h = condK E n0 g c13_51 .skip s h (get s 55) := k_cond
@[simp] theorem q13_53 : runF E n0 g c13_53 s h = seqK E n0 g c13_52 (runF E n0 g c13_50 s h) := k_seq
@[simp] theorem q13_54 : runF E n0 g c13_54 s h = seqK E n0 g c13_53 (runF E n0 g c13_49 s h) := k_seq
@[simp] theorem q13_55 : runF E n0 g c13_55 s h = blkK (some [7, 50, 51]) 4 (runF E n0 g c13_54 s h) := k_block
@[simp] theorem q13_56 : runF E n0 g c13_56 s h = regK (some [7, 50, 51]) (runO E n0 g h.length [⟨(some 60), (.bin .add (.t 51) (.c (.int .i64 1))), none⟩, ⟨(some 51), (.mv (.t 60)), none⟩] s h) := k_reg0
@[simp] theorem q13_57 : runF E n0 g c13_57 s h = seqK E n0 g c13_56 (runF E n0 g c13_55 s h) := k_seq
@[simp] theorem q13_58 : runF E n0 g c13_58 s h = seqK E n0 g c13_57 (runF E n0 g c13_48 s h) := k_seq
@[simp] theorem q13_59 : runF E n0 g c13_59 s h = seqK E n0 g c13_58 (runF E n0 g c13_47 s h) := k_seq
theorem q13_60 : runF E n0 g c13_60 s h = loopK E n0 g (some [7, 50, 51]) c13_59 (runF E n0 g c13_59 (clearO (some [7, 50, 51]) s) h) := k_loop
@[simp] theorem q13_60L : runF E n0 g (.loop (some [7, 50, 51]) c13_59) s h = runF E n0 g c13_60 s h := rfl
@[simp] theorem q13_61 : runF E n0 g c13_61 s h = blkK (some [7]) 3 (runF E n0 g c13_60 s h) := k_block
@[simp] theorem q13_62 : runF E n0 g c13_62 s h = seqK E n0 g c13_61 (runF E n0 g c13_46 s h) := k_seq
@[simp] theorem q13_63 : runF E n0 g c13_63 s h = regK (some [2]) (runO E n0 g h.length [⟨(some 61), (.mv (.t 7)), none⟩, ⟨(some 2), (.mv (.t 61)), none⟩] s h) := k_reg0
@[simp] theorem q13_64 : runF E n0 g c13_64 s h = seqK E n0 g .ret (runF E n0 g c13_63 s h) := k_seq
@[simp] theorem q13_65 : runF E n0 g c13_65 s h = seqK E n0 g c13_64 (runF E n0 g c13_62 s h) := k_seq
@[simp] theorem q13_66 : runF E n0 g c13_66 s h = seqK E n0 g c13_65 (runF E n0 g c13_45 s h) := k_seq
@[simp] theorem q13_67 : runF E n0 g c13_67 s h = seqK E n0 g c13_66 (runF E n0 g c13_44 s h) := k_seq
@[simp] theorem q13_68 : runF E n0 g c13_68 s h = seqK E n0 g c13_67 (runF E n0 g c13_15 s h) := k_seq
@[simp] theorem q13_69 : runF E n0 g c13_69 s h = seqK E n0 g c13_68 (runF E n0 g c13_11 s h) := k_seq
@[simp] theorem q13_70 : runF E n0 g c13_70 s h = seqK E n0 g c13_69 (runF E n0 g c13_7 s h) := k_seq
@[simp] theorem q13_71 : runF E n0 g c13_71 s h = seqK E n0 g c13_70 (runF E n0 g c13_6 s h) := k_seq
@[simp] theorem q13_72 : runF E n0 g c13_72 s h = seqK E n0 g c13_71 (runF E n0 g c13_5 s h) := k_seq
@[simp] theorem q13_73 : runF E n0 g c13_73 s h = seqK E n0 g c13_72 (runF E n0 g c13_0 s h) := k_seq
@[simp] theorem qq13 : runF E n0 g c13 s h = runF E n0 g c13_73 s h := rfl
@[simp] theorem q14_0 : runF E n0 g c14_0 s h = regK (some [1]) (runO E n0 g h.length [⟨(some 1), (.bx 0 (.t 0)), none⟩, ⟨(some 2), (.mv (.c (.sl .full []))), none⟩] s (h ++ [.dead])) := k_reg
@[simp] theorem q14_1 : runF E n0 g c14_1 s h = regK (some [1, 7]) (runO E n0 g h.length [⟨(some 5), (.ld true 5 (.t 1)), none⟩, ⟨(some 6), (.call 23 [(.t 5)]), none⟩, ⟨(some 7), (.un .not (.t 6)), none⟩] s h) := k_reg0
@[simp] theorem q14_2 : runF E n0 g c14_2 s h = regK (some [2]) (runO E n0 g h.length [⟨(some 2), (.mv (.c (.sl .full []))), none⟩] s h) := k_reg0
@[simp] theorem q14_3 : runF E n0 g c14_3 s h = seqK E n0 g .ret (runF E n0 g c14_2 s h) := k_seq
@[simp] theorem q14_4 : runF E n0 g c14_4 s h = condK E n0 g c14_3 .skip s h (get s 7) := k_cond
@[simp] theorem q14_5 : runF E n0 g c14_5 s h = seqK E n0 g c14_4 (runF E n0 g c14_1 s h) := k_seq
@[simp] theorem q14_6 : runF E n0 g c14_6 s h = regK (some [1, 3]) (runO E n0 g h.length [⟨(some 9), (.fa 0 (.t 1)), none⟩, ⟨(some 10), (.ld false 1 (.t 9)), none⟩, ⟨(some 11), (.call 9 [(.t 10)]), none⟩, ⟨(some 8), (.mv (.t 11)), none⟩, ⟨(some 12), (.ext (.t 8) 0), none⟩, ⟨(some 13), (.ext (.t 8) 1), none⟩, ⟨(some 3), (.al 0 [(.str []), (.int .i64 0), (.bool false), (.bool false), (.bool false), (.bool false), (.int .i64 0)]), none⟩, ⟨none, (.st 7 (.t 3) (.t 12)), none⟩, ⟨(some 4), (.mv (.t 13)), none⟩] s (h ++ [(.cells [(.str []), (.int .i64 0), (.bool false), (.bool false), (.bool false), (.bool false), (.int .i64 0)])])) := k_reg
@[simp] theorem q14_7 : runF E n0 g c14_7 s h = regK (some [1, 3, 14]) (runO E n0 g h.length [⟨(some 15), (.fa 0 (.t 1)), none⟩, ⟨(some 16), (.ld false 1 (.t 15)), none⟩, ⟨(some 17), (.bin .eql (.t 16) (.c (.int .i64 6))), none⟩, ⟨(some 14), (.mv (.t 17)), none⟩] s h) := k_reg0
@[simp] theorem q14_8 : runF E n0 g c14_8 s h = regK (some [2]) (runO E n0 g h.length [⟨(some 18), (.bsl 1 (.int .i64 0) 1 [(0, (.c (.int .i64 0)))]), none⟩, ⟨(some 2), (.mv (.t 18)), none⟩] s h) := k_reg0
@[simp] theorem q14_9 : runF E n0 g c14_9 s h = seqK E n0 g .ret (runF E n0 g c14_8 s h) := k_seq
@[simp] theorem q14_10 : runF E n0 g c14_10 s h = regK (some [1, 19]) (runO E n0 g h.length [⟨(some 20), (.fa 3 (.t 3)), none⟩, ⟨(some 21), (.ld false 1 (.t 20)), none⟩, ⟨(some 19), (.mv (.t 21)), none⟩] s h) := k_reg0
@[simp] theorem q14_11 : runF E n0 g c14_11 s h = regK (some [2]) (runO E n0 g h.length [⟨(some 22), (.fa 1 (.t 1)), none⟩, ⟨(some 23), (.ld false 1 (.t 22)), none⟩, ⟨(some 24), (.bsl 1 (.int .i64 0) 1 [(0, (.t 23))]), none⟩, ⟨(some 2), (.mv (.t 24)), none⟩] s h) := k_reg0
@[simp] theorem q14_12 : runF E n0 g c14_12 s h = seqK E n0 g .ret (runF E n0 g c14_11 s h) := k_seq
@[simp] theorem q14_13 : runF E n0 g c14_13 s h = condK E n0 g c14_12 .skip s h (get s 19) := k_cond
@[simp] theorem q14_14 : runF E n0 g c14_14 s h = seqK E n0 g c14_13 (runF E n0 g c14_10 s h) := k_seq
@[simp] theorem q14_15 : runF E n0 g c14_15 s h = condK E n0 g c14_9 c14_14 s h (get s 14) := k_cond
@[simp] theorem q14_16 : runF E n0 g c14_16 s h = seqK E n0 g c14_15 (runF E n0 g c14_7 s h) := k_seq
@[simp] theorem q14_17 : runF E n0 g c14_17 s h = blkK (some []) 0 (runF E n0 g c14_16 s h) := k_block
@[simp] theorem q14_18 : runF E n0 g c14_18 s h = regK (some [2]) (runO E n0 g h.length [⟨(some 2), (.mv (.c (.sl .full []))), none⟩] s h) := k_reg0
@[simp] theorem q14_19 : runF E n0 g c14_19 s h = seqK E n0 g .ret (runF E n0 g c14_18 s h) := k_seq
@[simp] theorem q14_20 : runF E n0 g c14_20 s h = seqK E n0 g c14_19 (runF E n0 g c14_17 s h) := k_seq
@[simp] theorem q14_21 : runF E n0 g c14_21 s h = seqK E n0 g c14_20 (runF E n0 g c14_6 s h) := k_seq
@[simp] theorem q14_22 : runF E n0 g c14_22 s h = seqK E n0 g c14_21 (runF E n0 g c14_5 s h) := k_seq
@[simp] theorem q14_23 : runF E n0 g c14_23 s h = seqK E n0 g c14_22 (runF E n0 g c14_0 s h) := k_seq
@[simp] theorem qq14 : runF E n0 g c14 s h = runF E n0 g c14_23 s h := rfl
@[simp] theorem q18_0 : runF E n0 g c18_0 s h = regK (some [0, 2]) (runO E n0 g h.length [⟨(some 2), (.al 0 [(.int .i64 0), (.int .i64 0), (.int .i64 0), (.int .i64 0), (.int .i64 0)]), none⟩] s (h ++ [(.cells [(.int .i64 0), (.int .i64 0), (.int .i64 0), (.int .i64 0), (.int .i64 0)])])) := k_reg
@[simp] theorem q18_1 : runF E n0 g c18_1 s h = regK (some [0, 2, 3]) (runO E n0 g h.length [⟨(some 8), (.mv (.t 0)), none⟩, ⟨(some 9), (.bld [(.int .i64 0)] [(0, (1, (.t 8)))]), none⟩, ⟨(some 10), (.bx 0 (.t 9)), none⟩, ⟨(some 3), (.mv (.t 10)), none⟩] s (h ++ [.dead])) := k_reg
@[simp] theorem q18_2 : runF E n0 g c18_2 s h = regK (some [0, 2, 3, 4]) (runO E n0 g h.length [⟨(some 11), (.mv (.t 3)), none⟩, ⟨(some 12), (.call 37 [(.t 11), (.c (.int .i64 37))]), none⟩, ⟨(some 13), (.bin .add (.c (.int .i64 1)) (.t 12)), none⟩, ⟨(some 14), (.bld [(.int .i64 0), (.int .i64 0), (.int .i64 0), (.int .i64 0), (.int .i64 0)] [(0, (1, (.t 13)))]), none⟩, ⟨(some 4), (.al 0 [(.int .i64 0), (.int .i64 0), (.int .i64 0), (.int .i64 0), (.int .i64 0)]), none⟩, ⟨none, (.st 5 (.t 4) (.t 14)), none⟩] s (h ++ [(.cells [(.int .i64 0), (.int .i64 0), (.int .i64 0), (.int .i64 0), (.int .i64 0)])])) := k_reg
@[simp] theorem q18_3 : runF E n0 g c18_3 s h = regK (some [0, 2, 3, 4, 5]) (runO E n0 g h.length [⟨(some 16), (.fa 0 (.t 4)), none⟩, ⟨(some 17), (.ld false 1 (.t 16)), none⟩, ⟨(some 18), (.call 15 [(.t 17)]), none⟩, ⟨(some 15), (.mv (.t 18)), none⟩, ⟨(some 19), (.ext (.t 15) 0), none⟩, ⟨(some 20), (.ext (.t 15) 1), none⟩, ⟨(some 5), (.al 0 [(.str []), (.int .i64 0), (.bool false), (.bool false), (.bool false), (.bool false), (.int .i64 0)]), none⟩, ⟨none, (.st 7 (.t 5) (.t 19)), none⟩, ⟨(some 6), (.mv (.t 20)), none⟩] s (h ++ [(.cells [(.str []), (.int .i64 0), (.bool false), (.bool false), (.bool false), (.bool false), (.int .i64 0)])])) := k_reg
@[simp] theorem q18_4 : runF E n0 g c18_4 s h = regK (some [0, 2, 3, 4, 7]) (runO E n0 g h.length [⟨(some 21), (.fa 1 (.t 5)), none⟩, ⟨(some 22), (.ld false 1 (.t 21)), none⟩, ⟨(some 7), (.mv (.t 22)), none⟩] s h) := k_reg0
@[simp] theorem q18_5 : runF E n0 g c18_5 s h = regK (some [0, 2, 3, 4, 7, 28]) (runO E n0 g h.length [⟨(some 23), (.mv (.t 7)), none⟩, ⟨(some 24), (.bin .neq (.t 23) (.c (.int .i64 1))), none⟩, ⟨(some 25), (.mv (.t 24)), none⟩, ⟨(some 26), (.mv (.t 7)), (some (25, true))⟩, ⟨(some 27), (.bin .neq (.t 26) (.c (.int .i64 8))), (some (25, true))⟩, ⟨(some 28), (.pick (.t 25) (.t 27) (.c (.bool false))), none⟩] s h) := k_reg0
@[simp] theorem q18_6 : runF E n0 g c18_6 s h = regK (some [0, 2, 3, 4, 7]) (runO E n0 g h.length [⟨(some 29), (.mv (.t 3)), none⟩, ⟨(some 30), (.call 37 [(.t 29), (.c (.int .i64 8))]), none⟩, ⟨(some 31), (.fa 1 (.t 4)), none⟩, ⟨none, (.st 1 (.t 31) (.t 30)), none⟩] s h) := k_reg0
@[simp] theorem q18_7 : runF E n0 g c18_7 s h = condK E n0 g c18_6 .skip s h (get s 28) := k_cond
@[simp] theorem q18_8 : runF E n0 g c18_8 s h = seqK E n0 g c18_7 (runF E n0 g c18_5 s h) := k_seq
@[simp] theorem q18_9 : runF E n0 g c18_9 s h = regK (some [0, 2, 3, 4, 7, 41]) (runO E n0 g h.length [⟨(some 32), (.mv (.t 7)), none⟩, ⟨(some 33), (.bin .eql (.t 32) (.c (.int .i64 3))), none⟩, ⟨(some 34), (.mv (.t 33)), none⟩, ⟨(some 35), (.mv (.t 7)), (some (34, false))⟩, ⟨(some 36), (.bin .eql (.t 35) (.c (.int .i64 4))), (some (34, false))⟩, ⟨(some 37), (.pick (.t 34) (.c (.bool true)) (.t 36)), none⟩, ⟨(some 38), (.mv (.t 37)), none⟩, ⟨(some 39), (.mv (.t 7)), (some (38, false))⟩, ⟨(some 40), (.bin .eql (.t 39) (.c (.int .i64 7))), (some (38, false))⟩, ⟨(some 41), (.pick (.t 38) (.c (.bool true)) (.t 40)), none⟩] s h) := k_reg0
@[simp] theorem q18_10 : runF E n0 g c18_10 s h = regK (some [0, 2, 3, 4, 7]) (runO E n0 g h.length [⟨(some 42), (.mv (.t 3)), none⟩, ⟨(some 43), (.call 37 [(.t 42), (.c (.int .i64 8))]), none⟩, ⟨(some 44), (.fa 2 (.t 4)), none⟩, ⟨none, (.st 1 (.t 44) (.t 43)), none⟩] s h) := k_reg0
@[simp] theorem q18_11 : runF E n0 g c18_11 s h = condK E n0 g c18_10 .skip s h (get s 41) := k_cond
@[simp] theorem q18_12 : runF E n0 g c18_12 s h = seqK E n0 g c18_11 (runF E n0 g c18_9 s h) := k_seq
@[simp] theorem q18_13 : runF E n0 g c18_13 s h = regK (some [0, 2, 3, 4, 46]) (runO E n0 g h.length [⟨(some 45), (.mv (.t 7)), none⟩, ⟨(some 46), (.bin .eql (.t 45) (.c (.int .i64 4))), none⟩] s h) := k_reg0
@[simp] theorem q18_14 : runF E n0 g c18_14 s h = regK (some [0, 2, 3, 4]) (runO E n0 g h.length [⟨(some 47), (.mv (.t 3)), none⟩, ⟨(some 48), (.call 37 [(.t 47), (.c (.int .i64 8))]), none⟩, ⟨(some 49), (.fa 3 (.t 4)), none⟩, ⟨none, (.st 1 (.t 49) (.t 48)), none⟩] s h) := k_reg0
@[simp] theorem q18_15 : runF E n0 g c18_15 s h = condK E n0 g c18_14 .skip s h (get s 46) := k_cond
@[simp] theorem q18_16 : runF E n0 g c18_16 s h = seqK E n0 g c18_15 (runF E n0 g c18_13 s h) := k_seq
@[simp] theorem q18_17 : runF E n0 g c18_17 s h = regK (some [0, 2, 3, 4, 51]) (runO E n0 g h.length [⟨(some 50), (.fa 0 (.t 4)), none⟩, ⟨(some 51), (.ld false 1 (.t 50)), none⟩] s h) := k_reg0
@[simp] theorem q18_18 : runF E n0 g c18_18 s h = regK (some [0, 2, 3, 4, 51, 52]) (runO E n0 g h.length [⟨(some 53), (.bin .eql (.t 51) (.c (.int .i64 4))), none⟩, ⟨(some 52), (.mv (.t 53)), none⟩] s h) := k_reg0
@[simp] theorem q18_19 : runF E n0 g c18_19 s h = regK (some [2, 4]) (runO E n0 g h.length [⟨(some 54), (.mv (.t 3)), none⟩, ⟨(some 55), (.call 37 [(.t 54), (.c (.int .i64 40))]), none⟩, ⟨(some 56), (.bin .add (.c (.int .i64 1)) (.t 55)), none⟩, ⟨(some 57), (.fa 4 (.t 4)), none⟩, ⟨none, (.st 1 (.t 57) (.t 56)), none⟩] s h) := k_reg0
@[simp] theorem q18_20 : runF E n0 g c18_20 s h = regK (some [0, 2, 3, 4, 51, 58]) (runO E n0 g h.length [⟨(some 59), (.bin .eql (.t 51) (.c (.int .i64 6))), none⟩, ⟨(some 58), (.mv (.t 59)), none⟩] s h) := k_reg0
@[simp] theorem q18_21 : runF E n0 g c18_21 s h = regK (some [2, 4]) (runO E n0 g h.length [⟨(some 60), (.mv (.t 3)), none⟩, ⟨(some 61), (.call 37 [(.t 60), (.c (.int .i64 3))]), none⟩, ⟨(some 62), (.mv (.t 3)), none⟩, ⟨(some 63), (.call 37 [(.t 62), (.c (.int .i64 2))]), none⟩, ⟨(some 64), (.fa 1 (.t 4)), none⟩, ⟨none, (.st 1 (.t 64) (.t 61)), none⟩, ⟨(some 65), (.fa 4 (.t 4)), none⟩, ⟨none, (.st 1 (.t 65) (.t 63)), none⟩] s h) := k_reg0
@[simp] theorem q18_22 : runF E n0 g c18_22 s h = regK (some [0, 2, 3, 4, 51, 66]) (runO E n0 g h.length [⟨(some 67), (.bin .eql (.t 51) (.c (.int .i64 34))), none⟩, ⟨(some 66), (.mv (.t 67)), none⟩] s h) := k_reg0
@[simp] theorem q18_23 : runF E n0 g c18_23 s h = regK (some [0, 2, 3, 4, 51, 66]) (runO E n0 g h.length [⟨(some 68), (.bin .eql (.t 51) (.c (.int .i64 35))), none⟩, ⟨(some 66), (.mv (.t 68)), none⟩] s h) := k_reg0
@[simp] theorem q18_24 : runF E n0 g c18_24 s h = condK E n0 g .skip c18_23 s h (get s 66) := k_cond
@[simp] theorem q18_25 : runF E n0 g c18_25 s h = seqK E n0 g c18_24 (runF E n0 g c18_22 s h) := k_seq
@[simp] theorem q18_26 : runF E n0 g c18_26 s h = regK (some [2, 4]) (runO E n0 g h.length [⟨(some 69), (.mv (.t 3)), none⟩, ⟨(some 70), (.call 37 [(.t 69), (.c (.int .i64 2))]), none⟩, ⟨(some 71), (.fa 4 (.t 4)), none⟩, ⟨none, (.st 1 (.t 71) (.t 70)), none⟩] s h) := k_reg0
@[simp] theorem q18_27 : runF E n0 g c18_27 s h = regK (some [0, 2, 3, 4, 51, 72]) (runO E n0 g h.length [⟨(some 73), (.bin .eql (.t 51) (.c (.int .i64 36))), none⟩, ⟨(some 72), (.mv (.t 73)), none⟩] s h) := k_reg0
@[simp] theorem q18_28 : runF E n0 g c18_28 s h = regK (some [0, 2, 3, 4, 51, 72]) (runO E n0 g h.length [⟨(some 74), (.bin .eql (.t 51) (.c (.int .i64 37))), none⟩, ⟨(some 72), (.mv (.t 74)), none⟩] s h) := k_reg0
@[simp] theorem q18_29 : runF E n0 g c18_29 s h = condK E n0 g .skip c18_28 s h (get s 72) := k_cond
@[simp] theorem q18_30 : runF E n0 g c18_30 s h = seqK E n0 g c18_29 (runF E n0 g c18_27 s h) := k_seq
@[simp] theorem q18_31 : runF E n0 g c18_31 s h = regK (some [2, 4]) (runO E n0 g h.length [⟨(some 75), (.mv (.t 3)), none⟩, ⟨(some 76), (.call 37 [(.t 75), (.c (.int .i64 6))]), none⟩, ⟨(some 77), (.fa 4 (.t 4)), none⟩, ⟨none, (.st 1 (.t 77) (.t 76)), none⟩] s h) := k_reg0
@[simp] theorem q18_32 : runF E n0 g c18_32 s h = regK (some [0, 2, 3, 4, 51, 78]) (runO E n0 g h.length [⟨(some 79), (.bin .eql (.t 51) (.c (.int .i64 14))), none⟩, ⟨(some 78), (.mv (.t 79)), none⟩] s h) := k_reg0
@[simp] theorem q18_33 : runF E n0 g c18_33 s h = regK (some [2, 4]) (runO E n0 g h.length [⟨(some 80), (.mv (.t 3)), none⟩, ⟨(some 81), (.call 37 [(.t 80), (.c (.int .i64 500))]), none⟩, ⟨(some 82), (.mv (.t 0)), none⟩, ⟨(some 83), (.call 38 [(.t 81), (.t 82)]), none⟩, ⟨(some 84), (.fa 4 (.t 4)), none⟩, ⟨none, (.st 1 (.t 84) (.t 83)), none⟩] s h) := k_reg0
@[simp] theorem q18_34 : runF E n0 g c18_34 s h = regK (some [2, 3, 4, 51, 85]) (runO E n0 g h.length [⟨(some 86), (.bin .eql (.t 51) (.c (.int .i64 13))), none⟩, ⟨(some 85), (.mv (.t 86)), none⟩] s h) := k_reg0
@[simp] theorem q18_35 : runF E n0 g c18_35 s h = regK (some [2, 3, 4, 51, 85]) (runO E n0 g h.length [⟨(some 87), (.bin .eql (.t 51) (.c (.int .i64 33))), none⟩, ⟨(some 85), (.mv (.t 87)), none⟩] s h) := k_reg0
@[simp] theorem q18_36 : runF E n0 g c18_36 s h = regK (some [2, 3, 4, 51, 85]) (runO E n0 g h.length [⟨(some 88), (.bin .eql (.t 51) (.c (.int .i64 5))), none⟩, ⟨(some 85), (.mv (.t 88)), none⟩] s h) := k_reg0
@[simp] theorem q18_37 : runF E n0 g c18_37 s h = regK (some [2, 3, 4, 51, 85]) (runO E n0 g h.length [⟨(some 89), (.bin .eql (.t 51) (.c (.int .i64 7))), none⟩, ⟨(some 85), (.mv (.t 89)), none⟩] s h) := k_reg0
@[simp] theorem q18_38 : runF E n0 g c18_38 s h = regK (some [2, 3, 4, 85]) (runO E n0 g h.length [⟨(some 90), (.bin .eql (.t 51) (.c (.int .i64 8))), none⟩, ⟨(some 85), (.mv (.t 90)), none⟩] s h) := k_reg0
@[simp] theorem q18_39 : runF E n0 g c18_39 s h = condK E n0 g .skip c18_38 s h (get s 85) := k_cond
@[simp] theorem q18_40 : runF E n0 g c18_40 s h = seqK E n0 g c18_39 (runF E n0 g c18_37 s h) := k_seq
@[simp] theorem q18_41 : runF E n0 g c18_41 s h = condK E n0 g .skip c18_40 s h (get s 85) := k_cond
@[simp] theorem q18_42 : runF E n0 g c18_42 s h = seqK E n0 g c18_41 (runF E n0 g c18_36 s h) := k_seq
@[simp] theorem q18_43 : runF E n0 g c18_43 s h = condK E n0 g .skip c18_42 s h (get s 85) := k_cond
@[simp] theorem q18_44 : runF E n0 g c18_44 s h = seqK E n0 g c18_43 (runF E n0 g c18_35 s h) := k_seq
@[simp] theorem q18_45 : runF E n0 g c18_45 s h = condK E n0 g .skip c18_44 s h (get s 85) := k_cond
@[simp] theorem q18_46 : runF E n0 g c18_46 s h = seqK E n0 g c18_45 (runF E n0 g c18_34 s h) := k_seq
@[simp] theorem q18_47 : runF E n0 g c18_47 s h = regK (some [2, 4]) (runO E n0 g h.length [⟨(some 91), (.mv (.t 3)), none⟩, ⟨(some 92), (.call 37 [(.t 91), (.c (.int .i64 15))]), none⟩, ⟨(some 93), (.bin .sub (.t 92) (.c (.int .i64 6))), none⟩, ⟨(some 94), (.fa 4 (.t 4)), none⟩, ⟨none, (.st 1 (.t 94) (.t 93)), none⟩] s h) := k_reg0
@[simp] theorem q18_48 : runF E n0 g c18_48 s h = condK E n0 g c18_47 .skip s h (get s 85) := k_cond
@[simp] theorem q18_49 : runF E n0 g c18_49 s h = seqK E n0 g (.seq c18_45 c18_48) (runF E n0 g c18_34 s h) := k_assoc
@[simp] theorem q18_49a : runF E n0 g (.seq c18_45 c18_48) s h = condK E n0 g c18_47 (.seq c18_44 c18_48) s h (get s 85) := k_or
@[simp] theorem q18_49ab : runF E n0 g (.seq c18_44 c18_48) s h = seqK E n0 g (.seq c18_43 c18_48) (runF E n0 g c18_35 s h) := k_assoc
@[simp] theorem q18_49aba : runF E n0 g (.seq c18_43 c18_48) s h = condK E n0 g c18_47 (.seq c18_42 c18_48) s h (get s 85) := k_or
@[simp] theorem q18_49abab : runF E n0 g (.seq c18_42 c18_48) s h = seqK E n0 g (.seq c18_41 c18_48) (runF E n0 g c18_36 s h) := k_assoc
@[simp] theorem q18_49ababa : runF E n0 g (.seq c18_41 c18_48) s h = condK E n0 g c18_47 (.seq c18_40 c18_48) s h (get s 85) := k_or
@[simp] theorem q18_49ababab : runF E n0 g (.seq c18_40 c18_48) s h = seqK E n0 g (.seq c18_39 c18_48) (runF E n0 g c18_37 s h) := k_assoc
@[simp] theorem q18_49abababa : runF E n0 g (.seq c18_39 c18_48) s h = condK E n0 g c18_47 (.seq c18_38 c18_48) s h (get s 85) := k_or
@[simp] theorem q18_49abababab : runF E n0 g (.seq c18_38 c18_48) s h = seqK E n0 g c18_48 (runF E n0 g c18_38 s h) := k_seq
@[simp] theorem q18_50 : runF E n0 g c18_50 s h = condK E n0 g c18_33 c18_49 s h (get s 78) := k_cond
@[simp] theorem q18_51 : runF E n0 g c18_51 s h = seqK E n0 g c18_50 (runF E n0 g c18_32 s h) := k_seq
@[simp] theorem q18_52 : runF E n0 g c18_52 s h = condK E n0 g c18_31 c18_51 s h (get s 72) := k_cond
@[simp] theorem q18_53 : runF E n0 g c18_53 s h = seqK E n0 g (.seq c18_29 c18_52) (runF E n0 g c18_27 s h) := k_assoc
@[simp] theorem q18_53a : runF E n0 g (.seq c18_29 c18_52) s h = condK E n0 g c18_31 (.seq c18_28 c18_52) s h (get s 72) := k_or
@[simp] theorem q18_53ab : runF E n0 g (.seq c18_28 c18_52) s h = seqK E n0 g c18_52 (runF E n0 g c18_28 s h) := k_seq
@[simp] theorem q18_54 : runF E n0 g c18_54 s h = condK E n0 g c18_26 c18_53 s h (get s 66) := k_cond
@[simp] theorem q18_55 : runF E n0 g c18_55 s h = seqK E n0 g (.seq c18_24 c18_54) (runF E n0 g c18_22 s h) := k_assoc
@[simp] theorem q18_55a : runF E n0 g (.seq c18_24 c18_54) s h = condK E n0 g c18_26 (.seq c18_23 c18_54) s h (get s 66) := k_or
@[simp] theorem q18_55ab : runF E n0 g (.seq c18_23 c18_54) s h = seqK E n0 g c18_54 (runF E n0 g c18_23 s h) := k_seq
@[simp] theorem q18_56 : runF E n0 g c18_56 s h = condK E n0 g c18_21 c18_55 s h (get s 58) := k_cond
@[simp] theorem q18_57 : runF E n0 g c18_57 s h = seqK E n0 g c18_56 (runF E n0 g c18_20 s h) := k_seq
@[simp] theorem q18_58 : runF E n0 g c18_58 s h = condK E n0 g c18_19 c18_57 s h (get s 52) := k_cond
@[simp] theorem q18_59 : runF E n0 g c18_59 s h = seqK E n0 g c18_58 (runF E n0 g c18_18 s h) := k_seq
@[simp] theorem q18_60 : runF E n0 g c18_60 s h = blkK (some [2, 4]) 0 (runF E n0 g c18_59 s h) := k_block
@[simp] theorem q18_61 : runF E n0 g c18_61 s h = seqK E n0 g c18_60 (runF E n0 g c18_17 s h) := k_seq
@[simp] theorem q18_62 : runF E n0 g c18_62 s h = regK (some [2]) (runO E n0 g h.length [⟨(some 95), (.ld true 5 (.t 4)), none⟩, ⟨none, (.st 5 (.t 2) (.t 95)), none⟩] s h) := k_reg0
@[simp] theorem q18_63 : runF E n0 g c18_63 s h = seqK E n0 g .ret (runF E n0 g c18_62 s h) := k_seq
@[simp] theorem q18_64 : runF E n0 g c18_64 s h = seqK E n0 g c18_63 (runF E n0 g c18_61 s h) := k_seq
@[simp] theorem q18_65 : runF E n0 g c18_65 s h = seqK E n0 g c18_64 (runF E n0 g c18_16 s h) := k_seq
@[simp] theorem q18_66 : runF E n0 g c18_66 s h = seqK E n0 g c18_65 (runF E n0 g c18_12 s h) := k_seq
@[simp] theorem q18_67 : runF E n0 g c18_67 s h = seqK E n0 g c18_66 (runF E n0 g c18_8 s h) := k_seq
@[simp] theorem q18_68 : runF E n0 g c18_68 s h = seqK E n0 g c18_67 (runF E n0 g c18_4 s h) := k_seq
@[simp] theorem q18_69 : runF E n0 g c18_69 s h = seqK E n0 g c18_68 (runF E n0 g c18_3 s h) := k_seq
@[simp] theorem q18_70 : runF E n0 g c18_70 s h = seqK E n0 g c18_69 (runF E n0 g c18_2 s h) := k_seq
@[simp] theorem q18_71 : runF E n0 g c18_71 s h = seqK E n0 g c18_70 (runF E n0 g c18_1 s h) := k_seq
@[simp] theorem q18_72 : runF E n0 g c18_72 s h = seqK E n0 g c18_71 (runF E n0 g c18_0 s h) := k_seq
@[simp] theorem qq18 : runF E n0 g c18 s h = runF E n0 g c18_72 s h := rfl
@[simp] theorem q19_0 : runF E n0 g c19_0 s h = regK (some [1, 2, 3, 6]) (runO E n0 g h.length [⟨(some 3), (.bx 0 (.t 0)), none⟩, ⟨(some 6), (.al 1 [(.int .i64 0), (.int .i64 0), (.int .i64 0), (.int .i64 0), (.int .i64 0)]), none⟩] s (h ++ [.dead, (.cells [(.int .i64 0), (.int .i64 0), (.int .i64 0), (.int .i64 0), (.int .i64 0)])])) := k_reg
@[simp] theorem q19_1 : runF E n0 g c19_1 s h = regK (some [1, 2, 3, 6, 7]) (runO E n0 g h.length [⟨(some 8), (.mv (.t 2)), none⟩, ⟨(some 9), (.call 21 [(.t 8), (.c (.int .i64 40))]), none⟩, ⟨(some 10), (.bin .sub (.t 9) (.c (.int .i64 4))), none⟩, ⟨(some 7), (.mv (.t 10)), none⟩] s h) := k_reg0
@[simp] theorem q19_2 : runF E n0 g c19_2 s h = regK (some [1, 2, 3, 6, 7, 12]) (runO E n0 g h.length [⟨(some 11), (.mv (.t 1)), none⟩, ⟨(some 12), (.call 21 [(.t 11), (.c (.int .i64 7))]), none⟩] s h) := k_reg0
@[simp] theorem q19_3 : runF E n0 g c19_3 s h = regK (some [1, 2, 3, 6, 7, 12, 13]) (runO E n0 g h.length [⟨(some 14), (.bin .eql (.t 12) (.c (.int .i64 0))), none⟩, ⟨(some 13), (.mv (.t 14)), none⟩] s h) := k_reg0
@[simp] theorem q19_4 : runF E n0 g c19_4 s h = regK (some [3, 6]) (runO E n0 g h.length [⟨(some 15), (.mv (.t 7)), none⟩, ⟨(some 16), (.fa 0 (.t 3)), none⟩, ⟨none, (.st 1 (.t 16) (.t 15)), none⟩] s h) := k_reg0
@[simp] theorem q19_5 : runF E n0 g c19_5 s h = regK (some [1, 2, 3, 6, 7, 12, 17]) (runO E n0 g h.length [⟨(some 18), (.bin .eql (.t 12) (.c (.int .i64 1))), none⟩, ⟨(some 17), (.mv (.t 18)), none⟩] s h) := k_reg0
@[simp] theorem q19_6 : runF E n0 g c19_6 s h = regK (some [3, 6]) (runO E n0 g h.length [⟨(some 19), (.mv (.t 7)), none⟩, ⟨(some 20), (.fa 1 (.t 3)), none⟩, ⟨none, (.st 1 (.t 20) (.t 19)), none⟩] s h) := k_reg0
@[simp] theorem q19_7 : runF E n0 g c19_7 s h = regK (some [1, 2, 3, 6, 7, 12, 21]) (runO E n0 g h.length [⟨(some 22), (.bin .eql (.t 12) (.c (.int .i64 2))), none⟩, ⟨(some 21), (.mv (.t 22)), none⟩] s h) := k_reg0
@[simp] theorem q19_8 : runF E n0 g c19_8 s h = regK (some [3, 6]) (runO E n0 g h.length [⟨(some 23), (.mv (.t 7)), none⟩, ⟨(some 24), (.fa 2 (.t 3)), none⟩, ⟨none, (.st 1 (.t 24) (.t 23)), none⟩] s h) := k_reg0
@[simp] theorem q19_9 : runF E n0 g c19_9 s h = regK (some [1, 2, 3, 6, 7, 12, 25]) (runO E n0 g h.length [⟨(some 26), (.bin .eql (.t 12) (.c (.int .i64 3))), none⟩, ⟨(some 25), (.mv (.t 26)), none⟩] s h) := k_reg0
@[simp] theorem q19_10 : runF E n0 g c19_10 s h = regK (some [3, 6]) (runO E n0 g h.length [⟨(some 27), (.mv (.t 7)), none⟩, ⟨(some 28), (.fa 3 (.t 3)), none⟩, ⟨none, (.st 1 (.t 28) (.t 27)), none⟩] s h) := k_reg0
@[simp] theorem q19_11 : runF E n0 g c19_11 s h = regK (some [1, 2, 3, 6, 12, 29]) (runO E n0 g h.length [⟨(some 30), (.bin .eql (.t 12) (.c (.int .i64 4))), none⟩, ⟨(some 29), (.mv (.t 30)), none⟩] s h) := k_reg0
@[simp] theorem q19_12 : runF E n0 g c19_12 s h = regK (some [3, 6]) (runO E n0 g h.length [⟨(some 31), (.mv (.t 2)), none⟩, ⟨(some 32), (.mv (.t 1)), none⟩, ⟨(some 33), (.call 38 [(.t 31), (.t 32)]), none⟩, ⟨(some 34), (.fa 4 (.t 3)), none⟩, ⟨none, (.st 1 (.t 34) (.t 33)), none⟩] s h) := k_reg0
@[simp] theorem q19_13 : runF E n0 g c19_13 s h = regK (some [2, 3, 6, 35]) (runO E n0 g h.length [⟨(some 36), (.bin .eql (.t 12) (.c (.int .i64 5))), none⟩, ⟨(some 35), (.mv (.t 36)), none⟩] s h) := k_reg0
@[simp] theorem q19_14 : runF E n0 g c19_14 s h = regK (some [3, 6]) (runO E n0 g h.length [⟨(some 37), (.bsl 1 (.int .i64 0) 12 [(0, (.c (.int .i64 4194304))), (1, (.c (.int .i64 4194303))), (2, (.c (.int .i64 (-4194304)))), (3, (.c (.int .i64 (-4194305)))), (4, (.c (.int .i64 33554432))), (5, (.c (.int .i64 33554431))), (6, (.c (.int .i64 (-33554432)))), (7, (.c (.int .i64 (-33554433)))), (8, (.c (.int .i64 3000))), (9, (.c (.int .i64 2999))), (10, (.c (.int .i64 4))), (11, (.c (.int .i64 8)))]), none⟩, ⟨(some 38), (.mv (.t 2)), none⟩, ⟨(some 39), (.call 21 [(.t 38), (.c (.int .i64 12))]), none⟩, ⟨(some 40), (.ia 1 (.t 37) (.t 39)), none⟩, ⟨(some 41), (.ld false 1 (.t 40)), none⟩, ⟨(some 42), (.fa 4 (.t 3)), none⟩, ⟨none, (.st 1 (.t 42) (.t 41)), none⟩] s h) := k_reg0
@[simp] theorem q19_15 : runF E n0 g c19_15 s h = condK E n0 g c19_14 .skip s h (get s 35) := k_cond
@[simp] theorem q19_16 : runF E n0 g c19_16 s h = seqK E n0 g c19_15 (runF E n0 g c19_13 s h) := k_seq
@[simp] theorem q19_17 : runF E n0 g c19_17 s h = condK E n0 g c19_12 c19_16 s h (get s 29) := k_cond
@[simp] theorem q19_18 : runF E n0 g c19_18 s h = seqK E n0 g c19_17 (runF E n0 g c19_11 s h) := k_seq
@[simp] theorem q19_19 : runF E n0 g c19_19 s h = condK E n0 g c19_10 c19_18 s h (get s 25) := k_cond
@[simp] theorem q19_20 : runF E n0 g c19_20 s h = seqK E n0 g c19_19 (runF E n0 g c19_9 s h) := k_seq
@[simp] theorem q19_21 : runF E n0 g c19_21 s h = condK E n0 g c19_8 c19_20 s h (get s 21) := k_cond
@[simp] theorem q19_22 : runF E n0 g c19_22 s h = seqK E n0 g c19_21 (runF E n0 g c19_7 s h) := k_seq
@[simp] theorem q19_23 : runF E n0 g c19_23 s h = condK E n0 g c19_6 c19_22 s h (get s 17) := k_cond
@[simp] theorem q19_24 : runF E n0 g c19_24 s h = seqK E n0 g c19_23 (runF E n0 g c19_5 s h) := k_seq
@[simp] theorem q19_25 : runF E n0 g c19_25 s h = condK E n0 g c19_4 c19_24 s h (get s 13) := k_cond
@[simp] theorem q19_26 : runF E n0 g c19_26 s h = seqK E n0 g c19_25 (runF E n0 g c19_3 s h) := k_seq
@[simp] theorem q19_27 : runF E n0 g c19_27 s h = blkK (some [3, 6]) 0 (runF E n0 g c19_26 s h) := k_block
@[simp] theorem q19_28 : runF E n0 g c19_28 s h = seqK E n0 g c19_27 (runF E n0 g c19_2 s h) := k_seq
@[simp] theorem q19_29 : runF E n0 g c19_29 s h = regK (some [6]) (runO E n0 g h.length [⟨(some 43), (.ld true 5 (.t 3)), none⟩, ⟨none, (.st 5 (.t 6) (.t 43)), none⟩] s h) := k_reg0
@[simp] theorem q19_30 : runF E n0 g c19_30 s h = seqK E n0 g .ret (runF E n0 g c19_29 s h) := k_seq
@[simp] theorem q19_31 : runF E n0 g c19_31 s h = seqK E n0 g c19_30 (runF E n0 g c19_28 s h) := k_seq
@[simp] theorem q19_32 : runF E n0 g c19_32 s h = seqK E n0 g c19_31 (runF E n0 g c19_1 s h) := k_seq
@[simp] theorem q19_33 : runF E n0 g c19_33 s h = seqK E n0 g c19_32 (runF E n0 g c19_0 s h) := k_seq
@[simp] theorem qq19 : runF E n0 g c19 s h = runF E n0 g c19_33 s h := rfl
@[simp] theorem q20_0 : runF E n0 g c20_0 s h = regK (some [1]) (runO E n0 g h.length [⟨(some 1), (.bx 0 (.t 0)), none⟩, ⟨(some 2), (.mv (.c (.str []))), none⟩] s (h ++ [.dead])) := k_reg
@[simp] theorem q20_1 : runF E n0 g c20_1 s h = regK (some [1, 11]) (runO E n0 g h.length [⟨(some 9), (.ld true 5 (.t 1)), none⟩, ⟨(some 10), (.call 26 [(.t 9)]), none⟩, ⟨(some 11), (.un .not (.t 10)), none⟩] s h) := k_reg0
@[simp] theorem q20_2 : runF E n0 g c20_2 s h = regK (some [2]) (runO E n0 g h.length [⟨(some 2), (.mv (.c (.str []))), none⟩] s h) := k_reg0
@[simp] theorem q20_3 : runF E n0 g c20_3 s h = seqK E n0 g .ret (runF E n0 g c20_2 s h) := k_seq
@[simp] theorem q20_4 : runF E n0 g c20_4 s h = condK E n0 g c20_3 .skip s h (get s 11) := k_cond
@[simp] theorem q20_5 : runF E n0 g c20_5 s h = seqK E n0 g c20_4 (runF E n0 g c20_1 s h) := k_seq
@[simp] theorem q20_6 : runF E n0 g c20_6 s h = regK (some [1, 3]) (runO E n0 g h.length [⟨(some 13), (.fa 0 (.t 1)), none⟩, ⟨(some 14), (.ld false 1 (.t 13)), none⟩, ⟨(some 15), (.call 15 [(.t 14)]), none⟩, ⟨(some 12), (.mv (.t 15)), none⟩, ⟨(some 16), (.ext (.t 12) 0), none⟩, ⟨(some 17), (.ext (.t 12) 1), none⟩, ⟨(some 3), (.al 0 [(.str []), (.int .i64 0), (.bool false), (.bool false), (.bool false), (.bool false), (.int .i64 0)]), none⟩, ⟨none, (.st 7 (.t 3) (.t 16)), none⟩, ⟨(some 4), (.mv (.t 17)), none⟩] s (h ++ [(.cells [(.str []), (.int .i64 0), (.bool false), (.bool false), (.bool false), (.bool false), (.int .i64 0)])])) := k_reg
@[simp] theorem q20_7 : runF E n0 g c20_7 s h = regK (some [1, 3, 5]) (runO E n0 g h.length [⟨(some 18), (.fa 1 (.t 3)), none⟩, ⟨(some 19), (.ld false 1 (.t 18)), none⟩, ⟨(some 5), (.mv (.t 19)), none⟩] s h) := k_reg0
@[simp] theorem q20_8 : runF E n0 g c20_8 s h = regK (some [1, 3, 5, 6]) (runO E n0 g h.length [⟨(some 6), (.mv (.c (.sl .full []))), none⟩] s h) := k_reg0
@[simp] theorem q20_9 : runF E n0 g c20_9 s h = regK (some [1, 3, 5, 6, 22]) (runO E n0 g h.length [⟨(some 20), (.fa 0 (.t 1)), none⟩, ⟨(some 21), (.ld false 1 (.t 20)), none⟩, ⟨(some 22), (.bin .eql (.t 21) (.c (.int .i64 6))), none⟩] s h) := k_reg0
@[simp] theorem q20_10 : runF E n0 g c20_10 s h = regK (some [1, 3, 5, 6]) (runO E n0 g h.length [⟨(some 23), (.mv (.t 6)), none⟩, ⟨(some 24), (.fa 1 (.t 1)), none⟩, ⟨(some 25), (.ld false 1 (.t 24)), none⟩, ⟨(some 26), (.call 39 [(.t 25)]), none⟩, ⟨(some 27), (.bsl 1 (.str []) 1 [(0, (.t 26))]), none⟩, ⟨(some 28), (.app 0 1 16 (.t 23) (.t 27)), none⟩, ⟨(some 6), (.mv (.t 28)), none⟩] s (h ++ [.dead])) := k_reg
@[simp] theorem q20_11 : runF E n0 g c20_11 s h = regK (some [1, 3, 5, 6, 34]) (runO E n0 g h.length [⟨(some 29), (.mv (.t 5)), none⟩, ⟨(some 30), (.bin .neq (.t 29) (.c (.int .i64 1))), none⟩, ⟨(some 31), (.mv (.t 30)), none⟩, ⟨(some 32), (.mv (.t 5)), (some (31, true))⟩, ⟨(some 33), (.bin .neq (.t 32) (.c (.int .i64 8))), (some (31, true))⟩, ⟨(some 34), (.pick (.t 31) (.t 33) (.c (.bool false))), none⟩] s h) := k_reg0
@[simp] theorem q20_12 : runF E n0 g c20_12 s h = regK (some [1, 3, 5, 6]) (runO E n0 g h.length [⟨(some 35), (.mv (.t 6)), none⟩, ⟨(some 36), (.fa 1 (.t 1)), none⟩, ⟨(some 37), (.ld false 1 (.t 36)), none⟩, ⟨(some 38), (.call 39 [(.t 37)]), none⟩, ⟨(some 39), (.bin .add (.c (.str [114])) (.t 38)), none⟩, ⟨(some 40), (.bsl 1 (.str []) 1 [(0, (.t 39))]), none⟩, ⟨(some 41), (.app 0 1 16 (.t 35) (.t 40)), none⟩, ⟨(some 6), (.mv (.t 41)), none⟩] s (h ++ [.dead])) := k_reg
@[simp] theorem q20_13 : runF E n0 g c20_13 s h = condK E n0 g c20_12 .skip s h (get s 34) := k_cond
@[simp] theorem q20_14 : runF E n0 g c20_14 s h = seqK E n0 g c20_13 (runF E n0 g c20_11 s h) := k_seq
@[simp] theorem q20_15 : runF E n0 g c20_15 s h = condK E n0 g c20_10 c20_14 s h (get s 22) := k_cond
@[simp] theorem q20_16 : runF E n0 g c20_16 s h = seqK E n0 g c20_15 (runF E n0 g c20_9 s h) := k_seq
@[simp] theorem q20_17 : runF E n0 g c20_17 s h = regK (some [1, 3, 5, 6, 51]) (runO E n0 g h.length [⟨(some 42), (.mv (.t 5)), none⟩, ⟨(some 43), (.bin .eql (.t 42) (.c (.int .i64 3))), none⟩, ⟨(some 44), (.mv (.t 43)), none⟩, ⟨(some 45), (.mv (.t 5)), (some (44, false))⟩, ⟨(some 46), (.bin .eql (.t 45) (.c (.int .i64 4))), (some (44, false))⟩, ⟨(some 47), (.pick (.t 44) (.c (.bool true)) (.t 46)), none⟩, ⟨(some 48), (.mv (.t 47)), none⟩, ⟨(some 49), (.mv (.t 5)), (some (48, false))⟩, ⟨(some 50), (.bin .eql (.t 49) (.c (.int .i64 7))), (some (48, false))⟩, ⟨(some 51), (.pick (.t 48) (.c (.bool true)) (.t 50)), none⟩] s h) := k_reg0
@[simp] theorem q20_18 : runF E n0 g c20_18 s h = regK (some [1, 3, 5, 6]) (runO E n0 g h.length [⟨(some 52), (.mv (.t 6)), none⟩, ⟨(some 53), (.fa 2 (.t 1)), none⟩, ⟨(some 54), (.ld false 1 (.t 53)), none⟩, ⟨(some 55), (.call 39 [(.t 54)]), none⟩, ⟨(some 56), (.bin .add (.c (.str [114])) (.t 55)), none⟩, ⟨(some 57), (.bsl 1 (.str []) 1 [(0, (.t 56))]), none⟩, ⟨(some 58), (.app 0 1 16 (.t 52) (.t 57)), none⟩, ⟨(some 6), (.mv (.t 58)), none⟩] s (h ++ [.dead])) := k_reg
@[simp] theorem q20_19 : runF E n0 g c20_19 s h = condK E n0 g c20_18 .skip s h (get s 51) := k_cond
@[simp] theorem q20_20 : runF E n0 g c20_20 s h = seqK E n0 g c20_19 (runF E n0 g c20_17 s h) := k_seq
@[simp] theorem q20_21 : runF E n0 g c20_21 s h = regK (some [1, 3, 5, 6, 60]) (runO E n0 g h.length [⟨(some 59), (.mv (.t 5)), none⟩, ⟨(some 60), (.bin .eql (.t 59) (.c (.int .i64 4))), none⟩] s h) := k_reg0
@[simp] theorem q20_22 : runF E n0 g c20_22 s h = regK (some [1, 3, 5, 6]) (runO E n0 g h.length [⟨(some 61), (.mv (.t 6)), none⟩, ⟨(some 62), (.fa 3 (.t 1)), none⟩, ⟨(some 63), (.ld false 1 (.t 62)), none⟩, ⟨(some 64), (.call 39 [(.t 63)]), none⟩, ⟨(some 65), (.bin .add (.c (.str [114])) (.t 64)), none⟩, ⟨(some 66), (.bsl 1 (.str []) 1 [(0, (.t 65))]), none⟩, ⟨(some 67), (.app 0 1 16 (.t 61) (.t 66)), none⟩, ⟨(some 6), (.mv (.t 67)), none⟩] s (h ++ [.dead])) := k_reg
@[simp] theorem q20_23 : runF E n0 g c20_23 s h = condK E n0 g c20_22 .skip s h (get s 60) := k_cond
@[simp] theorem q20_24 : runF E n0 g c20_24 s h = seqK E n0 g c20_23 (runF E n0 g c20_21 s h) := k_seq
@[simp] theorem q20_25 : runF E n0 g c20_25 s h = regK (some [1, 3, 6, 81]) (runO E n0 g h.length [⟨(some 68), (.mv (.t 5)), none⟩, ⟨(some 69), (.bin .eql (.t 68) (.c (.int .i64 8))), none⟩, ⟨(some 70), (.mv (.t 69)), none⟩, ⟨(some 71), (.mv (.t 5)), (some (70, false))⟩, ⟨(some 72), (.bin .eql (.t 71) (.c (.int .i64 5))), (some (70, false))⟩, ⟨(some 73), (.pick (.t 70) (.c (.bool true)) (.t 72)), none⟩, ⟨(some 74), (.mv (.t 73)), none⟩, ⟨(some 75), (.mv (.t 5)), (some (74, false))⟩, ⟨(some 76), (.bin .eql (.t 75) (.c (.int .i64 6))), (some (74, false))⟩, ⟨(some 77), (.pick (.t 74) (.c (.bool true)) (.t 76)), none⟩, ⟨(some 78), (.mv (.t 77)), none⟩, ⟨(some 79), (.mv (.t 5)), (some (78, false))⟩, ⟨(some 80), (.bin .eql (.t 79) (.c (.int .i64 7))), (some (78, false))⟩, ⟨(some 81), (.pick (.t 78) (.c (.bool true)) (.t 80)), none⟩] s h) := k_reg0
@[simp] theorem q20_26 : runF E n0 g c20_26 s h = regK (some [3, 6]) (runO E n0 g h.length [⟨(some 82), (.mv (.t 6)), none⟩, ⟨(some 83), (.fa 4 (.t 1)), none⟩, ⟨(some 84), (.ld false 1 (.t 83)), none⟩, ⟨(some 85), (.call 39 [(.t 84)]), none⟩, ⟨(some 86), (.bsl 1 (.str []) 1 [(0, (.t 85))]), none⟩, ⟨(some 87), (.app 0 1 16 (.t 82) (.t 86)), none⟩, ⟨(some 6), (.mv (.t 87)), none⟩] s (h ++ [.dead])) := k_reg
@[simp] theorem q20_27 : runF E n0 g c20_27 s h = condK E n0 g c20_26 .skip s h (get s 81) := k_cond
@[simp] theorem q20_28 : runF E n0 g c20_28 s h = seqK E n0 g c20_27 (runF E n0 g c20_25 s h) := k_seq
@[simp] theorem q20_29 : runF E n0 g c20_29 s h = regK (some [6, 7]) (runO E n0 g h.length [⟨(some 88), (.fa 0 (.t 3)), none⟩, ⟨(some 89), (.ld false 1 (.t 88)), none⟩, ⟨(some 7), (.mv (.t 89)), none⟩] s h) := k_reg0
@[simp] theorem q20_30 : runF E n0 g c20_30 s h = regK (some [6, 7, 8]) (runO E n0 g h.length [⟨(some 8), (.mv (.c (.int .i64 0))), none⟩] s h) := k_reg0
@[simp] theorem q20_31 : runF E n0 g c20_31 s h = regK (some [6, 7, 8, 93]) (runO E n0 g h.length [⟨(some 90), (.mv (.t 8)), none⟩, ⟨(some 91), (.mv (.t 6)), none⟩, ⟨(some 92), (.len (.t 91)), none⟩, ⟨(some 93), (.bin .lss (.t 90) (.t 92)), none⟩] s h) := k_reg0
@[simp] theorem q20_32 : runF E n0 g c20_32 s h = condK E n0 g .skip (.exit 0) s h (get s 93) := k_cond
@[simp] theorem q20_33 : runF E n0 g c20_33 s h = seqK E n0 g c20_32 (runF E n0 g c20_31 s h) := k_seq
@[simp] theorem q20_34 : runF E n0 g c20_34 s h = regK (some [6, 7, 8, 97]) (runO E n0 g h.length [⟨(some 96), (.mv (.t 8)), none⟩, ⟨(some 97), (.bin .eql (.t 96) (.c (.int .i64 0))), none⟩] s h) := k_reg0
@[simp] theorem q20_35 : runF E n0 g c20_35 s h = regK (some [6, 7, 8]) (runO E n0 g h.length [⟨(some 98), (.mv (.t 7)), none⟩, ⟨(some 99), (.mv (.t 6)), none⟩, ⟨(some 100), (.mv (.t 8)), none⟩, ⟨(some 101), (.ia 1 (.t 99) (.t 100)), none⟩, ⟨(some 102), (.ld false 1 (.t 101)), none⟩, ⟨(some 103), (.bin .add (.c (.str [32])) (.t 102)), none⟩, ⟨(some 104), (.bin .add (.t 98) (.t 103)), none⟩, ⟨(some 7), (.mv (.t 104)), none⟩] s h) := k_reg0
@[simp] theorem q20_36 : runF E n0 g c20_36 s h = regK (some [6, 7, 8]) (runO E n0 g h.length [⟨(some 105), (.mv (.t 7)), none⟩, ⟨(some 106), (.mv (.t 6)), none⟩, ⟨(some 107), (.mv (.t 8)), none⟩, ⟨(some 108), (.ia 1 (.t 106) (.t 107)), none⟩, ⟨(some 109), (.ld false 1 (.t 108)), none⟩, ⟨(some 110), (.bin .add (.c (.str [44, 32])) (.t 109)), none⟩, ⟨(some 111), (.bin .add (.t 105) (.t 110)), none⟩, ⟨(some 7), (.mv (.t 111)), none⟩] s h) := k_reg0
@[simp] theorem q20_37 : runF E n0 g c20_37 s h = condK E n0 g c20_35 c20_36 s h (get s 97) := k_cond
@[simp] theorem q20_38 : runF E n0 g c20_38 s h = seqK E n0 g c20_37 (runF E n0 g c20_34 s h) := k_seq
@[simp] theorem q20_39 : runF E n0 g c20_39 s h = blkK (some [6, 7, 8]) 1 (runF E n0 g c20_38 s h) := k_block
@[simp] theorem q20_40 : runF E n0 g c20_40 s h = regK (some [6, 7, 8]) (runO E n0 g h.length [⟨(some 94), (.mv (.t 8)), none⟩, ⟨(some 95), (.bin .add (.t 94) (.c (.int .i64 1))), none⟩, ⟨(some 8), (.mv (.t 95)), none⟩] s h) := k_reg0
@[simp] theorem q20_41 : runF E n0 g c20_41 s h = seqK E n0 g c20_40 (runF E n0 g c20_39 s h) := k_seq
@[simp] theorem q20_42 : runF E n0 g c20_42 s h = seqK E n0 g c20_41 (runF E n0 g c20_33 s h) := k_seq
theorem q20_43 : runF E n0 g c20_43 s h = loopK E n0 g (some [6, 7, 8]) c20_42 (runF E n0 g c20_42 (clearO (some [6, 7, 8]) s) h) := k_loop
@[simp] theorem q20_43L : runF E n0 g (.loop (some [6, 7, 8]) c20_42) s h = runF E n0 g c20_43 s h := rfl
@[simp] theorem q20_44 : runF E n0 g c20_44 s h = blkK (some [7]) 0 (runF E n0 g c20_43 s h) := k_block
@[simp] theorem q20_45 : runF E n0 g c20_45 s h = seqK E n0 g c20_44 (runF E n0 g c20_30 s h) := k_seq
@[simp] theorem q20_46 : runF E n0 g c20_46 s h = regK (some [2]) (runO E n0 g h.length [⟨(some 112), (.mv (.t 7)), none⟩, ⟨(some 2), (.mv (.t 112)), none⟩] s h) := k_reg0
@[simp] theorem q20_47 : runF E n0 g c20_47 s h = seqK E n0 g .ret (runF E n0 g c20_46 s h) := k_seq
@[simp] theorem q20_48 : runF E n0 g c20_48 s h = seqK E n0 g c20_47 (runF E n0 g c20_45 s h) := k_seq
@[simp] theorem q20_49 : runF E n0 g c20_49 s h = seqK E n0 g c20_48 (runF E n0 g c20_29 s h) := k_seq
@[simp] theorem q20_50 : runF E n0 g c20_50 s h = seqK E n0 g c20_49 (runF E n0 g c20_28 s h) := k_seq
@[simp] theorem q20_51 : runF E n0 g c20_51 s h = seqK E n0 g c20_50 (runF E n0 g c20_24 s h) := k_seq
@[simp] theorem q20_52 : runF E n0 g c20_52 s h = seqK E n0 g c20_51 (runF E n0 g c20_20 s h) := k_seq
@[simp] theorem q20_53 : runF E n0 g c20_53 s h = seqK E n0 g c20_52 (runF E n0 g c20_16 s h) := k_seq
@[simp] theorem q20_54 : runF E n0 g c20_54 s h = seqK E n0 g c20_53 (runF E n0 g c20_8 s h) := k_seq
@[simp] theorem q20_55 : runF E n0 g c20_55 s h = seqK E n0 g c20_54 (runF E n0 g c20_7 s h) := k_seq
@[simp] theorem q20_56 : runF E n0 g c20_56 s h = seqK E n0 g c20_55 (runF E n0 g c20_6 s h) := k_seq
@[simp] theorem q20_57 : runF E n0 g c20_57 s h = seqK E n0 g c20_56 (runF E n0 g c20_5 s h) := k_seq
@[simp] theorem q20_58 : runF E n0 g c20_58 s h = seqK E n0 g c20_57 (runF E n0 g c20_0 s h) := k_seq
@[simp] theorem qq20 : runF E n0 g c20 s h = runF E n0 g c20_58 s h := rfl
@[simp] theorem q21_0 : runF E n0 g c21_0 s h = regK (some [0, 1]) (runO E n0 g h.length [⟨(some 4), (.mv (.c (.int .i64 0))), none⟩] s h) := k_reg0
@[simp] theorem q21_1 : runF E n0 g c21_1 s h = regK (some [0, 1]) (runO E n0 g h.length [⟨(some 5), (.mv (.t 0)), none⟩, ⟨(some 6), (.mv (.t 1)), none⟩, ⟨(some 7), (.bin .rem (.t 5) (.t 6)), none⟩, ⟨(some 0), (.mv (.t 7)), none⟩] s h) := k_reg0
@[simp] theorem q21_2 : runF E n0 g c21_2 s h = regK (some [0, 1, 9]) (runO E n0 g h.length [⟨(some 8), (.mv (.t 0)), none⟩, ⟨(some 9), (.bin .lss (.t 8) (.c (.int .i64 0))), none⟩] s h) := k_reg0
@[simp] theorem q21_3 : runF E n0 g c21_3 s h = regK (some [0]) (runO E n0 g h.length [⟨(some 10), (.mv (.t 0)), none⟩, ⟨(some 11), (.mv (.t 1)), none⟩, ⟨(some 12), (.bin .add (.t 10) (.t 11)), none⟩, ⟨(some 0), (.mv (.t 12)), none⟩] s h) := k_reg0
@[simp] theorem q21_4 : runF E n0 g c21_4 s h = condK E n0 g c21_3 .skip s h (get s 9) := k_cond
@[simp] theorem q21_5 : runF E n0 g c21_5 s h = seqK E n0 g c21_4 (runF E n0 g c21_2 s h) := k_seq
@[simp] theorem q21_6 : runF E n0 g c21_6 s h = regK (some [4]) (runO E n0 g h.length [⟨(some 13), (.mv (.t 0)), none⟩, ⟨(some 4), (.mv (.t 13)), none⟩] s h) := k_reg0
@[simp] theorem q21_7 : runF E n0 g c21_7 s h = seqK E n0 g .ret (runF E n0 g c21_6 s h) := k_seq
@[simp] theorem q21_8 : runF E n0 g c21_8 s h = seqK E n0 g c21_7 (runF E n0 g c21_5 s h) := k_seq
@[simp] theorem q21_9 : runF E n0 g c21_9 s h = seqK E n0 g c21_8 (runF E n0 g c21_1 s h) := k_seq
@[simp] theorem q21_10 : runF E n0 g c21_10 s h = seqK E n0 g c21_9 (runF E n0 g c21_0 s h) := k_seq
@[simp] theorem qq21 : runF E n0 g c21 s h = runF E n0 g c21_10 s h := rfl
@[simp] theorem q22_0 : runF E n0 g c22_0 s h = regK (some [0, 2]) (runO E n0 g h.length [⟨(some 2), (.al 0 [(.int .i64 0), (.int .i64 0), (.int .i64 0), (.int .i64 0), (.int .i64 0)]), none⟩, ⟨(some 3), (.mv (.c (.bool false))), none⟩] s (h ++ [(.cells [(.int .i64 0), (.int .i64 0), (.int .i64 0), (.int .i64 0), (.int .i64 0)])])) := k_reg
@[simp] theorem q22_1 : runF E n0 g c22_1 s h = regK (some [0, 2, 4]) (runO E n0 g h.length [⟨(some 4), (.mv (.c (.int .i64 0))), none⟩] s h) := k_reg0
@[simp] theorem q22_2 : runF E n0 g c22_2 s h = regK (some [0, 2, 4, 23]) (runO E n0 g h.length [⟨(some 14), (.mv (.t 4)), none⟩, ⟨(some 15), (.mv (.t 0)), none⟩, ⟨(some 16), (.lens (.t 15)), none⟩, ⟨(some 17), (.bin .lss (.t 14) (.t 16)), none⟩, ⟨(some 18), (.mv (.t 17)), none⟩, ⟨(some 19), (.mv (.t 0)), (some (18, true))⟩, ⟨(some 20), (.mv (.t 4)), (some (18, true))⟩, ⟨(some 21), (.ixs (.t 19) (.t 20)), (some (18, true))⟩, ⟨(some 22), (.bin .neq (.t 21) (.c (.int .u8 32))), (some (18, true))⟩, ⟨(some 23), (.pick (.t 18) (.t 22) (.c (.bool false))), none⟩] s h) := k_reg0
@[simp] theorem q22_3 : runF E n0 g c22_3 s h = condK E n0 g .skip (.exit 0) s h (get s 23) := k_cond
@[simp] theorem q22_4 : runF E n0 g c22_4 s h = seqK E n0 g c22_3 (runF E n0 g c22_2 s h) := k_seq
@[simp] theorem q22_5 : runF E n0 g c22_5 s h = regK (some [0, 2, 4]) (runO E n0 g h.length [⟨(some 24), (.mv (.t 4)), none⟩, ⟨(some 25), (.bin .add (.t 24) (.c (.int .i64 1))), none⟩, ⟨(some 4), (.mv (.t 25)), none⟩] s h) := k_reg0
@[simp] theorem q22_6 : runF E n0 g c22_6 s h = blkK (some [0, 2, 4]) 1 (runF E n0 g c22_5 s h) := k_block
@[simp] theorem q22_7 : runF E n0 g c22_7 s h = seqK E n0 g c22_6 (runF E n0 g c22_4 s h) := k_seq
theorem q22_8 : runF E n0 g c22_8 s h = loopK E n0 g (some [0, 2, 4]) c22_7 (runF E n0 g c22_7 (clearO (some [0, 2, 4]) s) h) := k_loop
@[simp] theorem q22_8L : runF E n0 g (.loop (some [0, 2, 4]) c22_7) s h = runF E n0 g c22_8 s h := rfl
@[simp] theorem q22_9 : runF E n0 g c22_9 s h = blkK (some [0, 2, 4]) 0 (runF E n0 g c22_8 s h) := k_block
@[simp] theorem q22_10 : runF E n0 g c22_10 s h = regK (some [0, 2, 4, 5, 6]) (runO E n0 g h.length [⟨(some 27), (.mv (.t 0)), none⟩, ⟨(some 28), (.mv (.t 4)), none⟩, ⟨(some 29), (.sls (.t 27) none (some (.t 28))), none⟩, ⟨(some 30), (.call 17 [(.t 29)]), none⟩, ⟨(some 26), (.mv (.t 30)), none⟩, ⟨(some 31), (.ext (.t 26) 0), none⟩, ⟨(some 32), (.ext (.t 26) 1), none⟩, ⟨(some 5), (.mv (.t 31)), none⟩, ⟨(some 6), (.mv (.t 32)), none⟩] s h) := k_reg0
@[simp] theorem q22_11 : runF E n0 g c22_11 s h = regK (some [0, 2, 4, 5, 34]) (runO E n0 g h.length [⟨(some 33), (.mv (.t 6)), none⟩, ⟨(some 34), (.un .not (.t 33)), none⟩] s h) := k_reg0
@[simp] theorem q22_12 : runF E n0 g c22_12 s h = regK (some [2, 3]) (runO E n0 g h.length [⟨(some 35), (.bld [(.int .i64 0), (.int .i64 0), (.int .i64 0), (.int .i64 0), (.int .i64 0)] []), none⟩, ⟨none, (.st 5 (.t 2) (.t 35)), none⟩, ⟨(some 3), (.mv (.c (.bool false))), none⟩] s h) := k_reg0
@[simp] theorem q22_13 : runF E n0 g c22_13 s h = seqK E n0 g .ret (runF E n0 g c22_12 s h) := k_seq
@[simp] theorem q22_14 : runF E n0 g c22_14 s h = condK E n0 g c22_13 .skip s h (get s 34) := k_cond
@[simp] theorem q22_15 : runF E n0 g c22_15 s h = seqK E n0 g c22_14 (runF E n0 g c22_11 s h) := k_seq
@[simp] theorem q22_16 : runF E n0 g c22_16 s h = regK (some [0, 2, 4, 5, 7]) (runO E n0 g h.length [⟨(some 7), (.mv (.c (.sl .full []))), none⟩] s h) := k_reg0
@[simp] theorem q22_17 : runF E n0 g c22_17 s h = regK (some [0, 2, 4, 5, 7, 39]) (runO E n0 g h.length [⟨(some 36), (.mv (.t 4)), none⟩, ⟨(some 37), (.mv (.t 0)), none⟩, ⟨(some 38), (.lens (.t 37)), none⟩, ⟨(some 39), (.bin .lss (.t 36) (.t 38)), none⟩] s h) := k_reg0
@[simp] theorem q22_18 : runF E n0 g c22_18 s h = regK (some [0, 2, 5, 7]) (runO E n0 g h.length [⟨(some 40), (.mv (.t 0)), none⟩, ⟨(some 41), (.mv (.t 4)), none⟩, ⟨(some 42), (.bin .add (.t 41) (.c (.int .i64 1))), none⟩, ⟨(some 43), (.sls (.t 40) (some (.t 42)) none), none⟩, ⟨(some 44), (.call 40 [(.t 43)]), none⟩, ⟨(some 7), (.mv (.t 44)), none⟩] s h) := k_reg0
@[simp] theorem q22_19 : runF E n0 g c22_19 s h = condK E n0 g c22_18 .skip s h (get s 39) := k_cond
@[simp] theorem q22_20 : runF E n0 g c22_20 s h = seqK E n0 g c22_19 (runF E n0 g c22_17 s h) := k_seq
@[simp] theorem q22_21 : runF E n0 g c22_21 s h = regK (some [0, 2, 5, 7, 8]) (runO E n0 g h.length [⟨(some 8), (.mv (.c (.sl .full []))), none⟩] s h) := k_reg0
@[simp] theorem q22_22 : runF E n0 g c22_22 s h = regK (some [0, 2, 5, 7, 8, 9]) (runO E n0 g h.length [⟨(some 9), (.mv (.c (.int .i64 0))), none⟩] s h) := k_reg0
@[simp] theorem q22_23 : runF E n0 g c22_23 s h = regK (some [0, 2, 5, 7, 8, 9, 48]) (runO E n0 g h.length [⟨(some 45), (.mv (.t 9)), none⟩, ⟨(some 46), (.mv (.t 7)), none⟩, ⟨(some 47), (.len (.t 46)), none⟩, ⟨(some 48), (.bin .lss (.t 45) (.t 47)), none⟩] s h) := k_reg0
@[simp] theorem q22_24 : runF E n0 g c22_24 s h = condK E n0 g .skip (.exit 2) s h (get s 48) := k_cond
@[simp] theorem q22_25 : runF E n0 g c22_25 s h = seqK E n0 g c22_24 (runF E n0 g c22_23 s h) := k_seq
@[simp] theorem q22_26 : runF E n0 g c22_26 s h = regK (some [0, 2, 5, 7, 8, 9, 10]) (runO E n0 g h.length [⟨(some 51), (.mv (.t 7)), none⟩, ⟨(some 52), (.mv (.t 9)), none⟩, ⟨(some 53), (.ia 1 (.t 51) (.t 52)), none⟩, ⟨(some 54), (.ld false 1 (.t 53)), none⟩, ⟨(some 10), (.mv (.t 54)), none⟩] s h) := k_reg0
@[simp] theorem q22_27 : runF E n0 g c22_27 s h = regK (some [0, 2, 5, 7, 8, 9, 10, 62]) (runO E n0 g h.length [⟨(some 55), (.mv (.t 10)), none⟩, ⟨(some 56), (.lens (.t 55)), none⟩, ⟨(some 57), (.bin .gtr (.t 56) (.c (.int .i64 1))), none⟩, ⟨(some 58), (.mv (.t 57)), none⟩, ⟨(some 59), (.mv (.t 10)), (some (58, true))⟩, ⟨(some 60), (.ixs (.t 59) (.c (.int .i64 0))), (some (58, true))⟩, ⟨(some 61), (.bin .eql (.t 60) (.c (.int .u8 114))), (some (58, true))⟩, ⟨(some 62), (.pick (.t 58) (.t 61) (.c (.bool false))), none⟩] s h) := k_reg0
@[simp] theorem q22_28 : runF E n0 g c22_28 s h = regK (some [0, 2, 5, 7, 8, 9, 10]) (runO E n0 g h.length [⟨(some 63), (.mv (.t 10)), none⟩, ⟨(some 64), (.sls (.t 63) (some (.c (.int .i64 1))) none), none⟩, ⟨(some 10), (.mv (.t 64)), none⟩] s h) := k_reg0
@[simp] theorem q22_29 : runF E n0 g c22_29 s h = condK E n0 g c22_28 .skip s h (get s 62) := k_cond
@[simp] theorem q22_30 : runF E n0 g c22_30 s h = seqK E n0 g c22_29 (runF E n0 g c22_27 s h) := k_seq
@[simp] theorem q22_31 : runF E n0 g c22_31 s h = regK (some [0, 2, 5, 7, 8, 9, 11, 12]) (runO E n0 g h.length [⟨(some 66), (.mv (.t 10)), none⟩, ⟨(some 67), (.call 41 [(.t 66)]), none⟩, ⟨(some 65), (.mv (.t 67)), none⟩, ⟨(some 68), (.ext (.t 65) 0), none⟩, ⟨(some 69), (.ext (.t 65) 1), none⟩, ⟨(some 11), (.mv (.t 68)), none⟩, ⟨(some 12), (.mv (.t 69)), none⟩] s h) := k_reg0
@[simp] theorem q22_32 : runF E n0 g c22_32 s h = regK (some [0, 2, 5, 7, 8, 9, 11, 87]) (runO E n0 g h.length [⟨(some 70), (.mv (.t 12)), none⟩, ⟨(some 71), (.un .not (.t 70)), none⟩, ⟨(some 72), (.mv (.t 71)), none⟩, ⟨(some 73), (.mv (.t 11)), (some (72, false))⟩, ⟨(some 74), (.bin .lss (.t 73) (.c (.int .i64 (-4611686018427387904)))), (some (72, false))⟩, ⟨(some 75), (.mv (.t 74)), (some (72, false))⟩, ⟨(some 76), (.mv (.t 5)), (some (75, true))⟩, ⟨(some 77), (.bin .neq (.t 76) (.c (.int .i64 14))), (some (75, true))⟩, ⟨(some 78), (.pick (.t 75) (.t 77) (.c (.bool false))), (some (72, false))⟩, ⟨(some 79), (.pick (.t 72) (.c (.bool true)) (.t 78)), none⟩, ⟨(some 80), (.mv (.t 79)), none⟩, ⟨(some 81), (.mv (.t 11)), (some (80, false))⟩, ⟨(some 82), (.bin .gtr (.t 81) (.c (.int .i64 4611686018427387904))), (some (80, false))⟩, ⟨(some 83), (.mv (.t 82)), (some (80, false))⟩, ⟨(some 84), (.mv (.t 5)), (some (83, true))⟩, ⟨(some 85), (.bin .neq (.t 84) (.c (.int .i64 14))), (some (83, true))⟩, ⟨(some 86), (.pick (.t 83) (.t 85) (.c (.bool false))), (some (80, false))⟩, ⟨(some 87), (.pick (.t 80) (.c (.bool true)) (.t 86)), none⟩] s h) := k_reg0
@[simp] theorem q22_33 : runF E n0 g c22_33 s h = regK (some [2, 3]) (runO E n0 g h.length [⟨(some 88), (.bld [(.int .i64 0), (.int .i64 0), (.int .i64 0), (.int .i64 0), (.int .i64 0)] []), none⟩, ⟨none, (.st 5 (.t 2) (.t 88)), none⟩, ⟨(some 3), (.mv (.c (.bool false))), none⟩] s h) := k_reg0
@[simp] theorem q22_34 : runF E n0 g c22_34 s h = seqK E n0 g .ret (runF E n0 g c22_33 s h) := k_seq
@[simp] theorem q22_35 : runF E n0 g c22_35 s h = condK E n0 g c22_34 .skip s h (get s 87) := k_cond
@[simp] theorem q22_36 : runF E n0 g c22_36 s h = seqK E n0 g c22_35 (runF E n0 g c22_32 s h) := k_seq
@[simp] theorem q22_37 : runF E n0 g c22_37 s h = regK (some [0, 2, 5, 7, 8, 9]) (runO E n0 g h.length [⟨(some 89), (.mv (.t 8)), none⟩, ⟨(some 90), (.mv (.t 11)), none⟩, ⟨(some 91), (.bsl 1 (.int .i64 0) 1 [(0, (.t 90))]), none⟩, ⟨(some 92), (.app 0 1 8 (.t 89) (.t 91)), none⟩, ⟨(some 8), (.mv (.t 92)), none⟩] s (h ++ [.dead])) := k_reg
@[simp] theorem q22_38 : runF E n0 g c22_38 s h = seqK E n0 g c22_37 (runF E n0 g c22_36 s h) := k_seq
@[simp] theorem q22_39 : runF E n0 g c22_39 s h = seqK E n0 g c22_38 (runF E n0 g c22_31 s h) := k_seq
@[simp] theorem q22_40 : runF E n0 g c22_40 s h = seqK E n0 g c22_39 (runF E n0 g c22_30 s h) := k_seq
@[simp] theorem q22_41 : runF E n0 g c22_41 s h = seqK E n0 g c22_40 (runF E n0 g c22_26 s h) := k_seq
@[simp] theorem q22_42 : runF E n0 g c22_42 s h = blkK (some [0, 2, 5, 7, 8, 9]) 3 (runF E n0 g c22_41 s h) := k_block
@[simp] theorem q22_43 : runF E n0 g c22_43 s h = regK (some [0, 2, 5, 7, 8, 9]) (runO E n0 g h.length [⟨(some 49), (.mv (.t 9)), none⟩, ⟨(some 50), (.bin .add (.t 49) (.c (.int .i64 1))), none⟩, ⟨(some 9), (.mv (.t 50)), none⟩] s h) := k_reg0
@[simp] theorem q22_44 : runF E n0 g c22_44 s h = seqK E n0 g c22_43 (runF E n0 g c22_42 s h) := k_seq
@[simp] theorem q22_45 : runF E n0 g c22_45 s h = seqK E n0 g c22_44 (runF E n0 g c22_25 s h) := k_seq
theorem q22_46 : runF E n0 g c22_46 s h = loopK E n0 g (some [0, 2, 5, 7, 8, 9]) c22_45 (runF E n0 g c22_45 (clearO (some [0, 2, 5, 7, 8, 9]) s) h) := k_loop
@[simp] theorem q22_46L : runF E n0 g (.loop (some [0, 2, 5, 7, 8, 9]) c22_45) s h = runF E n0 g c22_46 s h := rfl
@[simp] theorem q22_47 : runF E n0 g c22_47 s h = blkK (some [0, 2, 5, 8]) 2 (runF E n0 g c22_46 s h) := k_block
@[simp] theorem q22_48 : runF E n0 g c22_48 s h = seqK E n0 g c22_47 (runF E n0 g c22_22 s h) := k_seq
@[simp] theorem q22_49 : runF E n0 g c22_49 s h = regK (some [0, 2, 5, 8, 95]) (runO E n0 g h.length [⟨(some 93), (.mv (.t 8)), none⟩, ⟨(some 94), (.len (.t 93)), none⟩, ⟨(some 95), (.bin .lss (.t 94) (.c (.int .i64 4))), none⟩] s h) := k_reg0
@[simp] theorem q22_50 : runF E n0 g c22_50 s h = condK E n0 g .skip (.exit 4) s h (get s 95) := k_cond
@[simp] theorem q22_51 : runF E n0 g c22_51 s h = seqK E n0 g c22_50 (runF E n0 g c22_49 s h) := k_seq
@[simp] theorem q22_52 : runF E n0 g c22_52 s h = regK (some [0, 2, 5, 8]) (runO E n0 g h.length [⟨(some 96), (.mv (.t 8)), none⟩, ⟨(some 97), (.bsl 1 (.int .i64 0) 1 [(0, (.c (.int .i64 0)))]), none⟩, ⟨(some 98), (.app 0 1 8 (.t 96) (.t 97)), none⟩, ⟨(some 8), (.mv (.t 98)), none⟩] s (h ++ [.dead])) := k_reg
@[simp] theorem q22_53 : runF E n0 g c22_53 s h = blkK (some [0, 2, 5, 8]) 5 (runF E n0 g c22_52 s h) := k_block
@[simp] theorem q22_54 : runF E n0 g c22_54 s h = seqK E n0 g c22_53 (runF E n0 g c22_51 s h) := k_seq
theorem q22_55 : runF E n0 g c22_55 s h = loopK E n0 g (some [0, 2, 5, 8]) c22_54 (runF E n0 g c22_54 (clearO (some [0, 2, 5, 8]) s) h) := k_loop
@[simp] theorem q22_55L : runF E n0 g (.loop (some [0, 2, 5, 8]) c22_54) s h = runF E n0 g c22_55 s h := rfl
@[simp] theorem q22_56 : runF E n0 g c22_56 s h = blkK (some [0, 2, 5, 8]) 4 (runF E n0 g c22_55 s h) := k_block
@[simp] theorem q22_57 : runF E n0 g c22_57 s h = regK (some [0, 2, 5, 8, 13]) (runO E n0 g h.length [⟨(some 99), (.mv (.t 5)), none⟩, ⟨(some 100), (.bld [(.int .i64 0), (.int .i64 0), (.int .i64 0), (.int .i64 0), (.int .i64 0)] [(0, (1, (.t 99)))]), none⟩, ⟨(some 13), (.al 0 [(.int .i64 0), (.int .i64 0), (.int .i64 0), (.int .i64 0), (.int .i64 0)]), none⟩, ⟨none, (.st 5 (.t 13) (.t 100)), none⟩] s (h ++ [(.cells [(.int .i64 0), (.int .i64 0), (.int .i64 0), (.int .i64 0), (.int .i64 0)])])) := k_reg
@[simp] theorem q22_58 : runF E n0 g c22_58 s h = regK (some [0, 2, 8, 13, 102]) (runO E n0 g h.length [⟨(some 101), (.mv (.t 5)), none⟩, ⟨(some 102), (.call 34 [(.t 101)]), none⟩] s h) := k_reg0
@[simp] theorem q22_59 : runF E n0 g c22_59 s h = regK (some [0, 2, 8, 13, 102, 103]) (runO E n0 g h.length [⟨(some 104), (.bin .eql (.t 102) (.c (.int .i64 2))), none⟩, ⟨(some 103), (.mv (.t 104)), none⟩] s h) := k_reg0
@[simp] theorem q22_60 : runF E n0 g c22_60 s h = regK (some [0, 2, 13]) (runO E n0 g h.length [⟨(some 105), (.mv (.t 8)), none⟩, ⟨(some 106), (.ia 1 (.t 105) (.c (.int .i64 0))), none⟩, ⟨(some 107), (.ld false 1 (.t 106)), none⟩, ⟨(some 108), (.fa 1 (.t 13)), none⟩, ⟨none, (.st 1 (.t 108) (.t 107)), none⟩] s h) := k_reg0
@[simp] theorem q22_61 : runF E n0 g c22_61 s h = regK (some [0, 2, 8, 13, 102, 109]) (runO E n0 g h.length [⟨(some 110), (.bin .eql (.t 102) (.c (.int .i64 3))), none⟩, ⟨(some 109), (.mv (.t 110)), none⟩] s h) := k_reg0
@[simp] theorem q22_62 : runF E n0 g c22_62 s h = regT (some [0, 2, 13]) [(5, [7])] (runTr E n0 g h.length [⟨(some 111), (.mv (.t 8)), none⟩, ⟨(some 112), (.ia 1 (.t 111) (.c (.int .i64 0))), none⟩, ⟨(some 113), (.ld false 1 (.t 112)), none⟩, ⟨(some 114), (.mv (.t 8)), none⟩, ⟨(some 115), (.ia 1 (.t 114) (.c (.int .i64 1))), none⟩, ⟨(some 116), (.ld false 1 (.t 115)), none⟩, ⟨(some 117), (.fa 1 (.t 13)), none⟩, ⟨none, (.st 1 (.t 117) (.t 113)), none⟩, ⟨(some 118), (.fa 2 (.t 13)), none⟩, ⟨none, (.st 1 (.t 118) (.t 116)), none⟩] s h []) := by rw [show c22_62 = .reg (some [0, 2, 13]) [] [⟨(some 111), (.mv (.t 8)), none⟩, ⟨(some 112), (.ia 1 (.t 111) (.c (.int .i64 0))), none⟩, ⟨(some 113), (.ld false 1 (.t 112)), none⟩, ⟨(some 114), (.mv (.t 8)), none⟩, ⟨(some 115), (.ia 1 (.t 114) (.c (.int .i64 1))), none⟩, ⟨(some 116), (.ld false 1 (.t 115)), none⟩, ⟨(some 117), (.fa 1 (.t 13)), none⟩, ⟨none, (.st 1 (.t 117) (.t 113)), none⟩, ⟨(some 118), (.fa 2 (.t 13)), none⟩, ⟨none, (.st 1 (.t 118) (.t 116)), none⟩] (some [(5, [7])]) from rfl, k_regd, List.append_nil]
@[simp] theorem q22_63 : runF E n0 g c22_63 s h = regK (some [0, 2, 8, 13, 102, 119]) (runO E n0 g h.length [⟨(some 120), (.bin .eql (.t 102) (.c (.int .i64 4))), none⟩, ⟨(some 119), (.mv (.t 120)), none⟩] s h) := k_reg0
@[simp] theorem q22_64 : runF E n0 g c22_64 s h = regT (some [0, 2, 13]) [(5, [10]), (8, [10, 12])] (runTr E n0 g h.length [⟨(some 121), (.mv (.t 8)), none⟩, ⟨(some 122), (.ia 1 (.t 121) (.c (.int .i64 0))), none⟩, ⟨(some 123), (.ld false 1 (.t 122)), none⟩, ⟨(some 124), (.mv (.t 8)), none⟩, ⟨(some 125), (.ia 1 (.t 124) (.c (.int .i64 1))), none⟩, ⟨(some 126), (.ld false 1 (.t 125)), none⟩, ⟨(some 127), (.mv (.t 8)), none⟩, ⟨(some 128), (.ia 1 (.t 127) (.c (.int .i64 2))), none⟩, ⟨(some 129), (.ld false 1 (.t 128)), none⟩, ⟨(some 130), (.fa 1 (.t 13)), none⟩, ⟨none, (.st 1 (.t 130) (.t 123)), none⟩, ⟨(some 131), (.fa 2 (.t 13)), none⟩, ⟨none, (.st 1 (.t 131) (.t 126)), none⟩, ⟨(some 132), (.fa 3 (.t 13)), none⟩, ⟨none, (.st 1 (.t 132) (.t 129)), none⟩] s h []) := by rw [show c22_64 = .reg (some [0, 2, 13]) [] [⟨(some 121), (.mv (.t 8)), none⟩, ⟨(some 122), (.ia 1 (.t 121) (.c (.int .i64 0))), none⟩, ⟨(some 123), (.ld false 1 (.t 122)), none⟩, ⟨(some 124), (.mv (.t 8)), none⟩, ⟨(some 125), (.ia 1 (.t 124) (.c (.int .i64 1))), none⟩, ⟨(some 126), (.ld false 1 (.t 125)), none⟩, ⟨(some 127), (.mv (.t 8)), none⟩, ⟨(some 128), (.ia 1 (.t 127) (.c (.int .i64 2))), none⟩, ⟨(some 129), (.ld false 1 (.t 128)), none⟩, ⟨(some 130), (.fa 1 (.t 13)), none⟩, ⟨none, (.st 1 (.t 130) (.t 123)), none⟩, ⟨(some 131), (.fa 2 (.t 13)), none⟩, ⟨none, (.st 1 (.t 131) (.t 126)), none⟩, ⟨(some 132), (.fa 3 (.t 13)), none⟩, ⟨none, (.st 1 (.t 132) (.t 129)), none⟩] (some [(5, [10]), (8, [10, 12])]) from rfl, k_regd, List.append_nil]
@[simp] theorem q22_65 : runF E n0 g c22_65 s h = regK (some [0, 2, 8, 13, 102, 133]) (runO E n0 g h.length [⟨(some 134), (.bin .eql (.t 102) (.c (.int .i64 5))), none⟩, ⟨(some 133), (.mv (.t 134)), none⟩] s h) := k_reg0
@[simp] theorem q22_66 : runF E n0 g c22_66 s h = regK (some [0, 2, 8, 13, 102, 133]) (runO E n0 g h.length [⟨(some 135), (.bin .eql (.t 102) (.c (.int .i64 6))), none⟩, ⟨(some 133), (.mv (.t 135)), none⟩] s h) := k_reg0
@[simp] theorem q22_67 : runF E n0 g c22_67 s h = condK E n0 g .skip c22_66 s h (get s 133) := k_cond
@[simp] theorem q22_68 : runF E n0 g c22_68 s h = seqK E n0 g c22_67 (runF E n0 g c22_65 s h) := k_seq
@[simp] theorem q22_69 : runF E n0 g c22_69 s h = regT (some [0, 2, 13]) [(5, [7])] (runTr E n0 g h.length [⟨(some 136), (.mv (.t 8)), none⟩, ⟨(some 137), (.ia 1 (.t 136) (.c (.int .i64 0))), none⟩, ⟨(some 138), (.ld false 1 (.t 137)), none⟩, ⟨(some 139), (.mv (.t 8)), none⟩, ⟨(some 140), (.ia 1 (.t 139) (.c (.int .i64 1))), none⟩, ⟨(some 141), (.ld false 1 (.t 140)), none⟩, ⟨(some 142), (.fa 1 (.t 13)), none⟩, ⟨none, (.st 1 (.t 142) (.t 138)), none⟩, ⟨(some 143), (.fa 4 (.t 13)), none⟩, ⟨none, (.st 1 (.t 143) (.t 141)), none⟩] s h []) := by rw [show c22_69 = .reg (some [0, 2, 13]) [] [⟨(some 136), (.mv (.t 8)), none⟩, ⟨(some 137), (.ia 1 (.t 136) (.c (.int .i64 0))), none⟩, ⟨(some 138), (.ld false 1 (.t 137)), none⟩, ⟨(some 139), (.mv (.t 8)), none⟩, ⟨(some 140), (.ia 1 (.t 139) (.c (.int .i64 1))), none⟩, ⟨(some 141), (.ld false 1 (.t 140)), none⟩, ⟨(some 142), (.fa 1 (.t 13)), none⟩, ⟨none, (.st 1 (.t 142) (.t 138)), none⟩, ⟨(some 143), (.fa 4 (.t 13)), none⟩, ⟨none, (.st 1 (.t 143) (.t 141)), none⟩] (some [(5, [7])]) from rfl, k_regd, List.append_nil]
@[simp] theorem q22_70 : runF E n0 g c22_70 s h = regK (some [0, 2, 8, 13, 102, 144]) (runO E n0 g h.length [⟨(some 145), (.bin .eql (.t 102) (.c (.int .i64 7))), none⟩, ⟨(some 144), (.mv (.t 145)), none⟩] s h) := k_reg0
@[simp] theorem q22_71 : runF E n0 g c22_71 s h = regT (some [0, 2, 13]) [(5, [10]), (8, [10, 12])] (runTr E n0 g h.length [⟨(some 146), (.mv (.t 8)), none⟩, ⟨(some 147), (.ia 1 (.t 146) (.c (.int .i64 0))), none⟩, ⟨(some 148), (.ld false 1 (.t 147)), none⟩, ⟨(some 149), (.mv (.t 8)), none⟩, ⟨(some 150), (.ia 1 (.t 149) (.c (.int .i64 1))), none⟩, ⟨(some 151), (.ld false 1 (.t 150)), none⟩, ⟨(some 152), (.mv (.t 8)), none⟩, ⟨(some 153), (.ia 1 (.t 152) (.c (.int .i64 2))), none⟩, ⟨(some 154), (.ld false 1 (.t 153)), none⟩, ⟨(some 155), (.fa 1 (.t 13)), none⟩, ⟨none, (.st 1 (.t 155) (.t 148)), none⟩, ⟨(some 156), (.fa 2 (.t 13)), none⟩, ⟨none, (.st 1 (.t 156) (.t 151)), none⟩, ⟨(some 157), (.fa 4 (.t 13)), none⟩, ⟨none, (.st 1 (.t 157) (.t 154)), none⟩] s h []) := by rw [show c22_71 = .reg (some [0, 2, 13]) [] [⟨(some 146), (.mv (.t 8)), none⟩, ⟨(some 147), (.ia 1 (.t 146) (.c (.int .i64 0))), none⟩, ⟨(some 148), (.ld false 1 (.t 147)), none⟩, ⟨(some 149), (.mv (.t 8)), none⟩, ⟨(some 150), (.ia 1 (.t 149) (.c (.int .i64 1))), none⟩, ⟨(some 151), (.ld false 1 (.t 150)), none⟩, ⟨(some 152), (.mv (.t 8)), none⟩, ⟨(some 153), (.ia 1 (.t 152) (.c (.int .i64 2))), none⟩, ⟨(some 154), (.ld false 1 (.t 153)), none⟩, ⟨(some 155), (.fa 1 (.t 13)), none⟩, ⟨none, (.st 1 (.t 155) (.t 148)), none⟩, ⟨(some 156), (.fa 2 (.t 13)), none⟩, ⟨none, (.st 1 (.t 156) (.t 151)), none⟩, ⟨(some 157), (.fa 4 (.t 13)), none⟩, ⟨none, (.st 1 (.t 157) (.t 154)), none⟩] (some [(5, [10]), (8, [10, 12])]) from rfl, k_regd, List.append_nil]
@[simp] theorem q22_72 : runF E n0 g c22_72 s h = regK (some [0, 2, 8, 13, 158]) (runO E n0 g h.length [⟨(some 159), (.bin .eql (.t 102) (.c (.int .i64 8))), none⟩, ⟨(some 158), (.mv (.t 159)), none⟩] s h) := k_reg0
@[simp] theorem q22_73 : runF E n0 g c22_73 s h = regK (some [0, 2, 13]) (runO E n0 g h.length [⟨(some 160), (.mv (.t 8)), none⟩, ⟨(some 161), (.ia 1 (.t 160) (.c (.int .i64 0))), none⟩, ⟨(some 162), (.ld false 1 (.t 161)), none⟩, ⟨(some 163), (.fa 4 (.t 13)), none⟩, ⟨none, (.st 1 (.t 163) (.t 162)), none⟩] s h) := k_reg0
@[simp] theorem q22_74 : runF E n0 g c22_74 s h = condK E n0 g c22_73 .skip s h (get s 158) := k_cond
@[simp] theorem q22_75 : runF E n0 g c22_75 s h = seqK E n0 g c22_74 (runF E n0 g c22_72 s h) := k_seq
@[simp] theorem q22_76 : runF E n0 g c22_76 s h = condK E n0 g c22_71 c22_75 s h (get s 144) := k_cond
@[simp] theorem q22_77 : runF E n0 g c22_77 s h = seqK E n0 g c22_76 (runF E n0 g c22_70 s h) := k_seq
@[simp] theorem q22_78 : runF E n0 g c22_78 s h = condK E n0 g c22_69 c22_77 s h (get s 133) := k_cond
@[simp] theorem q22_79 : runF E n0 g c22_79 s h = seqK E n0 g (.seq c22_67 c22_78) (runF E n0 g c22_65 s h) := k_assoc
@[simp] theorem q22_79a : runF E n0 g (.seq c22_67 c22_78) s h = condK E n0 g c22_69 (.seq c22_66 c22_78) s h (get s 133) := k_or
@[simp] theorem q22_79ab : runF E n0 g (.seq c22_66 c22_78) s h = seqK E n0 g c22_78 (runF E n0 g c22_66 s h) := k_seq
@[simp] theorem q22_80 : runF E n0 g c22_80 s h = condK E n0 g c22_64 c22_79 s h (get s 119) := k_cond
@[simp] theorem q22_81 : runF E n0 g c22_81 s h = seqK E n0 g c22_80 (runF E n0 g c22_63 s h) := k_seq
@[simp] theorem q22_82 : runF E n0 g c22_82 s h = condK E n0 g c22_62 c22_81 s h (get s 109) := k_cond
@[simp] theorem q22_83 : runF E n0 g c22_83 s h = seqK E n0 g c22_82 (runF E n0 g c22_61 s h) := k_seq
@[simp] theorem q22_84 : runF E n0 g c22_84 s h = condK E n0 g c22_60 c22_83 s h (get s 103) := k_cond
@[simp] theorem q22_85 : runF E n0 g c22_85 s h = seqK E n0 g c22_84 (runF E n0 g c22_59 s h) := k_seq
@[simp] theorem q22_86 : runF E n0 g c22_86 s h = blkK (some [0, 2, 13]) 6 (runF E n0 g c22_85 s h) := k_block
@[simp] theorem q22_87 : runF E n0 g c22_87 s h = seqK E n0 g c22_86 (runF E n0 g c22_58 s h) := k_seq
@[simp] theorem q22_88 : runF E n0 g c22_88 s h = regK (some [2, 13, 172]) (runO E n0 g h.length [⟨(some 164), (.ld true 5 (.t 13)), none⟩, ⟨(some 165), (.call 26 [(.t 164)]), none⟩, ⟨(some 166), (.un .not (.t 165)), none⟩, ⟨(some 167), (.mv (.t 166)), none⟩, ⟨(some 168), (.ld true 5 (.t 13)), (some (167, false))⟩, ⟨(some 169), (.call 20 [(.t 168)]), (some (167, false))⟩, ⟨(some 170), (.mv (.t 0)), (some (167, false))⟩, ⟨(some 171), (.bin .neq (.t 169) (.t 170)), (some (167, false))⟩, ⟨(some 172), (.pick (.t 167) (.c (.bool true)) (.t 171)), none⟩] s h) := k_reg0
@[simp] theorem q22_89 : runF E n0 g c22_89 s h = regK (some [2, 3]) (runO E n0 g h.length [⟨(some 173), (.bld [(.int .i64 0), (.int .i64 0), (.int .i64 0), (.int .i64 0), (.int .i64 0)] []), none⟩, ⟨none, (.st 5 (.t 2) (.t 173)), none⟩, ⟨(some 3), (.mv (.c (.bool false))), none⟩] s h) := k_reg0
@[simp] theorem q22_90 : runF E n0 g c22_90 s h = seqK E n0 g .ret (runF E n0 g c22_89 s h) := k_seq
@[simp] theorem q22_91 : runF E n0 g c22_91 s h = condK E n0 g c22_90 .skip s h (get s 172) := k_cond
@[simp] theorem q22_92 : runF E n0 g c22_92 s h = seqK E n0 g c22_91 (runF E n0 g c22_88 s h) := k_seq
@[simp] theorem q22_93 : runF E n0 g c22_93 s h = regK (some [2, 3]) (runO E n0 g h.length [⟨(some 174), (.ld true 5 (.t 13)), none⟩, ⟨none, (.st 5 (.t 2) (.t 174)), none⟩, ⟨(some 3), (.mv (.c (.bool true))), none⟩] s h) := k_reg0
@[simp] theorem q22_94 : runF E n0 g c22_94 s h = seqK E n0 g .ret (runF E n0 g c22_93 s h) := k_seq
@[simp] theorem q22_95 : runF E n0 g c22_95 s h = seqK E n0 g c22_94 (runF E n0 g c22_92 s h) := k_seq
@[simp] theorem q22_96 : runF E n0 g c22_96 s h = seqK E n0 g c22_95 (runF E n0 g c22_87 s h) := k_seq
@[simp] theorem q22_97 : runF E n0 g c22_97 s h = seqK E n0 g c22_96 (runF E n0 g c22_57 s h) := k_seq
@[simp] theorem q22_98 : runF E n0 g c22_98 s h = seqK E n0 g c22_97 (runF E n0 g c22_56 s h) := k_seq
@[simp] theorem q22_99 : runF E n0 g c22_99 s h = seqK E n0 g c22_98 (runF E n0 g c22_48 s h) := k_seq
@[simp] theorem q22_100 : runF E n0 g c22_100 s h = seqK E n0 g c22_99 (runF E n0 g c22_21 s h) := k_seq
@[simp] theorem q22_101 : runF E n0 g c22_101 s h = seqK E n0 g c22_100 (runF E n0 g c22_20 s h) := k_seq
@[simp] theorem q22_102 : runF E n0 g c22_102 s h = seqK E n0 g c22_101 (runF E n0 g c22_16 s h) := k_seq
@[simp] theorem q22_103 : runF E n0 g c22_103 s h = seqK E n0 g c22_102 (runF E n0 g c22_15 s h) := k_seq
@[simp] theorem q22_104 : runF E n0 g c22_104 s h = seqK E n0 g c22_103 (runF E n0 g c22_10 s h) := k_seq
@[simp] theorem q22_105 : runF E n0 g c22_105 s h = seqK E n0 g c22_104 (runF E n0 g c22_9 s h) := k_seq
@[simp] theorem q22_106 : runF E n0 g c22_106 s h = seqK E n0 g c22_105 (runF E n0 g c22_1 s h) := k_seq
@[simp] theorem q22_107 : runF E n0 g c22_107 s h = seqK E n0 g c22_106 (runF E n0 g c22_0 s h) := k_seq
@[simp] theorem qq22 : runF E n0 g c22 s h = runF E n0 g c22_107 s h := rfl
@[simp] theorem q23_0 : runF E n0 g c23_0 s h = regK (some [1]) (runO E n0 g h.length [⟨(some 1), (.bx 0 (.t 0)), none⟩, ⟨(some 2), (.mv (.c (.bool false))), none⟩] s (h ++ [.dead])) := k_reg
@[simp] theorem q23_1 : runF E n0 g c23_1 s h = regK (some [1, 3, 4]) (runO E n0 g h.length [⟨(some 13), (.fa 0 (.t 1)), none⟩, ⟨(some 14), (.ld false 1 (.t 13)), none⟩, ⟨(some 15), (.call 9 [(.t 14)]), none⟩, ⟨(some 12), (.mv (.t 15)), none⟩, ⟨(some 16), (.ext (.t 12) 0), none⟩, ⟨(some 17), (.ext (.t 12) 1), none⟩, ⟨(some 3), (.al 0 [(.str []), (.int .i64 0), (.bool false), (.bool false), (.bool false), (.bool false), (.int .i64 0)]), none⟩, ⟨none, (.st 7 (.t 3) (.t 16)), none⟩, ⟨(some 4), (.mv (.t 17)), none⟩] s (h ++ [(.cells [(.str []), (.int .i64 0), (.bool false), (.bool false), (.bool false), (.bool false), (.int .i64 0)])])) := k_reg
@[simp] theorem q23_2 : runF E n0 g c23_2 s h = regK (some [1, 3, 19]) (runO E n0 g h.length [⟨(some 18), (.mv (.t 4)), none⟩, ⟨(some 19), (.un .not (.t 18)), none⟩] s h) := k_reg0
@[simp] theorem q23_3 : runF E n0 g c23_3 s h = regK (some [2]) (runO E n0 g h.length [⟨(some 2), (.mv (.c (.bool false))), none⟩] s h) := k_reg0
@[simp] theorem q23_4 : runF E n0 g c23_4 s h = seqK E n0 g .ret (runF E n0 g c23_3 s h) := k_seq
@[simp] theorem q23_5 : runF E n0 g c23_5 s h = condK E n0 g c23_4 .skip s h (get s 19) := k_cond
@[simp] theorem q23_6 : runF E n0 g c23_6 s h = seqK E n0 g c23_5 (runF E n0 g c23_2 s h) := k_seq
@[simp] theorem q23_7 : runF E n0 g c23_7 s h = regK (some [1, 5, 6, 7, 8]) (runO E n0 g h.length [⟨(some 21), (.fa 1 (.t 3)), none⟩, ⟨(some 22), (.ld false 1 (.t 21)), none⟩, ⟨(some 23), (.call 30 [(.t 22)]), none⟩, ⟨(some 20), (.mv (.t 23)), none⟩, ⟨(some 24), (.ext (.t 20) 0), none⟩, ⟨(some 25), (.ext (.t 20) 1), none⟩, ⟨(some 26), (.ext (.t 20) 2), none⟩, ⟨(some 27), (.ext (.t 20) 3), none⟩, ⟨(some 5), (.mv (.t 24)), none⟩, ⟨(some 6), (.mv (.t 25)), none⟩, ⟨(some 7), (.mv (.t 26)), none⟩, ⟨(some 8), (.mv (.t 27)), none⟩] s h) := k_reg0
@[simp] theorem q23_8 : runF E n0 g c23_8 s h = regK (some [1, 8, 61]) (runO E n0 g h.length [⟨(some 28), (.mv (.t 5)), none⟩, ⟨(some 29), (.un .not (.t 28)), none⟩, ⟨(some 30), (.mv (.t 29)), none⟩, ⟨(some 31), (.fa 1 (.t 1)), (some (30, true))⟩, ⟨(some 32), (.ld false 1 (.t 31)), (some (30, true))⟩, ⟨(some 33), (.bin .neq (.t 32) (.c (.int .i64 0))), (some (30, true))⟩, ⟨(some 34), (.pick (.t 30) (.t 33) (.c (.bool false))), none⟩, ⟨(some 35), (.mv (.t 34)), none⟩, ⟨(some 36), (.mv (.t 6)), (some (35, false))⟩, ⟨(some 37), (.un .not (.t 36)), (some (35, false))⟩, ⟨(some 38), (.mv (.t 37)), (some (35, false))⟩, ⟨(some 39), (.fa 2 (.t 1)), (some (38, true))⟩, ⟨(some 40), (.ld false 1 (.t 39)), (some (38, true))⟩, ⟨(some 41), (.bin .neq (.t 40) (.c (.int .i64 0))), (some (38, true))⟩, ⟨(some 42), (.pick (.t 38) (.t 41) (.c (.bool false))), (some (35, false))⟩, ⟨(some 43), (.pick (.t 35) (.c (.bool true)) (.t 42)), none⟩, ⟨(some 44), (.mv (.t 43)), none⟩, ⟨(some 45), (.mv (.t 7)), (some (44, false))⟩, ⟨(some 46), (.un .not (.t 45)), (some (44, false))⟩, ⟨(some 47), (.mv (.t 46)), (some (44, false))⟩, ⟨(some 48), (.fa 3 (.t 1)), (some (47, true))⟩, ⟨(some 49), (.ld false 1 (.t 48)), (some (47, true))⟩, ⟨(some 50), (.bin .neq (.t 49) (.c (.int .i64 0))), (some (47, true))⟩, ⟨(some 51), (.pick (.t 47) (.t 50) (.c (.bool false))), (some (44, false))⟩, ⟨(some 52), (.pick (.t 44) (.c (.bool true)) (.t 51)), none⟩, ⟨(some 53), (.mv (.t 52)), none⟩, ⟨(some 54), (.mv (.t 8)), (some (53, false))⟩, ⟨(some 55), (.un .not (.t 54)), (some (53, false))⟩, ⟨(some 56), (.mv (.t 55)), (some (53, false))⟩, ⟨(some 57), (.fa 4 (.t 1)), (some (56, true))⟩, ⟨(some 58), (.ld false 1 (.t 57)), (some (56, true))⟩, ⟨(some 59), (.bin .neq (.t 58) (.c (.int .i64 0))), (some (56, true))⟩, ⟨(some 60), (.pick (.t 56) (.t 59) (.c (.bool false))), (some (53, false))⟩, ⟨(some 61), (.pick (.t 53) (.c (.bool true)) (.t 60)), none⟩] s h) := k_reg0
@[simp] theorem q23_9 : runF E n0 g c23_9 s h = regK (some [2]) (runO E n0 g h.length [⟨(some 2), (.mv (.c (.bool false))), none⟩] s h) := k_reg0
@[simp] theorem q23_10 : runF E n0 g c23_10 s h = seqK E n0 g .ret (runF E n0 g c23_9 s h) := k_seq
@[simp] theorem q23_11 : runF E n0 g c23_11 s h = condK E n0 g c23_10 .skip s h (get s 61) := k_cond
@[simp] theorem q23_12 : runF E n0 g c23_12 s h = seqK E n0 g c23_11 (runF E n0 g c23_8 s h) := k_seq
@[simp] theorem q23_13 : runF E n0 g c23_13 s h = regK (some [1, 8, 9]) (runO E n0 g h.length [⟨(some 9), (.mv (.c (.int .i64 7))), none⟩] s h) := k_reg0
@[simp] theorem q23_14 : runF E n0 g c23_14 s h = regK (some [1, 8, 9, 64]) (runO E n0 g h.length [⟨(some 62), (.fa 0 (.t 1)), none⟩, ⟨(some 63), (.ld false 1 (.t 62)), none⟩, ⟨(some 64), (.bin .eql (.t 63) (.c (.int .i64 6))), none⟩] s h) := k_reg0
@[simp] theorem q23_15 : runF E n0 g c23_15 s h = regK (some [1, 8, 9]) (runO E n0 g h.length [⟨(some 9), (.mv (.c (.int .i64 6))), none⟩] s h) := k_reg0
@[simp] theorem q23_16 : runF E n0 g c23_16 s h = condK E n0 g c23_15 .skip s h (get s 64) := k_cond
@[simp] theorem q23_17 : runF E n0 g c23_17 s h = seqK E n0 g c23_16 (runF E n0 g c23_14 s h) := k_seq
@[simp] theorem q23_18 : runF E n0 g c23_18 s h = regK (some [1, 8, 93]) (runO E n0 g h.length [⟨(some 65), (.fa 1 (.t 1)), none⟩, ⟨(some 66), (.ld false 1 (.t 65)), none⟩, ⟨(some 67), (.bin .lss (.t 66) (.c (.int .i64 0))), none⟩, ⟨(some 68), (.mv (.t 67)), none⟩, ⟨(some 69), (.fa 1 (.t 1)), (some (68, false))⟩, ⟨(some 70), (.ld false 1 (.t 69)), (some (68, false))⟩, ⟨(some 71), (.mv (.t 9)), (some (68, false))⟩, ⟨(some 72), (.bin .gtr (.t 70) (.t 71)), (some (68, false))⟩, ⟨(some 73), (.pick (.t 68) (.c (.bool true)) (.t 72)), none⟩, ⟨(some 74), (.mv (.t 73)), none⟩, ⟨(some 75), (.fa 2 (.t 1)), (some (74, false))⟩, ⟨(some 76), (.ld false 1 (.t 75)), (some (74, false))⟩, ⟨(some 77), (.bin .lss (.t 76) (.c (.int .i64 0))), (some (74, false))⟩, ⟨(some 78), (.pick (.t 74) (.c (.bool true)) (.t 77)), none⟩, ⟨(some 79), (.mv (.t 78)), none⟩, ⟨(some 80), (.fa 2 (.t 1)), (some (79, false))⟩, ⟨(some 81), (.ld false 1 (.t 80)), (some (79, false))⟩, ⟨(some 82), (.bin .geq (.t 81) (.c (.int .i64 8))), (some (79, false))⟩, ⟨(some 83), (.pick (.t 79) (.c (.bool true)) (.t 82)), none⟩, ⟨(some 84), (.mv (.t 83)), none⟩, ⟨(some 85), (.fa 3 (.t 1)), (some (84, false))⟩, ⟨(some 86), (.ld false 1 (.t 85)), (some (84, false))⟩, ⟨(some 87), (.bin .lss (.t 86) (.c (.int .i64 0))), (some (84, false))⟩, ⟨(some 88), (.pick (.t 84) (.c (.bool true)) (.t 87)), none⟩, ⟨(some 89), (.mv (.t 88)), none⟩, ⟨(some 90), (.fa 3 (.t 1)), (some (89, false))⟩, ⟨(some 91), (.ld false 1 (.t 90)), (some (89, false))⟩, ⟨(some 92), (.bin .geq (.t 91) (.c (.int .i64 8))), (some (89, false))⟩, ⟨(some 93), (.pick (.t 89) (.c (.bool true)) (.t 92)), none⟩] s h) := k_reg0
@[simp] theorem q23_19 : runF E n0 g c23_19 s h = regK (some [2]) (runO E n0 g h.length [⟨(some 2), (.mv (.c (.bool false))), none⟩] s h) := k_reg0
@[simp] theorem q23_20 : runF E n0 g c23_20 s h = seqK E n0 g .ret (runF E n0 g c23_19 s h) := k_seq
@[simp] theorem q23_21 : runF E n0 g c23_21 s h = condK E n0 g c23_20 .skip s h (get s 93) := k_cond
@[simp] theorem q23_22 : runF E n0 g c23_22 s h = seqK E n0 g c23_21 (runF E n0 g c23_18 s h) := k_seq
@[simp] theorem q23_23 : runF E n0 g c23_23 s h = regK (some [1, 8, 10, 11]) (runO E n0 g h.length [⟨(some 95), (.fa 0 (.t 1)), none⟩, ⟨(some 96), (.ld false 1 (.t 95)), none⟩, ⟨(some 97), (.call 42 [(.t 96)]), none⟩, ⟨(some 94), (.mv (.t 97)), none⟩, ⟨(some 98), (.ext (.t 94) 0), none⟩, ⟨(some 99), (.ext (.t 94) 1), none⟩, ⟨(some 10), (.mv (.t 98)), none⟩, ⟨(some 11), (.mv (.t 99)), none⟩] s h) := k_reg0
@[simp] theorem q23_24 : runF E n0 g c23_24 s h = regK (some [2]) (runO E n0 g h.length [⟨(some 100), (.mv (.t 8)), none⟩, ⟨(some 101), (.un .not (.t 100)), none⟩, ⟨(some 102), (.mv (.t 101)), none⟩, ⟨(some 103), (.fa 4 (.t 1)), (some (102, false))⟩, ⟨(some 104), (.ld false 1 (.t 103)), (some (102, false))⟩, ⟨(some 105), (.mv (.t 10)), (some (102, false))⟩, ⟨(some 106), (.bin .geq (.t 104) (.t 105)), (some (102, false))⟩, ⟨(some 107), (.mv (.t 106)), (some (102, false))⟩, ⟨(some 108), (.fa 4 (.t 1)), (some (107, true))⟩, ⟨(some 109), (.ld false 1 (.t 108)), (some (107, true))⟩, ⟨(some 110), (.mv (.t 11)), (some (107, true))⟩, ⟨(some 111), (.bin .leq (.t 109) (.t 110)), (some (107, true))⟩, ⟨(some 112), (.pick (.t 107) (.t 111) (.c (.bool false))), (some (102, false))⟩, ⟨(some 113), (.pick (.t 102) (.c (.bool true)) (.t 112)), none⟩, ⟨(some 2), (.mv (.t 113)), none⟩] s h) := k_reg0
@[simp] theorem q23_25 : runF E n0 g c23_25 s h = seqK E n0 g .ret (runF E n0 g c23_24 s h) := k_seq
@[simp] theorem q23_26 : runF E n0 g c23_26 s h = seqK E n0 g c23_25 (runF E n0 g c23_23 s h) := k_seq
@[simp] theorem q23_27 : runF E n0 g c23_27 s h = seqK E n0 g c23_26 (runF E n0 g c23_22 s h) := k_seq
@[simp] theorem q23_28 : runF E n0 g c23_28 s h = seqK E n0 g c23_27 (runF E n0 g c23_17 s h) := k_seq
@[simp] theorem q23_29 : runF E n0 g c23_29 s h = seqK E n0 g c23_28 (runF E n0 g c23_13 s h) := k_seq
@[simp] theorem q23_30 : runF E n0 g c23_30 s h = seqK E n0 g c23_29 (runF E n0 g c23_12 s h) := k_seq
@[simp] theorem q23_31 : runF E n0 g c23_31 s h = seqK E n0 g c23_30 (runF E n0 g c23_7 s h) := k_seq
@[simp] theorem q23_32 : runF E n0 g c23_32 s h = seqK E n0 g c23_31 (runF E n0 g c23_6 s h) := k_seq
@[simp] theorem q23_33 : runF E n0 g c23_33 s h = seqK E n0 g c23_32 (runF E n0 g c23_1 s h) := k_seq
@[simp] theorem q23_34 : runF E n0 g c23_34 s h = seqK E n0 g c23_33 (runF E n0 g c23_0 s h) := k_seq
@[simp] theorem qq23 : runF E n0 g c23 s h = runF E n0 g c23_34 s h := rfl
@[simp] theorem q24_0 : runF E n0 g c24_0 s h = regK (some [1]) (runO E n0 g h.length [⟨(some 1), (.bx 0 (.t 0)), none⟩, ⟨(some 2), (.mv (.c (.bool false))), none⟩, ⟨(some 3), (.mv (.c (.bool false))), none⟩] s (h ++ [.dead])) := k_reg
@[simp] theorem q24_1 : runF E n0 g c24_1 s h = regK (some [1, 6]) (runO E n0 g h.length [⟨(some 4), (.ld true 5 (.t 1)), none⟩, ⟨(some 5), (.call 23 [(.t 4)]), none⟩, ⟨(some 6), (.un .not (.t 5)), none⟩] s h) := k_reg0
@[simp] theorem q24_2 : runF E n0 g c24_2 s h = regK (some [2, 3]) (runO E n0 g h.length [⟨(some 2), (.mv (.c (.bool false))), none⟩, ⟨(some 3), (.mv (.c (.bool false))), none⟩] s h) := k_reg0
@[simp] theorem q24_3 : runF E n0 g c24_3 s h = seqK E n0 g .ret (runF E n0 g c24_2 s h) := k_seq
@[simp] theorem q24_4 : runF E n0 g c24_4 s h = condK E n0 g c24_3 .skip s h (get s 6) := k_cond
@[simp] theorem q24_5 : runF E n0 g c24_5 s h = seqK E n0 g c24_4 (runF E n0 g c24_1 s h) := k_seq
@[simp] theorem q24_6 : runF E n0 g c24_6 s h = regK (some [8]) (runO E n0 g h.length [⟨(some 7), (.fa 0 (.t 1)), none⟩, ⟨(some 8), (.ld false 1 (.t 7)), none⟩] s h) := k_reg0
@[simp] theorem q24_7 : runF E n0 g c24_7 s h = regK (some [8, 9]) (runO E n0 g h.length [⟨(some 10), (.bin .eql (.t 8) (.c (.int .i64 2))), none⟩, ⟨(some 9), (.mv (.t 10)), none⟩] s h) := k_reg0
@[simp] theorem q24_8 : runF E n0 g c24_8 s h = regK (some [8, 9]) (runO E n0 g h.length [⟨(some 11), (.bin .eql (.t 8) (.c (.int .i64 4))), none⟩, ⟨(some 9), (.mv (.t 11)), none⟩] s h) := k_reg0
@[simp] theorem q24_9 : runF E n0 g c24_9 s h = condK E n0 g .skip c24_8 s h (get s 9) := k_cond
@[simp] theorem q24_10 : runF E n0 g c24_10 s h = seqK E n0 g c24_9 (runF E n0 g c24_7 s h) := k_seq
@[simp] theorem q24_11 : runF E n0 g c24_11 s h = regK (some [2, 3]) (runO E n0 g h.length [⟨(some 2), (.mv (.c (.bool false))), none⟩, ⟨(some 3), (.mv (.c (.bool false))), none⟩] s h) := k_reg0
@[simp] theorem q24_12 : runF E n0 g c24_12 s h = seqK E n0 g .ret (runF E n0 g c24_11 s h) := k_seq
@[simp] theorem q24_13 : runF E n0 g c24_13 s h = regK (some [8, 12]) (runO E n0 g h.length [⟨(some 13), (.bin .eql (.t 8) (.c (.int .i64 5))), none⟩, ⟨(some 12), (.mv (.t 13)), none⟩] s h) := k_reg0
@[simp] theorem q24_14 : runF E n0 g c24_14 s h = regK (some [2, 3]) (runO E n0 g h.length [⟨(some 2), (.mv (.c (.bool false))), none⟩, ⟨(some 3), (.mv (.c (.bool true))), none⟩] s h) := k_reg0
@[simp] theorem q24_15 : runF E n0 g c24_15 s h = seqK E n0 g .ret (runF E n0 g c24_14 s h) := k_seq
@[simp] theorem q24_16 : runF E n0 g c24_16 s h = regK (some [8, 14]) (runO E n0 g h.length [⟨(some 15), (.bin .eql (.t 8) (.c (.int .i64 7))), none⟩, ⟨(some 14), (.mv (.t 15)), none⟩] s h) := k_reg0
@[simp] theorem q24_17 : runF E n0 g c24_17 s h = regK (some [14]) (runO E n0 g h.length [⟨(some 16), (.bin .eql (.t 8) (.c (.int .i64 8))), none⟩, ⟨(some 14), (.mv (.t 16)), none⟩] s h) := k_reg0
@[simp] theorem q24_18 : runF E n0 g c24_18 s h = condK E n0 g .skip c24_17 s h (get s 14) := k_cond
@[simp] theorem q24_19 : runF E n0 g c24_19 s h = seqK E n0 g c24_18 (runF E n0 g c24_16 s h) := k_seq
@[simp] theorem q24_20 : runF E n0 g c24_20 s h = regK (some [2, 3]) (runO E n0 g h.length [⟨(some 2), (.mv (.c (.bool true))), none⟩, ⟨(some 3), (.mv (.c (.bool true))), none⟩] s h) := k_reg0
@[simp] theorem q24_21 : runF E n0 g c24_21 s h = seqK E n0 g .ret (runF E n0 g c24_20 s h) := k_seq
@[simp] theorem q24_22 : runF E n0 g c24_22 s h = condK E n0 g c24_21 .skip s h (get s 14) := k_cond
@[simp] theorem q24_23 : runF E n0 g c24_23 s h = seqK E n0 g (.seq c24_18 c24_22) (runF E n0 g c24_16 s h) := k_assoc
@[simp] theorem q24_23a : runF E n0 g (.seq c24_18 c24_22) s h = condK E n0 g c24_21 (.seq c24_17 c24_22) s h (get s 14) := k_or
@[simp] theorem q24_23ab : runF E n0 g (.seq c24_17 c24_22) s h = seqK E n0 g c24_22 (runF E n0 g c24_17 s h) := k_seq
@[simp] theorem q24_24 : runF E n0 g c24_24 s h = condK E n0 g c24_15 c24_23 s h (get s 12) := k_cond
@[simp] theorem q24_25 : runF E n0 g c24_25 s h = seqK E n0 g c24_24 (runF E n0 g c24_13 s h) := k_seq
@[simp] theorem q24_26 : runF E n0 g c24_26 s h = condK E n0 g c24_12 c24_25 s h (get s 9) := k_cond
@[simp] theorem q24_27 : runF E n0 g c24_27 s h = seqK E n0 g (.seq c24_9 c24_26) (runF E n0 g c24_7 s h) := k_assoc
@[simp] theorem q24_27a : runF E n0 g (.seq c24_9 c24_26) s h = condK E n0 g c24_12 (.seq c24_8 c24_26) s h (get s 9) := k_or
@[simp] theorem q24_27ab : runF E n0 g (.seq c24_8 c24_26) s h = seqK E n0 g c24_26 (runF E n0 g c24_8 s h) := k_seq
@[simp] theorem q24_28 : runF E n0 g c24_28 s h = blkK (some []) 0 (runF E n0 g c24_27 s h) := k_block
@[simp] theorem q24_29 : runF E n0 g c24_29 s h = seqK E n0 g c24_28 (runF E n0 g c24_6 s h) := k_seq
@[simp] theorem q24_30 : runF E n0 g c24_30 s h = regK (some [2, 3]) (runO E n0 g h.length [⟨(some 2), (.mv (.c (.bool true))), none⟩, ⟨(some 3), (.mv (.c (.bool false))), none⟩] s h) := k_reg0
@[simp] theorem q24_31 : runF E n0 g c24_31 s h = seqK E n0 g .ret (runF E n0 g c24_30 s h) := k_seq
@[simp] theorem q24_32 : runF E n0 g c24_32 s h = seqK E n0 g c24_31 (runF E n0 g c24_29 s h) := k_seq
@[simp] theorem q24_33 : runF E n0 g c24_33 s h = seqK E n0 g c24_32 (runF E n0 g c24_5 s h) := k_seq
@[simp] theorem q24_34 : runF E n0 g c24_34 s h = seqK E n0 g c24_33 (runF E n0 g c24_0 s h) := k_seq
@[simp] theorem qq24 : runF E n0 g c24 s h = runF E n0 g c24_34 s h := rfl
@[simp] theorem q25_0 : runF E n0 g c25_0 s h = regK (some [1]) (runO E n0 g h.length [⟨(some 1), (.bx 0 (.t 0)), none⟩, ⟨(some 2), (.mv (.c (.bool false))), none⟩, ⟨(some 3), (.mv (.c (.bool false))), none⟩] s (h ++ [.dead])) := k_reg
@[simp] theorem q25_1 : runF E n0 g c25_1 s h = regK (some [1, 6]) (runO E n0 g h.length [⟨(some 4), (.ld true 5 (.t 1)), none⟩, ⟨(some 5), (.call 26 [(.t 4)]), none⟩, ⟨(some 6), (.un .not (.t 5)), none⟩] s h) := k_reg0
@[simp] theorem q25_2 : runF E n0 g c25_2 s h = regK (some [2, 3]) (runO E n0 g h.length [⟨(some 2), (.mv (.c (.bool false))), none⟩, ⟨(some 3), (.mv (.c (.bool false))), none⟩] s h) := k_reg0
@[simp] theorem q25_3 : runF E n0 g c25_3 s h = seqK E n0 g .ret (runF E n0 g c25_2 s h) := k_seq
@[simp] theorem q25_4 : runF E n0 g c25_4 s h = condK E n0 g c25_3 .skip s h (get s 6) := k_cond
@[simp] theorem q25_5 : runF E n0 g c25_5 s h = seqK E n0 g c25_4 (runF E n0 g c25_1 s h) := k_seq
@[simp] theorem q25_6 : runF E n0 g c25_6 s h = regK (some [2, 3]) (runO E n0 g h.length [⟨(some 7), (.fa 0 (.t 1)), none⟩, ⟨(some 8), (.ld false 1 (.t 7)), none⟩, ⟨(some 9), (.bin .neq (.t 8) (.c (.int .i64 2))), none⟩, ⟨(some 10), (.mv (.t 9)), none⟩, ⟨(some 11), (.fa 0 (.t 1)), (some (10, true))⟩, ⟨(some 12), (.ld false 1 (.t 11)), (some (10, true))⟩, ⟨(some 13), (.bin .neq (.t 12) (.c (.int .i64 4))), (some (10, true))⟩, ⟨(some 14), (.pick (.t 10) (.t 13) (.c (.bool false))), none⟩, ⟨(some 15), (.mv (.t 14)), none⟩, ⟨(some 16), (.fa 0 (.t 1)), (some (15, true))⟩, ⟨(some 17), (.ld false 1 (.t 16)), (some (15, true))⟩, ⟨(some 18), (.bin .neq (.t 17) (.c (.int .i64 5))), (some (15, true))⟩, ⟨(some 19), (.pick (.t 15) (.t 18) (.c (.bool false))), none⟩, ⟨(some 20), (.fa 0 (.t 1)), none⟩, ⟨(some 21), (.ld false 1 (.t 20)), none⟩, ⟨(some 22), (.bin .eql (.t 21) (.c (.int .i64 5))), none⟩, ⟨(some 23), (.mv (.t 22)), none⟩, ⟨(some 24), (.fa 0 (.t 1)), (some (23, false))⟩, ⟨(some 25), (.ld false 1 (.t 24)), (some (23, false))⟩, ⟨(some 26), (.bin .eql (.t 25) (.c (.int .i64 7))), (some (23, false))⟩, ⟨(some 27), (.pick (.t 23) (.c (.bool true)) (.t 26)), none⟩, ⟨(some 28), (.mv (.t 27)), none⟩, ⟨(some 29), (.fa 0 (.t 1)), (some (28, false))⟩, ⟨(some 30), (.ld false 1 (.t 29)), (some (28, false))⟩, ⟨(some 31), (.bin .eql (.t 30) (.c (.int .i64 8))), (some (28, false))⟩, ⟨(some 32), (.pick (.t 28) (.c (.bool true)) (.t 31)), none⟩, ⟨(some 2), (.mv (.t 19)), none⟩, ⟨(some 3), (.mv (.t 32)), none⟩] s h) := by rw [show c25_6 = .reg (some [2, 3]) [] [⟨(some 7), (.fa 0 (.t 1)), none⟩, ⟨(some 8), (.ld false 1 (.t 7)), none⟩, ⟨(some 9), (.bin .neq (.t 8) (.c (.int .i64 2))), none⟩, ⟨(some 10), (.mv (.t 9)), none⟩, ⟨(some 11), (.fa 0 (.t 1)), (some (10, true))⟩, ⟨(some 12), (.ld false 1 (.t 11)), (some (10, true))⟩, ⟨(some 13), (.bin .neq (.t 12) (.c (.int .i64 4))), (some (10, true))⟩, ⟨(some 14), (.pick (.t 10) (.t 13) (.c (.bool false))), none⟩, ⟨(some 15), (.mv (.t 14)), none⟩, ⟨(some 16), (.fa 0 (.t 1)), (some (15, true))⟩, ⟨(some 17), (.ld false 1 (.t 16)), (some (15, true))⟩, ⟨(some 18), (.bin .neq (.t 17) (.c (.int .i64 5))), (some (15, true))⟩, ⟨(some 19), (.pick (.t 15) (.t 18) (.c (.bool false))), none⟩, ⟨(some 20), (.fa 0 (.t 1)), none⟩, ⟨(some 21), (.ld false 1 (.t 20)), none⟩, ⟨(some 22), (.bin .eql (.t 21) (.c (.int .i64 5))), none⟩, ⟨(some 23), (.mv (.t 22)), none⟩, ⟨(some 24), (.fa 0 (.t 1)), (some (23, false))⟩, ⟨(some 25), (.ld false 1 (.t 24)), (some (23, false))⟩, ⟨(some 26), (.bin .eql (.t 25) (.c (.int .i64 7))), (some (23, false))⟩, ⟨(some 27), (.pick (.t 23) (.c (.bool true)) (.t 26)), none⟩, ⟨(some 28), (.mv (.t 27)), none⟩, ⟨(some 29), (.fa 0 (.t 1)), (some (28, false))⟩, ⟨(some 30), (.ld false 1 (.t 29)), (some (28, false))⟩, ⟨(some 31), (.bin .eql (.t 30) (.c (.int .i64 8))), (some (28, false))⟩, ⟨(some 32), (.pick (.t 28) (.c (.bool true)) (.t 31)), none⟩, ⟨(some 2), (.mv (.t 19)), none⟩, ⟨(some 3), (.mv (.t 32)), none⟩] (some []) from rfl, k_regd0, List.append_nil]
@[simp] theorem q25_7 : runF E n0 g c25_7 s h = seqK E n0 g .ret (runF E n0 g c25_6 s h) := k_seq
@[simp] theorem q25_8 : runF E n0 g c25_8 s h = seqK E n0 g c25_7 (runF E n0 g c25_5 s h) := k_seq
@[simp] theorem q25_9 : runF E n0 g c25_9 s h = seqK E n0 g c25_8 (runF E n0 g c25_0 s h) := k_seq
@[simp] theorem qq25 : runF E n0 g c25 s h = runF E n0 g c25_9 s h := rfl
@[simp] theorem q26_0 : runF E n0 g c26_0 s h = regK (some [1]) (runO E n0 g h.length [⟨(some 1), (.bx 0 (.t 0)), none⟩, ⟨(some 2), (.mv (.c (.bool false))), none⟩] s (h ++ [.dead])) := k_reg
@[simp] theorem q26_1 : runF E n0 g c26_1 s h = regK (some [1, 3]) (runO E n0 g h.length [⟨(some 8), (.fa 0 (.t 1)), none⟩, ⟨(some 9), (.ld false 1 (.t 8)), none⟩, ⟨(some 10), (.call 34 [(.t 9)]), none⟩, ⟨(some 3), (.mv (.t 10)), none⟩] s h) := k_reg0
@[simp] theorem q26_2 : runF E n0 g c26_2 s h = regK (some [1, 3, 4, 5]) (runO E n0 g h.length [⟨(some 12), (.fa 0 (.t 1)), none⟩, ⟨(some 13), (.ld false 1 (.t 12)), none⟩, ⟨(some 14), (.call 43 [(.t 13)]), none⟩, ⟨(some 11), (.mv (.t 14)), none⟩, ⟨(some 15), (.ext (.t 11) 0), none⟩, ⟨(some 16), (.ext (.t 11) 1), none⟩, ⟨(some 4), (.mv (.t 15)), none⟩, ⟨(some 5), (.mv (.t 16)), none⟩] s h) := k_reg0
@[simp] theorem q26_3 : runF E n0 g c26_3 s h = regK (some [1, 3, 30]) (runO E n0 g h.length [⟨(some 17), (.mv (.t 3)), none⟩, ⟨(some 18), (.bin .eql (.t 17) (.c (.int .i64 0))), none⟩, ⟨(some 19), (.mv (.t 18)), none⟩, ⟨(some 20), (.fa 4 (.t 1)), (some (19, false))⟩, ⟨(some 21), (.ld false 1 (.t 20)), (some (19, false))⟩, ⟨(some 22), (.mv (.t 4)), (some (19, false))⟩, ⟨(some 23), (.bin .lss (.t 21) (.t 22)), (some (19, false))⟩, ⟨(some 24), (.pick (.t 19) (.c (.bool true)) (.t 23)), none⟩, ⟨(some 25), (.mv (.t 24)), none⟩, ⟨(some 26), (.fa 4 (.t 1)), (some (25, false))⟩, ⟨(some 27), (.ld false 1 (.t 26)), (some (25, false))⟩, ⟨(some 28), (.mv (.t 5)), (some (25, false))⟩, ⟨(some 29), (.bin .gtr (.t 27) (.t 28)), (some (25, false))⟩, ⟨(some 30), (.pick (.t 25) (.c (.bool true)) (.t 29)), none⟩] s h) := k_reg0
@[simp] theorem q26_4 : runF E n0 g c26_4 s h = regK (some [2]) (runO E n0 g h.length [⟨(some 2), (.mv (.c (.bool false))), none⟩] s h) := k_reg0
@[simp] theorem q26_5 : runF E n0 g c26_5 s h = seqK E n0 g .ret (runF E n0 g c26_4 s h) := k_seq
@[simp] theorem q26_6 : runF E n0 g c26_6 s h = condK E n0 g c26_5 .skip s h (get s 30) := k_cond
@[simp] theorem q26_7 : runF E n0 g c26_7 s h = seqK E n0 g c26_6 (runF E n0 g c26_3 s h) := k_seq
@[simp] theorem q26_8 : runF E n0 g c26_8 s h = regK (some [1, 3, 6]) (runO E n0 g h.length [⟨(some 31), (.mv (.t 3)), none⟩, ⟨(some 32), (.bin .neq (.t 31) (.c (.int .i64 1))), none⟩, ⟨(some 33), (.mv (.t 32)), none⟩, ⟨(some 34), (.mv (.t 3)), (some (33, true))⟩, ⟨(some 35), (.bin .neq (.t 34) (.c (.int .i64 8))), (some (33, true))⟩, ⟨(some 36), (.pick (.t 33) (.t 35) (.c (.bool false))), none⟩, ⟨(some 6), (.mv (.t 36)), none⟩] s h) := k_reg0
@[simp] theorem q26_9 : runF E n0 g c26_9 s h = regK (some [1, 3, 6, 7]) (runO E n0 g h.length [⟨(some 37), (.mv (.t 3)), none⟩, ⟨(some 38), (.bin .eql (.t 37) (.c (.int .i64 3))), none⟩, ⟨(some 39), (.mv (.t 38)), none⟩, ⟨(some 40), (.mv (.t 3)), (some (39, false))⟩, ⟨(some 41), (.bin .eql (.t 40) (.c (.int .i64 4))), (some (39, false))⟩, ⟨(some 42), (.pick (.t 39) (.c (.bool true)) (.t 41)), none⟩, ⟨(some 43), (.mv (.t 42)), none⟩, ⟨(some 44), (.mv (.t 3)), (some (43, false))⟩, ⟨(some 45), (.bin .eql (.t 44) (.c (.int .i64 7))), (some (43, false))⟩, ⟨(some 46), (.pick (.t 43) (.c (.bool true)) (.t 45)), none⟩, ⟨(some 7), (.mv (.t 46)), none⟩] s h) := k_reg0
@[simp] theorem q26_10 : runF E n0 g c26_10 s h = regK (some [1, 71]) (runO E n0 g h.length [⟨(some 47), (.mv (.t 6)), none⟩, ⟨(some 48), (.un .not (.t 47)), none⟩, ⟨(some 49), (.mv (.t 48)), none⟩, ⟨(some 50), (.fa 1 (.t 1)), (some (49, true))⟩, ⟨(some 51), (.ld false 1 (.t 50)), (some (49, true))⟩, ⟨(some 52), (.bin .neq (.t 51) (.c (.int .i64 0))), (some (49, true))⟩, ⟨(some 53), (.pick (.t 49) (.t 52) (.c (.bool false))), none⟩, ⟨(some 54), (.mv (.t 53)), none⟩, ⟨(some 55), (.mv (.t 7)), (some (54, false))⟩, ⟨(some 56), (.un .not (.t 55)), (some (54, false))⟩, ⟨(some 57), (.mv (.t 56)), (some (54, false))⟩, ⟨(some 58), (.fa 2 (.t 1)), (some (57, true))⟩, ⟨(some 59), (.ld false 1 (.t 58)), (some (57, true))⟩, ⟨(some 60), (.bin .neq (.t 59) (.c (.int .i64 0))), (some (57, true))⟩, ⟨(some 61), (.pick (.t 57) (.t 60) (.c (.bool false))), (some (54, false))⟩, ⟨(some 62), (.pick (.t 54) (.c (.bool true)) (.t 61)), none⟩, ⟨(some 63), (.mv (.t 62)), none⟩, ⟨(some 64), (.mv (.t 3)), (some (63, false))⟩, ⟨(some 65), (.bin .neq (.t 64) (.c (.int .i64 4))), (some (63, false))⟩, ⟨(some 66), (.mv (.t 65)), (some (63, false))⟩, ⟨(some 67), (.fa 3 (.t 1)), (some (66, true))⟩, ⟨(some 68), (.ld false 1 (.t 67)), (some (66, true))⟩, ⟨(some 69), (.bin .neq (.t 68) (.c (.int .i64 0))), (some (66, true))⟩, ⟨(some 70), (.pick (.t 66) (.t 69) (.c (.bool false))), (some (63, false))⟩, ⟨(some 71), (.pick (.t 63) (.c (.bool true)) (.t 70)), none⟩] s h) := k_reg0
@[simp] theorem q26_11 : runF E n0 g c26_11 s h = regK (some [2]) (runO E n0 g h.length [⟨(some 2), (.mv (.c (.bool false))), none⟩] s h) := k_reg0
@[simp] theorem q26_12 : runF E n0 g c26_12 s h = seqK E n0 g .ret (runF E n0 g c26_11 s h) := k_seq
@[simp] theorem q26_13 : runF E n0 g c26_13 s h = condK E n0 g c26_12 .skip s h (get s 71) := k_cond
@[simp] theorem q26_14 : runF E n0 g c26_14 s h = seqK E n0 g c26_13 (runF E n0 g c26_10 s h) := k_seq
@[simp] theorem q26_15 : runF E n0 g c26_15 s h = regK (some [1, 74]) (runO E n0 g h.length [⟨(some 72), (.fa 0 (.t 1)), none⟩, ⟨(some 73), (.ld false 1 (.t 72)), none⟩, ⟨(some 74), (.bin .eql (.t 73) (.c (.int .i64 6))), none⟩] s h) := k_reg0
@[simp] theorem q26_16 : runF E n0 g c26_16 s h = regK (some [2]) (runO E n0 g h.length [⟨(some 75), (.fa 1 (.t 1)), none⟩, ⟨(some 76), (.ld false 1 (.t 75)), none⟩, ⟨(some 77), (.bin .geq (.t 76) (.c (.int .i64 0))), none⟩, ⟨(some 78), (.mv (.t 77)), none⟩, ⟨(some 79), (.fa 1 (.t 1)), (some (78, true))⟩, ⟨(some 80), (.ld false 1 (.t 79)), (some (78, true))⟩, ⟨(some 81), (.bin .leq (.t 80) (.c (.int .i64 6))), (some (78, true))⟩, ⟨(some 82), (.pick (.t 78) (.t 81) (.c (.bool false))), none⟩, ⟨(some 2), (.mv (.t 82)), none⟩] s h) := k_reg0
@[simp] theorem q26_17 : runF E n0 g c26_17 s h = seqK E n0 g .ret (runF E n0 g c26_16 s h) := k_seq
@[simp] theorem q26_18 : runF E n0 g c26_18 s h = condK E n0 g c26_17 .skip s h (get s 74) := k_cond
@[simp] theorem q26_19 : runF E n0 g c26_19 s h = seqK E n0 g c26_18 (runF E n0 g c26_15 s h) := k_seq
@[simp] theorem q26_20 : runF E n0 g c26_20 s h = regK (some [2]) (runO E n0 g h.length [⟨(some 83), (.fa 1 (.t 1)), none⟩, ⟨(some 84), (.ld false 1 (.t 83)), none⟩, ⟨(some 85), (.call 44 [(.t 84)]), none⟩, ⟨(some 86), (.mv (.t 85)), none⟩, ⟨(some 87), (.fa 2 (.t 1)), (some (86, true))⟩, ⟨(some 88), (.ld false 1 (.t 87)), (some (86, true))⟩, ⟨(some 89), (.call 44 [(.t 88)]), (some (86, true))⟩, ⟨(some 90), (.pick (.t 86) (.t 89) (.c (.bool false))), none⟩, ⟨(some 91), (.mv (.t 90)), none⟩, ⟨(some 92), (.fa 3 (.t 1)), (some (91, true))⟩, ⟨(some 93), (.ld false 1 (.t 92)), (some (91, true))⟩, ⟨(some 94), (.call 44 [(.t 93)]), (some (91, true))⟩, ⟨(some 95), (.pick (.t 91) (.t 94) (.c (.bool false))), none⟩, ⟨(some 2), (.mv (.t 95)), none⟩] s h) := k_reg0
@[simp] theorem q26_21 : runF E n0 g c26_21 s h = seqK E n0 g .ret (runF E n0 g c26_20 s h) := k_seq
@[simp] theorem q26_22 : runF E n0 g c26_22 s h = seqK E n0 g c26_21 (runF E n0 g c26_19 s h) := k_seq
@[simp] theorem q26_23 : runF E n0 g c26_23 s h = seqK E n0 g c26_22 (runF E n0 g c26_14 s h) := k_seq
@[simp] theorem q26_24 : runF E n0 g c26_24 s h = seqK E n0 g c26_23 (runF E n0 g c26_9 s h) := k_seq
@[simp] theorem q26_25 : runF E n0 g c26_25 s h = seqK E n0 g c26_24 (runF E n0 g c26_8 s h) := k_seq
@[simp] theorem q26_26 : runF E n0 g c26_26 s h = seqK E n0 g c26_25 (runF E n0 g c26_7 s h) := k_seq
@[simp] theorem q26_27 : runF E n0 g c26_27 s h = seqK E n0 g c26_26 (runF E n0 g c26_2 s h) := k_seq
@[simp] theorem q26_28 : runF E n0 g c26_28 s h = seqK E n0 g c26_27 (runF E n0 g c26_1 s h) := k_seq
@[simp] theorem q26_29 : runF E n0 g c26_29 s h = seqK E n0 g c26_28 (runF E n0 g c26_0 s h) := k_seq
@[simp] theorem qq26 : runF E n0 g c26 s h = runF E n0 g c26_29 s h := rfl
@[simp] theorem q27_0 : runF E n0 g c27_0 s h = regK (some [1]) (runO E n0 g h.length [⟨(some 1), (.bx 0 (.t 0)), none⟩, ⟨(some 2), (.mv (.c (.sl .full []))), none⟩] s (h ++ [.dead])) := k_reg
@[simp] theorem q27_1 : runF E n0 g c27_1 s h = regK (some [1, 3]) (runO E n0 g h.length [⟨(some 3), (.mv (.c (.sl .full []))), none⟩] s h) := k_reg0
@[simp] theorem q27_2 : runF E n0 g c27_2 s h = regK (some [1, 3, 9]) (runO E n0 g h.length [⟨(some 7), (.ld true 5 (.t 1)), none⟩, ⟨(some 8), (.call 26 [(.t 7)]), none⟩, ⟨(some 9), (.un .not (.t 8)), none⟩] s h) := k_reg0
@[simp] theorem q27_3 : runF E n0 g c27_3 s h = regK (some [2]) (runO E n0 g h.length [⟨(some 10), (.mv (.t 3)), none⟩, ⟨(some 2), (.mv (.t 10)), none⟩] s h) := k_reg0
@[simp] theorem q27_4 : runF E n0 g c27_4 s h = seqK E n0 g .ret (runF E n0 g c27_3 s h) := k_seq
@[simp] theorem q27_5 : runF E n0 g c27_5 s h = condK E n0 g c27_4 .skip s h (get s 9) := k_cond
@[simp] theorem q27_6 : runF E n0 g c27_6 s h = seqK E n0 g c27_5 (runF E n0 g c27_2 s h) := k_seq
@[simp] theorem q27_7 : runF E n0 g c27_7 s h = regK (some [1, 3, 4]) (runO E n0 g h.length [⟨(some 12), (.fa 0 (.t 1)), none⟩, ⟨(some 13), (.ld false 1 (.t 12)), none⟩, ⟨(some 14), (.call 15 [(.t 13)]), none⟩, ⟨(some 11), (.mv (.t 14)), none⟩, ⟨(some 15), (.ext (.t 11) 0), none⟩, ⟨(some 16), (.ext (.t 11) 1), none⟩, ⟨(some 4), (.al 0 [(.str []), (.int .i64 0), (.bool false), (.bool false), (.bool false), (.bool false), (.int .i64 0)]), none⟩, ⟨none, (.st 7 (.t 4) (.t 15)), none⟩, ⟨(some 5), (.mv (.t 16)), none⟩] s (h ++ [(.cells [(.str []), (.int .i64 0), (.bool false), (.bool false), (.bool false), (.bool false), (.int .i64 0)])])) := k_reg
@[simp] theorem q27_8 : runF E n0 g c27_8 s h = regK (some [1, 3, 4, 18]) (runO E n0 g h.length [⟨(some 17), (.fa 2 (.t 4)), none⟩, ⟨(some 18), (.ld false 1 (.t 17)), none⟩] s h) := k_reg0
@[simp] theorem q27_9 : runF E n0 g c27_9 s h = regK (some [1, 3, 4]) (runO E n0 g h.length [⟨(some 19), (.mv (.t 3)), none⟩, ⟨(some 20), (.fa 1 (.t 1)), none⟩, ⟨(some 21), (.ld false 1 (.t 20)), none⟩, ⟨(some 22), (.call 45 [(.t 19), (.t 21)]), none⟩, ⟨(some 3), (.mv (.t 22)), none⟩] s h) := k_reg0
@[simp] theorem q27_10 : runF E n0 g c27_10 s h = condK E n0 g c27_9 .skip s h (get s 18) := k_cond
@[simp] theorem q27_11 : runF E n0 g c27_11 s h = seqK E n0 g c27_10 (runF E n0 g c27_8 s h) := k_seq
@[simp] theorem q27_12 : runF E n0 g c27_12 s h = regK (some [1, 3, 4, 24]) (runO E n0 g h.length [⟨(some 23), (.fa 4 (.t 4)), none⟩, ⟨(some 24), (.ld false 1 (.t 23)), none⟩] s h) := k_reg0
@[simp] theorem q27_13 : runF E n0 g c27_13 s h = regK (some [1, 3, 4]) (runO E n0 g h.length [⟨(some 25), (.mv (.t 3)), none⟩, ⟨(some 26), (.fa 2 (.t 1)), none⟩, ⟨(some 27), (.ld false 1 (.t 26)), none⟩, ⟨(some 28), (.call 45 [(.t 25), (.t 27)]), none⟩, ⟨(some 3), (.mv (.t 28)), none⟩] s h) := k_reg0
@[simp] theorem q27_14 : runF E n0 g c27_14 s h = condK E n0 g c27_13 .skip s h (get s 24) := k_cond
@[simp] theorem q27_15 : runF E n0 g c27_15 s h = seqK E n0 g c27_14 (runF E n0 g c27_12 s h) := k_seq
@[simp] theorem q27_16 : runF E n0 g c27_16 s h = regK (some [1, 3, 31]) (runO E n0 g h.length [⟨(some 29), (.fa 1 (.t 4)), none⟩, ⟨(some 30), (.ld false 1 (.t 29)), none⟩, ⟨(some 31), (.bin .eql (.t 30) (.c (.int .i64 4))), none⟩] s h) := k_reg0
@[simp] theorem q27_17 : runF E n0 g c27_17 s h = regK (some [1, 3]) (runO E n0 g h.length [⟨(some 32), (.mv (.t 3)), none⟩, ⟨(some 33), (.fa 3 (.t 1)), none⟩, ⟨(some 34), (.ld false 1 (.t 33)), none⟩, ⟨(some 35), (.call 45 [(.t 32), (.t 34)]), none⟩, ⟨(some 3), (.mv (.t 35)), none⟩] s h) := k_reg0
@[simp] theorem q27_18 : runF E n0 g c27_18 s h = condK E n0 g c27_17 .skip s h (get s 31) := k_cond
@[simp] theorem q27_19 : runF E n0 g c27_19 s h = seqK E n0 g c27_18 (runF E n0 g c27_16 s h) := k_seq
@[simp] theorem q27_20 : runF E n0 g c27_20 s h = regK (some [1, 3, 6]) (runO E n0 g h.length [⟨(some 6), (.mv (.c (.int .i64 0))), none⟩] s h) := k_reg0
@[simp] theorem q27_21 : runF E n0 g c27_21 s h = regK (some [1, 3, 6, 44]) (runO E n0 g h.length [⟨(some 36), (.mv (.t 6)), none⟩, ⟨(some 37), (.fa 1 (.t 1)), none⟩, ⟨(some 38), (.ld false 1 (.t 37)), none⟩, ⟨(some 39), (.bin .lss (.t 36) (.t 38)), none⟩, ⟨(some 40), (.mv (.t 39)), none⟩, ⟨(some 41), (.fa 0 (.t 1)), (some (40, true))⟩, ⟨(some 42), (.ld false 1 (.t 41)), (some (40, true))⟩, ⟨(some 43), (.bin .eql (.t 42) (.c (.int .i64 6))), (some (40, true))⟩, ⟨(some 44), (.pick (.t 40) (.t 43) (.c (.bool false))), none⟩] s h) := k_reg0
@[simp] theorem q27_22 : runF E n0 g c27_22 s h = condK E n0 g .skip (.exit 0) s h (get s 44) := k_cond
@[simp] theorem q27_23 : runF E n0 g c27_23 s h = seqK E n0 g c27_22 (runF E n0 g c27_21 s h) := k_seq
@[simp] theorem q27_24 : runF E n0 g c27_24 s h = regK (some [1, 3, 6]) (runO E n0 g h.length [⟨(some 47), (.mv (.t 3)), none⟩, ⟨(some 48), (.mv (.t 6)), none⟩, ⟨(some 49), (.call 45 [(.t 47), (.t 48)]), none⟩, ⟨(some 3), (.mv (.t 49)), none⟩] s h) := k_reg0
@[simp] theorem q27_25 : runF E n0 g c27_25 s h = blkK (some [1, 3, 6]) 1 (runF E n0 g c27_24 s h) := k_block
@[simp] theorem q27_26 : runF E n0 g c27_26 s h = regK (some [1, 3, 6]) (runO E n0 g h.length [⟨(some 45), (.mv (.t 6)), none⟩, ⟨(some 46), (.bin .add (.t 45) (.c (.int .i64 1))), none⟩, ⟨(some 6), (.mv (.t 46)), none⟩] s h) := k_reg0
@[simp] theorem q27_27 : runF E n0 g c27_27 s h = seqK E n0 g c27_26 (runF E n0 g c27_25 s h) := k_seq
@[simp] theorem q27_28 : runF E n0 g c27_28 s h = seqK E n0 g c27_27 (runF E n0 g c27_23 s h) := k_seq
theorem q27_29 : runF E n0 g c27_29 s h = loopK E n0 g (some [1, 3, 6]) c27_28 (runF E n0 g c27_28 (clearO (some [1, 3, 6]) s) h) := k_loop
@[simp] theorem q27_29L : runF E n0 g (.loop (some [1, 3, 6]) c27_28) s h = runF E n0 g c27_29 s h := rfl
@[simp] theorem q27_30 : runF E n0 g c27_30 s h = blkK (some [1, 3]) 0 (runF E n0 g c27_29 s h) := k_block
@[simp] theorem q27_31 : runF E n0 g c27_31 s h = seqK E n0 g c27_30 (runF E n0 g c27_20 s h) := k_seq
@[simp] theorem q27_32 : runF E n0 g c27_32 s h = regK (some [3, 52]) (runO E n0 g h.length [⟨(some 50), (.fa 0 (.t 1)), none⟩, ⟨(some 51), (.ld false 1 (.t 50)), none⟩, ⟨(some 52), (.bin .eql (.t 51) (.c (.int .i64 2))), none⟩] s h) := k_reg0
@[simp] theorem q27_33 : runF E n0 g c27_33 s h = regK (some [3]) (runO E n0 g h.length [⟨(some 53), (.mv (.t 3)), none⟩, ⟨(some 54), (.call 45 [(.t 53), (.c (.int .i64 0))]), none⟩, ⟨(some 3), (.mv (.t 54)), none⟩] s h) := k_reg0
@[simp] theorem q27_34 : runF E n0 g c27_34 s h = condK E n0 g c27_33 .skip s h (get s 52) := k_cond
@[simp] theorem q27_35 : runF E n0 g c27_35 s h = seqK E n0 g c27_34 (runF E n0 g c27_32 s h) := k_seq
@[simp] theorem q27_36 : runF E n0 g c27_36 s h = regK (some [2]) (runO E n0 g h.length [⟨(some 55), (.mv (.t 3)), none⟩, ⟨(some 2), (.mv (.t 55)), none⟩] s h) := k_reg0
@[simp] theorem q27_37 : runF E n0 g c27_37 s h = seqK E n0 g .ret (runF E n0 g c27_36 s h) := k_seq
@[simp] theorem q27_38 : runF E n0 g c27_38 s h = seqK E n0 g c27_37 (runF E n0 g c27_35 s h) := k_seq
@[simp] theorem q27_39 : runF E n0 g c27_39 s h = seqK E n0 g c27_38 (runF E n0 g c27_31 s h) := k_seq
@[simp] theorem q27_40 : runF E n0 g c27_40 s h = seqK E n0 g c27_39 (runF E n0 g c27_19 s h) := k_seq
@[simp] theorem q27_41 : runF E n0 g c27_41 s h = seqK E n0 g c27_40 (runF E n0 g c27_15 s h) := k_seq
@[simp] theorem q27_42 : runF E n0 g c27_42 s h = seqK E n0 g c27_41 (runF E n0 g c27_11 s h) := k_seq
@[simp] theorem q27_43 : runF E n0 g c27_43 s h = seqK E n0 g c27_42 (runF E n0 g c27_7 s h) := k_seq
@[simp] theorem q27_44 : runF E n0 g c27_44 s h = seqK E n0 g c27_43 (runF E n0 g c27_6 s h) := k_seq
@[simp] theorem q27_45 : runF E n0 g c27_45 s h = seqK E n0 g c27_44 (runF E n0 g c27_1 s h) := k_seq
@[simp] theorem q27_46 : runF E n0 g c27_46 s h = seqK E n0 g c27_45 (runF E n0 g c27_0 s h) := k_seq
@[simp] theorem qq27 : runF E n0 g c27 s h = runF E n0 g c27_46 s h := rfl
@[simp] theorem q28_0 : runF E n0 g c28_0 s h = regK (some [1]) (runO E n0 g h.length [⟨(some 1), (.bx 0 (.t 0)), none⟩, ⟨(some 2), (.mv (.c (.sl .full []))), none⟩] s (h ++ [.dead])) := k_reg
@[simp] theorem q28_1 : runF E n0 g c28_1 s h = regK (some [1, 7]) (runO E n0 g h.length [⟨(some 5), (.ld true 5 (.t 1)), none⟩, ⟨(some 6), (.call 26 [(.t 5)]), none⟩, ⟨(some 7), (.un .not (.t 6)), none⟩] s h) := k_reg0
@[simp] theorem q28_2 : runF E n0 g c28_2 s h = regK (some [2]) (runO E n0 g h.length [⟨(some 2), (.mv (.c (.sl .full []))), none⟩] s h) := k_reg0
@[simp] theorem q28_3 : runF E n0 g c28_3 s h = seqK E n0 g .ret (runF E n0 g c28_2 s h) := k_seq
@[simp] theorem q28_4 : runF E n0 g c28_4 s h = condK E n0 g c28_3 .skip s h (get s 7) := k_cond
@[simp] theorem q28_5 : runF E n0 g c28_5 s h = seqK E n0 g c28_4 (runF E n0 g c28_1 s h) := k_seq
@[simp] theorem q28_6 : runF E n0 g c28_6 s h = regK (some [1, 3]) (runO E n0 g h.length [⟨(some 9), (.fa 0 (.t 1)), none⟩, ⟨(some 10), (.ld false 1 (.t 9)), none⟩, ⟨(some 11), (.call 15 [(.t 10)]), none⟩, ⟨(some 8), (.mv (.t 11)), none⟩, ⟨(some 12), (.ext (.t 8) 0), none⟩, ⟨(some 13), (.ext (.t 8) 1), none⟩, ⟨(some 3), (.al 0 [(.str []), (.int .i64 0), (.bool false), (.bool false), (.bool false), (.bool false), (.int .i64 0)]), none⟩, ⟨none, (.st 7 (.t 3) (.t 12)), none⟩, ⟨(some 4), (.mv (.t 13)), none⟩] s (h ++ [(.cells [(.str []), (.int .i64 0), (.bool false), (.bool false), (.bool false), (.bool false), (.int .i64 0)])])) := k_reg
@[simp] theorem q28_7 : runF E n0 g c28_7 s h = regK (some [1, 15]) (runO E n0 g h.length [⟨(some 14), (.fa 3 (.t 3)), none⟩, ⟨(some 15), (.ld false 1 (.t 14)), none⟩] s h) := k_reg0
@[simp] theorem q28_8 : runF E n0 g c28_8 s h = regK (some [2]) (runO E n0 g h.length [⟨(some 16), (.fa 1 (.t 1)), none⟩, ⟨(some 17), (.ld false 1 (.t 16)), none⟩, ⟨(some 18), (.bsl 1 (.int .i64 0) 1 [(0, (.t 17))]), none⟩, ⟨(some 2), (.mv (.t 18)), none⟩] s h) := k_reg0
@[simp] theorem q28_9 : runF E n0 g c28_9 s h = seqK E n0 g .ret (runF E n0 g c28_8 s h) := k_seq
@[simp] theorem q28_10 : runF E n0 g c28_10 s h = condK E n0 g c28_9 .skip s h (get s 15) := k_cond
@[simp] theorem q28_11 : runF E n0 g c28_11 s h = seqK E n0 g c28_10 (runF E n0 g c28_7 s h) := k_seq
@[simp] theorem q28_12 : runF E n0 g c28_12 s h = regK (some [21]) (runO E n0 g h.length [⟨(some 19), (.fa 0 (.t 1)), none⟩, ⟨(some 20), (.ld false 1 (.t 19)), none⟩, ⟨(some 21), (.bin .eql (.t 20) (.c (.int .i64 6))), none⟩] s h) := k_reg0
@[simp] theorem q28_13 : runF E n0 g c28_13 s h = regK (some [2]) (runO E n0 g h.length [⟨(some 22), (.bsl 1 (.int .i64 0) 1 [(0, (.c (.int .i64 0)))]), none⟩, ⟨(some 2), (.mv (.t 22)), none⟩] s h) := k_reg0
@[simp] theorem q28_14 : runF E n0 g c28_14 s h = seqK E n0 g .ret (runF E n0 g c28_13 s h) := k_seq
@[simp] theorem q28_15 : runF E n0 g c28_15 s h = condK E n0 g c28_14 .skip s h (get s 21) := k_cond
@[simp] theorem q28_16 : runF E n0 g c28_16 s h = seqK E n0 g c28_15 (runF E n0 g c28_12 s h) := k_seq
@[simp] theorem q28_17 : runF E n0 g c28_17 s h = regK (some [2]) (runO E n0 g h.length [⟨(some 2), (.mv (.c (.sl .full []))), none⟩] s h) := k_reg0
@[simp] theorem q28_18 : runF E n0 g c28_18 s h = seqK E n0 g .ret (runF E n0 g c28_17 s h) := k_seq
@[simp] theorem q28_19 : runF E n0 g c28_19 s h = seqK E n0 g c28_18 (runF E n0 g c28_16 s h) := k_seq
@[simp] theorem q28_20 : runF E n0 g c28_20 s h = seqK E n0 g c28_19 (runF E n0 g c28_11 s h) := k_seq
@[simp] theorem q28_21 : runF E n0 g c28_21 s h = seqK E n0 g c28_20 (runF E n0 g c28_6 s h) := k_seq
@[simp] theorem q28_22 : runF E n0 g c28_22 s h = seqK E n0 g c28_21 (runF E n0 g c28_5 s h) := k_seq
@[simp] theorem q28_23 : runF E n0 g c28_23 s h = seqK E n0 g c28_22 (runF E n0 g c28_0 s h) := k_seq
@[simp] theorem qq28 : runF E n0 g c28 s h = runF E n0 g c28_23 s h := rfl
@[simp] theorem q29_0 : runF E n0 g c29_0 s h = regK (some [0]) (runO E n0 g h.length [⟨(some 2), (.mv (.c (.str []))), none⟩, ⟨(some 3), (.mv (.c (.sl .full []))), none⟩] s h) := k_reg0
@[simp] theorem q29_1 : runF E n0 g c29_1 s h = regK (some [0, 4]) (runO E n0 g h.length [⟨(some 4), (.mv (.c (.int .i64 0))), none⟩] s h) := k_reg0
@[simp] theorem q29_2 : runF E n0 g c29_2 s h = regK (some [0, 4, 18]) (runO E n0 g h.length [⟨(some 9), (.mv (.t 4)), none⟩, ⟨(some 10), (.mv (.t 0)), none⟩, ⟨(some 11), (.lens (.t 10)), none⟩, ⟨(some 12), (.bin .lss (.t 9) (.t 11)), none⟩, ⟨(some 13), (.mv (.t 12)), none⟩, ⟨(some 14), (.mv (.t 0)), (some (13, true))⟩, ⟨(some 15), (.mv (.t 4)), (some (13, true))⟩, ⟨(some 16), (.ixs (.t 14) (.t 15)), (some (13, true))⟩, ⟨(some 17), (.bin .neq (.t 16) (.c (.int .u8 32))), (some (13, true))⟩, ⟨(some 18), (.pick (.t 13) (.t 17) (.c (.bool false))), none⟩] s h) := k_reg0
@[simp] theorem q29_3 : runF E n0 g c29_3 s h = condK E n0 g .skip (.exit 0) s h (get s 18) := k_cond
@[simp] theorem q29_4 : runF E n0 g c29_4 s h = seqK E n0 g c29_3 (runF E n0 g c29_2 s h) := k_seq
@[simp] theorem q29_5 : runF E n0 g c29_5 s h = regK (some [0, 4]) (runO E n0 g h.length [⟨(some 19), (.mv (.t 4)), none⟩, ⟨(some 20), (.bin .add (.t 19) (.c (.int .i64 1))), none⟩, ⟨(some 4), (.mv (.t 20)), none⟩] s h) := k_reg0
@[simp] theorem q29_6 : runF E n0 g c29_6 s h = blkK (some [0, 4]) 1 (runF E n0 g c29_5 s h) := k_block
@[simp] theorem q29_7 : runF E n0 g c29_7 s h = seqK E n0 g c29_6 (runF E n0 g c29_4 s h) := k_seq
theorem q29_8 : runF E n0 g c29_8 s h = loopK E n0 g (some [0, 4]) c29_7 (runF E n0 g c29_7 (clearO (some [0, 4]) s) h) := k_loop
@[simp] theorem q29_8L : runF E n0 g (.loop (some [0, 4]) c29_7) s h = runF E n0 g c29_8 s h := rfl
@[simp] theorem q29_9 : runF E n0 g c29_9 s h = blkK (some [0, 4]) 0 (runF E n0 g c29_8 s h) := k_block
@[simp] theorem q29_10 : runF E n0 g c29_10 s h = regK (some [0, 4, 5]) (runO E n0 g h.length [⟨(some 21), (.mv (.t 0)), none⟩, ⟨(some 22), (.mv (.t 4)), none⟩, ⟨(some 23), (.sls (.t 21) none (some (.t 22))), none⟩, ⟨(some 5), (.mv (.t 23)), none⟩] s h) := k_reg0
@[simp] theorem q29_11 : runF E n0 g c29_11 s h = regK (some [0, 4, 5, 27]) (runO E n0 g h.length [⟨(some 24), (.mv (.t 4)), none⟩, ⟨(some 25), (.mv (.t 0)), none⟩, ⟨(some 26), (.lens (.t 25)), none⟩, ⟨(some 27), (.bin .eql (.t 24) (.t 26)), none⟩] s h) := k_reg0
@[simp] theorem q29_12 : runF E n0 g c29_12 s h = regK (some [2, 3]) (runO E n0 g h.length [⟨(some 28), (.mv (.t 5)), none⟩, ⟨(some 2), (.mv (.t 28)), none⟩, ⟨(some 3), (.mv (.c (.sl .full []))), none⟩] s h) := k_reg0
@[simp] theorem q29_13 : runF E n0 g c29_13 s h = seqK E n0 g .ret (runF E n0 g c29_12 s h) := k_seq
@[simp] theorem q29_14 : runF E n0 g c29_14 s h = condK E n0 g c29_13 .skip s h (get s 27) := k_cond
@[simp] theorem q29_15 : runF E n0 g c29_15 s h = seqK E n0 g c29_14 (runF E n0 g c29_11 s h) := k_seq
@[simp] theorem q29_16 : runF E n0 g c29_16 s h = regK (some [0, 4, 5, 6]) (runO E n0 g h.length [⟨(some 6), (.mv (.c (.sl .full []))), none⟩] s h) := k_reg0
@[simp] theorem q29_17 : runF E n0 g c29_17 s h = regK (some [0, 5, 6, 7]) (runO E n0 g h.length [⟨(some 29), (.mv (.t 4)), none⟩, ⟨(some 30), (.bin .add (.t 29) (.c (.int .i64 1))), none⟩, ⟨(some 7), (.mv (.t 30)), none⟩] s h) := k_reg0
@[simp] theorem q29_18 : runF E n0 g c29_18 s h = regK (some [0, 5, 6, 7, 8]) (runO E n0 g h.length [⟨(some 31), (.mv (.t 7)), none⟩, ⟨(some 8), (.mv (.t 31)), none⟩] s h) := k_reg0
@[simp] theorem q29_19 : runF E n0 g c29_19 s h = regK (some [0, 5, 6, 7, 8, 36]) (runO E n0 g h.length [⟨(some 32), (.mv (.t 8)), none⟩, ⟨(some 33), (.bin .add (.t 32) (.c (.int .i64 1))), none⟩, ⟨(some 34), (.mv (.t 0)), none⟩, ⟨(some 35), (.lens (.t 34)), none⟩, ⟨(some 36), (.bin .lss (.t 33) (.t 35)), none⟩] s h) := k_reg0
@[simp] theorem q29_20 : runF E n0 g c29_20 s h = condK E n0 g .skip (.exit 2) s h (get s 36) := k_cond
@[simp] theorem q29_21 : runF E n0 g c29_21 s h = seqK E n0 g c29_20 (runF E n0 g c29_19 s h) := k_seq
@[simp] theorem q29_22 : runF E n0 g c29_22 s h = regK (some [0, 5, 6, 7, 8, 49]) (runO E n0 g h.length [⟨(some 39), (.mv (.t 0)), none⟩, ⟨(some 40), (.mv (.t 8)), none⟩, ⟨(some 41), (.ixs (.t 39) (.t 40)), none⟩, ⟨(some 42), (.bin .eql (.t 41) (.c (.int .u8 44))), none⟩, ⟨(some 43), (.mv (.t 42)), none⟩, ⟨(some 44), (.mv (.t 0)), (some (43, true))⟩, ⟨(some 45), (.mv (.t 8)), (some (43, true))⟩, ⟨(some 46), (.bin .add (.t 45) (.c (.int .i64 1))), (some (43, true))⟩, ⟨(some 47), (.ixs (.t 44) (.t 46)), (some (43, true))⟩, ⟨(some 48), (.bin .eql (.t 47) (.c (.int .u8 32))), (some (43, true))⟩, ⟨(some 49), (.pick (.t 43) (.t 48) (.c (.bool false))), none⟩] s h) := k_reg0
@[simp] theorem q29_23 : runF E n0 g c29_23 s h = regK (some [0, 5, 6, 8]) (runO E n0 g h.length [⟨(some 50), (.mv (.t 6)), none⟩, ⟨(some 51), (.mv (.t 0)), none⟩, ⟨(some 52), (.mv (.t 7)), none⟩, ⟨(some 53), (.mv (.t 8)), none⟩, ⟨(some 54), (.sls (.t 51) (some (.t 52)) (some (.t 53))), none⟩, ⟨(some 55), (.bsl 1 (.str []) 1 [(0, (.t 54))]), none⟩, ⟨(some 56), (.app 0 1 16 (.t 50) (.t 55)), none⟩, ⟨(some 6), (.mv (.t 56)), none⟩] s (h ++ [.dead])) := k_reg
@[simp] theorem q29_24 : runF E n0 g c29_24 s h = regK (some [0, 5, 6, 7, 8]) (runO E n0 g h.length [⟨(some 57), (.mv (.t 8)), none⟩, ⟨(some 58), (.bin .add (.t 57) (.c (.int .i64 2))), none⟩, ⟨(some 7), (.mv (.t 58)), none⟩] s h) := k_reg0
@[simp] theorem q29_25 : runF E n0 g c29_25 s h = regK (some [0, 5, 6, 7, 8]) (runO E n0 g h.length [⟨(some 59), (.mv (.t 8)), none⟩, ⟨(some 60), (.bin .add (.t 59) (.c (.int .i64 1))), none⟩, ⟨(some 8), (.mv (.t 60)), none⟩] s h) := k_reg0
@[simp] theorem q29_26 : runF E n0 g c29_26 s h = seqK E n0 g c29_25 (runF E n0 g c29_24 s h) := k_seq
@[simp] theorem q29_27 : runF E n0 g c29_27 s h = seqK E n0 g c29_26 (runF E n0 g c29_23 s h) := k_seq
@[simp] theorem q29_28 : runF E n0 g c29_28 s h = condK E n0 g c29_27 .skip s h (get s 49) := k_cond
@[simp] theorem q29_29 : runF E n0 g c29_29 s h = seqK E n0 g c29_28 (runF E n0 g c29_22 s h) := k_seq
@[simp] theorem q29_30 : runF E n0 g c29_30 s h = blkK (some [0, 5, 6, 7, 8]) 3 (runF E n0 g c29_29 s h) := k_block
@[simp] theorem q29_31 : runF E n0 g c29_31 s h = regK (some [0, 5, 6, 7, 8]) (runO E n0 g h.length [⟨(some 37), (.mv (.t 8)), none⟩, ⟨(some 38), (.bin .add (.t 37) (.c (.int .i64 1))), none⟩, ⟨(some 8), (.mv (.t 38)), none⟩] s h) := k_reg0
@[simp] theorem q29_32 : runF E n0 g c29_32 s h = seqK E n0 g c29_31 (runF E n0 g c29_30 s h) := k_seq
@[simp] theorem q29_33 : runF E n0 g c29_33 s h = seqK E n0 g c29_32 (runF E n0 g c29_21 s h) := k_seq
theorem q29_34 : runF E n0 g c29_34 s h = loopK E n0 g (some [0, 5, 6, 7, 8]) c29_33 (runF E n0 g c29_33 (clearO (some [0, 5, 6, 7, 8]) s) h) := k_loop
@[simp] theorem q29_34L : runF E n0 g (.loop (some [0, 5, 6, 7, 8]) c29_33) s h = runF E n0 g c29_34 s h := rfl
@[simp] theorem q29_35 : runF E n0 g c29_35 s h = blkK (some [0, 5, 6, 7]) 2 (runF E n0 g c29_34 s h) := k_block
@[simp] theorem q29_36 : runF E n0 g c29_36 s h = seqK E n0 g c29_35 (runF E n0 g c29_18 s h) := k_seq
@[simp] theorem q29_37 : runF E n0 g c29_37 s h = regK (some [2, 3]) (runO E n0 g h.length [⟨(some 61), (.mv (.t 5)), none⟩, ⟨(some 62), (.mv (.t 6)), none⟩, ⟨(some 63), (.mv (.t 0)), none⟩, ⟨(some 64), (.mv (.t 7)), none⟩, ⟨(some 65), (.sls (.t 63) (some (.t 64)) none), none⟩, ⟨(some 66), (.bsl 1 (.str []) 1 [(0, (.t 65))]), none⟩, ⟨(some 67), (.app 0 1 16 (.t 62) (.t 66)), none⟩, ⟨(some 2), (.mv (.t 61)), none⟩, ⟨(some 3), (.mv (.t 67)), none⟩] s (h ++ [.dead])) := k_reg
@[simp] theorem q29_38 : runF E n0 g c29_38 s h = seqK E n0 g .ret (runF E n0 g c29_37 s h) := k_seq
@[simp] theorem q29_39 : runF E n0 g c29_39 s h = seqK E n0 g c29_38 (runF E n0 g c29_36 s h) := k_seq
@[simp] theorem q29_40 : runF E n0 g c29_40 s h = seqK E n0 g c29_39 (runF E n0 g c29_17 s h) := k_seq
@[simp] theorem q29_41 : runF E n0 g c29_41 s h = seqK E n0 g c29_40 (runF E n0 g c29_16 s h) := k_seq
@[simp] theorem q29_42 : runF E n0 g c29_42 s h = seqK E n0 g c29_41 (runF E n0 g c29_15 s h) := k_seq
@[simp] theorem q29_43 : runF E n0 g c29_43 s h = seqK E n0 g c29_42 (runF E n0 g c29_10 s h) := k_seq
@[simp] theorem q29_44 : runF E n0 g c29_44 s h = seqK E n0 g c29_43 (runF E n0 g c29_9 s h) := k_seq
@[simp] theorem q29_45 : runF E n0 g c29_45 s h = seqK E n0 g c29_44 (runF E n0 g c29_1 s h) := k_seq
@[simp] theorem q29_46 : runF E n0 g c29_46 s h = seqK E n0 g c29_45 (runF E n0 g c29_0 s h) := k_seq
@[simp] theorem qq29 : runF E n0 g c29 s h = runF E n0 g c29_46 s h := rfl
@[simp] theorem q30_0 : runF E n0 g c30_0 s h = regK (some [0, 2, 3, 4, 5]) (runO E n0 g h.length [⟨(some 2), (.mv (.c (.bool false))), none⟩, ⟨(some 3), (.mv (.c (.bool false))), none⟩, ⟨(some 4), (.mv (.c (.bool false))), none⟩, ⟨(some 5), (.mv (.c (.bool false))), none⟩] s h) := k_reg0
@[simp] theorem q30_1 : runF E n0 g c30_1 s h = regK (some [2, 3, 4, 5, 6]) (runO E n0 g h.length [⟨(some 6), (.mv (.t 0)), none⟩] s h) := k_reg0
@[simp] theorem q30_2 : runF E n0 g c30_2 s h = regK (some [2, 3, 4, 5, 6, 7]) (runO E n0 g h.length [⟨(some 8), (.bin .eql (.t 6) (.c (.int .i64 2))), none⟩, ⟨(some 7), (.mv (.t 8)), none⟩] s h) := k_reg0
@[simp] theorem q30_3 : runF E n0 g c30_3 s h = regK (some [2, 3, 4, 5]) (runO E n0 g h.length [⟨(some 2), (.mv (.c (.bool true))), none⟩] s h) := k_reg0
@[simp] theorem q30_4 : runF E n0 g c30_4 s h = regK (some [2, 3, 4, 5, 6, 9]) (runO E n0 g h.length [⟨(some 10), (.bin .eql (.t 6) (.c (.int .i64 3))), none⟩, ⟨(some 9), (.mv (.t 10)), none⟩] s h) := k_reg0
@[simp] theorem q30_5 : runF E n0 g c30_5 s h = regK (some [2, 3, 4, 5]) (runO E n0 g h.length [⟨(some 2), (.mv (.c (.bool true))), none⟩, ⟨(some 3), (.mv (.c (.bool true))), none⟩] s h) := k_reg0
@[simp] theorem q30_6 : runF E n0 g c30_6 s h = regK (some [2, 3, 4, 5, 6, 11]) (runO E n0 g h.length [⟨(some 12), (.bin .eql (.t 6) (.c (.int .i64 4))), none⟩, ⟨(some 11), (.mv (.t 12)), none⟩] s h) := k_reg0
@[simp] theorem q30_7 : runF E n0 g c30_7 s h = regK (some [2, 3, 4, 5]) (runO E n0 g h.length [⟨(some 2), (.mv (.c (.bool true))), none⟩, ⟨(some 3), (.mv (.c (.bool true))), none⟩, ⟨(some 4), (.mv (.c (.bool true))), none⟩] s h) := k_reg0
@[simp] theorem q30_8 : runF E n0 g c30_8 s h = regK (some [2, 3, 4, 5, 6, 13]) (runO E n0 g h.length [⟨(some 14), (.bin .eql (.t 6) (.c (.int .i64 5))), none⟩, ⟨(some 13), (.mv (.t 14)), none⟩] s h) := k_reg0
@[simp] theorem q30_9 : runF E n0 g c30_9 s h = regK (some [2, 3, 4, 5, 6, 13]) (runO E n0 g h.length [⟨(some 15), (.bin .eql (.t 6) (.c (.int .i64 6))), none⟩, ⟨(some 13), (.mv (.t 15)), none⟩] s h) := k_reg0
@[simp] theorem q30_10 : runF E n0 g c30_10 s h = condK E n0 g .skip c30_9 s h (get s 13) := k_cond
@[simp] theorem q30_11 : runF E n0 g c30_11 s h = seqK E n0 g c30_10 (runF E n0 g c30_8 s h) := k_seq
@[simp] theorem q30_12 : runF E n0 g c30_12 s h = regK (some [2, 3, 4, 5]) (runO E n0 g h.length [⟨(some 2), (.mv (.c (.bool true))), none⟩, ⟨(some 5), (.mv (.c (.bool true))), none⟩] s h) := k_reg0
@[simp] theorem q30_13 : runF E n0 g c30_13 s h = regK (some [2, 3, 4, 5, 6, 16]) (runO E n0 g h.length [⟨(some 17), (.bin .eql (.t 6) (.c (.int .i64 7))), none⟩, ⟨(some 16), (.mv (.t 17)), none⟩] s h) := k_reg0
@[simp] theorem q30_14 : runF E n0 g c30_14 s h = regK (some [2, 3, 4, 5]) (runO E n0 g h.length [⟨(some 2), (.mv (.c (.bool true))), none⟩, ⟨(some 3), (.mv (.c (.bool true))), none⟩, ⟨(some 5), (.mv (.c (.bool true))), none⟩] s h) := k_reg0
@[simp] theorem q30_15 : runF E n0 g c30_15 s h = regK (some [2, 3, 4, 5, 18]) (runO E n0 g h.length [⟨(some 19), (.bin .eql (.t 6) (.c (.int .i64 8))), none⟩, ⟨(some 18), (.mv (.t 19)), none⟩] s h) := k_reg0
@[simp] theorem q30_16 : runF E n0 g c30_16 s h = regK (some [2, 3, 4, 5]) (runO E n0 g h.length [⟨(some 5), (.mv (.c (.bool true))), none⟩] s h) := k_reg0
@[simp] theorem q30_17 : runF E n0 g c30_17 s h = condK E n0 g c30_16 .skip s h (get s 18) := k_cond
@[simp] theorem q30_18 : runF E n0 g c30_18 s h = seqK E n0 g c30_17 (runF E n0 g c30_15 s h) := k_seq
@[simp] theorem q30_19 : runF E n0 g c30_19 s h = condK E n0 g c30_14 c30_18 s h (get s 16) := k_cond
@[simp] theorem q30_20 : runF E n0 g c30_20 s h = seqK E n0 g c30_19 (runF E n0 g c30_13 s h) := k_seq
@[simp] theorem q30_21 : runF E n0 g c30_21 s h = condK E n0 g c30_12 c30_20 s h (get s 13) := k_cond
@[simp] theorem q30_22 : runF E n0 g c30_22 s h = seqK E n0 g (.seq c30_10 c30_21) (runF E n0 g c30_8 s h) := k_assoc
@[simp] theorem q30_22a : runF E n0 g (.seq c30_10 c30_21) s h = condK E n0 g c30_12 (.seq c30_9 c30_21) s h (get s 13) := k_or
@[simp] theorem q30_22ab : runF E n0 g (.seq c30_9 c30_21) s h = seqK E n0 g c30_21 (runF E n0 g c30_9 s h) := k_seq
@[simp] theorem q30_23 : runF E n0 g c30_23 s h = condK E n0 g c30_7 c30_22 s h (get s 11) := k_cond
@[simp] theorem q30_24 : runF E n0 g c30_24 s h = seqK E n0 g c30_23 (runF E n0 g c30_6 s h) := k_seq
@[simp] theorem q30_25 : runF E n0 g c30_25 s h = condK E n0 g c30_5 c30_24 s h (get s 9) := k_cond
@[simp] theorem q30_26 : runF E n0 g c30_26 s h = seqK E n0 g c30_25 (runF E n0 g c30_4 s h) := k_seq
@[simp] theorem q30_27 : runF E n0 g c30_27 s h = condK E n0 g c30_3 c30_26 s h (get s 7) := k_cond
@[simp] theorem q30_28 : runF E n0 g c30_28 s h = seqK E n0 g c30_27 (runF E n0 g c30_2 s h) := k_seq
@[simp] theorem q30_29 : runF E n0 g c30_29 s h = blkK (some [2, 3, 4, 5]) 0 (runF E n0 g c30_28 s h) := k_block
@[simp] theorem q30_30 : runF E n0 g c30_30 s h = seqK E n0 g c30_29 (runF E n0 g c30_1 s h) := k_seq
@[simp] theorem q30_31 : runF E n0 g c30_31 s h = seqK E n0 g .ret (runF E n0 g c30_30 s h) := k_seq
@[simp] theorem q30_32 : runF E n0 g c30_32 s h = seqK E n0 g c30_31 (runF E n0 g c30_0 s h) := k_seq
@[simp] theorem qq30 : runF E n0 g c30 s h = runF E n0 g c30_32 s h := rfl
@[simp] theorem q31_0 : runF E n0 g c31_0 s h = regK (some [0]) (runO E n0 g h.length [⟨(some 2), (.mv (.c (.int .i64 0))), none⟩] s h) := k_reg0
@[simp] theorem q31_1 : runF E n0 g c31_1 s h = regK (some [0, 20]) (runO E n0 g h.length [⟨(some 3), (.mv (.t 0)), none⟩, ⟨(some 4), (.lens (.t 3)), none⟩, ⟨(some 5), (.bin .neq (.t 4) (.c (.int .i64 2))), none⟩, ⟨(some 6), (.mv (.t 5)), none⟩, ⟨(some 7), (.mv (.t 0)), (some (6, false))⟩, ⟨(some 8), (.ixs (.t 7) (.c (.int .i64 0))), (some (6, false))⟩, ⟨(some 9), (.bin .neq (.t 8) (.c (.int .u8 114))), (some (6, false))⟩, ⟨(some 10), (.pick (.t 6) (.c (.bool true)) (.t 9)), none⟩, ⟨(some 11), (.mv (.t 10)), none⟩, ⟨(some 12), (.mv (.t 0)), (some (11, false))⟩, ⟨(some 13), (.ixs (.t 12) (.c (.int .i64 1))), (some (11, false))⟩, ⟨(some 14), (.bin .lss (.t 13) (.c (.int .u8 48))), (some (11, false))⟩, ⟨(some 15), (.pick (.t 11) (.c (.bool true)) (.t 14)), none⟩, ⟨(some 16), (.mv (.t 15)), none⟩, ⟨(some 17), (.mv (.t 0)), (some (16, false))⟩, ⟨(some 18), (.ixs (.t 17) (.c (.int .i64 1))), (some (16, false))⟩, ⟨(some 19), (.bin .gtr (.t 18) (.c (.int .u8 55))), (some (16, false))⟩, ⟨(some 20), (.pick (.t 16) (.c (.bool true)) (.t 19)), none⟩] s h) := k_reg0
@[simp] theorem q31_2 : runF E n0 g c31_2 s h = regK (some [2]) (runO E n0 g h.length [⟨(some 2), (.mv (.c (.int .i64 (-1)))), none⟩] s h) := k_reg0
@[simp] theorem q31_3 : runF E n0 g c31_3 s h = seqK E n0 g .ret (runF E n0 g c31_2 s h) := k_seq
@[simp] theorem q31_4 : runF E n0 g c31_4 s h = condK E n0 g c31_3 .skip s h (get s 20) := k_cond
@[simp] theorem q31_5 : runF E n0 g c31_5 s h = seqK E n0 g c31_4 (runF E n0 g c31_1 s h) := k_seq
@[simp] theorem q31_6 : runF E n0 g c31_6 s h = regK (some [2]) (runO E n0 g h.length [⟨(some 21), (.mv (.t 0)), none⟩, ⟨(some 22), (.ixs (.t 21) (.c (.int .i64 1))), none⟩, ⟨(some 23), (.bin .sub (.t 22) (.c (.int .u8 48))), none⟩, ⟨(some 24), (.conv .i64 (.t 23)), none⟩, ⟨(some 2), (.mv (.t 24)), none⟩] s h) := k_reg0
@[simp] theorem q31_7 : runF E n0 g c31_7 s h = seqK E n0 g .ret (runF E n0 g c31_6 s h) := k_seq
@[simp] theorem q31_8 : runF E n0 g c31_8 s h = seqK E n0 g c31_7 (runF E n0 g c31_5 s h) := k_seq
@[simp] theorem q31_9 : runF E n0 g c31_9 s h = seqK E n0 g c31_8 (runF E n0 g c31_0 s h) := k_seq
@[simp] theorem qq31 : runF E n0 g c31 s h = runF E n0 g c31_9 s h := rfl
@[simp] theorem q32_0 : runF E n0 g c32_0 s h = regK (some [0]) (runO E n0 g h.length [⟨(some 2), (.mv (.c (.int .i64 0))), none⟩, ⟨(some 3), (.mv (.c (.bool false))), none⟩] s h) := k_reg0
@[simp] theorem q32_1 : runF E n0 g c32_1 s h = regK (some [4]) (runO E n0 g h.length [⟨(some 9), (.mv (.t 0)), none⟩, ⟨(some 4), (.mv (.t 9)), none⟩] s h) := k_reg0
@[simp] theorem q32_2 : runF E n0 g c32_2 s h = regK (some [4, 5]) (runO E n0 g h.length [⟨(some 10), (.mv (.t 4)), none⟩, ⟨(some 11), (.lens (.t 10)), none⟩, ⟨(some 12), (.bin .gtr (.t 11) (.c (.int .i64 0))), none⟩, ⟨(some 13), (.mv (.t 12)), none⟩, ⟨(some 14), (.mv (.t 4)), (some (13, true))⟩, ⟨(some 15), (.ixs (.t 14) (.c (.int .i64 0))), (some (13, true))⟩, ⟨(some 16), (.bin .eql (.t 15) (.c (.int .u8 45))), (some (13, true))⟩, ⟨(some 17), (.pick (.t 13) (.t 16) (.c (.bool false))), none⟩, ⟨(some 5), (.mv (.t 17)), none⟩] s h) := k_reg0
@[simp] theorem q32_3 : runF E n0 g c32_3 s h = regK (some [4, 5, 18]) (runO E n0 g h.length [⟨(some 18), (.mv (.t 5)), none⟩] s h) := k_reg0
@[simp] theorem q32_4 : runF E n0 g c32_4 s h = regK (some [4, 5]) (runO E n0 g h.length [⟨(some 19), (.mv (.t 4)), none⟩, ⟨(some 20), (.sls (.t 19) (some (.c (.int .i64 1))) none), none⟩, ⟨(some 4), (.mv (.t 20)), none⟩] s h) := k_reg0
@[simp] theorem q32_5 : runF E n0 g c32_5 s h = condK E n0 g c32_4 .skip s h (get s 18) := k_cond
@[simp] theorem q32_6 : runF E n0 g c32_6 s h = seqK E n0 g c32_5 (runF E n0 g c32_3 s h) := k_seq
@[simp] theorem q32_7 : runF E n0 g c32_7 s h = regK (some [4, 5, 41]) (runO E n0 g h.length [⟨(some 21), (.mv (.t 4)), none⟩, ⟨(some 22), (.lens (.t 21)), none⟩, ⟨(some 23), (.bin .lss (.t 22) (.c (.int .i64 1))), none⟩, ⟨(some 24), (.mv (.t 23)), none⟩, ⟨(some 25), (.mv (.t 4)), (some (24, false))⟩, ⟨(some 26), (.lens (.t 25)), (some (24, false))⟩, ⟨(some 27), (.bin .gtr (.t 26) (.c (.int .i64 19))), (some (24, false))⟩, ⟨(some 28), (.pick (.t 24) (.c (.bool true)) (.t 27)), none⟩, ⟨(some 29), (.mv (.t 28)), none⟩, ⟨(some 30), (.mv (.t 4)), (some (29, false))⟩, ⟨(some 31), (.ixs (.t 30) (.c (.int .i64 0))), (some (29, false))⟩, ⟨(some 32), (.bin .eql (.t 31) (.c (.int .u8 48))), (some (29, false))⟩, ⟨(some 33), (.mv (.t 32)), (some (29, false))⟩, ⟨(some 34), (.mv (.t 4)), (some (33, true))⟩, ⟨(some 35), (.lens (.t 34)), (some (33, true))⟩, ⟨(some 36), (.bin .gtr (.t 35) (.c (.int .i64 1))), (some (33, true))⟩, ⟨(some 37), (.mv (.t 36)), (some (33, true))⟩, ⟨(some 38), (.mv (.t 5)), (some (37, false))⟩, ⟨(some 39), (.pick (.t 37) (.c (.bool true)) (.t 38)), (some (33, true))⟩, ⟨(some 40), (.pick (.t 33) (.t 39) (.c (.bool false))), (some (29, false))⟩, ⟨(some 41), (.pick (.t 29) (.c (.bool true)) (.t 40)), none⟩] s h) := k_reg0
@[simp] theorem q32_8 : runF E n0 g c32_8 s h = regK (some [2, 3]) (runO E n0 g h.length [⟨(some 2), (.mv (.c (.int .i64 0))), none⟩, ⟨(some 3), (.mv (.c (.bool false))), none⟩] s h) := k_reg0
@[simp] theorem q32_9 : runF E n0 g c32_9 s h = seqK E n0 g .ret (runF E n0 g c32_8 s h) := k_seq
@[simp] theorem q32_10 : runF E n0 g c32_10 s h = condK E n0 g c32_9 .skip s h (get s 41) := k_cond
@[simp] theorem q32_11 : runF E n0 g c32_11 s h = seqK E n0 g c32_10 (runF E n0 g c32_7 s h) := k_seq
@[simp] theorem q32_12 : runF E n0 g c32_12 s h = regK (some [4, 5, 6]) (runO E n0 g h.length [⟨(some 6), (.mv (.c (.int .u64 0))), none⟩] s h) := k_reg0
@[simp] theorem q32_13 : runF E n0 g c32_13 s h = regK (some [4, 5, 6, 7]) (runO E n0 g h.length [⟨(some 7), (.mv (.c (.int .i64 0))), none⟩] s h) := k_reg0
@[simp] theorem q32_14 : runF E n0 g c32_14 s h = regK (some [4, 5, 6, 7, 45]) (runO E n0 g h.length [⟨(some 42), (.mv (.t 7)), none⟩, ⟨(some 43), (.mv (.t 4)), none⟩, ⟨(some 44), (.lens (.t 43)), none⟩, ⟨(some 45), (.bin .lss (.t 42) (.t 44)), none⟩] s h) := k_reg0
@[simp] theorem q32_15 : runF E n0 g c32_15 s h = condK E n0 g .skip (.exit 0) s h (get s 45) := k_cond
@[simp] theorem q32_16 : runF E n0 g c32_16 s h = seqK E n0 g c32_15 (runF E n0 g c32_14 s h) := k_seq
@[simp] theorem q32_17 : runF E n0 g c32_17 s h = regK (some [4, 5, 6, 7, 57]) (runO E n0 g h.length [⟨(some 48), (.mv (.t 4)), none⟩, ⟨(some 49), (.mv (.t 7)), none⟩, ⟨(some 50), (.ixs (.t 48) (.t 49)), none⟩, ⟨(some 51), (.bin .lss (.t 50) (.c (.int .u8 48))), none⟩, ⟨(some 52), (.mv (.t 51)), none⟩, ⟨(some 53), (.mv (.t 4)), (some (52, false))⟩, ⟨(some 54), (.mv (.t 7)), (some (52, false))⟩, ⟨(some 55), (.ixs (.t 53) (.t 54)), (some (52, false))⟩, ⟨(some 56), (.bin .gtr (.t 55) (.c (.int .u8 57))), (some (52, false))⟩, ⟨(some 57), (.pick (.t 52) (.c (.bool true)) (.t 56)), none⟩] s h) := k_reg0
@[simp] theorem q32_18 : runF E n0 g c32_18 s h = regK (some [2, 3]) (runO E n0 g h.length [⟨(some 2), (.mv (.c (.int .i64 0))), none⟩, ⟨(some 3), (.mv (.c (.bool false))), none⟩] s h) := k_reg0
@[simp] theorem q32_19 : runF E n0 g c32_19 s h = seqK E n0 g .ret (runF E n0 g c32_18 s h) := k_seq
@[simp] theorem q32_20 : runF E n0 g c32_20 s h = condK E n0 g c32_19 .skip s h (get s 57) := k_cond
@[simp] theorem q32_21 : runF E n0 g c32_21 s h = seqK E n0 g c32_20 (runF E n0 g c32_17 s h) := k_seq
@[simp] theorem q32_22 : runF E n0 g c32_22 s h = regK (some [4, 5, 6, 7]) (runO E n0 g h.length [⟨(some 58), (.mv (.t 6)), none⟩, ⟨(some 59), (.bin .mul (.c (.int .u64 10)) (.t 58)), none⟩, ⟨(some 60), (.mv (.t 4)), none⟩, ⟨(some 61), (.mv (.t 7)), none⟩, ⟨(some 62), (.ixs (.t 60) (.t 61)), none⟩, ⟨(some 63), (.bin .sub (.t 62) (.c (.int .u8 48))), none⟩, ⟨(some 64), (.conv .u64 (.t 63)), none⟩, ⟨(some 65), (.bin .add (.t 59) (.t 64)), none⟩, ⟨(some 6), (.mv (.t 65)), none⟩] s h) := k_reg0
@[simp] theorem q32_23 : runF E n0 g c32_23 s h = seqK E n0 g c32_22 (runF E n0 g c32_21 s h) := k_seq
@[simp] theorem q32_24 : runF E n0 g c32_24 s h = blkK (some [4, 5, 6, 7]) 1 (runF E n0 g c32_23 s h) := k_block
@[simp] theorem q32_25 : runF E n0 g c32_25 s h = regK (some [4, 5, 6, 7]) (runO E n0 g h.length [⟨(some 46), (.mv (.t 7)), none⟩, ⟨(some 47), (.bin .add (.t 46) (.c (.int .i64 1))), none⟩, ⟨(some 7), (.mv (.t 47)), none⟩] s h) := k_reg0
@[simp] theorem q32_26 : runF E n0 g c32_26 s h = seqK E n0 g c32_25 (runF E n0 g c32_24 s h) := k_seq
@[simp] theorem q32_27 : runF E n0 g c32_27 s h = seqK E n0 g c32_26 (runF E n0 g c32_16 s h) := k_seq
theorem q32_28 : runF E n0 g c32_28 s h = loopK E n0 g (some [4, 5, 6, 7]) c32_27 (runF E n0 g c32_27 (clearO (some [4, 5, 6, 7]) s) h) := k_loop
@[simp] theorem q32_28L : runF E n0 g (.loop (some [4, 5, 6, 7]) c32_27) s h = runF E n0 g c32_28 s h := rfl
@[simp] theorem q32_29 : runF E n0 g c32_29 s h = blkK (some [5, 6]) 0 (runF E n0 g c32_28 s h) := k_block
@[simp] theorem q32_30 : runF E n0 g c32_30 s h = seqK E n0 g c32_29 (runF E n0 g c32_13 s h) := k_seq
@[simp] theorem q32_31 : runF E n0 g c32_31 s h = regK (some [5, 6, 8]) (runO E n0 g h.length [⟨(some 8), (.mv (.c (.int .u64 9223372036854775807))), none⟩] s h) := k_reg0
@[simp] theorem q32_32 : runF E n0 g c32_32 s h = regK (some [5, 6, 8, 66]) (runO E n0 g h.length [⟨(some 66), (.mv (.t 5)), none⟩] s h) := k_reg0
@[simp] theorem q32_33 : runF E n0 g c32_33 s h = regK (some [5, 6, 8]) (runO E n0 g h.length [⟨(some 67), (.mv (.t 8)), none⟩, ⟨(some 68), (.bin .add (.t 67) (.c (.int .u64 1))), none⟩, ⟨(some 8), (.mv (.t 68)), none⟩] s h) := k_reg0
@[simp] theorem q32_34 : runF E n0 g c32_34 s h = condK E n0 g c32_33 .skip s h (get s 66) := k_cond
@[simp] theorem q32_35 : runF E n0 g c32_35 s h = seqK E n0 g c32_34 (runF E n0 g c32_32 s h) := k_seq
@[simp] theorem q32_36 : runF E n0 g c32_36 s h = regK (some [5, 6, 71]) (runO E n0 g h.length [⟨(some 69), (.mv (.t 6)), none⟩, ⟨(some 70), (.mv (.t 8)), none⟩, ⟨(some 71), (.bin .gtr (.t 69) (.t 70)), none⟩] s h) := k_reg0
@[simp] theorem q32_37 : runF E n0 g c32_37 s h = regK (some [2, 3]) (runO E n0 g h.length [⟨(some 2), (.mv (.c (.int .i64 0))), none⟩, ⟨(some 3), (.mv (.c (.bool false))), none⟩] s h) := k_reg0
@[simp] theorem q32_38 : runF E n0 g c32_38 s h = seqK E n0 g .ret (runF E n0 g c32_37 s h) := k_seq
@[simp] theorem q32_39 : runF E n0 g c32_39 s h = condK E n0 g c32_38 .skip s h (get s 71) := k_cond
@[simp] theorem q32_40 : runF E n0 g c32_40 s h = seqK E n0 g c32_39 (runF E n0 g c32_36 s h) := k_seq
@[simp] theorem q32_41 : runF E n0 g c32_41 s h = regK (some [6, 72]) (runO E n0 g h.length [⟨(some 72), (.mv (.t 5)), none⟩] s h) := k_reg0
@[simp] theorem q32_42 : runF E n0 g c32_42 s h = regK (some [2, 3]) (runO E n0 g h.length [⟨(some 73), (.mv (.t 6)), none⟩, ⟨(some 74), (.un .neg (.t 73)), none⟩, ⟨(some 75), (.conv .i64 (.t 74)), none⟩, ⟨(some 2), (.mv (.t 75)), none⟩, ⟨(some 3), (.mv (.c (.bool true))), none⟩] s h) := k_reg0
@[simp] theorem q32_43 : runF E n0 g c32_43 s h = seqK E n0 g .ret (runF E n0 g c32_42 s h) := k_seq
@[simp] theorem q32_44 : runF E n0 g c32_44 s h = condK E n0 g c32_43 .skip s h (get s 72) := k_cond
@[simp] theorem q32_45 : runF E n0 g c32_45 s h = seqK E n0 g c32_44 (runF E n0 g c32_41 s h) := k_seq
@[simp] theorem q32_46 : runF E n0 g c32_46 s h = regK (some [2, 3]) (runO E n0 g h.length [⟨(some 76), (.mv (.t 6)), none⟩, ⟨(some 77), (.conv .i64 (.t 76)), none⟩, ⟨(some 2), (.mv (.t 77)), none⟩, ⟨(some 3), (.mv (.c (.bool true))), none⟩] s h) := k_reg0
@[simp] theorem q32_47 : runF E n0 g c32_47 s h = seqK E n0 g .ret (runF E n0 g c32_46 s h) := k_seq
@[simp] theorem q32_48 : runF E n0 g c32_48 s h = seqK E n0 g c32_47 (runF E n0 g c32_45 s h) := k_seq
@[simp] theorem q32_49 : runF E n0 g c32_49 s h = seqK E n0 g c32_48 (runF E n0 g c32_40 s h) := k_seq
@[simp] theorem q32_50 : runF E n0 g c32_50 s h = seqK E n0 g c32_49 (runF E n0 g c32_35 s h) := k_seq
@[simp] theorem q32_51 : runF E n0 g c32_51 s h = seqK E n0 g c32_50 (runF E n0 g c32_31 s h) := k_seq
@[simp] theorem q32_52 : runF E n0 g c32_52 s h = seqK E n0 g c32_51 (runF E n0 g c32_30 s h) := k_seq
@[simp] theorem q32_53 : runF E n0 g c32_53 s h = seqK E n0 g c32_52 (runF E n0 g c32_12 s h) := k_seq
@[simp] theorem q32_54 : runF E n0 g c32_54 s h = seqK E n0 g c32_53 (runF E n0 g c32_11 s h) := k_seq
@[simp] theorem q32_55 : runF E n0 g c32_55 s h = seqK E n0 g c32_54 (runF E n0 g c32_6 s h) := k_seq
@[simp] theorem q32_56 : runF E n0 g c32_56 s h = seqK E n0 g c32_55 (runF E n0 g c32_2 s h) := k_seq
@[simp] theorem q32_57 : runF E n0 g c32_57 s h = seqK E n0 g c32_56 (runF E n0 g c32_1 s h) := k_seq
@[simp] theorem q32_58 : runF E n0 g c32_58 s h = seqK E n0 g c32_57 (runF E n0 g c32_0 s h) := k_seq
@[simp] theorem qq32 : runF E n0 g c32 s h = runF E n0 g c32_58 s h := rfl
@[simp] theorem q33_0 : runF E n0 g c33_0 s h = regK (some [0]) (runO E n0 g h.length [⟨(some 2), (.mv (.c (.str []))), none⟩] s h) := k_reg0
@[simp] theorem q33_1 : runF E n0 g c33_1 s h = regK (some [0, 4]) (runO E n0 g h.length [⟨(some 3), (.mv (.t 0)), none⟩, ⟨(some 4), (.bin .lss (.t 3) (.c (.int .i64 0))), none⟩] s h) := k_reg0
@[simp] theorem q33_2 : runF E n0 g c33_2 s h = regK (some [2]) (runO E n0 g h.length [⟨(some 5), (.mv (.t 0)), none⟩, ⟨(some 6), (.conv .u64 (.t 5)), none⟩, ⟨(some 7), (.un .neg (.t 6)), none⟩, ⟨(some 8), (.call 46 [(.t 7)]), none⟩, ⟨(some 9), (.bin .add (.c (.str [45])) (.t 8)), none⟩, ⟨(some 2), (.mv (.t 9)), none⟩] s h) := k_reg0
@[simp] theorem q33_3 : runF E n0 g c33_3 s h = seqK E n0 g .ret (runF E n0 g c33_2 s h) := k_seq
@[simp] theorem q33_4 : runF E n0 g c33_4 s h = condK E n0 g c33_3 .skip s h (get s 4) := k_cond
@[simp] theorem q33_5 : runF E n0 g c33_5 s h = seqK E n0 g c33_4 (runF E n0 g c33_1 s h) := k_seq
@[simp] theorem q33_6 : runF E n0 g c33_6 s h = regK (some [2]) (runO E n0 g h.length [⟨(some 10), (.mv (.t 0)), none⟩, ⟨(some 11), (.conv .u64 (.t 10)), none⟩, ⟨(some 12), (.call 46 [(.t 11)]), none⟩, ⟨(some 2), (.mv (.t 12)), none⟩] s h) := k_reg0
@[simp] theorem q33_7 : runF E n0 g c33_7 s h = seqK E n0 g .ret (runF E n0 g c33_6 s h) := k_seq
@[simp] theorem q33_8 : runF E n0 g c33_8 s h = seqK E n0 g c33_7 (runF E n0 g c33_5 s h) := k_seq
@[simp] theorem q33_9 : runF E n0 g c33_9 s h = seqK E n0 g c33_8 (runF E n0 g c33_0 s h) := k_seq
@[simp] theorem qq33 : runF E n0 g c33 s h = runF E n0 g c33_9 s h := rfl
@[simp] theorem q34_0 : runF E n0 g c34_0 s h = regK (some [0]) (runO E n0 g h.length [⟨(some 2), (.mv (.c (.int .i64 0))), none⟩] s h) := k_reg0
@[simp] theorem q34_1 : runF E n0 g c34_1 s h = regK (some [0, 3]) (runO E n0 g h.length [⟨(some 3), (.mv (.t 0)), none⟩] s h) := k_reg0
@[simp] theorem q34_2 : runF E n0 g c34_2 s h = regK (some [0, 3, 4]) (runO E n0 g h.length [⟨(some 5), (.bin .eql (.t 3) (.c (.int .i64 1))), none⟩, ⟨(some 4), (.mv (.t 5)), none⟩] s h) := k_reg0
@[simp] theorem q34_3 : runF E n0 g c34_3 s h = regK (some [0, 3, 4]) (runO E n0 g h.length [⟨(some 6), (.bin .eql (.t 3) (.c (.int .i64 2))), none⟩, ⟨(some 4), (.mv (.t 6)), none⟩] s h) := k_reg0
@[simp] theorem q34_4 : runF E n0 g c34_4 s h = regK (some [0, 3, 4]) (runO E n0 g h.length [⟨(some 7), (.bin .eql (.t 3) (.c (.int .i64 3))), none⟩, ⟨(some 4), (.mv (.t 7)), none⟩] s h) := k_reg0
@[simp] theorem q34_5 : runF E n0 g c34_5 s h = condK E n0 g .skip c34_4 s h (get s 4) := k_cond
@[simp] theorem q34_6 : runF E n0 g c34_6 s h = seqK E n0 g c34_5 (runF E n0 g c34_3 s h) := k_seq
@[simp] theorem q34_7 : runF E n0 g c34_7 s h = condK E n0 g .skip c34_6 s h (get s 4) := k_cond
@[simp] theorem q34_8 : runF E n0 g c34_8 s h = seqK E n0 g c34_7 (runF E n0 g c34_2 s h) := k_seq
@[simp] theorem q34_9 : runF E n0 g c34_9 s h = regK (some [2]) (runO E n0 g h.length [⟨(some 2), (.mv (.c (.int .i64 1))), none⟩] s h) := k_reg0
@[simp] theorem q34_10 : runF E n0 g c34_10 s h = seqK E n0 g .ret (runF E n0 g c34_9 s h) := k_seq
@[simp] theorem q34_11 : runF E n0 g c34_11 s h = regK (some [0, 3, 8]) (runO E n0 g h.length [⟨(some 9), (.bin .eql (.t 3) (.c (.int .i64 4))), none⟩, ⟨(some 8), (.mv (.t 9)), none⟩] s h) := k_reg0
@[simp] theorem q34_12 : runF E n0 g c34_12 s h = regK (some [0, 3, 8]) (runO E n0 g h.length [⟨(some 10), (.bin .eql (.t 3) (.c (.int .i64 5))), none⟩, ⟨(some 8), (.mv (.t 10)), none⟩] s h) := k_reg0
@[simp] theorem q34_13 : runF E n0 g c34_13 s h = condK E n0 g .skip c34_12 s h (get s 8) := k_cond
@[simp] theorem q34_14 : runF E n0 g c34_14 s h = seqK E n0 g c34_13 (runF E n0 g c34_11 s h) := k_seq
@[simp] theorem q34_15 : runF E n0 g c34_15 s h = regK (some [2]) (runO E n0 g h.length [⟨(some 2), (.mv (.c (.int .i64 8))), none⟩] s h) := k_reg0
@[simp] theorem q34_16 : runF E n0 g c34_16 s h = seqK E n0 g .ret (runF E n0 g c34_15 s h) := k_seq
@[simp] theorem q34_17 : runF E n0 g c34_17 s h = regK (some [0, 3, 11]) (runO E n0 g h.length [⟨(some 12), (.bin .eql (.t 3) (.c (.int .i64 6))), none⟩, ⟨(some 11), (.mv (.t 12)), none⟩] s h) := k_reg0
@[simp] theorem q34_18 : runF E n0 g c34_18 s h = regK (some [0, 3, 11]) (runO E n0 g h.length [⟨(some 13), (.bin .eql (.t 3) (.c (.int .i64 7))), none⟩, ⟨(some 11), (.mv (.t 13)), none⟩] s h) := k_reg0
@[simp] theorem q34_19 : runF E n0 g c34_19 s h = regK (some [0, 3, 11]) (runO E n0 g h.length [⟨(some 14), (.bin .eql (.t 3) (.c (.int .i64 8))), none⟩, ⟨(some 11), (.mv (.t 14)), none⟩] s h) := k_reg0
@[simp] theorem q34_20 : runF E n0 g c34_20 s h = regK (some [0, 3, 11]) (runO E n0 g h.length [⟨(some 15), (.bin .eql (.t 3) (.c (.int .i64 13))), none⟩, ⟨(some 11), (.mv (.t 15)), none⟩] s h) := k_reg0
@[simp] theorem q34_21 : runF E n0 g c34_21 s h = regK (some [0, 3, 11]) (runO E n0 g h.length [⟨(some 16), (.bin .eql (.t 3) (.c (.int .i64 33))), none⟩, ⟨(some 11), (.mv (.t 16)), none⟩] s h) := k_reg0
@[simp] theorem q34_22 : runF E n0 g c34_22 s h = regK (some [0, 3, 11]) (runO E n0 g h.length [⟨(some 17), (.bin .eql (.t 3) (.c (.int .i64 36))), none⟩, ⟨(some 11), (.mv (.t 17)), none⟩] s h) := k_reg0
@[simp] theorem q34_23 : runF E n0 g c34_23 s h = regK (some [0, 3, 11]) (runO E n0 g h.length [⟨(some 18), (.bin .eql (.t 3) (.c (.int .i64 37))), none⟩, ⟨(some 11), (.mv (.t 18)), none⟩] s h) := k_reg0
@[simp] theorem q34_24 : runF E n0 g c34_24 s h = condK E n0 g .skip c34_23 s h (get s 11) := k_cond
@[simp] theorem q34_25 : runF E n0 g c34_25 s h = seqK E n0 g c34_24 (runF E n0 g c34_22 s h) := k_seq
@[simp] theorem q34_26 : runF E n0 g c34_26 s h = condK E n0 g .skip c34_25 s h (get s 11) := k_cond
@[simp] theorem q34_27 : runF E n0 g c34_27 s h = seqK E n0 g c34_26 (runF E n0 g c34_21 s h) := k_seq
@[simp] theorem q34_28 : runF E n0 g c34_28 s h = condK E n0 g .skip c34_27 s h (get s 11) := k_cond
@[simp] theorem q34_29 : runF E n0 g c34_29 s h = seqK E n0 g c34_28 (runF E n0 g c34_20 s h) := k_seq
@[simp] theorem q34_30 : runF E n0 g c34_30 s h = condK E n0 g .skip c34_29 s h (get s 11) := k_cond
@[simp] theorem q34_31 : runF E n0 g c34_31 s h = seqK E n0 g c34_30 (runF E n0 g c34_19 s h) := k_seq
@[simp] theorem q34_32 : runF E n0 g c34_32 s h = condK E n0 g .skip c34_31 s h (get s 11) := k_cond
@[simp] theorem q34_33 : runF E n0 g c34_33 s h = seqK E n0 g c34_32 (runF E n0 g c34_18 s h) := k_seq
@[simp] theorem q34_34 : runF E n0 g c34_34 s h = condK E n0 g .skip c34_33 s h (get s 11) := k_cond
@[simp] theorem q34_35 : runF E n0 g c34_35 s h = seqK E n0 g c34_34 (runF E n0 g c34_17 s h) := k_seq
@[simp] theorem q34_36 : runF E n0 g c34_36 s h = regK (some [2]) (runO E n0 g h.length [⟨(some 2), (.mv (.c (.int .i64 5))), none⟩] s h) := k_reg0
@[simp] theorem q34_37 : runF E n0 g c34_37 s h = seqK E n0 g .ret (runF E n0 g c34_36 s h) := k_seq
@[simp] theorem q34_38 : runF E n0 g c34_38 s h = regK (some [0, 3, 19]) (runO E n0 g h.length [⟨(some 20), (.bin .eql (.t 3) (.c (.int .i64 9))), none⟩, ⟨(some 19), (.mv (.t 20)), none⟩] s h) := k_reg0
@[simp] theorem q34_39 : runF E n0 g c34_39 s h = regK (some [0, 3, 19]) (runO E n0 g h.length [⟨(some 21), (.bin .eql (.t 3) (.c (.int .i64 15))), none⟩, ⟨(some 19), (.mv (.t 21)), none⟩] s h) := k_reg0
@[simp] theorem q34_40 : runF E n0 g c34_40 s h = regK (some [0, 3, 19]) (runO E n0 g h.length [⟨(some 22), (.bin .eql (.t 3) (.c (.int .i64 16))), none⟩, ⟨(some 19), (.mv (.t 22)), none⟩] s h) := k_reg0
@[simp] theorem q34_41 : runF E n0 g c34_41 s h = condK E n0 g .skip c34_40 s h (get s 19) := k_cond
@[simp] theorem q34_42 : runF E n0 g c34_42 s h = seqK E n0 g c34_41 (runF E n0 g c34_39 s h) := k_seq
@[simp] theorem q34_43 : runF E n0 g c34_43 s h = condK E n0 g .skip c34_42 s h (get s 19) := k_cond
@[simp] theorem q34_44 : runF E n0 g c34_44 s h = seqK E n0 g c34_43 (runF E n0 g c34_38 s h) := k_seq
@[simp] theorem q34_45 : runF E n0 g c34_45 s h = regK (some [2]) (runO E n0 g h.length [⟨(some 2), (.mv (.c (.int .i64 2))), none⟩] s h) := k_reg0
@[simp] theorem q34_46 : runF E n0 g c34_46 s h = seqK E n0 g .ret (runF E n0 g c34_45 s h) := k_seq
@[simp] theorem q34_47 : runF E n0 g c34_47 s h = regK (some [0, 3, 23]) (runO E n0 g h.length [⟨(some 24), (.bin .eql (.t 3) (.c (.int .i64 11))), none⟩, ⟨(some 23), (.mv (.t 24)), none⟩] s h) := k_reg0
@[simp] theorem q34_48 : runF E n0 g c34_48 s h = regK (some [0, 3, 23]) (runO E n0 g h.length [⟨(some 25), (.bin .eql (.t 3) (.c (.int .i64 12))), none⟩, ⟨(some 23), (.mv (.t 25)), none⟩] s h) := k_reg0
@[simp] theorem q34_49 : runF E n0 g c34_49 s h = condK E n0 g .skip c34_48 s h (get s 23) := k_cond
@[simp] theorem q34_50 : runF E n0 g c34_50 s h = seqK E n0 g c34_49 (runF E n0 g c34_47 s h) := k_seq
@[simp] theorem q34_51 : runF E n0 g c34_51 s h = regK (some [2]) (runO E n0 g h.length [⟨(some 2), (.mv (.c (.int .i64 4))), none⟩] s h) := k_reg0
@[simp] theorem q34_52 : runF E n0 g c34_52 s h = seqK E n0 g .ret (runF E n0 g c34_51 s h) := k_seq
@[simp] theorem q34_53 : runF E n0 g c34_53 s h = regK (some [0, 3, 26]) (runO E n0 g h.length [⟨(some 27), (.bin .eql (.t 3) (.c (.int .i64 14))), none⟩, ⟨(some 26), (.mv (.t 27)), none⟩] s h) := k_reg0
@[simp] theorem q34_54 : runF E n0 g c34_54 s h = regK (some [2]) (runO E n0 g h.length [⟨(some 2), (.mv (.c (.int .i64 6))), none⟩] s h) := k_reg0
@[simp] theorem q34_55 : runF E n0 g c34_55 s h = seqK E n0 g .ret (runF E n0 g c34_54 s h) := k_seq
@[simp] theorem q34_56 : runF E n0 g c34_56 s h = regK (some [0, 3, 28]) (runO E n0 g h.length [⟨(some 29), (.bin .eql (.t 3) (.c (.int .i64 34))), none⟩, ⟨(some 28), (.mv (.t 29)), none⟩] s h) := k_reg0
@[simp] theorem q34_57 : runF E n0 g c34_57 s h = regK (some [0, 28]) (runO E n0 g h.length [⟨(some 30), (.bin .eql (.t 3) (.c (.int .i64 35))), none⟩, ⟨(some 28), (.mv (.t 30)), none⟩] s h) := k_reg0
@[simp] theorem q34_58 : runF E n0 g c34_58 s h = condK E n0 g .skip c34_57 s h (get s 28) := k_cond
@[simp] theorem q34_59 : runF E n0 g c34_59 s h = seqK E n0 g c34_58 (runF E n0 g c34_56 s h) := k_seq
@[simp] theorem q34_60 : runF E n0 g c34_60 s h = regK (some [2]) (runO E n0 g h.length [⟨(some 2), (.mv (.c (.int .i64 7))), none⟩] s h) := k_reg0
@[simp] theorem q34_61 : runF E n0 g c34_61 s h = seqK E n0 g .ret (runF E n0 g c34_60 s h) := k_seq
@[simp] theorem q34_62 : runF E n0 g c34_62 s h = condK E n0 g c34_61 .skip s h (get s 28) := k_cond
@[simp] theorem q34_63 : runF E n0 g c34_63 s h = seqK E n0 g (.seq c34_58 c34_62) (runF E n0 g c34_56 s h) := k_assoc
@[simp] theorem q34_63a : runF E n0 g (.seq c34_58 c34_62) s h = condK E n0 g c34_61 (.seq c34_57 c34_62) s h (get s 28) := k_or
@[simp] theorem q34_63ab : runF E n0 g (.seq c34_57 c34_62) s h = seqK E n0 g c34_62 (runF E n0 g c34_57 s h) := k_seq
@[simp] theorem q34_64 : runF E n0 g c34_64 s h = condK E n0 g c34_55 c34_63 s h (get s 26) := k_cond
@[simp] theorem q34_65 : runF E n0 g c34_65 s h = seqK E n0 g c34_64 (runF E n0 g c34_53 s h) := k_seq
@[simp] theorem q34_66 : runF E n0 g c34_66 s h = condK E n0 g c34_52 c34_65 s h (get s 23) := k_cond
@[simp] theorem q34_67 : runF E n0 g c34_67 s h = seqK E n0 g (.seq c34_49 c34_66) (runF E n0 g c34_47 s h) := k_assoc
@[simp] theorem q34_67a : runF E n0 g (.seq c34_49 c34_66) s h = condK E n0 g c34_52 (.seq c34_48 c34_66) s h (get s 23) := k_or
@[simp] theorem q34_67ab : runF E n0 g (.seq c34_48 c34_66) s h = seqK E n0 g c34_66 (runF E n0 g c34_48 s h) := k_seq
@[simp] theorem q34_68 : runF E n0 g c34_68 s h = condK E n0 g c34_46 c34_67 s h (get s 19) := k_cond
@[simp] theorem q34_69 : runF E n0 g c34_69 s h = seqK E n0 g (.seq c34_43 c34_68) (runF E n0 g c34_38 s h) := k_assoc
@[simp] theorem q34_69a : runF E n0 g (.seq c34_43 c34_68) s h = condK E n0 g c34_46 (.seq c34_42 c34_68) s h (get s 19) := k_or
@[simp] theorem q34_69ab : runF E n0 g (.seq c34_42 c34_68) s h = seqK E n0 g (.seq c34_41 c34_68) (runF E n0 g c34_39 s h) := k_assoc
@[simp] theorem q34_69aba : runF E n0 g (.seq c34_41 c34_68) s h = condK E n0 g c34_46 (.seq c34_40 c34_68) s h (get s 19) := k_or
@[simp] theorem q34_69abab : runF E n0 g (.seq c34_40 c34_68) s h = seqK E n0 g c34_68 (runF E n0 g c34_40 s h) := k_seq
@[simp] theorem q34_70 : runF E n0 g c34_70 s h = condK E n0 g c34_37 c34_69 s h (get s 11) := k_cond
@[simp] theorem q34_71 : runF E n0 g c34_71 s h = seqK E n0 g (.seq c34_34 c34_70) (runF E n0 g c34_17 s h) := k_assoc
@[simp] theorem q34_71a : runF E n0 g (.seq c34_34 c34_70) s h = condK E n0 g c34_37 (.seq c34_33 c34_70) s h (get s 11) := k_or
@[simp] theorem q34_71ab : runF E n0 g (.seq c34_33 c34_70) s h = seqK E n0 g (.seq c34_32 c34_70) (runF E n0 g c34_18 s h) := k_assoc
@[simp] theorem q34_71aba : runF E n0 g (.seq c34_32 c34_70) s h = condK E n0 g c34_37 (.seq c34_31 c34_70) s h (get s 11) := k_or
@[simp] theorem q34_71abab : runF E n0 g (.seq c34_31 c34_70) s h = seqK E n0 g (.seq c34_30 c34_70) (runF E n0 g c34_19 s h) := k_assoc
@[simp] theorem q34_71ababa : runF E n0 g (.seq c34_30 c34_70) s h = condK E n0 g c34_37 (.seq c34_29 c34_70) s h (get s 11) := k_or
@[simp] theorem q34_71ababab : runF E n0 g (.seq c34_29 c34_70) s h = seqK E n0 g (.seq c34_28 c34_70) (runF E n0 g c34_20 s h) := k_assoc
@[simp] theorem q34_71abababa : runF E n0 g (.seq c34_28 c34_70) s h = condK E n0 g c34_37 (.seq c34_27 c34_70) s h (get s 11) := k_or
@[simp] theorem q34_71abababab : runF E n0 g (.seq c34_27 c34_70) s h = seqK E n0 g (.seq c34_26 c34_70) (runF E n0 g c34_21 s h) := k_assoc
@[simp] theorem q34_71ababababa : runF E n0 g (.seq c34_26 c34_70) s h = condK E n0 g c34_37 (.seq c34_25 c34_70) s h (get s 11) := k_or
@[simp] theorem q34_71ababababab : runF E n0 g (.seq c34_25 c34_70) s h = seqK E n0 g (.seq c34_24 c34_70) (runF E n0 g c34_22 s h) := k_assoc
@[simp] theorem q34_71abababababa : runF E n0 g (.seq c34_24 c34_70) s h = condK E n0 g c34_37 (.seq c34_23 c34_70) s h (get s 11) := k_or
@[simp] theorem q34_71abababababab : runF E n0 g (.seq c34_23 c34_70) s h = seqK E n0 g c34_70 (runF E n0 g c34_23 s h) := k_seq
@[simp] theorem q34_72 : runF E n0 g c34_72 s h = condK E n0 g c34_16 c34_71 s h (get s 8) := k_cond
@[simp] theorem q34_73 : runF E n0 g c34_73 s h = seqK E n0 g (.seq c34_13 c34_72) (runF E n0 g c34_11 s h) := k_assoc
@[simp] theorem q34_73a : runF E n0 g (.seq c34_13 c34_72) s h = condK E n0 g c34_16 (.seq c34_12 c34_72) s h (get s 8) := k_or
@[simp] theorem q34_73ab : runF E n0 g (.seq c34_12 c34_72) s h = seqK E n0 g c34_72 (runF E n0 g c34_12 s h) := k_seq
@[simp] theorem q34_74 : runF E n0 g c34_74 s h = condK E n0 g c34_10 c34_73 s h (get s 4) := k_cond
@[simp] theorem q34_75 : runF E n0 g c34_75 s h = seqK E n0 g (.seq c34_7 c34_74) (runF E n0 g c34_2 s h) := k_assoc
@[simp] theorem q34_75a : runF E n0 g (.seq c34_7 c34_74) s h = condK E n0 g c34_10 (.seq c34_6 c34_74) s h (get s 4) := k_or
@[simp] theorem q34_75ab : runF E n0 g (.seq c34_6 c34_74) s h = seqK E n0 g (.seq c34_5 c34_74) (runF E n0 g c34_3 s h) := k_assoc
@[simp] theorem q34_75aba : runF E n0 g (.seq c34_5 c34_74) s h = condK E n0 g c34_10 (.seq c34_4 c34_74) s h (get s 4) := k_or
@[simp] theorem q34_75abab : runF E n0 g (.seq c34_4 c34_74) s h = seqK E n0 g c34_74 (runF E n0 g c34_4 s h) := k_seq
@[simp] theorem q34_76 : runF E n0 g c34_76 s h = blkK (some [0]) 0 (runF E n0 g c34_75 s h) := k_block
@[simp] theorem q34_77 : runF E n0 g c34_77 s h = seqK E n0 g c34_76 (runF E n0 g c34_1 s h) := k_seq
@[simp] theorem q34_78 : runF E n0 g c34_78 s h = regK (some [36]) (runO E n0 g h.length [⟨(some 31), (.mv (.t 0)), none⟩, ⟨(some 32), (.bin .eql (.t 31) (.c (.int .i64 10))), none⟩, ⟨(some 33), (.mv (.t 32)), none⟩, ⟨(some 34), (.mv (.t 0)), (some (33, false))⟩, ⟨(some 35), (.call 36 [(.t 34)]), (some (33, false))⟩, ⟨(some 36), (.pick (.t 33) (.c (.bool true)) (.t 35)), none⟩] s h) := k_reg0
@[simp] theorem q34_79 : runF E n0 g c34_79 s h = regK (some [2]) (runO E n0 g h.length [⟨(some 2), (.mv (.c (.int .i64 3))), none⟩] s h) := k_reg0
@[simp] theorem q34_80 : runF E n0 g c34_80 s h = seqK E n0 g .ret (runF E n0 g c34_79 s h) := k_seq
@[simp] theorem q34_81 : runF E n0 g c34_81 s h = condK E n0 g c34_80 .skip s h (get s 36) := k_cond
@[simp] theorem q34_82 : runF E n0 g c34_82 s h = seqK E n0 g c34_81 (runF E n0 g c34_78 s h) := k_seq
@[simp] theorem q34_83 : runF E n0 g c34_83 s h = regK (some [2]) (runO E n0 g h.length [⟨(some 2), (.mv (.c (.int .i64 0))), none⟩] s h) := k_reg0
@[simp] theorem q34_84 : runF E n0 g c34_84 s h = seqK E n0 g .ret (runF E n0 g c34_83 s h) := k_seq
@[simp] theorem q34_85 : runF E n0 g c34_85 s h = seqK E n0 g c34_84 (runF E n0 g c34_82 s h) := k_seq
@[simp] theorem q34_86 : runF E n0 g c34_86 s h = seqK E n0 g c34_85 (runF E n0 g c34_77 s h) := k_seq
@[simp] theorem q34_87 : runF E n0 g c34_87 s h = seqK E n0 g c34_86 (runF E n0 g c34_0 s h) := k_seq
@[simp] theorem qq34 : runF E n0 g c34 s h = runF E n0 g c34_87 s h := rfl
@[simp] theorem q36_0 : runF E n0 g c36_0 s h = regK (some [0]) (runO E n0 g h.length [⟨(some 2), (.mv (.c (.bool false))), none⟩] s h) := k_reg0
@[simp] theorem q36_1 : runF E n0 g c36_1 s h = regK (some [2]) (runO E n0 g h.length [⟨(some 3), (.mv (.t 0)), none⟩, ⟨(some 4), (.bin .geq (.t 3) (.c (.int .i64 17))), none⟩, ⟨(some 5), (.mv (.t 4)), none⟩, ⟨(some 6), (.mv (.t 0)), (some (5, true))⟩, ⟨(some 7), (.bin .leq (.t 6) (.c (.int .i64 32))), (some (5, true))⟩, ⟨(some 8), (.pick (.t 5) (.t 7) (.c (.bool false))), none⟩, ⟨(some 2), (.mv (.t 8)), none⟩] s h) := k_reg0
@[simp] theorem q36_2 : runF E n0 g c36_2 s h = seqK E n0 g .ret (runF E n0 g c36_1 s h) := k_seq
@[simp] theorem q36_3 : runF E n0 g c36_3 s h = seqK E n0 g c36_2 (runF E n0 g c36_0 s h) := k_seq
@[simp] theorem qq36 : runF E n0 g c36 s h = runF E n0 g c36_3 s h := rfl
@[simp] theorem q37_0 : runF E n0 g c37_0 s h = regK (some [0, 1]) (runO E n0 g h.length [⟨(some 4), (.mv (.c (.int .i64 0))), none⟩] s h) := k_reg0
@[simp] theorem q37_1 : runF E n0 g c37_1 s h = regK (some [0, 1, 5]) (runO E n0 g h.length [⟨(some 6), (.mv (.t 0)), none⟩, ⟨(some 7), (.nilc (.t 6)), none⟩, ⟨(some 8), (.fa 0 (.t 7)), none⟩, ⟨(some 9), (.ld false 1 (.t 8)), none⟩, ⟨(some 10), (.mv (.t 1)), none⟩, ⟨(some 11), (.call 21 [(.t 9), (.t 10)]), none⟩, ⟨(some 5), (.mv (.t 11)), none⟩] s h) := k_reg0
@[simp] theorem q37_2 : runF E n0 g c37_2 s h = regK (some [5]) (runO E n0 g h.length [⟨(some 12), (.mv (.t 0)), none⟩, ⟨(some 13), (.mv (.t 0)), none⟩, ⟨(some 14), (.nilc (.t 13)), none⟩, ⟨(some 15), (.fa 0 (.t 14)), none⟩, ⟨(some 16), (.ld false 1 (.t 15)), none⟩, ⟨(some 17), (.mv (.t 5)), none⟩, ⟨(some 18), (.bin .sub (.t 16) (.t 17)), none⟩, ⟨(some 19), (.mv (.t 1)), none⟩, ⟨(some 20), (.bin .quo (.t 18) (.t 19)), none⟩, ⟨(some 21), (.nilc (.t 12)), none⟩, ⟨(some 22), (.fa 0 (.t 21)), none⟩, ⟨none, (.st 1 (.t 22) (.t 20)), none⟩] s h) := k_reg0
@[simp] theorem q37_3 : runF E n0 g c37_3 s h = regK (some [4]) (runO E n0 g h.length [⟨(some 23), (.mv (.t 5)), none⟩, ⟨(some 4), (.mv (.t 23)), none⟩] s h) := k_reg0
@[simp] theorem q37_4 : runF E n0 g c37_4 s h = seqK E n0 g .ret (runF E n0 g c37_3 s h) := k_seq
@[simp] theorem q37_5 : runF E n0 g c37_5 s h = seqK E n0 g c37_4 (runF E n0 g c37_2 s h) := k_seq
@[simp] theorem q37_6 : runF E n0 g c37_6 s h = seqK E n0 g c37_5 (runF E n0 g c37_1 s h) := k_seq
@[simp] theorem q37_7 : runF E n0 g c37_7 s h = seqK E n0 g c37_6 (runF E n0 g c37_0 s h) := k_seq
@[simp] theorem qq37 : runF E n0 g c37 s h = runF E n0 g c37_7 s h := rfl
@[simp] theorem q38_0 : runF E n0 g c38_0 s h = regK (some [0, 1]) (runO E n0 g h.length [⟨(some 4), (.mv (.c (.int .i64 0))), none⟩] s h) := k_reg0
@[simp] theorem q38_1 : runF E n0 g c38_1 s h = regK (some [0, 1, 5]) (runO E n0 g h.length [⟨(some 7), (.bsl 1 (.int .i64 0) 10 [(0, (.c (.int .i64 0))), (1, (.c (.int .i64 1))), (2, (.c (.int .i64 (-1)))), (3, (.c (.int .i64 2))), (4, (.c (.int .i64 (-9223372036854775808)))), (5, (.c (.int .i64 9223372036854775807))), (6, (.c (.int .i64 4294967296))), (7, (.c (.int .i64 (-2147483648)))), (8, (.c (.int .i64 63))), (9, (.c (.int .i64 64)))]), none⟩, ⟨(some 5), (.mv (.t 7)), none⟩] s h) := k_reg0
@[simp] theorem q38_2 : runF E n0 g c38_2 s h = regK (some [0, 1, 5, 6]) (runO E n0 g h.length [⟨(some 8), (.mv (.t 0)), none⟩, ⟨(some 9), (.call 21 [(.t 8), (.c (.int .i64 24))]), none⟩, ⟨(some 6), (.mv (.t 9)), none⟩] s h) := k_reg0
@[simp] theorem q38_3 : runF E n0 g c38_3 s h = regK (some [0, 1, 5, 6, 10]) (runO E n0 g h.length [⟨(some 11), (.mv (.t 6)), none⟩, ⟨(some 12), (.bin .lss (.t 11) (.c (.int .i64 10))), none⟩, ⟨(some 10), (.mv (.t 12)), none⟩] s h) := k_reg0
@[simp] theorem q38_4 : runF E n0 g c38_4 s h = regK (some [4]) (runO E n0 g h.length [⟨(some 13), (.mv (.t 5)), none⟩, ⟨(some 14), (.mv (.t 6)), none⟩, ⟨(some 15), (.ia 1 (.t 13) (.t 14)), none⟩, ⟨(some 16), (.ld false 1 (.t 15)), none⟩, ⟨(some 4), (.mv (.t 16)), none⟩] s h) := k_reg0
@[simp] theorem q38_5 : runF E n0 g c38_5 s h = seqK E n0 g .ret (runF E n0 g c38_4 s h) := k_seq
@[simp] theorem q38_6 : runF E n0 g c38_6 s h = regK (some [0, 1, 17]) (runO E n0 g h.length [⟨(some 18), (.mv (.t 6)), none⟩, ⟨(some 19), (.bin .lss (.t 18) (.c (.int .i64 22))), none⟩, ⟨(some 17), (.mv (.t 19)), none⟩] s h) := k_reg0
@[simp] theorem q38_7 : runF E n0 g c38_7 s h = regK (some [4]) (runO E n0 g h.length [⟨(some 20), (.mv (.t 0)), none⟩, ⟨(some 21), (.bin .quo (.t 20) (.c (.int .i64 24))), none⟩, ⟨(some 22), (.call 21 [(.t 21), (.c (.int .i64 17))]), none⟩, ⟨(some 23), (.bin .sub (.t 22) (.c (.int .i64 6))), none⟩, ⟨(some 4), (.mv (.t 23)), none⟩] s h) := k_reg0
@[simp] theorem q38_8 : runF E n0 g c38_8 s h = seqK E n0 g .ret (runF E n0 g c38_7 s h) := k_seq
@[simp] theorem q38_9 : runF E n0 g c38_9 s h = condK E n0 g c38_8 .skip s h (get s 17) := k_cond
@[simp] theorem q38_10 : runF E n0 g c38_10 s h = seqK E n0 g c38_9 (runF E n0 g c38_6 s h) := k_seq
@[simp] theorem q38_11 : runF E n0 g c38_11 s h = condK E n0 g c38_5 c38_10 s h (get s 10) := k_cond
@[simp] theorem q38_12 : runF E n0 g c38_12 s h = seqK E n0 g c38_11 (runF E n0 g c38_3 s h) := k_seq
@[simp] theorem q38_13 : runF E n0 g c38_13 s h = blkK (some [1]) 0 (runF E n0 g c38_12 s h) := k_block
@[simp] theorem q38_14 : runF E n0 g c38_14 s h = regK (some [4]) (runO E n0 g h.length [⟨(some 24), (.mv (.t 1)), none⟩, ⟨(some 4), (.mv (.t 24)), none⟩] s h) := k_reg0
@[simp] theorem q38_15 : runF E n0 g c38_15 s h = seqK E n0 g .ret (runF E n0 g c38_14 s h) := k_seq
@[simp] theorem q38_16 : runF E n0 g c38_16 s h = seqK E n0 g c38_15 (runF E n0 g c38_13 s h) := k_seq
@[simp] theorem q38_17 : runF E n0 g c38_17 s h = seqK E n0 g c38_16 (runF E n0 g c38_2 s h) := k_seq
@[simp] theorem q38_18 : runF E n0 g c38_18 s h = seqK E n0 g c38_17 (runF E n0 g c38_1 s h) := k_seq
@[simp] theorem q38_19 : runF E n0 g c38_19 s h = seqK E n0 g c38_18 (runF E n0 g c38_0 s h) := k_seq
@[simp] theorem qq38 : runF E n0 g c38 s h = runF E n0 g c38_19 s h := rfl
@[simp] theorem q39_0 : runF E n0 g c39_0 s h = regK (some [0]) (runO E n0 g h.length [⟨(some 2), (.mv (.c (.str []))), none⟩] s h) := k_reg0
@[simp] theorem q39_1 : runF E n0 g c39_1 s h = regK (some [0, 3]) (runO E n0 g h.length [⟨(some 5), (.mv (.t 0)), none⟩, ⟨(some 6), (.conv .u64 (.t 5)), none⟩, ⟨(some 3), (.mv (.t 6)), none⟩] s h) := k_reg0
@[simp] theorem q39_2 : runF E n0 g c39_2 s h = regK (some [0, 3, 8]) (runO E n0 g h.length [⟨(some 7), (.mv (.t 0)), none⟩, ⟨(some 8), (.bin .lss (.t 7) (.c (.int .i64 0))), none⟩] s h) := k_reg0
@[simp] theorem q39_3 : runF E n0 g c39_3 s h = regK (some [0, 3]) (runO E n0 g h.length [⟨(some 9), (.mv (.t 3)), none⟩, ⟨(some 10), (.un .neg (.t 9)), none⟩, ⟨(some 3), (.mv (.t 10)), none⟩] s h) := k_reg0
@[simp] theorem q39_4 : runF E n0 g c39_4 s h = condK E n0 g c39_3 .skip s h (get s 8) := k_cond
@[simp] theorem q39_5 : runF E n0 g c39_5 s h = seqK E n0 g c39_4 (runF E n0 g c39_2 s h) := k_seq
@[simp] theorem q39_6 : runF E n0 g c39_6 s h = regK (some [0, 3, 4]) (runO E n0 g h.length [⟨(some 4), (.mv (.c (.str []))), none⟩] s h) := k_reg0
@[simp] theorem q39_7 : runF E n0 g c39_7 s h = regK (some [0, 3, 4, 16]) (runO E n0 g h.length [⟨(some 11), (.mv (.t 3)), none⟩, ⟨(some 12), (.bin .gtr (.t 11) (.c (.int .u64 0))), none⟩, ⟨(some 13), (.mv (.t 12)), none⟩, ⟨(some 14), (.mv (.t 4)), (some (13, false))⟩, ⟨(some 15), (.bin .eql (.t 14) (.c (.str []))), (some (13, false))⟩, ⟨(some 16), (.pick (.t 13) (.c (.bool true)) (.t 15)), none⟩] s h) := k_reg0
@[simp] theorem q39_8 : runF E n0 g c39_8 s h = condK E n0 g .skip (.exit 0) s h (get s 16) := k_cond
@[simp] theorem q39_9 : runF E n0 g c39_9 s h = seqK E n0 g c39_8 (runF E n0 g c39_7 s h) := k_seq
@[simp] theorem q39_10 : runF E n0 g c39_10 s h = regK (some [0, 3, 4]) (runO E n0 g h.length [⟨(some 17), (.mv (.t 3)), none⟩, ⟨(some 18), (.bin .rem (.t 17) (.c (.int .u64 10))), none⟩, ⟨(some 19), (.bin .add (.c (.int .u64 48)) (.t 18)), none⟩, ⟨(some 20), (.conv .u8 (.t 19)), none⟩, ⟨(some 21), (.bsl 1 (.int .u8 0) 1 [(0, (.t 20))]), none⟩, ⟨(some 22), (.b2s (.t 21)), none⟩, ⟨(some 23), (.mv (.t 4)), none⟩, ⟨(some 24), (.bin .add (.t 22) (.t 23)), none⟩, ⟨(some 4), (.mv (.t 24)), none⟩] s h) := k_reg0
@[simp] theorem q39_11 : runF E n0 g c39_11 s h = regK (some [0, 3, 4]) (runO E n0 g h.length [⟨(some 25), (.mv (.t 3)), none⟩, ⟨(some 26), (.bin .quo (.t 25) (.c (.int .u64 10))), none⟩, ⟨(some 3), (.mv (.t 26)), none⟩] s h) := k_reg0
@[simp] theorem q39_12 : runF E n0 g c39_12 s h = seqK E n0 g c39_11 (runF E n0 g c39_10 s h) := k_seq
@[simp] theorem q39_13 : runF E n0 g c39_13 s h = blkK (some [0, 3, 4]) 1 (runF E n0 g c39_12 s h) := k_block
@[simp] theorem q39_14 : runF E n0 g c39_14 s h = seqK E n0 g c39_13 (runF E n0 g c39_9 s h) := k_seq
theorem q39_15 : runF E n0 g c39_15 s h = loopK E n0 g (some [0, 3, 4]) c39_14 (runF E n0 g c39_14 (clearO (some [0, 3, 4]) s) h) := k_loop
@[simp] theorem q39_15L : runF E n0 g (.loop (some [0, 3, 4]) c39_14) s h = runF E n0 g c39_15 s h := rfl
@[simp] theorem q39_16 : runF E n0 g c39_16 s h = blkK (some [0, 4]) 0 (runF E n0 g c39_15 s h) := k_block
@[simp] theorem q39_17 : runF E n0 g c39_17 s h = regK (some [4, 28]) (runO E n0 g h.length [⟨(some 27), (.mv (.t 0)), none⟩, ⟨(some 28), (.bin .lss (.t 27) (.c (.int .i64 0))), none⟩] s h) := k_reg0
@[simp] theorem q39_18 : runF E n0 g c39_18 s h = regK (some [2]) (runO E n0 g h.length [⟨(some 29), (.mv (.t 4)), none⟩, ⟨(some 30), (.bin .add (.c (.str [45])) (.t 29)), none⟩, ⟨(some 2), (.mv (.t 30)), none⟩] s h) := k_reg0
@[simp] theorem q39_19 : runF E n0 g c39_19 s h = seqK E n0 g .ret (runF E n0 g c39_18 s h) := k_seq
@[simp] theorem q39_20 : runF E n0 g c39_20 s h = condK E n0 g c39_19 .skip s h (get s 28) := k_cond
@[simp] theorem q39_21 : runF E n0 g c39_21 s h = seqK E n0 g c39_20 (runF E n0 g c39_17 s h) := k_seq
@[simp] theorem q39_22 : runF E n0 g c39_22 s h = regK (some [2]) (runO E n0 g h.length [⟨(some 31), (.mv (.t 4)), none⟩, ⟨(some 2), (.mv (.t 31)), none⟩] s h) := k_reg0
@[simp] theorem q39_23 : runF E n0 g c39_23 s h = seqK E n0 g .ret (runF E n0 g c39_22 s h) := k_seq
@[simp] theorem q39_24 : runF E n0 g c39_24 s h = seqK E n0 g c39_23 (runF E n0 g c39_21 s h) := k_seq
@[simp] theorem q39_25 : runF E n0 g c39_25 s h = seqK E n0 g c39_24 (runF E n0 g c39_16 s h) := k_seq
@[simp] theorem q39_26 : runF E n0 g c39_26 s h = seqK E n0 g c39_25 (runF E n0 g c39_6 s h) := k_seq
@[simp] theorem q39_27 : runF E n0 g c39_27 s h = seqK E n0 g c39_26 (runF E n0 g c39_5 s h) := k_seq
@[simp] theorem q39_28 : runF E n0 g c39_28 s h = seqK E n0 g c39_27 (runF E n0 g c39_1 s h) := k_seq
@[simp] theorem q39_29 : runF E n0 g c39_29 s h = seqK E n0 g c39_28 (runF E n0 g c39_0 s h) := k_seq
@[simp] theorem qq39 : runF E n0 g c39 s h = runF E n0 g c39_29 s h := rfl
@[simp] theorem q40_0 : runF E n0 g c40_0 s h = regK (some [0]) (runO E n0 g h.length [⟨(some 2), (.mv (.c (.sl .full []))), none⟩] s h) := k_reg0
@[simp] theorem q40_1 : runF E n0 g c40_1 s h = regK (some [0, 3]) (runO E n0 g h.length [⟨(some 3), (.mv (.c (.sl .full []))), none⟩] s h) := k_reg0
@[simp] theorem q40_2 : runF E n0 g c40_2 s h = regK (some [0, 3, 4]) (runO E n0 g h.length [⟨(some 4), (.mv (.c (.int .i64 0))), none⟩] s h) := k_reg0
@[simp] theorem q40_3 : runF E n0 g c40_3 s h = regK (some [0, 3, 4, 5]) (runO E n0 g h.length [⟨(some 5), (.mv (.c (.int .i64 0))), none⟩] s h) := k_reg0
@[simp] theorem q40_4 : runF E n0 g c40_4 s h = regK (some [0, 3, 4, 5, 10]) (runO E n0 g h.length [⟨(some 6), (.mv (.t 5)), none⟩, ⟨(some 7), (.bin .add (.t 6) (.c (.int .i64 1))), none⟩, ⟨(some 8), (.mv (.t 0)), none⟩, ⟨(some 9), (.lens (.t 8)), none⟩, ⟨(some 10), (.bin .lss (.t 7) (.t 9)), none⟩] s h) := k_reg0
@[simp] theorem q40_5 : runF E n0 g c40_5 s h = condK E n0 g .skip (.exit 0) s h (get s 10) := k_cond
@[simp] theorem q40_6 : runF E n0 g c40_6 s h = seqK E n0 g c40_5 (runF E n0 g c40_4 s h) := k_seq
@[simp] theorem q40_7 : runF E n0 g c40_7 s h = regK (some [0, 3, 4, 5, 23]) (runO E n0 g h.length [⟨(some 13), (.mv (.t 0)), none⟩, ⟨(some 14), (.mv (.t 5)), none⟩, ⟨(some 15), (.ixs (.t 13) (.t 14)), none⟩, ⟨(some 16), (.bin .eql (.t 15) (.c (.int .u8 44))), none⟩, ⟨(some 17), (.mv (.t 16)), none⟩, ⟨(some 18), (.mv (.t 0)), (some (17, true))⟩, ⟨(some 19), (.mv (.t 5)), (some (17, true))⟩, ⟨(some 20), (.bin .add (.t 19) (.c (.int .i64 1))), (some (17, true))⟩, ⟨(some 21), (.ixs (.t 18) (.t 20)), (some (17, true))⟩, ⟨(some 22), (.bin .eql (.t 21) (.c (.int .u8 32))), (some (17, true))⟩, ⟨(some 23), (.pick (.t 17) (.t 22) (.c (.bool false))), none⟩] s h) := k_reg0
@[simp] theorem q40_8 : runF E n0 g c40_8 s h = regK (some [0, 3, 5]) (runO E n0 g h.length [⟨(some 24), (.mv (.t 3)), none⟩, ⟨(some 25), (.mv (.t 0)), none⟩, ⟨(some 26), (.mv (.t 4)), none⟩, ⟨(some 27), (.mv (.t 5)), none⟩, ⟨(some 28), (.sls (.t 25) (some (.t 26)) (some (.t 27))), none⟩, ⟨(some 29), (.bsl 1 (.str []) 1 [(0, (.t 28))]), none⟩, ⟨(some 30), (.app 0 1 16 (.t 24) (.t 29)), none⟩, ⟨(some 3), (.mv (.t 30)), none⟩] s (h ++ [.dead])) := k_reg
@[simp] theorem q40_9 : runF E n0 g c40_9 s h = regK (some [0, 3, 4, 5]) (runO E n0 g h.length [⟨(some 31), (.mv (.t 5)), none⟩, ⟨(some 32), (.bin .add (.t 31) (.c (.int .i64 2))), none⟩, ⟨(some 4), (.mv (.t 32)), none⟩] s h) := k_reg0
@[simp] theorem q40_10 : runF E n0 g c40_10 s h = seqK E n0 g c40_9 (runF E n0 g c40_8 s h) := k_seq
@[simp] theorem q40_11 : runF E n0 g c40_11 s h = condK E n0 g c40_10 .skip s h (get s 23) := k_cond
@[simp] theorem q40_12 : runF E n0 g c40_12 s h = seqK E n0 g c40_11 (runF E n0 g c40_7 s h) := k_seq
@[simp] theorem q40_13 : runF E n0 g c40_13 s h = blkK (some [0, 3, 4, 5]) 1 (runF E n0 g c40_12 s h) := k_block
@[simp] theorem q40_14 : runF E n0 g c40_14 s h = regK (some [0, 3, 4, 5]) (runO E n0 g h.length [⟨(some 11), (.mv (.t 5)), none⟩, ⟨(some 12), (.bin .add (.t 11) (.c (.int .i64 1))), none⟩, ⟨(some 5), (.mv (.t 12)), none⟩] s h) := k_reg0
@[simp] theorem q40_15 : runF E n0 g c40_15 s h = seqK E n0 g c40_14 (runF E n0 g c40_13 s h) := k_seq
@[simp] theorem q40_16 : runF E n0 g c40_16 s h = seqK E n0 g c40_15 (runF E n0 g c40_6 s h) := k_seq
theorem q40_17 : runF E n0 g c40_17 s h = loopK E n0 g (some [0, 3, 4, 5]) c40_16 (runF E n0 g c40_16 (clearO (some [0, 3, 4, 5]) s) h) := k_loop
@[simp] theorem q40_17L : runF E n0 g (.loop (some [0, 3, 4, 5]) c40_16) s h = runF E n0 g c40_17 s h := rfl
@[simp] theorem q40_18 : runF E n0 g c40_18 s h = blkK (some [0, 3, 4]) 0 (runF E n0 g c40_17 s h) := k_block
@[simp] theorem q40_19 : runF E n0 g c40_19 s h = seqK E n0 g c40_18 (runF E n0 g c40_3 s h) := k_seq
@[simp] theorem q40_20 : runF E n0 g c40_20 s h = regK (some [2]) (runO E n0 g h.length [⟨(some 33), (.mv (.t 3)), none⟩, ⟨(some 34), (.mv (.t 0)), none⟩, ⟨(some 35), (.mv (.t 4)), none⟩, ⟨(some 36), (.sls (.t 34) (some (.t 35)) none), none⟩, ⟨(some 37), (.bsl 1 (.str []) 1 [(0, (.t 36))]), none⟩, ⟨(some 38), (.app 0 1 16 (.t 33) (.t 37)), none⟩, ⟨(some 2), (.mv (.t 38)), none⟩] s (h ++ [.dead])) := k_reg
@[simp] theorem q40_21 : runF E n0 g c40_21 s h = seqK E n0 g .ret (runF E n0 g c40_20 s h) := k_seq
@[simp] theorem q40_22 : runF E n0 g c40_22 s h = seqK E n0 g c40_21 (runF E n0 g c40_19 s h) := k_seq
@[simp] theorem q40_23 : runF E n0 g c40_23 s h = seqK E n0 g c40_22 (runF E n0 g c40_2 s h) := k_seq
@[simp] theorem q40_24 : runF E n0 g c40_24 s h = seqK E n0 g c40_23 (runF E n0 g c40_1 s h) := k_seq
@[simp] theorem q40_25 : runF E n0 g c40_25 s h = seqK E n0 g c40_24 (runF E n0 g c40_0 s h) := k_seq
@[simp] theorem qq40 : runF E n0 g c40 s h = runF E n0 g c40_25 s h := rfl
@[simp] theorem q41_0 : runF E n0 g c41_0 s h = regK (some [0]) (runO E n0 g h.length [⟨(some 2), (.mv (.c (.int .i64 0))), none⟩, ⟨(some 3), (.mv (.c (.bool false))), none⟩] s h) := k_reg0
@[simp] theorem q41_1 : runF E n0 g c41_1 s h = regK (some [0, 4]) (runO E n0 g h.length [⟨(some 4), (.mv (.c (.int .u64 0))), none⟩] s h) := k_reg0
@[simp] theorem q41_2 : runF E n0 g c41_2 s h = regK (some [0, 4, 5]) (runO E n0 g h.length [⟨(some 5), (.mv (.c (.int .i64 0))), none⟩] s h) := k_reg0
@[simp] theorem q41_3 : runF E n0 g c41_3 s h = regK (some [0, 4, 5, 15]) (runO E n0 g h.length [⟨(some 8), (.mv (.t 0)), none⟩, ⟨(some 9), (.lens (.t 8)), none⟩, ⟨(some 10), (.bin .gtr (.t 9) (.c (.int .i64 0))), none⟩, ⟨(some 11), (.mv (.t 10)), none⟩, ⟨(some 12), (.mv (.t 0)), (some (11, true))⟩, ⟨(some 13), (.ixs (.t 12) (.c (.int .i64 0))), (some (11, true))⟩, ⟨(some 14), (.bin .eql (.t 13) (.c (.int .u8 45))), (some (11, true))⟩, ⟨(some 15), (.pick (.t 11) (.t 14) (.c (.bool false))), none⟩] s h) := k_reg0
@[simp] theorem q41_4 : runF E n0 g c41_4 s h = regK (some [0, 4, 5]) (runO E n0 g h.length [⟨(some 5), (.mv (.c (.int .i64 1))), none⟩] s h) := k_reg0
@[simp] theorem q41_5 : runF E n0 g c41_5 s h = condK E n0 g c41_4 .skip s h (get s 15) := k_cond
@[simp] theorem q41_6 : runF E n0 g c41_6 s h = seqK E n0 g c41_5 (runF E n0 g c41_3 s h) := k_seq
@[simp] theorem q41_7 : runF E n0 g c41_7 s h = regK (some [0, 4, 5, 24]) (runO E n0 g h.length [⟨(some 16), (.mv (.t 0)), none⟩, ⟨(some 17), (.lens (.t 16)), none⟩, ⟨(some 18), (.mv (.t 5)), none⟩, ⟨(some 19), (.bin .eql (.t 17) (.t 18)), none⟩, ⟨(some 20), (.mv (.t 19)), none⟩, ⟨(some 21), (.mv (.t 0)), (some (20, false))⟩, ⟨(some 22), (.lens (.t 21)), (some (20, false))⟩, ⟨(some 23), (.bin .gtr (.t 22) (.c (.int .i64 20))), (some (20, false))⟩, ⟨(some 24), (.pick (.t 20) (.c (.bool true)) (.t 23)), none⟩] s h) := k_reg0
@[simp] theorem q41_8 : runF E n0 g c41_8 s h = regK (some [2, 3]) (runO E n0 g h.length [⟨(some 2), (.mv (.c (.int .i64 0))), none⟩, ⟨(some 3), (.mv (.c (.bool false))), none⟩] s h) := k_reg0
@[simp] theorem q41_9 : runF E n0 g c41_9 s h = seqK E n0 g .ret (runF E n0 g c41_8 s h) := k_seq
@[simp] theorem q41_10 : runF E n0 g c41_10 s h = condK E n0 g c41_9 .skip s h (get s 24) := k_cond
@[simp] theorem q41_11 : runF E n0 g c41_11 s h = seqK E n0 g c41_10 (runF E n0 g c41_7 s h) := k_seq
@[simp] theorem q41_12 : runF E n0 g c41_12 s h = regK (some [0, 4, 5, 6]) (runO E n0 g h.length [⟨(some 25), (.mv (.t 5)), none⟩, ⟨(some 6), (.mv (.t 25)), none⟩] s h) := k_reg0
@[simp] theorem q41_13 : runF E n0 g c41_13 s h = regK (some [0, 4, 5, 6, 29]) (runO E n0 g h.length [⟨(some 26), (.mv (.t 6)), none⟩, ⟨(some 27), (.mv (.t 0)), none⟩, ⟨(some 28), (.lens (.t 27)), none⟩, ⟨(some 29), (.bin .lss (.t 26) (.t 28)), none⟩] s h) := k_reg0
@[simp] theorem q41_14 : runF E n0 g c41_14 s h = condK E n0 g .skip (.exit 0) s h (get s 29) := k_cond
@[simp] theorem q41_15 : runF E n0 g c41_15 s h = seqK E n0 g c41_14 (runF E n0 g c41_13 s h) := k_seq
@[simp] theorem q41_16 : runF E n0 g c41_16 s h = regK (some [0, 4, 5, 6, 41]) (runO E n0 g h.length [⟨(some 32), (.mv (.t 0)), none⟩, ⟨(some 33), (.mv (.t 6)), none⟩, ⟨(some 34), (.ixs (.t 32) (.t 33)), none⟩, ⟨(some 35), (.bin .lss (.t 34) (.c (.int .u8 48))), none⟩, ⟨(some 36), (.mv (.t 35)), none⟩, ⟨(some 37), (.mv (.t 0)), (some (36, false))⟩, ⟨(some 38), (.mv (.t 6)), (some (36, false))⟩, ⟨(some 39), (.ixs (.t 37) (.t 38)), (some (36, false))⟩, ⟨(some 40), (.bin .gtr (.t 39) (.c (.int .u8 57))), (some (36, false))⟩, ⟨(some 41), (.pick (.t 36) (.c (.bool true)) (.t 40)), none⟩] s h) := k_reg0
@[simp] theorem q41_17 : runF E n0 g c41_17 s h = regK (some [2, 3]) (runO E n0 g h.length [⟨(some 2), (.mv (.c (.int .i64 0))), none⟩, ⟨(some 3), (.mv (.c (.bool false))), none⟩] s h) := k_reg0
@[simp] theorem q41_18 : runF E n0 g c41_18 s h = seqK E n0 g .ret (runF E n0 g c41_17 s h) := k_seq
@[simp] theorem q41_19 : runF E n0 g c41_19 s h = condK E n0 g c41_18 .skip s h (get s 41) := k_cond
@[simp] theorem q41_20 : runF E n0 g c41_20 s h = seqK E n0 g c41_19 (runF E n0 g c41_16 s h) := k_seq
@[simp] theorem q41_21 : runF E n0 g c41_21 s h = regK (some [0, 4, 5, 6]) (runO E n0 g h.length [⟨(some 42), (.mv (.t 4)), none⟩, ⟨(some 43), (.bin .mul (.t 42) (.c (.int .u64 10))), none⟩, ⟨(some 44), (.mv (.t 0)), none⟩, ⟨(some 45), (.mv (.t 6)), none⟩, ⟨(some 46), (.ixs (.t 44) (.t 45)), none⟩, ⟨(some 47), (.bin .sub (.t 46) (.c (.int .u8 48))), none⟩, ⟨(some 48), (.conv .u64 (.t 47)), none⟩, ⟨(some 49), (.bin .add (.t 43) (.t 48)), none⟩, ⟨(some 4), (.mv (.t 49)), none⟩] s h) := k_reg0
@[simp] theorem q41_22 : runF E n0 g c41_22 s h = seqK E n0 g c41_21 (runF E n0 g c41_20 s h) := k_seq
@[simp] theorem q41_23 : runF E n0 g c41_23 s h = blkK (some [0, 4, 5, 6]) 1 (runF E n0 g c41_22 s h) := k_block
@[simp] theorem q41_24 : runF E n0 g c41_24 s h = regK (some [0, 4, 5, 6]) (runO E n0 g h.length [⟨(some 30), (.mv (.t 6)), none⟩, ⟨(some 31), (.bin .add (.t 30) (.c (.int .i64 1))), none⟩, ⟨(some 6), (.mv (.t 31)), none⟩] s h) := k_reg0
@[simp] theorem q41_25 : runF E n0 g c41_25 s h = seqK E n0 g c41_24 (runF E n0 g c41_23 s h) := k_seq
@[simp] theorem q41_26 : runF E n0 g c41_26 s h = seqK E n0 g c41_25 (runF E n0 g c41_15 s h) := k_seq
theorem q41_27 : runF E n0 g c41_27 s h = loopK E n0 g (some [0, 4, 5, 6]) c41_26 (runF E n0 g c41_26 (clearO (some [0, 4, 5, 6]) s) h) := k_loop
@[simp] theorem q41_27L : runF E n0 g (.loop (some [0, 4, 5, 6]) c41_26) s h = runF E n0 g c41_27 s h := rfl
@[simp] theorem q41_28 : runF E n0 g c41_28 s h = blkK (some [0, 4, 5]) 0 (runF E n0 g c41_27 s h) := k_block
@[simp] theorem q41_29 : runF E n0 g c41_29 s h = seqK E n0 g c41_28 (runF E n0 g c41_12 s h) := k_seq
@[simp] theorem q41_30 : runF E n0 g c41_30 s h = regK (some [0, 5, 7]) (runO E n0 g h.length [⟨(some 50), (.mv (.t 4)), none⟩, ⟨(some 51), (.conv .i64 (.t 50)), none⟩, ⟨(some 7), (.mv (.t 51)), none⟩] s h) := k_reg0
@[simp] theorem q41_31 : runF E n0 g c41_31 s h = regK (some [0, 7, 53]) (runO E n0 g h.length [⟨(some 52), (.mv (.t 5)), none⟩, ⟨(some 53), (.bin .eql (.t 52) (.c (.int .i64 1))), none⟩] s h) := k_reg0
@[simp] theorem q41_32 : runF E n0 g c41_32 s h = regK (some [0, 7]) (runO E n0 g h.length [⟨(some 54), (.mv (.t 7)), none⟩, ⟨(some 55), (.un .neg (.t 54)), none⟩, ⟨(some 7), (.mv (.t 55)), none⟩] s h) := k_reg0
@[simp] theorem q41_33 : runF E n0 g c41_33 s h = condK E n0 g c41_32 .skip s h (get s 53) := k_cond
@[simp] theorem q41_34 : runF E n0 g c41_34 s h = seqK E n0 g c41_33 (runF E n0 g c41_31 s h) := k_seq
@[simp] theorem q41_35 : runF E n0 g c41_35 s h = regK (some [2, 3]) (runO E n0 g h.length [⟨(some 56), (.mv (.t 7)), none⟩, ⟨(some 57), (.mv (.t 7)), none⟩, ⟨(some 58), (.call 39 [(.t 57)]), none⟩, ⟨(some 59), (.mv (.t 0)), none⟩, ⟨(some 60), (.bin .eql (.t 58) (.t 59)), none⟩, ⟨(some 2), (.mv (.t 56)), none⟩, ⟨(some 3), (.mv (.t 60)), none⟩] s h) := k_reg0
@[simp] theorem q41_36 : runF E n0 g c41_36 s h = seqK E n0 g .ret (runF E n0 g c41_35 s h) := k_seq
@[simp] theorem q41_37 : runF E n0 g c41_37 s h = seqK E n0 g c41_36 (runF E n0 g c41_34 s h) := k_seq
@[simp] theorem q41_38 : runF E n0 g c41_38 s h = seqK E n0 g c41_37 (runF E n0 g c41_30 s h) := k_seq
@[simp] theorem q41_39 : runF E n0 g c41_39 s h = seqK E n0 g c41_38 (runF E n0 g c41_29 s h) := k_seq
@[simp] theorem q41_40 : runF E n0 g c41_40 s h = seqK E n0 g c41_39 (runF E n0 g c41_11 s h) := k_seq
@[simp] theorem q41_41 : runF E n0 g c41_41 s h = seqK E n0 g c41_40 (runF E n0 g c41_6 s h) := k_seq
@[simp] theorem q41_42 : runF E n0 g c41_42 s h = seqK E n0 g c41_41 (runF E n0 g c41_2 s h) := k_seq
@[simp] theorem q41_43 : runF E n0 g c41_43 s h = seqK E n0 g c41_42 (runF E n0 g c41_1 s h) := k_seq
@[simp] theorem q41_44 : runF E n0 g c41_44 s h = seqK E n0 g c41_43 (runF E n0 g c41_0 s h) := k_seq
@[simp] theorem qq41 : runF E n0 g c41 s h = runF E n0 g c41_44 s h := rfl
@[simp] theorem q42_0 : runF E n0 g c42_0 s h = regK (some [0]) (runO E n0 g h.length [⟨(some 2), (.mv (.c (.int .i64 0))), none⟩, ⟨(some 3), (.mv (.c (.int .i64 0))), none⟩] s h) := k_reg0
@[simp] theorem q42_1 : runF E n0 g c42_1 s h = regK (some [4]) (runO E n0 g h.length [⟨(some 4), (.mv (.t 0)), none⟩] s h) := k_reg0
@[simp] theorem q42_2 : runF E n0 g c42_2 s h = regK (some [4, 5]) (runO E n0 g h.length [⟨(some 6), (.bin .eql (.t 4) (.c (.int .i64 14))), none⟩, ⟨(some 5), (.mv (.t 6)), none⟩] s h) := k_reg0
@[simp] theorem q42_3 : runF E n0 g c42_3 s h = regK (some [2, 3]) (runO E n0 g h.length [⟨(some 2), (.mv (.c (.int .i64 (-9223372036854775808)))), none⟩, ⟨(some 3), (.mv (.c (.int .i64 9223372036854775807))), none⟩] s h) := k_reg0
@[simp] theorem q42_4 : runF E n0 g c42_4 s h = seqK E n0 g .ret (runF E n0 g c42_3 s h) := k_seq
@[simp] theorem q42_5 : runF E n0 g c42_5 s h = regK (some [4, 7]) (runO E n0 g h.length [⟨(some 8), (.bin .eql (.t 4) (.c (.int .i64 4))), none⟩, ⟨(some 7), (.mv (.t 8)), none⟩] s h) := k_reg0
@[simp] theorem q42_6 : runF E n0 g c42_6 s h = regK (some [2, 3]) (runO E n0 g h.length [⟨(some 2), (.mv (.c (.int .i64 1))), none⟩, ⟨(some 3), (.mv (.c (.int .i64 33554431))), none⟩] s h) := k_reg0
@[simp] theorem q42_7 : runF E n0 g c42_7 s h = seqK E n0 g .ret (runF E n0 g c42_6 s h) := k_seq
@[simp] theorem q42_8 : runF E n0 g c42_8 s h = regK (some [4, 9]) (runO E n0 g h.length [⟨(some 10), (.bin .eql (.t 4) (.c (.int .i64 5))), none⟩, ⟨(some 9), (.mv (.t 10)), none⟩] s h) := k_reg0
@[simp] theorem q42_9 : runF E n0 g c42_9 s h = regK (some [2, 3]) (runO E n0 g h.length [⟨(some 2), (.mv (.c (.int .i64 (-33554432)))), none⟩, ⟨(some 3), (.mv (.c (.int .i64 33554431))), none⟩] s h) := k_reg0
@[simp] theorem q42_10 : runF E n0 g c42_10 s h = seqK E n0 g .ret (runF E n0 g c42_9 s h) := k_seq
@[simp] theorem q42_11 : runF E n0 g c42_11 s h = regK (some [4, 11]) (runO E n0 g h.length [⟨(some 12), (.bin .eql (.t 4) (.c (.int .i64 6))), none⟩, ⟨(some 11), (.mv (.t 12)), none⟩] s h) := k_reg0
@[simp] theorem q42_12 : runF E n0 g c42_12 s h = regK (some [2, 3]) (runO E n0 g h.length [⟨(some 2), (.mv (.c (.int .i64 0))), none⟩, ⟨(some 3), (.mv (.c (.int .i64 7))), none⟩] s h) := k_reg0
@[simp] theorem q42_13 : runF E n0 g c42_13 s h = seqK E n0 g .ret (runF E n0 g c42_12 s h) := k_seq
@[simp] theorem q42_14 : runF E n0 g c42_14 s h = regK (some [4, 13]) (runO E n0 g h.length [⟨(some 14), (.bin .eql (.t 4) (.c (.int .i64 34))), none⟩, ⟨(some 13), (.mv (.t 14)), none⟩] s h) := k_reg0
@[simp] theorem q42_15 : runF E n0 g c42_15 s h = regK (some [4, 13]) (runO E n0 g h.length [⟨(some 15), (.bin .eql (.t 4) (.c (.int .i64 35))), none⟩, ⟨(some 13), (.mv (.t 15)), none⟩] s h) := k_reg0
@[simp] theorem q42_16 : runF E n0 g c42_16 s h = condK E n0 g .skip c42_15 s h (get s 13) := k_cond
@[simp] theorem q42_17 : runF E n0 g c42_17 s h = seqK E n0 g c42_16 (runF E n0 g c42_14 s h) := k_seq
@[simp] theorem q42_18 : runF E n0 g c42_18 s h = regK (some [2, 3]) (runO E n0 g h.length [⟨(some 2), (.mv (.c (.int .i64 0))), none⟩, ⟨(some 3), (.mv (.c (.int .i64 3))), none⟩] s h) := k_reg0
@[simp] theorem q42_19 : runF E n0 g c42_19 s h = seqK E n0 g .ret (runF E n0 g c42_18 s h) := k_seq
@[simp] theorem q42_20 : runF E n0 g c42_20 s h = regK (some [4, 16]) (runO E n0 g h.length [⟨(some 17), (.bin .eql (.t 4) (.c (.int .i64 36))), none⟩, ⟨(some 16), (.mv (.t 17)), none⟩] s h) := k_reg0
@[simp] theorem q42_21 : runF E n0 g c42_21 s h = regK (some [16]) (runO E n0 g h.length [⟨(some 18), (.bin .eql (.t 4) (.c (.int .i64 37))), none⟩, ⟨(some 16), (.mv (.t 18)), none⟩] s h) := k_reg0
@[simp] theorem q42_22 : runF E n0 g c42_22 s h = condK E n0 g .skip c42_21 s h (get s 16) := k_cond
@[simp] theorem q42_23 : runF E n0 g c42_23 s h = seqK E n0 g c42_22 (runF E n0 g c42_20 s h) := k_seq
@[simp] theorem q42_24 : runF E n0 g c42_24 s h = regK (some [2, 3]) (runO E n0 g h.length [⟨(some 2), (.mv (.c (.int .i64 0))), none⟩, ⟨(some 3), (.mv (.c (.int .i64 2999))), none⟩] s h) := k_reg0
@[simp] theorem q42_25 : runF E n0 g c42_25 s h = seqK E n0 g .ret (runF E n0 g c42_24 s h) := k_seq
@[simp] theorem q42_26 : runF E n0 g c42_26 s h = condK E n0 g c42_25 .skip s h (get s 16) := k_cond
@[simp] theorem q42_27 : runF E n0 g c42_27 s h = seqK E n0 g (.seq c42_22 c42_26) (runF E n0 g c42_20 s h) := k_assoc
@[simp] theorem q42_27a : runF E n0 g (.seq c42_22 c42_26) s h = condK E n0 g c42_25 (.seq c42_21 c42_26) s h (get s 16) := k_or
@[simp] theorem q42_27ab : runF E n0 g (.seq c42_21 c42_26) s h = seqK E n0 g c42_26 (runF E n0 g c42_21 s h) := k_seq
@[simp] theorem q42_28 : runF E n0 g c42_28 s h = condK E n0 g c42_19 c42_27 s h (get s 13) := k_cond
@[simp] theorem q42_29 : runF E n0 g c42_29 s h = seqK E n0 g (.seq c42_16 c42_28) (runF E n0 g c42_14 s h) := k_assoc
@[simp] theorem q42_29a : runF E n0 g (.seq c42_16 c42_28) s h = condK E n0 g c42_19 (.seq c42_15 c42_28) s h (get s 13) := k_or
@[simp] theorem q42_29ab : runF E n0 g (.seq c42_15 c42_28) s h = seqK E n0 g c42_28 (runF E n0 g c42_15 s h) := k_seq
@[simp] theorem q42_30 : runF E n0 g c42_30 s h = condK E n0 g c42_13 c42_29 s h (get s 11) := k_cond
@[simp] theorem q42_31 : runF E n0 g c42_31 s h = seqK E n0 g c42_30 (runF E n0 g c42_11 s h) := k_seq
@[simp] theorem q42_32 : runF E n0 g c42_32 s h = condK E n0 g c42_10 c42_31 s h (get s 9) := k_cond
@[simp] theorem q42_33 : runF E n0 g c42_33 s h = seqK E n0 g c42_32 (runF E n0 g c42_8 s h) := k_seq
@[simp] theorem q42_34 : runF E n0 g c42_34 s h = condK E n0 g c42_7 c42_33 s h (get s 7) := k_cond
@[simp] theorem q42_35 : runF E n0 g c42_35 s h = seqK E n0 g c42_34 (runF E n0 g c42_5 s h) := k_seq
@[simp] theorem q42_36 : runF E n0 g c42_36 s h = condK E n0 g c42_4 c42_35 s h (get s 5) := k_cond
@[simp] theorem q42_37 : runF E n0 g c42_37 s h = seqK E n0 g c42_36 (runF E n0 g c42_2 s h) := k_seq
@[simp] theorem q42_38 : runF E n0 g c42_38 s h = blkK (some []) 0 (runF E n0 g c42_37 s h) := k_block
@[simp] theorem q42_39 : runF E n0 g c42_39 s h = seqK E n0 g c42_38 (runF E n0 g c42_1 s h) := k_seq
@[simp] theorem q42_40 : runF E n0 g c42_40 s h = regK (some [2, 3]) (runO E n0 g h.length [⟨(some 2), (.mv (.c (.int .i64 (-4194304)))), none⟩, ⟨(some 3), (.mv (.c (.int .i64 4194303))), none⟩] s h) := k_reg0
@[simp] theorem q42_41 : runF E n0 g c42_41 s h = seqK E n0 g .ret (runF E n0 g c42_40 s h) := k_seq
@[simp] theorem q42_42 : runF E n0 g c42_42 s h = seqK E n0 g c42_41 (runF E n0 g c42_39 s h) := k_seq
@[simp] theorem q42_43 : runF E n0 g c42_43 s h = seqK E n0 g c42_42 (runF E n0 g c42_0 s h) := k_seq
@[simp] theorem qq42 : runF E n0 g c42 s h = runF E n0 g c42_43 s h := rfl
@[simp] theorem q43_0 : runF E n0 g c43_0 s h = regK (some [0]) (runO E n0 g h.length [⟨(some 2), (.mv (.c (.int .i64 0))), none⟩, ⟨(some 3), (.mv (.c (.int .i64 0))), none⟩] s h) := k_reg0
@[simp] theorem q43_1 : runF E n0 g c43_1 s h = regK (some [4]) (runO E n0 g h.length [⟨(some 4), (.mv (.t 0)), none⟩] s h) := k_reg0
@[simp] theorem q43_2 : runF E n0 g c43_2 s h = regK (some [4, 5]) (runO E n0 g h.length [⟨(some 6), (.bin .eql (.t 4) (.c (.int .i64 4))), none⟩, ⟨(some 5), (.mv (.t 6)), none⟩] s h) := k_reg0
@[simp] theorem q43_3 : runF E n0 g c43_3 s h = regK (some [2, 3]) (runO E n0 g h.length [⟨(some 2), (.mv (.c (.int .i64 1))), none⟩, ⟨(some 3), (.mv (.c (.int .i64 33554431))), none⟩] s h) := k_reg0
@[simp] theorem q43_4 : runF E n0 g c43_4 s h = seqK E n0 g .ret (runF E n0 g c43_3 s h) := k_seq
@[simp] theorem q43_5 : runF E n0 g c43_5 s h = regK (some [4, 7]) (runO E n0 g h.length [⟨(some 8), (.bin .eql (.t 4) (.c (.int .i64 5))), none⟩, ⟨(some 7), (.mv (.t 8)), none⟩] s h) := k_reg0
@[simp] theorem q43_6 : runF E n0 g c43_6 s h = regK (some [2, 3]) (runO E n0 g h.length [⟨(some 2), (.mv (.c (.int .i64 (-33554432)))), none⟩, ⟨(some 3), (.mv (.c (.int .i64 33554431))), none⟩] s h) := k_reg0
@[simp] theorem q43_7 : runF E n0 g c43_7 s h = seqK E n0 g .ret (runF E n0 g c43_6 s h) := k_seq
@[simp] theorem q43_8 : runF E n0 g c43_8 s h = regK (some [4, 9]) (runO E n0 g h.length [⟨(some 10), (.bin .eql (.t 4) (.c (.int .i64 6))), none⟩, ⟨(some 9), (.mv (.t 10)), none⟩] s h) := k_reg0
@[simp] theorem q43_9 : runF E n0 g c43_9 s h = regK (some [2, 3]) (runO E n0 g h.length [⟨(some 2), (.mv (.c (.int .i64 0))), none⟩, ⟨(some 3), (.mv (.c (.int .i64 7))), none⟩] s h) := k_reg0
@[simp] theorem q43_10 : runF E n0 g c43_10 s h = seqK E n0 g .ret (runF E n0 g c43_9 s h) := k_seq
@[simp] theorem q43_11 : runF E n0 g c43_11 s h = regK (some [4, 11]) (runO E n0 g h.length [⟨(some 12), (.bin .eql (.t 4) (.c (.int .i64 34))), none⟩, ⟨(some 11), (.mv (.t 12)), none⟩] s h) := k_reg0
@[simp] theorem q43_12 : runF E n0 g c43_12 s h = regK (some [4, 11]) (runO E n0 g h.length [⟨(some 13), (.bin .eql (.t 4) (.c (.int .i64 35))), none⟩, ⟨(some 11), (.mv (.t 13)), none⟩] s h) := k_reg0
@[simp] theorem q43_13 : runF E n0 g c43_13 s h = condK E n0 g .skip c43_12 s h (get s 11) := k_cond
@[simp] theorem q43_14 : runF E n0 g c43_14 s h = seqK E n0 g c43_13 (runF E n0 g c43_11 s h) := k_seq
@[simp] theorem q43_15 : runF E n0 g c43_15 s h = regK (some [2, 3]) (runO E n0 g h.length [⟨(some 2), (.mv (.c (.int .i64 0))), none⟩, ⟨(some 3), (.mv (.c (.int .i64 3))), none⟩] s h) := k_reg0
@[simp] theorem q43_16 : runF E n0 g c43_16 s h = seqK E n0 g .ret (runF E n0 g c43_15 s h) := k_seq
@[simp] theorem q43_17 : runF E n0 g c43_17 s h = regK (some [4, 14]) (runO E n0 g h.length [⟨(some 15), (.bin .eql (.t 4) (.c (.int .i64 36))), none⟩, ⟨(some 14), (.mv (.t 15)), none⟩] s h) := k_reg0
@[simp] theorem q43_18 : runF E n0 g c43_18 s h = regK (some [4, 14]) (runO E n0 g h.length [⟨(some 16), (.bin .eql (.t 4) (.c (.int .i64 37))), none⟩, ⟨(some 14), (.mv (.t 16)), none⟩] s h) := k_reg0
@[simp] theorem q43_19 : runF E n0 g c43_19 s h = condK E n0 g .skip c43_18 s h (get s 14) := k_cond
@[simp] theorem q43_20 : runF E n0 g c43_20 s h = seqK E n0 g c43_19 (runF E n0 g c43_17 s h) := k_seq
@[simp] theorem q43_21 : runF E n0 g c43_21 s h = regK (some [2, 3]) (runO E n0 g h.length [⟨(some 2), (.mv (.c (.int .i64 0))), none⟩, ⟨(some 3), (.mv (.c (.int .i64 2999))), none⟩] s h) := k_reg0
@[simp] theorem q43_22 : runF E n0 g c43_22 s h = seqK E n0 g .ret (runF E n0 g c43_21 s h) := k_seq
@[simp] theorem q43_23 : runF E n0 g c43_23 s h = regK (some [4, 17]) (runO E n0 g h.length [⟨(some 18), (.bin .eql (.t 4) (.c (.int .i64 14))), none⟩, ⟨(some 17), (.mv (.t 18)), none⟩] s h) := k_reg0
@[simp] theorem q43_24 : runF E n0 g c43_24 s h = regK (some [2, 3]) (runO E n0 g h.length [⟨(some 2), (.mv (.c (.int .i64 (-9223372036854775808)))), none⟩, ⟨(some 3), (.mv (.c (.int .i64 9223372036854775807))), none⟩] s h) := k_reg0
@[simp] theorem q43_25 : runF E n0 g c43_25 s h = seqK E n0 g .ret (runF E n0 g c43_24 s h) := k_seq
@[simp] theorem q43_26 : runF E n0 g c43_26 s h = regK (some [4, 19]) (runO E n0 g h.length [⟨(some 20), (.bin .eql (.t 4) (.c (.int .i64 7))), none⟩, ⟨(some 19), (.mv (.t 20)), none⟩] s h) := k_reg0
@[simp] theorem q43_27 : runF E n0 g c43_27 s h = regK (some [4, 19]) (runO E n0 g h.length [⟨(some 21), (.bin .eql (.t 4) (.c (.int .i64 8))), none⟩, ⟨(some 19), (.mv (.t 21)), none⟩] s h) := k_reg0
@[simp] theorem q43_28 : runF E n0 g c43_28 s h = regK (some [4, 19]) (runO E n0 g h.length [⟨(some 22), (.bin .eql (.t 4) (.c (.int .i64 13))), none⟩, ⟨(some 19), (.mv (.t 22)), none⟩] s h) := k_reg0
@[simp] theorem q43_29 : runF E n0 g c43_29 s h = regK (some [19]) (runO E n0 g h.length [⟨(some 23), (.bin .eql (.t 4) (.c (.int .i64 33))), none⟩, ⟨(some 19), (.mv (.t 23)), none⟩] s h) := k_reg0
@[simp] theorem q43_30 : runF E n0 g c43_30 s h = condK E n0 g .skip c43_29 s h (get s 19) := k_cond
@[simp] theorem q43_31 : runF E n0 g c43_31 s h = seqK E n0 g c43_30 (runF E n0 g c43_28 s h) := k_seq
@[simp] theorem q43_32 : runF E n0 g c43_32 s h = condK E n0 g .skip c43_31 s h (get s 19) := k_cond
@[simp] theorem q43_33 : runF E n0 g c43_33 s h = seqK E n0 g c43_32 (runF E n0 g c43_27 s h) := k_seq
@[simp] theorem q43_34 : runF E n0 g c43_34 s h = condK E n0 g .skip c43_33 s h (get s 19) := k_cond
@[simp] theorem q43_35 : runF E n0 g c43_35 s h = seqK E n0 g c43_34 (runF E n0 g c43_26 s h) := k_seq
@[simp] theorem q43_36 : runF E n0 g c43_36 s h = regK (some [2, 3]) (runO E n0 g h.length [⟨(some 2), (.mv (.c (.int .i64 (-4194304)))), none⟩, ⟨(some 3), (.mv (.c (.int .i64 4194303))), none⟩] s h) := k_reg0
@[simp] theorem q43_37 : runF E n0 g c43_37 s h = seqK E n0 g .ret (runF E n0 g c43_36 s h) := k_seq
@[simp] theorem q43_38 : runF E n0 g c43_38 s h = condK E n0 g c43_37 .skip s h (get s 19) := k_cond
@[simp] theorem q43_39 : runF E n0 g c43_39 s h = seqK E n0 g (.seq c43_34 c43_38) (runF E n0 g c43_26 s h) := k_assoc
@[simp] theorem q43_39a : runF E n0 g (.seq c43_34 c43_38) s h = condK E n0 g c43_37 (.seq c43_33 c43_38) s h (get s 19) := k_or
@[simp] theorem q43_39ab : runF E n0 g (.seq c43_33 c43_38) s h = seqK E n0 g (.seq c43_32 c43_38) (runF E n0 g c43_27 s h) := k_assoc
@[simp] theorem q43_39aba : runF E n0 g (.seq c43_32 c43_38) s h = condK E n0 g c43_37 (.seq c43_31 c43_38) s h (get s 19) := k_or
@[simp] theorem q43_39abab : runF E n0 g (.seq c43_31 c43_38) s h = seqK E n0 g (.seq c43_30 c43_38) (runF E n0 g c43_28 s h) := k_assoc
@[simp] theorem q43_39ababa : runF E n0 g (.seq c43_30 c43_38) s h = condK E n0 g c43_37 (.seq c43_29 c43_38) s h (get s 19) := k_or
@[simp] theorem q43_39ababab : runF E n0 g (.seq c43_29 c43_38) s h = seqK E n0 g c43_38 (runF E n0 g c43_29 s h) := k_seq
@[simp] theorem q43_40 : runF E n0 g c43_40 s h = condK E n0 g c43_25 c43_39 s h (get s 17) := k_cond
@[simp] theorem q43_41 : runF E n0 g c43_41 s h = seqK E n0 g c43_40 (runF E n0 g c43_23 s h) := k_seq
@[simp] theorem q43_42 : runF E n0 g c43_42 s h = condK E n0 g c43_22 c43_41 s h (get s 14) := k_cond
@[simp] theorem q43_43 : runF E n0 g c43_43 s h = seqK E n0 g (.seq c43_19 c43_42) (runF E n0 g c43_17 s h) := k_assoc
@[simp] theorem q43_43a : runF E n0 g (.seq c43_19 c43_42) s h = condK E n0 g c43_22 (.seq c43_18 c43_42) s h (get s 14) := k_or
@[simp] theorem q43_43ab : runF E n0 g (.seq c43_18 c43_42) s h = seqK E n0 g c43_42 (runF E n0 g c43_18 s h) := k_seq
@[simp] theorem q43_44 : runF E n0 g c43_44 s h = condK E n0 g c43_16 c43_43 s h (get s 11) := k_cond
@[simp] theorem q43_45 : runF E n0 g c43_45 s h = seqK E n0 g (.seq c43_13 c43_44) (runF E n0 g c43_11 s h) := k_assoc
@[simp] theorem q43_45a : runF E n0 g (.seq c43_13 c43_44) s h = condK E n0 g c43_16 (.seq c43_12 c43_44) s h (get s 11) := k_or
@[simp] theorem q43_45ab : runF E n0 g (.seq c43_12 c43_44) s h = seqK E n0 g c43_44 (runF E n0 g c43_12 s h) := k_seq
@[simp] theorem q43_46 : runF E n0 g c43_46 s h = condK E n0 g c43_10 c43_45 s h (get s 9) := k_cond
@[simp] theorem q43_47 : runF E n0 g c43_47 s h = seqK E n0 g c43_46 (runF E n0 g c43_8 s h) := k_seq
@[simp] theorem q43_48 : runF E n0 g c43_48 s h = condK E n0 g c43_7 c43_47 s h (get s 7) := k_cond
@[simp] theorem q43_49 : runF E n0 g c43_49 s h = seqK E n0 g c43_48 (runF E n0 g c43_5 s h) := k_seq
@[simp] theorem q43_50 : runF E n0 g c43_50 s h = condK E n0 g c43_4 c43_49 s h (get s 5) := k_cond
@[simp] theorem q43_51 : runF E n0 g c43_51 s h = seqK E n0 g c43_50 (runF E n0 g c43_2 s h) := k_seq
@[simp] theorem q43_52 : runF E n0 g c43_52 s h = blkK (some []) 0 (runF E n0 g c43_51 s h) := k_block
@[simp] theorem q43_53 : runF E n0 g c43_53 s h = seqK E n0 g c43_52 (runF E n0 g c43_1 s h) := k_seq
@[simp] theorem q43_54 : runF E n0 g c43_54 s h = regK (some [2, 3]) (runO E n0 g h.length [⟨(some 2), (.mv (.c (.int .i64 0))), none⟩, ⟨(some 3), (.mv (.c (.int .i64 0))), none⟩] s h) := k_reg0
@[simp] theorem q43_55 : runF E n0 g c43_55 s h = seqK E n0 g .ret (runF E n0 g c43_54 s h) := k_seq
@[simp] theorem q43_56 : runF E n0 g c43_56 s h = seqK E n0 g c43_55 (runF E n0 g c43_53 s h) := k_seq
@[simp] theorem q43_57 : runF E n0 g c43_57 s h = seqK E n0 g c43_56 (runF E n0 g c43_0 s h) := k_seq
@[simp] theorem qq43 : runF E n0 g c43 s h = runF E n0 g c43_57 s h := rfl
@[simp] theorem q44_0 : runF E n0 g c44_0 s h = regK (some [0]) (runO E n0 g h.length [⟨(some 2), (.mv (.c (.bool false))), none⟩] s h) := k_reg0
@[simp] theorem q44_1 : runF E n0 g c44_1 s h = regK (some [2]) (runO E n0 g h.length [⟨(some 3), (.mv (.t 0)), none⟩, ⟨(some 4), (.bin .geq (.t 3) (.c (.int .i64 0))), none⟩, ⟨(some 5), (.mv (.t 4)), none⟩, ⟨(some 6), (.mv (.t 0)), (some (5, true))⟩, ⟨(some 7), (.bin .lss (.t 6) (.c (.int .i64 8))), (some (5, true))⟩, ⟨(some 8), (.pick (.t 5) (.t 7) (.c (.bool false))), none⟩, ⟨(some 2), (.mv (.t 8)), none⟩] s h) := k_reg0
@[simp] theorem q44_2 : runF E n0 g c44_2 s h = seqK E n0 g .ret (runF E n0 g c44_1 s h) := k_seq
@[simp] theorem q44_3 : runF E n0 g c44_3 s h = seqK E n0 g c44_2 (runF E n0 g c44_0 s h) := k_seq
@[simp] theorem qq44 : runF E n0 g c44 s h = runF E n0 g c44_3 s h := rfl
@[simp] theorem q45_0 : runF E n0 g c45_0 s h = regK (some [0, 1]) (runO E n0 g h.length [⟨(some 4), (.mv (.c (.sl .full []))), none⟩] s h) := k_reg0
@[simp] theorem q45_1 : runF E n0 g c45_1 s h = regK (some [0, 1, 5]) (runO E n0 g h.length [⟨(some 5), (.mv (.c (.int .i64 0))), none⟩] s h) := k_reg0
@[simp] theorem q45_2 : runF E n0 g c45_2 s h = regK (some [0, 1, 5, 17]) (runO E n0 g h.length [⟨(some 6), (.mv (.t 5)), none⟩, ⟨(some 7), (.mv (.t 0)), none⟩, ⟨(some 8), (.len (.t 7)), none⟩, ⟨(some 9), (.bin .lss (.t 6) (.t 8)), none⟩, ⟨(some 10), (.mv (.t 9)), none⟩, ⟨(some 11), (.mv (.t 0)), (some (10, true))⟩, ⟨(some 12), (.mv (.t 5)), (some (10, true))⟩, ⟨(some 13), (.ia 1 (.t 11) (.t 12)), (some (10, true))⟩, ⟨(some 14), (.ld false 1 (.t 13)), (some (10, true))⟩, ⟨(some 15), (.mv (.t 1)), (some (10, true))⟩, ⟨(some 16), (.bin .lss (.t 14) (.t 15)), (some (10, true))⟩, ⟨(some 17), (.pick (.t 10) (.t 16) (.c (.bool false))), none⟩] s h) := k_reg0
@[simp] theorem q45_3 : runF E n0 g c45_3 s h = condK E n0 g .skip (.exit 0) s h (get s 17) := k_cond
@[simp] theorem q45_4 : runF E n0 g c45_4 s h = seqK E n0 g c45_3 (runF E n0 g c45_2 s h) := k_seq
@[simp] theorem q45_5 : runF E n0 g c45_5 s h = regK (some [0, 1, 5]) (runO E n0 g h.length [⟨(some 18), (.mv (.t 5)), none⟩, ⟨(some 19), (.bin .add (.t 18) (.c (.int .i64 1))), none⟩, ⟨(some 5), (.mv (.t 19)), none⟩] s h) := k_reg0
@[simp] theorem q45_6 : runF E n0 g c45_6 s h = blkK (some [0, 1, 5]) 1 (runF E n0 g c45_5 s h) := k_block
@[simp] theorem q45_7 : runF E n0 g c45_7 s h = seqK E n0 g c45_6 (runF E n0 g c45_4 s h) := k_seq
theorem q45_8 : runF E n0 g c45_8 s h = loopK E n0 g (some [0, 1, 5]) c45_7 (runF E n0 g c45_7 (clearO (some [0, 1, 5]) s) h) := k_loop
@[simp] theorem q45_8L : runF E n0 g (.loop (some [0, 1, 5]) c45_7) s h = runF E n0 g c45_8 s h := rfl
@[simp] theorem q45_9 : runF E n0 g c45_9 s h = blkK (some [0, 1, 5]) 0 (runF E n0 g c45_8 s h) := k_block
@[simp] theorem q45_10 : runF E n0 g c45_10 s h = regK (some [0, 1, 5, 31]) (runO E n0 g h.length [⟨(some 20), (.mv (.t 5)), none⟩, ⟨(some 21), (.mv (.t 0)), none⟩, ⟨(some 22), (.len (.t 21)), none⟩, ⟨(some 23), (.bin .lss (.t 20) (.t 22)), none⟩, ⟨(some 24), (.mv (.t 23)), none⟩, ⟨(some 25), (.mv (.t 0)), (some (24, true))⟩, ⟨(some 26), (.mv (.t 5)), (some (24, true))⟩, ⟨(some 27), (.ia 1 (.t 25) (.t 26)), (some (24, true))⟩, ⟨(some 28), (.ld false 1 (.t 27)), (some (24, true))⟩, ⟨(some 29), (.mv (.t 1)), (some (24, true))⟩, ⟨(some 30), (.bin .eql (.t 28) (.t 29)), (some (24, true))⟩, ⟨(some 31), (.pick (.t 24) (.t 30) (.c (.bool false))), none⟩] s h) := k_reg0
@[simp] theorem q45_11 : runF E n0 g c45_11 s h = regK (some [4]) (runO E n0 g h.length [⟨(some 32), (.mv (.t 0)), none⟩, ⟨(some 4), (.mv (.t 32)), none⟩] s h) := k_reg0
@[simp] theorem q45_12 : runF E n0 g c45_12 s h = seqK E n0 g .ret (runF E n0 g c45_11 s h) := k_seq
@[simp] theorem q45_13 : runF E n0 g c45_13 s h = condK E n0 g c45_12 .skip s h (get s 31) := k_cond
@[simp] theorem q45_14 : runF E n0 g c45_14 s h = seqK E n0 g c45_13 (runF E n0 g c45_10 s h) := k_seq
@[simp] theorem q45_15 : runF E n0 g c45_15 s h = regK (some [4]) (runO E n0 g h.length [⟨(some 33), (.mv (.t 0)), none⟩, ⟨(some 34), (.mv (.t 5)), none⟩, ⟨(some 35), (.sll 1 (.t 33) none (some (.t 34))), none⟩, ⟨(some 36), (.app 0 1 8 (.c (.sl .full [])) (.t 35)), none⟩, ⟨(some 37), (.mv (.t 1)), none⟩, ⟨(some 38), (.bsl 1 (.int .i64 0) 1 [(0, (.t 37))]), none⟩, ⟨(some 39), (.app 1 1 8 (.t 36) (.t 38)), none⟩, ⟨(some 40), (.mv (.t 0)), none⟩, ⟨(some 41), (.mv (.t 5)), none⟩, ⟨(some 42), (.sll 1 (.t 40) (some (.t 41)) none), none⟩, ⟨(some 43), (.app 2 1 8 (.t 39) (.t 42)), none⟩, ⟨(some 4), (.mv (.t 43)), none⟩] s (h ++ [.dead, .dead, .dead])) := k_regd0
@[simp] theorem q45_16 : runF E n0 g c45_16 s h = seqK E n0 g .ret (runF E n0 g c45_15 s h) := k_seq
@[simp] theorem q45_17 : runF E n0 g c45_17 s h = seqK E n0 g c45_16 (runF E n0 g c45_14 s h) := k_seq
@[simp] theorem q45_18 : runF E n0 g c45_18 s h = seqK E n0 g c45_17 (runF E n0 g c45_9 s h) := k_seq
@[simp] theorem q45_19 : runF E n0 g c45_19 s h = seqK E n0 g c45_18 (runF E n0 g c45_1 s h) := k_seq
@[simp] theorem q45_20 : runF E n0 g c45_20 s h = seqK E n0 g c45_19 (runF E n0 g c45_0 s h) := k_seq
@[simp] theorem qq45 : runF E n0 g c45 s h = runF E n0 g c45_20 s h := rfl
@[simp] theorem q46_0 : runF E n0 g c46_0 s h = regK (some [0]) (runO E n0 g h.length [⟨(some 2), (.mv (.c (.str []))), none⟩] s h) := k_reg0
@[simp] theorem q46_1 : runF E n0 g c46_1 s h = regK (some [0, 3]) (runO E n0 g h.length [⟨(some 3), (.al 0 [(.int .u8 0), (.int .u8 0), (.int .u8 0), (.int .u8 0), (.int .u8 0), (.int .u8 0), (.int .u8 0), (.int .u8 0), (.int .u8 0), (.int .u8 0), (.int .u8 0), (.int .u8 0), (.int .u8 0), (.int .u8 0), (.int .u8 0), (.int .u8 0), (.int .u8 0), (.int .u8 0), (.int .u8 0), (.int .u8 0)]), none⟩] s (h ++ [(.cells [(.int .u8 0), (.int .u8 0), (.int .u8 0), (.int .u8 0), (.int .u8 0), (.int .u8 0), (.int .u8 0), (.int .u8 0), (.int .u8 0), (.int .u8 0), (.int .u8 0), (.int .u8 0), (.int .u8 0), (.int .u8 0), (.int .u8 0), (.int .u8 0), (.int .u8 0), (.int .u8 0), (.int .u8 0), (.int .u8 0)])])) := k_reg
@[simp] theorem q46_2 : runF E n0 g c46_2 s h = regK (some [0, 3, 4]) (runO E n0 g h.length [⟨(some 4), (.mv (.c (.int .i64 20))), none⟩] s h) := k_reg0
@[simp] theorem q46_3 : runF E n0 g c46_3 s h = regK (some [0, 3, 4]) (runO E n0 g h.length [⟨(some 5), (.mv (.t 4)), none⟩, ⟨(some 6), (.bin .sub (.t 5) (.c (.int .i64 1))), none⟩, ⟨(some 4), (.mv (.t 6)), none⟩] s h) := k_reg0
@[simp] theorem q46_4 : runF E n0 g c46_4 s h = regK (some [0, 3, 4]) (runO E n0 g h.length [⟨(some 7), (.mv (.t 4)), none⟩, ⟨(some 8), (.mv (.t 0)), none⟩, ⟨(some 9), (.bin .rem (.t 8) (.c (.int .u64 10))), none⟩, ⟨(some 10), (.bin .add (.c (.int .u64 48)) (.t 9)), none⟩, ⟨(some 11), (.conv .u8 (.t 10)), none⟩, ⟨(some 12), (.iaa 20 1 (.t 3) (.t 7)), none⟩, ⟨none, (.st 1 (.t 12) (.t 11)), none⟩] s h) := k_reg0
@[simp] theorem q46_5 : runF E n0 g c46_5 s h = regK (some [0, 3, 4]) (runO E n0 g h.length [⟨(some 13), (.mv (.t 0)), none⟩, ⟨(some 14), (.bin .quo (.t 13) (.c (.int .u64 10))), none⟩, ⟨(some 0), (.mv (.t 14)), none⟩] s h) := k_reg0
@[simp] theorem q46_6 : runF E n0 g c46_6 s h = regK (some [0, 3, 4, 16]) (runO E n0 g h.length [⟨(some 15), (.mv (.t 0)), none⟩, ⟨(some 16), (.bin .eql (.t 15) (.c (.int .u64 0))), none⟩] s h) := k_reg0
@[simp] theorem q46_7 : runF E n0 g c46_7 s h = regK (some [2]) (runO E n0 g h.length [⟨(some 17), (.mv (.t 4)), none⟩, ⟨(some 18), (.sla 20 1 (.t 3) (some (.t 17)) none), none⟩, ⟨(some 19), (.b2s (.t 18)), none⟩, ⟨(some 2), (.mv (.t 19)), none⟩] s h) := k_reg0
@[simp] theorem q46_8 : runF E n0 g c46_8 s h = seqK E n0 g .ret (runF E n0 g c46_7 s h) := k_seq
@[simp] theorem q46_9 : runF E n0 g c46_9 s h = condK E n0 g c46_8 .skip s h (get s 16) := k_cond
@[simp] theorem q46_10 : runF E n0 g c46_10 s h = seqK E n0 g c46_9 (runF E n0 g c46_6 s h) := k_seq
@[simp] theorem q46_11 : runF E n0 g c46_11 s h = seqK E n0 g c46_10 (runF E n0 g c46_5 s h) := k_seq
@[simp] theorem q46_12 : runF E n0 g c46_12 s h = seqK E n0 g c46_11 (runF E n0 g c46_4 s h) := k_seq
@[simp] theorem q46_13 : runF E n0 g c46_13 s h = seqK E n0 g c46_12 (runF E n0 g c46_3 s h) := k_seq
@[simp] theorem q46_14 : runF E n0 g c46_14 s h = blkK (some [0, 3, 4]) 1 (runF E n0 g c46_13 s h) := k_block
theorem q46_15 : runF E n0 g c46_15 s h = loopK E n0 g (some [0, 3, 4]) c46_14 (runF E n0 g c46_14 (clearO (some [0, 3, 4]) s) h) := k_loop
@[simp] theorem q46_15L : runF E n0 g (.loop (some [0, 3, 4]) c46_14) s h = runF E n0 g c46_15 s h := rfl
@[simp] theorem q46_16 : runF E n0 g c46_16 s h = blkK (some [2]) 0 (runF E n0 g c46_15 s h) := k_block
@[simp] theorem q46_17 : runF E n0 g c46_17 s h = seqK E n0 g c46_16 (runF E n0 g c46_2 s h) := k_seq
@[simp] theorem q46_18 : runF E n0 g c46_18 s h = seqK E n0 g c46_17 (runF E n0 g c46_1 s h) := k_seq
@[simp] theorem q46_19 : runF E n0 g c46_19 s h = seqK E n0 g c46_18 (runF E n0 g c46_0 s h) := k_seq
@[simp] theorem qq46 : runF E n0 g c46 s h = runF E n0 g c46_19 s h := rfl
end Go.Proofs.YtghlghbpaeimjaaDoor
