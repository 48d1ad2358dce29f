/- How each piece of code is run. Printed by a program of ours. -/
import Derived.Test.YtkomfefpfalajaaAcEnv
import Derived.Test.YtkomfefpfalajaaAb6
namespace Go.Proofs.Ytkomfefpfalajaa
open Go Go.Proofs Ab
set_option maxRecDepth 100000
variable {E : Env} {n0 : Nat} {g : Bool} {s : Slots} {h : Heap}
@[simp] theorem q4_0 : runF E n0 g c4_0 s h = regK (some [0]) (runO E n0 g h.length o4_0 s h) := k_reg0
@[simp] theorem q4_1 : runF E n0 g c4_1 s h = regK (some [0, 3]) (runO E n0 g h.length o4_1 s h) := k_reg0
@[simp] theorem q4_2 : runF E n0 g c4_2 s h = regK (some [0, 3, 4]) (runO E n0 g h.length o4_2 s h) := k_reg0
@[simp] theorem q4_3 : runF E n0 g c4_3 s h = regK (some [0, 3, 4, 5]) (runO E n0 g h.length o4_3 s h) := k_reg0
@[simp] theorem q4_4 : runF E n0 g c4_4 s h = regK (some [0, 3, 4, 5, 18]) (runO E n0 g h.length o4_4 s h) := k_reg0
@[simp] theorem q4_5 : runF E n0 g c4_5 s h = condK E n0 g .skip (.exit 0) s h (get s 18) := k_cond
@[simp] theorem q4_6 : runF E n0 g c4_6 s h = seqK E n0 g c4_5 (runF E n0 g c4_4 s h) := k_seq
@[simp] theorem q4_7 : runF E n0 g c4_7 s h = regT (some [0, 3, 4, 5]) [(10, [20]), (16, [8])] (runTr E n0 g h.length o4_7 s h []) := by rw [show c4_7 = .reg (some [0, 3, 4, 5]) [] o4_7 (some [(10, [20]), (16, [8])]) from rfl, k_regd, List.append_nil]
@[simp] theorem q4_8 : runF E n0 g c4_8 s h = blkK (some [0, 3, 4, 5]) 1 (runF E n0 g c4_7 s h) := k_block
@[simp] theorem q4_9 : runF E n0 g c4_9 s h = regK (some [0, 3, 4, 5]) (runO E n0 g h.length o4_9 s h) := k_reg0
@[simp] theorem q4_10 : runF E n0 g c4_10 s h = seqK E n0 g c4_9 (runF E n0 g c4_8 s h) := k_seq
@[simp] theorem q4_11 : runF E n0 g c4_11 s h = seqK E n0 g c4_10 (runF E n0 g c4_6 s h) := k_seq
theorem q4_12 : runF E n0 g c4_12 s h = loopK E n0 g (some [0, 3, 4, 5]) c4_11 (runF E n0 g c4_11 (clearO (some [0, 3, 4, 5]) s) h) := k_loop
@[simp] theorem q4_12L : runF E n0 g (.loop (some [0, 3, 4, 5]) c4_11) s h = runF E n0 g c4_12 s h := rfl
@[simp] theorem q4_13 : runF E n0 g c4_13 s h = blkK (some [4]) 0 (runF E n0 g c4_12 s h) := k_block
@[simp] theorem q4_14 : runF E n0 g c4_14 s h = seqK E n0 g c4_13 (runF E n0 g c4_3 s h) := k_seq
@[simp] theorem q4_15 : runF E n0 g c4_15 s h = regK (some [4]) (runO E n0 g h.length o4_15 s h) := k_reg0
@[simp] theorem q4_16 : runF E n0 g c4_16 s h = regK (some [4, 6, 7]) (runO E n0 g h.length o4_16 s (h ++ [(.cells [(.sl .full []), (.sl .full [])]), (.cells [(.int .i64 0), (.int .i64 0)])])) := k_reg
@[simp] theorem q4_17 : runF E n0 g c4_17 s h = regK (some [6, 7, 8, 9]) (runO E n0 g h.length o4_17 s (h ++ [(.cells [(.sl .full []), (.sl .full [])]), (.cells [(.int .i64 0), (.int .i64 0)])])) := k_reg
@[simp] theorem q4_18 : runF E n0 g c4_18 s h = regK (some [2]) (runO E n0 g h.length o4_18 s h) := k_reg0
@[simp] theorem q4_19 : runF E n0 g c4_19 s h = seqK E n0 g .ret (runF E n0 g c4_18 s h) := k_seq
@[simp] theorem q4_20 : runF E n0 g c4_20 s h = seqK E n0 g c4_19 (runF E n0 g c4_17 s h) := k_seq
@[simp] theorem q4_21 : runF E n0 g c4_21 s h = seqK E n0 g c4_20 (runF E n0 g c4_16 s h) := k_seq
@[simp] theorem q4_22 : runF E n0 g c4_22 s h = seqK E n0 g c4_21 (runF E n0 g c4_15 s h) := k_seq
@[simp] theorem q4_23 : runF E n0 g c4_23 s h = seqK E n0 g c4_22 (runF E n0 g c4_14 s h) := k_seq
@[simp] theorem q4_24 : runF E n0 g c4_24 s h = seqK E n0 g c4_23 (runF E n0 g c4_2 s h) := k_seq
@[simp] theorem q4_25 : runF E n0 g c4_25 s h = seqK E n0 g c4_24 (runF E n0 g c4_1 s h) := k_seq
@[simp] theorem q4_26 : runF E n0 g c4_26 s h = seqK E n0 g c4_25 (runF E n0 g c4_0 s h) := k_seq
@[simp] theorem qq4 : runF E n0 g c4 s h = runF E n0 g c4_26 s h := rfl
@[simp] theorem q12_0 : runF E n0 g c12_0 s h = regK (some [2, 3]) (runO E n0 g h.length o12_0 s (h ++ [.dead, .dead])) := k_reg
@[simp] theorem q12_1 : runF E n0 g c12_1 s h = regK (some [2, 3, 40]) (runO E n0 g h.length o12_1 s h) := k_reg0
@[simp] theorem q12_2 : runF E n0 g c12_2 s h = regK (some [4]) (runO E n0 g h.length o12_2 s h) := k_reg0
@[simp] theorem q12_3 : runF E n0 g c12_3 s h = seqK E n0 g .ret (runF E n0 g c12_2 s h) := k_seq
@[simp] theorem q12_4 : runF E n0 g c12_4 s h = condK E n0 g c12_3 .skip s h (get s 40) := k_cond
@[simp] theorem q12_5 : runF E n0 g c12_5 s h = seqK E n0 g c12_4 (runF E n0 g c12_1 s h) := k_seq
@[simp] theorem q12_6 : runF E n0 g c12_6 s h = regK (some [2, 3, 43, 44]) (runO E n0 g h.length o12_6 s h) := k_reg0
@[simp] theorem q12_7 : runF E n0 g c12_7 s h = regK (some [2, 3, 43, 44, 45]) (runO E n0 g h.length o12_7 s h) := k_reg0
@[simp] theorem q12_8 : runF E n0 g c12_8 s h = condK E n0 g .skip (.exit 0) s h (get s 45) := k_cond
@[simp] theorem q12_9 : runF E n0 g c12_9 s h = regK (some [2, 3, 5, 43, 44]) (runO E n0 g h.length o12_9 s h) := k_reg0
@[simp] theorem q12_10 : runF E n0 g c12_10 s h = regK (some [2, 3, 43, 44, 58]) (runO E n0 g h.length o12_10 s h) := by rw [show c12_10 = .reg (some [2, 3, 43, 44, 58]) [] o12_10 (some []) from rfl, k_regd0, List.append_nil]
@[simp] theorem q12_11 : runF E n0 g c12_11 s h = regK (some [4]) (runO E n0 g h.length o12_11 s h) := k_reg0
@[simp] theorem q12_12 : runF E n0 g c12_12 s h = seqK E n0 g .ret (runF E n0 g c12_11 s h) := k_seq
@[simp] theorem q12_13 : runF E n0 g c12_13 s h = condK E n0 g c12_12 .skip s h (get s 58) := k_cond
@[simp] theorem q12_14 : runF E n0 g c12_14 s h = seqK E n0 g c12_13 (runF E n0 g c12_10 s h) := k_seq
@[simp] theorem q12_15 : runF E n0 g c12_15 s h = seqK E n0 g c12_14 (runF E n0 g c12_9 s h) := k_seq
@[simp] theorem q12_16 : runF E n0 g c12_16 s h = blkK (some [2, 3, 43, 44]) 1 (runF E n0 g c12_15 s h) := k_block
@[simp] theorem q12_17 : runF E n0 g c12_17 s h = regK (some [2, 3, 43, 44]) (runO E n0 g h.length o12_17 s h) := k_reg0
@[simp] theorem q12_18 : runF E n0 g c12_18 s h = seqK E n0 g c12_17 (runF E n0 g c12_16 s h) := k_seq
@[simp] theorem q12_19 : runF E n0 g c12_19 s h = seqK E n0 g c12_18 (runF E n0 g c12_8 s h) := k_seq
@[simp] theorem q12_20 : runF E n0 g c12_20 s h = seqK E n0 g c12_19 (runF E n0 g c12_7 s h) := k_seq
theorem q12_21 : runF E n0 g c12_21 s h = loopK E n0 g (some [2, 3, 43, 44]) c12_20 (runF E n0 g c12_20 (clearO (some [2, 3, 43, 44]) s) h) := k_loop
@[simp] theorem q12_21L : runF E n0 g (.loop (some [2, 3, 43, 44]) c12_20) s h = runF E n0 g c12_21 s h := rfl
@[simp] theorem q12_22 : runF E n0 g c12_22 s h = blkK (some []) 0 (runF E n0 g c12_21 s h) := k_block
@[simp] theorem q12_23 : runF E n0 g c12_23 s h = seqK E n0 g c12_22 (runF E n0 g c12_6 s h) := k_seq
@[simp] theorem q12_24 : runF E n0 g c12_24 s h = regK (some [4]) (runO E n0 g h.length o12_24 s h) := k_reg0
@[simp] theorem q12_25 : runF E n0 g c12_25 s h = seqK E n0 g .ret (runF E n0 g c12_24 s h) := k_seq
@[simp] theorem q12_26 : runF E n0 g c12_26 s h = seqK E n0 g c12_25 (runF E n0 g c12_23 s h) := k_seq
@[simp] theorem q12_27 : runF E n0 g c12_27 s h = seqK E n0 g c12_26 (runF E n0 g c12_5 s h) := k_seq
@[simp] theorem q12_28 : runF E n0 g c12_28 s h = seqK E n0 g c12_27 (runF E n0 g c12_0 s h) := k_seq
@[simp] theorem qq12 : runF E n0 g c12 s h = runF E n0 g c12_28 s h := rfl
@[simp] theorem q13_0 : runF E n0 g c13_0 s h = regK (some [0, 1]) (runO E n0 g h.length o13_0 s h) := k_reg0
@[simp] theorem q13_1 : runF E n0 g c13_1 s h = regK (some [0, 1]) (runO E n0 g h.length o13_1 s h) := k_reg0
@[simp] theorem q13_2 : runF E n0 g c13_2 s h = regK (some [0, 1, 9]) (runO E n0 g h.length o13_2 s h) := k_reg0
@[simp] theorem q13_3 : runF E n0 g c13_3 s h = regK (some [0]) (runO E n0 g h.length o13_3 s h) := k_reg0
@[simp] theorem q13_4 : runF E n0 g c13_4 s h = condK E n0 g c13_3 .skip s h (get s 9) := k_cond
@[simp] theorem q13_5 : runF E n0 g c13_5 s h = seqK E n0 g c13_4 (runF E n0 g c13_2 s h) := k_seq
@[simp] theorem q13_6 : runF E n0 g c13_6 s h = regK (some [4]) (runO E n0 g h.length o13_6 s h) := k_reg0
@[simp] theorem q13_7 : runF E n0 g c13_7 s h = seqK E n0 g .ret (runF E n0 g c13_6 s h) := k_seq
@[simp] theorem q13_8 : runF E n0 g c13_8 s h = seqK E n0 g c13_7 (runF E n0 g c13_5 s h) := k_seq
@[simp] theorem q13_9 : runF E n0 g c13_9 s h = seqK E n0 g c13_8 (runF E n0 g c13_1 s h) := k_seq
@[simp] theorem q13_10 : runF E n0 g c13_10 s h = seqK E n0 g c13_9 (runF E n0 g c13_0 s h) := k_seq
@[simp] theorem qq13 : runF E n0 g c13 s h = runF E n0 g c13_10 s h := rfl
@[simp] theorem q15_0 : runF E n0 g c15_0 s h = regK (some [2, 3]) (runO E n0 g h.length o15_0 s (h ++ [.dead, .dead])) := k_reg
@[simp] theorem q15_1 : runF E n0 g c15_1 s h = regK (some [2, 3, 24]) (runO E n0 g h.length o15_1 s h) := k_reg0
@[simp] theorem q15_2 : runF E n0 g c15_2 s h = regK (some [4]) (runO E n0 g h.length o15_2 s h) := k_reg0
@[simp] theorem q15_3 : runF E n0 g c15_3 s h = seqK E n0 g .ret (runF E n0 g c15_2 s h) := k_seq
@[simp] theorem q15_4 : runF E n0 g c15_4 s h = condK E n0 g c15_3 .skip s h (get s 24) := k_cond
@[simp] theorem q15_5 : runF E n0 g c15_5 s h = seqK E n0 g c15_4 (runF E n0 g c15_1 s h) := k_seq
@[simp] theorem q15_6 : runF E n0 g c15_6 s h = regK (some [2, 3, 27, 28]) (runO E n0 g h.length o15_6 s h) := k_reg0
@[simp] theorem q15_7 : runF E n0 g c15_7 s h = regK (some [2, 3, 27, 28, 29]) (runO E n0 g h.length o15_7 s h) := k_reg0
@[simp] theorem q15_8 : runF E n0 g c15_8 s h = condK E n0 g .skip (.exit 0) s h (get s 29) := k_cond
@[simp] theorem q15_9 : runF E n0 g c15_9 s h = regK (some [2, 3, 5, 27, 28]) (runO E n0 g h.length o15_9 s h) := k_reg0
@[simp] theorem q15_10 : runF E n0 g c15_10 s h = regK (some [2, 3, 27, 28, 41]) (runO E n0 g h.length o15_10 s h) := by rw [show c15_10 = .reg (some [2, 3, 27, 28, 41]) [] o15_10 (some []) from rfl, k_regd0, List.append_nil]
@[simp] theorem q15_11 : runF E n0 g c15_11 s h = regK (some [4]) (runO E n0 g h.length o15_11 s h) := k_reg0
@[simp] theorem q15_12 : runF E n0 g c15_12 s h = seqK E n0 g .ret (runF E n0 g c15_11 s h) := k_seq
@[simp] theorem q15_13 : runF E n0 g c15_13 s h = condK E n0 g c15_12 .skip s h (get s 41) := k_cond
@[simp] theorem q15_14 : runF E n0 g c15_14 s h = seqK E n0 g c15_13 (runF E n0 g c15_10 s h) := k_seq
@[simp] theorem q15_15 : runF E n0 g c15_15 s h = seqK E n0 g c15_14 (runF E n0 g c15_9 s h) := k_seq
@[simp] theorem q15_16 : runF E n0 g c15_16 s h = blkK (some [2, 3, 27, 28]) 1 (runF E n0 g c15_15 s h) := k_block
@[simp] theorem q15_17 : runF E n0 g c15_17 s h = regK (some [2, 3, 27, 28]) (runO E n0 g h.length o15_17 s h) := k_reg0
@[simp] theorem q15_18 : runF E n0 g c15_18 s h = seqK E n0 g c15_17 (runF E n0 g c15_16 s h) := k_seq
@[simp] theorem q15_19 : runF E n0 g c15_19 s h = seqK E n0 g c15_18 (runF E n0 g c15_8 s h) := k_seq
@[simp] theorem q15_20 : runF E n0 g c15_20 s h = seqK E n0 g c15_19 (runF E n0 g c15_7 s h) := k_seq
theorem q15_21 : runF E n0 g c15_21 s h = loopK E n0 g (some [2, 3, 27, 28]) c15_20 (runF E n0 g c15_20 (clearO (some [2, 3, 27, 28]) s) h) := k_loop
@[simp] theorem q15_21L : runF E n0 g (.loop (some [2, 3, 27, 28]) c15_20) s h = runF E n0 g c15_21 s h := rfl
@[simp] theorem q15_22 : runF E n0 g c15_22 s h = blkK (some [2, 3]) 0 (runF E n0 g c15_21 s h) := k_block
@[simp] theorem q15_23 : runF E n0 g c15_23 s h = seqK E n0 g c15_22 (runF E n0 g c15_6 s h) := k_seq
@[simp] theorem q15_24 : runF E n0 g c15_24 s h = regK (some [2, 3, 45, 46]) (runO E n0 g h.length o15_24 s h) := k_reg0
@[simp] theorem q15_25 : runF E n0 g c15_25 s h = regK (some [2, 3, 45, 46, 47]) (runO E n0 g h.length o15_25 s h) := k_reg0
@[simp] theorem q15_26 : runF E n0 g c15_26 s h = condK E n0 g .skip (.exit 2) s h (get s 47) := k_cond
@[simp] theorem q15_27 : runF E n0 g c15_27 s h = regK (some [2, 3, 6, 45, 46]) (runO E n0 g h.length o15_27 s h) := k_reg0
@[simp] theorem q15_28 : runF E n0 g c15_28 s h = regT (some [2, 3, 7, 8, 45, 46]) [(6, [12]), (9, [12])] (runTr E n0 g h.length o15_28 s (h ++ [(.cells [(.str []), (.sl .full []), (.sl .full []), (.sl .full []), (.int .i64 0), (.int .i64 0), (.str []), (.int .i64 0), (.sl .full [])]), (.cells [(.str []), (.sl .full []), (.sl .full []), (.sl .full []), (.int .i64 0), (.int .i64 0), (.str []), (.int .i64 0), (.sl .full [])])]) []) := k_regd
@[simp] theorem q15_29 : runF E n0 g c15_29 s h = regK (some [2, 3, 45, 46, 95]) (runO E n0 g h.length o15_29 s h) := k_reg0
@[simp] theorem q15_30 : runF E n0 g c15_30 s h = regK (some [4]) (runO E n0 g h.length o15_30 s h) := k_reg0
@[simp] theorem q15_31 : runF E n0 g c15_31 s h = seqK E n0 g .ret (runF E n0 g c15_30 s h) := k_seq
@[simp] theorem q15_32 : runF E n0 g c15_32 s h = condK E n0 g c15_31 .skip s h (get s 95) := k_cond
@[simp] theorem q15_33 : runF E n0 g c15_33 s h = seqK E n0 g c15_32 (runF E n0 g c15_29 s h) := k_seq
@[simp] theorem q15_34 : runF E n0 g c15_34 s h = seqK E n0 g c15_33 (runF E n0 g c15_28 s h) := k_seq
@[simp] theorem q15_35 : runF E n0 g c15_35 s h = seqK E n0 g c15_34 (runF E n0 g c15_27 s h) := k_seq
@[simp] theorem q15_36 : runF E n0 g c15_36 s h = blkK (some [2, 3, 45, 46]) 3 (runF E n0 g c15_35 s h) := k_block
@[simp] theorem q15_37 : runF E n0 g c15_37 s h = regK (some [2, 3, 45, 46]) (runO E n0 g h.length o15_37 s h) := k_reg0
@[simp] theorem q15_38 : runF E n0 g c15_38 s h = seqK E n0 g c15_37 (runF E n0 g c15_36 s h) := k_seq
@[simp] theorem q15_39 : runF E n0 g c15_39 s h = seqK E n0 g c15_38 (runF E n0 g c15_26 s h) := k_seq
@[simp] theorem q15_40 : runF E n0 g c15_40 s h = seqK E n0 g c15_39 (runF E n0 g c15_25 s h) := k_seq
theorem q15_41 : runF E n0 g c15_41 s h = loopK E n0 g (some [2, 3, 45, 46]) c15_40 (runF E n0 g c15_40 (clearO (some [2, 3, 45, 46]) s) h) := k_loop
@[simp] theorem q15_41L : runF E n0 g (.loop (some [2, 3, 45, 46]) c15_40) s h = runF E n0 g c15_41 s h := rfl
@[simp] theorem q15_42 : runF E n0 g c15_42 s h = blkK (some []) 2 (runF E n0 g c15_41 s h) := k_block
@[simp] theorem q15_43 : runF E n0 g c15_43 s h = seqK E n0 g c15_42 (runF E n0 g c15_24 s h) := k_seq
@[simp] theorem q15_44 : runF E n0 g c15_44 s h = regK (some [4]) (runO E n0 g h.length o15_44 s h) := k_reg0
@[simp] theorem q15_45 : runF E n0 g c15_45 s h = seqK E n0 g .ret (runF E n0 g c15_44 s h) := k_seq
@[simp] theorem q15_46 : runF E n0 g c15_46 s h = seqK E n0 g c15_45 (runF E n0 g c15_43 s h) := k_seq
@[simp] theorem q15_47 : runF E n0 g c15_47 s h = seqK E n0 g c15_46 (runF E n0 g c15_23 s h) := k_seq
@[simp] theorem q15_48 : runF E n0 g c15_48 s h = seqK E n0 g c15_47 (runF E n0 g c15_5 s h) := k_seq
@[simp] theorem q15_49 : runF E n0 g c15_49 s h = seqK E n0 g c15_48 (runF E n0 g c15_0 s h) := k_seq
@[simp] theorem qq15 : runF E n0 g c15 s h = runF E n0 g c15_49 s h := rfl
@[simp] theorem q35_0 : runF E n0 g c35_0 s h = regK (some [0, 1]) (runO E n0 g h.length o35_0 s h) := k_reg0
@[simp] theorem q35_1 : runF E n0 g c35_1 s h = regK (some [0, 1, 10]) (runO E n0 g h.length o35_1 s h) := k_reg0
@[simp] theorem q35_2 : runF E n0 g c35_2 s h = regK (some [4]) (runO E n0 g h.length o35_2 s h) := k_reg0
@[simp] theorem q35_3 : runF E n0 g c35_3 s h = seqK E n0 g .ret (runF E n0 g c35_2 s h) := k_seq
@[simp] theorem q35_4 : runF E n0 g c35_4 s h = condK E n0 g c35_3 .skip s h (get s 10) := k_cond
@[simp] theorem q35_5 : runF E n0 g c35_5 s h = seqK E n0 g c35_4 (runF E n0 g c35_1 s h) := k_seq
@[simp] theorem q35_6 : runF E n0 g c35_6 s h = regK (some [0, 1, 12, 13]) (runO E n0 g h.length o35_6 s h) := k_reg0
@[simp] theorem q35_7 : runF E n0 g c35_7 s h = regK (some [0, 1, 12, 13, 14]) (runO E n0 g h.length o35_7 s h) := k_reg0
@[simp] theorem q35_8 : runF E n0 g c35_8 s h = condK E n0 g .skip (.exit 0) s h (get s 14) := k_cond
@[simp] theorem q35_9 : runF E n0 g c35_9 s h = regK (some [0, 1, 5, 12, 13]) (runO E n0 g h.length o35_9 s h) := k_reg0
@[simp] theorem q35_10 : runF E n0 g c35_10 s h = regK (some [0, 1, 12, 13, 24]) (runO E n0 g h.length o35_10 s h) := by rw [show c35_10 = .reg (some [0, 1, 12, 13, 24]) [] o35_10 (some []) from rfl, k_regd0, List.append_nil]
@[simp] theorem q35_11 : runF E n0 g c35_11 s h = regK (some [4]) (runO E n0 g h.length o35_11 s h) := k_reg0
@[simp] theorem q35_12 : runF E n0 g c35_12 s h = seqK E n0 g .ret (runF E n0 g c35_11 s h) := k_seq
@[simp] theorem q35_13 : runF E n0 g c35_13 s h = condK E n0 g c35_12 .skip s h (get s 24) := k_cond
@[simp] theorem q35_14 : runF E n0 g c35_14 s h = seqK E n0 g c35_13 (runF E n0 g c35_10 s h) := k_seq
@[simp] theorem q35_15 : runF E n0 g c35_15 s h = seqK E n0 g c35_14 (runF E n0 g c35_9 s h) := k_seq
@[simp] theorem q35_16 : runF E n0 g c35_16 s h = blkK (some [0, 1, 12, 13]) 1 (runF E n0 g c35_15 s h) := k_block
@[simp] theorem q35_17 : runF E n0 g c35_17 s h = regK (some [0, 1, 12, 13]) (runO E n0 g h.length o35_17 s h) := k_reg0
@[simp] theorem q35_18 : runF E n0 g c35_18 s h = seqK E n0 g c35_17 (runF E n0 g c35_16 s h) := k_seq
@[simp] theorem q35_19 : runF E n0 g c35_19 s h = seqK E n0 g c35_18 (runF E n0 g c35_8 s h) := k_seq
@[simp] theorem q35_20 : runF E n0 g c35_20 s h = seqK E n0 g c35_19 (runF E n0 g c35_7 s h) := k_seq
theorem q35_21 : runF E n0 g c35_21 s h = loopK E n0 g (some [0, 1, 12, 13]) c35_20 (runF E n0 g c35_20 (clearO (some [0, 1, 12, 13]) s) h) := k_loop
@[simp] theorem q35_21L : runF E n0 g (.loop (some [0, 1, 12, 13]) c35_20) s h = runF E n0 g c35_21 s h := rfl
@[simp] theorem q35_22 : runF E n0 g c35_22 s h = blkK (some []) 0 (runF E n0 g c35_21 s h) := k_block
@[simp] theorem q35_23 : runF E n0 g c35_23 s h = seqK E n0 g c35_22 (runF E n0 g c35_6 s h) := k_seq
@[simp] theorem q35_24 : runF E n0 g c35_24 s h = regK (some [4]) (runO E n0 g h.length o35_24 s h) := k_reg0
@[simp] theorem q35_25 : runF E n0 g c35_25 s h = seqK E n0 g .ret (runF E n0 g c35_24 s h) := k_seq
@[simp] theorem q35_26 : runF E n0 g c35_26 s h = seqK E n0 g c35_25 (runF E n0 g c35_23 s h) := k_seq
@[simp] theorem q35_27 : runF E n0 g c35_27 s h = seqK E n0 g c35_26 (runF E n0 g c35_5 s h) := k_seq
@[simp] theorem q35_28 : runF E n0 g c35_28 s h = seqK E n0 g c35_27 (runF E n0 g c35_0 s h) := k_seq
@[simp] theorem qq35 : runF E n0 g c35 s h = runF E n0 g c35_28 s h := rfl
@[simp] theorem q36_0 : runF E n0 g c36_0 s h = regK (some [0, 1]) (runO E n0 g h.length o36_0 s h) := k_reg0
@[simp] theorem q36_1 : runF E n0 g c36_1 s h = regK (some [0, 1, 13]) (runO E n0 g h.length o36_1 s h) := k_reg0
@[simp] theorem q36_2 : runF E n0 g c36_2 s h = regK (some [4]) (runO E n0 g h.length o36_2 s h) := k_reg0
@[simp] theorem q36_3 : runF E n0 g c36_3 s h = seqK E n0 g .ret (runF E n0 g c36_2 s h) := k_seq
@[simp] theorem q36_4 : runF E n0 g c36_4 s h = condK E n0 g c36_3 .skip s h (get s 13) := k_cond
@[simp] theorem q36_5 : runF E n0 g c36_5 s h = seqK E n0 g c36_4 (runF E n0 g c36_1 s h) := k_seq
@[simp] theorem q36_6 : runF E n0 g c36_6 s h = regK (some [0, 1, 15, 16]) (runO E n0 g h.length o36_6 s h) := k_reg0
@[simp] theorem q36_7 : runF E n0 g c36_7 s h = regK (some [0, 1, 15, 16, 17]) (runO E n0 g h.length o36_7 s h) := k_reg0
@[simp] theorem q36_8 : runF E n0 g c36_8 s h = condK E n0 g .skip (.exit 0) s h (get s 17) := k_cond
@[simp] theorem q36_9 : runF E n0 g c36_9 s h = regK (some [0, 1, 5, 15, 16]) (runO E n0 g h.length o36_9 s h) := k_reg0
@[simp] theorem q36_10 : runF E n0 g c36_10 s h = regT (some [0, 1, 6, 7, 15, 16]) [(7, [10])] (runTr E n0 g h.length o36_10 s (h ++ [(.cells [(.int .i64 0), (.str []), (.str []), (.int .i64 0), (.int .i64 0), (.int .i64 0), (.str []), (.int .i64 0), (.sl .full []), (.int .i64 0), (.int .i64 0), (.str []), (.int .i64 0), (.sl .full []), (.sl .full []), (.sl .full []), (.sl .full [])]), (.cells [(.int .i64 0), (.str []), (.str []), (.int .i64 0), (.int .i64 0), (.int .i64 0), (.str []), (.int .i64 0), (.sl .full []), (.int .i64 0), (.int .i64 0), (.str []), (.int .i64 0), (.sl .full []), (.sl .full []), (.sl .full []), (.sl .full [])])]) []) := k_regd
@[simp] theorem q36_11 : runF E n0 g c36_11 s h = regK (some [0, 1, 6, 7, 15, 16, 93]) (runO E n0 g h.length o36_11 s h) := k_reg0
@[simp] theorem q36_12 : runF E n0 g c36_12 s h = regK (some [4]) (runO E n0 g h.length o36_12 s h) := k_reg0
@[simp] theorem q36_13 : runF E n0 g c36_13 s h = seqK E n0 g .ret (runF E n0 g c36_12 s h) := k_seq
@[simp] theorem q36_14 : runF E n0 g c36_14 s h = condK E n0 g c36_13 .skip s h (get s 93) := k_cond
@[simp] theorem q36_15 : runF E n0 g c36_15 s h = seqK E n0 g c36_14 (runF E n0 g c36_11 s h) := k_seq
@[simp] theorem q36_16 : runF E n0 g c36_16 s h = regK (some [0, 1, 6, 7, 15, 16, 96, 97]) (runO E n0 g h.length o36_16 s h) := k_reg0
@[simp] theorem q36_17 : runF E n0 g c36_17 s h = regK (some [0, 1, 6, 7, 15, 16, 96, 97, 98]) (runO E n0 g h.length o36_17 s h) := k_reg0
@[simp] theorem q36_18 : runF E n0 g c36_18 s h = condK E n0 g .skip (.exit 2) s h (get s 98) := k_cond
@[simp] theorem q36_19 : runF E n0 g c36_19 s h = regK (some [0, 1, 6, 7, 8, 15, 16, 96, 97]) (runO E n0 g h.length o36_19 s h) := k_reg0
@[simp] theorem q36_20 : runF E n0 g c36_20 s h = regK (some [0, 1, 6, 7, 15, 16, 96, 97, 111]) (runO E n0 g h.length o36_20 s h) := by rw [show c36_20 = .reg (some [0, 1, 6, 7, 15, 16, 96, 97, 111]) [] o36_20 (some []) from rfl, k_regd0, List.append_nil]
@[simp] theorem q36_21 : runF E n0 g c36_21 s h = regK (some [4]) (runO E n0 g h.length o36_21 s h) := k_reg0
@[simp] theorem q36_22 : runF E n0 g c36_22 s h = seqK E n0 g .ret (runF E n0 g c36_21 s h) := k_seq
@[simp] theorem q36_23 : runF E n0 g c36_23 s h = condK E n0 g c36_22 .skip s h (get s 111) := k_cond
@[simp] theorem q36_24 : runF E n0 g c36_24 s h = seqK E n0 g c36_23 (runF E n0 g c36_20 s h) := k_seq
@[simp] theorem q36_25 : runF E n0 g c36_25 s h = seqK E n0 g c36_24 (runF E n0 g c36_19 s h) := k_seq
@[simp] theorem q36_26 : runF E n0 g c36_26 s h = blkK (some [0, 1, 6, 7, 15, 16, 96, 97]) 3 (runF E n0 g c36_25 s h) := k_block
@[simp] theorem q36_27 : runF E n0 g c36_27 s h = regK (some [0, 1, 6, 7, 15, 16, 96, 97]) (runO E n0 g h.length o36_27 s h) := k_reg0
@[simp] theorem q36_28 : runF E n0 g c36_28 s h = seqK E n0 g c36_27 (runF E n0 g c36_26 s h) := k_seq
@[simp] theorem q36_29 : runF E n0 g c36_29 s h = seqK E n0 g c36_28 (runF E n0 g c36_18 s h) := k_seq
@[simp] theorem q36_30 : runF E n0 g c36_30 s h = seqK E n0 g c36_29 (runF E n0 g c36_17 s h) := k_seq
theorem q36_31 : runF E n0 g c36_31 s h = loopK E n0 g (some [0, 1, 6, 7, 15, 16, 96, 97]) c36_30 (runF E n0 g c36_30 (clearO (some [0, 1, 6, 7, 15, 16, 96, 97]) s) h) := k_loop
@[simp] theorem q36_31L : runF E n0 g (.loop (some [0, 1, 6, 7, 15, 16, 96, 97]) c36_30) s h = runF E n0 g c36_31 s h := rfl
@[simp] theorem q36_32 : runF E n0 g c36_32 s h = blkK (some [0, 1, 15, 16]) 2 (runF E n0 g c36_31 s h) := k_block
@[simp] theorem q36_33 : runF E n0 g c36_33 s h = seqK E n0 g c36_32 (runF E n0 g c36_16 s h) := k_seq
@[simp] theorem q36_34 : runF E n0 g c36_34 s h = seqK E n0 g c36_33 (runF E n0 g c36_15 s h) := k_seq
@[simp] theorem q36_35 : runF E n0 g c36_35 s h = seqK E n0 g c36_34 (runF E n0 g c36_10 s h) := k_seq
@[simp] theorem q36_36 : runF E n0 g c36_36 s h = seqK E n0 g c36_35 (runF E n0 g c36_9 s h) := k_seq
@[simp] theorem q36_37 : runF E n0 g c36_37 s h = blkK (some [0, 1, 15, 16]) 1 (runF E n0 g c36_36 s h) := k_block
@[simp] theorem q36_38 : runF E n0 g c36_38 s h = regK (some [0, 1, 15, 16]) (runO E n0 g h.length o36_38 s h) := k_reg0
@[simp] theorem q36_39 : runF E n0 g c36_39 s h = seqK E n0 g c36_38 (runF E n0 g c36_37 s h) := k_seq
@[simp] theorem q36_40 : runF E n0 g c36_40 s h = seqK E n0 g c36_39 (runF E n0 g c36_8 s h) := k_seq
@[simp] theorem q36_41 : runF E n0 g c36_41 s h = seqK E n0 g c36_40 (runF E n0 g c36_7 s h) := k_seq
theorem q36_42 : runF E n0 g c36_42 s h = loopK E n0 g (some [0, 1, 15, 16]) c36_41 (runF E n0 g c36_41 (clearO (some [0, 1, 15, 16]) s) h) := k_loop
@[simp] theorem q36_42L : runF E n0 g (.loop (some [0, 1, 15, 16]) c36_41) s h = runF E n0 g c36_42 s h := rfl
@[simp] theorem q36_43 : runF E n0 g c36_43 s h = blkK (some []) 0 (runF E n0 g c36_42 s h) := k_block
@[simp] theorem q36_44 : runF E n0 g c36_44 s h = seqK E n0 g c36_43 (runF E n0 g c36_6 s h) := k_seq
@[simp] theorem q36_45 : runF E n0 g c36_45 s h = regK (some [4]) (runO E n0 g h.length o36_45 s h) := k_reg0
@[simp] theorem q36_46 : runF E n0 g c36_46 s h = seqK E n0 g .ret (runF E n0 g c36_45 s h) := k_seq
@[simp] theorem q36_47 : runF E n0 g c36_47 s h = seqK E n0 g c36_46 (runF E n0 g c36_44 s h) := k_seq
@[simp] theorem q36_48 : runF E n0 g c36_48 s h = seqK E n0 g c36_47 (runF E n0 g c36_5 s h) := k_seq
@[simp] theorem q36_49 : runF E n0 g c36_49 s h = seqK E n0 g c36_48 (runF E n0 g c36_0 s h) := k_seq
@[simp] theorem qq36 : runF E n0 g c36 s h = runF E n0 g c36_49 s h := rfl
end Go.Proofs.Ytkomfefpfalajaa
