/- How each piece of code is run. Printed by a program of ours. -/
import Derived.Test.YtkomfefpfalajaaAcEnv
import Derived.Test.YtkomfefpfalajaaAb6
namespace Go.Proofs.Ytkomfefpfalajaa
open Go Go.Proofs Ab
set_option maxRecDepth 100000
variable {E : Env} {n0 : Nat} {g : Bool} {s : Slots} {h : Heap}
@[simp] theorem q11_0 : runF E n0 g c11_0 s h = regK (some [0, 2, 3]) (runO E n0 g h.length o11_0 s (h ++ [(.cells [(.sl .full []), (.sl .full [])]), (.cells [(.int .i64 0), (.int .i64 0)])])) := k_reg
@[simp] theorem q11_1 : runF E n0 g c11_1 s h = regK (some [0, 2, 3, 4, 5]) (runO E n0 g h.length o11_1 s (h ++ [(.cells [(.int .i64 0), (.int .i64 0)])])) := k_reg
@[simp] theorem q11_2 : runF E n0 g c11_2 s h = regK (some [0, 2, 3, 4, 5, 16]) (runO E n0 g h.length o11_2 s h) := k_reg0
@[simp] theorem q11_3 : runF E n0 g c11_3 s h = regT (some [2, 3]) [(1, [2])] (runTr E n0 g h.length o11_3 s h []) := by rw [show c11_3 = .reg (some [2, 3]) [] o11_3 (some [(1, [2])]) from rfl, k_regd, List.append_nil]
@[simp] theorem q11_4 : runF E n0 g c11_4 s h = seqK E n0 g .ret (runF E n0 g c11_3 s h) := k_seq
@[simp] theorem q11_5 : runF E n0 g c11_5 s h = condK E n0 g c11_4 .skip s h (get s 16) := k_cond
@[simp] theorem q11_6 : runF E n0 g c11_6 s h = seqK E n0 g c11_5 (runF E n0 g c11_2 s h) := k_seq
@[simp] theorem q11_7 : runF E n0 g c11_7 s h = regK (some [2, 3, 4, 6]) (runO E n0 g h.length o11_7 s (h ++ [.dead])) := k_reg
@[simp] theorem q11_8 : runF E n0 g c11_8 s h = regK (some [2, 3, 4, 6, 7]) (runO E n0 g h.length o11_8 s (h ++ [(.cells [(.sl .full []), (.sl .full [])])])) := k_reg
@[simp] theorem q11_9 : runF E n0 g c11_9 s h = regK (some [2, 3, 4, 6, 7, 37]) (runO E n0 g h.length o11_9 s h) := k_reg0
@[simp] theorem q11_10 : runF E n0 g c11_10 s h = condK E n0 g .skip (.exit 0) s h (get s 37) := k_cond
@[simp] theorem q11_11 : runF E n0 g c11_11 s h = seqK E n0 g c11_10 (runF E n0 g c11_9 s h) := k_seq
@[simp] theorem q11_12 : runF E n0 g c11_12 s h = regK (some [2, 3, 4, 6, 7, 41]) (runO E n0 g h.length o11_12 s h) := k_reg0
@[simp] theorem q11_13 : runF E n0 g c11_13 s h = regK (some [2, 3, 4, 6, 7, 8]) (runO E n0 g h.length o11_13 s (h ++ [(.cells [(.str []), (.int .i64 0)])])) := k_reg
@[simp] theorem q11_14 : runF E n0 g c11_14 s h = regK (some [2, 3, 4, 6, 7, 8]) (runO E n0 g h.length o11_14 s h) := k_reg0
@[simp] theorem q11_15 : runF E n0 g c11_15 s h = regK (some [2, 3, 4, 6, 7]) (runO E n0 g h.length o11_15 s (h ++ [.dead])) := k_reg
@[simp] theorem q11_16 : runF E n0 g c11_16 s h = seqK E n0 g c11_15 (runF E n0 g c11_14 s h) := k_seq
@[simp] theorem q11_17 : runF E n0 g c11_17 s h = seqK E n0 g c11_16 (runF E n0 g c11_13 s h) := k_seq
@[simp] theorem q11_18 : runF E n0 g c11_18 s h = regK (some [2, 3, 4, 6, 7, 57]) (runO E n0 g h.length o11_18 s h) := k_reg0
@[simp] theorem q11_19 : runF E n0 g c11_19 s h = regT (some [2, 3, 4, 6, 7]) [(1, [3])] (runTr E n0 g h.length o11_19 s (h ++ [.dead]) []) := k_regd
@[simp] theorem q11_20 : runF E n0 g c11_20 s h = regK (some [2, 3, 4, 6, 7]) (runO E n0 g h.length o11_20 s h) := k_reg0
@[simp] theorem q11_21 : runF E n0 g c11_21 s h = condK E n0 g c11_19 c11_20 s h (get s 57) := k_cond
@[simp] theorem q11_22 : runF E n0 g c11_22 s h = seqK E n0 g c11_21 (runF E n0 g c11_18 s h) := k_seq
@[simp] theorem q11_23 : runF E n0 g c11_23 s h = condK E n0 g c11_17 c11_22 s h (get s 41) := k_cond
@[simp] theorem q11_24 : runF E n0 g c11_24 s h = seqK E n0 g c11_23 (runF E n0 g c11_12 s h) := k_seq
@[simp] theorem q11_25 : runF E n0 g c11_25 s h = blkK (some [2, 3, 4, 6, 7]) 2 (runF E n0 g c11_24 s h) := k_block
@[simp] theorem q11_26 : runF E n0 g c11_26 s h = blkK (some [2, 3, 4, 6, 7]) 1 (runF E n0 g c11_25 s h) := k_block
@[simp] theorem q11_27 : runF E n0 g c11_27 s h = seqK E n0 g c11_26 (runF E n0 g c11_11 s h) := k_seq
theorem q11_28 : runF E n0 g c11_28 s h = loopK E n0 g (some [2, 3, 4, 6, 7]) c11_27 (runF E n0 g c11_27 (clearO (some [2, 3, 4, 6, 7]) s) h) := k_loop
@[simp] theorem q11_28L : runF E n0 g (.loop (some [2, 3, 4, 6, 7]) c11_27) s h = runF E n0 g c11_28 s h := rfl
@[simp] theorem q11_29 : runF E n0 g c11_29 s h = blkK (some [2, 3, 6, 7]) 0 (runF E n0 g c11_28 s h) := k_block
@[simp] theorem q11_30 : runF E n0 g c11_30 s h = regK (some [2, 3, 6, 7, 70]) (runO E n0 g h.length o11_30 s h) := k_reg0
@[simp] theorem q11_31 : runF E n0 g c11_31 s h = regK (some [2, 3]) (runO E n0 g h.length o11_31 s h) := k_reg0
@[simp] theorem q11_32 : runF E n0 g c11_32 s h = seqK E n0 g .ret (runF E n0 g c11_31 s h) := k_seq
@[simp] theorem q11_33 : runF E n0 g c11_33 s h = condK E n0 g c11_32 .skip s h (get s 70) := k_cond
@[simp] theorem q11_34 : runF E n0 g c11_34 s h = seqK E n0 g c11_33 (runF E n0 g c11_30 s h) := k_seq
@[simp] theorem q11_35 : runF E n0 g c11_35 s h = regK (some [2, 3]) (runO E n0 g h.length o11_35 s h) := k_reg0
@[simp] theorem q11_36 : runF E n0 g c11_36 s h = seqK E n0 g .ret (runF E n0 g c11_35 s h) := k_seq
@[simp] theorem q11_37 : runF E n0 g c11_37 s h = seqK E n0 g c11_36 (runF E n0 g c11_34 s h) := k_seq
@[simp] theorem q11_38 : runF E n0 g c11_38 s h = seqK E n0 g c11_37 (runF E n0 g c11_29 s h) := k_seq
@[simp] theorem q11_39 : runF E n0 g c11_39 s h = seqK E n0 g c11_38 (runF E n0 g c11_8 s h) := k_seq
@[simp] theorem q11_40 : runF E n0 g c11_40 s h = seqK E n0 g c11_39 (runF E n0 g c11_7 s h) := k_seq
@[simp] theorem q11_41 : runF E n0 g c11_41 s h = seqK E n0 g c11_40 (runF E n0 g c11_6 s h) := k_seq
@[simp] theorem q11_42 : runF E n0 g c11_42 s h = seqK E n0 g c11_41 (runF E n0 g c11_1 s h) := k_seq
@[simp] theorem q11_43 : runF E n0 g c11_43 s h = seqK E n0 g c11_42 (runF E n0 g c11_0 s h) := k_seq
@[simp] theorem qq11 : runF E n0 g c11 s h = runF E n0 g c11_43 s h := rfl
@[simp] theorem q21_0 : runF E n0 g c21_0 s h = regK (some [0, 3]) (runO E n0 g h.length o21_0 s (h ++ [(.cells [(.int .i64 0), (.int .i64 0)])])) := k_reg
@[simp] theorem q21_1 : runF E n0 g c21_1 s h = regK (some [0, 3, 10]) (runO E n0 g h.length o21_1 s h) := k_reg0
@[simp] theorem q21_2 : runF E n0 g c21_2 s h = regK (some [2, 3]) (runO E n0 g h.length o21_2 s h) := k_reg0
@[simp] theorem q21_3 : runF E n0 g c21_3 s h = seqK E n0 g .ret (runF E n0 g c21_2 s h) := k_seq
@[simp] theorem q21_4 : runF E n0 g c21_4 s h = condK E n0 g c21_3 .skip s h (get s 10) := k_cond
@[simp] theorem q21_5 : runF E n0 g c21_5 s h = seqK E n0 g c21_4 (runF E n0 g c21_1 s h) := k_seq
@[simp] theorem q21_6 : runF E n0 g c21_6 s h = regK (some [0, 3, 4]) (runO E n0 g h.length o21_6 s h) := k_reg0
@[simp] theorem q21_7 : runF E n0 g c21_7 s h = regK (some [0, 3, 4, 5]) (runO E n0 g h.length o21_7 s h) := k_reg0
@[simp] theorem q21_8 : runF E n0 g c21_8 s h = regK (some [0, 3, 4, 5, 17]) (runO E n0 g h.length o21_8 s h) := k_reg0
@[simp] theorem q21_9 : runF E n0 g c21_9 s h = condK E n0 g .skip (.exit 0) s h (get s 17) := k_cond
@[simp] theorem q21_10 : runF E n0 g c21_10 s h = seqK E n0 g c21_9 (runF E n0 g c21_8 s h) := k_seq
@[simp] theorem q21_11 : runF E n0 g c21_11 s h = regK (some [0, 3, 4, 5, 6, 7]) (runO E n0 g h.length o21_11 s (h ++ [(.cells [(.int .i64 0), (.str []), (.int .i64 0)])])) := k_reg
@[simp] theorem q21_12 : runF E n0 g c21_12 s h = regK (some [0, 3, 4, 5, 6, 7, 32]) (runO E n0 g h.length o21_12 s h) := k_reg0
@[simp] theorem q21_13 : runF E n0 g c21_13 s h = regK (some [2, 3]) (runO E n0 g h.length o21_13 s h) := k_reg0
@[simp] theorem q21_14 : runF E n0 g c21_14 s h = seqK E n0 g .ret (runF E n0 g c21_13 s h) := k_seq
@[simp] theorem q21_15 : runF E n0 g c21_15 s h = condK E n0 g c21_14 .skip s h (get s 32) := k_cond
@[simp] theorem q21_16 : runF E n0 g c21_16 s h = seqK E n0 g c21_15 (runF E n0 g c21_12 s h) := k_seq
@[simp] theorem q21_17 : runF E n0 g c21_17 s h = regK (some [0, 3, 4, 5, 6]) (runO E n0 g h.length o21_17 s h) := k_reg0
@[simp] theorem q21_18 : runF E n0 g c21_18 s h = regK (some [0, 3, 4, 5, 6]) (runO E n0 g h.length o21_18 s (h ++ [.dead])) := k_reg
@[simp] theorem q21_19 : runF E n0 g c21_19 s h = regK (some [0, 3, 4, 5]) (runO E n0 g h.length o21_19 s h) := k_reg0
@[simp] theorem q21_20 : runF E n0 g c21_20 s h = seqK E n0 g c21_19 (runF E n0 g c21_18 s h) := k_seq
@[simp] theorem q21_21 : runF E n0 g c21_21 s h = seqK E n0 g c21_20 (runF E n0 g c21_17 s h) := k_seq
@[simp] theorem q21_22 : runF E n0 g c21_22 s h = seqK E n0 g c21_21 (runF E n0 g c21_16 s h) := k_seq
@[simp] theorem q21_23 : runF E n0 g c21_23 s h = seqK E n0 g c21_22 (runF E n0 g c21_11 s h) := k_seq
@[simp] theorem q21_24 : runF E n0 g c21_24 s h = blkK (some [0, 3, 4, 5]) 1 (runF E n0 g c21_23 s h) := k_block
@[simp] theorem q21_25 : runF E n0 g c21_25 s h = regK (some [0, 3, 4, 5]) (runO E n0 g h.length o21_25 s h) := k_reg0
@[simp] theorem q21_26 : runF E n0 g c21_26 s h = seqK E n0 g c21_25 (runF E n0 g c21_24 s h) := k_seq
@[simp] theorem q21_27 : runF E n0 g c21_27 s h = seqK E n0 g c21_26 (runF E n0 g c21_10 s h) := k_seq
theorem q21_28 : runF E n0 g c21_28 s h = loopK E n0 g (some [0, 3, 4, 5]) c21_27 (runF E n0 g c21_27 (clearO (some [0, 3, 4, 5]) s) h) := k_loop
@[simp] theorem q21_28L : runF E n0 g (.loop (some [0, 3, 4, 5]) c21_27) s h = runF E n0 g c21_28 s h := rfl
@[simp] theorem q21_29 : runF E n0 g c21_29 s h = blkK (some [3, 4]) 0 (runF E n0 g c21_28 s h) := k_block
@[simp] theorem q21_30 : runF E n0 g c21_30 s h = seqK E n0 g c21_29 (runF E n0 g c21_7 s h) := k_seq
@[simp] theorem q21_31 : runF E n0 g c21_31 s h = regK (some [2, 3]) (runO E n0 g h.length o21_31 s h) := k_reg0
@[simp] theorem q21_32 : runF E n0 g c21_32 s h = seqK E n0 g .ret (runF E n0 g c21_31 s h) := k_seq
@[simp] theorem q21_33 : runF E n0 g c21_33 s h = seqK E n0 g c21_32 (runF E n0 g c21_30 s h) := k_seq
@[simp] theorem q21_34 : runF E n0 g c21_34 s h = seqK E n0 g c21_33 (runF E n0 g c21_6 s h) := k_seq
@[simp] theorem q21_35 : runF E n0 g c21_35 s h = seqK E n0 g c21_34 (runF E n0 g c21_5 s h) := k_seq
@[simp] theorem q21_36 : runF E n0 g c21_36 s h = seqK E n0 g c21_35 (runF E n0 g c21_0 s h) := k_seq
@[simp] theorem qq21 : runF E n0 g c21 s h = runF E n0 g c21_36 s h := rfl
@[simp] theorem q22_0 : runF E n0 g c22_0 s h = regK (some [0, 1]) (runO E n0 g h.length o22_0 s h) := k_reg0
@[simp] theorem q22_1 : runF E n0 g c22_1 s h = regK (some [0, 1, 5]) (runO E n0 g h.length o22_1 s (h ++ [(.cells [(.int .i64 0), (.str []), (.int .i64 0)])])) := k_reg
@[simp] theorem q22_2 : runF E n0 g c22_2 s h = regK (some [0, 16]) (runO E n0 g h.length o22_2 s h) := k_reg0
@[simp] theorem q22_3 : runF E n0 g c22_3 s h = regK (some [4]) (runO E n0 g h.length o22_3 s h) := k_reg0
@[simp] theorem q22_4 : runF E n0 g c22_4 s h = seqK E n0 g .ret (runF E n0 g c22_3 s h) := k_seq
@[simp] theorem q22_5 : runF E n0 g c22_5 s h = condK E n0 g c22_4 .skip s h (get s 16) := k_cond
@[simp] theorem q22_6 : runF E n0 g c22_6 s h = seqK E n0 g c22_5 (runF E n0 g c22_2 s h) := k_seq
@[simp] theorem q22_7 : runF E n0 g c22_7 s h = regK (some []) (runO E n0 g h.length o22_7 s h) := k_reg0
@[simp] theorem q22_8 : runF E n0 g c22_8 s h = regK (some [4]) (runO E n0 g h.length o22_8 s h) := k_reg0
@[simp] theorem q22_9 : runF E n0 g c22_9 s h = seqK E n0 g .ret (runF E n0 g c22_8 s h) := k_seq
@[simp] theorem q22_10 : runF E n0 g c22_10 s h = seqK E n0 g c22_9 (runF E n0 g c22_7 s h) := k_seq
@[simp] theorem q22_11 : runF E n0 g c22_11 s h = seqK E n0 g c22_10 (runF E n0 g c22_6 s h) := k_seq
@[simp] theorem q22_12 : runF E n0 g c22_12 s h = seqK E n0 g c22_11 (runF E n0 g c22_1 s h) := k_seq
@[simp] theorem q22_13 : runF E n0 g c22_13 s h = seqK E n0 g c22_12 (runF E n0 g c22_0 s h) := k_seq
@[simp] theorem qq22 : runF E n0 g c22 s h = runF E n0 g c22_13 s h := rfl
@[simp] theorem q23_0 : runF E n0 g c23_0 s h = regK (some [0]) (runO E n0 g h.length o23_0 s h) := k_reg0
@[simp] theorem q23_1 : runF E n0 g c23_1 s h = regK (some [0, 5]) (runO E n0 g h.length o23_1 s h) := k_reg0
@[simp] theorem q23_2 : runF E n0 g c23_2 s h = regK (some []) (runO E n0 g h.length o23_2 s h) := k_reg0
@[simp] theorem q23_3 : runF E n0 g c23_3 s h = regK (some [2]) (runO E n0 g h.length o23_3 s h) := k_reg0
@[simp] theorem q23_4 : runF E n0 g c23_4 s h = seqK E n0 g .ret (runF E n0 g c23_3 s h) := k_seq
@[simp] theorem q23_5 : runF E n0 g c23_5 s h = seqK E n0 g c23_4 (runF E n0 g c23_2 s h) := k_seq
@[simp] theorem q23_6 : runF E n0 g c23_6 s h = condK E n0 g c23_5 .skip s h (get s 5) := k_cond
@[simp] theorem q23_7 : runF E n0 g c23_7 s h = seqK E n0 g c23_6 (runF E n0 g c23_1 s h) := k_seq
@[simp] theorem q23_8 : runF E n0 g c23_8 s h = regK (some [0]) (runO E n0 g h.length o23_8 s h) := k_reg0
@[simp] theorem q23_9 : runF E n0 g c23_9 s h = regK (some [2]) (runO E n0 g h.length o23_9 s h) := by rw [show c23_9 = .reg (some [2]) [] o23_9 (some []) from rfl, k_regd0, List.append_nil]
@[simp] theorem q23_10 : runF E n0 g c23_10 s h = seqK E n0 g .ret (runF E n0 g c23_9 s h) := k_seq
@[simp] theorem q23_11 : runF E n0 g c23_11 s h = seqK E n0 g c23_10 (runF E n0 g c23_8 s h) := k_seq
@[simp] theorem q23_12 : runF E n0 g c23_12 s h = seqK E n0 g c23_11 (runF E n0 g c23_7 s h) := k_seq
@[simp] theorem q23_13 : runF E n0 g c23_13 s h = seqK E n0 g c23_12 (runF E n0 g c23_0 s h) := k_seq
@[simp] theorem qq23 : runF E n0 g c23 s h = runF E n0 g c23_13 s h := rfl
@[simp] theorem q24_0 : runF E n0 g c24_0 s h = regK (some [0]) (runO E n0 g h.length o24_0 s h) := k_reg0
@[simp] theorem q24_1 : runF E n0 g c24_1 s h = regK (some [0, 3]) (runO E n0 g h.length o24_1 s (h ++ [(.cells [(.int .i64 0), (.str []), (.int .i64 0)])])) := k_reg
@[simp] theorem q24_2 : runF E n0 g c24_2 s h = regK (some [0, 3, 4, 5]) (runO E n0 g h.length o24_2 s h) := k_reg0
@[simp] theorem q24_3 : runF E n0 g c24_3 s h = regK (some [0, 4, 24]) (runO E n0 g h.length o24_3 s h) := k_reg0
@[simp] theorem q24_4 : runF E n0 g c24_4 s h = regK (some []) (runO E n0 g h.length o24_4 s h) := k_reg0
@[simp] theorem q24_5 : runF E n0 g c24_5 s h = regK (some [2]) (runO E n0 g h.length o24_5 s h) := k_reg0
@[simp] theorem q24_6 : runF E n0 g c24_6 s h = seqK E n0 g .ret (runF E n0 g c24_5 s h) := k_seq
@[simp] theorem q24_7 : runF E n0 g c24_7 s h = seqK E n0 g c24_6 (runF E n0 g c24_4 s h) := k_seq
@[simp] theorem q24_8 : runF E n0 g c24_8 s h = condK E n0 g c24_7 .skip s h (get s 24) := k_cond
@[simp] theorem q24_9 : runF E n0 g c24_9 s h = seqK E n0 g c24_8 (runF E n0 g c24_3 s h) := k_seq
@[simp] theorem q24_10 : runF E n0 g c24_10 s h = regK (some [4]) (runO E n0 g h.length o24_10 s h) := k_reg0
@[simp] theorem q24_11 : runF E n0 g c24_11 s h = regK (some [2]) (runO E n0 g h.length o24_11 s h) := k_reg0
@[simp] theorem q24_12 : runF E n0 g c24_12 s h = seqK E n0 g .ret (runF E n0 g c24_11 s h) := k_seq
@[simp] theorem q24_13 : runF E n0 g c24_13 s h = seqK E n0 g c24_12 (runF E n0 g c24_10 s h) := k_seq
@[simp] theorem q24_14 : runF E n0 g c24_14 s h = seqK E n0 g c24_13 (runF E n0 g c24_9 s h) := k_seq
@[simp] theorem q24_15 : runF E n0 g c24_15 s h = seqK E n0 g c24_14 (runF E n0 g c24_2 s h) := k_seq
@[simp] theorem q24_16 : runF E n0 g c24_16 s h = seqK E n0 g c24_15 (runF E n0 g c24_1 s h) := k_seq
@[simp] theorem q24_17 : runF E n0 g c24_17 s h = seqK E n0 g c24_16 (runF E n0 g c24_0 s h) := k_seq
@[simp] theorem qq24 : runF E n0 g c24 s h = runF E n0 g c24_17 s h := rfl
@[simp] theorem q25_0 : runF E n0 g c25_0 s h = regK (some [0, 7]) (runO E n0 g h.length o25_0 s h) := k_reg0
@[simp] theorem q25_1 : runF E n0 g c25_1 s h = regK (some []) (runO E n0 g h.length o25_1 s h) := k_reg0
@[simp] theorem q25_2 : runF E n0 g c25_2 s h = condK E n0 g c25_1 .skip s h (get s 7) := k_cond
@[simp] theorem q25_3 : runF E n0 g c25_3 s h = seqK E n0 g c25_2 (runF E n0 g c25_0 s h) := k_seq
@[simp] theorem qq25 : runF E n0 g c25 s h = runF E n0 g c25_3 s h := rfl
@[simp] theorem q26_0 : runF E n0 g c26_0 s h = regK (some [0, 2]) (runO E n0 g h.length o26_0 s (h ++ [(.cells [(.str []), (.sl .full []), (.sl .full []), (.sl .full []), (.int .i64 0), (.int .i64 0), (.str []), (.int .i64 0), (.sl .full [])])])) := k_reg
@[simp] theorem q26_1 : runF E n0 g c26_1 s h = regK (some [0, 2, 3]) (runO E n0 g h.length o26_1 s (h ++ [(.cells [(.str []), (.sl .full []), (.sl .full []), (.sl .full []), (.int .i64 0), (.int .i64 0), (.str []), (.int .i64 0), (.sl .full [])])])) := k_reg
@[simp] theorem q26_2 : runF E n0 g c26_2 s h = regK (some [0, 2, 3]) (runO E n0 g h.length o26_2 s h) := k_reg0
@[simp] theorem q26_3 : runF E n0 g c26_3 s h = regK (some [0, 2, 3, 11]) (runO E n0 g h.length o26_3 s h) := k_reg0
@[simp] theorem q26_4 : runF E n0 g c26_4 s h = regK (some [0, 2, 3]) (runO E n0 g h.length o26_4 s h) := k_reg0
@[simp] theorem q26_5 : runF E n0 g c26_5 s h = condK E n0 g c26_4 .skip s h (get s 11) := k_cond
@[simp] theorem q26_6 : runF E n0 g c26_6 s h = seqK E n0 g c26_5 (runF E n0 g c26_3 s h) := k_seq
@[simp] theorem q26_7 : runF E n0 g c26_7 s h = regK (some [0, 2, 3]) (runO E n0 g h.length o26_7 s h) := k_reg0
@[simp] theorem q26_8 : runF E n0 g c26_8 s h = regK (some [0, 2, 3, 18]) (runO E n0 g h.length o26_8 s h) := k_reg0
@[simp] theorem q26_9 : runF E n0 g c26_9 s h = regK (some [0, 2, 3]) (runO E n0 g h.length o26_9 s h) := k_reg0
@[simp] theorem q26_10 : runF E n0 g c26_10 s h = condK E n0 g c26_9 .skip s h (get s 18) := k_cond
@[simp] theorem q26_11 : runF E n0 g c26_11 s h = seqK E n0 g c26_10 (runF E n0 g c26_8 s h) := k_seq
@[simp] theorem q26_12 : runF E n0 g c26_12 s h = regK (some [0, 2, 3]) (runO E n0 g h.length o26_12 s h) := k_reg0
@[simp] theorem q26_13 : runF E n0 g c26_13 s h = regK (some [0, 2, 3, 33]) (runO E n0 g h.length o26_13 s h) := k_reg0
@[simp] theorem q26_14 : runF E n0 g c26_14 s h = condK E n0 g .skip (.exit 0) s h (get s 33) := k_cond
@[simp] theorem q26_15 : runF E n0 g c26_15 s h = seqK E n0 g c26_14 (runF E n0 g c26_13 s h) := k_seq
@[simp] theorem q26_16 : runF E n0 g c26_16 s h = regT (some [0, 2, 3]) [(1, [3])] (runTr E n0 g h.length o26_16 s (h ++ [.dead]) []) := k_regd
@[simp] theorem q26_17 : runF E n0 g c26_17 s h = blkK (some [0, 2, 3]) 1 (runF E n0 g c26_16 s h) := k_block
@[simp] theorem q26_18 : runF E n0 g c26_18 s h = seqK E n0 g c26_17 (runF E n0 g c26_15 s h) := k_seq
theorem q26_19 : runF E n0 g c26_19 s h = loopK E n0 g (some [0, 2, 3]) c26_18 (runF E n0 g c26_18 (clearO (some [0, 2, 3]) s) h) := k_loop
@[simp] theorem q26_19L : runF E n0 g (.loop (some [0, 2, 3]) c26_18) s h = runF E n0 g c26_19 s h := rfl
@[simp] theorem q26_20 : runF E n0 g c26_20 s h = blkK (some [0, 2, 3]) 0 (runF E n0 g c26_19 s h) := k_block
@[simp] theorem q26_21 : runF E n0 g c26_21 s h = regK (some [0, 2, 3]) (runO E n0 g h.length o26_21 s h) := k_reg0
@[simp] theorem q26_22 : runF E n0 g c26_22 s h = regK (some [0, 2, 3]) (runO E n0 g h.length o26_22 s h) := k_reg0
@[simp] theorem q26_23 : runF E n0 g c26_23 s h = regK (some [2, 3]) (runO E n0 g h.length o26_23 s h) := k_reg0
@[simp] theorem q26_24 : runF E n0 g c26_24 s h = regK (some [2]) (runO E n0 g h.length o26_24 s h) := k_reg0
@[simp] theorem q26_25 : runF E n0 g c26_25 s h = seqK E n0 g .ret (runF E n0 g c26_24 s h) := k_seq
@[simp] theorem q26_26 : runF E n0 g c26_26 s h = seqK E n0 g c26_25 (runF E n0 g c26_23 s h) := k_seq
@[simp] theorem q26_27 : runF E n0 g c26_27 s h = seqK E n0 g c26_26 (runF E n0 g c26_22 s h) := k_seq
@[simp] theorem q26_28 : runF E n0 g c26_28 s h = seqK E n0 g c26_27 (runF E n0 g c26_21 s h) := k_seq
@[simp] theorem q26_29 : runF E n0 g c26_29 s h = seqK E n0 g c26_28 (runF E n0 g c26_20 s h) := k_seq
@[simp] theorem q26_30 : runF E n0 g c26_30 s h = seqK E n0 g c26_29 (runF E n0 g c26_12 s h) := k_seq
@[simp] theorem q26_31 : runF E n0 g c26_31 s h = seqK E n0 g c26_30 (runF E n0 g c26_11 s h) := k_seq
@[simp] theorem q26_32 : runF E n0 g c26_32 s h = seqK E n0 g c26_31 (runF E n0 g c26_7 s h) := k_seq
@[simp] theorem q26_33 : runF E n0 g c26_33 s h = seqK E n0 g c26_32 (runF E n0 g c26_6 s h) := k_seq
@[simp] theorem q26_34 : runF E n0 g c26_34 s h = seqK E n0 g c26_33 (runF E n0 g c26_2 s h) := k_seq
@[simp] theorem q26_35 : runF E n0 g c26_35 s h = seqK E n0 g c26_34 (runF E n0 g c26_1 s h) := k_seq
@[simp] theorem q26_36 : runF E n0 g c26_36 s h = seqK E n0 g c26_35 (runF E n0 g c26_0 s h) := k_seq
@[simp] theorem qq26 : runF E n0 g c26 s h = runF E n0 g c26_36 s h := rfl
@[simp] theorem q27_0 : runF E n0 g c27_0 s h = regK (some [0]) (runO E n0 g h.length o27_0 s h) := k_reg0
@[simp] theorem q27_1 : runF E n0 g c27_1 s h = regK (some [0, 12]) (runO E n0 g h.length o27_1 s h) := by rw [show c27_1 = .reg (some [0, 12]) [] o27_1 (some []) from rfl, k_regd0, List.append_nil]
@[simp] theorem q27_2 : runF E n0 g c27_2 s h = regK (some [2]) (runO E n0 g h.length o27_2 s h) := by rw [show c27_2 = .reg (some [2]) [] o27_2 (some []) from rfl, k_regd0, List.append_nil]
@[simp] theorem q27_3 : runF E n0 g c27_3 s h = seqK E n0 g .ret (runF E n0 g c27_2 s h) := k_seq
@[simp] theorem q27_4 : runF E n0 g c27_4 s h = condK E n0 g c27_3 .skip s h (get s 12) := k_cond
@[simp] theorem q27_5 : runF E n0 g c27_5 s h = seqK E n0 g c27_4 (runF E n0 g c27_1 s h) := k_seq
@[simp] theorem q27_6 : runF E n0 g c27_6 s h = regK (some [2]) (runO E n0 g h.length o27_6 s h) := k_reg0
@[simp] theorem q27_7 : runF E n0 g c27_7 s h = seqK E n0 g .ret (runF E n0 g c27_6 s h) := k_seq
@[simp] theorem q27_8 : runF E n0 g c27_8 s h = seqK E n0 g c27_7 (runF E n0 g c27_5 s h) := k_seq
@[simp] theorem q27_9 : runF E n0 g c27_9 s h = seqK E n0 g c27_8 (runF E n0 g c27_0 s h) := k_seq
@[simp] theorem qq27 : runF E n0 g c27 s h = runF E n0 g c27_9 s h := rfl
@[simp] theorem q51_0 : runF E n0 g c51_0 s h = regK (some [0]) (runO E n0 g h.length o51_0 s h) := k_reg0
@[simp] theorem q51_1 : runF E n0 g c51_1 s h = regK (some [0, 3]) (runO E n0 g h.length o51_1 s h) := k_reg0
@[simp] theorem q51_2 : runF E n0 g c51_2 s h = regK (some [0, 3, 7]) (runO E n0 g h.length o51_2 s h) := k_reg0
@[simp] theorem q51_3 : runF E n0 g c51_3 s h = condK E n0 g .skip (.exit 0) s h (get s 7) := k_cond
@[simp] theorem q51_4 : runF E n0 g c51_4 s h = seqK E n0 g c51_3 (runF E n0 g c51_2 s h) := k_seq
@[simp] theorem q51_5 : runF E n0 g c51_5 s h = regK (some [0, 3, 10]) (runO E n0 g h.length o51_5 s h) := k_reg0
@[simp] theorem q51_6 : runF E n0 g c51_6 s h = regK (some [0, 3, 10, 12]) (runO E n0 g h.length o51_6 s h) := k_reg0
@[simp] theorem q51_7 : runF E n0 g c51_7 s h = regK (some [0, 3, 10, 12]) (runO E n0 g h.length o51_7 s h) := k_reg0
@[simp] theorem q51_8 : runF E n0 g c51_8 s h = regK (some [0, 3, 10, 12]) (runO E n0 g h.length o51_8 s h) := k_reg0
@[simp] theorem q51_9 : runF E n0 g c51_9 s h = regK (some [0, 3, 10, 12]) (runO E n0 g h.length o51_9 s h) := k_reg0
@[simp] theorem q51_10 : runF E n0 g c51_10 s h = condK E n0 g .skip c51_9 s h (get s 12) := k_cond
@[simp] theorem q51_11 : runF E n0 g c51_11 s h = seqK E n0 g c51_10 (runF E n0 g c51_8 s h) := k_seq
@[simp] theorem q51_12 : runF E n0 g c51_12 s h = condK E n0 g .skip c51_11 s h (get s 12) := k_cond
@[simp] theorem q51_13 : runF E n0 g c51_13 s h = seqK E n0 g c51_12 (runF E n0 g c51_7 s h) := k_seq
@[simp] theorem q51_14 : runF E n0 g c51_14 s h = condK E n0 g .skip c51_13 s h (get s 12) := k_cond
@[simp] theorem q51_15 : runF E n0 g c51_15 s h = seqK E n0 g c51_14 (runF E n0 g c51_6 s h) := k_seq
@[simp] theorem q51_16 : runF E n0 g c51_16 s h = regK (some [0, 3]) (runO E n0 g h.length o51_16 s h) := k_reg0
@[simp] theorem q51_17 : runF E n0 g c51_17 s h = regK (some [0, 3, 19]) (runO E n0 g h.length o51_17 s h) := k_reg0
@[simp] theorem q51_18 : runF E n0 g c51_18 s h = regK (some [0, 3, 30]) (runO E n0 g h.length o51_18 s h) := k_reg0
@[simp] theorem q51_19 : runF E n0 g c51_19 s h = condK E n0 g .skip (.exit 3) s h (get s 30) := k_cond
@[simp] theorem q51_20 : runF E n0 g c51_20 s h = seqK E n0 g c51_19 (runF E n0 g c51_18 s h) := k_seq
@[simp] theorem q51_21 : runF E n0 g c51_21 s h = regK (some [0, 3]) (runO E n0 g h.length o51_21 s h) := k_reg0
@[simp] theorem q51_22 : runF E n0 g c51_22 s h = blkK (some [0, 3]) 4 (runF E n0 g c51_21 s h) := k_block
@[simp] theorem q51_23 : runF E n0 g c51_23 s h = seqK E n0 g c51_22 (runF E n0 g c51_20 s h) := k_seq
theorem q51_24 : runF E n0 g c51_24 s h = loopK E n0 g (some [0, 3]) c51_23 (runF E n0 g c51_23 (clearO (some [0, 3]) s) h) := k_loop
@[simp] theorem q51_24L : runF E n0 g (.loop (some [0, 3]) c51_23) s h = runF E n0 g c51_24 s h := rfl
@[simp] theorem q51_25 : runF E n0 g c51_25 s h = blkK (some [0, 3]) 3 (runF E n0 g c51_24 s h) := k_block
@[simp] theorem q51_26 : runF E n0 g c51_26 s h = regK (some [2]) (runO E n0 g h.length o51_26 s h) := k_reg0
@[simp] theorem q51_27 : runF E n0 g c51_27 s h = seqK E n0 g .ret (runF E n0 g c51_26 s h) := k_seq
@[simp] theorem q51_28 : runF E n0 g c51_28 s h = condK E n0 g c51_25 c51_27 s h (get s 19) := k_cond
@[simp] theorem q51_29 : runF E n0 g c51_29 s h = seqK E n0 g c51_28 (runF E n0 g c51_17 s h) := k_seq
@[simp] theorem q51_30 : runF E n0 g c51_30 s h = condK E n0 g c51_16 c51_29 s h (get s 12) := k_cond
@[simp] theorem q51_31 : runF E n0 g c51_31 s h = seqK E n0 g (.seq c51_14 c51_30) (runF E n0 g c51_6 s h) := k_assoc
@[simp] theorem q51_31a : runF E n0 g (.seq c51_14 c51_30) s h = condK E n0 g c51_16 (.seq c51_13 c51_30) s h (get s 12) := k_or
@[simp] theorem q51_31ab : runF E n0 g (.seq c51_13 c51_30) s h = seqK E n0 g (.seq c51_12 c51_30) (runF E n0 g c51_7 s h) := k_assoc
@[simp] theorem q51_31aba : runF E n0 g (.seq c51_12 c51_30) s h = condK E n0 g c51_16 (.seq c51_11 c51_30) s h (get s 12) := k_or
@[simp] theorem q51_31abab : runF E n0 g (.seq c51_11 c51_30) s h = seqK E n0 g (.seq c51_10 c51_30) (runF E n0 g c51_8 s h) := k_assoc
@[simp] theorem q51_31ababa : runF E n0 g (.seq c51_10 c51_30) s h = condK E n0 g c51_16 (.seq c51_9 c51_30) s h (get s 12) := k_or
@[simp] theorem q51_31ababab : runF E n0 g (.seq c51_9 c51_30) s h = seqK E n0 g c51_30 (runF E n0 g c51_9 s h) := k_seq
@[simp] theorem q51_32 : runF E n0 g c51_32 s h = blkK (some [0, 3]) 2 (runF E n0 g c51_31 s h) := k_block
@[simp] theorem q51_33 : runF E n0 g c51_33 s h = seqK E n0 g c51_32 (runF E n0 g c51_5 s h) := k_seq
@[simp] theorem q51_34 : runF E n0 g c51_34 s h = blkK (some [0, 3]) 1 (runF E n0 g c51_33 s h) := k_block
@[simp] theorem q51_35 : runF E n0 g c51_35 s h = seqK E n0 g c51_34 (runF E n0 g c51_4 s h) := k_seq
theorem q51_36 : runF E n0 g c51_36 s h = loopK E n0 g (some [0, 3]) c51_35 (runF E n0 g c51_35 (clearO (some [0, 3]) s) h) := k_loop
@[simp] theorem q51_36L : runF E n0 g (.loop (some [0, 3]) c51_35) s h = runF E n0 g c51_36 s h := rfl
@[simp] theorem q51_37 : runF E n0 g c51_37 s h = blkK (some [3]) 0 (runF E n0 g c51_36 s h) := k_block
@[simp] theorem q51_38 : runF E n0 g c51_38 s h = regK (some [2]) (runO E n0 g h.length o51_38 s h) := k_reg0
@[simp] theorem q51_39 : runF E n0 g c51_39 s h = seqK E n0 g .ret (runF E n0 g c51_38 s h) := k_seq
@[simp] theorem q51_40 : runF E n0 g c51_40 s h = seqK E n0 g c51_39 (runF E n0 g c51_37 s h) := k_seq
@[simp] theorem q51_41 : runF E n0 g c51_41 s h = seqK E n0 g c51_40 (runF E n0 g c51_1 s h) := k_seq
@[simp] theorem q51_42 : runF E n0 g c51_42 s h = seqK E n0 g c51_41 (runF E n0 g c51_0 s h) := k_seq
@[simp] theorem qq51 : runF E n0 g c51 s h = runF E n0 g c51_42 s h := rfl
@[simp] theorem q52_0 : runF E n0 g c52_0 s h = regK (some [0, 2]) (runO E n0 g h.length o52_0 s (h ++ [(.cells [(.int .i64 0), (.str []), (.int .i64 0)])])) := k_reg
@[simp] theorem q52_1 : runF E n0 g c52_1 s h = regK (some [0, 2, 4]) (runO E n0 g h.length o52_1 s h) := k_reg0
@[simp] theorem q52_2 : runF E n0 g c52_2 s h = regK (some [0, 2, 4, 7]) (runO E n0 g h.length o52_2 s h) := k_reg0
@[simp] theorem q52_3 : runF E n0 g c52_3 s h = regK (some [0, 2, 4]) (runO E n0 g h.length o52_3 s h) := k_reg0
@[simp] theorem q52_4 : runF E n0 g c52_4 s h = regK (some [0, 2, 4, 13]) (runO E n0 g h.length o52_4 s h) := k_reg0
@[simp] theorem q52_5 : runF E n0 g c52_5 s h = regK (some [2, 3]) (runO E n0 g h.length o52_5 s h) := k_reg0
@[simp] theorem q52_6 : runF E n0 g c52_6 s h = seqK E n0 g .ret (runF E n0 g c52_5 s h) := k_seq
@[simp] theorem q52_7 : runF E n0 g c52_7 s h = condK E n0 g c52_6 .skip s h (get s 13) := k_cond
@[simp] theorem q52_8 : runF E n0 g c52_8 s h = seqK E n0 g c52_7 (runF E n0 g c52_4 s h) := k_seq
@[simp] theorem q52_9 : runF E n0 g c52_9 s h = seqK E n0 g c52_8 (runF E n0 g c52_3 s h) := k_seq
@[simp] theorem q52_10 : runF E n0 g c52_10 s h = regK (some [2, 3]) (runO E n0 g h.length o52_10 s h) := k_reg0
@[simp] theorem q52_11 : runF E n0 g c52_11 s h = seqK E n0 g .ret (runF E n0 g c52_10 s h) := k_seq
@[simp] theorem q52_12 : runF E n0 g c52_12 s h = seqK E n0 g c52_11 (runF E n0 g c52_9 s h) := k_seq
@[simp] theorem q52_13 : runF E n0 g c52_13 s h = regK (some [0, 2, 4, 19]) (runO E n0 g h.length o52_13 s h) := k_reg0
@[simp] theorem q52_14 : runF E n0 g c52_14 s h = regK (some [0, 2, 4, 27]) (runO E n0 g h.length o52_14 s h) := k_reg0
@[simp] theorem q52_15 : runF E n0 g c52_15 s h = regK (some [2, 3]) (runO E n0 g h.length o52_15 s h) := k_reg0
@[simp] theorem q52_16 : runF E n0 g c52_16 s h = seqK E n0 g .ret (runF E n0 g c52_15 s h) := k_seq
@[simp] theorem q52_17 : runF E n0 g c52_17 s h = condK E n0 g c52_16 .skip s h (get s 27) := k_cond
@[simp] theorem q52_18 : runF E n0 g c52_18 s h = seqK E n0 g c52_17 (runF E n0 g c52_14 s h) := k_seq
@[simp] theorem q52_19 : runF E n0 g c52_19 s h = regK (some [2, 3]) (runO E n0 g h.length o52_19 s h) := k_reg0
@[simp] theorem q52_20 : runF E n0 g c52_20 s h = seqK E n0 g .ret (runF E n0 g c52_19 s h) := k_seq
@[simp] theorem q52_21 : runF E n0 g c52_21 s h = seqK E n0 g c52_20 (runF E n0 g c52_18 s h) := k_seq
@[simp] theorem q52_22 : runF E n0 g c52_22 s h = regK (some [0, 2, 4, 33]) (runO E n0 g h.length o52_22 s h) := k_reg0
@[simp] theorem q52_23 : runF E n0 g c52_23 s h = regK (some [2, 3]) (runO E n0 g h.length o52_23 s h) := k_reg0
@[simp] theorem q52_24 : runF E n0 g c52_24 s h = seqK E n0 g .ret (runF E n0 g c52_23 s h) := k_seq
@[simp] theorem q52_25 : runF E n0 g c52_25 s h = condK E n0 g c52_24 .skip s h (get s 33) := k_cond
@[simp] theorem q52_26 : runF E n0 g c52_26 s h = seqK E n0 g c52_25 (runF E n0 g c52_22 s h) := k_seq
@[simp] theorem q52_27 : runF E n0 g c52_27 s h = condK E n0 g c52_21 c52_26 s h (get s 19) := k_cond
@[simp] theorem q52_28 : runF E n0 g c52_28 s h = seqK E n0 g c52_27 (runF E n0 g c52_13 s h) := k_seq
@[simp] theorem q52_29 : runF E n0 g c52_29 s h = condK E n0 g c52_12 c52_28 s h (get s 7) := k_cond
@[simp] theorem q52_30 : runF E n0 g c52_30 s h = seqK E n0 g c52_29 (runF E n0 g c52_2 s h) := k_seq
@[simp] theorem q52_31 : runF E n0 g c52_31 s h = blkK (some [0, 2, 4]) 0 (runF E n0 g c52_30 s h) := k_block
@[simp] theorem q52_32 : runF E n0 g c52_32 s h = regK (some [2, 3]) (runO E n0 g h.length o52_32 s h) := k_reg0
@[simp] theorem q52_33 : runF E n0 g c52_33 s h = seqK E n0 g .ret (runF E n0 g c52_32 s h) := k_seq
@[simp] theorem q52_34 : runF E n0 g c52_34 s h = seqK E n0 g c52_33 (runF E n0 g c52_31 s h) := k_seq
@[simp] theorem q52_35 : runF E n0 g c52_35 s h = seqK E n0 g c52_34 (runF E n0 g c52_1 s h) := k_seq
@[simp] theorem q52_36 : runF E n0 g c52_36 s h = seqK E n0 g c52_35 (runF E n0 g c52_0 s h) := k_seq
@[simp] theorem qq52 : runF E n0 g c52 s h = runF E n0 g c52_36 s h := rfl
@[simp] theorem q53_0 : runF E n0 g c53_0 s h = regK (some [0, 2]) (runO E n0 g h.length o53_0 s (h ++ [(.cells [(.int .i64 0), (.str []), (.int .i64 0)])])) := k_reg
@[simp] theorem q53_1 : runF E n0 g c53_1 s h = regK (some [0, 2, 18]) (runO E n0 g h.length o53_1 s h) := by rw [show c53_1 = .reg (some [0, 2, 18]) [] o53_1 (some []) from rfl, k_regd0, List.append_nil]
@[simp] theorem q53_2 : runF E n0 g c53_2 s h = regK (some [2]) (runO E n0 g h.length o53_2 s h) := k_reg0
@[simp] theorem q53_3 : runF E n0 g c53_3 s h = seqK E n0 g .ret (runF E n0 g c53_2 s h) := k_seq
@[simp] theorem q53_4 : runF E n0 g c53_4 s h = condK E n0 g c53_3 .skip s h (get s 18) := k_cond
@[simp] theorem q53_5 : runF E n0 g c53_5 s h = seqK E n0 g c53_4 (runF E n0 g c53_1 s h) := k_seq
@[simp] theorem q53_6 : runF E n0 g c53_6 s h = regK (some [2]) (runO E n0 g h.length o53_6 s h) := by rw [show c53_6 = .reg (some [2]) [] o53_6 (some []) from rfl, k_regd0, List.append_nil]
@[simp] theorem q53_7 : runF E n0 g c53_7 s h = seqK E n0 g .ret (runF E n0 g c53_6 s h) := k_seq
@[simp] theorem q53_8 : runF E n0 g c53_8 s h = seqK E n0 g c53_7 (runF E n0 g c53_5 s h) := k_seq
@[simp] theorem q53_9 : runF E n0 g c53_9 s h = seqK E n0 g c53_8 (runF E n0 g c53_0 s h) := k_seq
@[simp] theorem qq53 : runF E n0 g c53 s h = runF E n0 g c53_9 s h := rfl
@[simp] theorem q54_0 : runF E n0 g c54_0 s h = regK (some [0]) (runO E n0 g h.length o54_0 s h) := k_reg0
@[simp] theorem q54_1 : runF E n0 g c54_1 s h = regK (some [3]) (runO E n0 g h.length o54_1 s (h ++ [(.cells [(.int .i64 0), (.str []), (.int .i64 0)])])) := k_reg
@[simp] theorem q54_2 : runF E n0 g c54_2 s h = regK (some [2]) (runO E n0 g h.length o54_2 s h) := k_reg0
@[simp] theorem q54_3 : runF E n0 g c54_3 s h = seqK E n0 g .ret (runF E n0 g c54_2 s h) := k_seq
@[simp] theorem q54_4 : runF E n0 g c54_4 s h = seqK E n0 g c54_3 (runF E n0 g c54_1 s h) := k_seq
@[simp] theorem q54_5 : runF E n0 g c54_5 s h = seqK E n0 g c54_4 (runF E n0 g c54_0 s h) := k_seq
@[simp] theorem qq54 : runF E n0 g c54 s h = runF E n0 g c54_5 s h := rfl
@[simp] theorem q55_0 : runF E n0 g c55_0 s h = regK (some [0]) (runO E n0 g h.length o55_0 s h) := k_reg0
@[simp] theorem q55_1 : runF E n0 g c55_1 s h = regK (some [4]) (runO E n0 g h.length o55_1 s h) := k_reg0
@[simp] theorem q55_2 : runF E n0 g c55_2 s h = regK (some [4, 5]) (runO E n0 g h.length o55_2 s h) := k_reg0
@[simp] theorem q55_3 : runF E n0 g c55_3 s h = regK (some [4, 5, 18]) (runO E n0 g h.length o55_3 s h) := k_reg0
@[simp] theorem q55_4 : runF E n0 g c55_4 s h = regK (some [4, 5]) (runO E n0 g h.length o55_4 s h) := k_reg0
@[simp] theorem q55_5 : runF E n0 g c55_5 s h = condK E n0 g c55_4 .skip s h (get s 18) := k_cond
@[simp] theorem q55_6 : runF E n0 g c55_6 s h = seqK E n0 g c55_5 (runF E n0 g c55_3 s h) := k_seq
@[simp] theorem q55_7 : runF E n0 g c55_7 s h = regK (some [4, 5, 41]) (runO E n0 g h.length o55_7 s h) := k_reg0
@[simp] theorem q55_8 : runF E n0 g c55_8 s h = regK (some [2, 3]) (runO E n0 g h.length o55_8 s h) := k_reg0
@[simp] theorem q55_9 : runF E n0 g c55_9 s h = seqK E n0 g .ret (runF E n0 g c55_8 s h) := k_seq
@[simp] theorem q55_10 : runF E n0 g c55_10 s h = condK E n0 g c55_9 .skip s h (get s 41) := k_cond
@[simp] theorem q55_11 : runF E n0 g c55_11 s h = seqK E n0 g c55_10 (runF E n0 g c55_7 s h) := k_seq
@[simp] theorem q55_12 : runF E n0 g c55_12 s h = regK (some [4, 5, 6]) (runO E n0 g h.length o55_12 s h) := k_reg0
@[simp] theorem q55_13 : runF E n0 g c55_13 s h = regK (some [4, 5, 6, 7]) (runO E n0 g h.length o55_13 s h) := k_reg0
@[simp] theorem q55_14 : runF E n0 g c55_14 s h = regK (some [4, 5, 6, 7, 45]) (runO E n0 g h.length o55_14 s h) := k_reg0
@[simp] theorem q55_15 : runF E n0 g c55_15 s h = condK E n0 g .skip (.exit 0) s h (get s 45) := k_cond
@[simp] theorem q55_16 : runF E n0 g c55_16 s h = seqK E n0 g c55_15 (runF E n0 g c55_14 s h) := k_seq
@[simp] theorem q55_17 : runF E n0 g c55_17 s h = regK (some [4, 5, 6, 7, 57]) (runO E n0 g h.length o55_17 s h) := k_reg0
@[simp] theorem q55_18 : runF E n0 g c55_18 s h = regK (some [2, 3]) (runO E n0 g h.length o55_18 s h) := k_reg0
@[simp] theorem q55_19 : runF E n0 g c55_19 s h = seqK E n0 g .ret (runF E n0 g c55_18 s h) := k_seq
@[simp] theorem q55_20 : runF E n0 g c55_20 s h = condK E n0 g c55_19 .skip s h (get s 57) := k_cond
@[simp] theorem q55_21 : runF E n0 g c55_21 s h = seqK E n0 g c55_20 (runF E n0 g c55_17 s h) := k_seq
@[simp] theorem q55_22 : runF E n0 g c55_22 s h = regK (some [4, 5, 6, 7]) (runO E n0 g h.length o55_22 s h) := k_reg0
@[simp] theorem q55_23 : runF E n0 g c55_23 s h = seqK E n0 g c55_22 (runF E n0 g c55_21 s h) := k_seq
@[simp] theorem q55_24 : runF E n0 g c55_24 s h = blkK (some [4, 5, 6, 7]) 1 (runF E n0 g c55_23 s h) := k_block
@[simp] theorem q55_25 : runF E n0 g c55_25 s h = regK (some [4, 5, 6, 7]) (runO E n0 g h.length o55_25 s h) := k_reg0
@[simp] theorem q55_26 : runF E n0 g c55_26 s h = seqK E n0 g c55_25 (runF E n0 g c55_24 s h) := k_seq
@[simp] theorem q55_27 : runF E n0 g c55_27 s h = seqK E n0 g c55_26 (runF E n0 g c55_16 s h) := k_seq
theorem q55_28 : runF E n0 g c55_28 s h = loopK E n0 g (some [4, 5, 6, 7]) c55_27 (runF E n0 g c55_27 (clearO (some [4, 5, 6, 7]) s) h) := k_loop
@[simp] theorem q55_28L : runF E n0 g (.loop (some [4, 5, 6, 7]) c55_27) s h = runF E n0 g c55_28 s h := rfl
@[simp] theorem q55_29 : runF E n0 g c55_29 s h = blkK (some [5, 6]) 0 (runF E n0 g c55_28 s h) := k_block
@[simp] theorem q55_30 : runF E n0 g c55_30 s h = seqK E n0 g c55_29 (runF E n0 g c55_13 s h) := k_seq
@[simp] theorem q55_31 : runF E n0 g c55_31 s h = regK (some [5, 6, 8]) (runO E n0 g h.length o55_31 s h) := k_reg0
@[simp] theorem q55_32 : runF E n0 g c55_32 s h = regK (some [5, 6, 8, 66]) (runO E n0 g h.length o55_32 s h) := k_reg0
@[simp] theorem q55_33 : runF E n0 g c55_33 s h = regK (some [5, 6, 8]) (runO E n0 g h.length o55_33 s h) := k_reg0
@[simp] theorem q55_34 : runF E n0 g c55_34 s h = condK E n0 g c55_33 .skip s h (get s 66) := k_cond
@[simp] theorem q55_35 : runF E n0 g c55_35 s h = seqK E n0 g c55_34 (runF E n0 g c55_32 s h) := k_seq
@[simp] theorem q55_36 : runF E n0 g c55_36 s h = regK (some [5, 6, 71]) (runO E n0 g h.length o55_36 s h) := k_reg0
@[simp] theorem q55_37 : runF E n0 g c55_37 s h = regK (some [2, 3]) (runO E n0 g h.length o55_37 s h) := k_reg0
@[simp] theorem q55_38 : runF E n0 g c55_38 s h = seqK E n0 g .ret (runF E n0 g c55_37 s h) := k_seq
@[simp] theorem q55_39 : runF E n0 g c55_39 s h = condK E n0 g c55_38 .skip s h (get s 71) := k_cond
@[simp] theorem q55_40 : runF E n0 g c55_40 s h = seqK E n0 g c55_39 (runF E n0 g c55_36 s h) := k_seq
@[simp] theorem q55_41 : runF E n0 g c55_41 s h = regK (some [6, 72]) (runO E n0 g h.length o55_41 s h) := k_reg0
@[simp] theorem q55_42 : runF E n0 g c55_42 s h = regK (some [2, 3]) (runO E n0 g h.length o55_42 s h) := k_reg0
@[simp] theorem q55_43 : runF E n0 g c55_43 s h = seqK E n0 g .ret (runF E n0 g c55_42 s h) := k_seq
@[simp] theorem q55_44 : runF E n0 g c55_44 s h = condK E n0 g c55_43 .skip s h (get s 72) := k_cond
@[simp] theorem q55_45 : runF E n0 g c55_45 s h = seqK E n0 g c55_44 (runF E n0 g c55_41 s h) := k_seq
@[simp] theorem q55_46 : runF E n0 g c55_46 s h = regK (some [2, 3]) (runO E n0 g h.length o55_46 s h) := k_reg0
@[simp] theorem q55_47 : runF E n0 g c55_47 s h = seqK E n0 g .ret (runF E n0 g c55_46 s h) := k_seq
@[simp] theorem q55_48 : runF E n0 g c55_48 s h = seqK E n0 g c55_47 (runF E n0 g c55_45 s h) := k_seq
@[simp] theorem q55_49 : runF E n0 g c55_49 s h = seqK E n0 g c55_48 (runF E n0 g c55_40 s h) := k_seq
@[simp] theorem q55_50 : runF E n0 g c55_50 s h = seqK E n0 g c55_49 (runF E n0 g c55_35 s h) := k_seq
@[simp] theorem q55_51 : runF E n0 g c55_51 s h = seqK E n0 g c55_50 (runF E n0 g c55_31 s h) := k_seq
@[simp] theorem q55_52 : runF E n0 g c55_52 s h = seqK E n0 g c55_51 (runF E n0 g c55_30 s h) := k_seq
@[simp] theorem q55_53 : runF E n0 g c55_53 s h = seqK E n0 g c55_52 (runF E n0 g c55_12 s h) := k_seq
@[simp] theorem q55_54 : runF E n0 g c55_54 s h = seqK E n0 g c55_53 (runF E n0 g c55_11 s h) := k_seq
@[simp] theorem q55_55 : runF E n0 g c55_55 s h = seqK E n0 g c55_54 (runF E n0 g c55_6 s h) := k_seq
@[simp] theorem q55_56 : runF E n0 g c55_56 s h = seqK E n0 g c55_55 (runF E n0 g c55_2 s h) := k_seq
@[simp] theorem q55_57 : runF E n0 g c55_57 s h = seqK E n0 g c55_56 (runF E n0 g c55_1 s h) := k_seq
@[simp] theorem q55_58 : runF E n0 g c55_58 s h = seqK E n0 g c55_57 (runF E n0 g c55_0 s h) := k_seq
@[simp] theorem qq55 : runF E n0 g c55 s h = runF E n0 g c55_58 s h := rfl
@[simp] theorem q56_0 : runF E n0 g c56_0 s h = regK (some [0, 1]) (runO E n0 g h.length o56_0 s h) := k_reg0
@[simp] theorem q56_1 : runF E n0 g c56_1 s h = regK (some [0, 8]) (runO E n0 g h.length o56_1 s h) := k_reg0
@[simp] theorem q56_2 : runF E n0 g c56_2 s h = regK (some [4]) (runO E n0 g h.length o56_2 s h) := k_reg0
@[simp] theorem q56_3 : runF E n0 g c56_3 s h = seqK E n0 g .ret (runF E n0 g c56_2 s h) := k_seq
@[simp] theorem q56_4 : runF E n0 g c56_4 s h = condK E n0 g c56_3 .skip s h (get s 8) := k_cond
@[simp] theorem q56_5 : runF E n0 g c56_5 s h = seqK E n0 g c56_4 (runF E n0 g c56_1 s h) := k_seq
@[simp] theorem q56_6 : runF E n0 g c56_6 s h = regK (some []) (runO E n0 g h.length o56_6 s h) := k_reg0
@[simp] theorem q56_7 : runF E n0 g c56_7 s h = regK (some [4]) (runO E n0 g h.length o56_7 s h) := k_reg0
@[simp] theorem q56_8 : runF E n0 g c56_8 s h = seqK E n0 g .ret (runF E n0 g c56_7 s h) := k_seq
@[simp] theorem q56_9 : runF E n0 g c56_9 s h = seqK E n0 g c56_8 (runF E n0 g c56_6 s h) := k_seq
@[simp] theorem q56_10 : runF E n0 g c56_10 s h = seqK E n0 g c56_9 (runF E n0 g c56_5 s h) := k_seq
@[simp] theorem q56_11 : runF E n0 g c56_11 s h = seqK E n0 g c56_10 (runF E n0 g c56_0 s h) := k_seq
@[simp] theorem qq56 : runF E n0 g c56 s h = runF E n0 g c56_11 s h := rfl
@[simp] theorem q57_0 : runF E n0 g c57_0 s h = regK (some [0, 1]) (runO E n0 g h.length o57_0 s h) := k_reg0
@[simp] theorem q57_1 : runF E n0 g c57_1 s h = regK (some [1, 5]) (runO E n0 g h.length o57_1 s (h ++ [(.cells [(.int .i64 0), (.str []), (.int .i64 0)])])) := k_reg
@[simp] theorem q57_2 : runF E n0 g c57_2 s h = regK (some [4]) (runO E n0 g h.length o57_2 s h) := k_reg0
@[simp] theorem q57_3 : runF E n0 g c57_3 s h = seqK E n0 g .ret (runF E n0 g c57_2 s h) := k_seq
@[simp] theorem q57_4 : runF E n0 g c57_4 s h = seqK E n0 g c57_3 (runF E n0 g c57_1 s h) := k_seq
@[simp] theorem q57_5 : runF E n0 g c57_5 s h = seqK E n0 g c57_4 (runF E n0 g c57_0 s h) := k_seq
@[simp] theorem qq57 : runF E n0 g c57 s h = runF E n0 g c57_5 s h := rfl
@[simp] theorem q58_0 : runF E n0 g c58_0 s h = regK (some [0]) (runO E n0 g h.length o58_0 s h) := k_reg0
@[simp] theorem q58_1 : runF E n0 g c58_1 s h = regK (some [0, 3]) (runO E n0 g h.length o58_1 s h) := k_reg0
@[simp] theorem q58_2 : runF E n0 g c58_2 s h = regK (some [0, 3, 8]) (runO E n0 g h.length o58_2 s h) := k_reg0
@[simp] theorem q58_3 : runF E n0 g c58_3 s h = condK E n0 g .skip (.exit 0) s h (get s 8) := k_cond
@[simp] theorem q58_4 : runF E n0 g c58_4 s h = seqK E n0 g c58_3 (runF E n0 g c58_2 s h) := k_seq
@[simp] theorem q58_5 : runF E n0 g c58_5 s h = regK (some [0, 3]) (runO E n0 g h.length o58_5 s (h ++ [.dead])) := k_reg
@[simp] theorem q58_6 : runF E n0 g c58_6 s h = blkK (some [0, 3]) 1 (runF E n0 g c58_5 s h) := k_block
@[simp] theorem q58_7 : runF E n0 g c58_7 s h = seqK E n0 g c58_6 (runF E n0 g c58_4 s h) := k_seq
theorem q58_8 : runF E n0 g c58_8 s h = loopK E n0 g (some [0, 3]) c58_7 (runF E n0 g c58_7 (clearO (some [0, 3]) s) h) := k_loop
@[simp] theorem q58_8L : runF E n0 g (.loop (some [0, 3]) c58_7) s h = runF E n0 g c58_8 s h := rfl
@[simp] theorem q58_9 : runF E n0 g c58_9 s h = blkK (some [3]) 0 (runF E n0 g c58_8 s h) := k_block
@[simp] theorem q58_10 : runF E n0 g c58_10 s h = regK (some [2]) (runO E n0 g h.length o58_10 s h) := k_reg0
@[simp] theorem q58_11 : runF E n0 g c58_11 s h = seqK E n0 g .ret (runF E n0 g c58_10 s h) := k_seq
@[simp] theorem q58_12 : runF E n0 g c58_12 s h = seqK E n0 g c58_11 (runF E n0 g c58_9 s h) := k_seq
@[simp] theorem q58_13 : runF E n0 g c58_13 s h = seqK E n0 g c58_12 (runF E n0 g c58_1 s h) := k_seq
@[simp] theorem q58_14 : runF E n0 g c58_14 s h = seqK E n0 g c58_13 (runF E n0 g c58_0 s h) := k_seq
@[simp] theorem qq58 : runF E n0 g c58 s h = runF E n0 g c58_14 s h := rfl
@[simp] theorem q59_0 : runF E n0 g c59_0 s h = regK (some [0, 2]) (runO E n0 g h.length o59_0 s (h ++ [(.cells [(.int .i64 0), (.str []), (.str []), (.int .i64 0), (.int .i64 0), (.int .i64 0), (.str []), (.int .i64 0), (.sl .full []), (.int .i64 0), (.int .i64 0), (.str []), (.int .i64 0), (.sl .full []), (.sl .full []), (.sl .full []), (.sl .full [])])])) := k_reg
@[simp] theorem q59_1 : runF E n0 g c59_1 s h = regK (some [0, 2, 5]) (runO E n0 g h.length o59_1 s h) := k_reg0
@[simp] theorem q59_2 : runF E n0 g c59_2 s h = regK (some [0, 2, 3]) (runO E n0 g h.length o59_2 s (h ++ [(.cells [(.int .i64 0), (.str []), (.str []), (.int .i64 0), (.int .i64 0), (.int .i64 0), (.str []), (.int .i64 0), (.sl .full []), (.int .i64 0), (.int .i64 0), (.str []), (.int .i64 0), (.sl .full []), (.sl .full []), (.sl .full []), (.sl .full [])])])) := k_reg
@[simp] theorem q59_3 : runF E n0 g c59_3 s h = regK (some [0, 2, 3, 14]) (runO E n0 g h.length o59_3 s h) := k_reg0
@[simp] theorem q59_4 : runF E n0 g c59_4 s h = regK (some [2, 3]) (runO E n0 g h.length o59_4 s h) := k_reg0
@[simp] theorem q59_5 : runF E n0 g c59_5 s h = condK E n0 g c59_4 .skip s h (get s 14) := k_cond
@[simp] theorem q59_6 : runF E n0 g c59_6 s h = seqK E n0 g c59_5 (runF E n0 g c59_3 s h) := k_seq
@[simp] theorem q59_7 : runF E n0 g c59_7 s h = regK (some [2]) (runO E n0 g h.length o59_7 s h) := k_reg0
@[simp] theorem q59_8 : runF E n0 g c59_8 s h = seqK E n0 g .ret (runF E n0 g c59_7 s h) := k_seq
@[simp] theorem q59_9 : runF E n0 g c59_9 s h = seqK E n0 g c59_8 (runF E n0 g c59_6 s h) := k_seq
@[simp] theorem q59_10 : runF E n0 g c59_10 s h = seqK E n0 g c59_9 (runF E n0 g c59_2 s h) := k_seq
@[simp] theorem q59_11 : runF E n0 g c59_11 s h = regK (some [0, 2, 19]) (runO E n0 g h.length o59_11 s h) := k_reg0
@[simp] theorem q59_12 : runF E n0 g c59_12 s h = regK (some [2]) (runO E n0 g h.length o59_12 s h) := k_reg0
@[simp] theorem q59_13 : runF E n0 g c59_13 s h = seqK E n0 g .ret (runF E n0 g c59_12 s h) := k_seq
@[simp] theorem q59_14 : runF E n0 g c59_14 s h = condK E n0 g c59_13 .skip s h (get s 19) := k_cond
@[simp] theorem q59_15 : runF E n0 g c59_15 s h = seqK E n0 g c59_14 (runF E n0 g c59_11 s h) := k_seq
@[simp] theorem q59_16 : runF E n0 g c59_16 s h = condK E n0 g c59_10 c59_15 s h (get s 5) := k_cond
@[simp] theorem q59_17 : runF E n0 g c59_17 s h = seqK E n0 g c59_16 (runF E n0 g c59_1 s h) := k_seq
@[simp] theorem q59_18 : runF E n0 g c59_18 s h = blkK (some [0, 2]) 0 (runF E n0 g c59_17 s h) := k_block
@[simp] theorem q59_19 : runF E n0 g c59_19 s h = regK (some [0, 2, 4]) (runO E n0 g h.length o59_19 s (h ++ [(.cells [(.int .i64 0), (.str []), (.str []), (.int .i64 0), (.int .i64 0), (.int .i64 0), (.str []), (.int .i64 0), (.sl .full []), (.int .i64 0), (.int .i64 0), (.str []), (.int .i64 0), (.sl .full []), (.sl .full []), (.sl .full []), (.sl .full [])])])) := k_reg
@[simp] theorem q59_20 : runF E n0 g c59_20 s h = regK (some [2, 4]) (runO E n0 g h.length o59_20 s h) := k_reg0
@[simp] theorem q59_21 : runF E n0 g c59_21 s h = regK (some [2]) (runO E n0 g h.length o59_21 s h) := k_reg0
@[simp] theorem q59_22 : runF E n0 g c59_22 s h = seqK E n0 g .ret (runF E n0 g c59_21 s h) := k_seq
@[simp] theorem q59_23 : runF E n0 g c59_23 s h = seqK E n0 g c59_22 (runF E n0 g c59_20 s h) := k_seq
@[simp] theorem q59_24 : runF E n0 g c59_24 s h = seqK E n0 g c59_23 (runF E n0 g c59_19 s h) := k_seq
@[simp] theorem q59_25 : runF E n0 g c59_25 s h = seqK E n0 g c59_24 (runF E n0 g c59_18 s h) := k_seq
@[simp] theorem q59_26 : runF E n0 g c59_26 s h = seqK E n0 g c59_25 (runF E n0 g c59_0 s h) := k_seq
@[simp] theorem qq59 : runF E n0 g c59 s h = runF E n0 g c59_26 s h := rfl
@[simp] theorem q60_0 : runF E n0 g c60_0 s h = regK (some [0, 2]) (runO E n0 g h.length o60_0 s (h ++ [(.cells [(.int .i64 0), (.int .i64 0), (.str []), (.int .i64 0), (.sl .full [])])])) := k_reg
@[simp] theorem q60_1 : runF E n0 g c60_1 s h = regK (some [0, 2, 3]) (runO E n0 g h.length o60_1 s (h ++ [(.cells [(.int .i64 0), (.int .i64 0), (.str []), (.int .i64 0), (.sl .full [])])])) := k_reg
@[simp] theorem q60_2 : runF E n0 g c60_2 s h = regK (some [0, 2, 3, 9]) (runO E n0 g h.length o60_2 s h) := k_reg0
@[simp] theorem q60_3 : runF E n0 g c60_3 s h = regK (some [2]) (runO E n0 g h.length o60_3 s h) := k_reg0
@[simp] theorem q60_4 : runF E n0 g c60_4 s h = seqK E n0 g .ret (runF E n0 g c60_3 s h) := k_seq
@[simp] theorem q60_5 : runF E n0 g c60_5 s h = condK E n0 g c60_4 .skip s h (get s 9) := k_cond
@[simp] theorem q60_6 : runF E n0 g c60_6 s h = seqK E n0 g c60_5 (runF E n0 g c60_2 s h) := k_seq
@[simp] theorem q60_7 : runF E n0 g c60_7 s h = regK (some [0, 2, 3, 4]) (runO E n0 g h.length o60_7 s (h ++ [(.cells [(.int .i64 0), (.int .i64 0), (.str []), (.int .i64 0), (.sl .full [])])])) := k_reg
@[simp] theorem q60_8 : runF E n0 g c60_8 s h = regK (some [0, 2, 3, 4]) (runO E n0 g h.length o60_8 s h) := k_reg0
@[simp] theorem q60_9 : runF E n0 g c60_9 s h = regT (some [2]) [(0, [3]), (1, [3])] (runTr E n0 g h.length o60_9 s h []) := by rw [show c60_9 = .reg (some [2]) [] o60_9 (some [(0, [3]), (1, [3])]) from rfl, k_regd, List.append_nil]
@[simp] theorem q60_10 : runF E n0 g c60_10 s h = seqK E n0 g .ret (runF E n0 g c60_9 s h) := k_seq
@[simp] theorem q60_11 : runF E n0 g c60_11 s h = seqK E n0 g c60_10 (runF E n0 g c60_8 s h) := k_seq
@[simp] theorem q60_12 : runF E n0 g c60_12 s h = seqK E n0 g c60_11 (runF E n0 g c60_7 s h) := k_seq
@[simp] theorem q60_13 : runF E n0 g c60_13 s h = seqK E n0 g c60_12 (runF E n0 g c60_6 s h) := k_seq
@[simp] theorem q60_14 : runF E n0 g c60_14 s h = seqK E n0 g c60_13 (runF E n0 g c60_1 s h) := k_seq
@[simp] theorem q60_15 : runF E n0 g c60_15 s h = seqK E n0 g c60_14 (runF E n0 g c60_0 s h) := k_seq
@[simp] theorem qq60 : runF E n0 g c60 s h = runF E n0 g c60_15 s h := rfl
@[simp] theorem q94_0 : runF E n0 g c94_0 s h = regK (some [0]) (runO E n0 g h.length o94_0 s h) := k_reg0
@[simp] theorem q94_1 : runF E n0 g c94_1 s h = regK (some [0, 3]) (runO E n0 g h.length o94_1 s h) := k_reg0
@[simp] theorem q94_2 : runF E n0 g c94_2 s h = regK (some [0, 3, 19]) (runO E n0 g h.length o94_2 s h) := k_reg0
@[simp] theorem q94_3 : runF E n0 g c94_3 s h = condK E n0 g .skip (.exit 0) s h (get s 19) := k_cond
@[simp] theorem q94_4 : runF E n0 g c94_4 s h = seqK E n0 g c94_3 (runF E n0 g c94_2 s h) := k_seq
@[simp] theorem q94_5 : runF E n0 g c94_5 s h = regK (some [0, 3]) (runO E n0 g h.length o94_5 s h) := k_reg0
@[simp] theorem q94_6 : runF E n0 g c94_6 s h = blkK (some [0, 3]) 1 (runF E n0 g c94_5 s h) := k_block
@[simp] theorem q94_7 : runF E n0 g c94_7 s h = seqK E n0 g c94_6 (runF E n0 g c94_4 s h) := k_seq
theorem q94_8 : runF E n0 g c94_8 s h = loopK E n0 g (some [0, 3]) c94_7 (runF E n0 g c94_7 (clearO (some [0, 3]) s) h) := k_loop
@[simp] theorem q94_8L : runF E n0 g (.loop (some [0, 3]) c94_7) s h = runF E n0 g c94_8 s h := rfl
@[simp] theorem q94_9 : runF E n0 g c94_9 s h = blkK (some [3]) 0 (runF E n0 g c94_8 s h) := k_block
@[simp] theorem q94_10 : runF E n0 g c94_10 s h = regK (some [2]) (runO E n0 g h.length o94_10 s h) := k_reg0
@[simp] theorem q94_11 : runF E n0 g c94_11 s h = seqK E n0 g .ret (runF E n0 g c94_10 s h) := k_seq
@[simp] theorem q94_12 : runF E n0 g c94_12 s h = seqK E n0 g c94_11 (runF E n0 g c94_9 s h) := k_seq
@[simp] theorem q94_13 : runF E n0 g c94_13 s h = seqK E n0 g c94_12 (runF E n0 g c94_1 s h) := k_seq
@[simp] theorem q94_14 : runF E n0 g c94_14 s h = seqK E n0 g c94_13 (runF E n0 g c94_0 s h) := k_seq
@[simp] theorem qq94 : runF E n0 g c94 s h = runF E n0 g c94_14 s h := rfl
@[simp] theorem q95_0 : runF E n0 g c95_0 s h = regK (some [0]) (runO E n0 g h.length o95_0 s h) := k_reg0
@[simp] theorem q95_1 : runF E n0 g c95_1 s h = regK (some [0, 6, 7]) (runO E n0 g h.length o95_1 s h) := k_reg0
@[simp] theorem q95_2 : runF E n0 g c95_2 s h = regK (some [0, 6, 7, 8]) (runO E n0 g h.length o95_2 s h) := k_reg0
@[simp] theorem q95_3 : runF E n0 g c95_3 s h = condK E n0 g .skip (.exit 0) s h (get s 8) := k_cond
@[simp] theorem q95_4 : runF E n0 g c95_4 s h = regK (some [0, 4, 6, 7]) (runO E n0 g h.length o95_4 s h) := k_reg0
@[simp] theorem q95_5 : runF E n0 g c95_5 s h = regK (some [0, 4, 6, 7, 22]) (runO E n0 g h.length o95_5 s h) := k_reg0
@[simp] theorem q95_6 : runF E n0 g c95_6 s h = regK (some [2]) (runO E n0 g h.length o95_6 s h) := k_reg0
@[simp] theorem q95_7 : runF E n0 g c95_7 s h = seqK E n0 g .ret (runF E n0 g c95_6 s h) := k_seq
@[simp] theorem q95_8 : runF E n0 g c95_8 s h = condK E n0 g c95_7 .skip s h (get s 22) := k_cond
@[simp] theorem q95_9 : runF E n0 g c95_9 s h = seqK E n0 g c95_8 (runF E n0 g c95_5 s h) := k_seq
@[simp] theorem q95_10 : runF E n0 g c95_10 s h = seqK E n0 g c95_9 (runF E n0 g c95_4 s h) := k_seq
@[simp] theorem q95_11 : runF E n0 g c95_11 s h = blkK (some [0, 6, 7]) 1 (runF E n0 g c95_10 s h) := k_block
@[simp] theorem q95_12 : runF E n0 g c95_12 s h = regK (some [0, 6, 7]) (runO E n0 g h.length o95_12 s h) := k_reg0
@[simp] theorem q95_13 : runF E n0 g c95_13 s h = seqK E n0 g c95_12 (runF E n0 g c95_11 s h) := k_seq
@[simp] theorem q95_14 : runF E n0 g c95_14 s h = seqK E n0 g c95_13 (runF E n0 g c95_3 s h) := k_seq
@[simp] theorem q95_15 : runF E n0 g c95_15 s h = seqK E n0 g c95_14 (runF E n0 g c95_2 s h) := k_seq
theorem q95_16 : runF E n0 g c95_16 s h = loopK E n0 g (some [0, 6, 7]) c95_15 (runF E n0 g c95_15 (clearO (some [0, 6, 7]) s) h) := k_loop
@[simp] theorem q95_16L : runF E n0 g (.loop (some [0, 6, 7]) c95_15) s h = runF E n0 g c95_16 s h := rfl
@[simp] theorem q95_17 : runF E n0 g c95_17 s h = blkK (some [0]) 0 (runF E n0 g c95_16 s h) := k_block
@[simp] theorem q95_18 : runF E n0 g c95_18 s h = seqK E n0 g c95_17 (runF E n0 g c95_1 s h) := k_seq
@[simp] theorem q95_19 : runF E n0 g c95_19 s h = regK (some [0, 5]) (runO E n0 g h.length o95_19 s h) := k_reg0
@[simp] theorem q95_20 : runF E n0 g c95_20 s h = regK (some [0, 5, 27]) (runO E n0 g h.length o95_20 s h) := k_reg0
@[simp] theorem q95_21 : runF E n0 g c95_21 s h = condK E n0 g .skip (.exit 2) s h (get s 27) := k_cond
@[simp] theorem q95_22 : runF E n0 g c95_22 s h = seqK E n0 g c95_21 (runF E n0 g c95_20 s h) := k_seq
@[simp] theorem q95_23 : runF E n0 g c95_23 s h = regK (some [0, 5, 34]) (runO E n0 g h.length o95_23 s h) := by rw [show c95_23 = .reg (some [0, 5, 34]) [] o95_23 (some []) from rfl, k_regd0, List.append_nil]
@[simp] theorem q95_24 : runF E n0 g c95_24 s h = regK (some [2]) (runO E n0 g h.length o95_24 s h) := k_reg0
@[simp] theorem q95_25 : runF E n0 g c95_25 s h = seqK E n0 g .ret (runF E n0 g c95_24 s h) := k_seq
@[simp] theorem q95_26 : runF E n0 g c95_26 s h = condK E n0 g c95_25 .skip s h (get s 34) := k_cond
@[simp] theorem q95_27 : runF E n0 g c95_27 s h = seqK E n0 g c95_26 (runF E n0 g c95_23 s h) := k_seq
@[simp] theorem q95_28 : runF E n0 g c95_28 s h = blkK (some [0, 5]) 3 (runF E n0 g c95_27 s h) := k_block
@[simp] theorem q95_29 : runF E n0 g c95_29 s h = regK (some [0, 5]) (runO E n0 g h.length o95_29 s h) := k_reg0
@[simp] theorem q95_30 : runF E n0 g c95_30 s h = seqK E n0 g c95_29 (runF E n0 g c95_28 s h) := k_seq
@[simp] theorem q95_31 : runF E n0 g c95_31 s h = seqK E n0 g c95_30 (runF E n0 g c95_22 s h) := k_seq
theorem q95_32 : runF E n0 g c95_32 s h = loopK E n0 g (some [0, 5]) c95_31 (runF E n0 g c95_31 (clearO (some [0, 5]) s) h) := k_loop
@[simp] theorem q95_32L : runF E n0 g (.loop (some [0, 5]) c95_31) s h = runF E n0 g c95_32 s h := rfl
@[simp] theorem q95_33 : runF E n0 g c95_33 s h = blkK (some []) 2 (runF E n0 g c95_32 s h) := k_block
@[simp] theorem q95_34 : runF E n0 g c95_34 s h = seqK E n0 g c95_33 (runF E n0 g c95_19 s h) := k_seq
@[simp] theorem q95_35 : runF E n0 g c95_35 s h = regK (some [2]) (runO E n0 g h.length o95_35 s h) := k_reg0
@[simp] theorem q95_36 : runF E n0 g c95_36 s h = seqK E n0 g .ret (runF E n0 g c95_35 s h) := k_seq
@[simp] theorem q95_37 : runF E n0 g c95_37 s h = seqK E n0 g c95_36 (runF E n0 g c95_34 s h) := k_seq
@[simp] theorem q95_38 : runF E n0 g c95_38 s h = seqK E n0 g c95_37 (runF E n0 g c95_18 s h) := k_seq
@[simp] theorem q95_39 : runF E n0 g c95_39 s h = seqK E n0 g c95_38 (runF E n0 g c95_0 s h) := k_seq
@[simp] theorem qq95 : runF E n0 g c95 s h = runF E n0 g c95_39 s h := rfl
@[simp] theorem q96_0 : runF E n0 g c96_0 s h = regK (some [0]) (runO E n0 g h.length o96_0 s h) := k_reg0
@[simp] theorem q96_1 : runF E n0 g c96_1 s h = regK (some [2]) (runO E n0 g h.length o96_1 s h) := k_reg0
@[simp] theorem q96_2 : runF E n0 g c96_2 s h = seqK E n0 g .ret (runF E n0 g c96_1 s h) := k_seq
@[simp] theorem q96_3 : runF E n0 g c96_3 s h = seqK E n0 g c96_2 (runF E n0 g c96_0 s h) := k_seq
@[simp] theorem qq96 : runF E n0 g c96 s h = runF E n0 g c96_3 s h := rfl
@[simp] theorem q97_0 : runF E n0 g c97_0 s h = regK (some [0]) (runO E n0 g h.length o97_0 s h) := k_reg0
@[simp] theorem q97_1 : runF E n0 g c97_1 s h = regK (some [0, 3]) (runO E n0 g h.length o97_1 s h) := k_reg0
@[simp] theorem q97_2 : runF E n0 g c97_2 s h = regK (some [0, 3, 7]) (runO E n0 g h.length o97_2 s h) := k_reg0
@[simp] theorem q97_3 : runF E n0 g c97_3 s h = condK E n0 g .skip (.exit 0) s h (get s 7) := k_cond
@[simp] theorem q97_4 : runF E n0 g c97_4 s h = seqK E n0 g c97_3 (runF E n0 g c97_2 s h) := k_seq
@[simp] theorem q97_5 : runF E n0 g c97_5 s h = regK (some [0, 3, 14]) (runO E n0 g h.length o97_5 s h) := k_reg0
@[simp] theorem q97_6 : runF E n0 g c97_6 s h = regK (some [2]) (runO E n0 g h.length o97_6 s h) := k_reg0
@[simp] theorem q97_7 : runF E n0 g c97_7 s h = seqK E n0 g .ret (runF E n0 g c97_6 s h) := k_seq
@[simp] theorem q97_8 : runF E n0 g c97_8 s h = condK E n0 g c97_7 .skip s h (get s 14) := k_cond
@[simp] theorem q97_9 : runF E n0 g c97_9 s h = seqK E n0 g c97_8 (runF E n0 g c97_5 s h) := k_seq
@[simp] theorem q97_10 : runF E n0 g c97_10 s h = blkK (some [0, 3]) 1 (runF E n0 g c97_9 s h) := k_block
@[simp] theorem q97_11 : runF E n0 g c97_11 s h = regK (some [0, 3]) (runO E n0 g h.length o97_11 s h) := k_reg0
@[simp] theorem q97_12 : runF E n0 g c97_12 s h = seqK E n0 g c97_11 (runF E n0 g c97_10 s h) := k_seq
@[simp] theorem q97_13 : runF E n0 g c97_13 s h = seqK E n0 g c97_12 (runF E n0 g c97_4 s h) := k_seq
theorem q97_14 : runF E n0 g c97_14 s h = loopK E n0 g (some [0, 3]) c97_13 (runF E n0 g c97_13 (clearO (some [0, 3]) s) h) := k_loop
@[simp] theorem q97_14L : runF E n0 g (.loop (some [0, 3]) c97_13) s h = runF E n0 g c97_14 s h := rfl
@[simp] theorem q97_15 : runF E n0 g c97_15 s h = blkK (some [0]) 0 (runF E n0 g c97_14 s h) := k_block
@[simp] theorem q97_16 : runF E n0 g c97_16 s h = seqK E n0 g c97_15 (runF E n0 g c97_1 s h) := k_seq
@[simp] theorem q97_17 : runF E n0 g c97_17 s h = regK (some [2]) (runO E n0 g h.length o97_17 s h) := k_reg0
@[simp] theorem q97_18 : runF E n0 g c97_18 s h = seqK E n0 g .ret (runF E n0 g c97_17 s h) := k_seq
@[simp] theorem q97_19 : runF E n0 g c97_19 s h = seqK E n0 g c97_18 (runF E n0 g c97_16 s h) := k_seq
@[simp] theorem q97_20 : runF E n0 g c97_20 s h = seqK E n0 g c97_19 (runF E n0 g c97_0 s h) := k_seq
@[simp] theorem qq97 : runF E n0 g c97 s h = runF E n0 g c97_20 s h := rfl
@[simp] theorem q98_0 : runF E n0 g c98_0 s h = regK (some [0]) (runO E n0 g h.length o98_0 s h) := k_reg0
@[simp] theorem q98_1 : runF E n0 g c98_1 s h = regK (some [3]) (runO E n0 g h.length o98_1 s h) := k_reg0
@[simp] theorem q98_2 : runF E n0 g c98_2 s h = regK (some [3, 4]) (runO E n0 g h.length o98_2 s h) := k_reg0
@[simp] theorem q98_3 : runF E n0 g c98_3 s h = regK (some [3, 4]) (runO E n0 g h.length o98_3 s h) := k_reg0
@[simp] theorem q98_4 : runF E n0 g c98_4 s h = regK (some [3, 4]) (runO E n0 g h.length o98_4 s h) := k_reg0
@[simp] theorem q98_5 : runF E n0 g c98_5 s h = regK (some [3, 4]) (runO E n0 g h.length o98_5 s h) := k_reg0
@[simp] theorem q98_6 : runF E n0 g c98_6 s h = regK (some [3, 4]) (runO E n0 g h.length o98_6 s h) := k_reg0
@[simp] theorem q98_7 : runF E n0 g c98_7 s h = regK (some [3, 4]) (runO E n0 g h.length o98_7 s h) := k_reg0
@[simp] theorem q98_8 : runF E n0 g c98_8 s h = regK (some [3, 4]) (runO E n0 g h.length o98_8 s h) := k_reg0
@[simp] theorem q98_9 : runF E n0 g c98_9 s h = regK (some [3, 4]) (runO E n0 g h.length o98_9 s h) := k_reg0
@[simp] theorem q98_10 : runF E n0 g c98_10 s h = regK (some [4]) (runO E n0 g h.length o98_10 s h) := k_reg0
@[simp] theorem q98_11 : runF E n0 g c98_11 s h = condK E n0 g .skip c98_10 s h (get s 4) := k_cond
@[simp] theorem q98_12 : runF E n0 g c98_12 s h = seqK E n0 g c98_11 (runF E n0 g c98_9 s h) := k_seq
@[simp] theorem q98_13 : runF E n0 g c98_13 s h = condK E n0 g .skip c98_12 s h (get s 4) := k_cond
@[simp] theorem q98_14 : runF E n0 g c98_14 s h = seqK E n0 g c98_13 (runF E n0 g c98_8 s h) := k_seq
@[simp] theorem q98_15 : runF E n0 g c98_15 s h = condK E n0 g .skip c98_14 s h (get s 4) := k_cond
@[simp] theorem q98_16 : runF E n0 g c98_16 s h = seqK E n0 g c98_15 (runF E n0 g c98_7 s h) := k_seq
@[simp] theorem q98_17 : runF E n0 g c98_17 s h = condK E n0 g .skip c98_16 s h (get s 4) := k_cond
@[simp] theorem q98_18 : runF E n0 g c98_18 s h = seqK E n0 g c98_17 (runF E n0 g c98_6 s h) := k_seq
@[simp] theorem q98_19 : runF E n0 g c98_19 s h = condK E n0 g .skip c98_18 s h (get s 4) := k_cond
@[simp] theorem q98_20 : runF E n0 g c98_20 s h = seqK E n0 g c98_19 (runF E n0 g c98_5 s h) := k_seq
@[simp] theorem q98_21 : runF E n0 g c98_21 s h = condK E n0 g .skip c98_20 s h (get s 4) := k_cond
@[simp] theorem q98_22 : runF E n0 g c98_22 s h = seqK E n0 g c98_21 (runF E n0 g c98_4 s h) := k_seq
@[simp] theorem q98_23 : runF E n0 g c98_23 s h = condK E n0 g .skip c98_22 s h (get s 4) := k_cond
@[simp] theorem q98_24 : runF E n0 g c98_24 s h = seqK E n0 g c98_23 (runF E n0 g c98_3 s h) := k_seq
@[simp] theorem q98_25 : runF E n0 g c98_25 s h = condK E n0 g .skip c98_24 s h (get s 4) := k_cond
@[simp] theorem q98_26 : runF E n0 g c98_26 s h = seqK E n0 g c98_25 (runF E n0 g c98_2 s h) := k_seq
@[simp] theorem q98_27 : runF E n0 g c98_27 s h = regK (some [2]) (runO E n0 g h.length o98_27 s h) := k_reg0
@[simp] theorem q98_28 : runF E n0 g c98_28 s h = seqK E n0 g .ret (runF E n0 g c98_27 s h) := k_seq
@[simp] theorem q98_29 : runF E n0 g c98_29 s h = condK E n0 g c98_28 .skip s h (get s 4) := k_cond
@[simp] theorem q98_30 : runF E n0 g c98_30 s h = seqK E n0 g (.seq c98_25 c98_29) (runF E n0 g c98_2 s h) := k_assoc
@[simp] theorem q98_30a : runF E n0 g (.seq c98_25 c98_29) s h = condK E n0 g c98_28 (.seq c98_24 c98_29) s h (get s 4) := k_or
@[simp] theorem q98_30ab : runF E n0 g (.seq c98_24 c98_29) s h = seqK E n0 g (.seq c98_23 c98_29) (runF E n0 g c98_3 s h) := k_assoc
@[simp] theorem q98_30aba : runF E n0 g (.seq c98_23 c98_29) s h = condK E n0 g c98_28 (.seq c98_22 c98_29) s h (get s 4) := k_or
@[simp] theorem q98_30abab : runF E n0 g (.seq c98_22 c98_29) s h = seqK E n0 g (.seq c98_21 c98_29) (runF E n0 g c98_4 s h) := k_assoc
@[simp] theorem q98_30ababa : runF E n0 g (.seq c98_21 c98_29) s h = condK E n0 g c98_28 (.seq c98_20 c98_29) s h (get s 4) := k_or
@[simp] theorem q98_30ababab : runF E n0 g (.seq c98_20 c98_29) s h = seqK E n0 g (.seq c98_19 c98_29) (runF E n0 g c98_5 s h) := k_assoc
@[simp] theorem q98_30abababa : runF E n0 g (.seq c98_19 c98_29) s h = condK E n0 g c98_28 (.seq c98_18 c98_29) s h (get s 4) := k_or
@[simp] theorem q98_30abababab : runF E n0 g (.seq c98_18 c98_29) s h = seqK E n0 g (.seq c98_17 c98_29) (runF E n0 g c98_6 s h) := k_assoc
@[simp] theorem q98_30ababababa : runF E n0 g (.seq c98_17 c98_29) s h = condK E n0 g c98_28 (.seq c98_16 c98_29) s h (get s 4) := k_or
@[simp] theorem q98_30ababababab : runF E n0 g (.seq c98_16 c98_29) s h = seqK E n0 g (.seq c98_15 c98_29) (runF E n0 g c98_7 s h) := k_assoc
@[simp] theorem q98_30abababababa : runF E n0 g (.seq c98_15 c98_29) s h = condK E n0 g c98_28 (.seq c98_14 c98_29) s h (get s 4) := k_or
@[simp] theorem q98_30abababababab : runF E n0 g (.seq c98_14 c98_29) s h = seqK E n0 g (.seq c98_13 c98_29) (runF E n0 g c98_8 s h) := k_assoc
@[simp] theorem q98_30ababababababa : runF E n0 g (.seq c98_13 c98_29) s h = condK E n0 g c98_28 (.seq c98_12 c98_29) s h (get s 4) := k_or
@[simp] theorem q98_30ababababababab : runF E n0 g (.seq c98_12 c98_29) s h = seqK E n0 g (.seq c98_11 c98_29) (runF E n0 g c98_9 s h) := k_assoc
@[simp] theorem q98_30abababababababa : runF E n0 g (.seq c98_11 c98_29) s h = condK E n0 g c98_28 (.seq c98_10 c98_29) s h (get s 4) := k_or
@[simp] theorem q98_30abababababababab : runF E n0 g (.seq c98_10 c98_29) s h = seqK E n0 g c98_29 (runF E n0 g c98_10 s h) := k_seq
@[simp] theorem q98_31 : runF E n0 g c98_31 s h = blkK (some []) 0 (runF E n0 g c98_30 s h) := k_block
@[simp] theorem q98_32 : runF E n0 g c98_32 s h = seqK E n0 g c98_31 (runF E n0 g c98_1 s h) := k_seq
@[simp] theorem q98_33 : runF E n0 g c98_33 s h = regK (some [2]) (runO E n0 g h.length o98_33 s h) := k_reg0
@[simp] theorem q98_34 : runF E n0 g c98_34 s h = seqK E n0 g .ret (runF E n0 g c98_33 s h) := k_seq
@[simp] theorem q98_35 : runF E n0 g c98_35 s h = seqK E n0 g c98_34 (runF E n0 g c98_32 s h) := k_seq
@[simp] theorem q98_36 : runF E n0 g c98_36 s h = seqK E n0 g c98_35 (runF E n0 g c98_0 s h) := k_seq
@[simp] theorem qq98 : runF E n0 g c98 s h = runF E n0 g c98_36 s h := rfl
@[simp] theorem q99_0 : runF E n0 g c99_0 s h = regK (some [0, 2]) (runO E n0 g h.length o99_0 s (h ++ [(.cells [(.int .i64 0), (.int .i64 0), (.str []), (.int .i64 0), (.sl .full [])])])) := k_reg
@[simp] theorem q99_1 : runF E n0 g c99_1 s h = regK (some [0, 2]) (runO E n0 g h.length o99_1 s h) := k_reg0
@[simp] theorem q99_2 : runF E n0 g c99_2 s h = regK (some [0, 2, 3]) (runO E n0 g h.length o99_2 s (h ++ [(.cells [(.int .i64 0), (.int .i64 0), (.str []), (.int .i64 0), (.sl .full [])])])) := k_reg
@[simp] theorem q99_3 : runF E n0 g c99_3 s h = regK (some [2, 3]) (runO E n0 g h.length o99_3 s h) := k_reg0
@[simp] theorem q99_4 : runF E n0 g c99_4 s h = regK (some [2]) (runO E n0 g h.length o99_4 s h) := k_reg0
@[simp] theorem q99_5 : runF E n0 g c99_5 s h = seqK E n0 g .ret (runF E n0 g c99_4 s h) := k_seq
@[simp] theorem q99_6 : runF E n0 g c99_6 s h = seqK E n0 g c99_5 (runF E n0 g c99_3 s h) := k_seq
@[simp] theorem q99_7 : runF E n0 g c99_7 s h = seqK E n0 g c99_6 (runF E n0 g c99_2 s h) := k_seq
@[simp] theorem q99_8 : runF E n0 g c99_8 s h = seqK E n0 g c99_7 (runF E n0 g c99_1 s h) := k_seq
@[simp] theorem q99_9 : runF E n0 g c99_9 s h = seqK E n0 g c99_8 (runF E n0 g c99_0 s h) := k_seq
@[simp] theorem qq99 : runF E n0 g c99 s h = runF E n0 g c99_9 s h := rfl
@[simp] theorem q100_0 : runF E n0 g c100_0 s h = regK (some [0]) (runO E n0 g h.length o100_0 s h) := k_reg0
@[simp] theorem q100_1 : runF E n0 g c100_1 s h = regK (some [0]) (runO E n0 g h.length o100_1 s h) := k_reg0
@[simp] theorem q100_2 : runF E n0 g c100_2 s h = regK (some [0, 3]) (runO E n0 g h.length o100_2 s h) := k_reg0
@[simp] theorem q100_3 : runF E n0 g c100_3 s h = regK (some [0, 3, 15]) (runO E n0 g h.length o100_3 s h) := k_reg0
@[simp] theorem q100_4 : runF E n0 g c100_4 s h = condK E n0 g .skip (.exit 0) s h (get s 15) := k_cond
@[simp] theorem q100_5 : runF E n0 g c100_5 s h = seqK E n0 g c100_4 (runF E n0 g c100_3 s h) := k_seq
@[simp] theorem q100_6 : runF E n0 g c100_6 s h = regK (some [0, 3]) (runO E n0 g h.length o100_6 s (h ++ [.dead])) := k_reg
@[simp] theorem q100_7 : runF E n0 g c100_7 s h = blkK (some [0, 3]) 1 (runF E n0 g c100_6 s h) := k_block
@[simp] theorem q100_8 : runF E n0 g c100_8 s h = seqK E n0 g c100_7 (runF E n0 g c100_5 s h) := k_seq
theorem q100_9 : runF E n0 g c100_9 s h = loopK E n0 g (some [0, 3]) c100_8 (runF E n0 g c100_8 (clearO (some [0, 3]) s) h) := k_loop
@[simp] theorem q100_9L : runF E n0 g (.loop (some [0, 3]) c100_8) s h = runF E n0 g c100_9 s h := rfl
@[simp] theorem q100_10 : runF E n0 g c100_10 s h = blkK (some [0, 3]) 0 (runF E n0 g c100_9 s h) := k_block
@[simp] theorem q100_11 : runF E n0 g c100_11 s h = regK (some [3]) (runO E n0 g h.length o100_11 s h) := k_reg0
@[simp] theorem q100_12 : runF E n0 g c100_12 s h = regK (some [2]) (runO E n0 g h.length o100_12 s h) := k_reg0
@[simp] theorem q100_13 : runF E n0 g c100_13 s h = seqK E n0 g .ret (runF E n0 g c100_12 s h) := k_seq
@[simp] theorem q100_14 : runF E n0 g c100_14 s h = seqK E n0 g c100_13 (runF E n0 g c100_11 s h) := k_seq
@[simp] theorem q100_15 : runF E n0 g c100_15 s h = seqK E n0 g c100_14 (runF E n0 g c100_10 s h) := k_seq
@[simp] theorem q100_16 : runF E n0 g c100_16 s h = seqK E n0 g c100_15 (runF E n0 g c100_2 s h) := k_seq
@[simp] theorem q100_17 : runF E n0 g c100_17 s h = seqK E n0 g c100_16 (runF E n0 g c100_1 s h) := k_seq
@[simp] theorem q100_18 : runF E n0 g c100_18 s h = seqK E n0 g c100_17 (runF E n0 g c100_0 s h) := k_seq
@[simp] theorem qq100 : runF E n0 g c100 s h = runF E n0 g c100_18 s h := rfl
@[simp] theorem q101_0 : runF E n0 g c101_0 s h = regK (some [0, 2]) (runO E n0 g h.length o101_0 s (h ++ [(.cells [(.int .i64 0), (.str []), (.str []), (.int .i64 0), (.int .i64 0), (.int .i64 0), (.str []), (.int .i64 0), (.sl .full []), (.int .i64 0), (.int .i64 0), (.str []), (.int .i64 0), (.sl .full []), (.sl .full []), (.sl .full []), (.sl .full [])])])) := k_reg
@[simp] theorem q101_1 : runF E n0 g c101_1 s h = regK (some [0, 2, 4]) (runO E n0 g h.length o101_1 s h) := k_reg0
@[simp] theorem q101_2 : runF E n0 g c101_2 s h = regK (some [2]) (runO E n0 g h.length o101_2 s h) := k_reg0
@[simp] theorem q101_3 : runF E n0 g c101_3 s h = seqK E n0 g .ret (runF E n0 g c101_2 s h) := k_seq
@[simp] theorem q101_4 : runF E n0 g c101_4 s h = regK (some [0, 2, 10]) (runO E n0 g h.length o101_4 s h) := k_reg0
@[simp] theorem q101_5 : runF E n0 g c101_5 s h = regK (some [2]) (runO E n0 g h.length o101_5 s h) := k_reg0
@[simp] theorem q101_6 : runF E n0 g c101_6 s h = seqK E n0 g .ret (runF E n0 g c101_5 s h) := k_seq
@[simp] theorem q101_7 : runF E n0 g c101_7 s h = condK E n0 g c101_6 .skip s h (get s 10) := k_cond
@[simp] theorem q101_8 : runF E n0 g c101_8 s h = seqK E n0 g c101_7 (runF E n0 g c101_4 s h) := k_seq
@[simp] theorem q101_9 : runF E n0 g c101_9 s h = condK E n0 g c101_3 c101_8 s h (get s 4) := k_cond
@[simp] theorem q101_10 : runF E n0 g c101_10 s h = seqK E n0 g c101_9 (runF E n0 g c101_1 s h) := k_seq
@[simp] theorem q101_11 : runF E n0 g c101_11 s h = blkK (some [0, 2]) 0 (runF E n0 g c101_10 s h) := k_block
@[simp] theorem q101_12 : runF E n0 g c101_12 s h = regK (some [0, 2, 3]) (runO E n0 g h.length o101_12 s (h ++ [(.cells [(.int .i64 0), (.str []), (.str []), (.int .i64 0), (.int .i64 0), (.int .i64 0), (.str []), (.int .i64 0), (.sl .full []), (.int .i64 0), (.int .i64 0), (.str []), (.int .i64 0), (.sl .full []), (.sl .full []), (.sl .full []), (.sl .full [])])])) := k_reg
@[simp] theorem q101_13 : runF E n0 g c101_13 s h = regK (some [0, 2, 3, 20]) (runO E n0 g h.length o101_13 s h) := k_reg0
@[simp] theorem q101_14 : runF E n0 g c101_14 s h = regK (some [0, 2, 3]) (runO E n0 g h.length o101_14 s h) := k_reg0
@[simp] theorem q101_15 : runF E n0 g c101_15 s h = regK (some [0, 2, 3]) (runO E n0 g h.length o101_15 s h) := k_reg0
@[simp] theorem q101_16 : runF E n0 g c101_16 s h = regK (some [0, 2, 3]) (runO E n0 g h.length o101_16 s h) := k_reg0
@[simp] theorem q101_17 : runF E n0 g c101_17 s h = regK (some [2, 3]) (runO E n0 g h.length o101_17 s h) := k_reg0
@[simp] theorem q101_18 : runF E n0 g c101_18 s h = regK (some [2]) (runO E n0 g h.length o101_18 s h) := k_reg0
@[simp] theorem q101_19 : runF E n0 g c101_19 s h = seqK E n0 g .ret (runF E n0 g c101_18 s h) := k_seq
@[simp] theorem q101_20 : runF E n0 g c101_20 s h = seqK E n0 g c101_19 (runF E n0 g c101_17 s h) := k_seq
@[simp] theorem q101_21 : runF E n0 g c101_21 s h = seqK E n0 g c101_20 (runF E n0 g c101_16 s h) := k_seq
@[simp] theorem q101_22 : runF E n0 g c101_22 s h = seqK E n0 g c101_21 (runF E n0 g c101_15 s h) := k_seq
@[simp] theorem q101_23 : runF E n0 g c101_23 s h = seqK E n0 g c101_22 (runF E n0 g c101_14 s h) := k_seq
@[simp] theorem q101_24 : runF E n0 g c101_24 s h = condK E n0 g c101_23 .skip s h (get s 20) := k_cond
@[simp] theorem q101_25 : runF E n0 g c101_25 s h = seqK E n0 g c101_24 (runF E n0 g c101_13 s h) := k_seq
@[simp] theorem q101_26 : runF E n0 g c101_26 s h = regK (some [0, 2, 3]) (runO E n0 g h.length o101_26 s h) := k_reg0
@[simp] theorem q101_27 : runF E n0 g c101_27 s h = regK (some [0, 2, 3, 36]) (runO E n0 g h.length o101_27 s h) := k_reg0
@[simp] theorem q101_28 : runF E n0 g c101_28 s h = regK (some [0, 2, 3]) (runO E n0 g h.length o101_28 s h) := k_reg0
@[simp] theorem q101_29 : runF E n0 g c101_29 s h = regK (some [2, 3]) (runO E n0 g h.length o101_29 s h) := k_reg0
@[simp] theorem q101_30 : runF E n0 g c101_30 s h = regK (some [2]) (runO E n0 g h.length o101_30 s h) := k_reg0
@[simp] theorem q101_31 : runF E n0 g c101_31 s h = seqK E n0 g .ret (runF E n0 g c101_30 s h) := k_seq
@[simp] theorem q101_32 : runF E n0 g c101_32 s h = seqK E n0 g c101_31 (runF E n0 g c101_29 s h) := k_seq
@[simp] theorem q101_33 : runF E n0 g c101_33 s h = seqK E n0 g c101_32 (runF E n0 g c101_28 s h) := k_seq
@[simp] theorem q101_34 : runF E n0 g c101_34 s h = condK E n0 g c101_33 .skip s h (get s 36) := k_cond
@[simp] theorem q101_35 : runF E n0 g c101_35 s h = seqK E n0 g c101_34 (runF E n0 g c101_27 s h) := k_seq
@[simp] theorem q101_36 : runF E n0 g c101_36 s h = regK (some [2, 3]) (runO E n0 g h.length o101_36 s h) := k_reg0
@[simp] theorem q101_37 : runF E n0 g c101_37 s h = regK (some [2]) (runO E n0 g h.length o101_37 s h) := k_reg0
@[simp] theorem q101_38 : runF E n0 g c101_38 s h = seqK E n0 g .ret (runF E n0 g c101_37 s h) := k_seq
@[simp] theorem q101_39 : runF E n0 g c101_39 s h = seqK E n0 g c101_38 (runF E n0 g c101_36 s h) := k_seq
@[simp] theorem q101_40 : runF E n0 g c101_40 s h = seqK E n0 g c101_39 (runF E n0 g c101_35 s h) := k_seq
@[simp] theorem q101_41 : runF E n0 g c101_41 s h = seqK E n0 g c101_40 (runF E n0 g c101_26 s h) := k_seq
@[simp] theorem q101_42 : runF E n0 g c101_42 s h = seqK E n0 g c101_41 (runF E n0 g c101_25 s h) := k_seq
@[simp] theorem q101_43 : runF E n0 g c101_43 s h = seqK E n0 g c101_42 (runF E n0 g c101_12 s h) := k_seq
@[simp] theorem q101_44 : runF E n0 g c101_44 s h = seqK E n0 g c101_43 (runF E n0 g c101_11 s h) := k_seq
@[simp] theorem q101_45 : runF E n0 g c101_45 s h = seqK E n0 g c101_44 (runF E n0 g c101_0 s h) := k_seq
@[simp] theorem qq101 : runF E n0 g c101 s h = runF E n0 g c101_45 s h := rfl
@[simp] theorem q102_0 : runF E n0 g c102_0 s h = regK (some [0, 1, 4]) (runO E n0 g h.length o102_0 s (h ++ [(.cells [(.int .i64 0), (.int .i64 0), (.str []), (.int .i64 0), (.sl .full [])])])) := k_reg
@[simp] theorem q102_1 : runF E n0 g c102_1 s h = regK (some [0, 1, 4, 12]) (runO E n0 g h.length o102_1 s h) := k_reg0
@[simp] theorem q102_2 : runF E n0 g c102_2 s h = regK (some [4]) (runO E n0 g h.length o102_2 s h) := k_reg0
@[simp] theorem q102_3 : runF E n0 g c102_3 s h = seqK E n0 g .ret (runF E n0 g c102_2 s h) := k_seq
@[simp] theorem q102_4 : runF E n0 g c102_4 s h = condK E n0 g c102_3 .skip s h (get s 12) := k_cond
@[simp] theorem q102_5 : runF E n0 g c102_5 s h = seqK E n0 g c102_4 (runF E n0 g c102_1 s h) := k_seq
@[simp] theorem q102_6 : runF E n0 g c102_6 s h = regK (some [0, 1, 4, 5]) (runO E n0 g h.length o102_6 s (h ++ [(.cells [(.int .i64 0), (.int .i64 0), (.str []), (.int .i64 0), (.sl .full [])])])) := k_reg
@[simp] theorem q102_7 : runF E n0 g c102_7 s h = regK (some [0, 1, 4, 5, 6]) (runO E n0 g h.length o102_7 s (h ++ [(.cells [(.int .i64 0), (.str []), (.int .i64 0)])])) := k_reg
@[simp] theorem q102_8 : runF E n0 g c102_8 s h = regK (some [0, 1, 4, 5, 6, 7, 8, 9]) (runO E n0 g h.length o102_8 s h) := k_reg0
@[simp] theorem q102_9 : runF E n0 g c102_9 s h = regK (some [0, 1, 4, 5, 7, 9, 39]) (runO E n0 g h.length o102_9 s h) := k_reg0
@[simp] theorem q102_10 : runF E n0 g c102_10 s h = regK (some [4]) (runO E n0 g h.length o102_10 s h) := k_reg0
@[simp] theorem q102_11 : runF E n0 g c102_11 s h = seqK E n0 g .ret (runF E n0 g c102_10 s h) := k_seq
@[simp] theorem q102_12 : runF E n0 g c102_12 s h = condK E n0 g c102_11 .skip s h (get s 39) := k_cond
@[simp] theorem q102_13 : runF E n0 g c102_13 s h = seqK E n0 g c102_12 (runF E n0 g c102_9 s h) := k_seq
@[simp] theorem q102_14 : runF E n0 g c102_14 s h = regK (some [0, 1, 4, 5, 7, 9]) (runO E n0 g h.length o102_14 s h) := k_reg0
@[simp] theorem q102_15 : runF E n0 g c102_15 s h = regK (some [0, 1, 4, 5, 7, 9, 10]) (runO E n0 g h.length o102_15 s (h ++ [(.cells [(.int .i64 0), (.int .i64 0), (.str []), (.int .i64 0), (.sl .full [])])])) := k_reg
@[simp] theorem q102_16 : runF E n0 g c102_16 s h = regK (some [0, 1, 4, 5, 7, 10, 52]) (runO E n0 g h.length o102_16 s h) := k_reg0
@[simp] theorem q102_17 : runF E n0 g c102_17 s h = regK (some [0, 1, 4, 5, 7, 10]) (runO E n0 g h.length o102_17 s h) := k_reg0
@[simp] theorem q102_18 : runF E n0 g c102_18 s h = condK E n0 g c102_17 .skip s h (get s 52) := k_cond
@[simp] theorem q102_19 : runF E n0 g c102_19 s h = seqK E n0 g c102_18 (runF E n0 g c102_16 s h) := k_seq
@[simp] theorem q102_20 : runF E n0 g c102_20 s h = regK (some [0, 1, 4, 5]) (runO E n0 g h.length o102_20 s h) := k_reg0
@[simp] theorem q102_21 : runF E n0 g c102_21 s h = seqK E n0 g c102_20 (runF E n0 g c102_19 s h) := k_seq
@[simp] theorem q102_22 : runF E n0 g c102_22 s h = seqK E n0 g c102_21 (runF E n0 g c102_15 s h) := k_seq
@[simp] theorem q102_23 : runF E n0 g c102_23 s h = seqK E n0 g c102_22 (runF E n0 g c102_14 s h) := k_seq
@[simp] theorem q102_24 : runF E n0 g c102_24 s h = seqK E n0 g c102_23 (runF E n0 g c102_13 s h) := k_seq
@[simp] theorem q102_25 : runF E n0 g c102_25 s h = seqK E n0 g c102_24 (runF E n0 g c102_8 s h) := k_seq
@[simp] theorem q102_26 : runF E n0 g c102_26 s h = seqK E n0 g c102_25 (runF E n0 g c102_7 s h) := k_seq
@[simp] theorem q102_27 : runF E n0 g c102_27 s h = blkK (some [0, 1, 4, 5]) 1 (runF E n0 g c102_26 s h) := k_block
theorem q102_28 : runF E n0 g c102_28 s h = loopK E n0 g (some [0, 1, 4, 5]) c102_27 (runF E n0 g c102_27 (clearO (some [0, 1, 4, 5]) s) h) := k_loop
@[simp] theorem q102_28L : runF E n0 g (.loop (some [0, 1, 4, 5]) c102_27) s h = runF E n0 g c102_28 s h := rfl
@[simp] theorem q102_29 : runF E n0 g c102_29 s h = blkK (some [4]) 0 (runF E n0 g c102_28 s h) := k_block
@[simp] theorem q102_30 : runF E n0 g c102_30 s h = seqK E n0 g c102_29 (runF E n0 g c102_6 s h) := k_seq
@[simp] theorem q102_31 : runF E n0 g c102_31 s h = seqK E n0 g c102_30 (runF E n0 g c102_5 s h) := k_seq
@[simp] theorem q102_32 : runF E n0 g c102_32 s h = seqK E n0 g c102_31 (runF E n0 g c102_0 s h) := k_seq
@[simp] theorem qq102 : runF E n0 g c102 s h = runF E n0 g c102_32 s h := rfl
@[simp] theorem q123_0 : runF E n0 g c123_0 s h = regK (some [0]) (runO E n0 g h.length o123_0 s h) := k_reg0
@[simp] theorem q123_1 : runF E n0 g c123_1 s h = regK (some [2]) (runO E n0 g h.length o123_1 s h) := k_reg0
@[simp] theorem q123_2 : runF E n0 g c123_2 s h = seqK E n0 g .ret (runF E n0 g c123_1 s h) := k_seq
@[simp] theorem q123_3 : runF E n0 g c123_3 s h = seqK E n0 g c123_2 (runF E n0 g c123_0 s h) := k_seq
@[simp] theorem qq123 : runF E n0 g c123 s h = runF E n0 g c123_3 s h := rfl
@[simp] theorem q124_0 : runF E n0 g c124_0 s h = regK (some [0]) (runO E n0 g h.length o124_0 s h) := k_reg0
@[simp] theorem q124_1 : runF E n0 g c124_1 s h = regK (some [0, 19]) (runO E n0 g h.length o124_1 s h) := by rw [show c124_1 = .reg (some [0, 19]) [] o124_1 (some []) from rfl, k_regd0, List.append_nil]
@[simp] theorem q124_2 : runF E n0 g c124_2 s h = regK (some [2]) (runO E n0 g h.length o124_2 s h) := k_reg0
@[simp] theorem q124_3 : runF E n0 g c124_3 s h = seqK E n0 g .ret (runF E n0 g c124_2 s h) := k_seq
@[simp] theorem q124_4 : runF E n0 g c124_4 s h = condK E n0 g c124_3 .skip s h (get s 19) := k_cond
@[simp] theorem q124_5 : runF E n0 g c124_5 s h = seqK E n0 g c124_4 (runF E n0 g c124_1 s h) := k_seq
@[simp] theorem q124_6 : runF E n0 g c124_6 s h = regK (some [3]) (runO E n0 g h.length o124_6 s (h ++ [(.cells [(.int .i64 0), (.str []), (.int .i64 0)])])) := k_regd0
@[simp] theorem q124_7 : runF E n0 g c124_7 s h = regK (some [2]) (runO E n0 g h.length o124_7 s h) := k_reg0
@[simp] theorem q124_8 : runF E n0 g c124_8 s h = seqK E n0 g .ret (runF E n0 g c124_7 s h) := k_seq
@[simp] theorem q124_9 : runF E n0 g c124_9 s h = seqK E n0 g c124_8 (runF E n0 g c124_6 s h) := k_seq
@[simp] theorem q124_10 : runF E n0 g c124_10 s h = seqK E n0 g c124_9 (runF E n0 g c124_5 s h) := k_seq
@[simp] theorem q124_11 : runF E n0 g c124_11 s h = seqK E n0 g c124_10 (runF E n0 g c124_0 s h) := k_seq
@[simp] theorem qq124 : runF E n0 g c124 s h = runF E n0 g c124_11 s h := rfl
@[simp] theorem q125_0 : runF E n0 g c125_0 s h = regK (some [0]) (runO E n0 g h.length o125_0 s h) := k_reg0
@[simp] theorem q125_1 : runF E n0 g c125_1 s h = regK (some [0]) (runO E n0 g h.length o125_1 s h) := k_reg0
@[simp] theorem q125_2 : runF E n0 g c125_2 s h = regK (some [0, 3]) (runO E n0 g h.length o125_2 s h) := k_reg0
@[simp] theorem q125_3 : runF E n0 g c125_3 s h = regK (some [0, 3, 8]) (runO E n0 g h.length o125_3 s h) := k_reg0
@[simp] theorem q125_4 : runF E n0 g c125_4 s h = regK (some [0, 3]) (runO E n0 g h.length o125_4 s (h ++ [.dead])) := k_reg
@[simp] theorem q125_5 : runF E n0 g c125_5 s h = regK (some [0, 3, 15]) (runO E n0 g h.length o125_5 s h) := k_reg0
@[simp] theorem q125_6 : runF E n0 g c125_6 s h = condK E n0 g .skip (.exit 0) s h (get s 15) := k_cond
@[simp] theorem q125_7 : runF E n0 g c125_7 s h = seqK E n0 g c125_6 (runF E n0 g c125_5 s h) := k_seq
@[simp] theorem q125_8 : runF E n0 g c125_8 s h = regK (some [0, 3]) (runO E n0 g h.length o125_8 s (h ++ [.dead])) := k_reg
@[simp] theorem q125_9 : runF E n0 g c125_9 s h = blkK (some [0, 3]) 1 (runF E n0 g c125_8 s h) := k_block
@[simp] theorem q125_10 : runF E n0 g c125_10 s h = seqK E n0 g c125_9 (runF E n0 g c125_7 s h) := k_seq
theorem q125_11 : runF E n0 g c125_11 s h = loopK E n0 g (some [0, 3]) c125_10 (runF E n0 g c125_10 (clearO (some [0, 3]) s) h) := k_loop
@[simp] theorem q125_11L : runF E n0 g (.loop (some [0, 3]) c125_10) s h = runF E n0 g c125_11 s h := rfl
@[simp] theorem q125_12 : runF E n0 g c125_12 s h = blkK (some [0, 3]) 0 (runF E n0 g c125_11 s h) := k_block
@[simp] theorem q125_13 : runF E n0 g c125_13 s h = seqK E n0 g c125_12 (runF E n0 g c125_4 s h) := k_seq
@[simp] theorem q125_14 : runF E n0 g c125_14 s h = condK E n0 g c125_13 .skip s h (get s 8) := k_cond
@[simp] theorem q125_15 : runF E n0 g c125_15 s h = seqK E n0 g c125_14 (runF E n0 g c125_3 s h) := k_seq
@[simp] theorem q125_16 : runF E n0 g c125_16 s h = regK (some [3]) (runO E n0 g h.length o125_16 s h) := k_reg0
@[simp] theorem q125_17 : runF E n0 g c125_17 s h = regK (some [2]) (runO E n0 g h.length o125_17 s h) := k_reg0
@[simp] theorem q125_18 : runF E n0 g c125_18 s h = seqK E n0 g .ret (runF E n0 g c125_17 s h) := k_seq
@[simp] theorem q125_19 : runF E n0 g c125_19 s h = seqK E n0 g c125_18 (runF E n0 g c125_16 s h) := k_seq
@[simp] theorem q125_20 : runF E n0 g c125_20 s h = seqK E n0 g c125_19 (runF E n0 g c125_15 s h) := k_seq
@[simp] theorem q125_21 : runF E n0 g c125_21 s h = seqK E n0 g c125_20 (runF E n0 g c125_2 s h) := k_seq
@[simp] theorem q125_22 : runF E n0 g c125_22 s h = seqK E n0 g c125_21 (runF E n0 g c125_1 s h) := k_seq
@[simp] theorem q125_23 : runF E n0 g c125_23 s h = seqK E n0 g c125_22 (runF E n0 g c125_0 s h) := k_seq
@[simp] theorem qq125 : runF E n0 g c125 s h = runF E n0 g c125_23 s h := rfl
@[simp] theorem q126_0 : runF E n0 g c126_0 s h = regK (some [0, 2]) (runO E n0 g h.length o126_0 s (h ++ [(.cells [(.int .i64 0), (.int .i64 0), (.str []), (.int .i64 0), (.sl .full [])])])) := k_reg
@[simp] theorem q126_1 : runF E n0 g c126_1 s h = regK (some [0, 2, 5]) (runO E n0 g h.length o126_1 s h) := k_reg0
@[simp] theorem q126_2 : runF E n0 g c126_2 s h = regK (some [0, 2, 3]) (runO E n0 g h.length o126_2 s (h ++ [(.cells [(.int .i64 0), (.str []), (.int .i64 0)])])) := k_reg
@[simp] theorem q126_3 : runF E n0 g c126_3 s h = regK (some [0, 2, 3, 12]) (runO E n0 g h.length o126_3 s h) := k_reg0
@[simp] theorem q126_4 : runF E n0 g c126_4 s h = regK (some [2, 3]) (runO E n0 g h.length o126_4 s h) := k_reg0
@[simp] theorem q126_5 : runF E n0 g c126_5 s h = regK (some [2]) (runO E n0 g h.length o126_5 s h) := k_reg0
@[simp] theorem q126_6 : runF E n0 g c126_6 s h = seqK E n0 g .ret (runF E n0 g c126_5 s h) := k_seq
@[simp] theorem q126_7 : runF E n0 g c126_7 s h = seqK E n0 g c126_6 (runF E n0 g c126_4 s h) := k_seq
@[simp] theorem q126_8 : runF E n0 g c126_8 s h = condK E n0 g c126_7 .skip s h (get s 12) := k_cond
@[simp] theorem q126_9 : runF E n0 g c126_9 s h = seqK E n0 g c126_8 (runF E n0 g c126_3 s h) := k_seq
@[simp] theorem q126_10 : runF E n0 g c126_10 s h = seqK E n0 g c126_9 (runF E n0 g c126_2 s h) := k_seq
@[simp] theorem q126_11 : runF E n0 g c126_11 s h = regK (some [2]) (runO E n0 g h.length o126_11 s h) := k_reg0
@[simp] theorem q126_12 : runF E n0 g c126_12 s h = seqK E n0 g .ret (runF E n0 g c126_11 s h) := k_seq
@[simp] theorem q126_13 : runF E n0 g c126_13 s h = seqK E n0 g c126_12 (runF E n0 g c126_10 s h) := k_seq
@[simp] theorem q126_14 : runF E n0 g c126_14 s h = regK (some [0, 2, 28]) (runO E n0 g h.length o126_14 s h) := k_reg0
@[simp] theorem q126_15 : runF E n0 g c126_15 s h = regK (some [2]) (runO E n0 g h.length o126_15 s h) := k_reg0
@[simp] theorem q126_16 : runF E n0 g c126_16 s h = seqK E n0 g .ret (runF E n0 g c126_15 s h) := k_seq
@[simp] theorem q126_17 : runF E n0 g c126_17 s h = regK (some [0, 2, 35]) (runO E n0 g h.length o126_17 s h) := k_reg0
@[simp] theorem q126_18 : runF E n0 g c126_18 s h = regK (some [2]) (runO E n0 g h.length o126_18 s h) := k_reg0
@[simp] theorem q126_19 : runF E n0 g c126_19 s h = seqK E n0 g .ret (runF E n0 g c126_18 s h) := k_seq
@[simp] theorem q126_20 : runF E n0 g c126_20 s h = regK (some [0, 2, 43]) (runO E n0 g h.length o126_20 s h) := k_reg0
@[simp] theorem q126_21 : runF E n0 g c126_21 s h = regK (some [0, 2, 4]) (runO E n0 g h.length o126_21 s (h ++ [(.cells [(.int .i64 0), (.int .i64 0), (.str []), (.int .i64 0), (.sl .full [])])])) := k_reg
@[simp] theorem q126_22 : runF E n0 g c126_22 s h = regK (some [2, 4]) (runO E n0 g h.length o126_22 s h) := k_reg0
@[simp] theorem q126_23 : runF E n0 g c126_23 s h = regK (some [2]) (runO E n0 g h.length o126_23 s h) := k_reg0
@[simp] theorem q126_24 : runF E n0 g c126_24 s h = seqK E n0 g .ret (runF E n0 g c126_23 s h) := k_seq
@[simp] theorem q126_25 : runF E n0 g c126_25 s h = seqK E n0 g c126_24 (runF E n0 g c126_22 s h) := k_seq
@[simp] theorem q126_26 : runF E n0 g c126_26 s h = seqK E n0 g c126_25 (runF E n0 g c126_21 s h) := k_seq
@[simp] theorem q126_27 : runF E n0 g c126_27 s h = condK E n0 g c126_26 .skip s h (get s 43) := k_cond
@[simp] theorem q126_28 : runF E n0 g c126_28 s h = seqK E n0 g c126_27 (runF E n0 g c126_20 s h) := k_seq
@[simp] theorem q126_29 : runF E n0 g c126_29 s h = condK E n0 g c126_19 c126_28 s h (get s 35) := k_cond
@[simp] theorem q126_30 : runF E n0 g c126_30 s h = seqK E n0 g c126_29 (runF E n0 g c126_17 s h) := k_seq
@[simp] theorem q126_31 : runF E n0 g c126_31 s h = condK E n0 g c126_16 c126_30 s h (get s 28) := k_cond
@[simp] theorem q126_32 : runF E n0 g c126_32 s h = seqK E n0 g c126_31 (runF E n0 g c126_14 s h) := k_seq
@[simp] theorem q126_33 : runF E n0 g c126_33 s h = condK E n0 g c126_13 c126_32 s h (get s 5) := k_cond
@[simp] theorem q126_34 : runF E n0 g c126_34 s h = seqK E n0 g c126_33 (runF E n0 g c126_1 s h) := k_seq
@[simp] theorem q126_35 : runF E n0 g c126_35 s h = blkK (some [0, 2]) 0 (runF E n0 g c126_34 s h) := k_block
@[simp] theorem q126_36 : runF E n0 g c126_36 s h = regK (some [2]) (runO E n0 g h.length o126_36 s h) := k_reg0
@[simp] theorem q126_37 : runF E n0 g c126_37 s h = seqK E n0 g .ret (runF E n0 g c126_36 s h) := k_seq
@[simp] theorem q126_38 : runF E n0 g c126_38 s h = seqK E n0 g c126_37 (runF E n0 g c126_35 s h) := k_seq
@[simp] theorem q126_39 : runF E n0 g c126_39 s h = seqK E n0 g c126_38 (runF E n0 g c126_0 s h) := k_seq
@[simp] theorem qq126 : runF E n0 g c126 s h = runF E n0 g c126_39 s h := rfl
@[simp] theorem q127_0 : runF E n0 g c127_0 s h = regK (some [0]) (runO E n0 g h.length o127_0 s h) := k_reg0
@[simp] theorem q127_1 : runF E n0 g c127_1 s h = regK (some [0, 5]) (runO E n0 g h.length o127_1 s h) := k_reg0
@[simp] theorem q127_2 : runF E n0 g c127_2 s h = regK (some [0, 5, 6]) (runO E n0 g h.length o127_2 s h) := k_reg0
@[simp] theorem q127_3 : runF E n0 g c127_3 s h = regK (some [2, 3, 4]) (runO E n0 g h.length o127_3 s h) := k_reg0
@[simp] theorem q127_4 : runF E n0 g c127_4 s h = seqK E n0 g .ret (runF E n0 g c127_3 s h) := k_seq
@[simp] theorem q127_5 : runF E n0 g c127_5 s h = regK (some [0, 5, 8]) (runO E n0 g h.length o127_5 s h) := k_reg0
@[simp] theorem q127_6 : runF E n0 g c127_6 s h = regK (some [2, 3, 4]) (runO E n0 g h.length o127_6 s h) := k_reg0
@[simp] theorem q127_7 : runF E n0 g c127_7 s h = seqK E n0 g .ret (runF E n0 g c127_6 s h) := k_seq
@[simp] theorem q127_8 : runF E n0 g c127_8 s h = regK (some [0, 5, 10]) (runO E n0 g h.length o127_8 s h) := k_reg0
@[simp] theorem q127_9 : runF E n0 g c127_9 s h = regK (some [2, 3, 4]) (runO E n0 g h.length o127_9 s h) := k_reg0
@[simp] theorem q127_10 : runF E n0 g c127_10 s h = seqK E n0 g .ret (runF E n0 g c127_9 s h) := k_seq
@[simp] theorem q127_11 : runF E n0 g c127_11 s h = regK (some [0, 5, 12]) (runO E n0 g h.length o127_11 s h) := k_reg0
@[simp] theorem q127_12 : runF E n0 g c127_12 s h = regK (some [2, 3, 4]) (runO E n0 g h.length o127_12 s h) := k_reg0
@[simp] theorem q127_13 : runF E n0 g c127_13 s h = seqK E n0 g .ret (runF E n0 g c127_12 s h) := k_seq
@[simp] theorem q127_14 : runF E n0 g c127_14 s h = regK (some [0, 5, 14]) (runO E n0 g h.length o127_14 s h) := k_reg0
@[simp] theorem q127_15 : runF E n0 g c127_15 s h = regK (some [2, 3, 4]) (runO E n0 g h.length o127_15 s h) := k_reg0
@[simp] theorem q127_16 : runF E n0 g c127_16 s h = seqK E n0 g .ret (runF E n0 g c127_15 s h) := k_seq
@[simp] theorem q127_17 : runF E n0 g c127_17 s h = regK (some [0, 5, 16]) (runO E n0 g h.length o127_17 s h) := k_reg0
@[simp] theorem q127_18 : runF E n0 g c127_18 s h = regK (some [2, 3, 4]) (runO E n0 g h.length o127_18 s h) := k_reg0
@[simp] theorem q127_19 : runF E n0 g c127_19 s h = seqK E n0 g .ret (runF E n0 g c127_18 s h) := k_seq
@[simp] theorem q127_20 : runF E n0 g c127_20 s h = regK (some [0, 5, 18]) (runO E n0 g h.length o127_20 s h) := k_reg0
@[simp] theorem q127_21 : runF E n0 g c127_21 s h = regK (some [2, 3, 4]) (runO E n0 g h.length o127_21 s h) := k_reg0
@[simp] theorem q127_22 : runF E n0 g c127_22 s h = seqK E n0 g .ret (runF E n0 g c127_21 s h) := k_seq
@[simp] theorem q127_23 : runF E n0 g c127_23 s h = regK (some [0, 5, 20]) (runO E n0 g h.length o127_23 s h) := k_reg0
@[simp] theorem q127_24 : runF E n0 g c127_24 s h = regK (some [2, 3, 4]) (runO E n0 g h.length o127_24 s h) := k_reg0
@[simp] theorem q127_25 : runF E n0 g c127_25 s h = seqK E n0 g .ret (runF E n0 g c127_24 s h) := k_seq
@[simp] theorem q127_26 : runF E n0 g c127_26 s h = regK (some [0, 5, 22]) (runO E n0 g h.length o127_26 s h) := k_reg0
@[simp] theorem q127_27 : runF E n0 g c127_27 s h = regK (some [2, 3, 4]) (runO E n0 g h.length o127_27 s h) := k_reg0
@[simp] theorem q127_28 : runF E n0 g c127_28 s h = seqK E n0 g .ret (runF E n0 g c127_27 s h) := k_seq
@[simp] theorem q127_29 : runF E n0 g c127_29 s h = regK (some [0, 5, 24]) (runO E n0 g h.length o127_29 s h) := k_reg0
@[simp] theorem q127_30 : runF E n0 g c127_30 s h = regK (some [2, 3, 4]) (runO E n0 g h.length o127_30 s h) := k_reg0
@[simp] theorem q127_31 : runF E n0 g c127_31 s h = seqK E n0 g .ret (runF E n0 g c127_30 s h) := k_seq
@[simp] theorem q127_32 : runF E n0 g c127_32 s h = regK (some [0, 5, 26]) (runO E n0 g h.length o127_32 s h) := k_reg0
@[simp] theorem q127_33 : runF E n0 g c127_33 s h = regK (some [2, 3, 4]) (runO E n0 g h.length o127_33 s h) := k_reg0
@[simp] theorem q127_34 : runF E n0 g c127_34 s h = seqK E n0 g .ret (runF E n0 g c127_33 s h) := k_seq
@[simp] theorem q127_35 : runF E n0 g c127_35 s h = regK (some [0, 28]) (runO E n0 g h.length o127_35 s h) := k_reg0
@[simp] theorem q127_36 : runF E n0 g c127_36 s h = regK (some [2, 3, 4]) (runO E n0 g h.length o127_36 s h) := k_reg0
@[simp] theorem q127_37 : runF E n0 g c127_37 s h = seqK E n0 g .ret (runF E n0 g c127_36 s h) := k_seq
@[simp] theorem q127_38 : runF E n0 g c127_38 s h = condK E n0 g c127_37 .skip s h (get s 28) := k_cond
@[simp] theorem q127_39 : runF E n0 g c127_39 s h = seqK E n0 g c127_38 (runF E n0 g c127_35 s h) := k_seq
@[simp] theorem q127_40 : runF E n0 g c127_40 s h = condK E n0 g c127_34 c127_39 s h (get s 26) := k_cond
@[simp] theorem q127_41 : runF E n0 g c127_41 s h = seqK E n0 g c127_40 (runF E n0 g c127_32 s h) := k_seq
@[simp] theorem q127_42 : runF E n0 g c127_42 s h = condK E n0 g c127_31 c127_41 s h (get s 24) := k_cond
@[simp] theorem q127_43 : runF E n0 g c127_43 s h = seqK E n0 g c127_42 (runF E n0 g c127_29 s h) := k_seq
@[simp] theorem q127_44 : runF E n0 g c127_44 s h = condK E n0 g c127_28 c127_43 s h (get s 22) := k_cond
@[simp] theorem q127_45 : runF E n0 g c127_45 s h = seqK E n0 g c127_44 (runF E n0 g c127_26 s h) := k_seq
@[simp] theorem q127_46 : runF E n0 g c127_46 s h = condK E n0 g c127_25 c127_45 s h (get s 20) := k_cond
@[simp] theorem q127_47 : runF E n0 g c127_47 s h = seqK E n0 g c127_46 (runF E n0 g c127_23 s h) := k_seq
@[simp] theorem q127_48 : runF E n0 g c127_48 s h = condK E n0 g c127_22 c127_47 s h (get s 18) := k_cond
@[simp] theorem q127_49 : runF E n0 g c127_49 s h = seqK E n0 g c127_48 (runF E n0 g c127_20 s h) := k_seq
@[simp] theorem q127_50 : runF E n0 g c127_50 s h = condK E n0 g c127_19 c127_49 s h (get s 16) := k_cond
@[simp] theorem q127_51 : runF E n0 g c127_51 s h = seqK E n0 g c127_50 (runF E n0 g c127_17 s h) := k_seq
@[simp] theorem q127_52 : runF E n0 g c127_52 s h = condK E n0 g c127_16 c127_51 s h (get s 14) := k_cond
@[simp] theorem q127_53 : runF E n0 g c127_53 s h = seqK E n0 g c127_52 (runF E n0 g c127_14 s h) := k_seq
@[simp] theorem q127_54 : runF E n0 g c127_54 s h = condK E n0 g c127_13 c127_53 s h (get s 12) := k_cond
@[simp] theorem q127_55 : runF E n0 g c127_55 s h = seqK E n0 g c127_54 (runF E n0 g c127_11 s h) := k_seq
@[simp] theorem q127_56 : runF E n0 g c127_56 s h = condK E n0 g c127_10 c127_55 s h (get s 10) := k_cond
@[simp] theorem q127_57 : runF E n0 g c127_57 s h = seqK E n0 g c127_56 (runF E n0 g c127_8 s h) := k_seq
@[simp] theorem q127_58 : runF E n0 g c127_58 s h = condK E n0 g c127_7 c127_57 s h (get s 8) := k_cond
@[simp] theorem q127_59 : runF E n0 g c127_59 s h = seqK E n0 g c127_58 (runF E n0 g c127_5 s h) := k_seq
@[simp] theorem q127_60 : runF E n0 g c127_60 s h = condK E n0 g c127_4 c127_59 s h (get s 6) := k_cond
@[simp] theorem q127_61 : runF E n0 g c127_61 s h = seqK E n0 g c127_60 (runF E n0 g c127_2 s h) := k_seq
@[simp] theorem q127_62 : runF E n0 g c127_62 s h = blkK (some [0]) 0 (runF E n0 g c127_61 s h) := k_block
@[simp] theorem q127_63 : runF E n0 g c127_63 s h = seqK E n0 g c127_62 (runF E n0 g c127_1 s h) := k_seq
@[simp] theorem q127_64 : runF E n0 g c127_64 s h = regK (some [2, 3, 4]) (runO E n0 g h.length o127_64 s h) := k_reg0
@[simp] theorem q127_65 : runF E n0 g c127_65 s h = seqK E n0 g .ret (runF E n0 g c127_64 s h) := k_seq
@[simp] theorem q127_66 : runF E n0 g c127_66 s h = seqK E n0 g c127_65 (runF E n0 g c127_63 s h) := k_seq
@[simp] theorem q127_67 : runF E n0 g c127_67 s h = seqK E n0 g c127_66 (runF E n0 g c127_0 s h) := k_seq
@[simp] theorem qq127 : runF E n0 g c127 s h = runF E n0 g c127_67 s h := rfl
@[simp] theorem q140_0 : runF E n0 g c140_0 s h = regK (some [0]) (runO E n0 g h.length o140_0 s h) := k_reg0
@[simp] theorem q140_1 : runF E n0 g c140_1 s h = regK (some [3]) (runO E n0 g h.length o140_1 s h) := k_reg0
@[simp] theorem q140_2 : runF E n0 g c140_2 s h = regK (some [2]) (runO E n0 g h.length o140_2 s h) := k_reg0
@[simp] theorem q140_3 : runF E n0 g c140_3 s h = seqK E n0 g .ret (runF E n0 g c140_2 s h) := k_seq
@[simp] theorem q140_4 : runF E n0 g c140_4 s h = seqK E n0 g c140_3 (runF E n0 g c140_1 s h) := k_seq
@[simp] theorem q140_5 : runF E n0 g c140_5 s h = seqK E n0 g c140_4 (runF E n0 g c140_0 s h) := k_seq
@[simp] theorem qq140 : runF E n0 g c140 s h = runF E n0 g c140_5 s h := rfl
@[simp] theorem q141_0 : runF E n0 g c141_0 s h = regK (some [0, 2]) (runO E n0 g h.length o141_0 s (h ++ [(.cells [(.int .i64 0), (.int .i64 0), (.str []), (.int .i64 0), (.sl .full [])])])) := k_reg
@[simp] theorem q141_1 : runF E n0 g c141_1 s h = regK (some [0, 2, 3]) (runO E n0 g h.length o141_1 s (h ++ [(.cells [(.int .i64 0), (.str []), (.int .i64 0)])])) := k_reg
@[simp] theorem q141_2 : runF E n0 g c141_2 s h = regK (some [0, 2, 3, 12]) (runO E n0 g h.length o141_2 s h) := k_reg0
@[simp] theorem q141_3 : runF E n0 g c141_3 s h = regK (some [0, 2, 4, 5]) (runO E n0 g h.length o141_3 s h) := k_reg0
@[simp] theorem q141_4 : runF E n0 g c141_4 s h = regK (some [0, 2, 4, 20]) (runO E n0 g h.length o141_4 s h) := k_reg0
@[simp] theorem q141_5 : runF E n0 g c141_5 s h = regK (some [2]) (runO E n0 g h.length o141_5 s h) := k_reg0
@[simp] theorem q141_6 : runF E n0 g c141_6 s h = regK (some [2]) (runO E n0 g h.length o141_6 s h) := k_reg0
@[simp] theorem q141_7 : runF E n0 g c141_7 s h = seqK E n0 g .ret (runF E n0 g c141_6 s h) := k_seq
@[simp] theorem q141_8 : runF E n0 g c141_8 s h = seqK E n0 g c141_7 (runF E n0 g c141_5 s h) := k_seq
@[simp] theorem q141_9 : runF E n0 g c141_9 s h = condK E n0 g c141_8 .skip s h (get s 20) := k_cond
@[simp] theorem q141_10 : runF E n0 g c141_10 s h = seqK E n0 g c141_9 (runF E n0 g c141_4 s h) := k_seq
@[simp] theorem q141_11 : runF E n0 g c141_11 s h = regK (some [2, 4]) (runO E n0 g h.length o141_11 s h) := k_reg0
@[simp] theorem q141_12 : runF E n0 g c141_12 s h = regK (some [2]) (runO E n0 g h.length o141_12 s h) := k_reg0
@[simp] theorem q141_13 : runF E n0 g c141_13 s h = seqK E n0 g .ret (runF E n0 g c141_12 s h) := k_seq
@[simp] theorem q141_14 : runF E n0 g c141_14 s h = seqK E n0 g c141_13 (runF E n0 g c141_11 s h) := k_seq
@[simp] theorem q141_15 : runF E n0 g c141_15 s h = seqK E n0 g c141_14 (runF E n0 g c141_10 s h) := k_seq
@[simp] theorem q141_16 : runF E n0 g c141_16 s h = seqK E n0 g c141_15 (runF E n0 g c141_3 s h) := k_seq
@[simp] theorem q141_17 : runF E n0 g c141_17 s h = condK E n0 g c141_16 .skip s h (get s 12) := k_cond
@[simp] theorem q141_18 : runF E n0 g c141_18 s h = seqK E n0 g c141_17 (runF E n0 g c141_2 s h) := k_seq
@[simp] theorem q141_19 : runF E n0 g c141_19 s h = seqK E n0 g c141_18 (runF E n0 g c141_1 s h) := k_seq
@[simp] theorem q141_20 : runF E n0 g c141_20 s h = regK (some [0, 2, 6]) (runO E n0 g h.length o141_20 s h) := k_reg0
@[simp] theorem q141_21 : runF E n0 g c141_21 s h = regK (some [0, 2, 6, 38]) (runO E n0 g h.length o141_21 s h) := k_reg0
@[simp] theorem q141_22 : runF E n0 g c141_22 s h = regK (some [2]) (runO E n0 g h.length o141_22 s h) := k_reg0
@[simp] theorem q141_23 : runF E n0 g c141_23 s h = seqK E n0 g .ret (runF E n0 g c141_22 s h) := k_seq
@[simp] theorem q141_24 : runF E n0 g c141_24 s h = condK E n0 g c141_23 .skip s h (get s 38) := k_cond
@[simp] theorem q141_25 : runF E n0 g c141_25 s h = seqK E n0 g c141_24 (runF E n0 g c141_21 s h) := k_seq
@[simp] theorem q141_26 : runF E n0 g c141_26 s h = regK (some [0, 2, 6, 7]) (runO E n0 g h.length o141_26 s (h ++ [(.cells [(.int .i64 0), (.int .i64 0), (.str []), (.int .i64 0), (.sl .full [])])])) := k_reg
@[simp] theorem q141_27 : runF E n0 g c141_27 s h = regK (some [2, 6, 7]) (runO E n0 g h.length o141_27 s h) := k_reg0
@[simp] theorem q141_28 : runF E n0 g c141_28 s h = regK (some [2]) (runO E n0 g h.length o141_28 s h) := k_reg0
@[simp] theorem q141_29 : runF E n0 g c141_29 s h = seqK E n0 g .ret (runF E n0 g c141_28 s h) := k_seq
@[simp] theorem q141_30 : runF E n0 g c141_30 s h = seqK E n0 g c141_29 (runF E n0 g c141_27 s h) := k_seq
@[simp] theorem q141_31 : runF E n0 g c141_31 s h = seqK E n0 g c141_30 (runF E n0 g c141_26 s h) := k_seq
@[simp] theorem q141_32 : runF E n0 g c141_32 s h = seqK E n0 g c141_31 (runF E n0 g c141_25 s h) := k_seq
@[simp] theorem q141_33 : runF E n0 g c141_33 s h = seqK E n0 g c141_32 (runF E n0 g c141_20 s h) := k_seq
@[simp] theorem q141_34 : runF E n0 g c141_34 s h = seqK E n0 g c141_33 (runF E n0 g c141_19 s h) := k_seq
@[simp] theorem q141_35 : runF E n0 g c141_35 s h = seqK E n0 g c141_34 (runF E n0 g c141_0 s h) := k_seq
@[simp] theorem qq141 : runF E n0 g c141 s h = runF E n0 g c141_35 s h := rfl
@[simp] theorem q142_0 : runF E n0 g c142_0 s h = regK (some [0]) (runO E n0 g h.length o142_0 s h) := k_reg0
@[simp] theorem q142_1 : runF E n0 g c142_1 s h = regK (some [5]) (runO E n0 g h.length o142_1 s h) := k_reg0
@[simp] theorem q142_2 : runF E n0 g c142_2 s h = regK (some [5, 6]) (runO E n0 g h.length o142_2 s h) := k_reg0
@[simp] theorem q142_3 : runF E n0 g c142_3 s h = regK (some [2, 3, 4]) (runO E n0 g h.length o142_3 s h) := k_reg0
@[simp] theorem q142_4 : runF E n0 g c142_4 s h = seqK E n0 g .ret (runF E n0 g c142_3 s h) := k_seq
@[simp] theorem q142_5 : runF E n0 g c142_5 s h = regK (some [5, 8]) (runO E n0 g h.length o142_5 s h) := k_reg0
@[simp] theorem q142_6 : runF E n0 g c142_6 s h = regK (some [2, 3, 4]) (runO E n0 g h.length o142_6 s h) := k_reg0
@[simp] theorem q142_7 : runF E n0 g c142_7 s h = seqK E n0 g .ret (runF E n0 g c142_6 s h) := k_seq
@[simp] theorem q142_8 : runF E n0 g c142_8 s h = regK (some [5, 10]) (runO E n0 g h.length o142_8 s h) := k_reg0
@[simp] theorem q142_9 : runF E n0 g c142_9 s h = regK (some [2, 3, 4]) (runO E n0 g h.length o142_9 s h) := k_reg0
@[simp] theorem q142_10 : runF E n0 g c142_10 s h = seqK E n0 g .ret (runF E n0 g c142_9 s h) := k_seq
@[simp] theorem q142_11 : runF E n0 g c142_11 s h = regK (some [5, 12]) (runO E n0 g h.length o142_11 s h) := k_reg0
@[simp] theorem q142_12 : runF E n0 g c142_12 s h = regK (some [2, 3, 4]) (runO E n0 g h.length o142_12 s h) := k_reg0
@[simp] theorem q142_13 : runF E n0 g c142_13 s h = seqK E n0 g .ret (runF E n0 g c142_12 s h) := k_seq
@[simp] theorem q142_14 : runF E n0 g c142_14 s h = regK (some [14]) (runO E n0 g h.length o142_14 s h) := k_reg0
@[simp] theorem q142_15 : runF E n0 g c142_15 s h = regK (some [2, 3, 4]) (runO E n0 g h.length o142_15 s h) := k_reg0
@[simp] theorem q142_16 : runF E n0 g c142_16 s h = seqK E n0 g .ret (runF E n0 g c142_15 s h) := k_seq
@[simp] theorem q142_17 : runF E n0 g c142_17 s h = condK E n0 g c142_16 .skip s h (get s 14) := k_cond
@[simp] theorem q142_18 : runF E n0 g c142_18 s h = seqK E n0 g c142_17 (runF E n0 g c142_14 s h) := k_seq
@[simp] theorem q142_19 : runF E n0 g c142_19 s h = condK E n0 g c142_13 c142_18 s h (get s 12) := k_cond
@[simp] theorem q142_20 : runF E n0 g c142_20 s h = seqK E n0 g c142_19 (runF E n0 g c142_11 s h) := k_seq
@[simp] theorem q142_21 : runF E n0 g c142_21 s h = condK E n0 g c142_10 c142_20 s h (get s 10) := k_cond
@[simp] theorem q142_22 : runF E n0 g c142_22 s h = seqK E n0 g c142_21 (runF E n0 g c142_8 s h) := k_seq
@[simp] theorem q142_23 : runF E n0 g c142_23 s h = condK E n0 g c142_7 c142_22 s h (get s 8) := k_cond
@[simp] theorem q142_24 : runF E n0 g c142_24 s h = seqK E n0 g c142_23 (runF E n0 g c142_5 s h) := k_seq
@[simp] theorem q142_25 : runF E n0 g c142_25 s h = condK E n0 g c142_4 c142_24 s h (get s 6) := k_cond
@[simp] theorem q142_26 : runF E n0 g c142_26 s h = seqK E n0 g c142_25 (runF E n0 g c142_2 s h) := k_seq
@[simp] theorem q142_27 : runF E n0 g c142_27 s h = blkK (some []) 0 (runF E n0 g c142_26 s h) := k_block
@[simp] theorem q142_28 : runF E n0 g c142_28 s h = seqK E n0 g c142_27 (runF E n0 g c142_1 s h) := k_seq
@[simp] theorem q142_29 : runF E n0 g c142_29 s h = regK (some [2, 3, 4]) (runO E n0 g h.length o142_29 s h) := k_reg0
@[simp] theorem q142_30 : runF E n0 g c142_30 s h = seqK E n0 g .ret (runF E n0 g c142_29 s h) := k_seq
@[simp] theorem q142_31 : runF E n0 g c142_31 s h = seqK E n0 g c142_30 (runF E n0 g c142_28 s h) := k_seq
@[simp] theorem q142_32 : runF E n0 g c142_32 s h = seqK E n0 g c142_31 (runF E n0 g c142_0 s h) := k_seq
@[simp] theorem qq142 : runF E n0 g c142 s h = runF E n0 g c142_32 s h := rfl
end Go.Proofs.Ytkomfefpfalajaa
