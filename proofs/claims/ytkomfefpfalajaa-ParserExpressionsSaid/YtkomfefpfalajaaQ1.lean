/- How each piece of code is run. Printed by a program of ours. -/
import Derived.Test.YtkomfefpfalajaaAcEnv
import Derived.Test.YtkomfefpfalajaaAb6
namespace Go.Proofs.Ytkomfefpfalajaa
open Go Go.Proofs Ab
set_option maxRecDepth 100000
variable {E : Env} {n0 : Nat} {g : Bool} {s : Slots} {h : Heap}
@[simp] theorem q14_0 : runF E n0 g c14_0 s h = regK (some [0, 2, 3]) (runO E n0 g h.length o14_0 s (h ++ [(.cells [(.sl .full []), (.sl .full [])]), (.cells [(.int .i64 0), (.int .i64 0)])])) := k_reg
@[simp] theorem q14_1 : runF E n0 g c14_1 s h = regK (some [0, 2, 3, 4, 5]) (runO E n0 g h.length o14_1 s (h ++ [(.cells [(.int .i64 0), (.int .i64 0)])])) := k_reg
@[simp] theorem q14_2 : runF E n0 g c14_2 s h = regK (some [2, 3, 6]) (runO E n0 g h.length o14_2 s (h ++ [.dead])) := k_reg
@[simp] theorem q14_3 : runF E n0 g c14_3 s h = regK (some [2, 3, 6, 7]) (runO E n0 g h.length o14_3 s (h ++ [(.cells [(.sl .full []), (.sl .full [])])])) := k_reg
@[simp] theorem q14_4 : runF E n0 g c14_4 s h = regK (some [2, 3, 6, 7, 34]) (runO E n0 g h.length o14_4 s h) := by rw [show c14_4 = .reg (some [2, 3, 6, 7, 34]) [] o14_4 (some []) from rfl, k_regd0, List.append_nil]
@[simp] theorem q14_5 : runF E n0 g c14_5 s h = condK E n0 g .skip (.exit 0) s h (get s 34) := k_cond
@[simp] theorem q14_6 : runF E n0 g c14_6 s h = seqK E n0 g c14_5 (runF E n0 g c14_4 s h) := k_seq
@[simp] theorem q14_7 : runF E n0 g c14_7 s h = regK (some [2, 3, 6, 7, 36]) (runO E n0 g h.length o14_7 s h) := k_reg0
@[simp] theorem q14_8 : runF E n0 g c14_8 s h = regK (some [2, 3, 6, 7]) (runO E n0 g h.length o14_8 s h) := k_reg0
@[simp] theorem q14_9 : runF E n0 g c14_9 s h = regK (some [2, 3, 6, 7, 8]) (runO E n0 g h.length o14_9 s h) := k_reg0
@[simp] theorem q14_10 : runF E n0 g c14_10 s h = regK (some [2, 3, 6, 7, 8, 9]) (runO E n0 g h.length o14_10 s h) := k_reg0
@[simp] theorem q14_11 : runF E n0 g c14_11 s h = regK (some [2, 3, 6, 7, 8, 9]) (runO E n0 g h.length o14_11 s h) := k_reg0
@[simp] theorem q14_12 : runF E n0 g c14_12 s h = regK (some [2, 3, 6, 7]) (runO E n0 g h.length o14_12 s (h ++ [.dead])) := k_reg
@[simp] theorem q14_13 : runF E n0 g c14_13 s h = seqK E n0 g (.exit 1) (runF E n0 g c14_12 s h) := k_seq
@[simp] theorem q14_14 : runF E n0 g c14_14 s h = seqK E n0 g c14_13 (runF E n0 g c14_11 s h) := k_seq
@[simp] theorem q14_15 : runF E n0 g c14_15 s h = seqK E n0 g c14_14 (runF E n0 g c14_10 s h) := k_seq
@[simp] theorem q14_16 : runF E n0 g c14_16 s h = seqK E n0 g c14_15 (runF E n0 g c14_9 s h) := k_seq
@[simp] theorem q14_17 : runF E n0 g c14_17 s h = seqK E n0 g c14_16 (runF E n0 g c14_8 s h) := k_seq
@[simp] theorem q14_18 : runF E n0 g c14_18 s h = condK E n0 g c14_17 .skip s h (get s 36) := k_cond
@[simp] theorem q14_19 : runF E n0 g c14_19 s h = seqK E n0 g c14_18 (runF E n0 g c14_7 s h) := k_seq
@[simp] theorem q14_20 : runF E n0 g c14_20 s h = regK (some [2, 3, 6, 7]) (runO E n0 g h.length o14_20 s h) := k_reg0
@[simp] theorem q14_21 : runF E n0 g c14_21 s h = regT (some [2, 3, 6, 7]) [(1, [3])] (runTr E n0 g h.length o14_21 s (h ++ [.dead]) []) := k_regd
@[simp] theorem q14_22 : runF E n0 g c14_22 s h = seqK E n0 g c14_21 (runF E n0 g c14_20 s h) := k_seq
@[simp] theorem q14_23 : runF E n0 g c14_23 s h = seqK E n0 g c14_22 (runF E n0 g c14_19 s h) := k_seq
@[simp] theorem q14_24 : runF E n0 g c14_24 s h = blkK (some [2, 3, 6, 7]) 1 (runF E n0 g c14_23 s h) := k_block
@[simp] theorem q14_25 : runF E n0 g c14_25 s h = seqK E n0 g c14_24 (runF E n0 g c14_6 s h) := k_seq
theorem q14_26 : runF E n0 g c14_26 s h = loopK E n0 g (some [2, 3, 6, 7]) c14_25 (runF E n0 g c14_25 (clearO (some [2, 3, 6, 7]) s) h) := k_loop
@[simp] theorem q14_26L : runF E n0 g (.loop (some [2, 3, 6, 7]) c14_25) s h = runF E n0 g c14_26 s h := rfl
@[simp] theorem q14_27 : runF E n0 g c14_27 s h = blkK (some [2, 3, 6, 7]) 0 (runF E n0 g c14_26 s h) := k_block
@[simp] theorem q14_28 : runF E n0 g c14_28 s h = regK (some [2, 3, 6, 7, 69]) (runO E n0 g h.length o14_28 s h) := k_reg0
@[simp] theorem q14_29 : runF E n0 g c14_29 s h = regT (some [2, 3]) [(4, [5])] (runTr E n0 g h.length o14_29 s h []) := by rw [show c14_29 = .reg (some [2, 3]) [] o14_29 (some [(4, [5])]) from rfl, k_regd, List.append_nil]
@[simp] theorem q14_30 : runF E n0 g c14_30 s h = seqK E n0 g .ret (runF E n0 g c14_29 s h) := k_seq
@[simp] theorem q14_31 : runF E n0 g c14_31 s h = condK E n0 g c14_30 .skip s h (get s 69) := k_cond
@[simp] theorem q14_32 : runF E n0 g c14_32 s h = seqK E n0 g c14_31 (runF E n0 g c14_28 s h) := k_seq
@[simp] theorem q14_33 : runF E n0 g c14_33 s h = regK (some [2, 3]) (runO E n0 g h.length o14_33 s h) := k_reg0
@[simp] theorem q14_34 : runF E n0 g c14_34 s h = seqK E n0 g .ret (runF E n0 g c14_33 s h) := k_seq
@[simp] theorem q14_35 : runF E n0 g c14_35 s h = seqK E n0 g c14_34 (runF E n0 g c14_32 s h) := k_seq
@[simp] theorem q14_36 : runF E n0 g c14_36 s h = seqK E n0 g c14_35 (runF E n0 g c14_27 s h) := k_seq
@[simp] theorem q14_37 : runF E n0 g c14_37 s h = seqK E n0 g c14_36 (runF E n0 g c14_3 s h) := k_seq
@[simp] theorem q14_38 : runF E n0 g c14_38 s h = seqK E n0 g c14_37 (runF E n0 g c14_2 s h) := k_seq
@[simp] theorem q14_39 : runF E n0 g c14_39 s h = seqK E n0 g c14_38 (runF E n0 g c14_1 s h) := k_seq
@[simp] theorem q14_40 : runF E n0 g c14_40 s h = seqK E n0 g c14_39 (runF E n0 g c14_0 s h) := k_seq
@[simp] theorem qq14 : runF E n0 g c14 s h = runF E n0 g c14_40 s h := rfl
@[simp] theorem q28_0 : runF E n0 g c28_0 s h = regK (some [0, 3]) (runO E n0 g h.length o28_0 s (h ++ [(.cells [(.int .i64 0), (.int .i64 0)])])) := k_reg
@[simp] theorem q28_1 : runF E n0 g c28_1 s h = regK (some [0, 3, 13]) (runO E n0 g h.length o28_1 s h) := k_reg0
@[simp] theorem q28_2 : runF E n0 g c28_2 s h = regK (some [2, 3]) (runO E n0 g h.length o28_2 s h) := k_reg0
@[simp] theorem q28_3 : runF E n0 g c28_3 s h = seqK E n0 g .ret (runF E n0 g c28_2 s h) := k_seq
@[simp] theorem q28_4 : runF E n0 g c28_4 s h = condK E n0 g c28_3 .skip s h (get s 13) := k_cond
@[simp] theorem q28_5 : runF E n0 g c28_5 s h = seqK E n0 g c28_4 (runF E n0 g c28_1 s h) := k_seq
@[simp] theorem q28_6 : runF E n0 g c28_6 s h = regK (some [0, 3, 4]) (runO E n0 g h.length o28_6 s h) := k_reg0
@[simp] theorem q28_7 : runF E n0 g c28_7 s h = regK (some [0, 3, 4, 5]) (runO E n0 g h.length o28_7 s h) := k_reg0
@[simp] theorem q28_8 : runF E n0 g c28_8 s h = regK (some [0, 3, 4, 5, 18]) (runO E n0 g h.length o28_8 s h) := k_reg0
@[simp] theorem q28_9 : runF E n0 g c28_9 s h = condK E n0 g .skip (.exit 0) s h (get s 18) := k_cond
@[simp] theorem q28_10 : runF E n0 g c28_10 s h = seqK E n0 g c28_9 (runF E n0 g c28_8 s h) := k_seq
@[simp] theorem q28_11 : runF E n0 g c28_11 s h = regK (some [0, 3, 4, 5, 6]) (runO E n0 g h.length o28_11 s h) := k_reg0
@[simp] theorem q28_12 : runF E n0 g c28_12 s h = regK (some [0, 3, 4, 5, 6, 35]) (runO E n0 g h.length o28_12 s h) := k_reg0
@[simp] theorem q28_13 : runF E n0 g c28_13 s h = regK (some [0, 3, 4, 5]) (runO E n0 g h.length o28_13 s h) := k_reg0
@[simp] theorem q28_14 : runF E n0 g c28_14 s h = seqK E n0 g (.exit 1) (runF E n0 g c28_13 s h) := k_seq
@[simp] theorem q28_15 : runF E n0 g c28_15 s h = condK E n0 g c28_14 .skip s h (get s 35) := k_cond
@[simp] theorem q28_16 : runF E n0 g c28_16 s h = seqK E n0 g c28_15 (runF E n0 g c28_12 s h) := k_seq
@[simp] theorem q28_17 : runF E n0 g c28_17 s h = regK (some [0, 3, 4, 5, 6, 39]) (runO E n0 g h.length o28_17 s h) := k_reg0
@[simp] theorem q28_18 : runF E n0 g c28_18 s h = regK (some [0, 3, 4, 5, 49]) (runO E n0 g h.length o28_18 s h) := k_reg0
@[simp] theorem q28_19 : runF E n0 g c28_19 s h = condK E n0 g .skip (.exit 2) s h (get s 49) := k_cond
@[simp] theorem q28_20 : runF E n0 g c28_20 s h = seqK E n0 g c28_19 (runF E n0 g c28_18 s h) := k_seq
@[simp] theorem q28_21 : runF E n0 g c28_21 s h = regK (some [0, 3, 4, 5]) (runO E n0 g h.length o28_21 s h) := k_reg0
@[simp] theorem q28_22 : runF E n0 g c28_22 s h = blkK (some [0, 3, 4, 5]) 3 (runF E n0 g c28_21 s h) := k_block
@[simp] theorem q28_23 : runF E n0 g c28_23 s h = seqK E n0 g c28_22 (runF E n0 g c28_20 s h) := k_seq
theorem q28_24 : runF E n0 g c28_24 s h = loopK E n0 g (some [0, 3, 4, 5]) c28_23 (runF E n0 g c28_23 (clearO (some [0, 3, 4, 5]) s) h) := k_loop
@[simp] theorem q28_24L : runF E n0 g (.loop (some [0, 3, 4, 5]) c28_23) s h = runF E n0 g c28_24 s h := rfl
@[simp] theorem q28_25 : runF E n0 g c28_25 s h = blkK (some [0, 3, 4, 5]) 2 (runF E n0 g c28_24 s h) := k_block
@[simp] theorem q28_26 : runF E n0 g c28_26 s h = seqK E n0 g (.exit 1) (runF E n0 g c28_25 s h) := k_seq
@[simp] theorem q28_27 : runF E n0 g c28_27 s h = condK E n0 g c28_26 .skip s h (get s 39) := k_cond
@[simp] theorem q28_28 : runF E n0 g c28_28 s h = seqK E n0 g c28_27 (runF E n0 g c28_17 s h) := k_seq
@[simp] theorem q28_29 : runF E n0 g c28_29 s h = regK (some [0, 3, 4, 5, 6, 7]) (runO E n0 g h.length o28_29 s (h ++ [(.cells [(.int .i64 0), (.str []), (.int .i64 0)])])) := k_reg
@[simp] theorem q28_30 : runF E n0 g c28_30 s h = regK (some [0, 3, 4, 5, 6, 7, 59]) (runO E n0 g h.length o28_30 s h) := k_reg0
@[simp] theorem q28_31 : runF E n0 g c28_31 s h = regK (some [0, 3, 4, 5, 6, 7, 8]) (runO E n0 g h.length o28_31 s h) := k_reg0
@[simp] theorem q28_32 : runF E n0 g c28_32 s h = regK (some [0, 3, 4, 5, 6, 7, 8, 76]) (runO E n0 g h.length o28_32 s h) := k_reg0
@[simp] theorem q28_33 : runF E n0 g c28_33 s h = condK E n0 g .skip (.exit 4) s h (get s 76) := k_cond
@[simp] theorem q28_34 : runF E n0 g c28_34 s h = seqK E n0 g c28_33 (runF E n0 g c28_32 s h) := k_seq
@[simp] theorem q28_35 : runF E n0 g c28_35 s h = regK (some [0, 3, 4, 5, 6, 7, 8]) (runO E n0 g h.length o28_35 s h) := k_reg0
@[simp] theorem q28_36 : runF E n0 g c28_36 s h = blkK (some [0, 3, 4, 5, 6, 7, 8]) 5 (runF E n0 g c28_35 s h) := k_block
@[simp] theorem q28_37 : runF E n0 g c28_37 s h = seqK E n0 g c28_36 (runF E n0 g c28_34 s h) := k_seq
theorem q28_38 : runF E n0 g c28_38 s h = loopK E n0 g (some [0, 3, 4, 5, 6, 7, 8]) c28_37 (runF E n0 g c28_37 (clearO (some [0, 3, 4, 5, 6, 7, 8]) s) h) := k_loop
@[simp] theorem q28_38L : runF E n0 g (.loop (some [0, 3, 4, 5, 6, 7, 8]) c28_37) s h = runF E n0 g c28_38 s h := rfl
@[simp] theorem q28_39 : runF E n0 g c28_39 s h = blkK (some [0, 3, 4, 5, 6, 7, 8]) 4 (runF E n0 g c28_38 s h) := k_block
@[simp] theorem q28_40 : runF E n0 g c28_40 s h = regK (some [0, 3, 4, 5, 6, 7, 8]) (runO E n0 g h.length o28_40 s h) := k_reg0
@[simp] theorem q28_41 : runF E n0 g c28_41 s h = regK (some [0, 3, 4, 5, 6, 7, 8]) (runO E n0 g h.length o28_41 s h) := k_reg0
@[simp] theorem q28_42 : runF E n0 g c28_42 s h = regK (some [0, 3, 4, 5, 7, 8, 86]) (runO E n0 g h.length o28_42 s h) := k_reg0
@[simp] theorem q28_43 : runF E n0 g c28_43 s h = regK (some [0, 3, 4, 5, 7]) (runO E n0 g h.length o28_43 s h) := k_reg0
@[simp] theorem q28_44 : runF E n0 g c28_44 s h = regK (some [0, 3, 4, 5, 7, 10]) (runO E n0 g h.length o28_44 s h) := k_reg0
@[simp] theorem q28_45 : runF E n0 g c28_45 s h = regK (some [0, 3, 4, 5, 7, 95]) (runO E n0 g h.length o28_45 s h) := k_reg0
@[simp] theorem q28_46 : runF E n0 g c28_46 s h = regK (some [2, 3]) (runO E n0 g h.length o28_46 s h) := k_reg0
@[simp] theorem q28_47 : runF E n0 g c28_47 s h = seqK E n0 g .ret (runF E n0 g c28_46 s h) := k_seq
@[simp] theorem q28_48 : runF E n0 g c28_48 s h = condK E n0 g c28_47 .skip s h (get s 95) := k_cond
@[simp] theorem q28_49 : runF E n0 g c28_49 s h = seqK E n0 g c28_48 (runF E n0 g c28_45 s h) := k_seq
@[simp] theorem q28_50 : runF E n0 g c28_50 s h = seqK E n0 g c28_49 (runF E n0 g c28_44 s h) := k_seq
@[simp] theorem q28_51 : runF E n0 g c28_51 s h = seqK E n0 g c28_50 (runF E n0 g c28_43 s h) := k_seq
@[simp] theorem q28_52 : runF E n0 g c28_52 s h = regK (some [0, 3, 4, 5, 7, 101]) (runO E n0 g h.length o28_52 s h) := k_reg0
@[simp] theorem q28_53 : runF E n0 g c28_53 s h = regK (some [2, 3]) (runO E n0 g h.length o28_53 s h) := k_reg0
@[simp] theorem q28_54 : runF E n0 g c28_54 s h = seqK E n0 g .ret (runF E n0 g c28_53 s h) := k_seq
@[simp] theorem q28_55 : runF E n0 g c28_55 s h = condK E n0 g c28_54 .skip s h (get s 101) := k_cond
@[simp] theorem q28_56 : runF E n0 g c28_56 s h = seqK E n0 g c28_55 (runF E n0 g c28_52 s h) := k_seq
@[simp] theorem q28_57 : runF E n0 g c28_57 s h = condK E n0 g c28_51 c28_56 s h (get s 86) := k_cond
@[simp] theorem q28_58 : runF E n0 g c28_58 s h = seqK E n0 g c28_57 (runF E n0 g c28_42 s h) := k_seq
@[simp] theorem q28_59 : runF E n0 g c28_59 s h = seqK E n0 g c28_58 (runF E n0 g c28_41 s h) := k_seq
@[simp] theorem q28_60 : runF E n0 g c28_60 s h = seqK E n0 g c28_59 (runF E n0 g c28_40 s h) := k_seq
@[simp] theorem q28_61 : runF E n0 g c28_61 s h = seqK E n0 g c28_60 (runF E n0 g c28_39 s h) := k_seq
@[simp] theorem q28_62 : runF E n0 g c28_62 s h = seqK E n0 g c28_61 (runF E n0 g c28_31 s h) := k_seq
@[simp] theorem q28_63 : runF E n0 g c28_63 s h = regK (some [0, 3, 4, 5, 7]) (runO E n0 g h.length o28_63 s h) := k_reg0
@[simp] theorem q28_64 : runF E n0 g c28_64 s h = condK E n0 g c28_62 c28_63 s h (get s 59) := k_cond
@[simp] theorem q28_65 : runF E n0 g c28_65 s h = seqK E n0 g c28_64 (runF E n0 g c28_30 s h) := k_seq
@[simp] theorem q28_66 : runF E n0 g c28_66 s h = regK (some [0, 3, 4, 5, 7, 111]) (runO E n0 g h.length o28_66 s h) := k_reg0
@[simp] theorem q28_67 : runF E n0 g c28_67 s h = regK (some [2, 3]) (runO E n0 g h.length o28_67 s h) := k_reg0
@[simp] theorem q28_68 : runF E n0 g c28_68 s h = seqK E n0 g .ret (runF E n0 g c28_67 s h) := k_seq
@[simp] theorem q28_69 : runF E n0 g c28_69 s h = condK E n0 g c28_68 .skip s h (get s 111) := k_cond
@[simp] theorem q28_70 : runF E n0 g c28_70 s h = seqK E n0 g c28_69 (runF E n0 g c28_66 s h) := k_seq
@[simp] theorem q28_71 : runF E n0 g c28_71 s h = regK (some [0, 3, 4, 5, 7]) (runO E n0 g h.length o28_71 s (h ++ [.dead])) := k_reg
@[simp] theorem q28_72 : runF E n0 g c28_72 s h = regK (some [0, 3, 4, 5]) (runO E n0 g h.length o28_72 s h) := k_reg0
@[simp] theorem q28_73 : runF E n0 g c28_73 s h = seqK E n0 g c28_72 (runF E n0 g c28_71 s h) := k_seq
@[simp] theorem q28_74 : runF E n0 g c28_74 s h = seqK E n0 g c28_73 (runF E n0 g c28_70 s h) := k_seq
@[simp] theorem q28_75 : runF E n0 g c28_75 s h = seqK E n0 g c28_74 (runF E n0 g c28_65 s h) := k_seq
@[simp] theorem q28_76 : runF E n0 g c28_76 s h = seqK E n0 g c28_75 (runF E n0 g c28_29 s h) := k_seq
@[simp] theorem q28_77 : runF E n0 g c28_77 s h = seqK E n0 g c28_76 (runF E n0 g c28_28 s h) := k_seq
@[simp] theorem q28_78 : runF E n0 g c28_78 s h = seqK E n0 g c28_77 (runF E n0 g c28_16 s h) := k_seq
@[simp] theorem q28_79 : runF E n0 g c28_79 s h = seqK E n0 g c28_78 (runF E n0 g c28_11 s h) := k_seq
@[simp] theorem q28_80 : runF E n0 g c28_80 s h = blkK (some [0, 3, 4, 5]) 1 (runF E n0 g c28_79 s h) := k_block
@[simp] theorem q28_81 : runF E n0 g c28_81 s h = seqK E n0 g c28_80 (runF E n0 g c28_10 s h) := k_seq
theorem q28_82 : runF E n0 g c28_82 s h = loopK E n0 g (some [0, 3, 4, 5]) c28_81 (runF E n0 g c28_81 (clearO (some [0, 3, 4, 5]) s) h) := k_loop
@[simp] theorem q28_82L : runF E n0 g (.loop (some [0, 3, 4, 5]) c28_81) s h = runF E n0 g c28_82 s h := rfl
@[simp] theorem q28_83 : runF E n0 g c28_83 s h = blkK (some [3, 4]) 0 (runF E n0 g c28_82 s h) := k_block
@[simp] theorem q28_84 : runF E n0 g c28_84 s h = seqK E n0 g c28_83 (runF E n0 g c28_7 s h) := k_seq
@[simp] theorem q28_85 : runF E n0 g c28_85 s h = regK (some [2, 3]) (runO E n0 g h.length o28_85 s h) := k_reg0
@[simp] theorem q28_86 : runF E n0 g c28_86 s h = seqK E n0 g .ret (runF E n0 g c28_85 s h) := k_seq
@[simp] theorem q28_87 : runF E n0 g c28_87 s h = seqK E n0 g c28_86 (runF E n0 g c28_84 s h) := k_seq
@[simp] theorem q28_88 : runF E n0 g c28_88 s h = seqK E n0 g c28_87 (runF E n0 g c28_6 s h) := k_seq
@[simp] theorem q28_89 : runF E n0 g c28_89 s h = seqK E n0 g c28_88 (runF E n0 g c28_5 s h) := k_seq
@[simp] theorem q28_90 : runF E n0 g c28_90 s h = seqK E n0 g c28_89 (runF E n0 g c28_0 s h) := k_seq
@[simp] theorem qq28 : runF E n0 g c28 s h = runF E n0 g c28_90 s h := rfl
@[simp] theorem q29_0 : runF E n0 g c29_0 s h = regK (some [0]) (runO E n0 g h.length o29_0 s h) := k_reg0
@[simp] theorem q29_1 : runF E n0 g c29_1 s h = regK (some [2]) (runO E n0 g h.length o29_1 s h) := k_reg0
@[simp] theorem q29_2 : runF E n0 g c29_2 s h = seqK E n0 g .ret (runF E n0 g c29_1 s h) := k_seq
@[simp] theorem q29_3 : runF E n0 g c29_3 s h = seqK E n0 g c29_2 (runF E n0 g c29_0 s h) := k_seq
@[simp] theorem qq29 : runF E n0 g c29 s h = runF E n0 g c29_3 s h := rfl
@[simp] theorem q30_0 : runF E n0 g c30_0 s h = regK (some [0, 1, 2]) (runO E n0 g h.length o30_0 s h) := k_reg0
@[simp] theorem q30_1 : runF E n0 g c30_1 s h = regK (some [6]) (runO E n0 g h.length o30_1 s h) := by rw [show c30_1 = .reg (some [6]) [] o30_1 (some []) from rfl, k_regd0, List.append_nil]
@[simp] theorem q30_2 : runF E n0 g c30_2 s h = seqK E n0 g .ret (runF E n0 g c30_1 s h) := k_seq
@[simp] theorem q30_3 : runF E n0 g c30_3 s h = seqK E n0 g c30_2 (runF E n0 g c30_0 s h) := k_seq
@[simp] theorem qq30 : runF E n0 g c30 s h = runF E n0 g c30_3 s h := rfl
@[simp] theorem q31_0 : runF E n0 g c31_0 s h = regK (some [0]) (runO E n0 g h.length o31_0 s h) := k_reg0
@[simp] theorem q31_1 : runF E n0 g c31_1 s h = regK (some [0, 5]) (runO E n0 g h.length o31_1 s h) := k_reg0
@[simp] theorem q31_2 : runF E n0 g c31_2 s h = regK (some []) (runO E n0 g h.length o31_2 s h) := k_reg0
@[simp] theorem q31_3 : runF E n0 g c31_3 s h = regK (some [2]) (runO E n0 g h.length o31_3 s h) := k_reg0
@[simp] theorem q31_4 : runF E n0 g c31_4 s h = seqK E n0 g .ret (runF E n0 g c31_3 s h) := k_seq
@[simp] theorem q31_5 : runF E n0 g c31_5 s h = seqK E n0 g c31_4 (runF E n0 g c31_2 s h) := k_seq
@[simp] theorem q31_6 : runF E n0 g c31_6 s h = condK E n0 g c31_5 .skip s h (get s 5) := k_cond
@[simp] theorem q31_7 : runF E n0 g c31_7 s h = seqK E n0 g c31_6 (runF E n0 g c31_1 s h) := k_seq
@[simp] theorem q31_8 : runF E n0 g c31_8 s h = regK (some [0]) (runO E n0 g h.length o31_8 s h) := k_reg0
@[simp] theorem q31_9 : runF E n0 g c31_9 s h = regK (some [2]) (runO E n0 g h.length o31_9 s h) := by rw [show c31_9 = .reg (some [2]) [] o31_9 (some []) from rfl, k_regd0, List.append_nil]
@[simp] theorem q31_10 : runF E n0 g c31_10 s h = seqK E n0 g .ret (runF E n0 g c31_9 s h) := k_seq
@[simp] theorem q31_11 : runF E n0 g c31_11 s h = seqK E n0 g c31_10 (runF E n0 g c31_8 s h) := k_seq
@[simp] theorem q31_12 : runF E n0 g c31_12 s h = seqK E n0 g c31_11 (runF E n0 g c31_7 s h) := k_seq
@[simp] theorem q31_13 : runF E n0 g c31_13 s h = seqK E n0 g c31_12 (runF E n0 g c31_0 s h) := k_seq
@[simp] theorem qq31 : runF E n0 g c31 s h = runF E n0 g c31_13 s h := rfl
@[simp] theorem q32_0 : runF E n0 g c32_0 s h = regK (some [0]) (runO E n0 g h.length o32_0 s h) := k_reg0
@[simp] theorem q32_1 : runF E n0 g c32_1 s h = regK (some [0, 33]) (runO E n0 g h.length o32_1 s h) := by rw [show c32_1 = .reg (some [0, 33]) [] o32_1 (some []) from rfl, k_regd0, List.append_nil]
@[simp] theorem q32_2 : runF E n0 g c32_2 s h = regK (some []) (runO E n0 g h.length o32_2 s h) := k_reg0
@[simp] theorem q32_3 : runF E n0 g c32_3 s h = regK (some [2]) (runO E n0 g h.length o32_3 s h) := k_reg0
@[simp] theorem q32_4 : runF E n0 g c32_4 s h = seqK E n0 g .ret (runF E n0 g c32_3 s h) := k_seq
@[simp] theorem q32_5 : runF E n0 g c32_5 s h = seqK E n0 g c32_4 (runF E n0 g c32_2 s h) := k_seq
@[simp] theorem q32_6 : runF E n0 g c32_6 s h = condK E n0 g c32_5 .skip s h (get s 33) := k_cond
@[simp] theorem q32_7 : runF E n0 g c32_7 s h = seqK E n0 g c32_6 (runF E n0 g c32_1 s h) := k_seq
@[simp] theorem q32_8 : runF E n0 g c32_8 s h = regK (some [0, 3, 4]) (runO E n0 g h.length o32_8 s h) := by rw [show c32_8 = .reg (some [0, 3, 4]) [] o32_8 (some []) from rfl, k_regd0, List.append_nil]
@[simp] theorem q32_9 : runF E n0 g c32_9 s h = regK (some [0, 3, 52]) (runO E n0 g h.length o32_9 s h) := k_reg0
@[simp] theorem q32_10 : runF E n0 g c32_10 s h = regK (some []) (runO E n0 g h.length o32_10 s h) := k_reg0
@[simp] theorem q32_11 : runF E n0 g c32_11 s h = regK (some [2]) (runO E n0 g h.length o32_11 s h) := k_reg0
@[simp] theorem q32_12 : runF E n0 g c32_12 s h = seqK E n0 g .ret (runF E n0 g c32_11 s h) := k_seq
@[simp] theorem q32_13 : runF E n0 g c32_13 s h = seqK E n0 g c32_12 (runF E n0 g c32_10 s h) := k_seq
@[simp] theorem q32_14 : runF E n0 g c32_14 s h = condK E n0 g c32_13 .skip s h (get s 52) := k_cond
@[simp] theorem q32_15 : runF E n0 g c32_15 s h = seqK E n0 g c32_14 (runF E n0 g c32_9 s h) := k_seq
@[simp] theorem q32_16 : runF E n0 g c32_16 s h = regK (some [3]) (runO E n0 g h.length o32_16 s h) := k_reg0
@[simp] theorem q32_17 : runF E n0 g c32_17 s h = regK (some [2]) (runO E n0 g h.length o32_17 s h) := k_reg0
@[simp] theorem q32_18 : runF E n0 g c32_18 s h = seqK E n0 g .ret (runF E n0 g c32_17 s h) := k_seq
@[simp] theorem q32_19 : runF E n0 g c32_19 s h = seqK E n0 g c32_18 (runF E n0 g c32_16 s h) := k_seq
@[simp] theorem q32_20 : runF E n0 g c32_20 s h = seqK E n0 g c32_19 (runF E n0 g c32_15 s h) := k_seq
@[simp] theorem q32_21 : runF E n0 g c32_21 s h = seqK E n0 g c32_20 (runF E n0 g c32_8 s h) := k_seq
@[simp] theorem q32_22 : runF E n0 g c32_22 s h = seqK E n0 g c32_21 (runF E n0 g c32_7 s h) := k_seq
@[simp] theorem q32_23 : runF E n0 g c32_23 s h = seqK E n0 g c32_22 (runF E n0 g c32_0 s h) := k_seq
@[simp] theorem qq32 : runF E n0 g c32 s h = runF E n0 g c32_23 s h := rfl
@[simp] theorem q33_0 : runF E n0 g c33_0 s h = regK (some [0, 7]) (runO E n0 g h.length o33_0 s h) := k_reg0
@[simp] theorem q33_1 : runF E n0 g c33_1 s h = regK (some []) (runO E n0 g h.length o33_1 s h) := k_reg0
@[simp] theorem q33_2 : runF E n0 g c33_2 s h = seqK E n0 g .ret (runF E n0 g c33_1 s h) := k_seq
@[simp] theorem q33_3 : runF E n0 g c33_3 s h = condK E n0 g c33_2 .skip s h (get s 7) := k_cond
@[simp] theorem q33_4 : runF E n0 g c33_4 s h = seqK E n0 g c33_3 (runF E n0 g c33_0 s h) := k_seq
@[simp] theorem q33_5 : runF E n0 g c33_5 s h = regK (some []) (runO E n0 g h.length o33_5 s h) := k_reg0
@[simp] theorem q33_6 : runF E n0 g c33_6 s h = seqK E n0 g c33_5 (runF E n0 g c33_4 s h) := k_seq
@[simp] theorem qq33 : runF E n0 g c33 s h = runF E n0 g c33_6 s h := rfl
@[simp] theorem q34_0 : runF E n0 g c34_0 s h = regK (some [0, 2]) (runO E n0 g h.length o34_0 s (h ++ [(.cells [(.str []), (.sl .full []), (.sl .full []), (.sl .full []), (.int .i64 0), (.int .i64 0), (.str []), (.int .i64 0), (.sl .full [])])])) := k_reg
@[simp] theorem q34_1 : runF E n0 g c34_1 s h = regK (some [0, 2, 3]) (runO E n0 g h.length o34_1 s (h ++ [(.cells [(.str []), (.sl .full []), (.sl .full []), (.sl .full []), (.int .i64 0), (.int .i64 0), (.str []), (.int .i64 0), (.sl .full [])])])) := k_reg
@[simp] theorem q34_2 : runF E n0 g c34_2 s h = regK (some [0, 2, 3]) (runO E n0 g h.length o34_2 s h) := k_reg0
@[simp] theorem q34_3 : runF E n0 g c34_3 s h = regK (some [0, 2, 3]) (runO E n0 g h.length o34_3 s h) := k_reg0
@[simp] theorem q34_4 : runF E n0 g c34_4 s h = regK (some [0, 2, 3, 15]) (runO E n0 g h.length o34_4 s h) := k_reg0
@[simp] theorem q34_5 : runF E n0 g c34_5 s h = condK E n0 g .skip (.exit 0) s h (get s 15) := k_cond
@[simp] theorem q34_6 : runF E n0 g c34_6 s h = seqK E n0 g c34_5 (runF E n0 g c34_4 s h) := k_seq
@[simp] theorem q34_7 : runF E n0 g c34_7 s h = regK (some [0, 2, 3, 19]) (runO E n0 g h.length o34_7 s h) := k_reg0
@[simp] theorem q34_8 : runF E n0 g c34_8 s h = regK (some [0, 2, 3]) (runO E n0 g h.length o34_8 s h) := k_reg0
@[simp] theorem q34_9 : runF E n0 g c34_9 s h = condK E n0 g c34_8 .skip s h (get s 19) := k_cond
@[simp] theorem q34_10 : runF E n0 g c34_10 s h = seqK E n0 g c34_9 (runF E n0 g c34_7 s h) := k_seq
@[simp] theorem q34_11 : runF E n0 g c34_11 s h = regT (some [0, 2, 3]) [(1, [3])] (runTr E n0 g h.length o34_11 s (h ++ [.dead]) []) := k_regd
@[simp] theorem q34_12 : runF E n0 g c34_12 s h = seqK E n0 g c34_11 (runF E n0 g c34_10 s h) := k_seq
@[simp] theorem q34_13 : runF E n0 g c34_13 s h = blkK (some [0, 2, 3]) 1 (runF E n0 g c34_12 s h) := k_block
@[simp] theorem q34_14 : runF E n0 g c34_14 s h = seqK E n0 g c34_13 (runF E n0 g c34_6 s h) := k_seq
theorem q34_15 : runF E n0 g c34_15 s h = loopK E n0 g (some [0, 2, 3]) c34_14 (runF E n0 g c34_14 (clearO (some [0, 2, 3]) s) h) := k_loop
@[simp] theorem q34_15L : runF E n0 g (.loop (some [0, 2, 3]) c34_14) s h = runF E n0 g c34_15 s h := rfl
@[simp] theorem q34_16 : runF E n0 g c34_16 s h = blkK (some [0, 2, 3]) 0 (runF E n0 g c34_15 s h) := k_block
@[simp] theorem q34_17 : runF E n0 g c34_17 s h = regK (some [0, 2, 3]) (runO E n0 g h.length o34_17 s h) := k_reg0
@[simp] theorem q34_18 : runF E n0 g c34_18 s h = regK (some [0, 2, 3, 32]) (runO E n0 g h.length o34_18 s h) := k_reg0
@[simp] theorem q34_19 : runF E n0 g c34_19 s h = regK (some [0, 2, 3]) (runO E n0 g h.length o34_19 s h) := k_reg0
@[simp] theorem q34_20 : runF E n0 g c34_20 s h = regT (some [0, 2, 3]) [(1, [3])] (runTr E n0 g h.length o34_20 s (h ++ [.dead]) []) := k_regd
@[simp] theorem q34_21 : runF E n0 g c34_21 s h = regK (some [0, 2, 3, 48]) (runO E n0 g h.length o34_21 s h) := k_reg0
@[simp] theorem q34_22 : runF E n0 g c34_22 s h = condK E n0 g .skip (.exit 2) s h (get s 48) := k_cond
@[simp] theorem q34_23 : runF E n0 g c34_23 s h = seqK E n0 g c34_22 (runF E n0 g c34_21 s h) := k_seq
@[simp] theorem q34_24 : runF E n0 g c34_24 s h = regK (some [0, 2, 3]) (runO E n0 g h.length o34_24 s h) := k_reg0
@[simp] theorem q34_25 : runF E n0 g c34_25 s h = regT (some [0, 2, 3]) [(1, [3])] (runTr E n0 g h.length o34_25 s (h ++ [.dead]) []) := k_regd
@[simp] theorem q34_26 : runF E n0 g c34_26 s h = seqK E n0 g c34_25 (runF E n0 g c34_24 s h) := k_seq
@[simp] theorem q34_27 : runF E n0 g c34_27 s h = blkK (some [0, 2, 3]) 3 (runF E n0 g c34_26 s h) := k_block
@[simp] theorem q34_28 : runF E n0 g c34_28 s h = seqK E n0 g c34_27 (runF E n0 g c34_23 s h) := k_seq
theorem q34_29 : runF E n0 g c34_29 s h = loopK E n0 g (some [0, 2, 3]) c34_28 (runF E n0 g c34_28 (clearO (some [0, 2, 3]) s) h) := k_loop
@[simp] theorem q34_29L : runF E n0 g (.loop (some [0, 2, 3]) c34_28) s h = runF E n0 g c34_29 s h := rfl
@[simp] theorem q34_30 : runF E n0 g c34_30 s h = blkK (some [0, 2, 3]) 2 (runF E n0 g c34_29 s h) := k_block
@[simp] theorem q34_31 : runF E n0 g c34_31 s h = seqK E n0 g c34_30 (runF E n0 g c34_20 s h) := k_seq
@[simp] theorem q34_32 : runF E n0 g c34_32 s h = seqK E n0 g c34_31 (runF E n0 g c34_19 s h) := k_seq
@[simp] theorem q34_33 : runF E n0 g c34_33 s h = condK E n0 g c34_32 .skip s h (get s 32) := k_cond
@[simp] theorem q34_34 : runF E n0 g c34_34 s h = seqK E n0 g c34_33 (runF E n0 g c34_18 s h) := k_seq
@[simp] theorem q34_35 : runF E n0 g c34_35 s h = regK (some [0, 2, 3]) (runO E n0 g h.length o34_35 s h) := k_reg0
@[simp] theorem q34_36 : runF E n0 g c34_36 s h = regK (some [0, 2, 3, 71]) (runO E n0 g h.length o34_36 s h) := k_reg0
@[simp] theorem q34_37 : runF E n0 g c34_37 s h = condK E n0 g .skip (.exit 4) s h (get s 71) := k_cond
@[simp] theorem q34_38 : runF E n0 g c34_38 s h = seqK E n0 g c34_37 (runF E n0 g c34_36 s h) := k_seq
@[simp] theorem q34_39 : runF E n0 g c34_39 s h = regT (some [0, 2, 3]) [(1, [3])] (runTr E n0 g h.length o34_39 s (h ++ [.dead]) []) := k_regd
@[simp] theorem q34_40 : runF E n0 g c34_40 s h = blkK (some [0, 2, 3]) 5 (runF E n0 g c34_39 s h) := k_block
@[simp] theorem q34_41 : runF E n0 g c34_41 s h = seqK E n0 g c34_40 (runF E n0 g c34_38 s h) := k_seq
theorem q34_42 : runF E n0 g c34_42 s h = loopK E n0 g (some [0, 2, 3]) c34_41 (runF E n0 g c34_41 (clearO (some [0, 2, 3]) s) h) := k_loop
@[simp] theorem q34_42L : runF E n0 g (.loop (some [0, 2, 3]) c34_41) s h = runF E n0 g c34_42 s h := rfl
@[simp] theorem q34_43 : runF E n0 g c34_43 s h = blkK (some [0, 2, 3]) 4 (runF E n0 g c34_42 s h) := k_block
@[simp] theorem q34_44 : runF E n0 g c34_44 s h = regK (some [0, 2, 3]) (runO E n0 g h.length o34_44 s h) := k_reg0
@[simp] theorem q34_45 : runF E n0 g c34_45 s h = regK (some [0, 2, 3]) (runO E n0 g h.length o34_45 s h) := k_reg0
@[simp] theorem q34_46 : runF E n0 g c34_46 s h = regK (some [0, 2, 3]) (runO E n0 g h.length o34_46 s h) := k_reg0
@[simp] theorem q34_47 : runF E n0 g c34_47 s h = regK (some [2, 3]) (runO E n0 g h.length o34_47 s h) := k_reg0
@[simp] theorem q34_48 : runF E n0 g c34_48 s h = regK (some [2]) (runO E n0 g h.length o34_48 s h) := k_reg0
@[simp] theorem q34_49 : runF E n0 g c34_49 s h = seqK E n0 g .ret (runF E n0 g c34_48 s h) := k_seq
@[simp] theorem q34_50 : runF E n0 g c34_50 s h = seqK E n0 g c34_49 (runF E n0 g c34_47 s h) := k_seq
@[simp] theorem q34_51 : runF E n0 g c34_51 s h = seqK E n0 g c34_50 (runF E n0 g c34_46 s h) := k_seq
@[simp] theorem q34_52 : runF E n0 g c34_52 s h = seqK E n0 g c34_51 (runF E n0 g c34_45 s h) := k_seq
@[simp] theorem q34_53 : runF E n0 g c34_53 s h = seqK E n0 g c34_52 (runF E n0 g c34_44 s h) := k_seq
@[simp] theorem q34_54 : runF E n0 g c34_54 s h = seqK E n0 g c34_53 (runF E n0 g c34_43 s h) := k_seq
@[simp] theorem q34_55 : runF E n0 g c34_55 s h = seqK E n0 g c34_54 (runF E n0 g c34_35 s h) := k_seq
@[simp] theorem q34_56 : runF E n0 g c34_56 s h = seqK E n0 g c34_55 (runF E n0 g c34_34 s h) := k_seq
@[simp] theorem q34_57 : runF E n0 g c34_57 s h = seqK E n0 g c34_56 (runF E n0 g c34_17 s h) := k_seq
@[simp] theorem q34_58 : runF E n0 g c34_58 s h = seqK E n0 g c34_57 (runF E n0 g c34_16 s h) := k_seq
@[simp] theorem q34_59 : runF E n0 g c34_59 s h = seqK E n0 g c34_58 (runF E n0 g c34_3 s h) := k_seq
@[simp] theorem q34_60 : runF E n0 g c34_60 s h = seqK E n0 g c34_59 (runF E n0 g c34_2 s h) := k_seq
@[simp] theorem q34_61 : runF E n0 g c34_61 s h = seqK E n0 g c34_60 (runF E n0 g c34_1 s h) := k_seq
@[simp] theorem q34_62 : runF E n0 g c34_62 s h = seqK E n0 g c34_61 (runF E n0 g c34_0 s h) := k_seq
@[simp] theorem qq34 : runF E n0 g c34 s h = runF E n0 g c34_62 s h := rfl
@[simp] theorem q61_0 : runF E n0 g c61_0 s h = regK (some [0]) (runO E n0 g h.length o61_0 s h) := k_reg0
@[simp] theorem q61_1 : runF E n0 g c61_1 s h = regK (some [2]) (runO E n0 g h.length o61_1 s h) := k_reg0
@[simp] theorem q61_2 : runF E n0 g c61_2 s h = seqK E n0 g .ret (runF E n0 g c61_1 s h) := k_seq
@[simp] theorem q61_3 : runF E n0 g c61_3 s h = seqK E n0 g c61_2 (runF E n0 g c61_0 s h) := k_seq
@[simp] theorem qq61 : runF E n0 g c61 s h = runF E n0 g c61_3 s h := rfl
@[simp] theorem q62_0 : runF E n0 g c62_0 s h = regK (some [0]) (runO E n0 g h.length o62_0 s h) := k_reg0
@[simp] theorem q62_1 : runF E n0 g c62_1 s h = regK (some [2]) (runO E n0 g h.length o62_1 s h) := k_reg0
@[simp] theorem q62_2 : runF E n0 g c62_2 s h = seqK E n0 g .ret (runF E n0 g c62_1 s h) := k_seq
@[simp] theorem q62_3 : runF E n0 g c62_3 s h = seqK E n0 g c62_2 (runF E n0 g c62_0 s h) := k_seq
@[simp] theorem qq62 : runF E n0 g c62 s h = runF E n0 g c62_3 s h := rfl
@[simp] theorem q63_0 : runF E n0 g c63_0 s h = regK (some [0, 1]) (runO E n0 g h.length o63_0 s h) := k_reg0
@[simp] theorem q63_1 : runF E n0 g c63_1 s h = regK (some [0, 1, 6]) (runO E n0 g h.length o63_1 s h) := k_reg0
@[simp] theorem q63_2 : runF E n0 g c63_2 s h = regK (some [0, 1, 6, 7]) (runO E n0 g h.length o63_2 s h) := k_reg0
@[simp] theorem q63_3 : runF E n0 g c63_3 s h = regK (some [0, 1, 6, 7, 11]) (runO E n0 g h.length o63_3 s h) := k_reg0
@[simp] theorem q63_4 : runF E n0 g c63_4 s h = condK E n0 g .skip (.exit 0) s h (get s 11) := k_cond
@[simp] theorem q63_5 : runF E n0 g c63_5 s h = seqK E n0 g c63_4 (runF E n0 g c63_3 s h) := k_seq
@[simp] theorem q63_6 : runF E n0 g c63_6 s h = regK (some [0, 1, 6, 7, 36]) (runO E n0 g h.length o63_6 s h) := k_reg0
@[simp] theorem q63_7 : runF E n0 g c63_7 s h = regK (some [4, 5]) (runO E n0 g h.length o63_7 s h) := k_reg0
@[simp] theorem q63_8 : runF E n0 g c63_8 s h = seqK E n0 g .ret (runF E n0 g c63_7 s h) := k_seq
@[simp] theorem q63_9 : runF E n0 g c63_9 s h = condK E n0 g c63_8 .skip s h (get s 36) := k_cond
@[simp] theorem q63_10 : runF E n0 g c63_10 s h = seqK E n0 g c63_9 (runF E n0 g c63_6 s h) := k_seq
@[simp] theorem q63_11 : runF E n0 g c63_11 s h = regK (some [0, 1, 6, 7]) (runO E n0 g h.length o63_11 s h) := k_reg0
@[simp] theorem q63_12 : runF E n0 g c63_12 s h = seqK E n0 g c63_11 (runF E n0 g c63_10 s h) := k_seq
@[simp] theorem q63_13 : runF E n0 g c63_13 s h = blkK (some [0, 1, 6, 7]) 1 (runF E n0 g c63_12 s h) := k_block
@[simp] theorem q63_14 : runF E n0 g c63_14 s h = regK (some [0, 1, 6, 7]) (runO E n0 g h.length o63_14 s h) := k_reg0
@[simp] theorem q63_15 : runF E n0 g c63_15 s h = seqK E n0 g c63_14 (runF E n0 g c63_13 s h) := k_seq
@[simp] theorem q63_16 : runF E n0 g c63_16 s h = seqK E n0 g c63_15 (runF E n0 g c63_5 s h) := k_seq
theorem q63_17 : runF E n0 g c63_17 s h = loopK E n0 g (some [0, 1, 6, 7]) c63_16 (runF E n0 g c63_16 (clearO (some [0, 1, 6, 7]) s) h) := k_loop
@[simp] theorem q63_17L : runF E n0 g (.loop (some [0, 1, 6, 7]) c63_16) s h = runF E n0 g c63_17 s h := rfl
@[simp] theorem q63_18 : runF E n0 g c63_18 s h = blkK (some [0, 1, 6]) 0 (runF E n0 g c63_17 s h) := k_block
@[simp] theorem q63_19 : runF E n0 g c63_19 s h = seqK E n0 g c63_18 (runF E n0 g c63_2 s h) := k_seq
@[simp] theorem q63_20 : runF E n0 g c63_20 s h = regK (some [6, 51]) (runO E n0 g h.length o63_20 s h) := k_reg0
@[simp] theorem q63_21 : runF E n0 g c63_21 s h = regK (some [4, 5]) (runO E n0 g h.length o63_21 s h) := k_reg0
@[simp] theorem q63_22 : runF E n0 g c63_22 s h = seqK E n0 g .ret (runF E n0 g c63_21 s h) := k_seq
@[simp] theorem q63_23 : runF E n0 g c63_23 s h = condK E n0 g c63_22 .skip s h (get s 51) := k_cond
@[simp] theorem q63_24 : runF E n0 g c63_24 s h = seqK E n0 g c63_23 (runF E n0 g c63_20 s h) := k_seq
@[simp] theorem q63_25 : runF E n0 g c63_25 s h = regK (some [4, 5]) (runO E n0 g h.length o63_25 s h) := k_reg0
@[simp] theorem q63_26 : runF E n0 g c63_26 s h = seqK E n0 g .ret (runF E n0 g c63_25 s h) := k_seq
@[simp] theorem q63_27 : runF E n0 g c63_27 s h = seqK E n0 g c63_26 (runF E n0 g c63_24 s h) := k_seq
@[simp] theorem q63_28 : runF E n0 g c63_28 s h = seqK E n0 g c63_27 (runF E n0 g c63_19 s h) := k_seq
@[simp] theorem q63_29 : runF E n0 g c63_29 s h = seqK E n0 g c63_28 (runF E n0 g c63_1 s h) := k_seq
@[simp] theorem q63_30 : runF E n0 g c63_30 s h = seqK E n0 g c63_29 (runF E n0 g c63_0 s h) := k_seq
@[simp] theorem qq63 : runF E n0 g c63 s h = runF E n0 g c63_30 s h := rfl
@[simp] theorem q64_0 : runF E n0 g c64_0 s h = regK (some [0]) (runO E n0 g h.length o64_0 s h) := k_reg0
@[simp] theorem q64_1 : runF E n0 g c64_1 s h = regK (some [0, 3]) (runO E n0 g h.length o64_1 s h) := k_reg0
@[simp] theorem q64_2 : runF E n0 g c64_2 s h = regK (some [0, 3, 4]) (runO E n0 g h.length o64_2 s h) := k_reg0
@[simp] theorem q64_3 : runF E n0 g c64_3 s h = regK (some [0, 3, 4, 11]) (runO E n0 g h.length o64_3 s h) := k_reg0
@[simp] theorem q64_4 : runF E n0 g c64_4 s h = condK E n0 g .skip (.exit 0) s h (get s 11) := k_cond
@[simp] theorem q64_5 : runF E n0 g c64_5 s h = seqK E n0 g c64_4 (runF E n0 g c64_3 s h) := k_seq
@[simp] theorem q64_6 : runF E n0 g c64_6 s h = regK (some [0, 3, 4, 35]) (runO E n0 g h.length o64_6 s h) := by rw [show c64_6 = .reg (some [0, 3, 4, 35]) [] o64_6 (some []) from rfl, k_regd0, List.append_nil]
@[simp] theorem q64_7 : runF E n0 g c64_7 s h = regK (some [2]) (runO E n0 g h.length o64_7 s h) := k_reg0
@[simp] theorem q64_8 : runF E n0 g c64_8 s h = seqK E n0 g .ret (runF E n0 g c64_7 s h) := k_seq
@[simp] theorem q64_9 : runF E n0 g c64_9 s h = condK E n0 g c64_8 .skip s h (get s 35) := k_cond
@[simp] theorem q64_10 : runF E n0 g c64_10 s h = seqK E n0 g c64_9 (runF E n0 g c64_6 s h) := k_seq
@[simp] theorem q64_11 : runF E n0 g c64_11 s h = blkK (some [0, 3, 4]) 1 (runF E n0 g c64_10 s h) := k_block
@[simp] theorem q64_12 : runF E n0 g c64_12 s h = regK (some [0, 3, 4]) (runO E n0 g h.length o64_12 s h) := k_reg0
@[simp] theorem q64_13 : runF E n0 g c64_13 s h = seqK E n0 g c64_12 (runF E n0 g c64_11 s h) := k_seq
@[simp] theorem q64_14 : runF E n0 g c64_14 s h = seqK E n0 g c64_13 (runF E n0 g c64_5 s h) := k_seq
theorem q64_15 : runF E n0 g c64_15 s h = loopK E n0 g (some [0, 3, 4]) c64_14 (runF E n0 g c64_14 (clearO (some [0, 3, 4]) s) h) := k_loop
@[simp] theorem q64_15L : runF E n0 g (.loop (some [0, 3, 4]) c64_14) s h = runF E n0 g c64_15 s h := rfl
@[simp] theorem q64_16 : runF E n0 g c64_16 s h = blkK (some [0]) 0 (runF E n0 g c64_15 s h) := k_block
@[simp] theorem q64_17 : runF E n0 g c64_17 s h = seqK E n0 g c64_16 (runF E n0 g c64_2 s h) := k_seq
@[simp] theorem q64_18 : runF E n0 g c64_18 s h = regK (some [0, 5]) (runO E n0 g h.length o64_18 s h) := k_reg0
@[simp] theorem q64_19 : runF E n0 g c64_19 s h = regK (some [0, 5, 6]) (runO E n0 g h.length o64_19 s h) := k_reg0
@[simp] theorem q64_20 : runF E n0 g c64_20 s h = regK (some [0, 5, 6, 43]) (runO E n0 g h.length o64_20 s h) := k_reg0
@[simp] theorem q64_21 : runF E n0 g c64_21 s h = condK E n0 g .skip (.exit 2) s h (get s 43) := k_cond
@[simp] theorem q64_22 : runF E n0 g c64_22 s h = seqK E n0 g c64_21 (runF E n0 g c64_20 s h) := k_seq
@[simp] theorem q64_23 : runF E n0 g c64_23 s h = regK (some [0, 5, 6, 51]) (runO E n0 g h.length o64_23 s h) := by rw [show c64_23 = .reg (some [0, 5, 6, 51]) [] o64_23 (some []) from rfl, k_regd0, List.append_nil]
@[simp] theorem q64_24 : runF E n0 g c64_24 s h = regK (some [2]) (runO E n0 g h.length o64_24 s h) := k_reg0
@[simp] theorem q64_25 : runF E n0 g c64_25 s h = seqK E n0 g .ret (runF E n0 g c64_24 s h) := k_seq
@[simp] theorem q64_26 : runF E n0 g c64_26 s h = condK E n0 g c64_25 .skip s h (get s 51) := k_cond
@[simp] theorem q64_27 : runF E n0 g c64_27 s h = seqK E n0 g c64_26 (runF E n0 g c64_23 s h) := k_seq
@[simp] theorem q64_28 : runF E n0 g c64_28 s h = blkK (some [0, 5, 6]) 3 (runF E n0 g c64_27 s h) := k_block
@[simp] theorem q64_29 : runF E n0 g c64_29 s h = regK (some [0, 5, 6]) (runO E n0 g h.length o64_29 s h) := k_reg0
@[simp] theorem q64_30 : runF E n0 g c64_30 s h = seqK E n0 g c64_29 (runF E n0 g c64_28 s h) := k_seq
@[simp] theorem q64_31 : runF E n0 g c64_31 s h = seqK E n0 g c64_30 (runF E n0 g c64_22 s h) := k_seq
theorem q64_32 : runF E n0 g c64_32 s h = loopK E n0 g (some [0, 5, 6]) c64_31 (runF E n0 g c64_31 (clearO (some [0, 5, 6]) s) h) := k_loop
@[simp] theorem q64_32L : runF E n0 g (.loop (some [0, 5, 6]) c64_31) s h = runF E n0 g c64_32 s h := rfl
@[simp] theorem q64_33 : runF E n0 g c64_33 s h = blkK (some []) 2 (runF E n0 g c64_32 s h) := k_block
@[simp] theorem q64_34 : runF E n0 g c64_34 s h = seqK E n0 g c64_33 (runF E n0 g c64_19 s h) := k_seq
@[simp] theorem q64_35 : runF E n0 g c64_35 s h = regK (some [2]) (runO E n0 g h.length o64_35 s h) := k_reg0
@[simp] theorem q64_36 : runF E n0 g c64_36 s h = seqK E n0 g .ret (runF E n0 g c64_35 s h) := k_seq
@[simp] theorem q64_37 : runF E n0 g c64_37 s h = seqK E n0 g c64_36 (runF E n0 g c64_34 s h) := k_seq
@[simp] theorem q64_38 : runF E n0 g c64_38 s h = seqK E n0 g c64_37 (runF E n0 g c64_18 s h) := k_seq
@[simp] theorem q64_39 : runF E n0 g c64_39 s h = seqK E n0 g c64_38 (runF E n0 g c64_17 s h) := k_seq
@[simp] theorem q64_40 : runF E n0 g c64_40 s h = seqK E n0 g c64_39 (runF E n0 g c64_1 s h) := k_seq
@[simp] theorem q64_41 : runF E n0 g c64_41 s h = seqK E n0 g c64_40 (runF E n0 g c64_0 s h) := k_seq
@[simp] theorem qq64 : runF E n0 g c64 s h = runF E n0 g c64_41 s h := rfl
@[simp] theorem q65_0 : runF E n0 g c65_0 s h = regK (some [0, 1]) (runO E n0 g h.length o65_0 s h) := k_reg0
@[simp] theorem q65_1 : runF E n0 g c65_1 s h = regK (some [4]) (runO E n0 g h.length o65_1 s h) := by rw [show c65_1 = .reg (some [4]) [] o65_1 (some []) from rfl, k_regd0, List.append_nil]
@[simp] theorem q65_2 : runF E n0 g c65_2 s h = seqK E n0 g .ret (runF E n0 g c65_1 s h) := k_seq
@[simp] theorem q65_3 : runF E n0 g c65_3 s h = seqK E n0 g c65_2 (runF E n0 g c65_0 s h) := k_seq
@[simp] theorem qq65 : runF E n0 g c65 s h = runF E n0 g c65_3 s h := rfl
@[simp] theorem q66_0 : runF E n0 g c66_0 s h = regK (some [0, 7]) (runO E n0 g h.length o66_0 s h) := k_reg0
@[simp] theorem q66_1 : runF E n0 g c66_1 s h = regK (some []) (runO E n0 g h.length o66_1 s h) := k_reg0
@[simp] theorem q66_2 : runF E n0 g c66_2 s h = condK E n0 g c66_1 .skip s h (get s 7) := k_cond
@[simp] theorem q66_3 : runF E n0 g c66_3 s h = seqK E n0 g c66_2 (runF E n0 g c66_0 s h) := k_seq
@[simp] theorem qq66 : runF E n0 g c66 s h = runF E n0 g c66_3 s h := rfl
@[simp] theorem q67_0 : runF E n0 g c67_0 s h = regK (some [0, 2]) (runO E n0 g h.length o67_0 s (h ++ [(.cells [(.int .i64 0), (.str []), (.str []), (.int .i64 0), (.int .i64 0), (.int .i64 0), (.str []), (.int .i64 0), (.sl .full []), (.int .i64 0), (.int .i64 0), (.str []), (.int .i64 0), (.sl .full []), (.sl .full []), (.sl .full []), (.sl .full [])])])) := k_reg
@[simp] theorem q67_1 : runF E n0 g c67_1 s h = regK (some [0, 2, 3]) (runO E n0 g h.length o67_1 s (h ++ [(.cells [(.int .i64 0), (.str []), (.str []), (.int .i64 0), (.int .i64 0), (.int .i64 0), (.str []), (.int .i64 0), (.sl .full []), (.int .i64 0), (.int .i64 0), (.str []), (.int .i64 0), (.sl .full []), (.sl .full []), (.sl .full []), (.sl .full [])])])) := k_reg
@[simp] theorem q67_2 : runF E n0 g c67_2 s h = regK (some [0, 2, 3, 6]) (runO E n0 g h.length o67_2 s h) := k_reg0
@[simp] theorem q67_3 : runF E n0 g c67_3 s h = regK (some [0, 2, 3]) (runO E n0 g h.length o67_3 s h) := k_reg0
@[simp] theorem q67_4 : runF E n0 g c67_4 s h = regK (some [0, 2, 3]) (runO E n0 g h.length o67_4 s h) := k_reg0
@[simp] theorem q67_5 : runF E n0 g c67_5 s h = regK (some [0, 2, 3]) (runO E n0 g h.length o67_5 s h) := k_reg0
@[simp] theorem q67_6 : runF E n0 g c67_6 s h = regK (some [0, 2, 3]) (runO E n0 g h.length o67_6 s h) := k_reg0
@[simp] theorem q67_7 : runF E n0 g c67_7 s h = regK (some [0, 2, 3]) (runO E n0 g h.length o67_7 s h) := k_reg0
@[simp] theorem q67_8 : runF E n0 g c67_8 s h = regK (some [0, 2, 3]) (runO E n0 g h.length o67_8 s h) := k_reg0
@[simp] theorem q67_9 : runF E n0 g c67_9 s h = regK (some [0, 2, 3, 28]) (runO E n0 g h.length o67_9 s h) := k_reg0
@[simp] theorem q67_10 : runF E n0 g c67_10 s h = regK (some [0, 2, 3]) (runO E n0 g h.length o67_10 s h) := k_reg0
@[simp] theorem q67_11 : runF E n0 g c67_11 s h = regK (some [2, 3]) (runO E n0 g h.length o67_11 s h) := k_reg0
@[simp] theorem q67_12 : runF E n0 g c67_12 s h = seqK E n0 g c67_11 (runF E n0 g c67_10 s h) := k_seq
@[simp] theorem q67_13 : runF E n0 g c67_13 s h = condK E n0 g c67_12 .skip s h (get s 28) := k_cond
@[simp] theorem q67_14 : runF E n0 g c67_14 s h = seqK E n0 g c67_13 (runF E n0 g c67_9 s h) := k_seq
@[simp] theorem q67_15 : runF E n0 g c67_15 s h = regK (some [2]) (runO E n0 g h.length o67_15 s h) := k_reg0
@[simp] theorem q67_16 : runF E n0 g c67_16 s h = seqK E n0 g .ret (runF E n0 g c67_15 s h) := k_seq
@[simp] theorem q67_17 : runF E n0 g c67_17 s h = seqK E n0 g c67_16 (runF E n0 g c67_14 s h) := k_seq
@[simp] theorem q67_18 : runF E n0 g c67_18 s h = seqK E n0 g c67_17 (runF E n0 g c67_8 s h) := k_seq
@[simp] theorem q67_19 : runF E n0 g c67_19 s h = seqK E n0 g c67_18 (runF E n0 g c67_7 s h) := k_seq
@[simp] theorem q67_20 : runF E n0 g c67_20 s h = seqK E n0 g c67_19 (runF E n0 g c67_6 s h) := k_seq
@[simp] theorem q67_21 : runF E n0 g c67_21 s h = seqK E n0 g c67_20 (runF E n0 g c67_5 s h) := k_seq
@[simp] theorem q67_22 : runF E n0 g c67_22 s h = seqK E n0 g c67_21 (runF E n0 g c67_4 s h) := k_seq
@[simp] theorem q67_23 : runF E n0 g c67_23 s h = seqK E n0 g c67_22 (runF E n0 g c67_3 s h) := k_seq
@[simp] theorem q67_24 : runF E n0 g c67_24 s h = regK (some [0, 2, 3, 40]) (runO E n0 g h.length o67_24 s h) := k_reg0
@[simp] theorem q67_25 : runF E n0 g c67_25 s h = regK (some [0, 2, 3]) (runO E n0 g h.length o67_25 s h) := k_reg0
@[simp] theorem q67_26 : runF E n0 g c67_26 s h = regK (some [0, 2, 3]) (runO E n0 g h.length o67_26 s h) := k_reg0
@[simp] theorem q67_27 : runF E n0 g c67_27 s h = regK (some [0, 2, 3]) (runO E n0 g h.length o67_27 s h) := k_reg0
@[simp] theorem q67_28 : runF E n0 g c67_28 s h = regK (some [0, 2, 3]) (runO E n0 g h.length o67_28 s h) := k_reg0
@[simp] theorem q67_29 : runF E n0 g c67_29 s h = regK (some [0, 2, 3]) (runO E n0 g h.length o67_29 s h) := k_reg0
@[simp] theorem q67_30 : runF E n0 g c67_30 s h = regK (some [2, 3]) (runO E n0 g h.length o67_30 s h) := k_reg0
@[simp] theorem q67_31 : runF E n0 g c67_31 s h = regK (some [2]) (runO E n0 g h.length o67_31 s h) := k_reg0
@[simp] theorem q67_32 : runF E n0 g c67_32 s h = seqK E n0 g .ret (runF E n0 g c67_31 s h) := k_seq
@[simp] theorem q67_33 : runF E n0 g c67_33 s h = seqK E n0 g c67_32 (runF E n0 g c67_30 s h) := k_seq
@[simp] theorem q67_34 : runF E n0 g c67_34 s h = seqK E n0 g c67_33 (runF E n0 g c67_29 s h) := k_seq
@[simp] theorem q67_35 : runF E n0 g c67_35 s h = seqK E n0 g c67_34 (runF E n0 g c67_28 s h) := k_seq
@[simp] theorem q67_36 : runF E n0 g c67_36 s h = seqK E n0 g c67_35 (runF E n0 g c67_27 s h) := k_seq
@[simp] theorem q67_37 : runF E n0 g c67_37 s h = seqK E n0 g c67_36 (runF E n0 g c67_26 s h) := k_seq
@[simp] theorem q67_38 : runF E n0 g c67_38 s h = seqK E n0 g c67_37 (runF E n0 g c67_25 s h) := k_seq
@[simp] theorem q67_39 : runF E n0 g c67_39 s h = regK (some [0, 2, 3, 62]) (runO E n0 g h.length o67_39 s h) := k_reg0
@[simp] theorem q67_40 : runF E n0 g c67_40 s h = regK (some [0, 2, 3]) (runO E n0 g h.length o67_40 s h) := k_reg0
@[simp] theorem q67_41 : runF E n0 g c67_41 s h = regK (some [0, 2, 3]) (runO E n0 g h.length o67_41 s h) := k_reg0
@[simp] theorem q67_42 : runF E n0 g c67_42 s h = regK (some [0, 2, 3]) (runO E n0 g h.length o67_42 s h) := k_reg0
@[simp] theorem q67_43 : runF E n0 g c67_43 s h = seqK E n0 g c67_42 (runF E n0 g c67_41 s h) := k_seq
@[simp] theorem q67_44 : runF E n0 g c67_44 s h = seqK E n0 g c67_43 (runF E n0 g c67_40 s h) := k_seq
@[simp] theorem q67_45 : runF E n0 g c67_45 s h = regK (some [0, 2, 3, 76]) (runO E n0 g h.length o67_45 s h) := k_reg0
@[simp] theorem q67_46 : runF E n0 g c67_46 s h = regK (some [0, 2, 3]) (runO E n0 g h.length o67_46 s h) := k_reg0
@[simp] theorem q67_47 : runF E n0 g c67_47 s h = regK (some [0, 2, 3]) (runO E n0 g h.length o67_47 s h) := k_reg0
@[simp] theorem q67_48 : runF E n0 g c67_48 s h = regK (some [0, 2, 3]) (runO E n0 g h.length o67_48 s h) := k_reg0
@[simp] theorem q67_49 : runF E n0 g c67_49 s h = seqK E n0 g c67_48 (runF E n0 g c67_47 s h) := k_seq
@[simp] theorem q67_50 : runF E n0 g c67_50 s h = seqK E n0 g c67_49 (runF E n0 g c67_46 s h) := k_seq
@[simp] theorem q67_51 : runF E n0 g c67_51 s h = regK (some [0, 2, 3]) (runO E n0 g h.length o67_51 s h) := k_reg0
@[simp] theorem q67_52 : runF E n0 g c67_52 s h = condK E n0 g c67_50 c67_51 s h (get s 76) := k_cond
@[simp] theorem q67_53 : runF E n0 g c67_53 s h = seqK E n0 g c67_52 (runF E n0 g c67_45 s h) := k_seq
@[simp] theorem q67_54 : runF E n0 g c67_54 s h = condK E n0 g c67_44 c67_53 s h (get s 62) := k_cond
@[simp] theorem q67_55 : runF E n0 g c67_55 s h = seqK E n0 g c67_54 (runF E n0 g c67_39 s h) := k_seq
@[simp] theorem q67_56 : runF E n0 g c67_56 s h = condK E n0 g c67_38 c67_55 s h (get s 40) := k_cond
@[simp] theorem q67_57 : runF E n0 g c67_57 s h = seqK E n0 g c67_56 (runF E n0 g c67_24 s h) := k_seq
@[simp] theorem q67_58 : runF E n0 g c67_58 s h = condK E n0 g c67_23 c67_57 s h (get s 6) := k_cond
@[simp] theorem q67_59 : runF E n0 g c67_59 s h = seqK E n0 g c67_58 (runF E n0 g c67_2 s h) := k_seq
@[simp] theorem q67_60 : runF E n0 g c67_60 s h = blkK (some [0, 2, 3]) 0 (runF E n0 g c67_59 s h) := k_block
@[simp] theorem q67_61 : runF E n0 g c67_61 s h = regK (some [2, 3]) (runO E n0 g h.length o67_61 s h) := k_reg0
@[simp] theorem q67_62 : runF E n0 g c67_62 s h = regK (some [2]) (runO E n0 g h.length o67_62 s h) := k_reg0
@[simp] theorem q67_63 : runF E n0 g c67_63 s h = seqK E n0 g .ret (runF E n0 g c67_62 s h) := k_seq
@[simp] theorem q67_64 : runF E n0 g c67_64 s h = seqK E n0 g c67_63 (runF E n0 g c67_61 s h) := k_seq
@[simp] theorem q67_65 : runF E n0 g c67_65 s h = seqK E n0 g c67_64 (runF E n0 g c67_60 s h) := k_seq
@[simp] theorem q67_66 : runF E n0 g c67_66 s h = seqK E n0 g c67_65 (runF E n0 g c67_1 s h) := k_seq
@[simp] theorem q67_67 : runF E n0 g c67_67 s h = seqK E n0 g c67_66 (runF E n0 g c67_0 s h) := k_seq
@[simp] theorem qq67 : runF E n0 g c67 s h = runF E n0 g c67_67 s h := rfl
@[simp] theorem q68_0 : runF E n0 g c68_0 s h = regK (some [0, 2]) (runO E n0 g h.length o68_0 s (h ++ [(.cells [(.int .i64 0), (.int .i64 0), (.str []), (.int .i64 0), (.sl .full [])])])) := k_reg
@[simp] theorem q68_1 : runF E n0 g c68_1 s h = regK (some [0, 2, 3]) (runO E n0 g h.length o68_1 s (h ++ [(.cells [(.int .i64 0), (.int .i64 0), (.str []), (.int .i64 0), (.sl .full [])])])) := k_reg
@[simp] theorem q68_2 : runF E n0 g c68_2 s h = regK (some [0, 2, 3, 10]) (runO E n0 g h.length o68_2 s h) := k_reg0
@[simp] theorem q68_3 : runF E n0 g c68_3 s h = regK (some [2]) (runO E n0 g h.length o68_3 s h) := k_reg0
@[simp] theorem q68_4 : runF E n0 g c68_4 s h = seqK E n0 g .ret (runF E n0 g c68_3 s h) := k_seq
@[simp] theorem q68_5 : runF E n0 g c68_5 s h = condK E n0 g c68_4 .skip s h (get s 10) := k_cond
@[simp] theorem q68_6 : runF E n0 g c68_6 s h = seqK E n0 g c68_5 (runF E n0 g c68_2 s h) := k_seq
@[simp] theorem q68_7 : runF E n0 g c68_7 s h = regK (some [0, 2, 3]) (runO E n0 g h.length o68_7 s h) := k_reg0
@[simp] theorem q68_8 : runF E n0 g c68_8 s h = regK (some [0, 2, 3, 4]) (runO E n0 g h.length o68_8 s (h ++ [(.cells [(.int .i64 0), (.int .i64 0), (.str []), (.int .i64 0), (.sl .full [])])])) := k_reg
@[simp] theorem q68_9 : runF E n0 g c68_9 s h = regK (some [0, 2, 3, 4]) (runO E n0 g h.length o68_9 s h) := k_reg0
@[simp] theorem q68_10 : runF E n0 g c68_10 s h = regK (some [2, 3, 4, 5]) (runO E n0 g h.length o68_10 s (h ++ [(.cells [(.int .i64 0), (.int .i64 0), (.str []), (.int .i64 0), (.sl .full [])])])) := k_reg
@[simp] theorem q68_11 : runF E n0 g c68_11 s h = regK (some [2]) (runO E n0 g h.length o68_11 s h) := k_reg0
@[simp] theorem q68_12 : runF E n0 g c68_12 s h = seqK E n0 g .ret (runF E n0 g c68_11 s h) := k_seq
@[simp] theorem q68_13 : runF E n0 g c68_13 s h = seqK E n0 g c68_12 (runF E n0 g c68_10 s h) := k_seq
@[simp] theorem q68_14 : runF E n0 g c68_14 s h = seqK E n0 g c68_13 (runF E n0 g c68_9 s h) := k_seq
@[simp] theorem q68_15 : runF E n0 g c68_15 s h = seqK E n0 g c68_14 (runF E n0 g c68_8 s h) := k_seq
@[simp] theorem q68_16 : runF E n0 g c68_16 s h = seqK E n0 g c68_15 (runF E n0 g c68_7 s h) := k_seq
@[simp] theorem q68_17 : runF E n0 g c68_17 s h = seqK E n0 g c68_16 (runF E n0 g c68_6 s h) := k_seq
@[simp] theorem q68_18 : runF E n0 g c68_18 s h = seqK E n0 g c68_17 (runF E n0 g c68_1 s h) := k_seq
@[simp] theorem q68_19 : runF E n0 g c68_19 s h = seqK E n0 g c68_18 (runF E n0 g c68_0 s h) := k_seq
@[simp] theorem qq68 : runF E n0 g c68 s h = runF E n0 g c68_19 s h := rfl
@[simp] theorem q103_0 : runF E n0 g c103_0 s h = regK (some [0]) (runO E n0 g h.length o103_0 s h) := k_reg0
@[simp] theorem q103_1 : runF E n0 g c103_1 s h = regK (some [0, 3]) (runO E n0 g h.length o103_1 s h) := k_reg0
@[simp] theorem q103_2 : runF E n0 g c103_2 s h = regK (some [0, 3, 4]) (runO E n0 g h.length o103_2 s h) := k_reg0
@[simp] theorem q103_3 : runF E n0 g c103_3 s h = regK (some [0, 3, 4, 9]) (runO E n0 g h.length o103_3 s h) := k_reg0
@[simp] theorem q103_4 : runF E n0 g c103_4 s h = condK E n0 g .skip (.exit 0) s h (get s 9) := k_cond
@[simp] theorem q103_5 : runF E n0 g c103_5 s h = seqK E n0 g c103_4 (runF E n0 g c103_3 s h) := k_seq
@[simp] theorem q103_6 : runF E n0 g c103_6 s h = regK (some [0, 3, 4, 17]) (runO E n0 g h.length o103_6 s h) := k_reg0
@[simp] theorem q103_7 : runF E n0 g c103_7 s h = regK (some [2]) (runO E n0 g h.length o103_7 s h) := k_reg0
@[simp] theorem q103_8 : runF E n0 g c103_8 s h = seqK E n0 g .ret (runF E n0 g c103_7 s h) := k_seq
@[simp] theorem q103_9 : runF E n0 g c103_9 s h = condK E n0 g c103_8 .skip s h (get s 17) := k_cond
@[simp] theorem q103_10 : runF E n0 g c103_10 s h = seqK E n0 g c103_9 (runF E n0 g c103_6 s h) := k_seq
@[simp] theorem q103_11 : runF E n0 g c103_11 s h = blkK (some [0, 3, 4]) 1 (runF E n0 g c103_10 s h) := k_block
@[simp] theorem q103_12 : runF E n0 g c103_12 s h = regK (some [0, 3, 4]) (runO E n0 g h.length o103_12 s h) := k_reg0
@[simp] theorem q103_13 : runF E n0 g c103_13 s h = seqK E n0 g c103_12 (runF E n0 g c103_11 s h) := k_seq
@[simp] theorem q103_14 : runF E n0 g c103_14 s h = seqK E n0 g c103_13 (runF E n0 g c103_5 s h) := k_seq
theorem q103_15 : runF E n0 g c103_15 s h = loopK E n0 g (some [0, 3, 4]) c103_14 (runF E n0 g c103_14 (clearO (some [0, 3, 4]) s) h) := k_loop
@[simp] theorem q103_15L : runF E n0 g (.loop (some [0, 3, 4]) c103_14) s h = runF E n0 g c103_15 s h := rfl
@[simp] theorem q103_16 : runF E n0 g c103_16 s h = blkK (some []) 0 (runF E n0 g c103_15 s h) := k_block
@[simp] theorem q103_17 : runF E n0 g c103_17 s h = seqK E n0 g c103_16 (runF E n0 g c103_2 s h) := k_seq
@[simp] theorem q103_18 : runF E n0 g c103_18 s h = regK (some [2]) (runO E n0 g h.length o103_18 s h) := k_reg0
@[simp] theorem q103_19 : runF E n0 g c103_19 s h = seqK E n0 g .ret (runF E n0 g c103_18 s h) := k_seq
@[simp] theorem q103_20 : runF E n0 g c103_20 s h = seqK E n0 g c103_19 (runF E n0 g c103_17 s h) := k_seq
@[simp] theorem q103_21 : runF E n0 g c103_21 s h = seqK E n0 g c103_20 (runF E n0 g c103_1 s h) := k_seq
@[simp] theorem q103_22 : runF E n0 g c103_22 s h = seqK E n0 g c103_21 (runF E n0 g c103_0 s h) := k_seq
@[simp] theorem qq103 : runF E n0 g c103 s h = runF E n0 g c103_22 s h := rfl
@[simp] theorem q104_0 : runF E n0 g c104_0 s h = regK (some [0]) (runO E n0 g h.length o104_0 s h) := k_reg0
@[simp] theorem q104_1 : runF E n0 g c104_1 s h = regK (some [0, 12]) (runO E n0 g h.length o104_1 s h) := by rw [show c104_1 = .reg (some [0, 12]) [] o104_1 (some []) from rfl, k_regd0, List.append_nil]
@[simp] theorem q104_2 : runF E n0 g c104_2 s h = regK (some [2]) (runO E n0 g h.length o104_2 s h) := by rw [show c104_2 = .reg (some [2]) [] o104_2 (some []) from rfl, k_regd0, List.append_nil]
@[simp] theorem q104_3 : runF E n0 g c104_3 s h = seqK E n0 g .ret (runF E n0 g c104_2 s h) := k_seq
@[simp] theorem q104_4 : runF E n0 g c104_4 s h = condK E n0 g c104_3 .skip s h (get s 12) := k_cond
@[simp] theorem q104_5 : runF E n0 g c104_5 s h = seqK E n0 g c104_4 (runF E n0 g c104_1 s h) := k_seq
@[simp] theorem q104_6 : runF E n0 g c104_6 s h = regK (some [2]) (runO E n0 g h.length o104_6 s h) := k_reg0
@[simp] theorem q104_7 : runF E n0 g c104_7 s h = seqK E n0 g .ret (runF E n0 g c104_6 s h) := k_seq
@[simp] theorem q104_8 : runF E n0 g c104_8 s h = seqK E n0 g c104_7 (runF E n0 g c104_5 s h) := k_seq
@[simp] theorem q104_9 : runF E n0 g c104_9 s h = seqK E n0 g c104_8 (runF E n0 g c104_0 s h) := k_seq
@[simp] theorem qq104 : runF E n0 g c104 s h = runF E n0 g c104_9 s h := rfl
@[simp] theorem q105_0 : runF E n0 g c105_0 s h = regK (some [0]) (runO E n0 g h.length o105_0 s h) := k_reg0
@[simp] theorem q105_1 : runF E n0 g c105_1 s h = regK (some [0, 3]) (runO E n0 g h.length o105_1 s h) := k_reg0
@[simp] theorem q105_2 : runF E n0 g c105_2 s h = regK (some [0, 3]) (runO E n0 g h.length o105_2 s h) := k_reg0
@[simp] theorem q105_3 : runF E n0 g c105_3 s h = regK (some [0, 3, 12]) (runO E n0 g h.length o105_3 s h) := k_reg0
@[simp] theorem q105_4 : runF E n0 g c105_4 s h = condK E n0 g .skip (.exit 0) s h (get s 12) := k_cond
@[simp] theorem q105_5 : runF E n0 g c105_5 s h = seqK E n0 g c105_4 (runF E n0 g c105_3 s h) := k_seq
@[simp] theorem q105_6 : runF E n0 g c105_6 s h = regK (some [0, 3]) (runO E n0 g h.length o105_6 s (h ++ [.dead])) := k_reg
@[simp] theorem q105_7 : runF E n0 g c105_7 s h = blkK (some [0, 3]) 1 (runF E n0 g c105_6 s h) := k_block
@[simp] theorem q105_8 : runF E n0 g c105_8 s h = seqK E n0 g c105_7 (runF E n0 g c105_5 s h) := k_seq
theorem q105_9 : runF E n0 g c105_9 s h = loopK E n0 g (some [0, 3]) c105_8 (runF E n0 g c105_8 (clearO (some [0, 3]) s) h) := k_loop
@[simp] theorem q105_9L : runF E n0 g (.loop (some [0, 3]) c105_8) s h = runF E n0 g c105_9 s h := rfl
@[simp] theorem q105_10 : runF E n0 g c105_10 s h = blkK (some [0, 3]) 0 (runF E n0 g c105_9 s h) := k_block
@[simp] theorem q105_11 : runF E n0 g c105_11 s h = regK (some [3]) (runO E n0 g h.length o105_11 s h) := k_reg0
@[simp] theorem q105_12 : runF E n0 g c105_12 s h = regK (some [2]) (runO E n0 g h.length o105_12 s h) := k_reg0
@[simp] theorem q105_13 : runF E n0 g c105_13 s h = seqK E n0 g .ret (runF E n0 g c105_12 s h) := k_seq
@[simp] theorem q105_14 : runF E n0 g c105_14 s h = seqK E n0 g c105_13 (runF E n0 g c105_11 s h) := k_seq
@[simp] theorem q105_15 : runF E n0 g c105_15 s h = seqK E n0 g c105_14 (runF E n0 g c105_10 s h) := k_seq
@[simp] theorem q105_16 : runF E n0 g c105_16 s h = seqK E n0 g c105_15 (runF E n0 g c105_2 s h) := k_seq
@[simp] theorem q105_17 : runF E n0 g c105_17 s h = seqK E n0 g c105_16 (runF E n0 g c105_1 s h) := k_seq
@[simp] theorem q105_18 : runF E n0 g c105_18 s h = seqK E n0 g c105_17 (runF E n0 g c105_0 s h) := k_seq
@[simp] theorem qq105 : runF E n0 g c105 s h = runF E n0 g c105_18 s h := rfl
@[simp] theorem q106_0 : runF E n0 g c106_0 s h = regK (some [0, 2]) (runO E n0 g h.length o106_0 s (h ++ [(.cells [(.int .i64 0), (.str []), (.str []), (.int .i64 0), (.int .i64 0), (.int .i64 0), (.str []), (.int .i64 0), (.sl .full []), (.int .i64 0), (.int .i64 0), (.str []), (.int .i64 0), (.sl .full []), (.sl .full []), (.sl .full []), (.sl .full [])])])) := k_reg
@[simp] theorem q106_1 : runF E n0 g c106_1 s h = regK (some [0, 2, 3]) (runO E n0 g h.length o106_1 s (h ++ [(.cells [(.int .i64 0), (.str []), (.str []), (.int .i64 0), (.int .i64 0), (.int .i64 0), (.str []), (.int .i64 0), (.sl .full []), (.int .i64 0), (.int .i64 0), (.str []), (.int .i64 0), (.sl .full []), (.sl .full []), (.sl .full []), (.sl .full [])])])) := k_reg
@[simp] theorem q106_2 : runF E n0 g c106_2 s h = regK (some [0, 2, 3]) (runO E n0 g h.length o106_2 s h) := k_reg0
@[simp] theorem q106_3 : runF E n0 g c106_3 s h = regK (some [0, 2, 3, 8]) (runO E n0 g h.length o106_3 s h) := k_reg0
@[simp] theorem q106_4 : runF E n0 g c106_4 s h = regK (some [0, 2, 3]) (runO E n0 g h.length o106_4 s h) := k_reg0
@[simp] theorem q106_5 : runF E n0 g c106_5 s h = regK (some [0, 2, 3]) (runO E n0 g h.length o106_5 s h) := k_reg0
@[simp] theorem q106_6 : runF E n0 g c106_6 s h = regK (some [0, 2, 3]) (runO E n0 g h.length o106_6 s h) := k_reg0
@[simp] theorem q106_7 : runF E n0 g c106_7 s h = regK (some [0, 2, 3]) (runO E n0 g h.length o106_7 s h) := k_reg0
@[simp] theorem q106_8 : runF E n0 g c106_8 s h = regK (some [0, 2, 3]) (runO E n0 g h.length o106_8 s h) := k_reg0
@[simp] theorem q106_9 : runF E n0 g c106_9 s h = regK (some [2, 3]) (runO E n0 g h.length o106_9 s h) := k_reg0
@[simp] theorem q106_10 : runF E n0 g c106_10 s h = regK (some [2]) (runO E n0 g h.length o106_10 s h) := k_reg0
@[simp] theorem q106_11 : runF E n0 g c106_11 s h = seqK E n0 g .ret (runF E n0 g c106_10 s h) := k_seq
@[simp] theorem q106_12 : runF E n0 g c106_12 s h = seqK E n0 g c106_11 (runF E n0 g c106_9 s h) := k_seq
@[simp] theorem q106_13 : runF E n0 g c106_13 s h = seqK E n0 g c106_12 (runF E n0 g c106_8 s h) := k_seq
@[simp] theorem q106_14 : runF E n0 g c106_14 s h = seqK E n0 g c106_13 (runF E n0 g c106_7 s h) := k_seq
@[simp] theorem q106_15 : runF E n0 g c106_15 s h = seqK E n0 g c106_14 (runF E n0 g c106_6 s h) := k_seq
@[simp] theorem q106_16 : runF E n0 g c106_16 s h = seqK E n0 g c106_15 (runF E n0 g c106_5 s h) := k_seq
@[simp] theorem q106_17 : runF E n0 g c106_17 s h = seqK E n0 g c106_16 (runF E n0 g c106_4 s h) := k_seq
@[simp] theorem q106_18 : runF E n0 g c106_18 s h = condK E n0 g c106_17 .skip s h (get s 8) := k_cond
@[simp] theorem q106_19 : runF E n0 g c106_19 s h = seqK E n0 g c106_18 (runF E n0 g c106_3 s h) := k_seq
@[simp] theorem q106_20 : runF E n0 g c106_20 s h = regK (some [0, 2, 3]) (runO E n0 g h.length o106_20 s h) := k_reg0
@[simp] theorem q106_21 : runF E n0 g c106_21 s h = regK (some [0, 2, 3, 35]) (runO E n0 g h.length o106_21 s h) := k_reg0
@[simp] theorem q106_22 : runF E n0 g c106_22 s h = regK (some [0, 2, 3]) (runO E n0 g h.length o106_22 s h) := k_reg0
@[simp] theorem q106_23 : runF E n0 g c106_23 s h = regK (some [0, 2, 3]) (runO E n0 g h.length o106_23 s h) := k_reg0
@[simp] theorem q106_24 : runF E n0 g c106_24 s h = regK (some [0, 2, 3]) (runO E n0 g h.length o106_24 s h) := k_reg0
@[simp] theorem q106_25 : runF E n0 g c106_25 s h = regK (some [0, 2, 3, 53]) (runO E n0 g h.length o106_25 s h) := k_reg0
@[simp] theorem q106_26 : runF E n0 g c106_26 s h = condK E n0 g .skip (.exit 0) s h (get s 53) := k_cond
@[simp] theorem q106_27 : runF E n0 g c106_27 s h = seqK E n0 g c106_26 (runF E n0 g c106_25 s h) := k_seq
@[simp] theorem q106_28 : runF E n0 g c106_28 s h = regK (some [0, 2, 3, 57]) (runO E n0 g h.length o106_28 s h) := k_reg0
@[simp] theorem q106_29 : runF E n0 g c106_29 s h = regK (some [0, 2, 3]) (runO E n0 g h.length o106_29 s h) := k_reg0
@[simp] theorem q106_30 : runF E n0 g c106_30 s h = condK E n0 g c106_29 .skip s h (get s 57) := k_cond
@[simp] theorem q106_31 : runF E n0 g c106_31 s h = seqK E n0 g c106_30 (runF E n0 g c106_28 s h) := k_seq
@[simp] theorem q106_32 : runF E n0 g c106_32 s h = regT (some [0, 2, 3]) [(1, [3])] (runTr E n0 g h.length o106_32 s (h ++ [.dead]) []) := k_regd
@[simp] theorem q106_33 : runF E n0 g c106_33 s h = seqK E n0 g c106_32 (runF E n0 g c106_31 s h) := k_seq
@[simp] theorem q106_34 : runF E n0 g c106_34 s h = blkK (some [0, 2, 3]) 1 (runF E n0 g c106_33 s h) := k_block
@[simp] theorem q106_35 : runF E n0 g c106_35 s h = seqK E n0 g c106_34 (runF E n0 g c106_27 s h) := k_seq
theorem q106_36 : runF E n0 g c106_36 s h = loopK E n0 g (some [0, 2, 3]) c106_35 (runF E n0 g c106_35 (clearO (some [0, 2, 3]) s) h) := k_loop
@[simp] theorem q106_36L : runF E n0 g (.loop (some [0, 2, 3]) c106_35) s h = runF E n0 g c106_36 s h := rfl
@[simp] theorem q106_37 : runF E n0 g c106_37 s h = blkK (some [0, 2, 3]) 0 (runF E n0 g c106_36 s h) := k_block
@[simp] theorem q106_38 : runF E n0 g c106_38 s h = regK (some [2, 3]) (runO E n0 g h.length o106_38 s h) := k_reg0
@[simp] theorem q106_39 : runF E n0 g c106_39 s h = regK (some [2]) (runO E n0 g h.length o106_39 s h) := k_reg0
@[simp] theorem q106_40 : runF E n0 g c106_40 s h = seqK E n0 g .ret (runF E n0 g c106_39 s h) := k_seq
@[simp] theorem q106_41 : runF E n0 g c106_41 s h = seqK E n0 g c106_40 (runF E n0 g c106_38 s h) := k_seq
@[simp] theorem q106_42 : runF E n0 g c106_42 s h = seqK E n0 g c106_41 (runF E n0 g c106_37 s h) := k_seq
@[simp] theorem q106_43 : runF E n0 g c106_43 s h = seqK E n0 g c106_42 (runF E n0 g c106_24 s h) := k_seq
@[simp] theorem q106_44 : runF E n0 g c106_44 s h = seqK E n0 g c106_43 (runF E n0 g c106_23 s h) := k_seq
@[simp] theorem q106_45 : runF E n0 g c106_45 s h = seqK E n0 g c106_44 (runF E n0 g c106_22 s h) := k_seq
@[simp] theorem q106_46 : runF E n0 g c106_46 s h = condK E n0 g c106_45 .skip s h (get s 35) := k_cond
@[simp] theorem q106_47 : runF E n0 g c106_47 s h = seqK E n0 g c106_46 (runF E n0 g c106_21 s h) := k_seq
@[simp] theorem q106_48 : runF E n0 g c106_48 s h = regK (some [0, 2, 3]) (runO E n0 g h.length o106_48 s h) := k_reg0
@[simp] theorem q106_49 : runF E n0 g c106_49 s h = regK (some [2, 3]) (runO E n0 g h.length o106_49 s h) := k_reg0
@[simp] theorem q106_50 : runF E n0 g c106_50 s h = regK (some [2]) (runO E n0 g h.length o106_50 s h) := k_reg0
@[simp] theorem q106_51 : runF E n0 g c106_51 s h = seqK E n0 g .ret (runF E n0 g c106_50 s h) := k_seq
@[simp] theorem q106_52 : runF E n0 g c106_52 s h = seqK E n0 g c106_51 (runF E n0 g c106_49 s h) := k_seq
@[simp] theorem q106_53 : runF E n0 g c106_53 s h = seqK E n0 g c106_52 (runF E n0 g c106_48 s h) := k_seq
@[simp] theorem q106_54 : runF E n0 g c106_54 s h = seqK E n0 g c106_53 (runF E n0 g c106_47 s h) := k_seq
@[simp] theorem q106_55 : runF E n0 g c106_55 s h = seqK E n0 g c106_54 (runF E n0 g c106_20 s h) := k_seq
@[simp] theorem q106_56 : runF E n0 g c106_56 s h = seqK E n0 g c106_55 (runF E n0 g c106_19 s h) := k_seq
@[simp] theorem q106_57 : runF E n0 g c106_57 s h = seqK E n0 g c106_56 (runF E n0 g c106_2 s h) := k_seq
@[simp] theorem q106_58 : runF E n0 g c106_58 s h = seqK E n0 g c106_57 (runF E n0 g c106_1 s h) := k_seq
@[simp] theorem q106_59 : runF E n0 g c106_59 s h = seqK E n0 g c106_58 (runF E n0 g c106_0 s h) := k_seq
@[simp] theorem qq106 : runF E n0 g c106 s h = runF E n0 g c106_59 s h := rfl
@[simp] theorem q107_0 : runF E n0 g c107_0 s h = regK (some [0, 1, 4]) (runO E n0 g h.length o107_0 s (h ++ [(.cells [(.int .i64 0), (.int .i64 0), (.str []), (.int .i64 0), (.sl .full [])])])) := k_reg
@[simp] theorem q107_1 : runF E n0 g c107_1 s h = regK (some [0, 1, 4, 10]) (runO E n0 g h.length o107_1 s h) := k_reg0
@[simp] theorem q107_2 : runF E n0 g c107_2 s h = regK (some [4]) (runO E n0 g h.length o107_2 s h) := k_reg0
@[simp] theorem q107_3 : runF E n0 g c107_3 s h = seqK E n0 g .ret (runF E n0 g c107_2 s h) := k_seq
@[simp] theorem q107_4 : runF E n0 g c107_4 s h = condK E n0 g c107_3 .skip s h (get s 10) := k_cond
@[simp] theorem q107_5 : runF E n0 g c107_5 s h = seqK E n0 g c107_4 (runF E n0 g c107_1 s h) := k_seq
@[simp] theorem q107_6 : runF E n0 g c107_6 s h = regK (some [0, 1, 4, 5]) (runO E n0 g h.length o107_6 s (h ++ [(.cells [(.int .i64 0), (.int .i64 0), (.str []), (.int .i64 0), (.sl .full [])])])) := k_reg
@[simp] theorem q107_7 : runF E n0 g c107_7 s h = regK (some [0, 1, 4, 5, 44]) (runO E n0 g h.length o107_7 s h) := by rw [show c107_7 = .reg (some [0, 1, 4, 5, 44]) [] o107_7 (some []) from rfl, k_regd0, List.append_nil]
@[simp] theorem q107_8 : runF E n0 g c107_8 s h = condK E n0 g .skip (.exit 0) s h (get s 44) := k_cond
@[simp] theorem q107_9 : runF E n0 g c107_9 s h = seqK E n0 g c107_8 (runF E n0 g c107_7 s h) := k_seq
@[simp] theorem q107_10 : runF E n0 g c107_10 s h = regK (some [0, 1, 4, 5, 6, 7]) (runO E n0 g h.length o107_10 s h) := by rw [show c107_10 = .reg (some [0, 1, 4, 5, 6, 7]) [] o107_10 (some []) from rfl, k_regd0, List.append_nil]
@[simp] theorem q107_11 : runF E n0 g c107_11 s h = regK (some [0, 1, 4, 5, 6, 7, 62]) (runO E n0 g h.length o107_11 s h) := k_reg0
@[simp] theorem q107_12 : runF E n0 g c107_12 s h = condK E n0 g (.exit 0) .skip s h (get s 62) := k_cond
@[simp] theorem q107_13 : runF E n0 g c107_13 s h = seqK E n0 g c107_12 (runF E n0 g c107_11 s h) := k_seq
@[simp] theorem q107_14 : runF E n0 g c107_14 s h = regK (some [0, 1, 4, 5, 6, 7]) (runO E n0 g h.length o107_14 s h) := k_reg0
@[simp] theorem q107_15 : runF E n0 g c107_15 s h = regK (some [0, 1, 4, 5, 6, 7, 8]) (runO E n0 g h.length o107_15 s (h ++ [(.cells [(.int .i64 0), (.int .i64 0), (.str []), (.int .i64 0), (.sl .full [])])])) := k_reg
@[simp] theorem q107_16 : runF E n0 g c107_16 s h = regK (some [0, 1, 4, 5, 6, 8, 74]) (runO E n0 g h.length o107_16 s h) := k_reg0
@[simp] theorem q107_17 : runF E n0 g c107_17 s h = regK (some [0, 1, 4, 5, 6, 8]) (runO E n0 g h.length o107_17 s h) := k_reg0
@[simp] theorem q107_18 : runF E n0 g c107_18 s h = condK E n0 g c107_17 .skip s h (get s 74) := k_cond
@[simp] theorem q107_19 : runF E n0 g c107_19 s h = seqK E n0 g c107_18 (runF E n0 g c107_16 s h) := k_seq
@[simp] theorem q107_20 : runF E n0 g c107_20 s h = regK (some [0, 1, 4, 5]) (runO E n0 g h.length o107_20 s h) := k_reg0
@[simp] theorem q107_21 : runF E n0 g c107_21 s h = seqK E n0 g c107_20 (runF E n0 g c107_19 s h) := k_seq
@[simp] theorem q107_22 : runF E n0 g c107_22 s h = seqK E n0 g c107_21 (runF E n0 g c107_15 s h) := k_seq
@[simp] theorem q107_23 : runF E n0 g c107_23 s h = seqK E n0 g c107_22 (runF E n0 g c107_14 s h) := k_seq
@[simp] theorem q107_24 : runF E n0 g c107_24 s h = seqK E n0 g c107_23 (runF E n0 g c107_13 s h) := k_seq
@[simp] theorem q107_25 : runF E n0 g c107_25 s h = seqK E n0 g c107_24 (runF E n0 g c107_10 s h) := k_seq
@[simp] theorem q107_26 : runF E n0 g c107_26 s h = blkK (some [0, 1, 4, 5]) 1 (runF E n0 g c107_25 s h) := k_block
@[simp] theorem q107_27 : runF E n0 g c107_27 s h = seqK E n0 g c107_26 (runF E n0 g c107_9 s h) := k_seq
theorem q107_28 : runF E n0 g c107_28 s h = loopK E n0 g (some [0, 1, 4, 5]) c107_27 (runF E n0 g c107_27 (clearO (some [0, 1, 4, 5]) s) h) := k_loop
@[simp] theorem q107_28L : runF E n0 g (.loop (some [0, 1, 4, 5]) c107_27) s h = runF E n0 g c107_28 s h := rfl
@[simp] theorem q107_29 : runF E n0 g c107_29 s h = blkK (some [4, 5]) 0 (runF E n0 g c107_28 s h) := k_block
@[simp] theorem q107_30 : runF E n0 g c107_30 s h = regK (some [4]) (runO E n0 g h.length o107_30 s h) := k_reg0
@[simp] theorem q107_31 : runF E n0 g c107_31 s h = seqK E n0 g .ret (runF E n0 g c107_30 s h) := k_seq
@[simp] theorem q107_32 : runF E n0 g c107_32 s h = seqK E n0 g c107_31 (runF E n0 g c107_29 s h) := k_seq
@[simp] theorem q107_33 : runF E n0 g c107_33 s h = seqK E n0 g c107_32 (runF E n0 g c107_6 s h) := k_seq
@[simp] theorem q107_34 : runF E n0 g c107_34 s h = seqK E n0 g c107_33 (runF E n0 g c107_5 s h) := k_seq
@[simp] theorem q107_35 : runF E n0 g c107_35 s h = seqK E n0 g c107_34 (runF E n0 g c107_0 s h) := k_seq
@[simp] theorem qq107 : runF E n0 g c107 s h = runF E n0 g c107_35 s h := rfl
@[simp] theorem q128_0 : runF E n0 g c128_0 s h = regK (some [0, 2]) (runO E n0 g h.length o128_0 s (h ++ [(.cells [(.int .i64 0), (.int .i64 0), (.str []), (.int .i64 0), (.sl .full [])])])) := k_reg
@[simp] theorem q128_1 : runF E n0 g c128_1 s h = regK (some [0, 2, 3]) (runO E n0 g h.length o128_1 s h) := k_reg0
@[simp] theorem q128_2 : runF E n0 g c128_2 s h = regK (some [0, 2]) (runO E n0 g h.length o128_2 s h) := k_reg0
@[simp] theorem q128_3 : runF E n0 g c128_3 s h = regK (some [2]) (runO E n0 g h.length o128_3 s h) := k_reg0
@[simp] theorem q128_4 : runF E n0 g c128_4 s h = seqK E n0 g .ret (runF E n0 g c128_3 s h) := k_seq
@[simp] theorem q128_5 : runF E n0 g c128_5 s h = seqK E n0 g c128_4 (runF E n0 g c128_2 s h) := k_seq
@[simp] theorem q128_6 : runF E n0 g c128_6 s h = regK (some [0, 2, 19]) (runO E n0 g h.length o128_6 s h) := k_reg0
@[simp] theorem q128_7 : runF E n0 g c128_7 s h = regK (some [0, 2]) (runO E n0 g h.length o128_7 s h) := k_reg0
@[simp] theorem q128_8 : runF E n0 g c128_8 s h = regK (some [2]) (runO E n0 g h.length o128_8 s h) := k_reg0
@[simp] theorem q128_9 : runF E n0 g c128_9 s h = seqK E n0 g .ret (runF E n0 g c128_8 s h) := k_seq
@[simp] theorem q128_10 : runF E n0 g c128_10 s h = seqK E n0 g c128_9 (runF E n0 g c128_7 s h) := k_seq
@[simp] theorem q128_11 : runF E n0 g c128_11 s h = regK (some [0, 2, 33]) (runO E n0 g h.length o128_11 s h) := k_reg0
@[simp] theorem q128_12 : runF E n0 g c128_12 s h = regK (some [0, 2]) (runO E n0 g h.length o128_12 s h) := k_reg0
@[simp] theorem q128_13 : runF E n0 g c128_13 s h = regK (some [2]) (runO E n0 g h.length o128_13 s h) := k_reg0
@[simp] theorem q128_14 : runF E n0 g c128_14 s h = seqK E n0 g .ret (runF E n0 g c128_13 s h) := k_seq
@[simp] theorem q128_15 : runF E n0 g c128_15 s h = seqK E n0 g c128_14 (runF E n0 g c128_12 s h) := k_seq
@[simp] theorem q128_16 : runF E n0 g c128_16 s h = regK (some [0, 2, 47]) (runO E n0 g h.length o128_16 s h) := k_reg0
@[simp] theorem q128_17 : runF E n0 g c128_17 s h = regK (some [0, 2]) (runO E n0 g h.length o128_17 s h) := k_reg0
@[simp] theorem q128_18 : runF E n0 g c128_18 s h = regK (some [2]) (runO E n0 g h.length o128_18 s h) := k_reg0
@[simp] theorem q128_19 : runF E n0 g c128_19 s h = seqK E n0 g .ret (runF E n0 g c128_18 s h) := k_seq
@[simp] theorem q128_20 : runF E n0 g c128_20 s h = seqK E n0 g c128_19 (runF E n0 g c128_17 s h) := k_seq
@[simp] theorem q128_21 : runF E n0 g c128_21 s h = condK E n0 g c128_20 .skip s h (get s 47) := k_cond
@[simp] theorem q128_22 : runF E n0 g c128_22 s h = seqK E n0 g c128_21 (runF E n0 g c128_16 s h) := k_seq
@[simp] theorem q128_23 : runF E n0 g c128_23 s h = condK E n0 g c128_15 c128_22 s h (get s 33) := k_cond
@[simp] theorem q128_24 : runF E n0 g c128_24 s h = seqK E n0 g c128_23 (runF E n0 g c128_11 s h) := k_seq
@[simp] theorem q128_25 : runF E n0 g c128_25 s h = condK E n0 g c128_10 c128_24 s h (get s 19) := k_cond
@[simp] theorem q128_26 : runF E n0 g c128_26 s h = seqK E n0 g c128_25 (runF E n0 g c128_6 s h) := k_seq
@[simp] theorem q128_27 : runF E n0 g c128_27 s h = condK E n0 g c128_5 c128_26 s h (get s 3) := k_cond
@[simp] theorem q128_28 : runF E n0 g c128_28 s h = seqK E n0 g c128_27 (runF E n0 g c128_1 s h) := k_seq
@[simp] theorem q128_29 : runF E n0 g c128_29 s h = blkK (some [0, 2]) 0 (runF E n0 g c128_28 s h) := k_block
@[simp] theorem q128_30 : runF E n0 g c128_30 s h = regK (some [2]) (runO E n0 g h.length o128_30 s h) := k_reg0
@[simp] theorem q128_31 : runF E n0 g c128_31 s h = seqK E n0 g .ret (runF E n0 g c128_30 s h) := k_seq
@[simp] theorem q128_32 : runF E n0 g c128_32 s h = seqK E n0 g c128_31 (runF E n0 g c128_29 s h) := k_seq
@[simp] theorem q128_33 : runF E n0 g c128_33 s h = seqK E n0 g c128_32 (runF E n0 g c128_0 s h) := k_seq
@[simp] theorem qq128 : runF E n0 g c128 s h = runF E n0 g c128_33 s h := rfl
@[simp] theorem q129_0 : runF E n0 g c129_0 s h = regK (some [0, 1]) (runO E n0 g h.length o129_0 s h) := k_reg0
@[simp] theorem q129_1 : runF E n0 g c129_1 s h = regK (some [0, 1, 6]) (runO E n0 g h.length o129_1 s h) := k_reg0
@[simp] theorem q129_2 : runF E n0 g c129_2 s h = regK (some [4, 5]) (runO E n0 g h.length o129_2 s h) := k_reg0
@[simp] theorem q129_3 : runF E n0 g c129_3 s h = seqK E n0 g .ret (runF E n0 g c129_2 s h) := k_seq
@[simp] theorem q129_4 : runF E n0 g c129_4 s h = regK (some [0, 1, 13]) (runO E n0 g h.length o129_4 s h) := k_reg0
@[simp] theorem q129_5 : runF E n0 g c129_5 s h = regK (some [4, 5]) (runO E n0 g h.length o129_5 s h) := k_reg0
@[simp] theorem q129_6 : runF E n0 g c129_6 s h = seqK E n0 g .ret (runF E n0 g c129_5 s h) := k_seq
@[simp] theorem q129_7 : runF E n0 g c129_7 s h = regK (some [0, 1, 20]) (runO E n0 g h.length o129_7 s h) := k_reg0
@[simp] theorem q129_8 : runF E n0 g c129_8 s h = regK (some [4, 5]) (runO E n0 g h.length o129_8 s h) := k_reg0
@[simp] theorem q129_9 : runF E n0 g c129_9 s h = seqK E n0 g .ret (runF E n0 g c129_8 s h) := k_seq
@[simp] theorem q129_10 : runF E n0 g c129_10 s h = regK (some [0, 1, 27]) (runO E n0 g h.length o129_10 s h) := k_reg0
@[simp] theorem q129_11 : runF E n0 g c129_11 s h = regK (some [4, 5]) (runO E n0 g h.length o129_11 s h) := k_reg0
@[simp] theorem q129_12 : runF E n0 g c129_12 s h = seqK E n0 g .ret (runF E n0 g c129_11 s h) := k_seq
@[simp] theorem q129_13 : runF E n0 g c129_13 s h = regK (some [0, 1, 34]) (runO E n0 g h.length o129_13 s h) := k_reg0
@[simp] theorem q129_14 : runF E n0 g c129_14 s h = regK (some [4, 5]) (runO E n0 g h.length o129_14 s h) := k_reg0
@[simp] theorem q129_15 : runF E n0 g c129_15 s h = seqK E n0 g .ret (runF E n0 g c129_14 s h) := k_seq
@[simp] theorem q129_16 : runF E n0 g c129_16 s h = regK (some [0, 1, 41]) (runO E n0 g h.length o129_16 s h) := k_reg0
@[simp] theorem q129_17 : runF E n0 g c129_17 s h = regK (some [4, 5]) (runO E n0 g h.length o129_17 s h) := k_reg0
@[simp] theorem q129_18 : runF E n0 g c129_18 s h = seqK E n0 g .ret (runF E n0 g c129_17 s h) := k_seq
@[simp] theorem q129_19 : runF E n0 g c129_19 s h = regK (some [0, 1, 48]) (runO E n0 g h.length o129_19 s h) := k_reg0
@[simp] theorem q129_20 : runF E n0 g c129_20 s h = regK (some [4, 5]) (runO E n0 g h.length o129_20 s h) := k_reg0
@[simp] theorem q129_21 : runF E n0 g c129_21 s h = seqK E n0 g .ret (runF E n0 g c129_20 s h) := k_seq
@[simp] theorem q129_22 : runF E n0 g c129_22 s h = regK (some [0, 1, 55]) (runO E n0 g h.length o129_22 s h) := k_reg0
@[simp] theorem q129_23 : runF E n0 g c129_23 s h = regK (some [4, 5]) (runO E n0 g h.length o129_23 s h) := k_reg0
@[simp] theorem q129_24 : runF E n0 g c129_24 s h = seqK E n0 g .ret (runF E n0 g c129_23 s h) := k_seq
@[simp] theorem q129_25 : runF E n0 g c129_25 s h = regK (some [0, 1, 62]) (runO E n0 g h.length o129_25 s h) := k_reg0
@[simp] theorem q129_26 : runF E n0 g c129_26 s h = regK (some [4, 5]) (runO E n0 g h.length o129_26 s h) := k_reg0
@[simp] theorem q129_27 : runF E n0 g c129_27 s h = seqK E n0 g .ret (runF E n0 g c129_26 s h) := k_seq
@[simp] theorem q129_28 : runF E n0 g c129_28 s h = condK E n0 g c129_27 .skip s h (get s 62) := k_cond
@[simp] theorem q129_29 : runF E n0 g c129_29 s h = seqK E n0 g c129_28 (runF E n0 g c129_25 s h) := k_seq
@[simp] theorem q129_30 : runF E n0 g c129_30 s h = condK E n0 g c129_24 c129_29 s h (get s 55) := k_cond
@[simp] theorem q129_31 : runF E n0 g c129_31 s h = seqK E n0 g c129_30 (runF E n0 g c129_22 s h) := k_seq
@[simp] theorem q129_32 : runF E n0 g c129_32 s h = condK E n0 g c129_21 c129_31 s h (get s 48) := k_cond
@[simp] theorem q129_33 : runF E n0 g c129_33 s h = seqK E n0 g c129_32 (runF E n0 g c129_19 s h) := k_seq
@[simp] theorem q129_34 : runF E n0 g c129_34 s h = condK E n0 g c129_18 c129_33 s h (get s 41) := k_cond
@[simp] theorem q129_35 : runF E n0 g c129_35 s h = seqK E n0 g c129_34 (runF E n0 g c129_16 s h) := k_seq
@[simp] theorem q129_36 : runF E n0 g c129_36 s h = condK E n0 g c129_15 c129_35 s h (get s 34) := k_cond
@[simp] theorem q129_37 : runF E n0 g c129_37 s h = seqK E n0 g c129_36 (runF E n0 g c129_13 s h) := k_seq
@[simp] theorem q129_38 : runF E n0 g c129_38 s h = condK E n0 g c129_12 c129_37 s h (get s 27) := k_cond
@[simp] theorem q129_39 : runF E n0 g c129_39 s h = seqK E n0 g c129_38 (runF E n0 g c129_10 s h) := k_seq
@[simp] theorem q129_40 : runF E n0 g c129_40 s h = condK E n0 g c129_9 c129_39 s h (get s 20) := k_cond
@[simp] theorem q129_41 : runF E n0 g c129_41 s h = seqK E n0 g c129_40 (runF E n0 g c129_7 s h) := k_seq
@[simp] theorem q129_42 : runF E n0 g c129_42 s h = condK E n0 g c129_6 c129_41 s h (get s 13) := k_cond
@[simp] theorem q129_43 : runF E n0 g c129_43 s h = seqK E n0 g c129_42 (runF E n0 g c129_4 s h) := k_seq
@[simp] theorem q129_44 : runF E n0 g c129_44 s h = condK E n0 g c129_3 c129_43 s h (get s 6) := k_cond
@[simp] theorem q129_45 : runF E n0 g c129_45 s h = seqK E n0 g c129_44 (runF E n0 g c129_1 s h) := k_seq
@[simp] theorem q129_46 : runF E n0 g c129_46 s h = blkK (some [0, 1]) 0 (runF E n0 g c129_45 s h) := k_block
@[simp] theorem q129_47 : runF E n0 g c129_47 s h = regK (some [0, 1, 69]) (runO E n0 g h.length o129_47 s h) := k_reg0
@[simp] theorem q129_48 : runF E n0 g c129_48 s h = regK (some [4, 5]) (runO E n0 g h.length o129_48 s h) := k_reg0
@[simp] theorem q129_49 : runF E n0 g c129_49 s h = seqK E n0 g .ret (runF E n0 g c129_48 s h) := k_seq
@[simp] theorem q129_50 : runF E n0 g c129_50 s h = regK (some [0, 1, 76]) (runO E n0 g h.length o129_50 s h) := k_reg0
@[simp] theorem q129_51 : runF E n0 g c129_51 s h = regK (some [4, 5]) (runO E n0 g h.length o129_51 s h) := k_reg0
@[simp] theorem q129_52 : runF E n0 g c129_52 s h = seqK E n0 g .ret (runF E n0 g c129_51 s h) := k_seq
@[simp] theorem q129_53 : runF E n0 g c129_53 s h = regK (some [0, 1, 83]) (runO E n0 g h.length o129_53 s h) := k_reg0
@[simp] theorem q129_54 : runF E n0 g c129_54 s h = regK (some [4, 5]) (runO E n0 g h.length o129_54 s h) := k_reg0
@[simp] theorem q129_55 : runF E n0 g c129_55 s h = seqK E n0 g .ret (runF E n0 g c129_54 s h) := k_seq
@[simp] theorem q129_56 : runF E n0 g c129_56 s h = regK (some [0, 1, 90]) (runO E n0 g h.length o129_56 s h) := k_reg0
@[simp] theorem q129_57 : runF E n0 g c129_57 s h = regK (some [4, 5]) (runO E n0 g h.length o129_57 s h) := k_reg0
@[simp] theorem q129_58 : runF E n0 g c129_58 s h = seqK E n0 g .ret (runF E n0 g c129_57 s h) := k_seq
@[simp] theorem q129_59 : runF E n0 g c129_59 s h = regK (some [0, 1, 97]) (runO E n0 g h.length o129_59 s h) := k_reg0
@[simp] theorem q129_60 : runF E n0 g c129_60 s h = regK (some [4, 5]) (runO E n0 g h.length o129_60 s h) := k_reg0
@[simp] theorem q129_61 : runF E n0 g c129_61 s h = seqK E n0 g .ret (runF E n0 g c129_60 s h) := k_seq
@[simp] theorem q129_62 : runF E n0 g c129_62 s h = regK (some [0, 1, 104]) (runO E n0 g h.length o129_62 s h) := k_reg0
@[simp] theorem q129_63 : runF E n0 g c129_63 s h = regK (some [4, 5]) (runO E n0 g h.length o129_63 s h) := k_reg0
@[simp] theorem q129_64 : runF E n0 g c129_64 s h = seqK E n0 g .ret (runF E n0 g c129_63 s h) := k_seq
@[simp] theorem q129_65 : runF E n0 g c129_65 s h = regK (some [0, 1, 111]) (runO E n0 g h.length o129_65 s h) := k_reg0
@[simp] theorem q129_66 : runF E n0 g c129_66 s h = regK (some [4, 5]) (runO E n0 g h.length o129_66 s h) := k_reg0
@[simp] theorem q129_67 : runF E n0 g c129_67 s h = seqK E n0 g .ret (runF E n0 g c129_66 s h) := k_seq
@[simp] theorem q129_68 : runF E n0 g c129_68 s h = regK (some [118]) (runO E n0 g h.length o129_68 s h) := k_reg0
@[simp] theorem q129_69 : runF E n0 g c129_69 s h = regK (some [4, 5]) (runO E n0 g h.length o129_69 s h) := k_reg0
@[simp] theorem q129_70 : runF E n0 g c129_70 s h = seqK E n0 g .ret (runF E n0 g c129_69 s h) := k_seq
@[simp] theorem q129_71 : runF E n0 g c129_71 s h = condK E n0 g c129_70 .skip s h (get s 118) := k_cond
@[simp] theorem q129_72 : runF E n0 g c129_72 s h = seqK E n0 g c129_71 (runF E n0 g c129_68 s h) := k_seq
@[simp] theorem q129_73 : runF E n0 g c129_73 s h = condK E n0 g c129_67 c129_72 s h (get s 111) := k_cond
@[simp] theorem q129_74 : runF E n0 g c129_74 s h = seqK E n0 g c129_73 (runF E n0 g c129_65 s h) := k_seq
@[simp] theorem q129_75 : runF E n0 g c129_75 s h = condK E n0 g c129_64 c129_74 s h (get s 104) := k_cond
@[simp] theorem q129_76 : runF E n0 g c129_76 s h = seqK E n0 g c129_75 (runF E n0 g c129_62 s h) := k_seq
@[simp] theorem q129_77 : runF E n0 g c129_77 s h = condK E n0 g c129_61 c129_76 s h (get s 97) := k_cond
@[simp] theorem q129_78 : runF E n0 g c129_78 s h = seqK E n0 g c129_77 (runF E n0 g c129_59 s h) := k_seq
@[simp] theorem q129_79 : runF E n0 g c129_79 s h = condK E n0 g c129_58 c129_78 s h (get s 90) := k_cond
@[simp] theorem q129_80 : runF E n0 g c129_80 s h = seqK E n0 g c129_79 (runF E n0 g c129_56 s h) := k_seq
@[simp] theorem q129_81 : runF E n0 g c129_81 s h = condK E n0 g c129_55 c129_80 s h (get s 83) := k_cond
@[simp] theorem q129_82 : runF E n0 g c129_82 s h = seqK E n0 g c129_81 (runF E n0 g c129_53 s h) := k_seq
@[simp] theorem q129_83 : runF E n0 g c129_83 s h = condK E n0 g c129_52 c129_82 s h (get s 76) := k_cond
@[simp] theorem q129_84 : runF E n0 g c129_84 s h = seqK E n0 g c129_83 (runF E n0 g c129_50 s h) := k_seq
@[simp] theorem q129_85 : runF E n0 g c129_85 s h = condK E n0 g c129_49 c129_84 s h (get s 69) := k_cond
@[simp] theorem q129_86 : runF E n0 g c129_86 s h = seqK E n0 g c129_85 (runF E n0 g c129_47 s h) := k_seq
@[simp] theorem q129_87 : runF E n0 g c129_87 s h = blkK (some []) 1 (runF E n0 g c129_86 s h) := k_block
@[simp] theorem q129_88 : runF E n0 g c129_88 s h = regK (some [4, 5]) (runO E n0 g h.length o129_88 s h) := k_reg0
@[simp] theorem q129_89 : runF E n0 g c129_89 s h = seqK E n0 g .ret (runF E n0 g c129_88 s h) := k_seq
@[simp] theorem q129_90 : runF E n0 g c129_90 s h = seqK E n0 g c129_89 (runF E n0 g c129_87 s h) := k_seq
@[simp] theorem q129_91 : runF E n0 g c129_91 s h = seqK E n0 g c129_90 (runF E n0 g c129_46 s h) := k_seq
@[simp] theorem q129_92 : runF E n0 g c129_92 s h = seqK E n0 g c129_91 (runF E n0 g c129_0 s h) := k_seq
@[simp] theorem qq129 : runF E n0 g c129 s h = runF E n0 g c129_92 s h := rfl
@[simp] theorem q143_0 : runF E n0 g c143_0 s h = regK (some [0, 1]) (runO E n0 g h.length o143_0 s h) := k_reg0
@[simp] theorem q143_1 : runF E n0 g c143_1 s h = regK (some [4]) (runO E n0 g h.length o143_1 s h) := by rw [show c143_1 = .reg (some [4]) [] o143_1 (some []) from rfl, k_regd0, List.append_nil]
@[simp] theorem q143_2 : runF E n0 g c143_2 s h = seqK E n0 g .ret (runF E n0 g c143_1 s h) := k_seq
@[simp] theorem q143_3 : runF E n0 g c143_3 s h = seqK E n0 g c143_2 (runF E n0 g c143_0 s h) := k_seq
@[simp] theorem qq143 : runF E n0 g c143 s h = runF E n0 g c143_3 s h := rfl
@[simp] theorem q144_0 : runF E n0 g c144_0 s h = regK (some [0, 1, 4]) (runO E n0 g h.length o144_0 s (h ++ [(.cells [(.int .i64 0), (.int .i64 0), (.str []), (.int .i64 0), (.sl .full [])])])) := k_reg
@[simp] theorem q144_1 : runF E n0 g c144_1 s h = regK (some [0, 1, 4, 5, 6]) (runO E n0 g h.length o144_1 s h) := by rw [show c144_1 = .reg (some [0, 1, 4, 5, 6]) [] o144_1 (some []) from rfl, k_regd0, List.append_nil]
@[simp] theorem q144_2 : runF E n0 g c144_2 s h = regK (some [0, 4, 5, 6, 22]) (runO E n0 g h.length o144_2 s h) := k_reg0
@[simp] theorem q144_3 : runF E n0 g c144_3 s h = regK (some [0, 4, 5, 6]) (runO E n0 g h.length o144_3 s h) := by rw [show c144_3 = .reg (some [0, 4, 5, 6]) [] o144_3 (some []) from rfl, k_regd0, List.append_nil]
@[simp] theorem q144_4 : runF E n0 g c144_4 s h = regK (some [0, 4, 5, 6, 50]) (runO E n0 g h.length o144_4 s h) := by rw [show c144_4 = .reg (some [0, 4, 5, 6, 50]) [] o144_4 (some []) from rfl, k_regd0, List.append_nil]
@[simp] theorem q144_5 : runF E n0 g c144_5 s h = regK (some [0, 4, 5, 6]) (runO E n0 g h.length o144_5 s h) := k_reg0
@[simp] theorem q144_6 : runF E n0 g c144_6 s h = condK E n0 g c144_5 .skip s h (get s 50) := k_cond
@[simp] theorem q144_7 : runF E n0 g c144_7 s h = seqK E n0 g c144_6 (runF E n0 g c144_4 s h) := k_seq
@[simp] theorem q144_8 : runF E n0 g c144_8 s h = seqK E n0 g c144_7 (runF E n0 g c144_3 s h) := k_seq
@[simp] theorem q144_9 : runF E n0 g c144_9 s h = condK E n0 g c144_8 .skip s h (get s 22) := k_cond
@[simp] theorem q144_10 : runF E n0 g c144_10 s h = seqK E n0 g c144_9 (runF E n0 g c144_2 s h) := k_seq
@[simp] theorem q144_11 : runF E n0 g c144_11 s h = regK (some [0, 4, 5, 52]) (runO E n0 g h.length o144_11 s h) := k_reg0
@[simp] theorem q144_12 : runF E n0 g c144_12 s h = regK (some [4]) (runO E n0 g h.length o144_12 s h) := k_reg0
@[simp] theorem q144_13 : runF E n0 g c144_13 s h = regK (some [4]) (runO E n0 g h.length o144_13 s h) := k_reg0
@[simp] theorem q144_14 : runF E n0 g c144_14 s h = seqK E n0 g .ret (runF E n0 g c144_13 s h) := k_seq
@[simp] theorem q144_15 : runF E n0 g c144_15 s h = seqK E n0 g c144_14 (runF E n0 g c144_12 s h) := k_seq
@[simp] theorem q144_16 : runF E n0 g c144_16 s h = condK E n0 g c144_15 .skip s h (get s 52) := k_cond
@[simp] theorem q144_17 : runF E n0 g c144_17 s h = seqK E n0 g c144_16 (runF E n0 g c144_11 s h) := k_seq
@[simp] theorem q144_18 : runF E n0 g c144_18 s h = regK (some [4, 5]) (runO E n0 g h.length o144_18 s h) := k_reg0
@[simp] theorem q144_19 : runF E n0 g c144_19 s h = regK (some [4]) (runO E n0 g h.length o144_19 s h) := k_reg0
@[simp] theorem q144_20 : runF E n0 g c144_20 s h = seqK E n0 g .ret (runF E n0 g c144_19 s h) := k_seq
@[simp] theorem q144_21 : runF E n0 g c144_21 s h = seqK E n0 g c144_20 (runF E n0 g c144_18 s h) := k_seq
@[simp] theorem q144_22 : runF E n0 g c144_22 s h = seqK E n0 g c144_21 (runF E n0 g c144_17 s h) := k_seq
@[simp] theorem q144_23 : runF E n0 g c144_23 s h = seqK E n0 g c144_22 (runF E n0 g c144_10 s h) := k_seq
@[simp] theorem q144_24 : runF E n0 g c144_24 s h = seqK E n0 g c144_23 (runF E n0 g c144_1 s h) := k_seq
@[simp] theorem q144_25 : runF E n0 g c144_25 s h = seqK E n0 g c144_24 (runF E n0 g c144_0 s h) := k_seq
@[simp] theorem qq144 : runF E n0 g c144 s h = runF E n0 g c144_25 s h := rfl
@[simp] theorem q145_0 : runF E n0 g c145_0 s h = regK (some [0, 2]) (runO E n0 g h.length o145_0 s (h ++ [(.cells [(.int .i64 0), (.int .i64 0), (.str []), (.int .i64 0), (.sl .full [])])])) := k_reg
@[simp] theorem q145_1 : runF E n0 g c145_1 s h = regK (some [0, 2, 6]) (runO E n0 g h.length o145_1 s h) := k_reg0
@[simp] theorem q145_2 : runF E n0 g c145_2 s h = regK (some [2]) (runO E n0 g h.length o145_2 s h) := k_reg0
@[simp] theorem q145_3 : runF E n0 g c145_3 s h = seqK E n0 g .ret (runF E n0 g c145_2 s h) := k_seq
@[simp] theorem q145_4 : runF E n0 g c145_4 s h = regK (some [0, 2, 11]) (runO E n0 g h.length o145_4 s h) := k_reg0
@[simp] theorem q145_5 : runF E n0 g c145_5 s h = regK (some [0, 2]) (runO E n0 g h.length o145_5 s h) := k_reg0
@[simp] theorem q145_6 : runF E n0 g c145_6 s h = regK (some [0, 2, 3]) (runO E n0 g h.length o145_6 s (h ++ [(.cells [(.int .i64 0), (.int .i64 0), (.str []), (.int .i64 0), (.sl .full [])])])) := k_reg
@[simp] theorem q145_7 : runF E n0 g c145_7 s h = regK (some [2, 3]) (runO E n0 g h.length o145_7 s h) := k_reg0
@[simp] theorem q145_8 : runF E n0 g c145_8 s h = regK (some [2]) (runO E n0 g h.length o145_8 s h) := k_reg0
@[simp] theorem q145_9 : runF E n0 g c145_9 s h = seqK E n0 g .ret (runF E n0 g c145_8 s h) := k_seq
@[simp] theorem q145_10 : runF E n0 g c145_10 s h = seqK E n0 g c145_9 (runF E n0 g c145_7 s h) := k_seq
@[simp] theorem q145_11 : runF E n0 g c145_11 s h = seqK E n0 g c145_10 (runF E n0 g c145_6 s h) := k_seq
@[simp] theorem q145_12 : runF E n0 g c145_12 s h = seqK E n0 g c145_11 (runF E n0 g c145_5 s h) := k_seq
@[simp] theorem q145_13 : runF E n0 g c145_13 s h = condK E n0 g c145_12 .skip s h (get s 11) := k_cond
@[simp] theorem q145_14 : runF E n0 g c145_14 s h = seqK E n0 g c145_13 (runF E n0 g c145_4 s h) := k_seq
@[simp] theorem q145_15 : runF E n0 g c145_15 s h = condK E n0 g c145_3 c145_14 s h (get s 6) := k_cond
@[simp] theorem q145_16 : runF E n0 g c145_16 s h = seqK E n0 g c145_15 (runF E n0 g c145_1 s h) := k_seq
@[simp] theorem q145_17 : runF E n0 g c145_17 s h = blkK (some [0, 2]) 0 (runF E n0 g c145_16 s h) := k_block
@[simp] theorem q145_18 : runF E n0 g c145_18 s h = regK (some [0, 2, 4]) (runO E n0 g h.length o145_18 s h) := k_reg0
@[simp] theorem q145_19 : runF E n0 g c145_19 s h = regK (some [0, 2, 4, 30]) (runO E n0 g h.length o145_19 s h) := k_reg0
@[simp] theorem q145_20 : runF E n0 g c145_20 s h = regK (some [2]) (runO E n0 g h.length o145_20 s h) := k_reg0
@[simp] theorem q145_21 : runF E n0 g c145_21 s h = seqK E n0 g .ret (runF E n0 g c145_20 s h) := k_seq
@[simp] theorem q145_22 : runF E n0 g c145_22 s h = condK E n0 g c145_21 .skip s h (get s 30) := k_cond
@[simp] theorem q145_23 : runF E n0 g c145_23 s h = seqK E n0 g c145_22 (runF E n0 g c145_19 s h) := k_seq
@[simp] theorem q145_24 : runF E n0 g c145_24 s h = regK (some [0, 2, 4]) (runO E n0 g h.length o145_24 s h) := k_reg0
@[simp] theorem q145_25 : runF E n0 g c145_25 s h = regK (some [0, 2, 4, 5]) (runO E n0 g h.length o145_25 s (h ++ [(.cells [(.int .i64 0), (.int .i64 0), (.str []), (.int .i64 0), (.sl .full [])])])) := k_reg
@[simp] theorem q145_26 : runF E n0 g c145_26 s h = regK (some [2, 4, 5]) (runO E n0 g h.length o145_26 s h) := k_reg0
@[simp] theorem q145_27 : runF E n0 g c145_27 s h = regK (some [2]) (runO E n0 g h.length o145_27 s h) := k_reg0
@[simp] theorem q145_28 : runF E n0 g c145_28 s h = seqK E n0 g .ret (runF E n0 g c145_27 s h) := k_seq
@[simp] theorem q145_29 : runF E n0 g c145_29 s h = seqK E n0 g c145_28 (runF E n0 g c145_26 s h) := k_seq
@[simp] theorem q145_30 : runF E n0 g c145_30 s h = seqK E n0 g c145_29 (runF E n0 g c145_25 s h) := k_seq
@[simp] theorem q145_31 : runF E n0 g c145_31 s h = seqK E n0 g c145_30 (runF E n0 g c145_24 s h) := k_seq
@[simp] theorem q145_32 : runF E n0 g c145_32 s h = seqK E n0 g c145_31 (runF E n0 g c145_23 s h) := k_seq
@[simp] theorem q145_33 : runF E n0 g c145_33 s h = seqK E n0 g c145_32 (runF E n0 g c145_18 s h) := k_seq
@[simp] theorem q145_34 : runF E n0 g c145_34 s h = seqK E n0 g c145_33 (runF E n0 g c145_17 s h) := k_seq
@[simp] theorem q145_35 : runF E n0 g c145_35 s h = seqK E n0 g c145_34 (runF E n0 g c145_0 s h) := k_seq
@[simp] theorem qq145 : runF E n0 g c145 s h = runF E n0 g c145_35 s h := rfl
@[simp] theorem q149_0 : runF E n0 g c149_0 s h = regK (some [0]) (runO E n0 g h.length o149_0 s h) := k_reg0
@[simp] theorem q149_1 : runF E n0 g c149_1 s h = regK (some [0, 14]) (runO E n0 g h.length o149_1 s h) := k_reg0
@[simp] theorem q149_2 : runF E n0 g c149_2 s h = regK (some [4, 5]) (runO E n0 g h.length o149_2 s h) := k_reg0
@[simp] theorem q149_3 : runF E n0 g c149_3 s h = regK (some [2, 3]) (runO E n0 g h.length o149_3 s h) := k_reg0
@[simp] theorem q149_4 : runF E n0 g c149_4 s h = seqK E n0 g .ret (runF E n0 g c149_3 s h) := k_seq
@[simp] theorem q149_5 : runF E n0 g c149_5 s h = seqK E n0 g c149_4 (runF E n0 g c149_2 s h) := k_seq
@[simp] theorem q149_6 : runF E n0 g c149_6 s h = condK E n0 g c149_5 .skip s h (get s 14) := k_cond
@[simp] theorem q149_7 : runF E n0 g c149_7 s h = seqK E n0 g c149_6 (runF E n0 g c149_1 s h) := k_seq
@[simp] theorem q149_8 : runF E n0 g c149_8 s h = regK (some [6, 7]) (runO E n0 g h.length o149_8 s h) := k_reg0
@[simp] theorem q149_9 : runF E n0 g c149_9 s h = regK (some [6, 34]) (runO E n0 g h.length o149_9 s h) := k_reg0
@[simp] theorem q149_10 : runF E n0 g c149_10 s h = regK (some [2, 3]) (runO E n0 g h.length o149_10 s h) := k_reg0
@[simp] theorem q149_11 : runF E n0 g c149_11 s h = seqK E n0 g .ret (runF E n0 g c149_10 s h) := k_seq
@[simp] theorem q149_12 : runF E n0 g c149_12 s h = condK E n0 g c149_11 .skip s h (get s 34) := k_cond
@[simp] theorem q149_13 : runF E n0 g c149_13 s h = seqK E n0 g c149_12 (runF E n0 g c149_9 s h) := k_seq
@[simp] theorem q149_14 : runF E n0 g c149_14 s h = regK (some [2, 3]) (runO E n0 g h.length o149_14 s h) := k_reg0
@[simp] theorem q149_15 : runF E n0 g c149_15 s h = seqK E n0 g .ret (runF E n0 g c149_14 s h) := k_seq
@[simp] theorem q149_16 : runF E n0 g c149_16 s h = seqK E n0 g c149_15 (runF E n0 g c149_13 s h) := k_seq
@[simp] theorem q149_17 : runF E n0 g c149_17 s h = seqK E n0 g c149_16 (runF E n0 g c149_8 s h) := k_seq
@[simp] theorem q149_18 : runF E n0 g c149_18 s h = seqK E n0 g c149_17 (runF E n0 g c149_7 s h) := k_seq
@[simp] theorem q149_19 : runF E n0 g c149_19 s h = seqK E n0 g c149_18 (runF E n0 g c149_0 s h) := k_seq
@[simp] theorem qq149 : runF E n0 g c149 s h = runF E n0 g c149_19 s h := rfl
end Go.Proofs.Ytkomfefpfalajaa
