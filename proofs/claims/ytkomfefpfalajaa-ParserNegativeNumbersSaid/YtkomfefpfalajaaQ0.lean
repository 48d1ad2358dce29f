/- How each piece of code is run. Printed by a program of ours. -/
import Derived.Test.YtkomfefpfalajaaAcEnv
import Derived.Test.YtkomfefpfalajaaAb6
namespace Go.Proofs.Ytkomfefpfalajaa
open Go Go.Proofs Ab
set_option maxRecDepth 100000
variable {E : Env} {n0 : Nat} {g : Bool} {s : Slots} {h : Heap}
@[simp] theorem q11_0 : runF E n0 g c11_0 s h = regK (some [0, 2, 3]) (runO E n0 g h.length [⟨(some 2), (.al 0 [(.sl .full []), (.sl .full [])]), none⟩, ⟨(some 3), (.al 1 [(.int .i64 0), (.int .i64 0)]), none⟩] s (h ++ [(.cells [(.sl .full []), (.sl .full [])]), (.cells [(.int .i64 0), (.int .i64 0)])])) := k_reg
@[simp] theorem q11_1 : runF E n0 g c11_1 s h = regK (some [0, 2, 3, 4, 5]) (runO E n0 g h.length [⟨(some 10), (.mv (.t 0)), none⟩, ⟨(some 11), (.call 21 [(.t 10)]), none⟩, ⟨(some 9), (.mv (.t 11)), none⟩, ⟨(some 12), (.ext (.t 9) 0), none⟩, ⟨(some 13), (.ext (.t 9) 1), none⟩, ⟨(some 5), (.al 0 [(.int .i64 0), (.int .i64 0)]), none⟩, ⟨(some 4), (.mv (.t 12)), none⟩, ⟨none, (.st 2 (.t 5) (.t 13)), none⟩] s (h ++ [(.cells [(.int .i64 0), (.int .i64 0)])])) := k_reg
@[simp] theorem q11_2 : runF E n0 g c11_2 s h = regK (some [0, 2, 3, 4, 5, 16]) (runO E n0 g h.length [⟨(some 14), (.fa 0 (.t 5)), none⟩, ⟨(some 15), (.ld false 1 (.t 14)), none⟩, ⟨(some 16), (.bin .neq (.t 15) (.c (.int .i64 0))), none⟩] s h) := k_reg0
@[simp] theorem q11_3 : runF E n0 g c11_3 s h = regT (some [2, 3]) [(1, [2])] (runTr E n0 g h.length [⟨(some 17), (.bld [(.sl .full []), (.sl .full [])] []), none⟩, ⟨(some 18), (.ld true 2 (.t 5)), none⟩, ⟨none, (.st 2 (.t 2) (.t 17)), none⟩, ⟨none, (.st 2 (.t 3) (.t 18)), none⟩] s h []) := by rw [show c11_3 = .reg (some [2, 3]) [] [⟨(some 17), (.bld [(.sl .full []), (.sl .full [])] []), none⟩, ⟨(some 18), (.ld true 2 (.t 5)), none⟩, ⟨none, (.st 2 (.t 2) (.t 17)), none⟩, ⟨none, (.st 2 (.t 3) (.t 18)), none⟩] (some [(1, [2])]) from rfl, k_regd, List.append_nil]
@[simp] theorem q11_4 : runF E n0 g c11_4 s h = seqK E n0 g .ret (runF E n0 g c11_3 s h) := k_seq
@[simp] theorem q11_5 : runF E n0 g c11_5 s h = condK E n0 g c11_4 .skip s h (get s 16) := k_cond
@[simp] theorem q11_6 : runF E n0 g c11_6 s h = seqK E n0 g c11_5 (runF E n0 g c11_2 s h) := k_seq
@[simp] theorem q11_7 : runF E n0 g c11_7 s h = regK (some [2, 3, 4, 6]) (runO E n0 g h.length [⟨(some 19), (.mv (.t 4)), none⟩, ⟨(some 20), (.mv (.t 0)), none⟩, ⟨(some 21), (.lens (.t 20)), none⟩, ⟨(some 22), (.bld [(.sl .full []), (.int .i64 0), (.int .i64 0), (.bool false)] [(0, (1, (.t 19))), (2, (1, (.t 21)))]), none⟩, ⟨(some 23), (.bx 0 (.t 22)), none⟩, ⟨(some 6), (.mv (.t 23)), none⟩] s (h ++ [.dead])) := k_reg
@[simp] theorem q11_8 : runF E n0 g c11_8 s h = regK (some [2, 3, 4, 6, 7]) (runO E n0 g h.length [⟨(some 7), (.al 0 [(.sl .full []), (.sl .full [])]), none⟩] s (h ++ [(.cells [(.sl .full []), (.sl .full [])])])) := k_reg
@[simp] theorem q11_9 : runF E n0 g c11_9 s h = regK (some [2, 3, 4, 6, 7, 37]) (runO E n0 g h.length [⟨(some 24), (.mv (.t 6)), none⟩, ⟨(some 25), (.nilc (.t 24)), none⟩, ⟨(some 26), (.fa 3 (.t 25)), none⟩, ⟨(some 27), (.ld false 1 (.t 26)), none⟩, ⟨(some 28), (.un .not (.t 27)), none⟩, ⟨(some 29), (.mv (.t 28)), none⟩, ⟨(some 30), (.mv (.t 6)), (some (29, true))⟩, ⟨(some 31), (.nilc (.t 30)), (some (29, true))⟩, ⟨(some 32), (.fa 1 (.t 31)), (some (29, true))⟩, ⟨(some 33), (.ld false 1 (.t 32)), (some (29, true))⟩, ⟨(some 34), (.mv (.t 4)), (some (29, true))⟩, ⟨(some 35), (.len (.t 34)), (some (29, true))⟩, ⟨(some 36), (.bin .lss (.t 33) (.t 35)), (some (29, true))⟩, ⟨(some 37), (.pick (.t 29) (.t 36) (.c (.bool false))), none⟩] s h) := k_reg0
@[simp] theorem q11_10 : runF E n0 g c11_10 s h = condK E n0 g .skip (.exit 0) s h (get s 37) := k_cond
@[simp] theorem q11_11 : runF E n0 g c11_11 s h = seqK E n0 g c11_10 (runF E n0 g c11_9 s h) := k_seq
@[simp] theorem q11_12 : runF E n0 g c11_12 s h = regK (some [2, 3, 4, 6, 7, 41]) (runO E n0 g h.length [⟨(some 42), (.mv (.t 6)), none⟩, ⟨(some 43), (.call 22 [(.t 42), (.c (.str [97, 114, 114, 97, 121]))]), none⟩, ⟨(some 41), (.mv (.t 43)), none⟩] s h) := k_reg0
@[simp] theorem q11_13 : runF E n0 g c11_13 s h = regK (some [2, 3, 4, 6, 7, 8]) (runO E n0 g h.length [⟨(some 44), (.mv (.t 6)), none⟩, ⟨(some 45), (.call 23 [(.t 44)]), none⟩, ⟨(some 46), (.mv (.t 6)), none⟩, ⟨(some 47), (.call 24 [(.t 46)]), none⟩, ⟨(some 48), (.bld [(.str []), (.int .i64 0)] [(0, (1, (.t 45))), (1, (1, (.t 47)))]), none⟩, ⟨(some 8), (.al 0 [(.str []), (.int .i64 0)]), none⟩, ⟨none, (.st 2 (.t 8) (.t 48)), none⟩] s (h ++ [(.cells [(.str []), (.int .i64 0)])])) := k_reg
@[simp] theorem q11_14 : runF E n0 g c11_14 s h = regK (some [2, 3, 4, 6, 7, 8]) (runO E n0 g h.length [⟨(some 49), (.mv (.t 6)), none⟩, ⟨(some 50), (.call 25 [(.t 49), (.c (.str [59]))]), none⟩] s h) := k_reg0
@[simp] theorem q11_15 : runF E n0 g c11_15 s h = regK (some [2, 3, 4, 6, 7]) (runO E n0 g h.length [⟨(some 51), (.fa 0 (.t 7)), none⟩, ⟨(some 52), (.ld false 1 (.t 51)), none⟩, ⟨(some 53), (.ld true 2 (.t 8)), none⟩, ⟨(some 54), (.bsl 2 (.agg [(.str []), (.int .i64 0)]) 1 [(0, (.t 53))]), none⟩, ⟨(some 55), (.app 0 2 24 (.t 52) (.t 54)), none⟩, ⟨(some 56), (.fa 0 (.t 7)), none⟩, ⟨none, (.st 1 (.t 56) (.t 55)), none⟩] s (h ++ [.dead])) := k_reg
@[simp] theorem q11_16 : runF E n0 g c11_16 s h = seqK E n0 g c11_15 (runF E n0 g c11_14 s h) := k_seq
@[simp] theorem q11_17 : runF E n0 g c11_17 s h = seqK E n0 g c11_16 (runF E n0 g c11_13 s h) := k_seq
@[simp] theorem q11_18 : runF E n0 g c11_18 s h = regK (some [2, 3, 4, 6, 7, 57]) (runO E n0 g h.length [⟨(some 58), (.mv (.t 6)), none⟩, ⟨(some 59), (.call 22 [(.t 58), (.c (.str [102, 117, 110, 99]))]), none⟩, ⟨(some 57), (.mv (.t 59)), none⟩] s h) := k_reg0
@[simp] theorem q11_19 : runF E n0 g c11_19 s h = regT (some [2, 3, 4, 6, 7]) [(1, [3])] (runTr E n0 g h.length [⟨(some 60), (.fa 1 (.t 7)), none⟩, ⟨(some 61), (.ld false 1 (.t 60)), none⟩, ⟨(some 62), (.mv (.t 6)), none⟩, ⟨(some 63), (.call 26 [(.t 62)]), none⟩, ⟨(some 64), (.bsl 9 (.agg [(.str []), (.sl .none []), (.sl .none []), (.sl .none []), (.int .i64 0), (.int .i64 0), (.str []), (.int .i64 0), (.sl .none [])]) 1 [(0, (.t 63))]), none⟩, ⟨(some 65), (.app 0 9 152 (.t 61) (.t 64)), none⟩, ⟨(some 66), (.fa 1 (.t 7)), none⟩, ⟨none, (.st 1 (.t 66) (.t 65)), none⟩] s (h ++ [.dead]) []) := k_regd
@[simp] theorem q11_20 : runF E n0 g c11_20 s h = regK (some [2, 3, 4, 6, 7]) (runO E n0 g h.length [⟨(some 38), (.mv (.t 6)), none⟩, ⟨(some 39), (.nilc (.t 38)), none⟩, ⟨(some 40), (.fa 3 (.t 39)), none⟩, ⟨none, (.st 1 (.t 40) (.c (.bool true))), none⟩] s h) := k_reg0
@[simp] theorem q11_21 : runF E n0 g c11_21 s h = condK E n0 g c11_19 c11_20 s h (get s 57) := k_cond
@[simp] theorem q11_22 : runF E n0 g c11_22 s h = seqK E n0 g c11_21 (runF E n0 g c11_18 s h) := k_seq
@[simp] theorem q11_23 : runF E n0 g c11_23 s h = condK E n0 g c11_17 c11_22 s h (get s 41) := k_cond
@[simp] theorem q11_24 : runF E n0 g c11_24 s h = seqK E n0 g c11_23 (runF E n0 g c11_12 s h) := k_seq
@[simp] theorem q11_25 : runF E n0 g c11_25 s h = blkK (some [2, 3, 4, 6, 7]) 2 (runF E n0 g c11_24 s h) := k_block
@[simp] theorem q11_26 : runF E n0 g c11_26 s h = blkK (some [2, 3, 4, 6, 7]) 1 (runF E n0 g c11_25 s h) := k_block
@[simp] theorem q11_27 : runF E n0 g c11_27 s h = seqK E n0 g c11_26 (runF E n0 g c11_11 s h) := k_seq
theorem q11_28 : runF E n0 g c11_28 s h = loopK E n0 g (some [2, 3, 4, 6, 7]) c11_27 (runF E n0 g c11_27 (clearO (some [2, 3, 4, 6, 7]) s) h) := k_loop
@[simp] theorem q11_28L : runF E n0 g (.loop (some [2, 3, 4, 6, 7]) c11_27) s h = runF E n0 g c11_28 s h := rfl
@[simp] theorem q11_29 : runF E n0 g c11_29 s h = blkK (some [2, 3, 6, 7]) 0 (runF E n0 g c11_28 s h) := k_block
@[simp] theorem q11_30 : runF E n0 g c11_30 s h = regK (some [2, 3, 6, 7, 70]) (runO E n0 g h.length [⟨(some 67), (.mv (.t 6)), none⟩, ⟨(some 68), (.nilc (.t 67)), none⟩, ⟨(some 69), (.fa 3 (.t 68)), none⟩, ⟨(some 70), (.ld false 1 (.t 69)), none⟩] s h) := k_reg0
@[simp] theorem q11_31 : runF E n0 g c11_31 s h = regK (some [2, 3]) (runO E n0 g h.length [⟨(some 71), (.bld [(.sl .full []), (.sl .full [])] []), none⟩, ⟨(some 72), (.mv (.t 6)), none⟩, ⟨(some 73), (.call 27 [(.t 72)]), none⟩, ⟨(some 74), (.bld [(.int .i64 0), (.int .i64 0)] [(0, (1, (.c (.int .i64 2)))), (1, (1, (.t 73)))]), none⟩, ⟨none, (.st 2 (.t 2) (.t 71)), none⟩, ⟨none, (.st 2 (.t 3) (.t 74)), none⟩] s h) := k_reg0
@[simp] theorem q11_32 : runF E n0 g c11_32 s h = seqK E n0 g .ret (runF E n0 g c11_31 s h) := k_seq
@[simp] theorem q11_33 : runF E n0 g c11_33 s h = condK E n0 g c11_32 .skip s h (get s 70) := k_cond
@[simp] theorem q11_34 : runF E n0 g c11_34 s h = seqK E n0 g c11_33 (runF E n0 g c11_30 s h) := k_seq
@[simp] theorem q11_35 : runF E n0 g c11_35 s h = regK (some [2, 3]) (runO E n0 g h.length [⟨(some 75), (.ld true 2 (.t 7)), none⟩, ⟨(some 76), (.bld [(.int .i64 0), (.int .i64 0)] []), none⟩, ⟨none, (.st 2 (.t 2) (.t 75)), none⟩, ⟨none, (.st 2 (.t 3) (.t 76)), none⟩] s h) := k_reg0
@[simp] theorem q11_36 : runF E n0 g c11_36 s h = seqK E n0 g .ret (runF E n0 g c11_35 s h) := k_seq
@[simp] theorem q11_37 : runF E n0 g c11_37 s h = seqK E n0 g c11_36 (runF E n0 g c11_34 s h) := k_seq
@[simp] theorem q11_38 : runF E n0 g c11_38 s h = seqK E n0 g c11_37 (runF E n0 g c11_29 s h) := k_seq
@[simp] theorem q11_39 : runF E n0 g c11_39 s h = seqK E n0 g c11_38 (runF E n0 g c11_8 s h) := k_seq
@[simp] theorem q11_40 : runF E n0 g c11_40 s h = seqK E n0 g c11_39 (runF E n0 g c11_7 s h) := k_seq
@[simp] theorem q11_41 : runF E n0 g c11_41 s h = seqK E n0 g c11_40 (runF E n0 g c11_6 s h) := k_seq
@[simp] theorem q11_42 : runF E n0 g c11_42 s h = seqK E n0 g c11_41 (runF E n0 g c11_1 s h) := k_seq
@[simp] theorem q11_43 : runF E n0 g c11_43 s h = seqK E n0 g c11_42 (runF E n0 g c11_0 s h) := k_seq
@[simp] theorem qq11 : runF E n0 g c11 s h = runF E n0 g c11_43 s h := rfl
@[simp] theorem q21_0 : runF E n0 g c21_0 s h = regK (some [0, 3]) (runO E n0 g h.length [⟨(some 2), (.mv (.c (.sl .full []))), none⟩, ⟨(some 3), (.al 0 [(.int .i64 0), (.int .i64 0)]), none⟩] s (h ++ [(.cells [(.int .i64 0), (.int .i64 0)])])) := k_reg
@[simp] theorem q21_1 : runF E n0 g c21_1 s h = regK (some [0, 3, 10]) (runO E n0 g h.length [⟨(some 8), (.mv (.t 0)), none⟩, ⟨(some 9), (.lens (.t 8)), none⟩, ⟨(some 10), (.bin .gtr (.t 9) (.c (.int .i64 20000))), none⟩] s h) := k_reg0
@[simp] theorem q21_2 : runF E n0 g c21_2 s h = regK (some [2, 3]) (runO E n0 g h.length [⟨(some 11), (.bld [(.int .i64 0), (.int .i64 0)] [(0, (1, (.c (.int .i64 6)))), (1, (1, (.c (.int .i64 20000))))]), none⟩, ⟨(some 2), (.mv (.c (.sl .full []))), none⟩, ⟨none, (.st 2 (.t 3) (.t 11)), none⟩] s h) := k_reg0
@[simp] theorem q21_3 : runF E n0 g c21_3 s h = seqK E n0 g .ret (runF E n0 g c21_2 s h) := k_seq
@[simp] theorem q21_4 : runF E n0 g c21_4 s h = condK E n0 g c21_3 .skip s h (get s 10) := k_cond
@[simp] theorem q21_5 : runF E n0 g c21_5 s h = seqK E n0 g c21_4 (runF E n0 g c21_1 s h) := k_seq
@[simp] theorem q21_6 : runF E n0 g c21_6 s h = regK (some [0, 3, 4]) (runO E n0 g h.length [⟨(some 4), (.mv (.c (.sl .full []))), none⟩] s h) := k_reg0
@[simp] theorem q21_7 : runF E n0 g c21_7 s h = regK (some [0, 3, 4, 5]) (runO E n0 g h.length [⟨(some 12), (.mv (.t 0)), none⟩, ⟨(some 13), (.call 51 [(.t 12)]), none⟩, ⟨(some 5), (.mv (.t 13)), none⟩] s h) := k_reg0
@[simp] theorem q21_8 : runF E n0 g c21_8 s h = regK (some [0, 3, 4, 5, 17]) (runO E n0 g h.length [⟨(some 14), (.mv (.t 5)), none⟩, ⟨(some 15), (.mv (.t 0)), none⟩, ⟨(some 16), (.lens (.t 15)), none⟩, ⟨(some 17), (.bin .lss (.t 14) (.t 16)), none⟩] s h) := k_reg0
@[simp] theorem q21_9 : runF E n0 g c21_9 s h = condK E n0 g .skip (.exit 0) s h (get s 17) := k_cond
@[simp] theorem q21_10 : runF E n0 g c21_10 s h = seqK E n0 g c21_9 (runF E n0 g c21_8 s h) := k_seq
@[simp] theorem q21_11 : runF E n0 g c21_11 s h = regK (some [0, 3, 4, 5, 6, 7]) (runO E n0 g h.length [⟨(some 25), (.mv (.t 0)), none⟩, ⟨(some 26), (.mv (.t 5)), none⟩, ⟨(some 27), (.sls (.t 25) (some (.t 26)) none), none⟩, ⟨(some 28), (.call 52 [(.t 27)]), none⟩, ⟨(some 24), (.mv (.t 28)), none⟩, ⟨(some 29), (.ext (.t 24) 0), none⟩, ⟨(some 30), (.ext (.t 24) 1), none⟩, ⟨(some 6), (.al 0 [(.int .i64 0), (.str []), (.int .i64 0)]), none⟩, ⟨none, (.st 3 (.t 6) (.t 29)), none⟩, ⟨(some 7), (.mv (.t 30)), none⟩] s (h ++ [(.cells [(.int .i64 0), (.str []), (.int .i64 0)])])) := k_reg
@[simp] theorem q21_12 : runF E n0 g c21_12 s h = regK (some [0, 3, 4, 5, 6, 7, 32]) (runO E n0 g h.length [⟨(some 31), (.mv (.t 7)), none⟩, ⟨(some 32), (.bin .neq (.t 31) (.c (.int .i64 0))), none⟩] s h) := k_reg0
@[simp] theorem q21_13 : runF E n0 g c21_13 s h = regK (some [2, 3]) (runO E n0 g h.length [⟨(some 33), (.mv (.t 7)), none⟩, ⟨(some 34), (.mv (.t 5)), none⟩, ⟨(some 35), (.bld [(.int .i64 0), (.int .i64 0)] [(0, (1, (.t 33))), (1, (1, (.t 34)))]), none⟩, ⟨(some 2), (.mv (.c (.sl .full []))), none⟩, ⟨none, (.st 2 (.t 3) (.t 35)), none⟩] s h) := k_reg0
@[simp] theorem q21_14 : runF E n0 g c21_14 s h = seqK E n0 g .ret (runF E n0 g c21_13 s h) := k_seq
@[simp] theorem q21_15 : runF E n0 g c21_15 s h = condK E n0 g c21_14 .skip s h (get s 32) := k_cond
@[simp] theorem q21_16 : runF E n0 g c21_16 s h = seqK E n0 g c21_15 (runF E n0 g c21_12 s h) := k_seq
@[simp] theorem q21_17 : runF E n0 g c21_17 s h = regK (some [0, 3, 4, 5, 6]) (runO E n0 g h.length [⟨(some 36), (.mv (.t 5)), none⟩, ⟨(some 37), (.fa 2 (.t 6)), none⟩, ⟨none, (.st 1 (.t 37) (.t 36)), none⟩] s h) := k_reg0
@[simp] theorem q21_18 : runF E n0 g c21_18 s h = regK (some [0, 3, 4, 5, 6]) (runO E n0 g h.length [⟨(some 38), (.mv (.t 4)), none⟩, ⟨(some 39), (.ld true 3 (.t 6)), none⟩, ⟨(some 40), (.bsl 3 (.agg [(.int .i64 0), (.str []), (.int .i64 0)]) 1 [(0, (.t 39))]), none⟩, ⟨(some 41), (.app 0 3 32 (.t 38) (.t 40)), none⟩, ⟨(some 4), (.mv (.t 41)), none⟩] s (h ++ [.dead])) := k_reg
@[simp] theorem q21_19 : runF E n0 g c21_19 s h = regK (some [0, 3, 4, 5]) (runO E n0 g h.length [⟨(some 42), (.mv (.t 5)), none⟩, ⟨(some 43), (.fa 1 (.t 6)), none⟩, ⟨(some 44), (.ld false 1 (.t 43)), none⟩, ⟨(some 45), (.lens (.t 44)), none⟩, ⟨(some 46), (.bin .add (.t 42) (.t 45)), none⟩, ⟨(some 5), (.mv (.t 46)), none⟩] s h) := k_reg0
@[simp] theorem q21_20 : runF E n0 g c21_20 s h = seqK E n0 g c21_19 (runF E n0 g c21_18 s h) := k_seq
@[simp] theorem q21_21 : runF E n0 g c21_21 s h = seqK E n0 g c21_20 (runF E n0 g c21_17 s h) := k_seq
@[simp] theorem q21_22 : runF E n0 g c21_22 s h = seqK E n0 g c21_21 (runF E n0 g c21_16 s h) := k_seq
@[simp] theorem q21_23 : runF E n0 g c21_23 s h = seqK E n0 g c21_22 (runF E n0 g c21_11 s h) := k_seq
@[simp] theorem q21_24 : runF E n0 g c21_24 s h = blkK (some [0, 3, 4, 5]) 1 (runF E n0 g c21_23 s h) := k_block
@[simp] theorem q21_25 : runF E n0 g c21_25 s h = regK (some [0, 3, 4, 5]) (runO E n0 g h.length [⟨(some 18), (.mv (.t 5)), none⟩, ⟨(some 19), (.mv (.t 0)), none⟩, ⟨(some 20), (.mv (.t 5)), none⟩, ⟨(some 21), (.sls (.t 19) (some (.t 20)) none), none⟩, ⟨(some 22), (.call 51 [(.t 21)]), none⟩, ⟨(some 23), (.bin .add (.t 18) (.t 22)), none⟩, ⟨(some 5), (.mv (.t 23)), none⟩] s h) := k_reg0
@[simp] theorem q21_26 : runF E n0 g c21_26 s h = seqK E n0 g c21_25 (runF E n0 g c21_24 s h) := k_seq
@[simp] theorem q21_27 : runF E n0 g c21_27 s h = seqK E n0 g c21_26 (runF E n0 g c21_10 s h) := k_seq
theorem q21_28 : runF E n0 g c21_28 s h = loopK E n0 g (some [0, 3, 4, 5]) c21_27 (runF E n0 g c21_27 (clearO (some [0, 3, 4, 5]) s) h) := k_loop
@[simp] theorem q21_28L : runF E n0 g (.loop (some [0, 3, 4, 5]) c21_27) s h = runF E n0 g c21_28 s h := rfl
@[simp] theorem q21_29 : runF E n0 g c21_29 s h = blkK (some [3, 4]) 0 (runF E n0 g c21_28 s h) := k_block
@[simp] theorem q21_30 : runF E n0 g c21_30 s h = seqK E n0 g c21_29 (runF E n0 g c21_7 s h) := k_seq
@[simp] theorem q21_31 : runF E n0 g c21_31 s h = regK (some [2, 3]) (runO E n0 g h.length [⟨(some 47), (.mv (.t 4)), none⟩, ⟨(some 48), (.bld [(.int .i64 0), (.int .i64 0)] []), none⟩, ⟨(some 2), (.mv (.t 47)), none⟩, ⟨none, (.st 2 (.t 3) (.t 48)), none⟩] s h) := k_reg0
@[simp] theorem q21_32 : runF E n0 g c21_32 s h = seqK E n0 g .ret (runF E n0 g c21_31 s h) := k_seq
@[simp] theorem q21_33 : runF E n0 g c21_33 s h = seqK E n0 g c21_32 (runF E n0 g c21_30 s h) := k_seq
@[simp] theorem q21_34 : runF E n0 g c21_34 s h = seqK E n0 g c21_33 (runF E n0 g c21_6 s h) := k_seq
@[simp] theorem q21_35 : runF E n0 g c21_35 s h = seqK E n0 g c21_34 (runF E n0 g c21_5 s h) := k_seq
@[simp] theorem q21_36 : runF E n0 g c21_36 s h = seqK E n0 g c21_35 (runF E n0 g c21_0 s h) := k_seq
@[simp] theorem qq21 : runF E n0 g c21 s h = runF E n0 g c21_36 s h := rfl
@[simp] theorem q22_0 : runF E n0 g c22_0 s h = regK (some [0, 1]) (runO E n0 g h.length [⟨(some 4), (.mv (.c (.bool false))), none⟩] s h) := k_reg0
@[simp] theorem q22_1 : runF E n0 g c22_1 s h = regK (some [0, 1, 5]) (runO E n0 g h.length [⟨(some 6), (.mv (.t 0)), none⟩, ⟨(some 7), (.call 53 [(.t 6)]), none⟩, ⟨(some 5), (.al 0 [(.int .i64 0), (.str []), (.int .i64 0)]), none⟩, ⟨none, (.st 3 (.t 5) (.t 7)), none⟩] s (h ++ [(.cells [(.int .i64 0), (.str []), (.int .i64 0)])])) := k_reg
@[simp] theorem q22_2 : runF E n0 g c22_2 s h = regK (some [0, 16]) (runO E n0 g h.length [⟨(some 8), (.fa 0 (.t 5)), none⟩, ⟨(some 9), (.ld false 1 (.t 8)), none⟩, ⟨(some 10), (.bin .neq (.t 9) (.c (.int .i64 1))), none⟩, ⟨(some 11), (.mv (.t 10)), none⟩, ⟨(some 12), (.fa 1 (.t 5)), (some (11, false))⟩, ⟨(some 13), (.ld false 1 (.t 12)), (some (11, false))⟩, ⟨(some 14), (.mv (.t 1)), (some (11, false))⟩, ⟨(some 15), (.bin .neq (.t 13) (.t 14)), (some (11, false))⟩, ⟨(some 16), (.pick (.t 11) (.c (.bool true)) (.t 15)), none⟩] s h) := k_reg0
@[simp] theorem q22_3 : runF E n0 g c22_3 s h = regK (some [4]) (runO E n0 g h.length [⟨(some 4), (.mv (.c (.bool false))), none⟩] s h) := k_reg0
@[simp] theorem q22_4 : runF E n0 g c22_4 s h = seqK E n0 g .ret (runF E n0 g c22_3 s h) := k_seq
@[simp] theorem q22_5 : runF E n0 g c22_5 s h = condK E n0 g c22_4 .skip s h (get s 16) := k_cond
@[simp] theorem q22_6 : runF E n0 g c22_6 s h = seqK E n0 g c22_5 (runF E n0 g c22_2 s h) := k_seq
@[simp] theorem q22_7 : runF E n0 g c22_7 s h = regK (some []) (runO E n0 g h.length [⟨(some 17), (.mv (.t 0)), none⟩, ⟨(some 18), (.nilc (.t 17)), none⟩, ⟨(some 19), (.fa 1 (.t 18)), none⟩, ⟨(some 20), (.ld false 1 (.t 19)), none⟩, ⟨(some 21), (.bin .add (.t 20) (.c (.int .i64 1))), none⟩, ⟨(some 22), (.nilc (.t 17)), none⟩, ⟨(some 23), (.fa 1 (.t 22)), none⟩, ⟨none, (.st 1 (.t 23) (.t 21)), none⟩] s h) := k_reg0
@[simp] theorem q22_8 : runF E n0 g c22_8 s h = regK (some [4]) (runO E n0 g h.length [⟨(some 4), (.mv (.c (.bool true))), none⟩] s h) := k_reg0
@[simp] theorem q22_9 : runF E n0 g c22_9 s h = seqK E n0 g .ret (runF E n0 g c22_8 s h) := k_seq
@[simp] theorem q22_10 : runF E n0 g c22_10 s h = seqK E n0 g c22_9 (runF E n0 g c22_7 s h) := k_seq
@[simp] theorem q22_11 : runF E n0 g c22_11 s h = seqK E n0 g c22_10 (runF E n0 g c22_6 s h) := k_seq
@[simp] theorem q22_12 : runF E n0 g c22_12 s h = seqK E n0 g c22_11 (runF E n0 g c22_1 s h) := k_seq
@[simp] theorem q22_13 : runF E n0 g c22_13 s h = seqK E n0 g c22_12 (runF E n0 g c22_0 s h) := k_seq
@[simp] theorem qq22 : runF E n0 g c22 s h = runF E n0 g c22_13 s h := rfl
@[simp] theorem q23_0 : runF E n0 g c23_0 s h = regK (some [0]) (runO E n0 g h.length [⟨(some 2), (.mv (.c (.str []))), none⟩] s h) := k_reg0
@[simp] theorem q23_1 : runF E n0 g c23_1 s h = regK (some [0, 5]) (runO E n0 g h.length [⟨(some 3), (.mv (.t 0)), none⟩, ⟨(some 4), (.call 54 [(.t 3)]), none⟩, ⟨(some 5), (.un .not (.t 4)), none⟩] s h) := k_reg0
@[simp] theorem q23_2 : runF E n0 g c23_2 s h = regK (some []) (runO E n0 g h.length [⟨(some 6), (.mv (.t 0)), none⟩, ⟨(some 7), (.nilc (.t 6)), none⟩, ⟨(some 8), (.fa 3 (.t 7)), none⟩, ⟨none, (.st 1 (.t 8) (.c (.bool true))), none⟩] s h) := k_reg0
@[simp] theorem q23_3 : runF E n0 g c23_3 s h = regK (some [2]) (runO E n0 g h.length [⟨(some 2), (.mv (.c (.str []))), none⟩] s h) := k_reg0
@[simp] theorem q23_4 : runF E n0 g c23_4 s h = seqK E n0 g .ret (runF E n0 g c23_3 s h) := k_seq
@[simp] theorem q23_5 : runF E n0 g c23_5 s h = seqK E n0 g c23_4 (runF E n0 g c23_2 s h) := k_seq
@[simp] theorem q23_6 : runF E n0 g c23_6 s h = condK E n0 g c23_5 .skip s h (get s 5) := k_cond
@[simp] theorem q23_7 : runF E n0 g c23_7 s h = seqK E n0 g c23_6 (runF E n0 g c23_1 s h) := k_seq
@[simp] theorem q23_8 : runF E n0 g c23_8 s h = regK (some [0]) (runO E n0 g h.length [⟨(some 9), (.mv (.t 0)), none⟩, ⟨(some 10), (.nilc (.t 9)), none⟩, ⟨(some 11), (.fa 1 (.t 10)), none⟩, ⟨(some 12), (.ld false 1 (.t 11)), none⟩, ⟨(some 13), (.bin .add (.t 12) (.c (.int .i64 1))), none⟩, ⟨(some 14), (.nilc (.t 9)), none⟩, ⟨(some 15), (.fa 1 (.t 14)), none⟩, ⟨none, (.st 1 (.t 15) (.t 13)), none⟩] s h) := k_reg0
@[simp] theorem q23_9 : runF E n0 g c23_9 s h = regK (some [2]) (runO E n0 g h.length [⟨(some 16), (.mv (.t 0)), none⟩, ⟨(some 17), (.nilc (.t 16)), none⟩, ⟨(some 18), (.fa 0 (.t 17)), none⟩, ⟨(some 19), (.ld false 1 (.t 18)), none⟩, ⟨(some 20), (.mv (.t 0)), none⟩, ⟨(some 21), (.nilc (.t 20)), none⟩, ⟨(some 22), (.fa 1 (.t 21)), none⟩, ⟨(some 23), (.ld false 1 (.t 22)), none⟩, ⟨(some 24), (.bin .sub (.t 23) (.c (.int .i64 1))), none⟩, ⟨(some 25), (.ia 3 (.t 19) (.t 24)), none⟩, ⟨(some 26), (.fa 1 (.t 25)), none⟩, ⟨(some 27), (.ld false 1 (.t 26)), none⟩, ⟨(some 2), (.mv (.t 27)), none⟩] s h) := by rw [show c23_9 = .reg (some [2]) [] [⟨(some 16), (.mv (.t 0)), none⟩, ⟨(some 17), (.nilc (.t 16)), none⟩, ⟨(some 18), (.fa 0 (.t 17)), none⟩, ⟨(some 19), (.ld false 1 (.t 18)), none⟩, ⟨(some 20), (.mv (.t 0)), none⟩, ⟨(some 21), (.nilc (.t 20)), none⟩, ⟨(some 22), (.fa 1 (.t 21)), none⟩, ⟨(some 23), (.ld false 1 (.t 22)), none⟩, ⟨(some 24), (.bin .sub (.t 23) (.c (.int .i64 1))), none⟩, ⟨(some 25), (.ia 3 (.t 19) (.t 24)), none⟩, ⟨(some 26), (.fa 1 (.t 25)), none⟩, ⟨(some 27), (.ld false 1 (.t 26)), none⟩, ⟨(some 2), (.mv (.t 27)), none⟩] (some []) from rfl, k_regd0, List.append_nil]
@[simp] theorem q23_10 : runF E n0 g c23_10 s h = seqK E n0 g .ret (runF E n0 g c23_9 s h) := k_seq
@[simp] theorem q23_11 : runF E n0 g c23_11 s h = seqK E n0 g c23_10 (runF E n0 g c23_8 s h) := k_seq
@[simp] theorem q23_12 : runF E n0 g c23_12 s h = seqK E n0 g c23_11 (runF E n0 g c23_7 s h) := k_seq
@[simp] theorem q23_13 : runF E n0 g c23_13 s h = seqK E n0 g c23_12 (runF E n0 g c23_0 s h) := k_seq
@[simp] theorem qq23 : runF E n0 g c23 s h = runF E n0 g c23_13 s h := rfl
@[simp] theorem q24_0 : runF E n0 g c24_0 s h = regK (some [0]) (runO E n0 g h.length [⟨(some 2), (.mv (.c (.int .i64 0))), none⟩] s h) := k_reg0
@[simp] theorem q24_1 : runF E n0 g c24_1 s h = regK (some [0, 3]) (runO E n0 g h.length [⟨(some 6), (.mv (.t 0)), none⟩, ⟨(some 7), (.call 53 [(.t 6)]), none⟩, ⟨(some 3), (.al 0 [(.int .i64 0), (.str []), (.int .i64 0)]), none⟩, ⟨none, (.st 3 (.t 3) (.t 7)), none⟩] s (h ++ [(.cells [(.int .i64 0), (.str []), (.int .i64 0)])])) := k_reg
@[simp] theorem q24_2 : runF E n0 g c24_2 s h = regK (some [0, 3, 4, 5]) (runO E n0 g h.length [⟨(some 9), (.fa 1 (.t 3)), none⟩, ⟨(some 10), (.ld false 1 (.t 9)), none⟩, ⟨(some 11), (.call 55 [(.t 10)]), none⟩, ⟨(some 8), (.mv (.t 11)), none⟩, ⟨(some 12), (.ext (.t 8) 0), none⟩, ⟨(some 13), (.ext (.t 8) 1), none⟩, ⟨(some 4), (.mv (.t 12)), none⟩, ⟨(some 5), (.mv (.t 13)), none⟩] s h) := k_reg0
@[simp] theorem q24_3 : runF E n0 g c24_3 s h = regK (some [0, 4, 24]) (runO E n0 g h.length [⟨(some 14), (.fa 0 (.t 3)), none⟩, ⟨(some 15), (.ld false 1 (.t 14)), none⟩, ⟨(some 16), (.bin .neq (.t 15) (.c (.int .i64 2))), none⟩, ⟨(some 17), (.mv (.t 16)), none⟩, ⟨(some 18), (.mv (.t 5)), (some (17, false))⟩, ⟨(some 19), (.un .not (.t 18)), (some (17, false))⟩, ⟨(some 20), (.pick (.t 17) (.c (.bool true)) (.t 19)), none⟩, ⟨(some 21), (.mv (.t 20)), none⟩, ⟨(some 22), (.mv (.t 4)), (some (21, false))⟩, ⟨(some 23), (.bin .gtr (.t 22) (.c (.int .i64 1000000))), (some (21, false))⟩, ⟨(some 24), (.pick (.t 21) (.c (.bool true)) (.t 23)), none⟩] s h) := k_reg0
@[simp] theorem q24_4 : runF E n0 g c24_4 s h = regK (some []) (runO E n0 g h.length [⟨(some 25), (.mv (.t 0)), none⟩, ⟨(some 26), (.nilc (.t 25)), none⟩, ⟨(some 27), (.fa 3 (.t 26)), none⟩, ⟨none, (.st 1 (.t 27) (.c (.bool true))), none⟩] s h) := k_reg0
@[simp] theorem q24_5 : runF E n0 g c24_5 s h = regK (some [2]) (runO E n0 g h.length [⟨(some 2), (.mv (.c (.int .i64 0))), none⟩] s h) := k_reg0
@[simp] theorem q24_6 : runF E n0 g c24_6 s h = seqK E n0 g .ret (runF E n0 g c24_5 s h) := k_seq
@[simp] theorem q24_7 : runF E n0 g c24_7 s h = seqK E n0 g c24_6 (runF E n0 g c24_4 s h) := k_seq
@[simp] theorem q24_8 : runF E n0 g c24_8 s h = condK E n0 g c24_7 .skip s h (get s 24) := k_cond
@[simp] theorem q24_9 : runF E n0 g c24_9 s h = seqK E n0 g c24_8 (runF E n0 g c24_3 s h) := k_seq
@[simp] theorem q24_10 : runF E n0 g c24_10 s h = regK (some [4]) (runO E n0 g h.length [⟨(some 28), (.mv (.t 0)), none⟩, ⟨(some 29), (.nilc (.t 28)), none⟩, ⟨(some 30), (.fa 1 (.t 29)), none⟩, ⟨(some 31), (.ld false 1 (.t 30)), none⟩, ⟨(some 32), (.bin .add (.t 31) (.c (.int .i64 1))), none⟩, ⟨(some 33), (.nilc (.t 28)), none⟩, ⟨(some 34), (.fa 1 (.t 33)), none⟩, ⟨none, (.st 1 (.t 34) (.t 32)), none⟩] s h) := k_reg0
@[simp] theorem q24_11 : runF E n0 g c24_11 s h = regK (some [2]) (runO E n0 g h.length [⟨(some 35), (.mv (.t 4)), none⟩, ⟨(some 2), (.mv (.t 35)), none⟩] s h) := k_reg0
@[simp] theorem q24_12 : runF E n0 g c24_12 s h = seqK E n0 g .ret (runF E n0 g c24_11 s h) := k_seq
@[simp] theorem q24_13 : runF E n0 g c24_13 s h = seqK E n0 g c24_12 (runF E n0 g c24_10 s h) := k_seq
@[simp] theorem q24_14 : runF E n0 g c24_14 s h = seqK E n0 g c24_13 (runF E n0 g c24_9 s h) := k_seq
@[simp] theorem q24_15 : runF E n0 g c24_15 s h = seqK E n0 g c24_14 (runF E n0 g c24_2 s h) := k_seq
@[simp] theorem q24_16 : runF E n0 g c24_16 s h = seqK E n0 g c24_15 (runF E n0 g c24_1 s h) := k_seq
@[simp] theorem q24_17 : runF E n0 g c24_17 s h = seqK E n0 g c24_16 (runF E n0 g c24_0 s h) := k_seq
@[simp] theorem qq24 : runF E n0 g c24 s h = runF E n0 g c24_17 s h := rfl
@[simp] theorem q25_0 : runF E n0 g c25_0 s h = regK (some [0, 7]) (runO E n0 g h.length [⟨(some 4), (.mv (.t 0)), none⟩, ⟨(some 5), (.mv (.t 1)), none⟩, ⟨(some 6), (.call 56 [(.t 4), (.t 5)]), none⟩, ⟨(some 7), (.un .not (.t 6)), none⟩] s h) := k_reg0
@[simp] theorem q25_1 : runF E n0 g c25_1 s h = regK (some []) (runO E n0 g h.length [⟨(some 8), (.mv (.t 0)), none⟩, ⟨(some 9), (.nilc (.t 8)), none⟩, ⟨(some 10), (.fa 3 (.t 9)), none⟩, ⟨none, (.st 1 (.t 10) (.c (.bool true))), none⟩] s h) := k_reg0
@[simp] theorem q25_2 : runF E n0 g c25_2 s h = condK E n0 g c25_1 .skip s h (get s 7) := k_cond
@[simp] theorem q25_3 : runF E n0 g c25_3 s h = seqK E n0 g c25_2 (runF E n0 g c25_0 s h) := k_seq
@[simp] theorem qq25 : runF E n0 g c25 s h = runF E n0 g c25_3 s h := rfl
@[simp] theorem q26_0 : runF E n0 g c26_0 s h = regK (some [0, 2]) (runO E n0 g h.length [⟨(some 2), (.al 0 [(.str []), (.sl .full []), (.sl .full []), (.sl .full []), (.int .i64 0), (.int .i64 0), (.str []), (.int .i64 0), (.sl .full [])]), none⟩] s (h ++ [(.cells [(.str []), (.sl .full []), (.sl .full []), (.sl .full []), (.int .i64 0), (.int .i64 0), (.str []), (.int .i64 0), (.sl .full [])])])) := k_reg
@[simp] theorem q26_1 : runF E n0 g c26_1 s h = regK (some [0, 2, 3]) (runO E n0 g h.length [⟨(some 4), (.mv (.t 0)), none⟩, ⟨(some 5), (.call 23 [(.t 4)]), none⟩, ⟨(some 6), (.bld [(.str []), (.sl .full []), (.sl .full []), (.sl .full []), (.int .i64 0), (.int .i64 0), (.str []), (.int .i64 0), (.sl .full [])] [(0, (1, (.t 5)))]), none⟩, ⟨(some 3), (.al 0 [(.str []), (.sl .full []), (.sl .full []), (.sl .full []), (.int .i64 0), (.int .i64 0), (.str []), (.int .i64 0), (.sl .full [])]), none⟩, ⟨none, (.st 9 (.t 3) (.t 6)), none⟩] s (h ++ [(.cells [(.str []), (.sl .full []), (.sl .full []), (.sl .full []), (.int .i64 0), (.int .i64 0), (.str []), (.int .i64 0), (.sl .full [])])])) := k_reg
@[simp] theorem q26_2 : runF E n0 g c26_2 s h = regK (some [0, 2, 3]) (runO E n0 g h.length [⟨(some 7), (.mv (.t 0)), none⟩, ⟨(some 8), (.call 25 [(.t 7), (.c (.str [40]))]), none⟩] s h) := k_reg0
@[simp] theorem q26_3 : runF E n0 g c26_3 s h = regK (some [0, 2, 3, 11]) (runO E n0 g h.length [⟨(some 9), (.mv (.t 0)), none⟩, ⟨(some 10), (.call 57 [(.t 9), (.c (.str [41]))]), none⟩, ⟨(some 11), (.un .not (.t 10)), none⟩] s h) := k_reg0
@[simp] theorem q26_4 : runF E n0 g c26_4 s h = regK (some [0, 2, 3]) (runO E n0 g h.length [⟨(some 12), (.mv (.t 0)), none⟩, ⟨(some 13), (.call 58 [(.t 12)]), none⟩, ⟨(some 14), (.fa 1 (.t 3)), none⟩, ⟨none, (.st 1 (.t 14) (.t 13)), none⟩] s h) := k_reg0
@[simp] theorem q26_5 : runF E n0 g c26_5 s h = condK E n0 g c26_4 .skip s h (get s 11) := k_cond
@[simp] theorem q26_6 : runF E n0 g c26_6 s h = seqK E n0 g c26_5 (runF E n0 g c26_3 s h) := k_seq
@[simp] theorem q26_7 : runF E n0 g c26_7 s h = regK (some [0, 2, 3]) (runO E n0 g h.length [⟨(some 15), (.mv (.t 0)), none⟩, ⟨(some 16), (.call 25 [(.t 15), (.c (.str [41]))]), none⟩] s h) := k_reg0
@[simp] theorem q26_8 : runF E n0 g c26_8 s h = regK (some [0, 2, 3, 18]) (runO E n0 g h.length [⟨(some 17), (.mv (.t 0)), none⟩, ⟨(some 18), (.call 22 [(.t 17), (.c (.str [118, 97, 114]))]), none⟩] s h) := k_reg0
@[simp] theorem q26_9 : runF E n0 g c26_9 s h = regK (some [0, 2, 3]) (runO E n0 g h.length [⟨(some 19), (.mv (.t 0)), none⟩, ⟨(some 20), (.call 58 [(.t 19)]), none⟩, ⟨(some 21), (.fa 2 (.t 3)), none⟩, ⟨none, (.st 1 (.t 21) (.t 20)), none⟩] s h) := k_reg0
@[simp] theorem q26_10 : runF E n0 g c26_10 s h = condK E n0 g c26_9 .skip s h (get s 18) := k_cond
@[simp] theorem q26_11 : runF E n0 g c26_11 s h = seqK E n0 g c26_10 (runF E n0 g c26_8 s h) := k_seq
@[simp] theorem q26_12 : runF E n0 g c26_12 s h = regK (some [0, 2, 3]) (runO E n0 g h.length [⟨(some 22), (.mv (.t 0)), none⟩, ⟨(some 23), (.call 25 [(.t 22), (.c (.str [123]))]), none⟩] s h) := k_reg0
@[simp] theorem q26_13 : runF E n0 g c26_13 s h = regK (some [0, 2, 3, 33]) (runO E n0 g h.length [⟨(some 24), (.mv (.t 0)), none⟩, ⟨(some 25), (.nilc (.t 24)), none⟩, ⟨(some 26), (.fa 3 (.t 25)), none⟩, ⟨(some 27), (.ld false 1 (.t 26)), none⟩, ⟨(some 28), (.un .not (.t 27)), none⟩, ⟨(some 29), (.mv (.t 28)), none⟩, ⟨(some 30), (.mv (.t 0)), (some (29, true))⟩, ⟨(some 31), (.call 22 [(.t 30), (.c (.str [114, 101, 116, 117, 114, 110]))]), (some (29, true))⟩, ⟨(some 32), (.un .not (.t 31)), (some (29, true))⟩, ⟨(some 33), (.pick (.t 29) (.t 32) (.c (.bool false))), none⟩] s h) := k_reg0
@[simp] theorem q26_14 : runF E n0 g c26_14 s h = condK E n0 g .skip (.exit 0) s h (get s 33) := k_cond
@[simp] theorem q26_15 : runF E n0 g c26_15 s h = seqK E n0 g c26_14 (runF E n0 g c26_13 s h) := k_seq
@[simp] theorem q26_16 : runF E n0 g c26_16 s h = regT (some [0, 2, 3]) [(1, [3])] (runTr E n0 g h.length [⟨(some 34), (.fa 3 (.t 3)), none⟩, ⟨(some 35), (.ld false 1 (.t 34)), none⟩, ⟨(some 36), (.mv (.t 0)), none⟩, ⟨(some 37), (.call 59 [(.t 36)]), none⟩, ⟨(some 38), (.bsl 17 (.agg [(.int .i64 0), (.str []), (.str []), (.int .i64 0), (.int .i64 0), (.int .i64 0), (.str []), (.int .i64 0), (.sl .none []), (.int .i64 0), (.int .i64 0), (.str []), (.int .i64 0), (.sl .none []), (.sl .none []), (.sl .none []), (.sl .none [])]) 1 [(0, (.t 37))]), none⟩, ⟨(some 39), (.app 0 17 248 (.t 35) (.t 38)), none⟩, ⟨(some 40), (.fa 3 (.t 3)), none⟩, ⟨none, (.st 1 (.t 40) (.t 39)), none⟩] s (h ++ [.dead]) []) := k_regd
@[simp] theorem q26_17 : runF E n0 g c26_17 s h = blkK (some [0, 2, 3]) 1 (runF E n0 g c26_16 s h) := k_block
@[simp] theorem q26_18 : runF E n0 g c26_18 s h = seqK E n0 g c26_17 (runF E n0 g c26_15 s h) := k_seq
theorem q26_19 : runF E n0 g c26_19 s h = loopK E n0 g (some [0, 2, 3]) c26_18 (runF E n0 g c26_18 (clearO (some [0, 2, 3]) s) h) := k_loop
@[simp] theorem q26_19L : runF E n0 g (.loop (some [0, 2, 3]) c26_18) s h = runF E n0 g c26_19 s h := rfl
@[simp] theorem q26_20 : runF E n0 g c26_20 s h = blkK (some [0, 2, 3]) 0 (runF E n0 g c26_19 s h) := k_block
@[simp] theorem q26_21 : runF E n0 g c26_21 s h = regK (some [0, 2, 3]) (runO E n0 g h.length [⟨(some 41), (.mv (.t 0)), none⟩, ⟨(some 42), (.call 60 [(.t 41)]), none⟩, ⟨(some 43), (.fa 4 (.t 3)), none⟩, ⟨none, (.st 5 (.t 43) (.t 42)), none⟩] s h) := k_reg0
@[simp] theorem q26_22 : runF E n0 g c26_22 s h = regK (some [0, 2, 3]) (runO E n0 g h.length [⟨(some 44), (.mv (.t 0)), none⟩, ⟨(some 45), (.call 25 [(.t 44), (.c (.str [59]))]), none⟩] s h) := k_reg0
@[simp] theorem q26_23 : runF E n0 g c26_23 s h = regK (some [2, 3]) (runO E n0 g h.length [⟨(some 46), (.mv (.t 0)), none⟩, ⟨(some 47), (.call 25 [(.t 46), (.c (.str [125]))]), none⟩] s h) := k_reg0
@[simp] theorem q26_24 : runF E n0 g c26_24 s h = regK (some [2]) (runO E n0 g h.length [⟨(some 48), (.ld true 9 (.t 3)), none⟩, ⟨none, (.st 9 (.t 2) (.t 48)), none⟩] s h) := k_reg0
@[simp] theorem q26_25 : runF E n0 g c26_25 s h = seqK E n0 g .ret (runF E n0 g c26_24 s h) := k_seq
@[simp] theorem q26_26 : runF E n0 g c26_26 s h = seqK E n0 g c26_25 (runF E n0 g c26_23 s h) := k_seq
@[simp] theorem q26_27 : runF E n0 g c26_27 s h = seqK E n0 g c26_26 (runF E n0 g c26_22 s h) := k_seq
@[simp] theorem q26_28 : runF E n0 g c26_28 s h = seqK E n0 g c26_27 (runF E n0 g c26_21 s h) := k_seq
@[simp] theorem q26_29 : runF E n0 g c26_29 s h = seqK E n0 g c26_28 (runF E n0 g c26_20 s h) := k_seq
@[simp] theorem q26_30 : runF E n0 g c26_30 s h = seqK E n0 g c26_29 (runF E n0 g c26_12 s h) := k_seq
@[simp] theorem q26_31 : runF E n0 g c26_31 s h = seqK E n0 g c26_30 (runF E n0 g c26_11 s h) := k_seq
@[simp] theorem q26_32 : runF E n0 g c26_32 s h = seqK E n0 g c26_31 (runF E n0 g c26_7 s h) := k_seq
@[simp] theorem q26_33 : runF E n0 g c26_33 s h = seqK E n0 g c26_32 (runF E n0 g c26_6 s h) := k_seq
@[simp] theorem q26_34 : runF E n0 g c26_34 s h = seqK E n0 g c26_33 (runF E n0 g c26_2 s h) := k_seq
@[simp] theorem q26_35 : runF E n0 g c26_35 s h = seqK E n0 g c26_34 (runF E n0 g c26_1 s h) := k_seq
@[simp] theorem q26_36 : runF E n0 g c26_36 s h = seqK E n0 g c26_35 (runF E n0 g c26_0 s h) := k_seq
@[simp] theorem qq26 : runF E n0 g c26 s h = runF E n0 g c26_36 s h := rfl
@[simp] theorem q27_0 : runF E n0 g c27_0 s h = regK (some [0]) (runO E n0 g h.length [⟨(some 2), (.mv (.c (.int .i64 0))), none⟩] s h) := k_reg0
@[simp] theorem q27_1 : runF E n0 g c27_1 s h = regK (some [0, 12]) (runO E n0 g h.length [⟨(some 3), (.mv (.t 0)), none⟩, ⟨(some 4), (.nilc (.t 3)), none⟩, ⟨(some 5), (.fa 1 (.t 4)), none⟩, ⟨(some 6), (.ld false 1 (.t 5)), none⟩, ⟨(some 7), (.mv (.t 0)), none⟩, ⟨(some 8), (.nilc (.t 7)), none⟩, ⟨(some 9), (.fa 0 (.t 8)), none⟩, ⟨(some 10), (.ld false 1 (.t 9)), none⟩, ⟨(some 11), (.len (.t 10)), none⟩, ⟨(some 12), (.bin .lss (.t 6) (.t 11)), none⟩] s h) := by rw [show c27_1 = .reg (some [0, 12]) [] [⟨(some 3), (.mv (.t 0)), none⟩, ⟨(some 4), (.nilc (.t 3)), none⟩, ⟨(some 5), (.fa 1 (.t 4)), none⟩, ⟨(some 6), (.ld false 1 (.t 5)), none⟩, ⟨(some 7), (.mv (.t 0)), none⟩, ⟨(some 8), (.nilc (.t 7)), none⟩, ⟨(some 9), (.fa 0 (.t 8)), none⟩, ⟨(some 10), (.ld false 1 (.t 9)), none⟩, ⟨(some 11), (.len (.t 10)), none⟩, ⟨(some 12), (.bin .lss (.t 6) (.t 11)), none⟩] (some []) from rfl, k_regd0, List.append_nil]
@[simp] theorem q27_2 : runF E n0 g c27_2 s h = regK (some [2]) (runO E n0 g h.length [⟨(some 13), (.mv (.t 0)), none⟩, ⟨(some 14), (.nilc (.t 13)), none⟩, ⟨(some 15), (.fa 0 (.t 14)), none⟩, ⟨(some 16), (.ld false 1 (.t 15)), none⟩, ⟨(some 17), (.mv (.t 0)), none⟩, ⟨(some 18), (.nilc (.t 17)), none⟩, ⟨(some 19), (.fa 1 (.t 18)), none⟩, ⟨(some 20), (.ld false 1 (.t 19)), none⟩, ⟨(some 21), (.ia 3 (.t 16) (.t 20)), none⟩, ⟨(some 22), (.fa 2 (.t 21)), none⟩, ⟨(some 23), (.ld false 1 (.t 22)), none⟩, ⟨(some 2), (.mv (.t 23)), none⟩] s h) := by rw [show c27_2 = .reg (some [2]) [] [⟨(some 13), (.mv (.t 0)), none⟩, ⟨(some 14), (.nilc (.t 13)), none⟩, ⟨(some 15), (.fa 0 (.t 14)), none⟩, ⟨(some 16), (.ld false 1 (.t 15)), none⟩, ⟨(some 17), (.mv (.t 0)), none⟩, ⟨(some 18), (.nilc (.t 17)), none⟩, ⟨(some 19), (.fa 1 (.t 18)), none⟩, ⟨(some 20), (.ld false 1 (.t 19)), none⟩, ⟨(some 21), (.ia 3 (.t 16) (.t 20)), none⟩, ⟨(some 22), (.fa 2 (.t 21)), none⟩, ⟨(some 23), (.ld false 1 (.t 22)), none⟩, ⟨(some 2), (.mv (.t 23)), none⟩] (some []) from rfl, k_regd0, List.append_nil]
@[simp] theorem q27_3 : runF E n0 g c27_3 s h = seqK E n0 g .ret (runF E n0 g c27_2 s h) := k_seq
@[simp] theorem q27_4 : runF E n0 g c27_4 s h = condK E n0 g c27_3 .skip s h (get s 12) := k_cond
@[simp] theorem q27_5 : runF E n0 g c27_5 s h = seqK E n0 g c27_4 (runF E n0 g c27_1 s h) := k_seq
@[simp] theorem q27_6 : runF E n0 g c27_6 s h = regK (some [2]) (runO E n0 g h.length [⟨(some 24), (.mv (.t 0)), none⟩, ⟨(some 25), (.nilc (.t 24)), none⟩, ⟨(some 26), (.fa 2 (.t 25)), none⟩, ⟨(some 27), (.ld false 1 (.t 26)), none⟩, ⟨(some 2), (.mv (.t 27)), none⟩] s h) := k_reg0
@[simp] theorem q27_7 : runF E n0 g c27_7 s h = seqK E n0 g .ret (runF E n0 g c27_6 s h) := k_seq
@[simp] theorem q27_8 : runF E n0 g c27_8 s h = seqK E n0 g c27_7 (runF E n0 g c27_5 s h) := k_seq
@[simp] theorem q27_9 : runF E n0 g c27_9 s h = seqK E n0 g c27_8 (runF E n0 g c27_0 s h) := k_seq
@[simp] theorem qq27 : runF E n0 g c27 s h = runF E n0 g c27_9 s h := rfl
@[simp] theorem q51_0 : runF E n0 g c51_0 s h = regK (some [0]) (runO E n0 g h.length [⟨(some 2), (.mv (.c (.int .i64 0))), none⟩] s h) := k_reg0
@[simp] theorem q51_1 : runF E n0 g c51_1 s h = regK (some [0, 3]) (runO E n0 g h.length [⟨(some 3), (.mv (.c (.int .i64 0))), none⟩] s h) := k_reg0
@[simp] theorem q51_2 : runF E n0 g c51_2 s h = regK (some [0, 3, 7]) (runO E n0 g h.length [⟨(some 4), (.mv (.t 3)), none⟩, ⟨(some 5), (.mv (.t 0)), none⟩, ⟨(some 6), (.lens (.t 5)), none⟩, ⟨(some 7), (.bin .lss (.t 4) (.t 6)), none⟩] s h) := k_reg0
@[simp] theorem q51_3 : runF E n0 g c51_3 s h = condK E n0 g .skip (.exit 0) s h (get s 7) := k_cond
@[simp] theorem q51_4 : runF E n0 g c51_4 s h = seqK E n0 g c51_3 (runF E n0 g c51_2 s h) := k_seq
@[simp] theorem q51_5 : runF E n0 g c51_5 s h = regK (some [0, 3, 10]) (runO E n0 g h.length [⟨(some 8), (.mv (.t 0)), none⟩, ⟨(some 9), (.mv (.t 3)), none⟩, ⟨(some 10), (.ixs (.t 8) (.t 9)), none⟩] s h) := k_reg0
@[simp] theorem q51_6 : runF E n0 g c51_6 s h = regK (some [0, 3, 10, 12]) (runO E n0 g h.length [⟨(some 13), (.bin .eql (.t 10) (.c (.int .u8 32))), none⟩, ⟨(some 12), (.mv (.t 13)), none⟩] s h) := k_reg0
@[simp] theorem q51_7 : runF E n0 g c51_7 s h = regK (some [0, 3, 10, 12]) (runO E n0 g h.length [⟨(some 14), (.bin .eql (.t 10) (.c (.int .u8 9))), none⟩, ⟨(some 12), (.mv (.t 14)), none⟩] s h) := k_reg0
@[simp] theorem q51_8 : runF E n0 g c51_8 s h = regK (some [0, 3, 10, 12]) (runO E n0 g h.length [⟨(some 15), (.bin .eql (.t 10) (.c (.int .u8 10))), none⟩, ⟨(some 12), (.mv (.t 15)), none⟩] s h) := k_reg0
@[simp] theorem q51_9 : runF E n0 g c51_9 s h = regK (some [0, 3, 10, 12]) (runO E n0 g h.length [⟨(some 16), (.bin .eql (.t 10) (.c (.int .u8 13))), none⟩, ⟨(some 12), (.mv (.t 16)), none⟩] s h) := k_reg0
@[simp] theorem q51_10 : runF E n0 g c51_10 s h = condK E n0 g .skip c51_9 s h (get s 12) := k_cond
@[simp] theorem q51_11 : runF E n0 g c51_11 s h = seqK E n0 g c51_10 (runF E n0 g c51_8 s h) := k_seq
@[simp] theorem q51_12 : runF E n0 g c51_12 s h = condK E n0 g .skip c51_11 s h (get s 12) := k_cond
@[simp] theorem q51_13 : runF E n0 g c51_13 s h = seqK E n0 g c51_12 (runF E n0 g c51_7 s h) := k_seq
@[simp] theorem q51_14 : runF E n0 g c51_14 s h = condK E n0 g .skip c51_13 s h (get s 12) := k_cond
@[simp] theorem q51_15 : runF E n0 g c51_15 s h = seqK E n0 g c51_14 (runF E n0 g c51_6 s h) := k_seq
@[simp] theorem q51_16 : runF E n0 g c51_16 s h = regK (some [0, 3]) (runO E n0 g h.length [⟨(some 17), (.mv (.t 3)), none⟩, ⟨(some 18), (.bin .add (.t 17) (.c (.int .i64 1))), none⟩, ⟨(some 3), (.mv (.t 18)), none⟩] s h) := k_reg0
@[simp] theorem q51_17 : runF E n0 g c51_17 s h = regK (some [0, 3, 19]) (runO E n0 g h.length [⟨(some 20), (.bin .eql (.t 10) (.c (.int .u8 35))), none⟩, ⟨(some 19), (.mv (.t 20)), none⟩] s h) := k_reg0
@[simp] theorem q51_18 : runF E n0 g c51_18 s h = regK (some [0, 3, 30]) (runO E n0 g h.length [⟨(some 21), (.mv (.t 3)), none⟩, ⟨(some 22), (.mv (.t 0)), none⟩, ⟨(some 23), (.lens (.t 22)), none⟩, ⟨(some 24), (.bin .lss (.t 21) (.t 23)), none⟩, ⟨(some 25), (.mv (.t 24)), none⟩, ⟨(some 26), (.mv (.t 0)), (some (25, true))⟩, ⟨(some 27), (.mv (.t 3)), (some (25, true))⟩, ⟨(some 28), (.ixs (.t 26) (.t 27)), (some (25, true))⟩, ⟨(some 29), (.bin .neq (.t 28) (.c (.int .u8 10))), (some (25, true))⟩, ⟨(some 30), (.pick (.t 25) (.t 29) (.c (.bool false))), none⟩] s h) := k_reg0
@[simp] theorem q51_19 : runF E n0 g c51_19 s h = condK E n0 g .skip (.exit 3) s h (get s 30) := k_cond
@[simp] theorem q51_20 : runF E n0 g c51_20 s h = seqK E n0 g c51_19 (runF E n0 g c51_18 s h) := k_seq
@[simp] theorem q51_21 : runF E n0 g c51_21 s h = regK (some [0, 3]) (runO E n0 g h.length [⟨(some 31), (.mv (.t 3)), none⟩, ⟨(some 32), (.bin .add (.t 31) (.c (.int .i64 1))), none⟩, ⟨(some 3), (.mv (.t 32)), none⟩] s h) := k_reg0
@[simp] theorem q51_22 : runF E n0 g c51_22 s h = blkK (some [0, 3]) 4 (runF E n0 g c51_21 s h) := k_block
@[simp] theorem q51_23 : runF E n0 g c51_23 s h = seqK E n0 g c51_22 (runF E n0 g c51_20 s h) := k_seq
theorem q51_24 : runF E n0 g c51_24 s h = loopK E n0 g (some [0, 3]) c51_23 (runF E n0 g c51_23 (clearO (some [0, 3]) s) h) := k_loop
@[simp] theorem q51_24L : runF E n0 g (.loop (some [0, 3]) c51_23) s h = runF E n0 g c51_24 s h := rfl
@[simp] theorem q51_25 : runF E n0 g c51_25 s h = blkK (some [0, 3]) 3 (runF E n0 g c51_24 s h) := k_block
@[simp] theorem q51_26 : runF E n0 g c51_26 s h = regK (some [2]) (runO E n0 g h.length [⟨(some 11), (.mv (.t 3)), none⟩, ⟨(some 2), (.mv (.t 11)), none⟩] s h) := k_reg0
@[simp] theorem q51_27 : runF E n0 g c51_27 s h = seqK E n0 g .ret (runF E n0 g c51_26 s h) := k_seq
@[simp] theorem q51_28 : runF E n0 g c51_28 s h = condK E n0 g c51_25 c51_27 s h (get s 19) := k_cond
@[simp] theorem q51_29 : runF E n0 g c51_29 s h = seqK E n0 g c51_28 (runF E n0 g c51_17 s h) := k_seq
@[simp] theorem q51_30 : runF E n0 g c51_30 s h = condK E n0 g c51_16 c51_29 s h (get s 12) := k_cond
@[simp] theorem q51_31 : runF E n0 g c51_31 s h = seqK E n0 g (.seq c51_14 c51_30) (runF E n0 g c51_6 s h) := k_assoc
@[simp] theorem q51_31a : runF E n0 g (.seq c51_14 c51_30) s h = condK E n0 g c51_16 (.seq c51_13 c51_30) s h (get s 12) := k_or
@[simp] theorem q51_31ab : runF E n0 g (.seq c51_13 c51_30) s h = seqK E n0 g (.seq c51_12 c51_30) (runF E n0 g c51_7 s h) := k_assoc
@[simp] theorem q51_31aba : runF E n0 g (.seq c51_12 c51_30) s h = condK E n0 g c51_16 (.seq c51_11 c51_30) s h (get s 12) := k_or
@[simp] theorem q51_31abab : runF E n0 g (.seq c51_11 c51_30) s h = seqK E n0 g (.seq c51_10 c51_30) (runF E n0 g c51_8 s h) := k_assoc
@[simp] theorem q51_31ababa : runF E n0 g (.seq c51_10 c51_30) s h = condK E n0 g c51_16 (.seq c51_9 c51_30) s h (get s 12) := k_or
@[simp] theorem q51_31ababab : runF E n0 g (.seq c51_9 c51_30) s h = seqK E n0 g c51_30 (runF E n0 g c51_9 s h) := k_seq
@[simp] theorem q51_32 : runF E n0 g c51_32 s h = blkK (some [0, 3]) 2 (runF E n0 g c51_31 s h) := k_block
@[simp] theorem q51_33 : runF E n0 g c51_33 s h = seqK E n0 g c51_32 (runF E n0 g c51_5 s h) := k_seq
@[simp] theorem q51_34 : runF E n0 g c51_34 s h = blkK (some [0, 3]) 1 (runF E n0 g c51_33 s h) := k_block
@[simp] theorem q51_35 : runF E n0 g c51_35 s h = seqK E n0 g c51_34 (runF E n0 g c51_4 s h) := k_seq
theorem q51_36 : runF E n0 g c51_36 s h = loopK E n0 g (some [0, 3]) c51_35 (runF E n0 g c51_35 (clearO (some [0, 3]) s) h) := k_loop
@[simp] theorem q51_36L : runF E n0 g (.loop (some [0, 3]) c51_35) s h = runF E n0 g c51_36 s h := rfl
@[simp] theorem q51_37 : runF E n0 g c51_37 s h = blkK (some [3]) 0 (runF E n0 g c51_36 s h) := k_block
@[simp] theorem q51_38 : runF E n0 g c51_38 s h = regK (some [2]) (runO E n0 g h.length [⟨(some 33), (.mv (.t 3)), none⟩, ⟨(some 2), (.mv (.t 33)), none⟩] s h) := k_reg0
@[simp] theorem q51_39 : runF E n0 g c51_39 s h = seqK E n0 g .ret (runF E n0 g c51_38 s h) := k_seq
@[simp] theorem q51_40 : runF E n0 g c51_40 s h = seqK E n0 g c51_39 (runF E n0 g c51_37 s h) := k_seq
@[simp] theorem q51_41 : runF E n0 g c51_41 s h = seqK E n0 g c51_40 (runF E n0 g c51_1 s h) := k_seq
@[simp] theorem q51_42 : runF E n0 g c51_42 s h = seqK E n0 g c51_41 (runF E n0 g c51_0 s h) := k_seq
@[simp] theorem qq51 : runF E n0 g c51 s h = runF E n0 g c51_42 s h := rfl
@[simp] theorem q52_0 : runF E n0 g c52_0 s h = regK (some [0, 2]) (runO E n0 g h.length [⟨(some 2), (.al 0 [(.int .i64 0), (.str []), (.int .i64 0)]), none⟩, ⟨(some 3), (.mv (.c (.int .i64 0))), none⟩] s (h ++ [(.cells [(.int .i64 0), (.str []), (.int .i64 0)])])) := k_reg
@[simp] theorem q52_1 : runF E n0 g c52_1 s h = regK (some [0, 2, 4]) (runO E n0 g h.length [⟨(some 5), (.mv (.t 0)), none⟩, ⟨(some 6), (.call 94 [(.t 5)]), none⟩, ⟨(some 4), (.mv (.t 6)), none⟩] s h) := k_reg0
@[simp] theorem q52_2 : runF E n0 g c52_2 s h = regK (some [0, 2, 4, 7]) (runO E n0 g h.length [⟨(some 8), (.mv (.t 4)), none⟩, ⟨(some 9), (.bin .eql (.t 8) (.c (.int .i64 0))), none⟩, ⟨(some 7), (.mv (.t 9)), none⟩] s h) := k_reg0
@[simp] theorem q52_3 : runF E n0 g c52_3 s h = regK (some [0, 2, 4]) (runO E n0 g h.length [⟨(some 10), (.mv (.t 0)), none⟩, ⟨(some 11), (.call 95 [(.t 10)]), none⟩, ⟨(some 4), (.mv (.t 11)), none⟩] s h) := k_reg0
@[simp] theorem q52_4 : runF E n0 g c52_4 s h = regK (some [0, 2, 4, 13]) (runO E n0 g h.length [⟨(some 12), (.mv (.t 4)), none⟩, ⟨(some 13), (.bin .eql (.t 12) (.c (.int .i64 0))), none⟩] s h) := k_reg0
@[simp] theorem q52_5 : runF E n0 g c52_5 s h = regK (some [2, 3]) (runO E n0 g h.length [⟨(some 14), (.bld [(.int .i64 0), (.str []), (.int .i64 0)] []), none⟩, ⟨none, (.st 3 (.t 2) (.t 14)), none⟩, ⟨(some 3), (.mv (.c (.int .i64 2))), none⟩] s h) := k_reg0
@[simp] theorem q52_6 : runF E n0 g c52_6 s h = seqK E n0 g .ret (runF E n0 g c52_5 s h) := k_seq
@[simp] theorem q52_7 : runF E n0 g c52_7 s h = condK E n0 g c52_6 .skip s h (get s 13) := k_cond
@[simp] theorem q52_8 : runF E n0 g c52_8 s h = seqK E n0 g c52_7 (runF E n0 g c52_4 s h) := k_seq
@[simp] theorem q52_9 : runF E n0 g c52_9 s h = seqK E n0 g c52_8 (runF E n0 g c52_3 s h) := k_seq
@[simp] theorem q52_10 : runF E n0 g c52_10 s h = regK (some [2, 3]) (runO E n0 g h.length [⟨(some 15), (.mv (.t 0)), none⟩, ⟨(some 16), (.mv (.t 4)), none⟩, ⟨(some 17), (.sls (.t 15) none (some (.t 16))), none⟩, ⟨(some 18), (.bld [(.int .i64 0), (.str []), (.int .i64 0)] [(0, (1, (.c (.int .i64 3)))), (1, (1, (.t 17)))]), none⟩, ⟨none, (.st 3 (.t 2) (.t 18)), none⟩, ⟨(some 3), (.mv (.c (.int .i64 0))), none⟩] s h) := k_reg0
@[simp] theorem q52_11 : runF E n0 g c52_11 s h = seqK E n0 g .ret (runF E n0 g c52_10 s h) := k_seq
@[simp] theorem q52_12 : runF E n0 g c52_12 s h = seqK E n0 g c52_11 (runF E n0 g c52_9 s h) := k_seq
@[simp] theorem q52_13 : runF E n0 g c52_13 s h = regK (some [0, 2, 4, 19]) (runO E n0 g h.length [⟨(some 20), (.mv (.t 0)), none⟩, ⟨(some 21), (.ixs (.t 20) (.c (.int .i64 0))), none⟩, ⟨(some 22), (.call 96 [(.t 21)]), none⟩, ⟨(some 19), (.mv (.t 22)), none⟩] s h) := k_reg0
@[simp] theorem q52_14 : runF E n0 g c52_14 s h = regK (some [0, 2, 4, 27]) (runO E n0 g h.length [⟨(some 23), (.mv (.t 0)), none⟩, ⟨(some 24), (.mv (.t 4)), none⟩, ⟨(some 25), (.sls (.t 23) none (some (.t 24))), none⟩, ⟨(some 26), (.call 97 [(.t 25)]), none⟩, ⟨(some 27), (.un .not (.t 26)), none⟩] s h) := k_reg0
@[simp] theorem q52_15 : runF E n0 g c52_15 s h = regK (some [2, 3]) (runO E n0 g h.length [⟨(some 28), (.bld [(.int .i64 0), (.str []), (.int .i64 0)] []), none⟩, ⟨none, (.st 3 (.t 2) (.t 28)), none⟩, ⟨(some 3), (.mv (.c (.int .i64 2))), none⟩] s h) := k_reg0
@[simp] theorem q52_16 : runF E n0 g c52_16 s h = seqK E n0 g .ret (runF E n0 g c52_15 s h) := k_seq
@[simp] theorem q52_17 : runF E n0 g c52_17 s h = condK E n0 g c52_16 .skip s h (get s 27) := k_cond
@[simp] theorem q52_18 : runF E n0 g c52_18 s h = seqK E n0 g c52_17 (runF E n0 g c52_14 s h) := k_seq
@[simp] theorem q52_19 : runF E n0 g c52_19 s h = regK (some [2, 3]) (runO E n0 g h.length [⟨(some 29), (.mv (.t 0)), none⟩, ⟨(some 30), (.mv (.t 4)), none⟩, ⟨(some 31), (.sls (.t 29) none (some (.t 30))), none⟩, ⟨(some 32), (.bld [(.int .i64 0), (.str []), (.int .i64 0)] [(0, (1, (.c (.int .i64 2)))), (1, (1, (.t 31)))]), none⟩, ⟨none, (.st 3 (.t 2) (.t 32)), none⟩, ⟨(some 3), (.mv (.c (.int .i64 0))), none⟩] s h) := k_reg0
@[simp] theorem q52_20 : runF E n0 g c52_20 s h = seqK E n0 g .ret (runF E n0 g c52_19 s h) := k_seq
@[simp] theorem q52_21 : runF E n0 g c52_21 s h = seqK E n0 g c52_20 (runF E n0 g c52_18 s h) := k_seq
@[simp] theorem q52_22 : runF E n0 g c52_22 s h = regK (some [0, 2, 4, 33]) (runO E n0 g h.length [⟨(some 34), (.mv (.t 4)), none⟩, ⟨(some 35), (.bin .gtr (.t 34) (.c (.int .i64 16))), none⟩, ⟨(some 33), (.mv (.t 35)), none⟩] s h) := k_reg0
@[simp] theorem q52_23 : runF E n0 g c52_23 s h = regK (some [2, 3]) (runO E n0 g h.length [⟨(some 36), (.bld [(.int .i64 0), (.str []), (.int .i64 0)] []), none⟩, ⟨none, (.st 3 (.t 2) (.t 36)), none⟩, ⟨(some 3), (.mv (.c (.int .i64 6))), none⟩] s h) := k_reg0
@[simp] theorem q52_24 : runF E n0 g c52_24 s h = seqK E n0 g .ret (runF E n0 g c52_23 s h) := k_seq
@[simp] theorem q52_25 : runF E n0 g c52_25 s h = condK E n0 g c52_24 .skip s h (get s 33) := k_cond
@[simp] theorem q52_26 : runF E n0 g c52_26 s h = seqK E n0 g c52_25 (runF E n0 g c52_22 s h) := k_seq
@[simp] theorem q52_27 : runF E n0 g c52_27 s h = condK E n0 g c52_21 c52_26 s h (get s 19) := k_cond
@[simp] theorem q52_28 : runF E n0 g c52_28 s h = seqK E n0 g c52_27 (runF E n0 g c52_13 s h) := k_seq
@[simp] theorem q52_29 : runF E n0 g c52_29 s h = condK E n0 g c52_12 c52_28 s h (get s 7) := k_cond
@[simp] theorem q52_30 : runF E n0 g c52_30 s h = seqK E n0 g c52_29 (runF E n0 g c52_2 s h) := k_seq
@[simp] theorem q52_31 : runF E n0 g c52_31 s h = blkK (some [0, 2, 4]) 0 (runF E n0 g c52_30 s h) := k_block
@[simp] theorem q52_32 : runF E n0 g c52_32 s h = regK (some [2, 3]) (runO E n0 g h.length [⟨(some 37), (.mv (.t 0)), none⟩, ⟨(some 38), (.mv (.t 4)), none⟩, ⟨(some 39), (.sls (.t 37) none (some (.t 38))), none⟩, ⟨(some 40), (.bld [(.int .i64 0), (.str []), (.int .i64 0)] [(0, (1, (.c (.int .i64 1)))), (1, (1, (.t 39)))]), none⟩, ⟨none, (.st 3 (.t 2) (.t 40)), none⟩, ⟨(some 3), (.mv (.c (.int .i64 0))), none⟩] s h) := k_reg0
@[simp] theorem q52_33 : runF E n0 g c52_33 s h = seqK E n0 g .ret (runF E n0 g c52_32 s h) := k_seq
@[simp] theorem q52_34 : runF E n0 g c52_34 s h = seqK E n0 g c52_33 (runF E n0 g c52_31 s h) := k_seq
@[simp] theorem q52_35 : runF E n0 g c52_35 s h = seqK E n0 g c52_34 (runF E n0 g c52_1 s h) := k_seq
@[simp] theorem q52_36 : runF E n0 g c52_36 s h = seqK E n0 g c52_35 (runF E n0 g c52_0 s h) := k_seq
@[simp] theorem qq52 : runF E n0 g c52 s h = runF E n0 g c52_36 s h := rfl
@[simp] theorem q53_0 : runF E n0 g c53_0 s h = regK (some [0, 2]) (runO E n0 g h.length [⟨(some 2), (.al 0 [(.int .i64 0), (.str []), (.int .i64 0)]), none⟩] s (h ++ [(.cells [(.int .i64 0), (.str []), (.int .i64 0)])])) := k_reg
@[simp] theorem q53_1 : runF E n0 g c53_1 s h = regK (some [0, 2, 18]) (runO E n0 g h.length [⟨(some 3), (.mv (.t 0)), none⟩, ⟨(some 4), (.nilc (.t 3)), none⟩, ⟨(some 5), (.fa 3 (.t 4)), none⟩, ⟨(some 6), (.ld false 1 (.t 5)), none⟩, ⟨(some 7), (.mv (.t 6)), none⟩, ⟨(some 8), (.mv (.t 0)), (some (7, false))⟩, ⟨(some 9), (.nilc (.t 8)), (some (7, false))⟩, ⟨(some 10), (.fa 1 (.t 9)), (some (7, false))⟩, ⟨(some 11), (.ld false 1 (.t 10)), (some (7, false))⟩, ⟨(some 12), (.mv (.t 0)), (some (7, false))⟩, ⟨(some 13), (.nilc (.t 12)), (some (7, false))⟩, ⟨(some 14), (.fa 0 (.t 13)), (some (7, false))⟩, ⟨(some 15), (.ld false 1 (.t 14)), (some (7, false))⟩, ⟨(some 16), (.len (.t 15)), (some (7, false))⟩, ⟨(some 17), (.bin .geq (.t 11) (.t 16)), (some (7, false))⟩, ⟨(some 18), (.pick (.t 7) (.c (.bool true)) (.t 17)), none⟩] s h) := by rw [show c53_1 = .reg (some [0, 2, 18]) [] [⟨(some 3), (.mv (.t 0)), none⟩, ⟨(some 4), (.nilc (.t 3)), none⟩, ⟨(some 5), (.fa 3 (.t 4)), none⟩, ⟨(some 6), (.ld false 1 (.t 5)), none⟩, ⟨(some 7), (.mv (.t 6)), none⟩, ⟨(some 8), (.mv (.t 0)), (some (7, false))⟩, ⟨(some 9), (.nilc (.t 8)), (some (7, false))⟩, ⟨(some 10), (.fa 1 (.t 9)), (some (7, false))⟩, ⟨(some 11), (.ld false 1 (.t 10)), (some (7, false))⟩, ⟨(some 12), (.mv (.t 0)), (some (7, false))⟩, ⟨(some 13), (.nilc (.t 12)), (some (7, false))⟩, ⟨(some 14), (.fa 0 (.t 13)), (some (7, false))⟩, ⟨(some 15), (.ld false 1 (.t 14)), (some (7, false))⟩, ⟨(some 16), (.len (.t 15)), (some (7, false))⟩, ⟨(some 17), (.bin .geq (.t 11) (.t 16)), (some (7, false))⟩, ⟨(some 18), (.pick (.t 7) (.c (.bool true)) (.t 17)), none⟩] (some []) from rfl, k_regd0, List.append_nil]
@[simp] theorem q53_2 : runF E n0 g c53_2 s h = regK (some [2]) (runO E n0 g h.length [⟨(some 19), (.bld [(.int .i64 0), (.str []), (.int .i64 0)] []), none⟩, ⟨none, (.st 3 (.t 2) (.t 19)), none⟩] s h) := k_reg0
@[simp] theorem q53_3 : runF E n0 g c53_3 s h = seqK E n0 g .ret (runF E n0 g c53_2 s h) := k_seq
@[simp] theorem q53_4 : runF E n0 g c53_4 s h = condK E n0 g c53_3 .skip s h (get s 18) := k_cond
@[simp] theorem q53_5 : runF E n0 g c53_5 s h = seqK E n0 g c53_4 (runF E n0 g c53_1 s h) := k_seq
@[simp] theorem q53_6 : runF E n0 g c53_6 s h = regK (some [2]) (runO E n0 g h.length [⟨(some 20), (.mv (.t 0)), none⟩, ⟨(some 21), (.nilc (.t 20)), none⟩, ⟨(some 22), (.fa 0 (.t 21)), none⟩, ⟨(some 23), (.ld false 1 (.t 22)), none⟩, ⟨(some 24), (.mv (.t 0)), none⟩, ⟨(some 25), (.nilc (.t 24)), none⟩, ⟨(some 26), (.fa 1 (.t 25)), none⟩, ⟨(some 27), (.ld false 1 (.t 26)), none⟩, ⟨(some 28), (.ia 3 (.t 23) (.t 27)), none⟩, ⟨(some 29), (.ld true 3 (.t 28)), none⟩, ⟨none, (.st 3 (.t 2) (.t 29)), none⟩] s h) := by rw [show c53_6 = .reg (some [2]) [] [⟨(some 20), (.mv (.t 0)), none⟩, ⟨(some 21), (.nilc (.t 20)), none⟩, ⟨(some 22), (.fa 0 (.t 21)), none⟩, ⟨(some 23), (.ld false 1 (.t 22)), none⟩, ⟨(some 24), (.mv (.t 0)), none⟩, ⟨(some 25), (.nilc (.t 24)), none⟩, ⟨(some 26), (.fa 1 (.t 25)), none⟩, ⟨(some 27), (.ld false 1 (.t 26)), none⟩, ⟨(some 28), (.ia 3 (.t 23) (.t 27)), none⟩, ⟨(some 29), (.ld true 3 (.t 28)), none⟩, ⟨none, (.st 3 (.t 2) (.t 29)), none⟩] (some []) from rfl, k_regd0, List.append_nil]
@[simp] theorem q53_7 : runF E n0 g c53_7 s h = seqK E n0 g .ret (runF E n0 g c53_6 s h) := k_seq
@[simp] theorem q53_8 : runF E n0 g c53_8 s h = seqK E n0 g c53_7 (runF E n0 g c53_5 s h) := k_seq
@[simp] theorem q53_9 : runF E n0 g c53_9 s h = seqK E n0 g c53_8 (runF E n0 g c53_0 s h) := k_seq
@[simp] theorem qq53 : runF E n0 g c53 s h = runF E n0 g c53_9 s h := rfl
@[simp] theorem q54_0 : runF E n0 g c54_0 s h = regK (some [0]) (runO E n0 g h.length [⟨(some 2), (.mv (.c (.bool false))), none⟩] s h) := k_reg0
@[simp] theorem q54_1 : runF E n0 g c54_1 s h = regK (some [3]) (runO E n0 g h.length [⟨(some 4), (.mv (.t 0)), none⟩, ⟨(some 5), (.call 53 [(.t 4)]), none⟩, ⟨(some 3), (.al 0 [(.int .i64 0), (.str []), (.int .i64 0)]), none⟩, ⟨none, (.st 3 (.t 3) (.t 5)), none⟩] s (h ++ [(.cells [(.int .i64 0), (.str []), (.int .i64 0)])])) := k_reg
@[simp] theorem q54_2 : runF E n0 g c54_2 s h = regK (some [2]) (runO E n0 g h.length [⟨(some 6), (.fa 0 (.t 3)), none⟩, ⟨(some 7), (.ld false 1 (.t 6)), none⟩, ⟨(some 8), (.bin .eql (.t 7) (.c (.int .i64 1))), none⟩, ⟨(some 9), (.mv (.t 8)), none⟩, ⟨(some 10), (.fa 1 (.t 3)), (some (9, true))⟩, ⟨(some 11), (.ld false 1 (.t 10)), (some (9, true))⟩, ⟨(some 12), (.call 98 [(.t 11)]), (some (9, true))⟩, ⟨(some 13), (.un .not (.t 12)), (some (9, true))⟩, ⟨(some 14), (.pick (.t 9) (.t 13) (.c (.bool false))), none⟩, ⟨(some 2), (.mv (.t 14)), none⟩] s h) := k_reg0
@[simp] theorem q54_3 : runF E n0 g c54_3 s h = seqK E n0 g .ret (runF E n0 g c54_2 s h) := k_seq
@[simp] theorem q54_4 : runF E n0 g c54_4 s h = seqK E n0 g c54_3 (runF E n0 g c54_1 s h) := k_seq
@[simp] theorem q54_5 : runF E n0 g c54_5 s h = seqK E n0 g c54_4 (runF E n0 g c54_0 s h) := k_seq
@[simp] theorem qq54 : runF E n0 g c54 s h = runF E n0 g c54_5 s h := rfl
@[simp] theorem q55_0 : runF E n0 g c55_0 s h = regK (some [0]) (runO E n0 g h.length [⟨(some 2), (.mv (.c (.int .i64 0))), none⟩, ⟨(some 3), (.mv (.c (.bool false))), none⟩] s h) := k_reg0
@[simp] theorem q55_1 : runF E n0 g c55_1 s h = regK (some [4]) (runO E n0 g h.length [⟨(some 9), (.mv (.t 0)), none⟩, ⟨(some 4), (.mv (.t 9)), none⟩] s h) := k_reg0
@[simp] theorem q55_2 : runF E n0 g c55_2 s h = regK (some [4, 5]) (runO E n0 g h.length [⟨(some 10), (.mv (.t 4)), none⟩, ⟨(some 11), (.lens (.t 10)), none⟩, ⟨(some 12), (.bin .gtr (.t 11) (.c (.int .i64 0))), none⟩, ⟨(some 13), (.mv (.t 12)), none⟩, ⟨(some 14), (.mv (.t 4)), (some (13, true))⟩, ⟨(some 15), (.ixs (.t 14) (.c (.int .i64 0))), (some (13, true))⟩, ⟨(some 16), (.bin .eql (.t 15) (.c (.int .u8 45))), (some (13, true))⟩, ⟨(some 17), (.pick (.t 13) (.t 16) (.c (.bool false))), none⟩, ⟨(some 5), (.mv (.t 17)), none⟩] s h) := k_reg0
@[simp] theorem q55_3 : runF E n0 g c55_3 s h = regK (some [4, 5, 18]) (runO E n0 g h.length [⟨(some 18), (.mv (.t 5)), none⟩] s h) := k_reg0
@[simp] theorem q55_4 : runF E n0 g c55_4 s h = regK (some [4, 5]) (runO E n0 g h.length [⟨(some 19), (.mv (.t 4)), none⟩, ⟨(some 20), (.sls (.t 19) (some (.c (.int .i64 1))) none), none⟩, ⟨(some 4), (.mv (.t 20)), none⟩] s h) := k_reg0
@[simp] theorem q55_5 : runF E n0 g c55_5 s h = condK E n0 g c55_4 .skip s h (get s 18) := k_cond
@[simp] theorem q55_6 : runF E n0 g c55_6 s h = seqK E n0 g c55_5 (runF E n0 g c55_3 s h) := k_seq
@[simp] theorem q55_7 : runF E n0 g c55_7 s h = regK (some [4, 5, 41]) (runO E n0 g h.length [⟨(some 21), (.mv (.t 4)), none⟩, ⟨(some 22), (.lens (.t 21)), none⟩, ⟨(some 23), (.bin .lss (.t 22) (.c (.int .i64 1))), none⟩, ⟨(some 24), (.mv (.t 23)), none⟩, ⟨(some 25), (.mv (.t 4)), (some (24, false))⟩, ⟨(some 26), (.lens (.t 25)), (some (24, false))⟩, ⟨(some 27), (.bin .gtr (.t 26) (.c (.int .i64 19))), (some (24, false))⟩, ⟨(some 28), (.pick (.t 24) (.c (.bool true)) (.t 27)), none⟩, ⟨(some 29), (.mv (.t 28)), none⟩, ⟨(some 30), (.mv (.t 4)), (some (29, false))⟩, ⟨(some 31), (.ixs (.t 30) (.c (.int .i64 0))), (some (29, false))⟩, ⟨(some 32), (.bin .eql (.t 31) (.c (.int .u8 48))), (some (29, false))⟩, ⟨(some 33), (.mv (.t 32)), (some (29, false))⟩, ⟨(some 34), (.mv (.t 4)), (some (33, true))⟩, ⟨(some 35), (.lens (.t 34)), (some (33, true))⟩, ⟨(some 36), (.bin .gtr (.t 35) (.c (.int .i64 1))), (some (33, true))⟩, ⟨(some 37), (.mv (.t 36)), (some (33, true))⟩, ⟨(some 38), (.mv (.t 5)), (some (37, false))⟩, ⟨(some 39), (.pick (.t 37) (.c (.bool true)) (.t 38)), (some (33, true))⟩, ⟨(some 40), (.pick (.t 33) (.t 39) (.c (.bool false))), (some (29, false))⟩, ⟨(some 41), (.pick (.t 29) (.c (.bool true)) (.t 40)), none⟩] s h) := k_reg0
@[simp] theorem q55_8 : runF E n0 g c55_8 s h = regK (some [2, 3]) (runO E n0 g h.length [⟨(some 2), (.mv (.c (.int .i64 0))), none⟩, ⟨(some 3), (.mv (.c (.bool false))), none⟩] s h) := k_reg0
@[simp] theorem q55_9 : runF E n0 g c55_9 s h = seqK E n0 g .ret (runF E n0 g c55_8 s h) := k_seq
@[simp] theorem q55_10 : runF E n0 g c55_10 s h = condK E n0 g c55_9 .skip s h (get s 41) := k_cond
@[simp] theorem q55_11 : runF E n0 g c55_11 s h = seqK E n0 g c55_10 (runF E n0 g c55_7 s h) := k_seq
@[simp] theorem q55_12 : runF E n0 g c55_12 s h = regK (some [4, 5, 6]) (runO E n0 g h.length [⟨(some 6), (.mv (.c (.int .u64 0))), none⟩] s h) := k_reg0
@[simp] theorem q55_13 : runF E n0 g c55_13 s h = regK (some [4, 5, 6, 7]) (runO E n0 g h.length [⟨(some 7), (.mv (.c (.int .i64 0))), none⟩] s h) := k_reg0
@[simp] theorem q55_14 : runF E n0 g c55_14 s h = regK (some [4, 5, 6, 7, 45]) (runO E n0 g h.length [⟨(some 42), (.mv (.t 7)), none⟩, ⟨(some 43), (.mv (.t 4)), none⟩, ⟨(some 44), (.lens (.t 43)), none⟩, ⟨(some 45), (.bin .lss (.t 42) (.t 44)), none⟩] s h) := k_reg0
@[simp] theorem q55_15 : runF E n0 g c55_15 s h = condK E n0 g .skip (.exit 0) s h (get s 45) := k_cond
@[simp] theorem q55_16 : runF E n0 g c55_16 s h = seqK E n0 g c55_15 (runF E n0 g c55_14 s h) := k_seq
@[simp] theorem q55_17 : runF E n0 g c55_17 s h = regK (some [4, 5, 6, 7, 57]) (runO E n0 g h.length [⟨(some 48), (.mv (.t 4)), none⟩, ⟨(some 49), (.mv (.t 7)), none⟩, ⟨(some 50), (.ixs (.t 48) (.t 49)), none⟩, ⟨(some 51), (.bin .lss (.t 50) (.c (.int .u8 48))), none⟩, ⟨(some 52), (.mv (.t 51)), none⟩, ⟨(some 53), (.mv (.t 4)), (some (52, false))⟩, ⟨(some 54), (.mv (.t 7)), (some (52, false))⟩, ⟨(some 55), (.ixs (.t 53) (.t 54)), (some (52, false))⟩, ⟨(some 56), (.bin .gtr (.t 55) (.c (.int .u8 57))), (some (52, false))⟩, ⟨(some 57), (.pick (.t 52) (.c (.bool true)) (.t 56)), none⟩] s h) := k_reg0
@[simp] theorem q55_18 : runF E n0 g c55_18 s h = regK (some [2, 3]) (runO E n0 g h.length [⟨(some 2), (.mv (.c (.int .i64 0))), none⟩, ⟨(some 3), (.mv (.c (.bool false))), none⟩] s h) := k_reg0
@[simp] theorem q55_19 : runF E n0 g c55_19 s h = seqK E n0 g .ret (runF E n0 g c55_18 s h) := k_seq
@[simp] theorem q55_20 : runF E n0 g c55_20 s h = condK E n0 g c55_19 .skip s h (get s 57) := k_cond
@[simp] theorem q55_21 : runF E n0 g c55_21 s h = seqK E n0 g c55_20 (runF E n0 g c55_17 s h) := k_seq
@[simp] theorem q55_22 : runF E n0 g c55_22 s h = regK (some [4, 5, 6, 7]) (runO E n0 g h.length [⟨(some 58), (.mv (.t 6)), none⟩, ⟨(some 59), (.bin .mul (.c (.int .u64 10)) (.t 58)), none⟩, ⟨(some 60), (.mv (.t 4)), none⟩, ⟨(some 61), (.mv (.t 7)), none⟩, ⟨(some 62), (.ixs (.t 60) (.t 61)), none⟩, ⟨(some 63), (.bin .sub (.t 62) (.c (.int .u8 48))), none⟩, ⟨(some 64), (.conv .u64 (.t 63)), none⟩, ⟨(some 65), (.bin .add (.t 59) (.t 64)), none⟩, ⟨(some 6), (.mv (.t 65)), none⟩] s h) := k_reg0
@[simp] theorem q55_23 : runF E n0 g c55_23 s h = seqK E n0 g c55_22 (runF E n0 g c55_21 s h) := k_seq
@[simp] theorem q55_24 : runF E n0 g c55_24 s h = blkK (some [4, 5, 6, 7]) 1 (runF E n0 g c55_23 s h) := k_block
@[simp] theorem q55_25 : runF E n0 g c55_25 s h = regK (some [4, 5, 6, 7]) (runO E n0 g h.length [⟨(some 46), (.mv (.t 7)), none⟩, ⟨(some 47), (.bin .add (.t 46) (.c (.int .i64 1))), none⟩, ⟨(some 7), (.mv (.t 47)), none⟩] s h) := k_reg0
@[simp] theorem q55_26 : runF E n0 g c55_26 s h = seqK E n0 g c55_25 (runF E n0 g c55_24 s h) := k_seq
@[simp] theorem q55_27 : runF E n0 g c55_27 s h = seqK E n0 g c55_26 (runF E n0 g c55_16 s h) := k_seq
theorem q55_28 : runF E n0 g c55_28 s h = loopK E n0 g (some [4, 5, 6, 7]) c55_27 (runF E n0 g c55_27 (clearO (some [4, 5, 6, 7]) s) h) := k_loop
@[simp] theorem q55_28L : runF E n0 g (.loop (some [4, 5, 6, 7]) c55_27) s h = runF E n0 g c55_28 s h := rfl
@[simp] theorem q55_29 : runF E n0 g c55_29 s h = blkK (some [5, 6]) 0 (runF E n0 g c55_28 s h) := k_block
@[simp] theorem q55_30 : runF E n0 g c55_30 s h = seqK E n0 g c55_29 (runF E n0 g c55_13 s h) := k_seq
@[simp] theorem q55_31 : runF E n0 g c55_31 s h = regK (some [5, 6, 8]) (runO E n0 g h.length [⟨(some 8), (.mv (.c (.int .u64 9223372036854775807))), none⟩] s h) := k_reg0
@[simp] theorem q55_32 : runF E n0 g c55_32 s h = regK (some [5, 6, 8, 66]) (runO E n0 g h.length [⟨(some 66), (.mv (.t 5)), none⟩] s h) := k_reg0
@[simp] theorem q55_33 : runF E n0 g c55_33 s h = regK (some [5, 6, 8]) (runO E n0 g h.length [⟨(some 67), (.mv (.t 8)), none⟩, ⟨(some 68), (.bin .add (.t 67) (.c (.int .u64 1))), none⟩, ⟨(some 8), (.mv (.t 68)), none⟩] s h) := k_reg0
@[simp] theorem q55_34 : runF E n0 g c55_34 s h = condK E n0 g c55_33 .skip s h (get s 66) := k_cond
@[simp] theorem q55_35 : runF E n0 g c55_35 s h = seqK E n0 g c55_34 (runF E n0 g c55_32 s h) := k_seq
@[simp] theorem q55_36 : runF E n0 g c55_36 s h = regK (some [5, 6, 71]) (runO E n0 g h.length [⟨(some 69), (.mv (.t 6)), none⟩, ⟨(some 70), (.mv (.t 8)), none⟩, ⟨(some 71), (.bin .gtr (.t 69) (.t 70)), none⟩] s h) := k_reg0
@[simp] theorem q55_37 : runF E n0 g c55_37 s h = regK (some [2, 3]) (runO E n0 g h.length [⟨(some 2), (.mv (.c (.int .i64 0))), none⟩, ⟨(some 3), (.mv (.c (.bool false))), none⟩] s h) := k_reg0
@[simp] theorem q55_38 : runF E n0 g c55_38 s h = seqK E n0 g .ret (runF E n0 g c55_37 s h) := k_seq
@[simp] theorem q55_39 : runF E n0 g c55_39 s h = condK E n0 g c55_38 .skip s h (get s 71) := k_cond
@[simp] theorem q55_40 : runF E n0 g c55_40 s h = seqK E n0 g c55_39 (runF E n0 g c55_36 s h) := k_seq
@[simp] theorem q55_41 : runF E n0 g c55_41 s h = regK (some [6, 72]) (runO E n0 g h.length [⟨(some 72), (.mv (.t 5)), none⟩] s h) := k_reg0
@[simp] theorem q55_42 : runF E n0 g c55_42 s h = regK (some [2, 3]) (runO E n0 g h.length [⟨(some 73), (.mv (.t 6)), none⟩, ⟨(some 74), (.un .neg (.t 73)), none⟩, ⟨(some 75), (.conv .i64 (.t 74)), none⟩, ⟨(some 2), (.mv (.t 75)), none⟩, ⟨(some 3), (.mv (.c (.bool true))), none⟩] s h) := k_reg0
@[simp] theorem q55_43 : runF E n0 g c55_43 s h = seqK E n0 g .ret (runF E n0 g c55_42 s h) := k_seq
@[simp] theorem q55_44 : runF E n0 g c55_44 s h = condK E n0 g c55_43 .skip s h (get s 72) := k_cond
@[simp] theorem q55_45 : runF E n0 g c55_45 s h = seqK E n0 g c55_44 (runF E n0 g c55_41 s h) := k_seq
@[simp] theorem q55_46 : runF E n0 g c55_46 s h = regK (some [2, 3]) (runO E n0 g h.length [⟨(some 76), (.mv (.t 6)), none⟩, ⟨(some 77), (.conv .i64 (.t 76)), none⟩, ⟨(some 2), (.mv (.t 77)), none⟩, ⟨(some 3), (.mv (.c (.bool true))), none⟩] s h) := k_reg0
@[simp] theorem q55_47 : runF E n0 g c55_47 s h = seqK E n0 g .ret (runF E n0 g c55_46 s h) := k_seq
@[simp] theorem q55_48 : runF E n0 g c55_48 s h = seqK E n0 g c55_47 (runF E n0 g c55_45 s h) := k_seq
@[simp] theorem q55_49 : runF E n0 g c55_49 s h = seqK E n0 g c55_48 (runF E n0 g c55_40 s h) := k_seq
@[simp] theorem q55_50 : runF E n0 g c55_50 s h = seqK E n0 g c55_49 (runF E n0 g c55_35 s h) := k_seq
@[simp] theorem q55_51 : runF E n0 g c55_51 s h = seqK E n0 g c55_50 (runF E n0 g c55_31 s h) := k_seq
@[simp] theorem q55_52 : runF E n0 g c55_52 s h = seqK E n0 g c55_51 (runF E n0 g c55_30 s h) := k_seq
@[simp] theorem q55_53 : runF E n0 g c55_53 s h = seqK E n0 g c55_52 (runF E n0 g c55_12 s h) := k_seq
@[simp] theorem q55_54 : runF E n0 g c55_54 s h = seqK E n0 g c55_53 (runF E n0 g c55_11 s h) := k_seq
@[simp] theorem q55_55 : runF E n0 g c55_55 s h = seqK E n0 g c55_54 (runF E n0 g c55_6 s h) := k_seq
@[simp] theorem q55_56 : runF E n0 g c55_56 s h = seqK E n0 g c55_55 (runF E n0 g c55_2 s h) := k_seq
@[simp] theorem q55_57 : runF E n0 g c55_57 s h = seqK E n0 g c55_56 (runF E n0 g c55_1 s h) := k_seq
@[simp] theorem q55_58 : runF E n0 g c55_58 s h = seqK E n0 g c55_57 (runF E n0 g c55_0 s h) := k_seq
@[simp] theorem qq55 : runF E n0 g c55 s h = runF E n0 g c55_58 s h := rfl
@[simp] theorem q56_0 : runF E n0 g c56_0 s h = regK (some [0, 1]) (runO E n0 g h.length [⟨(some 4), (.mv (.c (.bool false))), none⟩] s h) := k_reg0
@[simp] theorem q56_1 : runF E n0 g c56_1 s h = regK (some [0, 8]) (runO E n0 g h.length [⟨(some 5), (.mv (.t 0)), none⟩, ⟨(some 6), (.mv (.t 1)), none⟩, ⟨(some 7), (.call 57 [(.t 5), (.t 6)]), none⟩, ⟨(some 8), (.un .not (.t 7)), none⟩] s h) := k_reg0
@[simp] theorem q56_2 : runF E n0 g c56_2 s h = regK (some [4]) (runO E n0 g h.length [⟨(some 4), (.mv (.c (.bool false))), none⟩] s h) := k_reg0
@[simp] theorem q56_3 : runF E n0 g c56_3 s h = seqK E n0 g .ret (runF E n0 g c56_2 s h) := k_seq
@[simp] theorem q56_4 : runF E n0 g c56_4 s h = condK E n0 g c56_3 .skip s h (get s 8) := k_cond
@[simp] theorem q56_5 : runF E n0 g c56_5 s h = seqK E n0 g c56_4 (runF E n0 g c56_1 s h) := k_seq
@[simp] theorem q56_6 : runF E n0 g c56_6 s h = regK (some []) (runO E n0 g h.length [⟨(some 9), (.mv (.t 0)), none⟩, ⟨(some 10), (.nilc (.t 9)), none⟩, ⟨(some 11), (.fa 1 (.t 10)), none⟩, ⟨(some 12), (.ld false 1 (.t 11)), none⟩, ⟨(some 13), (.bin .add (.t 12) (.c (.int .i64 1))), none⟩, ⟨(some 14), (.nilc (.t 9)), none⟩, ⟨(some 15), (.fa 1 (.t 14)), none⟩, ⟨none, (.st 1 (.t 15) (.t 13)), none⟩] s h) := k_reg0
@[simp] theorem q56_7 : runF E n0 g c56_7 s h = regK (some [4]) (runO E n0 g h.length [⟨(some 4), (.mv (.c (.bool true))), none⟩] s h) := k_reg0
@[simp] theorem q56_8 : runF E n0 g c56_8 s h = seqK E n0 g .ret (runF E n0 g c56_7 s h) := k_seq
@[simp] theorem q56_9 : runF E n0 g c56_9 s h = seqK E n0 g c56_8 (runF E n0 g c56_6 s h) := k_seq
@[simp] theorem q56_10 : runF E n0 g c56_10 s h = seqK E n0 g c56_9 (runF E n0 g c56_5 s h) := k_seq
@[simp] theorem q56_11 : runF E n0 g c56_11 s h = seqK E n0 g c56_10 (runF E n0 g c56_0 s h) := k_seq
@[simp] theorem qq56 : runF E n0 g c56 s h = runF E n0 g c56_11 s h := rfl
@[simp] theorem q57_0 : runF E n0 g c57_0 s h = regK (some [0, 1]) (runO E n0 g h.length [⟨(some 4), (.mv (.c (.bool false))), none⟩] s h) := k_reg0
@[simp] theorem q57_1 : runF E n0 g c57_1 s h = regK (some [1, 5]) (runO E n0 g h.length [⟨(some 6), (.mv (.t 0)), none⟩, ⟨(some 7), (.call 53 [(.t 6)]), none⟩, ⟨(some 5), (.al 0 [(.int .i64 0), (.str []), (.int .i64 0)]), none⟩, ⟨none, (.st 3 (.t 5) (.t 7)), none⟩] s (h ++ [(.cells [(.int .i64 0), (.str []), (.int .i64 0)])])) := k_reg
@[simp] theorem q57_2 : runF E n0 g c57_2 s h = regK (some [4]) (runO E n0 g h.length [⟨(some 8), (.fa 0 (.t 5)), none⟩, ⟨(some 9), (.ld false 1 (.t 8)), none⟩, ⟨(some 10), (.bin .eql (.t 9) (.c (.int .i64 3))), none⟩, ⟨(some 11), (.mv (.t 10)), none⟩, ⟨(some 12), (.fa 1 (.t 5)), (some (11, true))⟩, ⟨(some 13), (.ld false 1 (.t 12)), (some (11, true))⟩, ⟨(some 14), (.mv (.t 1)), (some (11, true))⟩, ⟨(some 15), (.bin .eql (.t 13) (.t 14)), (some (11, true))⟩, ⟨(some 16), (.pick (.t 11) (.t 15) (.c (.bool false))), none⟩, ⟨(some 4), (.mv (.t 16)), none⟩] s h) := k_reg0
@[simp] theorem q57_3 : runF E n0 g c57_3 s h = seqK E n0 g .ret (runF E n0 g c57_2 s h) := k_seq
@[simp] theorem q57_4 : runF E n0 g c57_4 s h = seqK E n0 g c57_3 (runF E n0 g c57_1 s h) := k_seq
@[simp] theorem q57_5 : runF E n0 g c57_5 s h = seqK E n0 g c57_4 (runF E n0 g c57_0 s h) := k_seq
@[simp] theorem qq57 : runF E n0 g c57 s h = runF E n0 g c57_5 s h := rfl
@[simp] theorem q58_0 : runF E n0 g c58_0 s h = regK (some [0]) (runO E n0 g h.length [⟨(some 2), (.mv (.c (.sl .full []))), none⟩] s h) := k_reg0
@[simp] theorem q58_1 : runF E n0 g c58_1 s h = regK (some [0, 3]) (runO E n0 g h.length [⟨(some 4), (.mv (.t 0)), none⟩, ⟨(some 5), (.call 23 [(.t 4)]), none⟩, ⟨(some 6), (.bsl 1 (.str []) 1 [(0, (.t 5))]), none⟩, ⟨(some 3), (.mv (.t 6)), none⟩] s h) := k_reg0
@[simp] theorem q58_2 : runF E n0 g c58_2 s h = regK (some [0, 3, 8]) (runO E n0 g h.length [⟨(some 7), (.mv (.t 0)), none⟩, ⟨(some 8), (.call 56 [(.t 7), (.c (.str [44]))]), none⟩] s h) := k_reg0
@[simp] theorem q58_3 : runF E n0 g c58_3 s h = condK E n0 g .skip (.exit 0) s h (get s 8) := k_cond
@[simp] theorem q58_4 : runF E n0 g c58_4 s h = seqK E n0 g c58_3 (runF E n0 g c58_2 s h) := k_seq
@[simp] theorem q58_5 : runF E n0 g c58_5 s h = regK (some [0, 3]) (runO E n0 g h.length [⟨(some 9), (.mv (.t 3)), none⟩, ⟨(some 10), (.mv (.t 0)), none⟩, ⟨(some 11), (.call 23 [(.t 10)]), none⟩, ⟨(some 12), (.bsl 1 (.str []) 1 [(0, (.t 11))]), none⟩, ⟨(some 13), (.app 0 1 16 (.t 9) (.t 12)), none⟩, ⟨(some 3), (.mv (.t 13)), none⟩] s (h ++ [.dead])) := k_reg
@[simp] theorem q58_6 : runF E n0 g c58_6 s h = blkK (some [0, 3]) 1 (runF E n0 g c58_5 s h) := k_block
@[simp] theorem q58_7 : runF E n0 g c58_7 s h = seqK E n0 g c58_6 (runF E n0 g c58_4 s h) := k_seq
theorem q58_8 : runF E n0 g c58_8 s h = loopK E n0 g (some [0, 3]) c58_7 (runF E n0 g c58_7 (clearO (some [0, 3]) s) h) := k_loop
@[simp] theorem q58_8L : runF E n0 g (.loop (some [0, 3]) c58_7) s h = runF E n0 g c58_8 s h := rfl
@[simp] theorem q58_9 : runF E n0 g c58_9 s h = blkK (some [3]) 0 (runF E n0 g c58_8 s h) := k_block
@[simp] theorem q58_10 : runF E n0 g c58_10 s h = regK (some [2]) (runO E n0 g h.length [⟨(some 14), (.mv (.t 3)), none⟩, ⟨(some 2), (.mv (.t 14)), none⟩] s h) := k_reg0
@[simp] theorem q58_11 : runF E n0 g c58_11 s h = seqK E n0 g .ret (runF E n0 g c58_10 s h) := k_seq
@[simp] theorem q58_12 : runF E n0 g c58_12 s h = seqK E n0 g c58_11 (runF E n0 g c58_9 s h) := k_seq
@[simp] theorem q58_13 : runF E n0 g c58_13 s h = seqK E n0 g c58_12 (runF E n0 g c58_1 s h) := k_seq
@[simp] theorem q58_14 : runF E n0 g c58_14 s h = seqK E n0 g c58_13 (runF E n0 g c58_0 s h) := k_seq
@[simp] theorem qq58 : runF E n0 g c58 s h = runF E n0 g c58_14 s h := rfl
@[simp] theorem q59_0 : runF E n0 g c59_0 s h = regK (some [0, 2]) (runO E n0 g h.length [⟨(some 2), (.al 0 [(.int .i64 0), (.str []), (.str []), (.int .i64 0), (.int .i64 0), (.int .i64 0), (.str []), (.int .i64 0), (.sl .full []), (.int .i64 0), (.int .i64 0), (.str []), (.int .i64 0), (.sl .full []), (.sl .full []), (.sl .full []), (.sl .full [])]), none⟩] s (h ++ [(.cells [(.int .i64 0), (.str []), (.str []), (.int .i64 0), (.int .i64 0), (.int .i64 0), (.str []), (.int .i64 0), (.sl .full []), (.int .i64 0), (.int .i64 0), (.str []), (.int .i64 0), (.sl .full []), (.sl .full []), (.sl .full []), (.sl .full [])])])) := k_reg
@[simp] theorem q59_1 : runF E n0 g c59_1 s h = regK (some [0, 2, 5]) (runO E n0 g h.length [⟨(some 6), (.mv (.t 0)), none⟩, ⟨(some 7), (.call 22 [(.t 6), (.c (.str [105, 102]))]), none⟩, ⟨(some 5), (.mv (.t 7)), none⟩] s h) := k_reg0
@[simp] theorem q59_2 : runF E n0 g c59_2 s h = regK (some [0, 2, 3]) (runO E n0 g h.length [⟨(some 8), (.mv (.t 0)), none⟩, ⟨(some 9), (.call 99 [(.t 8)]), none⟩, ⟨(some 10), (.mv (.t 0)), none⟩, ⟨(some 11), (.call 100 [(.t 10)]), none⟩, ⟨(some 12), (.bld [(.int .i64 0), (.str []), (.str []), (.int .i64 0), (.int .i64 0), (.int .i64 0), (.str []), (.int .i64 0), (.sl .full []), (.int .i64 0), (.int .i64 0), (.str []), (.int .i64 0), (.sl .full []), (.sl .full []), (.sl .full []), (.sl .full [])] [(0, (1, (.c (.int .i64 3)))), (9, (5, (.t 9))), (15, (1, (.t 11)))]), none⟩, ⟨(some 3), (.al 0 [(.int .i64 0), (.str []), (.str []), (.int .i64 0), (.int .i64 0), (.int .i64 0), (.str []), (.int .i64 0), (.sl .full []), (.int .i64 0), (.int .i64 0), (.str []), (.int .i64 0), (.sl .full []), (.sl .full []), (.sl .full []), (.sl .full [])]), none⟩, ⟨none, (.st 17 (.t 3) (.t 12)), none⟩] s (h ++ [(.cells [(.int .i64 0), (.str []), (.str []), (.int .i64 0), (.int .i64 0), (.int .i64 0), (.str []), (.int .i64 0), (.sl .full []), (.int .i64 0), (.int .i64 0), (.str []), (.int .i64 0), (.sl .full []), (.sl .full []), (.sl .full []), (.sl .full [])])])) := k_reg
@[simp] theorem q59_3 : runF E n0 g c59_3 s h = regK (some [0, 2, 3, 14]) (runO E n0 g h.length [⟨(some 13), (.mv (.t 0)), none⟩, ⟨(some 14), (.call 22 [(.t 13), (.c (.str [101, 108, 115, 101]))]), none⟩] s h) := k_reg0
@[simp] theorem q59_4 : runF E n0 g c59_4 s h = regK (some [2, 3]) (runO E n0 g h.length [⟨(some 15), (.mv (.t 0)), none⟩, ⟨(some 16), (.call 100 [(.t 15)]), none⟩, ⟨(some 17), (.fa 16 (.t 3)), none⟩, ⟨none, (.st 1 (.t 17) (.t 16)), none⟩] s h) := k_reg0
@[simp] theorem q59_5 : runF E n0 g c59_5 s h = condK E n0 g c59_4 .skip s h (get s 14) := k_cond
@[simp] theorem q59_6 : runF E n0 g c59_6 s h = seqK E n0 g c59_5 (runF E n0 g c59_3 s h) := k_seq
@[simp] theorem q59_7 : runF E n0 g c59_7 s h = regK (some [2]) (runO E n0 g h.length [⟨(some 18), (.ld true 17 (.t 3)), none⟩, ⟨none, (.st 17 (.t 2) (.t 18)), none⟩] s h) := k_reg0
@[simp] theorem q59_8 : runF E n0 g c59_8 s h = seqK E n0 g .ret (runF E n0 g c59_7 s h) := k_seq
@[simp] theorem q59_9 : runF E n0 g c59_9 s h = seqK E n0 g c59_8 (runF E n0 g c59_6 s h) := k_seq
@[simp] theorem q59_10 : runF E n0 g c59_10 s h = seqK E n0 g c59_9 (runF E n0 g c59_2 s h) := k_seq
@[simp] theorem q59_11 : runF E n0 g c59_11 s h = regK (some [0, 2, 19]) (runO E n0 g h.length [⟨(some 20), (.mv (.t 0)), none⟩, ⟨(some 21), (.call 22 [(.t 20), (.c (.str [119, 104, 105, 108, 101]))]), none⟩, ⟨(some 19), (.mv (.t 21)), none⟩] s h) := k_reg0
@[simp] theorem q59_12 : runF E n0 g c59_12 s h = regK (some [2]) (runO E n0 g h.length [⟨(some 22), (.mv (.t 0)), none⟩, ⟨(some 23), (.call 99 [(.t 22)]), none⟩, ⟨(some 24), (.mv (.t 0)), none⟩, ⟨(some 25), (.call 100 [(.t 24)]), none⟩, ⟨(some 26), (.bld [(.int .i64 0), (.str []), (.str []), (.int .i64 0), (.int .i64 0), (.int .i64 0), (.str []), (.int .i64 0), (.sl .full []), (.int .i64 0), (.int .i64 0), (.str []), (.int .i64 0), (.sl .full []), (.sl .full []), (.sl .full []), (.sl .full [])] [(0, (1, (.c (.int .i64 4)))), (9, (5, (.t 23))), (15, (1, (.t 25)))]), none⟩, ⟨none, (.st 17 (.t 2) (.t 26)), none⟩] s h) := k_reg0
@[simp] theorem q59_13 : runF E n0 g c59_13 s h = seqK E n0 g .ret (runF E n0 g c59_12 s h) := k_seq
@[simp] theorem q59_14 : runF E n0 g c59_14 s h = condK E n0 g c59_13 .skip s h (get s 19) := k_cond
@[simp] theorem q59_15 : runF E n0 g c59_15 s h = seqK E n0 g c59_14 (runF E n0 g c59_11 s h) := k_seq
@[simp] theorem q59_16 : runF E n0 g c59_16 s h = condK E n0 g c59_10 c59_15 s h (get s 5) := k_cond
@[simp] theorem q59_17 : runF E n0 g c59_17 s h = seqK E n0 g c59_16 (runF E n0 g c59_1 s h) := k_seq
@[simp] theorem q59_18 : runF E n0 g c59_18 s h = blkK (some [0, 2]) 0 (runF E n0 g c59_17 s h) := k_block
@[simp] theorem q59_19 : runF E n0 g c59_19 s h = regK (some [0, 2, 4]) (runO E n0 g h.length [⟨(some 27), (.mv (.t 0)), none⟩, ⟨(some 28), (.call 101 [(.t 27)]), none⟩, ⟨(some 4), (.al 0 [(.int .i64 0), (.str []), (.str []), (.int .i64 0), (.int .i64 0), (.int .i64 0), (.str []), (.int .i64 0), (.sl .full []), (.int .i64 0), (.int .i64 0), (.str []), (.int .i64 0), (.sl .full []), (.sl .full []), (.sl .full []), (.sl .full [])]), none⟩, ⟨none, (.st 17 (.t 4) (.t 28)), none⟩] s (h ++ [(.cells [(.int .i64 0), (.str []), (.str []), (.int .i64 0), (.int .i64 0), (.int .i64 0), (.str []), (.int .i64 0), (.sl .full []), (.int .i64 0), (.int .i64 0), (.str []), (.int .i64 0), (.sl .full []), (.sl .full []), (.sl .full []), (.sl .full [])])])) := k_reg
@[simp] theorem q59_20 : runF E n0 g c59_20 s h = regK (some [2, 4]) (runO E n0 g h.length [⟨(some 29), (.mv (.t 0)), none⟩, ⟨(some 30), (.call 25 [(.t 29), (.c (.str [59]))]), none⟩] s h) := k_reg0
@[simp] theorem q59_21 : runF E n0 g c59_21 s h = regK (some [2]) (runO E n0 g h.length [⟨(some 31), (.ld true 17 (.t 4)), none⟩, ⟨none, (.st 17 (.t 2) (.t 31)), none⟩] s h) := k_reg0
@[simp] theorem q59_22 : runF E n0 g c59_22 s h = seqK E n0 g .ret (runF E n0 g c59_21 s h) := k_seq
@[simp] theorem q59_23 : runF E n0 g c59_23 s h = seqK E n0 g c59_22 (runF E n0 g c59_20 s h) := k_seq
@[simp] theorem q59_24 : runF E n0 g c59_24 s h = seqK E n0 g c59_23 (runF E n0 g c59_19 s h) := k_seq
@[simp] theorem q59_25 : runF E n0 g c59_25 s h = seqK E n0 g c59_24 (runF E n0 g c59_18 s h) := k_seq
@[simp] theorem q59_26 : runF E n0 g c59_26 s h = seqK E n0 g c59_25 (runF E n0 g c59_0 s h) := k_seq
@[simp] theorem qq59 : runF E n0 g c59 s h = runF E n0 g c59_26 s h := rfl
@[simp] theorem q60_0 : runF E n0 g c60_0 s h = regK (some [0, 2]) (runO E n0 g h.length [⟨(some 2), (.al 0 [(.int .i64 0), (.int .i64 0), (.str []), (.int .i64 0), (.sl .full [])]), none⟩] s (h ++ [(.cells [(.int .i64 0), (.int .i64 0), (.str []), (.int .i64 0), (.sl .full [])])])) := k_reg
@[simp] theorem q60_1 : runF E n0 g c60_1 s h = regK (some [0, 2, 3]) (runO E n0 g h.length [⟨(some 5), (.mv (.t 0)), none⟩, ⟨(some 6), (.call 102 [(.t 5), (.c (.int .i64 0))]), none⟩, ⟨(some 3), (.al 0 [(.int .i64 0), (.int .i64 0), (.str []), (.int .i64 0), (.sl .full [])]), none⟩, ⟨none, (.st 5 (.t 3) (.t 6)), none⟩] s (h ++ [(.cells [(.int .i64 0), (.int .i64 0), (.str []), (.int .i64 0), (.sl .full [])])])) := k_reg
@[simp] theorem q60_2 : runF E n0 g c60_2 s h = regK (some [0, 2, 3, 9]) (runO E n0 g h.length [⟨(some 7), (.mv (.t 0)), none⟩, ⟨(some 8), (.call 56 [(.t 7), (.c (.str [63]))]), none⟩, ⟨(some 9), (.un .not (.t 8)), none⟩] s h) := k_reg0
@[simp] theorem q60_3 : runF E n0 g c60_3 s h = regK (some [2]) (runO E n0 g h.length [⟨(some 10), (.ld true 5 (.t 3)), none⟩, ⟨none, (.st 5 (.t 2) (.t 10)), none⟩] s h) := k_reg0
@[simp] theorem q60_4 : runF E n0 g c60_4 s h = seqK E n0 g .ret (runF E n0 g c60_3 s h) := k_seq
@[simp] theorem q60_5 : runF E n0 g c60_5 s h = condK E n0 g c60_4 .skip s h (get s 9) := k_cond
@[simp] theorem q60_6 : runF E n0 g c60_6 s h = seqK E n0 g c60_5 (runF E n0 g c60_2 s h) := k_seq
@[simp] theorem q60_7 : runF E n0 g c60_7 s h = regK (some [0, 2, 3, 4]) (runO E n0 g h.length [⟨(some 11), (.mv (.t 0)), none⟩, ⟨(some 12), (.call 60 [(.t 11)]), none⟩, ⟨(some 4), (.al 0 [(.int .i64 0), (.int .i64 0), (.str []), (.int .i64 0), (.sl .full [])]), none⟩, ⟨none, (.st 5 (.t 4) (.t 12)), none⟩] s (h ++ [(.cells [(.int .i64 0), (.int .i64 0), (.str []), (.int .i64 0), (.sl .full [])])])) := k_reg
@[simp] theorem q60_8 : runF E n0 g c60_8 s h = regK (some [0, 2, 3, 4]) (runO E n0 g h.length [⟨(some 13), (.mv (.t 0)), none⟩, ⟨(some 14), (.call 25 [(.t 13), (.c (.str [58]))]), none⟩] s h) := k_reg0
@[simp] theorem q60_9 : runF E n0 g c60_9 s h = regT (some [2]) [(0, [3]), (1, [3])] (runTr E n0 g h.length [⟨(some 15), (.ld true 5 (.t 3)), none⟩, ⟨(some 16), (.ld true 5 (.t 4)), none⟩, ⟨(some 17), (.mv (.t 0)), none⟩, ⟨(some 18), (.call 60 [(.t 17)]), none⟩, ⟨(some 19), (.bsl 5 (.agg [(.int .i64 0), (.int .i64 0), (.str []), (.int .i64 0), (.sl .none [])]) 3 [(0, (.t 15)), (1, (.t 16)), (2, (.t 18))]), none⟩, ⟨(some 20), (.bld [(.int .i64 0), (.int .i64 0), (.str []), (.int .i64 0), (.sl .full [])] [(0, (1, (.c (.int .i64 5)))), (4, (1, (.t 19)))]), none⟩, ⟨none, (.st 5 (.t 2) (.t 20)), none⟩] s h []) := by rw [show c60_9 = .reg (some [2]) [] [⟨(some 15), (.ld true 5 (.t 3)), none⟩, ⟨(some 16), (.ld true 5 (.t 4)), none⟩, ⟨(some 17), (.mv (.t 0)), none⟩, ⟨(some 18), (.call 60 [(.t 17)]), none⟩, ⟨(some 19), (.bsl 5 (.agg [(.int .i64 0), (.int .i64 0), (.str []), (.int .i64 0), (.sl .none [])]) 3 [(0, (.t 15)), (1, (.t 16)), (2, (.t 18))]), none⟩, ⟨(some 20), (.bld [(.int .i64 0), (.int .i64 0), (.str []), (.int .i64 0), (.sl .full [])] [(0, (1, (.c (.int .i64 5)))), (4, (1, (.t 19)))]), none⟩, ⟨none, (.st 5 (.t 2) (.t 20)), none⟩] (some [(0, [3]), (1, [3])]) from rfl, k_regd, List.append_nil]
@[simp] theorem q60_10 : runF E n0 g c60_10 s h = seqK E n0 g .ret (runF E n0 g c60_9 s h) := k_seq
@[simp] theorem q60_11 : runF E n0 g c60_11 s h = seqK E n0 g c60_10 (runF E n0 g c60_8 s h) := k_seq
@[simp] theorem q60_12 : runF E n0 g c60_12 s h = seqK E n0 g c60_11 (runF E n0 g c60_7 s h) := k_seq
@[simp] theorem q60_13 : runF E n0 g c60_13 s h = seqK E n0 g c60_12 (runF E n0 g c60_6 s h) := k_seq
@[simp] theorem q60_14 : runF E n0 g c60_14 s h = seqK E n0 g c60_13 (runF E n0 g c60_1 s h) := k_seq
@[simp] theorem q60_15 : runF E n0 g c60_15 s h = seqK E n0 g c60_14 (runF E n0 g c60_0 s h) := k_seq
@[simp] theorem qq60 : runF E n0 g c60 s h = runF E n0 g c60_15 s h := rfl
@[simp] theorem q94_0 : runF E n0 g c94_0 s h = regK (some [0]) (runO E n0 g h.length [⟨(some 2), (.mv (.c (.int .i64 0))), none⟩] s h) := k_reg0
@[simp] theorem q94_1 : runF E n0 g c94_1 s h = regK (some [0, 3]) (runO E n0 g h.length [⟨(some 3), (.mv (.c (.int .i64 0))), none⟩] s h) := k_reg0
@[simp] theorem q94_2 : runF E n0 g c94_2 s h = regK (some [0, 3, 19]) (runO E n0 g h.length [⟨(some 4), (.mv (.t 3)), none⟩, ⟨(some 5), (.mv (.t 0)), none⟩, ⟨(some 6), (.lens (.t 5)), none⟩, ⟨(some 7), (.bin .lss (.t 4) (.t 6)), none⟩, ⟨(some 8), (.mv (.t 7)), none⟩, ⟨(some 9), (.mv (.t 0)), (some (8, true))⟩, ⟨(some 10), (.mv (.t 3)), (some (8, true))⟩, ⟨(some 11), (.ixs (.t 9) (.t 10)), (some (8, true))⟩, ⟨(some 12), (.call 123 [(.t 11)]), (some (8, true))⟩, ⟨(some 13), (.mv (.t 12)), (some (8, true))⟩, ⟨(some 14), (.mv (.t 0)), (some (13, false))⟩, ⟨(some 15), (.mv (.t 3)), (some (13, false))⟩, ⟨(some 16), (.ixs (.t 14) (.t 15)), (some (13, false))⟩, ⟨(some 17), (.call 96 [(.t 16)]), (some (13, false))⟩, ⟨(some 18), (.pick (.t 13) (.c (.bool true)) (.t 17)), (some (8, true))⟩, ⟨(some 19), (.pick (.t 8) (.t 18) (.c (.bool false))), none⟩] s h) := k_reg0
@[simp] theorem q94_3 : runF E n0 g c94_3 s h = condK E n0 g .skip (.exit 0) s h (get s 19) := k_cond
@[simp] theorem q94_4 : runF E n0 g c94_4 s h = seqK E n0 g c94_3 (runF E n0 g c94_2 s h) := k_seq
@[simp] theorem q94_5 : runF E n0 g c94_5 s h = regK (some [0, 3]) (runO E n0 g h.length [⟨(some 20), (.mv (.t 3)), none⟩, ⟨(some 21), (.bin .add (.t 20) (.c (.int .i64 1))), none⟩, ⟨(some 3), (.mv (.t 21)), none⟩] s h) := k_reg0
@[simp] theorem q94_6 : runF E n0 g c94_6 s h = blkK (some [0, 3]) 1 (runF E n0 g c94_5 s h) := k_block
@[simp] theorem q94_7 : runF E n0 g c94_7 s h = seqK E n0 g c94_6 (runF E n0 g c94_4 s h) := k_seq
theorem q94_8 : runF E n0 g c94_8 s h = loopK E n0 g (some [0, 3]) c94_7 (runF E n0 g c94_7 (clearO (some [0, 3]) s) h) := k_loop
@[simp] theorem q94_8L : runF E n0 g (.loop (some [0, 3]) c94_7) s h = runF E n0 g c94_8 s h := rfl
@[simp] theorem q94_9 : runF E n0 g c94_9 s h = blkK (some [3]) 0 (runF E n0 g c94_8 s h) := k_block
@[simp] theorem q94_10 : runF E n0 g c94_10 s h = regK (some [2]) (runO E n0 g h.length [⟨(some 22), (.mv (.t 3)), none⟩, ⟨(some 2), (.mv (.t 22)), none⟩] s h) := k_reg0
@[simp] theorem q94_11 : runF E n0 g c94_11 s h = seqK E n0 g .ret (runF E n0 g c94_10 s h) := k_seq
@[simp] theorem q94_12 : runF E n0 g c94_12 s h = seqK E n0 g c94_11 (runF E n0 g c94_9 s h) := k_seq
@[simp] theorem q94_13 : runF E n0 g c94_13 s h = seqK E n0 g c94_12 (runF E n0 g c94_1 s h) := k_seq
@[simp] theorem q94_14 : runF E n0 g c94_14 s h = seqK E n0 g c94_13 (runF E n0 g c94_0 s h) := k_seq
@[simp] theorem qq94 : runF E n0 g c94 s h = runF E n0 g c94_14 s h := rfl
@[simp] theorem q95_0 : runF E n0 g c95_0 s h = regK (some [0]) (runO E n0 g h.length [⟨(some 2), (.mv (.c (.int .i64 0))), none⟩] s h) := k_reg0
@[simp] theorem q95_1 : runF E n0 g c95_1 s h = regK (some [0, 6, 7]) (runO E n0 g h.length [⟨(some 6), (.bld [(.str []), (.str []), (.str []), (.str []), (.str []), (.str []), (.str [])] [(0, (1, (.c (.str [62, 62, 62])))), (1, (1, (.c (.str [60, 60])))), (2, (1, (.c (.str [62, 62])))), (3, (1, (.c (.str [60, 61])))), (4, (1, (.c (.str [62, 61])))), (5, (1, (.c (.str [61, 61])))), (6, (1, (.c (.str [33, 61]))))]), none⟩, ⟨(some 7), (.mv (.c (.int .i64 0))), none⟩] s h) := k_reg0
@[simp] theorem q95_2 : runF E n0 g c95_2 s h = regK (some [0, 6, 7, 8]) (runO E n0 g h.length [⟨(some 8), (.bin .lss (.t 7) (.c (.int .i64 7))), none⟩] s h) := k_reg0
@[simp] theorem q95_3 : runF E n0 g c95_3 s h = condK E n0 g .skip (.exit 0) s h (get s 8) := k_cond
@[simp] theorem q95_4 : runF E n0 g c95_4 s h = regK (some [0, 4, 6, 7]) (runO E n0 g h.length [⟨(some 9), (.ixa false 7 1 (.t 6) (.t 7)), none⟩, ⟨(some 4), (.mv (.t 9)), none⟩] s h) := k_reg0
@[simp] theorem q95_5 : runF E n0 g c95_5 s h = regK (some [0, 4, 6, 7, 22]) (runO E n0 g h.length [⟨(some 10), (.mv (.t 0)), none⟩, ⟨(some 11), (.lens (.t 10)), none⟩, ⟨(some 12), (.mv (.t 4)), none⟩, ⟨(some 13), (.lens (.t 12)), none⟩, ⟨(some 14), (.bin .geq (.t 11) (.t 13)), none⟩, ⟨(some 15), (.mv (.t 14)), none⟩, ⟨(some 16), (.mv (.t 0)), (some (15, true))⟩, ⟨(some 17), (.mv (.t 4)), (some (15, true))⟩, ⟨(some 18), (.lens (.t 17)), (some (15, true))⟩, ⟨(some 19), (.sls (.t 16) none (some (.t 18))), (some (15, true))⟩, ⟨(some 20), (.mv (.t 4)), (some (15, true))⟩, ⟨(some 21), (.bin .eql (.t 19) (.t 20)), (some (15, true))⟩, ⟨(some 22), (.pick (.t 15) (.t 21) (.c (.bool false))), none⟩] s h) := k_reg0
@[simp] theorem q95_6 : runF E n0 g c95_6 s h = regK (some [2]) (runO E n0 g h.length [⟨(some 23), (.mv (.t 4)), none⟩, ⟨(some 24), (.lens (.t 23)), none⟩, ⟨(some 2), (.mv (.t 24)), none⟩] s h) := k_reg0
@[simp] theorem q95_7 : runF E n0 g c95_7 s h = seqK E n0 g .ret (runF E n0 g c95_6 s h) := k_seq
@[simp] theorem q95_8 : runF E n0 g c95_8 s h = condK E n0 g c95_7 .skip s h (get s 22) := k_cond
@[simp] theorem q95_9 : runF E n0 g c95_9 s h = seqK E n0 g c95_8 (runF E n0 g c95_5 s h) := k_seq
@[simp] theorem q95_10 : runF E n0 g c95_10 s h = seqK E n0 g c95_9 (runF E n0 g c95_4 s h) := k_seq
@[simp] theorem q95_11 : runF E n0 g c95_11 s h = blkK (some [0, 6, 7]) 1 (runF E n0 g c95_10 s h) := k_block
@[simp] theorem q95_12 : runF E n0 g c95_12 s h = regK (some [0, 6, 7]) (runO E n0 g h.length [⟨(some 25), (.bin .add (.t 7) (.c (.int .i64 1))), none⟩, ⟨(some 7), (.mv (.t 25)), none⟩] s h) := k_reg0
@[simp] theorem q95_13 : runF E n0 g c95_13 s h = seqK E n0 g c95_12 (runF E n0 g c95_11 s h) := k_seq
@[simp] theorem q95_14 : runF E n0 g c95_14 s h = seqK E n0 g c95_13 (runF E n0 g c95_3 s h) := k_seq
@[simp] theorem q95_15 : runF E n0 g c95_15 s h = seqK E n0 g c95_14 (runF E n0 g c95_2 s h) := k_seq
theorem q95_16 : runF E n0 g c95_16 s h = loopK E n0 g (some [0, 6, 7]) c95_15 (runF E n0 g c95_15 (clearO (some [0, 6, 7]) s) h) := k_loop
@[simp] theorem q95_16L : runF E n0 g (.loop (some [0, 6, 7]) c95_15) s h = runF E n0 g c95_16 s h := rfl
@[simp] theorem q95_17 : runF E n0 g c95_17 s h = blkK (some [0]) 0 (runF E n0 g c95_16 s h) := k_block
@[simp] theorem q95_18 : runF E n0 g c95_18 s h = seqK E n0 g c95_17 (runF E n0 g c95_1 s h) := k_seq
@[simp] theorem q95_19 : runF E n0 g c95_19 s h = regK (some [0, 5]) (runO E n0 g h.length [⟨(some 5), (.mv (.c (.int .i64 0))), none⟩] s h) := k_reg0
@[simp] theorem q95_20 : runF E n0 g c95_20 s h = regK (some [0, 5, 27]) (runO E n0 g h.length [⟨(some 26), (.mv (.t 5)), none⟩, ⟨(some 27), (.bin .lss (.t 26) (.c (.int .i64 23))), none⟩] s h) := k_reg0
@[simp] theorem q95_21 : runF E n0 g c95_21 s h = condK E n0 g .skip (.exit 2) s h (get s 27) := k_cond
@[simp] theorem q95_22 : runF E n0 g c95_22 s h = seqK E n0 g c95_21 (runF E n0 g c95_20 s h) := k_seq
@[simp] theorem q95_23 : runF E n0 g c95_23 s h = regK (some [0, 5, 34]) (runO E n0 g h.length [⟨(some 30), (.mv (.t 0)), none⟩, ⟨(some 31), (.ixs (.t 30) (.c (.int .i64 0))), none⟩, ⟨(some 32), (.mv (.t 5)), none⟩, ⟨(some 33), (.ixs (.c (.str [43, 45, 42, 47, 37, 38, 124, 94, 126, 33, 60, 62, 61, 63, 58, 59, 44, 40, 41, 123, 125, 91, 93])) (.t 32)), none⟩, ⟨(some 34), (.bin .eql (.t 31) (.t 33)), none⟩] s h) := by rw [show c95_23 = .reg (some [0, 5, 34]) [] [⟨(some 30), (.mv (.t 0)), none⟩, ⟨(some 31), (.ixs (.t 30) (.c (.int .i64 0))), none⟩, ⟨(some 32), (.mv (.t 5)), none⟩, ⟨(some 33), (.ixs (.c (.str [43, 45, 42, 47, 37, 38, 124, 94, 126, 33, 60, 62, 61, 63, 58, 59, 44, 40, 41, 123, 125, 91, 93])) (.t 32)), none⟩, ⟨(some 34), (.bin .eql (.t 31) (.t 33)), none⟩] (some []) from rfl, k_regd0, List.append_nil]
@[simp] theorem q95_24 : runF E n0 g c95_24 s h = regK (some [2]) (runO E n0 g h.length [⟨(some 2), (.mv (.c (.int .i64 1))), none⟩] s h) := k_reg0
@[simp] theorem q95_25 : runF E n0 g c95_25 s h = seqK E n0 g .ret (runF E n0 g c95_24 s h) := k_seq
@[simp] theorem q95_26 : runF E n0 g c95_26 s h = condK E n0 g c95_25 .skip s h (get s 34) := k_cond
@[simp] theorem q95_27 : runF E n0 g c95_27 s h = seqK E n0 g c95_26 (runF E n0 g c95_23 s h) := k_seq
@[simp] theorem q95_28 : runF E n0 g c95_28 s h = blkK (some [0, 5]) 3 (runF E n0 g c95_27 s h) := k_block
@[simp] theorem q95_29 : runF E n0 g c95_29 s h = regK (some [0, 5]) (runO E n0 g h.length [⟨(some 28), (.mv (.t 5)), none⟩, ⟨(some 29), (.bin .add (.t 28) (.c (.int .i64 1))), none⟩, ⟨(some 5), (.mv (.t 29)), none⟩] s h) := k_reg0
@[simp] theorem q95_30 : runF E n0 g c95_30 s h = seqK E n0 g c95_29 (runF E n0 g c95_28 s h) := k_seq
@[simp] theorem q95_31 : runF E n0 g c95_31 s h = seqK E n0 g c95_30 (runF E n0 g c95_22 s h) := k_seq
theorem q95_32 : runF E n0 g c95_32 s h = loopK E n0 g (some [0, 5]) c95_31 (runF E n0 g c95_31 (clearO (some [0, 5]) s) h) := k_loop
@[simp] theorem q95_32L : runF E n0 g (.loop (some [0, 5]) c95_31) s h = runF E n0 g c95_32 s h := rfl
@[simp] theorem q95_33 : runF E n0 g c95_33 s h = blkK (some []) 2 (runF E n0 g c95_32 s h) := k_block
@[simp] theorem q95_34 : runF E n0 g c95_34 s h = seqK E n0 g c95_33 (runF E n0 g c95_19 s h) := k_seq
@[simp] theorem q95_35 : runF E n0 g c95_35 s h = regK (some [2]) (runO E n0 g h.length [⟨(some 2), (.mv (.c (.int .i64 0))), none⟩] s h) := k_reg0
@[simp] theorem q95_36 : runF E n0 g c95_36 s h = seqK E n0 g .ret (runF E n0 g c95_35 s h) := k_seq
@[simp] theorem q95_37 : runF E n0 g c95_37 s h = seqK E n0 g c95_36 (runF E n0 g c95_34 s h) := k_seq
@[simp] theorem q95_38 : runF E n0 g c95_38 s h = seqK E n0 g c95_37 (runF E n0 g c95_18 s h) := k_seq
@[simp] theorem q95_39 : runF E n0 g c95_39 s h = seqK E n0 g c95_38 (runF E n0 g c95_0 s h) := k_seq
@[simp] theorem qq95 : runF E n0 g c95 s h = runF E n0 g c95_39 s h := rfl
@[simp] theorem q96_0 : runF E n0 g c96_0 s h = regK (some [0]) (runO E n0 g h.length [⟨(some 2), (.mv (.c (.bool false))), none⟩] s h) := k_reg0
@[simp] theorem q96_1 : runF E n0 g c96_1 s h = regK (some [2]) (runO E n0 g h.length [⟨(some 3), (.mv (.t 0)), none⟩, ⟨(some 4), (.bin .geq (.t 3) (.c (.int .u8 48))), none⟩, ⟨(some 5), (.mv (.t 4)), none⟩, ⟨(some 6), (.mv (.t 0)), (some (5, true))⟩, ⟨(some 7), (.bin .leq (.t 6) (.c (.int .u8 57))), (some (5, true))⟩, ⟨(some 8), (.pick (.t 5) (.t 7) (.c (.bool false))), none⟩, ⟨(some 2), (.mv (.t 8)), none⟩] s h) := k_reg0
@[simp] theorem q96_2 : runF E n0 g c96_2 s h = seqK E n0 g .ret (runF E n0 g c96_1 s h) := k_seq
@[simp] theorem q96_3 : runF E n0 g c96_3 s h = seqK E n0 g c96_2 (runF E n0 g c96_0 s h) := k_seq
@[simp] theorem qq96 : runF E n0 g c96 s h = runF E n0 g c96_3 s h := rfl
@[simp] theorem q97_0 : runF E n0 g c97_0 s h = regK (some [0]) (runO E n0 g h.length [⟨(some 2), (.mv (.c (.bool false))), none⟩] s h) := k_reg0
@[simp] theorem q97_1 : runF E n0 g c97_1 s h = regK (some [0, 3]) (runO E n0 g h.length [⟨(some 3), (.mv (.c (.int .i64 0))), none⟩] s h) := k_reg0
@[simp] theorem q97_2 : runF E n0 g c97_2 s h = regK (some [0, 3, 7]) (runO E n0 g h.length [⟨(some 4), (.mv (.t 3)), none⟩, ⟨(some 5), (.mv (.t 0)), none⟩, ⟨(some 6), (.lens (.t 5)), none⟩, ⟨(some 7), (.bin .lss (.t 4) (.t 6)), none⟩] s h) := k_reg0
@[simp] theorem q97_3 : runF E n0 g c97_3 s h = condK E n0 g .skip (.exit 0) s h (get s 7) := k_cond
@[simp] theorem q97_4 : runF E n0 g c97_4 s h = seqK E n0 g c97_3 (runF E n0 g c97_2 s h) := k_seq
@[simp] theorem q97_5 : runF E n0 g c97_5 s h = regK (some [0, 3, 14]) (runO E n0 g h.length [⟨(some 10), (.mv (.t 0)), none⟩, ⟨(some 11), (.mv (.t 3)), none⟩, ⟨(some 12), (.ixs (.t 10) (.t 11)), none⟩, ⟨(some 13), (.call 96 [(.t 12)]), none⟩, ⟨(some 14), (.un .not (.t 13)), none⟩] s h) := k_reg0
@[simp] theorem q97_6 : runF E n0 g c97_6 s h = regK (some [2]) (runO E n0 g h.length [⟨(some 2), (.mv (.c (.bool false))), none⟩] s h) := k_reg0
@[simp] theorem q97_7 : runF E n0 g c97_7 s h = seqK E n0 g .ret (runF E n0 g c97_6 s h) := k_seq
@[simp] theorem q97_8 : runF E n0 g c97_8 s h = condK E n0 g c97_7 .skip s h (get s 14) := k_cond
@[simp] theorem q97_9 : runF E n0 g c97_9 s h = seqK E n0 g c97_8 (runF E n0 g c97_5 s h) := k_seq
@[simp] theorem q97_10 : runF E n0 g c97_10 s h = blkK (some [0, 3]) 1 (runF E n0 g c97_9 s h) := k_block
@[simp] theorem q97_11 : runF E n0 g c97_11 s h = regK (some [0, 3]) (runO E n0 g h.length [⟨(some 8), (.mv (.t 3)), none⟩, ⟨(some 9), (.bin .add (.t 8) (.c (.int .i64 1))), none⟩, ⟨(some 3), (.mv (.t 9)), none⟩] s h) := k_reg0
@[simp] theorem q97_12 : runF E n0 g c97_12 s h = seqK E n0 g c97_11 (runF E n0 g c97_10 s h) := k_seq
@[simp] theorem q97_13 : runF E n0 g c97_13 s h = seqK E n0 g c97_12 (runF E n0 g c97_4 s h) := k_seq
theorem q97_14 : runF E n0 g c97_14 s h = loopK E n0 g (some [0, 3]) c97_13 (runF E n0 g c97_13 (clearO (some [0, 3]) s) h) := k_loop
@[simp] theorem q97_14L : runF E n0 g (.loop (some [0, 3]) c97_13) s h = runF E n0 g c97_14 s h := rfl
@[simp] theorem q97_15 : runF E n0 g c97_15 s h = blkK (some [0]) 0 (runF E n0 g c97_14 s h) := k_block
@[simp] theorem q97_16 : runF E n0 g c97_16 s h = seqK E n0 g c97_15 (runF E n0 g c97_1 s h) := k_seq
@[simp] theorem q97_17 : runF E n0 g c97_17 s h = regK (some [2]) (runO E n0 g h.length [⟨(some 15), (.mv (.t 0)), none⟩, ⟨(some 16), (.ixs (.t 15) (.c (.int .i64 0))), none⟩, ⟨(some 17), (.bin .neq (.t 16) (.c (.int .u8 48))), none⟩, ⟨(some 18), (.mv (.t 17)), none⟩, ⟨(some 19), (.mv (.t 0)), (some (18, false))⟩, ⟨(some 20), (.lens (.t 19)), (some (18, false))⟩, ⟨(some 21), (.bin .eql (.t 20) (.c (.int .i64 1))), (some (18, false))⟩, ⟨(some 22), (.pick (.t 18) (.c (.bool true)) (.t 21)), none⟩, ⟨(some 23), (.mv (.t 22)), none⟩, ⟨(some 24), (.mv (.t 0)), (some (23, true))⟩, ⟨(some 25), (.lens (.t 24)), (some (23, true))⟩, ⟨(some 26), (.bin .lss (.t 25) (.c (.int .i64 19))), (some (23, true))⟩, ⟨(some 27), (.mv (.t 26)), (some (23, true))⟩, ⟨(some 28), (.mv (.t 0)), (some (27, false))⟩, ⟨(some 29), (.lens (.t 28)), (some (27, false))⟩, ⟨(some 30), (.bin .eql (.t 29) (.c (.int .i64 19))), (some (27, false))⟩, ⟨(some 31), (.mv (.t 30)), (some (27, false))⟩, ⟨(some 32), (.mv (.t 0)), (some (31, true))⟩, ⟨(some 33), (.bin .leq (.t 32) (.c (.str [57, 50, 50, 51, 51, 55, 50, 48, 51, 54, 56, 53, 52, 55, 55, 53, 56, 48, 56]))), (some (31, true))⟩, ⟨(some 34), (.pick (.t 31) (.t 33) (.c (.bool false))), (some (27, false))⟩, ⟨(some 35), (.pick (.t 27) (.c (.bool true)) (.t 34)), (some (23, true))⟩, ⟨(some 36), (.pick (.t 23) (.t 35) (.c (.bool false))), none⟩, ⟨(some 2), (.mv (.t 36)), none⟩] s h) := k_reg0
@[simp] theorem q97_18 : runF E n0 g c97_18 s h = seqK E n0 g .ret (runF E n0 g c97_17 s h) := k_seq
@[simp] theorem q97_19 : runF E n0 g c97_19 s h = seqK E n0 g c97_18 (runF E n0 g c97_16 s h) := k_seq
@[simp] theorem q97_20 : runF E n0 g c97_20 s h = seqK E n0 g c97_19 (runF E n0 g c97_0 s h) := k_seq
@[simp] theorem qq97 : runF E n0 g c97 s h = runF E n0 g c97_20 s h := rfl
@[simp] theorem q98_0 : runF E n0 g c98_0 s h = regK (some [0]) (runO E n0 g h.length [⟨(some 2), (.mv (.c (.bool false))), none⟩] s h) := k_reg0
@[simp] theorem q98_1 : runF E n0 g c98_1 s h = regK (some [3]) (runO E n0 g h.length [⟨(some 3), (.mv (.t 0)), none⟩] s h) := k_reg0
@[simp] theorem q98_2 : runF E n0 g c98_2 s h = regK (some [3, 4]) (runO E n0 g h.length [⟨(some 5), (.bin .eql (.t 3) (.c (.str [97, 114, 114, 97, 121]))), none⟩, ⟨(some 4), (.mv (.t 5)), none⟩] s h) := k_reg0
@[simp] theorem q98_3 : runF E n0 g c98_3 s h = regK (some [3, 4]) (runO E n0 g h.length [⟨(some 6), (.bin .eql (.t 3) (.c (.str [102, 117, 110, 99]))), none⟩, ⟨(some 4), (.mv (.t 6)), none⟩] s h) := k_reg0
@[simp] theorem q98_4 : runF E n0 g c98_4 s h = regK (some [3, 4]) (runO E n0 g h.length [⟨(some 7), (.bin .eql (.t 3) (.c (.str [118, 97, 114]))), none⟩, ⟨(some 4), (.mv (.t 7)), none⟩] s h) := k_reg0
@[simp] theorem q98_5 : runF E n0 g c98_5 s h = regK (some [3, 4]) (runO E n0 g h.length [⟨(some 8), (.bin .eql (.t 3) (.c (.str [114, 101, 116, 117, 114, 110]))), none⟩, ⟨(some 4), (.mv (.t 8)), none⟩] s h) := k_reg0
@[simp] theorem q98_6 : runF E n0 g c98_6 s h = regK (some [3, 4]) (runO E n0 g h.length [⟨(some 9), (.bin .eql (.t 3) (.c (.str [105, 102]))), none⟩, ⟨(some 4), (.mv (.t 9)), none⟩] s h) := k_reg0
@[simp] theorem q98_7 : runF E n0 g c98_7 s h = regK (some [3, 4]) (runO E n0 g h.length [⟨(some 10), (.bin .eql (.t 3) (.c (.str [101, 108, 115, 101]))), none⟩, ⟨(some 4), (.mv (.t 10)), none⟩] s h) := k_reg0
@[simp] theorem q98_8 : runF E n0 g c98_8 s h = regK (some [3, 4]) (runO E n0 g h.length [⟨(some 11), (.bin .eql (.t 3) (.c (.str [119, 104, 105, 108, 101]))), none⟩, ⟨(some 4), (.mv (.t 11)), none⟩] s h) := k_reg0
@[simp] theorem q98_9 : runF E n0 g c98_9 s h = regK (some [3, 4]) (runO E n0 g h.length [⟨(some 12), (.bin .eql (.t 3) (.c (.str [111, 117, 116]))), none⟩, ⟨(some 4), (.mv (.t 12)), none⟩] s h) := k_reg0
@[simp] theorem q98_10 : runF E n0 g c98_10 s h = regK (some [4]) (runO E n0 g h.length [⟨(some 13), (.bin .eql (.t 3) (.c (.str [116, 114, 97, 112]))), none⟩, ⟨(some 4), (.mv (.t 13)), none⟩] s h) := k_reg0
@[simp] theorem q98_11 : runF E n0 g c98_11 s h = condK E n0 g .skip c98_10 s h (get s 4) := k_cond
@[simp] theorem q98_12 : runF E n0 g c98_12 s h = seqK E n0 g c98_11 (runF E n0 g c98_9 s h) := k_seq
@[simp] theorem q98_13 : runF E n0 g c98_13 s h = condK E n0 g .skip c98_12 s h (get s 4) := k_cond
@[simp] theorem q98_14 : runF E n0 g c98_14 s h = seqK E n0 g c98_13 (runF E n0 g c98_8 s h) := k_seq
@[simp] theorem q98_15 : runF E n0 g c98_15 s h = condK E n0 g .skip c98_14 s h (get s 4) := k_cond
@[simp] theorem q98_16 : runF E n0 g c98_16 s h = seqK E n0 g c98_15 (runF E n0 g c98_7 s h) := k_seq
@[simp] theorem q98_17 : runF E n0 g c98_17 s h = condK E n0 g .skip c98_16 s h (get s 4) := k_cond
@[simp] theorem q98_18 : runF E n0 g c98_18 s h = seqK E n0 g c98_17 (runF E n0 g c98_6 s h) := k_seq
@[simp] theorem q98_19 : runF E n0 g c98_19 s h = condK E n0 g .skip c98_18 s h (get s 4) := k_cond
@[simp] theorem q98_20 : runF E n0 g c98_20 s h = seqK E n0 g c98_19 (runF E n0 g c98_5 s h) := k_seq
@[simp] theorem q98_21 : runF E n0 g c98_21 s h = condK E n0 g .skip c98_20 s h (get s 4) := k_cond
@[simp] theorem q98_22 : runF E n0 g c98_22 s h = seqK E n0 g c98_21 (runF E n0 g c98_4 s h) := k_seq
@[simp] theorem q98_23 : runF E n0 g c98_23 s h = condK E n0 g .skip c98_22 s h (get s 4) := k_cond
@[simp] theorem q98_24 : runF E n0 g c98_24 s h = seqK E n0 g c98_23 (runF E n0 g c98_3 s h) := k_seq
@[simp] theorem q98_25 : runF E n0 g c98_25 s h = condK E n0 g .skip c98_24 s h (get s 4) := k_cond
@[simp] theorem q98_26 : runF E n0 g c98_26 s h = seqK E n0 g c98_25 (runF E n0 g c98_2 s h) := k_seq
@[simp] theorem q98_27 : runF E n0 g c98_27 s h = regK (some [2]) (runO E n0 g h.length [⟨(some 2), (.mv (.c (.bool true))), none⟩] s h) := k_reg0
@[simp] theorem q98_28 : runF E n0 g c98_28 s h = seqK E n0 g .ret (runF E n0 g c98_27 s h) := k_seq
@[simp] theorem q98_29 : runF E n0 g c98_29 s h = condK E n0 g c98_28 .skip s h (get s 4) := k_cond
@[simp] theorem q98_30 : runF E n0 g c98_30 s h = seqK E n0 g (.seq c98_25 c98_29) (runF E n0 g c98_2 s h) := k_assoc
@[simp] theorem q98_30a : runF E n0 g (.seq c98_25 c98_29) s h = condK E n0 g c98_28 (.seq c98_24 c98_29) s h (get s 4) := k_or
@[simp] theorem q98_30ab : runF E n0 g (.seq c98_24 c98_29) s h = seqK E n0 g (.seq c98_23 c98_29) (runF E n0 g c98_3 s h) := k_assoc
@[simp] theorem q98_30aba : runF E n0 g (.seq c98_23 c98_29) s h = condK E n0 g c98_28 (.seq c98_22 c98_29) s h (get s 4) := k_or
@[simp] theorem q98_30abab : runF E n0 g (.seq c98_22 c98_29) s h = seqK E n0 g (.seq c98_21 c98_29) (runF E n0 g c98_4 s h) := k_assoc
@[simp] theorem q98_30ababa : runF E n0 g (.seq c98_21 c98_29) s h = condK E n0 g c98_28 (.seq c98_20 c98_29) s h (get s 4) := k_or
@[simp] theorem q98_30ababab : runF E n0 g (.seq c98_20 c98_29) s h = seqK E n0 g (.seq c98_19 c98_29) (runF E n0 g c98_5 s h) := k_assoc
@[simp] theorem q98_30abababa : runF E n0 g (.seq c98_19 c98_29) s h = condK E n0 g c98_28 (.seq c98_18 c98_29) s h (get s 4) := k_or
@[simp] theorem q98_30abababab : runF E n0 g (.seq c98_18 c98_29) s h = seqK E n0 g (.seq c98_17 c98_29) (runF E n0 g c98_6 s h) := k_assoc
@[simp] theorem q98_30ababababa : runF E n0 g (.seq c98_17 c98_29) s h = condK E n0 g c98_28 (.seq c98_16 c98_29) s h (get s 4) := k_or
@[simp] theorem q98_30ababababab : runF E n0 g (.seq c98_16 c98_29) s h = seqK E n0 g (.seq c98_15 c98_29) (runF E n0 g c98_7 s h) := k_assoc
@[simp] theorem q98_30abababababa : runF E n0 g (.seq c98_15 c98_29) s h = condK E n0 g c98_28 (.seq c98_14 c98_29) s h (get s 4) := k_or
@[simp] theorem q98_30abababababab : runF E n0 g (.seq c98_14 c98_29) s h = seqK E n0 g (.seq c98_13 c98_29) (runF E n0 g c98_8 s h) := k_assoc
@[simp] theorem q98_30ababababababa : runF E n0 g (.seq c98_13 c98_29) s h = condK E n0 g c98_28 (.seq c98_12 c98_29) s h (get s 4) := k_or
@[simp] theorem q98_30ababababababab : runF E n0 g (.seq c98_12 c98_29) s h = seqK E n0 g (.seq c98_11 c98_29) (runF E n0 g c98_9 s h) := k_assoc
@[simp] theorem q98_30abababababababa : runF E n0 g (.seq c98_11 c98_29) s h = condK E n0 g c98_28 (.seq c98_10 c98_29) s h (get s 4) := k_or
@[simp] theorem q98_30abababababababab : runF E n0 g (.seq c98_10 c98_29) s h = seqK E n0 g c98_29 (runF E n0 g c98_10 s h) := k_seq
@[simp] theorem q98_31 : runF E n0 g c98_31 s h = blkK (some []) 0 (runF E n0 g c98_30 s h) := k_block
@[simp] theorem q98_32 : runF E n0 g c98_32 s h = seqK E n0 g c98_31 (runF E n0 g c98_1 s h) := k_seq
@[simp] theorem q98_33 : runF E n0 g c98_33 s h = regK (some [2]) (runO E n0 g h.length [⟨(some 2), (.mv (.c (.bool false))), none⟩] s h) := k_reg0
@[simp] theorem q98_34 : runF E n0 g c98_34 s h = seqK E n0 g .ret (runF E n0 g c98_33 s h) := k_seq
@[simp] theorem q98_35 : runF E n0 g c98_35 s h = seqK E n0 g c98_34 (runF E n0 g c98_32 s h) := k_seq
@[simp] theorem q98_36 : runF E n0 g c98_36 s h = seqK E n0 g c98_35 (runF E n0 g c98_0 s h) := k_seq
@[simp] theorem qq98 : runF E n0 g c98 s h = runF E n0 g c98_36 s h := rfl
@[simp] theorem q99_0 : runF E n0 g c99_0 s h = regK (some [0, 2]) (runO E n0 g h.length [⟨(some 2), (.al 0 [(.int .i64 0), (.int .i64 0), (.str []), (.int .i64 0), (.sl .full [])]), none⟩] s (h ++ [(.cells [(.int .i64 0), (.int .i64 0), (.str []), (.int .i64 0), (.sl .full [])])])) := k_reg
@[simp] theorem q99_1 : runF E n0 g c99_1 s h = regK (some [0, 2]) (runO E n0 g h.length [⟨(some 4), (.mv (.t 0)), none⟩, ⟨(some 5), (.call 25 [(.t 4), (.c (.str [40]))]), none⟩] s h) := k_reg0
@[simp] theorem q99_2 : runF E n0 g c99_2 s h = regK (some [0, 2, 3]) (runO E n0 g h.length [⟨(some 6), (.mv (.t 0)), none⟩, ⟨(some 7), (.call 60 [(.t 6)]), none⟩, ⟨(some 3), (.al 0 [(.int .i64 0), (.int .i64 0), (.str []), (.int .i64 0), (.sl .full [])]), none⟩, ⟨none, (.st 5 (.t 3) (.t 7)), none⟩] s (h ++ [(.cells [(.int .i64 0), (.int .i64 0), (.str []), (.int .i64 0), (.sl .full [])])])) := k_reg
@[simp] theorem q99_3 : runF E n0 g c99_3 s h = regK (some [2, 3]) (runO E n0 g h.length [⟨(some 8), (.mv (.t 0)), none⟩, ⟨(some 9), (.call 25 [(.t 8), (.c (.str [41]))]), none⟩] s h) := k_reg0
@[simp] theorem q99_4 : runF E n0 g c99_4 s h = regK (some [2]) (runO E n0 g h.length [⟨(some 10), (.ld true 5 (.t 3)), none⟩, ⟨none, (.st 5 (.t 2) (.t 10)), none⟩] s h) := k_reg0
@[simp] theorem q99_5 : runF E n0 g c99_5 s h = seqK E n0 g .ret (runF E n0 g c99_4 s h) := k_seq
@[simp] theorem q99_6 : runF E n0 g c99_6 s h = seqK E n0 g c99_5 (runF E n0 g c99_3 s h) := k_seq
@[simp] theorem q99_7 : runF E n0 g c99_7 s h = seqK E n0 g c99_6 (runF E n0 g c99_2 s h) := k_seq
@[simp] theorem q99_8 : runF E n0 g c99_8 s h = seqK E n0 g c99_7 (runF E n0 g c99_1 s h) := k_seq
@[simp] theorem q99_9 : runF E n0 g c99_9 s h = seqK E n0 g c99_8 (runF E n0 g c99_0 s h) := k_seq
@[simp] theorem qq99 : runF E n0 g c99 s h = runF E n0 g c99_9 s h := rfl
@[simp] theorem q100_0 : runF E n0 g c100_0 s h = regK (some [0]) (runO E n0 g h.length [⟨(some 2), (.mv (.c (.sl .full []))), none⟩] s h) := k_reg0
@[simp] theorem q100_1 : runF E n0 g c100_1 s h = regK (some [0]) (runO E n0 g h.length [⟨(some 4), (.mv (.t 0)), none⟩, ⟨(some 5), (.call 25 [(.t 4), (.c (.str [123]))]), none⟩] s h) := k_reg0
@[simp] theorem q100_2 : runF E n0 g c100_2 s h = regK (some [0, 3]) (runO E n0 g h.length [⟨(some 3), (.mv (.c (.sl .full []))), none⟩] s h) := k_reg0
@[simp] theorem q100_3 : runF E n0 g c100_3 s h = regK (some [0, 3, 15]) (runO E n0 g h.length [⟨(some 6), (.mv (.t 0)), none⟩, ⟨(some 7), (.nilc (.t 6)), none⟩, ⟨(some 8), (.fa 3 (.t 7)), none⟩, ⟨(some 9), (.ld false 1 (.t 8)), none⟩, ⟨(some 10), (.un .not (.t 9)), none⟩, ⟨(some 11), (.mv (.t 10)), none⟩, ⟨(some 12), (.mv (.t 0)), (some (11, true))⟩, ⟨(some 13), (.call 57 [(.t 12), (.c (.str [125]))]), (some (11, true))⟩, ⟨(some 14), (.un .not (.t 13)), (some (11, true))⟩, ⟨(some 15), (.pick (.t 11) (.t 14) (.c (.bool false))), none⟩] s h) := k_reg0
@[simp] theorem q100_4 : runF E n0 g c100_4 s h = condK E n0 g .skip (.exit 0) s h (get s 15) := k_cond
@[simp] theorem q100_5 : runF E n0 g c100_5 s h = seqK E n0 g c100_4 (runF E n0 g c100_3 s h) := k_seq
@[simp] theorem q100_6 : runF E n0 g c100_6 s h = regK (some [0, 3]) (runO E n0 g h.length [⟨(some 16), (.mv (.t 3)), none⟩, ⟨(some 17), (.mv (.t 0)), none⟩, ⟨(some 18), (.call 59 [(.t 17)]), none⟩, ⟨(some 19), (.bsl 17 (.agg [(.int .i64 0), (.str []), (.str []), (.int .i64 0), (.int .i64 0), (.int .i64 0), (.str []), (.int .i64 0), (.sl .none []), (.int .i64 0), (.int .i64 0), (.str []), (.int .i64 0), (.sl .none []), (.sl .none []), (.sl .none []), (.sl .none [])]) 1 [(0, (.t 18))]), none⟩, ⟨(some 20), (.app 0 17 248 (.t 16) (.t 19)), none⟩, ⟨(some 3), (.mv (.t 20)), none⟩] s (h ++ [.dead])) := k_reg
@[simp] theorem q100_7 : runF E n0 g c100_7 s h = blkK (some [0, 3]) 1 (runF E n0 g c100_6 s h) := k_block
@[simp] theorem q100_8 : runF E n0 g c100_8 s h = seqK E n0 g c100_7 (runF E n0 g c100_5 s h) := k_seq
theorem q100_9 : runF E n0 g c100_9 s h = loopK E n0 g (some [0, 3]) c100_8 (runF E n0 g c100_8 (clearO (some [0, 3]) s) h) := k_loop
@[simp] theorem q100_9L : runF E n0 g (.loop (some [0, 3]) c100_8) s h = runF E n0 g c100_9 s h := rfl
@[simp] theorem q100_10 : runF E n0 g c100_10 s h = blkK (some [0, 3]) 0 (runF E n0 g c100_9 s h) := k_block
@[simp] theorem q100_11 : runF E n0 g c100_11 s h = regK (some [3]) (runO E n0 g h.length [⟨(some 21), (.mv (.t 0)), none⟩, ⟨(some 22), (.call 25 [(.t 21), (.c (.str [125]))]), none⟩] s h) := k_reg0
@[simp] theorem q100_12 : runF E n0 g c100_12 s h = regK (some [2]) (runO E n0 g h.length [⟨(some 23), (.mv (.t 3)), none⟩, ⟨(some 2), (.mv (.t 23)), none⟩] s h) := k_reg0
@[simp] theorem q100_13 : runF E n0 g c100_13 s h = seqK E n0 g .ret (runF E n0 g c100_12 s h) := k_seq
@[simp] theorem q100_14 : runF E n0 g c100_14 s h = seqK E n0 g c100_13 (runF E n0 g c100_11 s h) := k_seq
@[simp] theorem q100_15 : runF E n0 g c100_15 s h = seqK E n0 g c100_14 (runF E n0 g c100_10 s h) := k_seq
@[simp] theorem q100_16 : runF E n0 g c100_16 s h = seqK E n0 g c100_15 (runF E n0 g c100_2 s h) := k_seq
@[simp] theorem q100_17 : runF E n0 g c100_17 s h = seqK E n0 g c100_16 (runF E n0 g c100_1 s h) := k_seq
@[simp] theorem q100_18 : runF E n0 g c100_18 s h = seqK E n0 g c100_17 (runF E n0 g c100_0 s h) := k_seq
@[simp] theorem qq100 : runF E n0 g c100 s h = runF E n0 g c100_18 s h := rfl
@[simp] theorem q101_0 : runF E n0 g c101_0 s h = regK (some [0, 2]) (runO E n0 g h.length [⟨(some 2), (.al 0 [(.int .i64 0), (.str []), (.str []), (.int .i64 0), (.int .i64 0), (.int .i64 0), (.str []), (.int .i64 0), (.sl .full []), (.int .i64 0), (.int .i64 0), (.str []), (.int .i64 0), (.sl .full []), (.sl .full []), (.sl .full []), (.sl .full [])]), none⟩] s (h ++ [(.cells [(.int .i64 0), (.str []), (.str []), (.int .i64 0), (.int .i64 0), (.int .i64 0), (.str []), (.int .i64 0), (.sl .full []), (.int .i64 0), (.int .i64 0), (.str []), (.int .i64 0), (.sl .full []), (.sl .full []), (.sl .full []), (.sl .full [])])])) := k_reg
@[simp] theorem q101_1 : runF E n0 g c101_1 s h = regK (some [0, 2, 4]) (runO E n0 g h.length [⟨(some 5), (.mv (.t 0)), none⟩, ⟨(some 6), (.call 22 [(.t 5), (.c (.str [111, 117, 116]))]), none⟩, ⟨(some 4), (.mv (.t 6)), none⟩] s h) := k_reg0
@[simp] theorem q101_2 : runF E n0 g c101_2 s h = regK (some [2]) (runO E n0 g h.length [⟨(some 7), (.mv (.t 0)), none⟩, ⟨(some 8), (.call 60 [(.t 7)]), none⟩, ⟨(some 9), (.bld [(.int .i64 0), (.str []), (.str []), (.int .i64 0), (.int .i64 0), (.int .i64 0), (.str []), (.int .i64 0), (.sl .full []), (.int .i64 0), (.int .i64 0), (.str []), (.int .i64 0), (.sl .full []), (.sl .full []), (.sl .full []), (.sl .full [])] [(0, (1, (.c (.int .i64 5)))), (9, (5, (.t 8)))]), none⟩, ⟨none, (.st 17 (.t 2) (.t 9)), none⟩] s h) := k_reg0
@[simp] theorem q101_3 : runF E n0 g c101_3 s h = seqK E n0 g .ret (runF E n0 g c101_2 s h) := k_seq
@[simp] theorem q101_4 : runF E n0 g c101_4 s h = regK (some [0, 2, 10]) (runO E n0 g h.length [⟨(some 11), (.mv (.t 0)), none⟩, ⟨(some 12), (.call 22 [(.t 11), (.c (.str [116, 114, 97, 112]))]), none⟩, ⟨(some 10), (.mv (.t 12)), none⟩] s h) := k_reg0
@[simp] theorem q101_5 : runF E n0 g c101_5 s h = regK (some [2]) (runO E n0 g h.length [⟨(some 13), (.mv (.t 0)), none⟩, ⟨(some 14), (.call 24 [(.t 13)]), none⟩, ⟨(some 15), (.bld [(.int .i64 0), (.str []), (.str []), (.int .i64 0), (.int .i64 0), (.int .i64 0), (.str []), (.int .i64 0), (.sl .full []), (.int .i64 0), (.int .i64 0), (.str []), (.int .i64 0), (.sl .full []), (.sl .full []), (.sl .full []), (.sl .full [])] [(0, (1, (.c (.int .i64 7)))), (3, (1, (.t 14)))]), none⟩, ⟨none, (.st 17 (.t 2) (.t 15)), none⟩] s h) := k_reg0
@[simp] theorem q101_6 : runF E n0 g c101_6 s h = seqK E n0 g .ret (runF E n0 g c101_5 s h) := k_seq
@[simp] theorem q101_7 : runF E n0 g c101_7 s h = condK E n0 g c101_6 .skip s h (get s 10) := k_cond
@[simp] theorem q101_8 : runF E n0 g c101_8 s h = seqK E n0 g c101_7 (runF E n0 g c101_4 s h) := k_seq
@[simp] theorem q101_9 : runF E n0 g c101_9 s h = condK E n0 g c101_3 c101_8 s h (get s 4) := k_cond
@[simp] theorem q101_10 : runF E n0 g c101_10 s h = seqK E n0 g c101_9 (runF E n0 g c101_1 s h) := k_seq
@[simp] theorem q101_11 : runF E n0 g c101_11 s h = blkK (some [0, 2]) 0 (runF E n0 g c101_10 s h) := k_block
@[simp] theorem q101_12 : runF E n0 g c101_12 s h = regK (some [0, 2, 3]) (runO E n0 g h.length [⟨(some 16), (.mv (.t 0)), none⟩, ⟨(some 17), (.call 23 [(.t 16)]), none⟩, ⟨(some 18), (.bld [(.int .i64 0), (.str []), (.str []), (.int .i64 0), (.int .i64 0), (.int .i64 0), (.str []), (.int .i64 0), (.sl .full []), (.int .i64 0), (.int .i64 0), (.str []), (.int .i64 0), (.sl .full []), (.sl .full []), (.sl .full []), (.sl .full [])] [(0, (1, (.c (.int .i64 1)))), (1, (1, (.t 17)))]), none⟩, ⟨(some 3), (.al 0 [(.int .i64 0), (.str []), (.str []), (.int .i64 0), (.int .i64 0), (.int .i64 0), (.str []), (.int .i64 0), (.sl .full []), (.int .i64 0), (.int .i64 0), (.str []), (.int .i64 0), (.sl .full []), (.sl .full []), (.sl .full []), (.sl .full [])]), none⟩, ⟨none, (.st 17 (.t 3) (.t 18)), none⟩] s (h ++ [(.cells [(.int .i64 0), (.str []), (.str []), (.int .i64 0), (.int .i64 0), (.int .i64 0), (.str []), (.int .i64 0), (.sl .full []), (.int .i64 0), (.int .i64 0), (.str []), (.int .i64 0), (.sl .full []), (.sl .full []), (.sl .full []), (.sl .full [])])])) := k_reg
@[simp] theorem q101_13 : runF E n0 g c101_13 s h = regK (some [0, 2, 3, 20]) (runO E n0 g h.length [⟨(some 19), (.mv (.t 0)), none⟩, ⟨(some 20), (.call 56 [(.t 19), (.c (.str [91]))]), none⟩] s h) := k_reg0
@[simp] theorem q101_14 : runF E n0 g c101_14 s h = regK (some [0, 2, 3]) (runO E n0 g h.length [⟨(some 21), (.mv (.t 0)), none⟩, ⟨(some 22), (.call 60 [(.t 21)]), none⟩, ⟨(some 23), (.fa 0 (.t 3)), none⟩, ⟨none, (.st 1 (.t 23) (.c (.int .i64 2))), none⟩, ⟨(some 24), (.fa 4 (.t 3)), none⟩, ⟨none, (.st 5 (.t 24) (.t 22)), none⟩] s h) := k_reg0
@[simp] theorem q101_15 : runF E n0 g c101_15 s h = regK (some [0, 2, 3]) (runO E n0 g h.length [⟨(some 25), (.mv (.t 0)), none⟩, ⟨(some 26), (.call 25 [(.t 25), (.c (.str [93]))]), none⟩] s h) := k_reg0
@[simp] theorem q101_16 : runF E n0 g c101_16 s h = regK (some [0, 2, 3]) (runO E n0 g h.length [⟨(some 27), (.mv (.t 0)), none⟩, ⟨(some 28), (.call 25 [(.t 27), (.c (.str [61]))]), none⟩] s h) := k_reg0
@[simp] theorem q101_17 : runF E n0 g c101_17 s h = regK (some [2, 3]) (runO E n0 g h.length [⟨(some 29), (.mv (.t 0)), none⟩, ⟨(some 30), (.call 60 [(.t 29)]), none⟩, ⟨(some 31), (.fa 9 (.t 3)), none⟩, ⟨none, (.st 5 (.t 31) (.t 30)), none⟩] s h) := k_reg0
@[simp] theorem q101_18 : runF E n0 g c101_18 s h = regK (some [2]) (runO E n0 g h.length [⟨(some 32), (.ld true 17 (.t 3)), none⟩, ⟨none, (.st 17 (.t 2) (.t 32)), none⟩] s h) := k_reg0
@[simp] theorem q101_19 : runF E n0 g c101_19 s h = seqK E n0 g .ret (runF E n0 g c101_18 s h) := k_seq
@[simp] theorem q101_20 : runF E n0 g c101_20 s h = seqK E n0 g c101_19 (runF E n0 g c101_17 s h) := k_seq
@[simp] theorem q101_21 : runF E n0 g c101_21 s h = seqK E n0 g c101_20 (runF E n0 g c101_16 s h) := k_seq
@[simp] theorem q101_22 : runF E n0 g c101_22 s h = seqK E n0 g c101_21 (runF E n0 g c101_15 s h) := k_seq
@[simp] theorem q101_23 : runF E n0 g c101_23 s h = seqK E n0 g c101_22 (runF E n0 g c101_14 s h) := k_seq
@[simp] theorem q101_24 : runF E n0 g c101_24 s h = condK E n0 g c101_23 .skip s h (get s 20) := k_cond
@[simp] theorem q101_25 : runF E n0 g c101_25 s h = seqK E n0 g c101_24 (runF E n0 g c101_13 s h) := k_seq
@[simp] theorem q101_26 : runF E n0 g c101_26 s h = regK (some [0, 2, 3]) (runO E n0 g h.length [⟨(some 33), (.mv (.t 0)), none⟩, ⟨(some 34), (.call 25 [(.t 33), (.c (.str [61]))]), none⟩] s h) := k_reg0
@[simp] theorem q101_27 : runF E n0 g c101_27 s h = regK (some [0, 2, 3, 36]) (runO E n0 g h.length [⟨(some 35), (.mv (.t 0)), none⟩, ⟨(some 36), (.call 124 [(.t 35)]), none⟩] s h) := k_reg0
@[simp] theorem q101_28 : runF E n0 g c101_28 s h = regK (some [0, 2, 3]) (runO E n0 g h.length [⟨(some 37), (.mv (.t 0)), none⟩, ⟨(some 38), (.call 23 [(.t 37)]), none⟩, ⟨(some 39), (.fa 0 (.t 3)), none⟩, ⟨none, (.st 1 (.t 39) (.c (.int .i64 6))), none⟩, ⟨(some 40), (.fa 2 (.t 3)), none⟩, ⟨none, (.st 1 (.t 40) (.t 38)), none⟩] s h) := k_reg0
@[simp] theorem q101_29 : runF E n0 g c101_29 s h = regK (some [2, 3]) (runO E n0 g h.length [⟨(some 41), (.mv (.t 0)), none⟩, ⟨(some 42), (.call 125 [(.t 41)]), none⟩, ⟨(some 43), (.fa 14 (.t 3)), none⟩, ⟨none, (.st 1 (.t 43) (.t 42)), none⟩] s h) := k_reg0
@[simp] theorem q101_30 : runF E n0 g c101_30 s h = regK (some [2]) (runO E n0 g h.length [⟨(some 44), (.ld true 17 (.t 3)), none⟩, ⟨none, (.st 17 (.t 2) (.t 44)), none⟩] s h) := k_reg0
@[simp] theorem q101_31 : runF E n0 g c101_31 s h = seqK E n0 g .ret (runF E n0 g c101_30 s h) := k_seq
@[simp] theorem q101_32 : runF E n0 g c101_32 s h = seqK E n0 g c101_31 (runF E n0 g c101_29 s h) := k_seq
@[simp] theorem q101_33 : runF E n0 g c101_33 s h = seqK E n0 g c101_32 (runF E n0 g c101_28 s h) := k_seq
@[simp] theorem q101_34 : runF E n0 g c101_34 s h = condK E n0 g c101_33 .skip s h (get s 36) := k_cond
@[simp] theorem q101_35 : runF E n0 g c101_35 s h = seqK E n0 g c101_34 (runF E n0 g c101_27 s h) := k_seq
@[simp] theorem q101_36 : runF E n0 g c101_36 s h = regK (some [2, 3]) (runO E n0 g h.length [⟨(some 45), (.mv (.t 0)), none⟩, ⟨(some 46), (.call 60 [(.t 45)]), none⟩, ⟨(some 47), (.fa 9 (.t 3)), none⟩, ⟨none, (.st 5 (.t 47) (.t 46)), none⟩] s h) := k_reg0
@[simp] theorem q101_37 : runF E n0 g c101_37 s h = regK (some [2]) (runO E n0 g h.length [⟨(some 48), (.ld true 17 (.t 3)), none⟩, ⟨none, (.st 17 (.t 2) (.t 48)), none⟩] s h) := k_reg0
@[simp] theorem q101_38 : runF E n0 g c101_38 s h = seqK E n0 g .ret (runF E n0 g c101_37 s h) := k_seq
@[simp] theorem q101_39 : runF E n0 g c101_39 s h = seqK E n0 g c101_38 (runF E n0 g c101_36 s h) := k_seq
@[simp] theorem q101_40 : runF E n0 g c101_40 s h = seqK E n0 g c101_39 (runF E n0 g c101_35 s h) := k_seq
@[simp] theorem q101_41 : runF E n0 g c101_41 s h = seqK E n0 g c101_40 (runF E n0 g c101_26 s h) := k_seq
@[simp] theorem q101_42 : runF E n0 g c101_42 s h = seqK E n0 g c101_41 (runF E n0 g c101_25 s h) := k_seq
@[simp] theorem q101_43 : runF E n0 g c101_43 s h = seqK E n0 g c101_42 (runF E n0 g c101_12 s h) := k_seq
@[simp] theorem q101_44 : runF E n0 g c101_44 s h = seqK E n0 g c101_43 (runF E n0 g c101_11 s h) := k_seq
@[simp] theorem q101_45 : runF E n0 g c101_45 s h = seqK E n0 g c101_44 (runF E n0 g c101_0 s h) := k_seq
@[simp] theorem qq101 : runF E n0 g c101 s h = runF E n0 g c101_45 s h := rfl
@[simp] theorem q102_0 : runF E n0 g c102_0 s h = regK (some [0, 1, 4]) (runO E n0 g h.length [⟨(some 4), (.al 0 [(.int .i64 0), (.int .i64 0), (.str []), (.int .i64 0), (.sl .full [])]), none⟩] s (h ++ [(.cells [(.int .i64 0), (.int .i64 0), (.str []), (.int .i64 0), (.sl .full [])])])) := k_reg
@[simp] theorem q102_1 : runF E n0 g c102_1 s h = regK (some [0, 1, 4, 12]) (runO E n0 g h.length [⟨(some 11), (.mv (.t 1)), none⟩, ⟨(some 12), (.bin .eql (.t 11) (.c (.int .i64 8))), none⟩] s h) := k_reg0
@[simp] theorem q102_2 : runF E n0 g c102_2 s h = regK (some [4]) (runO E n0 g h.length [⟨(some 13), (.mv (.t 0)), none⟩, ⟨(some 14), (.call 126 [(.t 13)]), none⟩, ⟨none, (.st 5 (.t 4) (.t 14)), none⟩] s h) := k_reg0
@[simp] theorem q102_3 : runF E n0 g c102_3 s h = seqK E n0 g .ret (runF E n0 g c102_2 s h) := k_seq
@[simp] theorem q102_4 : runF E n0 g c102_4 s h = condK E n0 g c102_3 .skip s h (get s 12) := k_cond
@[simp] theorem q102_5 : runF E n0 g c102_5 s h = seqK E n0 g c102_4 (runF E n0 g c102_1 s h) := k_seq
@[simp] theorem q102_6 : runF E n0 g c102_6 s h = regK (some [0, 1, 4, 5]) (runO E n0 g h.length [⟨(some 15), (.mv (.t 0)), none⟩, ⟨(some 16), (.mv (.t 1)), none⟩, ⟨(some 17), (.bin .add (.t 16) (.c (.int .i64 1))), none⟩, ⟨(some 18), (.call 102 [(.t 15), (.t 17)]), none⟩, ⟨(some 5), (.al 0 [(.int .i64 0), (.int .i64 0), (.str []), (.int .i64 0), (.sl .full [])]), none⟩, ⟨none, (.st 5 (.t 5) (.t 18)), none⟩] s (h ++ [(.cells [(.int .i64 0), (.int .i64 0), (.str []), (.int .i64 0), (.sl .full [])])])) := k_reg
@[simp] theorem q102_7 : runF E n0 g c102_7 s h = regK (some [0, 1, 4, 5, 6]) (runO E n0 g h.length [⟨(some 19), (.mv (.t 0)), none⟩, ⟨(some 20), (.call 53 [(.t 19)]), none⟩, ⟨(some 6), (.al 0 [(.int .i64 0), (.str []), (.int .i64 0)]), none⟩, ⟨none, (.st 3 (.t 6) (.t 20)), none⟩] s (h ++ [(.cells [(.int .i64 0), (.str []), (.int .i64 0)])])) := k_reg
@[simp] theorem q102_8 : runF E n0 g c102_8 s h = regK (some [0, 1, 4, 5, 6, 7, 8, 9]) (runO E n0 g h.length [⟨(some 22), (.fa 1 (.t 6)), none⟩, ⟨(some 23), (.ld false 1 (.t 22)), none⟩, ⟨(some 24), (.call 127 [(.t 23)]), none⟩, ⟨(some 21), (.mv (.t 24)), none⟩, ⟨(some 25), (.ext (.t 21) 0), none⟩, ⟨(some 26), (.ext (.t 21) 1), none⟩, ⟨(some 27), (.ext (.t 21) 2), none⟩, ⟨(some 7), (.mv (.t 25)), none⟩, ⟨(some 8), (.mv (.t 26)), none⟩, ⟨(some 9), (.mv (.t 27)), none⟩] s h) := k_reg0
@[simp] theorem q102_9 : runF E n0 g c102_9 s h = regK (some [0, 1, 4, 5, 7, 9, 39]) (runO E n0 g h.length [⟨(some 28), (.fa 0 (.t 6)), none⟩, ⟨(some 29), (.ld false 1 (.t 28)), none⟩, ⟨(some 30), (.bin .neq (.t 29) (.c (.int .i64 3))), none⟩, ⟨(some 31), (.mv (.t 30)), none⟩, ⟨(some 32), (.mv (.t 7)), (some (31, false))⟩, ⟨(some 33), (.bin .eql (.t 32) (.c (.int .i64 0))), (some (31, false))⟩, ⟨(some 34), (.pick (.t 31) (.c (.bool true)) (.t 33)), none⟩, ⟨(some 35), (.mv (.t 34)), none⟩, ⟨(some 36), (.mv (.t 8)), (some (35, false))⟩, ⟨(some 37), (.mv (.t 1)), (some (35, false))⟩, ⟨(some 38), (.bin .neq (.t 36) (.t 37)), (some (35, false))⟩, ⟨(some 39), (.pick (.t 35) (.c (.bool true)) (.t 38)), none⟩] s h) := k_reg0
@[simp] theorem q102_10 : runF E n0 g c102_10 s h = regK (some [4]) (runO E n0 g h.length [⟨(some 40), (.ld true 5 (.t 5)), none⟩, ⟨none, (.st 5 (.t 4) (.t 40)), none⟩] s h) := k_reg0
@[simp] theorem q102_11 : runF E n0 g c102_11 s h = seqK E n0 g .ret (runF E n0 g c102_10 s h) := k_seq
@[simp] theorem q102_12 : runF E n0 g c102_12 s h = condK E n0 g c102_11 .skip s h (get s 39) := k_cond
@[simp] theorem q102_13 : runF E n0 g c102_13 s h = seqK E n0 g c102_12 (runF E n0 g c102_9 s h) := k_seq
@[simp] theorem q102_14 : runF E n0 g c102_14 s h = regK (some [0, 1, 4, 5, 7, 9]) (runO E n0 g h.length [⟨(some 41), (.mv (.t 0)), none⟩, ⟨(some 42), (.nilc (.t 41)), none⟩, ⟨(some 43), (.fa 1 (.t 42)), none⟩, ⟨(some 44), (.ld false 1 (.t 43)), none⟩, ⟨(some 45), (.bin .add (.t 44) (.c (.int .i64 1))), none⟩, ⟨(some 46), (.nilc (.t 41)), none⟩, ⟨(some 47), (.fa 1 (.t 46)), none⟩, ⟨none, (.st 1 (.t 47) (.t 45)), none⟩] s h) := k_reg0
@[simp] theorem q102_15 : runF E n0 g c102_15 s h = regK (some [0, 1, 4, 5, 7, 9, 10]) (runO E n0 g h.length [⟨(some 48), (.mv (.t 0)), none⟩, ⟨(some 49), (.mv (.t 1)), none⟩, ⟨(some 50), (.bin .add (.t 49) (.c (.int .i64 1))), none⟩, ⟨(some 51), (.call 102 [(.t 48), (.t 50)]), none⟩, ⟨(some 10), (.al 0 [(.int .i64 0), (.int .i64 0), (.str []), (.int .i64 0), (.sl .full [])]), none⟩, ⟨none, (.st 5 (.t 10) (.t 51)), none⟩] s (h ++ [(.cells [(.int .i64 0), (.int .i64 0), (.str []), (.int .i64 0), (.sl .full [])])])) := k_reg
@[simp] theorem q102_16 : runF E n0 g c102_16 s h = regK (some [0, 1, 4, 5, 7, 10, 52]) (runO E n0 g h.length [⟨(some 52), (.mv (.t 9)), none⟩] s h) := k_reg0
@[simp] theorem q102_17 : runF E n0 g c102_17 s h = regK (some [0, 1, 4, 5, 7, 10]) (runO E n0 g h.length [⟨(some 53), (.ld true 5 (.t 10)), none⟩, ⟨(some 54), (.ld true 5 (.t 5)), none⟩, ⟨none, (.st 5 (.t 5) (.t 53)), none⟩, ⟨none, (.st 5 (.t 10) (.t 54)), none⟩] s h) := k_reg0
@[simp] theorem q102_18 : runF E n0 g c102_18 s h = condK E n0 g c102_17 .skip s h (get s 52) := k_cond
@[simp] theorem q102_19 : runF E n0 g c102_19 s h = seqK E n0 g c102_18 (runF E n0 g c102_16 s h) := k_seq
@[simp] theorem q102_20 : runF E n0 g c102_20 s h = regK (some [0, 1, 4, 5]) (runO E n0 g h.length [⟨(some 55), (.mv (.t 7)), none⟩, ⟨(some 56), (.ld true 5 (.t 5)), none⟩, ⟨(some 57), (.ld true 5 (.t 10)), none⟩, ⟨(some 58), (.bsl 5 (.agg [(.int .i64 0), (.int .i64 0), (.str []), (.int .i64 0), (.sl .none [])]) 2 [(0, (.t 56)), (1, (.t 57))]), none⟩, ⟨(some 59), (.bld [(.int .i64 0), (.int .i64 0), (.str []), (.int .i64 0), (.sl .full [])] [(0, (1, (.c (.int .i64 4)))), (3, (1, (.t 55))), (4, (1, (.t 58)))]), none⟩, ⟨none, (.st 5 (.t 5) (.t 59)), none⟩] s h) := k_reg0
@[simp] theorem q102_21 : runF E n0 g c102_21 s h = seqK E n0 g c102_20 (runF E n0 g c102_19 s h) := k_seq
@[simp] theorem q102_22 : runF E n0 g c102_22 s h = seqK E n0 g c102_21 (runF E n0 g c102_15 s h) := k_seq
@[simp] theorem q102_23 : runF E n0 g c102_23 s h = seqK E n0 g c102_22 (runF E n0 g c102_14 s h) := k_seq
@[simp] theorem q102_24 : runF E n0 g c102_24 s h = seqK E n0 g c102_23 (runF E n0 g c102_13 s h) := k_seq
@[simp] theorem q102_25 : runF E n0 g c102_25 s h = seqK E n0 g c102_24 (runF E n0 g c102_8 s h) := k_seq
@[simp] theorem q102_26 : runF E n0 g c102_26 s h = seqK E n0 g c102_25 (runF E n0 g c102_7 s h) := k_seq
@[simp] theorem q102_27 : runF E n0 g c102_27 s h = blkK (some [0, 1, 4, 5]) 1 (runF E n0 g c102_26 s h) := k_block
theorem q102_28 : runF E n0 g c102_28 s h = loopK E n0 g (some [0, 1, 4, 5]) c102_27 (runF E n0 g c102_27 (clearO (some [0, 1, 4, 5]) s) h) := k_loop
@[simp] theorem q102_28L : runF E n0 g (.loop (some [0, 1, 4, 5]) c102_27) s h = runF E n0 g c102_28 s h := rfl
@[simp] theorem q102_29 : runF E n0 g c102_29 s h = blkK (some [4]) 0 (runF E n0 g c102_28 s h) := k_block
@[simp] theorem q102_30 : runF E n0 g c102_30 s h = seqK E n0 g c102_29 (runF E n0 g c102_6 s h) := k_seq
@[simp] theorem q102_31 : runF E n0 g c102_31 s h = seqK E n0 g c102_30 (runF E n0 g c102_5 s h) := k_seq
@[simp] theorem q102_32 : runF E n0 g c102_32 s h = seqK E n0 g c102_31 (runF E n0 g c102_0 s h) := k_seq
@[simp] theorem qq102 : runF E n0 g c102 s h = runF E n0 g c102_32 s h := rfl
@[simp] theorem q123_0 : runF E n0 g c123_0 s h = regK (some [0]) (runO E n0 g h.length [⟨(some 2), (.mv (.c (.bool false))), none⟩] s h) := k_reg0
@[simp] theorem q123_1 : runF E n0 g c123_1 s h = regK (some [2]) (runO E n0 g h.length [⟨(some 3), (.mv (.t 0)), none⟩, ⟨(some 4), (.bin .geq (.t 3) (.c (.int .u8 97))), none⟩, ⟨(some 5), (.mv (.t 4)), none⟩, ⟨(some 6), (.mv (.t 0)), (some (5, true))⟩, ⟨(some 7), (.bin .leq (.t 6) (.c (.int .u8 122))), (some (5, true))⟩, ⟨(some 8), (.pick (.t 5) (.t 7) (.c (.bool false))), none⟩, ⟨(some 9), (.mv (.t 8)), none⟩, ⟨(some 10), (.mv (.t 0)), (some (9, false))⟩, ⟨(some 11), (.bin .geq (.t 10) (.c (.int .u8 65))), (some (9, false))⟩, ⟨(some 12), (.mv (.t 11)), (some (9, false))⟩, ⟨(some 13), (.mv (.t 0)), (some (12, true))⟩, ⟨(some 14), (.bin .leq (.t 13) (.c (.int .u8 90))), (some (12, true))⟩, ⟨(some 15), (.pick (.t 12) (.t 14) (.c (.bool false))), (some (9, false))⟩, ⟨(some 16), (.pick (.t 9) (.c (.bool true)) (.t 15)), none⟩, ⟨(some 17), (.mv (.t 16)), none⟩, ⟨(some 18), (.mv (.t 0)), (some (17, false))⟩, ⟨(some 19), (.bin .eql (.t 18) (.c (.int .u8 95))), (some (17, false))⟩, ⟨(some 20), (.pick (.t 17) (.c (.bool true)) (.t 19)), none⟩, ⟨(some 2), (.mv (.t 20)), none⟩] s h) := k_reg0
@[simp] theorem q123_2 : runF E n0 g c123_2 s h = seqK E n0 g .ret (runF E n0 g c123_1 s h) := k_seq
@[simp] theorem q123_3 : runF E n0 g c123_3 s h = seqK E n0 g c123_2 (runF E n0 g c123_0 s h) := k_seq
@[simp] theorem qq123 : runF E n0 g c123 s h = runF E n0 g c123_3 s h := rfl
@[simp] theorem q124_0 : runF E n0 g c124_0 s h = regK (some [0]) (runO E n0 g h.length [⟨(some 2), (.mv (.c (.bool false))), none⟩] s h) := k_reg0
@[simp] theorem q124_1 : runF E n0 g c124_1 s h = regK (some [0, 19]) (runO E n0 g h.length [⟨(some 4), (.mv (.t 0)), none⟩, ⟨(some 5), (.call 54 [(.t 4)]), none⟩, ⟨(some 6), (.un .not (.t 5)), none⟩, ⟨(some 7), (.mv (.t 6)), none⟩, ⟨(some 8), (.mv (.t 0)), (some (7, false))⟩, ⟨(some 9), (.nilc (.t 8)), (some (7, false))⟩, ⟨(some 10), (.fa 1 (.t 9)), (some (7, false))⟩, ⟨(some 11), (.ld false 1 (.t 10)), (some (7, false))⟩, ⟨(some 12), (.bin .add (.t 11) (.c (.int .i64 1))), (some (7, false))⟩, ⟨(some 13), (.mv (.t 0)), (some (7, false))⟩, ⟨(some 14), (.nilc (.t 13)), (some (7, false))⟩, ⟨(some 15), (.fa 0 (.t 14)), (some (7, false))⟩, ⟨(some 16), (.ld false 1 (.t 15)), (some (7, false))⟩, ⟨(some 17), (.len (.t 16)), (some (7, false))⟩, ⟨(some 18), (.bin .geq (.t 12) (.t 17)), (some (7, false))⟩, ⟨(some 19), (.pick (.t 7) (.c (.bool true)) (.t 18)), none⟩] s h) := by rw [show c124_1 = .reg (some [0, 19]) [] [⟨(some 4), (.mv (.t 0)), none⟩, ⟨(some 5), (.call 54 [(.t 4)]), none⟩, ⟨(some 6), (.un .not (.t 5)), none⟩, ⟨(some 7), (.mv (.t 6)), none⟩, ⟨(some 8), (.mv (.t 0)), (some (7, false))⟩, ⟨(some 9), (.nilc (.t 8)), (some (7, false))⟩, ⟨(some 10), (.fa 1 (.t 9)), (some (7, false))⟩, ⟨(some 11), (.ld false 1 (.t 10)), (some (7, false))⟩, ⟨(some 12), (.bin .add (.t 11) (.c (.int .i64 1))), (some (7, false))⟩, ⟨(some 13), (.mv (.t 0)), (some (7, false))⟩, ⟨(some 14), (.nilc (.t 13)), (some (7, false))⟩, ⟨(some 15), (.fa 0 (.t 14)), (some (7, false))⟩, ⟨(some 16), (.ld false 1 (.t 15)), (some (7, false))⟩, ⟨(some 17), (.len (.t 16)), (some (7, false))⟩, ⟨(some 18), (.bin .geq (.t 12) (.t 17)), (some (7, false))⟩, ⟨(some 19), (.pick (.t 7) (.c (.bool true)) (.t 18)), none⟩] (some []) from rfl, k_regd0, List.append_nil]
@[simp] theorem q124_2 : runF E n0 g c124_2 s h = regK (some [2]) (runO E n0 g h.length [⟨(some 2), (.mv (.c (.bool false))), none⟩] s h) := k_reg0
@[simp] theorem q124_3 : runF E n0 g c124_3 s h = seqK E n0 g .ret (runF E n0 g c124_2 s h) := k_seq
@[simp] theorem q124_4 : runF E n0 g c124_4 s h = condK E n0 g c124_3 .skip s h (get s 19) := k_cond
@[simp] theorem q124_5 : runF E n0 g c124_5 s h = seqK E n0 g c124_4 (runF E n0 g c124_1 s h) := k_seq
@[simp] theorem q124_6 : runF E n0 g c124_6 s h = regK (some [3]) (runO E n0 g h.length [⟨(some 20), (.mv (.t 0)), none⟩, ⟨(some 21), (.nilc (.t 20)), none⟩, ⟨(some 22), (.fa 0 (.t 21)), none⟩, ⟨(some 23), (.ld false 1 (.t 22)), none⟩, ⟨(some 24), (.mv (.t 0)), none⟩, ⟨(some 25), (.nilc (.t 24)), none⟩, ⟨(some 26), (.fa 1 (.t 25)), none⟩, ⟨(some 27), (.ld false 1 (.t 26)), none⟩, ⟨(some 28), (.bin .add (.t 27) (.c (.int .i64 1))), none⟩, ⟨(some 29), (.ia 3 (.t 23) (.t 28)), none⟩, ⟨(some 30), (.ld true 3 (.t 29)), none⟩, ⟨(some 3), (.al 0 [(.int .i64 0), (.str []), (.int .i64 0)]), none⟩, ⟨none, (.st 3 (.t 3) (.t 30)), none⟩] s (h ++ [(.cells [(.int .i64 0), (.str []), (.int .i64 0)])])) := k_regd0
@[simp] theorem q124_7 : runF E n0 g c124_7 s h = regK (some [2]) (runO E n0 g h.length [⟨(some 31), (.fa 0 (.t 3)), none⟩, ⟨(some 32), (.ld false 1 (.t 31)), none⟩, ⟨(some 33), (.bin .eql (.t 32) (.c (.int .i64 3))), none⟩, ⟨(some 34), (.mv (.t 33)), none⟩, ⟨(some 35), (.fa 1 (.t 3)), (some (34, true))⟩, ⟨(some 36), (.ld false 1 (.t 35)), (some (34, true))⟩, ⟨(some 37), (.bin .eql (.t 36) (.c (.str [40]))), (some (34, true))⟩, ⟨(some 38), (.pick (.t 34) (.t 37) (.c (.bool false))), none⟩, ⟨(some 2), (.mv (.t 38)), none⟩] s h) := k_reg0
@[simp] theorem q124_8 : runF E n0 g c124_8 s h = seqK E n0 g .ret (runF E n0 g c124_7 s h) := k_seq
@[simp] theorem q124_9 : runF E n0 g c124_9 s h = seqK E n0 g c124_8 (runF E n0 g c124_6 s h) := k_seq
@[simp] theorem q124_10 : runF E n0 g c124_10 s h = seqK E n0 g c124_9 (runF E n0 g c124_5 s h) := k_seq
@[simp] theorem q124_11 : runF E n0 g c124_11 s h = seqK E n0 g c124_10 (runF E n0 g c124_0 s h) := k_seq
@[simp] theorem qq124 : runF E n0 g c124 s h = runF E n0 g c124_11 s h := rfl
@[simp] theorem q125_0 : runF E n0 g c125_0 s h = regK (some [0]) (runO E n0 g h.length [⟨(some 2), (.mv (.c (.sl .full []))), none⟩] s h) := k_reg0
@[simp] theorem q125_1 : runF E n0 g c125_1 s h = regK (some [0]) (runO E n0 g h.length [⟨(some 4), (.mv (.t 0)), none⟩, ⟨(some 5), (.call 25 [(.t 4), (.c (.str [40]))]), none⟩] s h) := k_reg0
@[simp] theorem q125_2 : runF E n0 g c125_2 s h = regK (some [0, 3]) (runO E n0 g h.length [⟨(some 3), (.mv (.c (.sl .full []))), none⟩] s h) := k_reg0
@[simp] theorem q125_3 : runF E n0 g c125_3 s h = regK (some [0, 3, 8]) (runO E n0 g h.length [⟨(some 6), (.mv (.t 0)), none⟩, ⟨(some 7), (.call 57 [(.t 6), (.c (.str [41]))]), none⟩, ⟨(some 8), (.un .not (.t 7)), none⟩] s h) := k_reg0
@[simp] theorem q125_4 : runF E n0 g c125_4 s h = regK (some [0, 3]) (runO E n0 g h.length [⟨(some 9), (.mv (.t 3)), none⟩, ⟨(some 10), (.mv (.t 0)), none⟩, ⟨(some 11), (.call 60 [(.t 10)]), none⟩, ⟨(some 12), (.bsl 5 (.agg [(.int .i64 0), (.int .i64 0), (.str []), (.int .i64 0), (.sl .none [])]) 1 [(0, (.t 11))]), none⟩, ⟨(some 13), (.app 0 5 64 (.t 9) (.t 12)), none⟩, ⟨(some 3), (.mv (.t 13)), none⟩] s (h ++ [.dead])) := k_reg
@[simp] theorem q125_5 : runF E n0 g c125_5 s h = regK (some [0, 3, 15]) (runO E n0 g h.length [⟨(some 14), (.mv (.t 0)), none⟩, ⟨(some 15), (.call 56 [(.t 14), (.c (.str [44]))]), none⟩] s h) := k_reg0
@[simp] theorem q125_6 : runF E n0 g c125_6 s h = condK E n0 g .skip (.exit 0) s h (get s 15) := k_cond
@[simp] theorem q125_7 : runF E n0 g c125_7 s h = seqK E n0 g c125_6 (runF E n0 g c125_5 s h) := k_seq
@[simp] theorem q125_8 : runF E n0 g c125_8 s h = regK (some [0, 3]) (runO E n0 g h.length [⟨(some 16), (.mv (.t 3)), none⟩, ⟨(some 17), (.mv (.t 0)), none⟩, ⟨(some 18), (.call 60 [(.t 17)]), none⟩, ⟨(some 19), (.bsl 5 (.agg [(.int .i64 0), (.int .i64 0), (.str []), (.int .i64 0), (.sl .none [])]) 1 [(0, (.t 18))]), none⟩, ⟨(some 20), (.app 0 5 64 (.t 16) (.t 19)), none⟩, ⟨(some 3), (.mv (.t 20)), none⟩] s (h ++ [.dead])) := k_reg
@[simp] theorem q125_9 : runF E n0 g c125_9 s h = blkK (some [0, 3]) 1 (runF E n0 g c125_8 s h) := k_block
@[simp] theorem q125_10 : runF E n0 g c125_10 s h = seqK E n0 g c125_9 (runF E n0 g c125_7 s h) := k_seq
theorem q125_11 : runF E n0 g c125_11 s h = loopK E n0 g (some [0, 3]) c125_10 (runF E n0 g c125_10 (clearO (some [0, 3]) s) h) := k_loop
@[simp] theorem q125_11L : runF E n0 g (.loop (some [0, 3]) c125_10) s h = runF E n0 g c125_11 s h := rfl
@[simp] theorem q125_12 : runF E n0 g c125_12 s h = blkK (some [0, 3]) 0 (runF E n0 g c125_11 s h) := k_block
@[simp] theorem q125_13 : runF E n0 g c125_13 s h = seqK E n0 g c125_12 (runF E n0 g c125_4 s h) := k_seq
@[simp] theorem q125_14 : runF E n0 g c125_14 s h = condK E n0 g c125_13 .skip s h (get s 8) := k_cond
@[simp] theorem q125_15 : runF E n0 g c125_15 s h = seqK E n0 g c125_14 (runF E n0 g c125_3 s h) := k_seq
@[simp] theorem q125_16 : runF E n0 g c125_16 s h = regK (some [3]) (runO E n0 g h.length [⟨(some 21), (.mv (.t 0)), none⟩, ⟨(some 22), (.call 25 [(.t 21), (.c (.str [41]))]), none⟩] s h) := k_reg0
@[simp] theorem q125_17 : runF E n0 g c125_17 s h = regK (some [2]) (runO E n0 g h.length [⟨(some 23), (.mv (.t 3)), none⟩, ⟨(some 2), (.mv (.t 23)), none⟩] s h) := k_reg0
@[simp] theorem q125_18 : runF E n0 g c125_18 s h = seqK E n0 g .ret (runF E n0 g c125_17 s h) := k_seq
@[simp] theorem q125_19 : runF E n0 g c125_19 s h = seqK E n0 g c125_18 (runF E n0 g c125_16 s h) := k_seq
@[simp] theorem q125_20 : runF E n0 g c125_20 s h = seqK E n0 g c125_19 (runF E n0 g c125_15 s h) := k_seq
@[simp] theorem q125_21 : runF E n0 g c125_21 s h = seqK E n0 g c125_20 (runF E n0 g c125_2 s h) := k_seq
@[simp] theorem q125_22 : runF E n0 g c125_22 s h = seqK E n0 g c125_21 (runF E n0 g c125_1 s h) := k_seq
@[simp] theorem q125_23 : runF E n0 g c125_23 s h = seqK E n0 g c125_22 (runF E n0 g c125_0 s h) := k_seq
@[simp] theorem qq125 : runF E n0 g c125 s h = runF E n0 g c125_23 s h := rfl
@[simp] theorem q126_0 : runF E n0 g c126_0 s h = regK (some [0, 2]) (runO E n0 g h.length [⟨(some 2), (.al 0 [(.int .i64 0), (.int .i64 0), (.str []), (.int .i64 0), (.sl .full [])]), none⟩] s (h ++ [(.cells [(.int .i64 0), (.int .i64 0), (.str []), (.int .i64 0), (.sl .full [])])])) := k_reg
@[simp] theorem q126_1 : runF E n0 g c126_1 s h = regK (some [0, 2, 5]) (runO E n0 g h.length [⟨(some 6), (.mv (.t 0)), none⟩, ⟨(some 7), (.call 56 [(.t 6), (.c (.str [45]))]), none⟩, ⟨(some 5), (.mv (.t 7)), none⟩] s h) := k_reg0
@[simp] theorem q126_2 : runF E n0 g c126_2 s h = regK (some [0, 2, 3]) (runO E n0 g h.length [⟨(some 8), (.mv (.t 0)), none⟩, ⟨(some 9), (.call 53 [(.t 8)]), none⟩, ⟨(some 3), (.al 0 [(.int .i64 0), (.str []), (.int .i64 0)]), none⟩, ⟨none, (.st 3 (.t 3) (.t 9)), none⟩] s (h ++ [(.cells [(.int .i64 0), (.str []), (.int .i64 0)])])) := k_reg
@[simp] theorem q126_3 : runF E n0 g c126_3 s h = regK (some [0, 2, 3, 12]) (runO E n0 g h.length [⟨(some 10), (.fa 0 (.t 3)), none⟩, ⟨(some 11), (.ld false 1 (.t 10)), none⟩, ⟨(some 12), (.bin .eql (.t 11) (.c (.int .i64 2))), none⟩] s h) := k_reg0
@[simp] theorem q126_4 : runF E n0 g c126_4 s h = regK (some [2, 3]) (runO E n0 g h.length [⟨(some 13), (.mv (.t 0)), none⟩, ⟨(some 14), (.nilc (.t 13)), none⟩, ⟨(some 15), (.fa 1 (.t 14)), none⟩, ⟨(some 16), (.ld false 1 (.t 15)), none⟩, ⟨(some 17), (.bin .add (.t 16) (.c (.int .i64 1))), none⟩, ⟨(some 18), (.nilc (.t 13)), none⟩, ⟨(some 19), (.fa 1 (.t 18)), none⟩, ⟨none, (.st 1 (.t 19) (.t 17)), none⟩] s h) := k_reg0
@[simp] theorem q126_5 : runF E n0 g c126_5 s h = regK (some [2]) (runO E n0 g h.length [⟨(some 20), (.fa 1 (.t 3)), none⟩, ⟨(some 21), (.ld false 1 (.t 20)), none⟩, ⟨(some 22), (.call 140 [(.t 21)]), none⟩, ⟨(some 23), (.bld [(.int .i64 0), (.int .i64 0), (.str []), (.int .i64 0), (.sl .full [])] [(0, (1, (.c (.int .i64 1)))), (1, (1, (.t 22)))]), none⟩, ⟨none, (.st 5 (.t 2) (.t 23)), none⟩] s h) := k_reg0
@[simp] theorem q126_6 : runF E n0 g c126_6 s h = seqK E n0 g .ret (runF E n0 g c126_5 s h) := k_seq
@[simp] theorem q126_7 : runF E n0 g c126_7 s h = seqK E n0 g c126_6 (runF E n0 g c126_4 s h) := k_seq
@[simp] theorem q126_8 : runF E n0 g c126_8 s h = condK E n0 g c126_7 .skip s h (get s 12) := k_cond
@[simp] theorem q126_9 : runF E n0 g c126_9 s h = seqK E n0 g c126_8 (runF E n0 g c126_3 s h) := k_seq
@[simp] theorem q126_10 : runF E n0 g c126_10 s h = seqK E n0 g c126_9 (runF E n0 g c126_2 s h) := k_seq
@[simp] theorem q126_11 : runF E n0 g c126_11 s h = regK (some [2]) (runO E n0 g h.length [⟨(some 24), (.mv (.t 0)), none⟩, ⟨(some 25), (.call 126 [(.t 24)]), none⟩, ⟨(some 26), (.bsl 5 (.agg [(.int .i64 0), (.int .i64 0), (.str []), (.int .i64 0), (.sl .none [])]) 1 [(0, (.t 25))]), none⟩, ⟨(some 27), (.bld [(.int .i64 0), (.int .i64 0), (.str []), (.int .i64 0), (.sl .full [])] [(0, (1, (.c (.int .i64 4)))), (3, (1, (.c (.int .i64 20)))), (4, (1, (.t 26)))]), none⟩, ⟨none, (.st 5 (.t 2) (.t 27)), none⟩] s h) := k_reg0
@[simp] theorem q126_12 : runF E n0 g c126_12 s h = seqK E n0 g .ret (runF E n0 g c126_11 s h) := k_seq
@[simp] theorem q126_13 : runF E n0 g c126_13 s h = seqK E n0 g c126_12 (runF E n0 g c126_10 s h) := k_seq
@[simp] theorem q126_14 : runF E n0 g c126_14 s h = regK (some [0, 2, 28]) (runO E n0 g h.length [⟨(some 29), (.mv (.t 0)), none⟩, ⟨(some 30), (.call 56 [(.t 29), (.c (.str [126]))]), none⟩, ⟨(some 28), (.mv (.t 30)), none⟩] s h) := k_reg0
@[simp] theorem q126_15 : runF E n0 g c126_15 s h = regK (some [2]) (runO E n0 g h.length [⟨(some 31), (.mv (.t 0)), none⟩, ⟨(some 32), (.call 126 [(.t 31)]), none⟩, ⟨(some 33), (.bsl 5 (.agg [(.int .i64 0), (.int .i64 0), (.str []), (.int .i64 0), (.sl .none [])]) 1 [(0, (.t 32))]), none⟩, ⟨(some 34), (.bld [(.int .i64 0), (.int .i64 0), (.str []), (.int .i64 0), (.sl .full [])] [(0, (1, (.c (.int .i64 4)))), (3, (1, (.c (.int .i64 21)))), (4, (1, (.t 33)))]), none⟩, ⟨none, (.st 5 (.t 2) (.t 34)), none⟩] s h) := k_reg0
@[simp] theorem q126_16 : runF E n0 g c126_16 s h = seqK E n0 g .ret (runF E n0 g c126_15 s h) := k_seq
@[simp] theorem q126_17 : runF E n0 g c126_17 s h = regK (some [0, 2, 35]) (runO E n0 g h.length [⟨(some 36), (.mv (.t 0)), none⟩, ⟨(some 37), (.call 56 [(.t 36), (.c (.str [33]))]), none⟩, ⟨(some 35), (.mv (.t 37)), none⟩] s h) := k_reg0
@[simp] theorem q126_18 : runF E n0 g c126_18 s h = regK (some [2]) (runO E n0 g h.length [⟨(some 38), (.mv (.t 0)), none⟩, ⟨(some 39), (.call 126 [(.t 38)]), none⟩, ⟨(some 40), (.bld [(.int .i64 0), (.int .i64 0), (.str []), (.int .i64 0), (.sl .full [])] [(0, (1, (.c (.int .i64 1))))]), none⟩, ⟨(some 41), (.bsl 5 (.agg [(.int .i64 0), (.int .i64 0), (.str []), (.int .i64 0), (.sl .none [])]) 2 [(0, (.t 39)), (1, (.t 40))]), none⟩, ⟨(some 42), (.bld [(.int .i64 0), (.int .i64 0), (.str []), (.int .i64 0), (.sl .full [])] [(0, (1, (.c (.int .i64 4)))), (3, (1, (.c (.int .i64 15)))), (4, (1, (.t 41)))]), none⟩, ⟨none, (.st 5 (.t 2) (.t 42)), none⟩] s h) := k_reg0
@[simp] theorem q126_19 : runF E n0 g c126_19 s h = seqK E n0 g .ret (runF E n0 g c126_18 s h) := k_seq
@[simp] theorem q126_20 : runF E n0 g c126_20 s h = regK (some [0, 2, 43]) (runO E n0 g h.length [⟨(some 44), (.mv (.t 0)), none⟩, ⟨(some 45), (.call 56 [(.t 44), (.c (.str [40]))]), none⟩, ⟨(some 43), (.mv (.t 45)), none⟩] s h) := k_reg0
@[simp] theorem q126_21 : runF E n0 g c126_21 s h = regK (some [0, 2, 4]) (runO E n0 g h.length [⟨(some 46), (.mv (.t 0)), none⟩, ⟨(some 47), (.call 60 [(.t 46)]), none⟩, ⟨(some 4), (.al 0 [(.int .i64 0), (.int .i64 0), (.str []), (.int .i64 0), (.sl .full [])]), none⟩, ⟨none, (.st 5 (.t 4) (.t 47)), none⟩] s (h ++ [(.cells [(.int .i64 0), (.int .i64 0), (.str []), (.int .i64 0), (.sl .full [])])])) := k_reg
@[simp] theorem q126_22 : runF E n0 g c126_22 s h = regK (some [2, 4]) (runO E n0 g h.length [⟨(some 48), (.mv (.t 0)), none⟩, ⟨(some 49), (.call 25 [(.t 48), (.c (.str [41]))]), none⟩] s h) := k_reg0
@[simp] theorem q126_23 : runF E n0 g c126_23 s h = regK (some [2]) (runO E n0 g h.length [⟨(some 50), (.ld true 5 (.t 4)), none⟩, ⟨none, (.st 5 (.t 2) (.t 50)), none⟩] s h) := k_reg0
@[simp] theorem q126_24 : runF E n0 g c126_24 s h = seqK E n0 g .ret (runF E n0 g c126_23 s h) := k_seq
@[simp] theorem q126_25 : runF E n0 g c126_25 s h = seqK E n0 g c126_24 (runF E n0 g c126_22 s h) := k_seq
@[simp] theorem q126_26 : runF E n0 g c126_26 s h = seqK E n0 g c126_25 (runF E n0 g c126_21 s h) := k_seq
@[simp] theorem q126_27 : runF E n0 g c126_27 s h = condK E n0 g c126_26 .skip s h (get s 43) := k_cond
@[simp] theorem q126_28 : runF E n0 g c126_28 s h = seqK E n0 g c126_27 (runF E n0 g c126_20 s h) := k_seq
@[simp] theorem q126_29 : runF E n0 g c126_29 s h = condK E n0 g c126_19 c126_28 s h (get s 35) := k_cond
@[simp] theorem q126_30 : runF E n0 g c126_30 s h = seqK E n0 g c126_29 (runF E n0 g c126_17 s h) := k_seq
@[simp] theorem q126_31 : runF E n0 g c126_31 s h = condK E n0 g c126_16 c126_30 s h (get s 28) := k_cond
@[simp] theorem q126_32 : runF E n0 g c126_32 s h = seqK E n0 g c126_31 (runF E n0 g c126_14 s h) := k_seq
@[simp] theorem q126_33 : runF E n0 g c126_33 s h = condK E n0 g c126_13 c126_32 s h (get s 5) := k_cond
@[simp] theorem q126_34 : runF E n0 g c126_34 s h = seqK E n0 g c126_33 (runF E n0 g c126_1 s h) := k_seq
@[simp] theorem q126_35 : runF E n0 g c126_35 s h = blkK (some [0, 2]) 0 (runF E n0 g c126_34 s h) := k_block
@[simp] theorem q126_36 : runF E n0 g c126_36 s h = regK (some [2]) (runO E n0 g h.length [⟨(some 51), (.mv (.t 0)), none⟩, ⟨(some 52), (.call 141 [(.t 51)]), none⟩, ⟨none, (.st 5 (.t 2) (.t 52)), none⟩] s h) := k_reg0
@[simp] theorem q126_37 : runF E n0 g c126_37 s h = seqK E n0 g .ret (runF E n0 g c126_36 s h) := k_seq
@[simp] theorem q126_38 : runF E n0 g c126_38 s h = seqK E n0 g c126_37 (runF E n0 g c126_35 s h) := k_seq
@[simp] theorem q126_39 : runF E n0 g c126_39 s h = seqK E n0 g c126_38 (runF E n0 g c126_0 s h) := k_seq
@[simp] theorem qq126 : runF E n0 g c126 s h = runF E n0 g c126_39 s h := rfl
@[simp] theorem q127_0 : runF E n0 g c127_0 s h = regK (some [0]) (runO E n0 g h.length [⟨(some 2), (.mv (.c (.int .i64 0))), none⟩, ⟨(some 3), (.mv (.c (.int .i64 0))), none⟩, ⟨(some 4), (.mv (.c (.bool false))), none⟩] s h) := k_reg0
@[simp] theorem q127_1 : runF E n0 g c127_1 s h = regK (some [0, 5]) (runO E n0 g h.length [⟨(some 5), (.mv (.t 0)), none⟩] s h) := k_reg0
@[simp] theorem q127_2 : runF E n0 g c127_2 s h = regK (some [0, 5, 6]) (runO E n0 g h.length [⟨(some 7), (.bin .eql (.t 5) (.c (.str [124]))), none⟩, ⟨(some 6), (.mv (.t 7)), none⟩] s h) := k_reg0
@[simp] theorem q127_3 : runF E n0 g c127_3 s h = regK (some [2, 3, 4]) (runO E n0 g h.length [⟨(some 2), (.mv (.c (.int .i64 10))), none⟩, ⟨(some 3), (.mv (.c (.int .i64 0))), none⟩, ⟨(some 4), (.mv (.c (.bool false))), none⟩] s h) := k_reg0
@[simp] theorem q127_4 : runF E n0 g c127_4 s h = seqK E n0 g .ret (runF E n0 g c127_3 s h) := k_seq
@[simp] theorem q127_5 : runF E n0 g c127_5 s h = regK (some [0, 5, 8]) (runO E n0 g h.length [⟨(some 9), (.bin .eql (.t 5) (.c (.str [94]))), none⟩, ⟨(some 8), (.mv (.t 9)), none⟩] s h) := k_reg0
@[simp] theorem q127_6 : runF E n0 g c127_6 s h = regK (some [2, 3, 4]) (runO E n0 g h.length [⟨(some 2), (.mv (.c (.int .i64 11))), none⟩, ⟨(some 3), (.mv (.c (.int .i64 1))), none⟩, ⟨(some 4), (.mv (.c (.bool false))), none⟩] s h) := k_reg0
@[simp] theorem q127_7 : runF E n0 g c127_7 s h = seqK E n0 g .ret (runF E n0 g c127_6 s h) := k_seq
@[simp] theorem q127_8 : runF E n0 g c127_8 s h = regK (some [0, 5, 10]) (runO E n0 g h.length [⟨(some 11), (.bin .eql (.t 5) (.c (.str [38]))), none⟩, ⟨(some 10), (.mv (.t 11)), none⟩] s h) := k_reg0
@[simp] theorem q127_9 : runF E n0 g c127_9 s h = regK (some [2, 3, 4]) (runO E n0 g h.length [⟨(some 2), (.mv (.c (.int .i64 9))), none⟩, ⟨(some 3), (.mv (.c (.int .i64 2))), none⟩, ⟨(some 4), (.mv (.c (.bool false))), none⟩] s h) := k_reg0
@[simp] theorem q127_10 : runF E n0 g c127_10 s h = seqK E n0 g .ret (runF E n0 g c127_9 s h) := k_seq
@[simp] theorem q127_11 : runF E n0 g c127_11 s h = regK (some [0, 5, 12]) (runO E n0 g h.length [⟨(some 13), (.bin .eql (.t 5) (.c (.str [61, 61]))), none⟩, ⟨(some 12), (.mv (.t 13)), none⟩] s h) := k_reg0
@[simp] theorem q127_12 : runF E n0 g c127_12 s h = regK (some [2, 3, 4]) (runO E n0 g h.length [⟨(some 2), (.mv (.c (.int .i64 15))), none⟩, ⟨(some 3), (.mv (.c (.int .i64 3))), none⟩, ⟨(some 4), (.mv (.c (.bool false))), none⟩] s h) := k_reg0
@[simp] theorem q127_13 : runF E n0 g c127_13 s h = seqK E n0 g .ret (runF E n0 g c127_12 s h) := k_seq
@[simp] theorem q127_14 : runF E n0 g c127_14 s h = regK (some [0, 5, 14]) (runO E n0 g h.length [⟨(some 15), (.bin .eql (.t 5) (.c (.str [33, 61]))), none⟩, ⟨(some 14), (.mv (.t 15)), none⟩] s h) := k_reg0
@[simp] theorem q127_15 : runF E n0 g c127_15 s h = regK (some [2, 3, 4]) (runO E n0 g h.length [⟨(some 2), (.mv (.c (.int .i64 16))), none⟩, ⟨(some 3), (.mv (.c (.int .i64 3))), none⟩, ⟨(some 4), (.mv (.c (.bool false))), none⟩] s h) := k_reg0
@[simp] theorem q127_16 : runF E n0 g c127_16 s h = seqK E n0 g .ret (runF E n0 g c127_15 s h) := k_seq
@[simp] theorem q127_17 : runF E n0 g c127_17 s h = regK (some [0, 5, 16]) (runO E n0 g h.length [⟨(some 17), (.bin .eql (.t 5) (.c (.str [60]))), none⟩, ⟨(some 16), (.mv (.t 17)), none⟩] s h) := k_reg0
@[simp] theorem q127_18 : runF E n0 g c127_18 s h = regK (some [2, 3, 4]) (runO E n0 g h.length [⟨(some 2), (.mv (.c (.int .i64 17))), none⟩, ⟨(some 3), (.mv (.c (.int .i64 4))), none⟩, ⟨(some 4), (.mv (.c (.bool false))), none⟩] s h) := k_reg0
@[simp] theorem q127_19 : runF E n0 g c127_19 s h = seqK E n0 g .ret (runF E n0 g c127_18 s h) := k_seq
@[simp] theorem q127_20 : runF E n0 g c127_20 s h = regK (some [0, 5, 18]) (runO E n0 g h.length [⟨(some 19), (.bin .eql (.t 5) (.c (.str [60, 61]))), none⟩, ⟨(some 18), (.mv (.t 19)), none⟩] s h) := k_reg0
@[simp] theorem q127_21 : runF E n0 g c127_21 s h = regK (some [2, 3, 4]) (runO E n0 g h.length [⟨(some 2), (.mv (.c (.int .i64 18))), none⟩, ⟨(some 3), (.mv (.c (.int .i64 4))), none⟩, ⟨(some 4), (.mv (.c (.bool false))), none⟩] s h) := k_reg0
@[simp] theorem q127_22 : runF E n0 g c127_22 s h = seqK E n0 g .ret (runF E n0 g c127_21 s h) := k_seq
@[simp] theorem q127_23 : runF E n0 g c127_23 s h = regK (some [0, 5, 20]) (runO E n0 g h.length [⟨(some 21), (.bin .eql (.t 5) (.c (.str [62]))), none⟩, ⟨(some 20), (.mv (.t 21)), none⟩] s h) := k_reg0
@[simp] theorem q127_24 : runF E n0 g c127_24 s h = regK (some [2, 3, 4]) (runO E n0 g h.length [⟨(some 2), (.mv (.c (.int .i64 17))), none⟩, ⟨(some 3), (.mv (.c (.int .i64 4))), none⟩, ⟨(some 4), (.mv (.c (.bool true))), none⟩] s h) := k_reg0
@[simp] theorem q127_25 : runF E n0 g c127_25 s h = seqK E n0 g .ret (runF E n0 g c127_24 s h) := k_seq
@[simp] theorem q127_26 : runF E n0 g c127_26 s h = regK (some [0, 5, 22]) (runO E n0 g h.length [⟨(some 23), (.bin .eql (.t 5) (.c (.str [62, 61]))), none⟩, ⟨(some 22), (.mv (.t 23)), none⟩] s h) := k_reg0
@[simp] theorem q127_27 : runF E n0 g c127_27 s h = regK (some [2, 3, 4]) (runO E n0 g h.length [⟨(some 2), (.mv (.c (.int .i64 18))), none⟩, ⟨(some 3), (.mv (.c (.int .i64 4))), none⟩, ⟨(some 4), (.mv (.c (.bool true))), none⟩] s h) := k_reg0
@[simp] theorem q127_28 : runF E n0 g c127_28 s h = seqK E n0 g .ret (runF E n0 g c127_27 s h) := k_seq
@[simp] theorem q127_29 : runF E n0 g c127_29 s h = regK (some [0, 5, 24]) (runO E n0 g h.length [⟨(some 25), (.bin .eql (.t 5) (.c (.str [60, 60]))), none⟩, ⟨(some 24), (.mv (.t 25)), none⟩] s h) := k_reg0
@[simp] theorem q127_30 : runF E n0 g c127_30 s h = regK (some [2, 3, 4]) (runO E n0 g h.length [⟨(some 2), (.mv (.c (.int .i64 12))), none⟩, ⟨(some 3), (.mv (.c (.int .i64 5))), none⟩, ⟨(some 4), (.mv (.c (.bool false))), none⟩] s h) := k_reg0
@[simp] theorem q127_31 : runF E n0 g c127_31 s h = seqK E n0 g .ret (runF E n0 g c127_30 s h) := k_seq
@[simp] theorem q127_32 : runF E n0 g c127_32 s h = regK (some [0, 5, 26]) (runO E n0 g h.length [⟨(some 27), (.bin .eql (.t 5) (.c (.str [62, 62]))), none⟩, ⟨(some 26), (.mv (.t 27)), none⟩] s h) := k_reg0
@[simp] theorem q127_33 : runF E n0 g c127_33 s h = regK (some [2, 3, 4]) (runO E n0 g h.length [⟨(some 2), (.mv (.c (.int .i64 14))), none⟩, ⟨(some 3), (.mv (.c (.int .i64 5))), none⟩, ⟨(some 4), (.mv (.c (.bool false))), none⟩] s h) := k_reg0
@[simp] theorem q127_34 : runF E n0 g c127_34 s h = seqK E n0 g .ret (runF E n0 g c127_33 s h) := k_seq
@[simp] theorem q127_35 : runF E n0 g c127_35 s h = regK (some [0, 28]) (runO E n0 g h.length [⟨(some 29), (.bin .eql (.t 5) (.c (.str [62, 62, 62]))), none⟩, ⟨(some 28), (.mv (.t 29)), none⟩] s h) := k_reg0
@[simp] theorem q127_36 : runF E n0 g c127_36 s h = regK (some [2, 3, 4]) (runO E n0 g h.length [⟨(some 2), (.mv (.c (.int .i64 13))), none⟩, ⟨(some 3), (.mv (.c (.int .i64 5))), none⟩, ⟨(some 4), (.mv (.c (.bool false))), none⟩] s h) := k_reg0
@[simp] theorem q127_37 : runF E n0 g c127_37 s h = seqK E n0 g .ret (runF E n0 g c127_36 s h) := k_seq
@[simp] theorem q127_38 : runF E n0 g c127_38 s h = condK E n0 g c127_37 .skip s h (get s 28) := k_cond
@[simp] theorem q127_39 : runF E n0 g c127_39 s h = seqK E n0 g c127_38 (runF E n0 g c127_35 s h) := k_seq
@[simp] theorem q127_40 : runF E n0 g c127_40 s h = condK E n0 g c127_34 c127_39 s h (get s 26) := k_cond
@[simp] theorem q127_41 : runF E n0 g c127_41 s h = seqK E n0 g c127_40 (runF E n0 g c127_32 s h) := k_seq
@[simp] theorem q127_42 : runF E n0 g c127_42 s h = condK E n0 g c127_31 c127_41 s h (get s 24) := k_cond
@[simp] theorem q127_43 : runF E n0 g c127_43 s h = seqK E n0 g c127_42 (runF E n0 g c127_29 s h) := k_seq
@[simp] theorem q127_44 : runF E n0 g c127_44 s h = condK E n0 g c127_28 c127_43 s h (get s 22) := k_cond
@[simp] theorem q127_45 : runF E n0 g c127_45 s h = seqK E n0 g c127_44 (runF E n0 g c127_26 s h) := k_seq
@[simp] theorem q127_46 : runF E n0 g c127_46 s h = condK E n0 g c127_25 c127_45 s h (get s 20) := k_cond
@[simp] theorem q127_47 : runF E n0 g c127_47 s h = seqK E n0 g c127_46 (runF E n0 g c127_23 s h) := k_seq
@[simp] theorem q127_48 : runF E n0 g c127_48 s h = condK E n0 g c127_22 c127_47 s h (get s 18) := k_cond
@[simp] theorem q127_49 : runF E n0 g c127_49 s h = seqK E n0 g c127_48 (runF E n0 g c127_20 s h) := k_seq
@[simp] theorem q127_50 : runF E n0 g c127_50 s h = condK E n0 g c127_19 c127_49 s h (get s 16) := k_cond
@[simp] theorem q127_51 : runF E n0 g c127_51 s h = seqK E n0 g c127_50 (runF E n0 g c127_17 s h) := k_seq
@[simp] theorem q127_52 : runF E n0 g c127_52 s h = condK E n0 g c127_16 c127_51 s h (get s 14) := k_cond
@[simp] theorem q127_53 : runF E n0 g c127_53 s h = seqK E n0 g c127_52 (runF E n0 g c127_14 s h) := k_seq
@[simp] theorem q127_54 : runF E n0 g c127_54 s h = condK E n0 g c127_13 c127_53 s h (get s 12) := k_cond
@[simp] theorem q127_55 : runF E n0 g c127_55 s h = seqK E n0 g c127_54 (runF E n0 g c127_11 s h) := k_seq
@[simp] theorem q127_56 : runF E n0 g c127_56 s h = condK E n0 g c127_10 c127_55 s h (get s 10) := k_cond
@[simp] theorem q127_57 : runF E n0 g c127_57 s h = seqK E n0 g c127_56 (runF E n0 g c127_8 s h) := k_seq
@[simp] theorem q127_58 : runF E n0 g c127_58 s h = condK E n0 g c127_7 c127_57 s h (get s 8) := k_cond
@[simp] theorem q127_59 : runF E n0 g c127_59 s h = seqK E n0 g c127_58 (runF E n0 g c127_5 s h) := k_seq
@[simp] theorem q127_60 : runF E n0 g c127_60 s h = condK E n0 g c127_4 c127_59 s h (get s 6) := k_cond
@[simp] theorem q127_61 : runF E n0 g c127_61 s h = seqK E n0 g c127_60 (runF E n0 g c127_2 s h) := k_seq
@[simp] theorem q127_62 : runF E n0 g c127_62 s h = blkK (some [0]) 0 (runF E n0 g c127_61 s h) := k_block
@[simp] theorem q127_63 : runF E n0 g c127_63 s h = seqK E n0 g c127_62 (runF E n0 g c127_1 s h) := k_seq
@[simp] theorem q127_64 : runF E n0 g c127_64 s h = regK (some [2, 3, 4]) (runO E n0 g h.length [⟨(some 30), (.mv (.t 0)), none⟩, ⟨(some 31), (.call 142 [(.t 30)]), none⟩, ⟨(some 32), (.ext (.t 31) 0), none⟩, ⟨(some 33), (.ext (.t 31) 1), none⟩, ⟨(some 34), (.ext (.t 31) 2), none⟩, ⟨(some 2), (.mv (.t 32)), none⟩, ⟨(some 3), (.mv (.t 33)), none⟩, ⟨(some 4), (.mv (.t 34)), none⟩] s h) := k_reg0
@[simp] theorem q127_65 : runF E n0 g c127_65 s h = seqK E n0 g .ret (runF E n0 g c127_64 s h) := k_seq
@[simp] theorem q127_66 : runF E n0 g c127_66 s h = seqK E n0 g c127_65 (runF E n0 g c127_63 s h) := k_seq
@[simp] theorem q127_67 : runF E n0 g c127_67 s h = seqK E n0 g c127_66 (runF E n0 g c127_0 s h) := k_seq
@[simp] theorem qq127 : runF E n0 g c127 s h = runF E n0 g c127_67 s h := rfl
@[simp] theorem q140_0 : runF E n0 g c140_0 s h = regK (some [0]) (runO E n0 g h.length [⟨(some 2), (.mv (.c (.int .i64 0))), none⟩] s h) := k_reg0
@[simp] theorem q140_1 : runF E n0 g c140_1 s h = regK (some [3]) (runO E n0 g h.length [⟨(some 6), (.mv (.t 0)), none⟩, ⟨(some 7), (.bin .add (.c (.str [45])) (.t 6)), none⟩, ⟨(some 8), (.call 55 [(.t 7)]), none⟩, ⟨(some 5), (.mv (.t 8)), none⟩, ⟨(some 9), (.ext (.t 5) 0), none⟩, ⟨(some 10), (.ext (.t 5) 1), none⟩, ⟨(some 3), (.mv (.t 9)), none⟩, ⟨(some 4), (.mv (.t 10)), none⟩] s h) := k_reg0
@[simp] theorem q140_2 : runF E n0 g c140_2 s h = regK (some [2]) (runO E n0 g h.length [⟨(some 11), (.mv (.t 3)), none⟩, ⟨(some 2), (.mv (.t 11)), none⟩] s h) := k_reg0
@[simp] theorem q140_3 : runF E n0 g c140_3 s h = seqK E n0 g .ret (runF E n0 g c140_2 s h) := k_seq
@[simp] theorem q140_4 : runF E n0 g c140_4 s h = seqK E n0 g c140_3 (runF E n0 g c140_1 s h) := k_seq
@[simp] theorem q140_5 : runF E n0 g c140_5 s h = seqK E n0 g c140_4 (runF E n0 g c140_0 s h) := k_seq
@[simp] theorem qq140 : runF E n0 g c140 s h = runF E n0 g c140_5 s h := rfl
@[simp] theorem q141_0 : runF E n0 g c141_0 s h = regK (some [0, 2]) (runO E n0 g h.length [⟨(some 2), (.al 0 [(.int .i64 0), (.int .i64 0), (.str []), (.int .i64 0), (.sl .full [])]), none⟩] s (h ++ [(.cells [(.int .i64 0), (.int .i64 0), (.str []), (.int .i64 0), (.sl .full [])])])) := k_reg
@[simp] theorem q141_1 : runF E n0 g c141_1 s h = regK (some [0, 2, 3]) (runO E n0 g h.length [⟨(some 8), (.mv (.t 0)), none⟩, ⟨(some 9), (.call 53 [(.t 8)]), none⟩, ⟨(some 3), (.al 0 [(.int .i64 0), (.str []), (.int .i64 0)]), none⟩, ⟨none, (.st 3 (.t 3) (.t 9)), none⟩] s (h ++ [(.cells [(.int .i64 0), (.str []), (.int .i64 0)])])) := k_reg
@[simp] theorem q141_2 : runF E n0 g c141_2 s h = regK (some [0, 2, 3, 12]) (runO E n0 g h.length [⟨(some 10), (.fa 0 (.t 3)), none⟩, ⟨(some 11), (.ld false 1 (.t 10)), none⟩, ⟨(some 12), (.bin .eql (.t 11) (.c (.int .i64 2))), none⟩] s h) := k_reg0
@[simp] theorem q141_3 : runF E n0 g c141_3 s h = regK (some [0, 2, 4, 5]) (runO E n0 g h.length [⟨(some 14), (.fa 1 (.t 3)), none⟩, ⟨(some 15), (.ld false 1 (.t 14)), none⟩, ⟨(some 16), (.call 55 [(.t 15)]), none⟩, ⟨(some 13), (.mv (.t 16)), none⟩, ⟨(some 17), (.ext (.t 13) 0), none⟩, ⟨(some 18), (.ext (.t 13) 1), none⟩, ⟨(some 4), (.mv (.t 17)), none⟩, ⟨(some 5), (.mv (.t 18)), none⟩] s h) := k_reg0
@[simp] theorem q141_4 : runF E n0 g c141_4 s h = regK (some [0, 2, 4, 20]) (runO E n0 g h.length [⟨(some 19), (.mv (.t 5)), none⟩, ⟨(some 20), (.un .not (.t 19)), none⟩] s h) := k_reg0
@[simp] theorem q141_5 : runF E n0 g c141_5 s h = regK (some [2]) (runO E n0 g h.length [⟨(some 21), (.mv (.t 0)), none⟩, ⟨(some 22), (.nilc (.t 21)), none⟩, ⟨(some 23), (.fa 3 (.t 22)), none⟩, ⟨none, (.st 1 (.t 23) (.c (.bool true))), none⟩] s h) := k_reg0
@[simp] theorem q141_6 : runF E n0 g c141_6 s h = regK (some [2]) (runO E n0 g h.length [⟨(some 24), (.bld [(.int .i64 0), (.int .i64 0), (.str []), (.int .i64 0), (.sl .full [])] []), none⟩, ⟨none, (.st 5 (.t 2) (.t 24)), none⟩] s h) := k_reg0
@[simp] theorem q141_7 : runF E n0 g c141_7 s h = seqK E n0 g .ret (runF E n0 g c141_6 s h) := k_seq
@[simp] theorem q141_8 : runF E n0 g c141_8 s h = seqK E n0 g c141_7 (runF E n0 g c141_5 s h) := k_seq
@[simp] theorem q141_9 : runF E n0 g c141_9 s h = condK E n0 g c141_8 .skip s h (get s 20) := k_cond
@[simp] theorem q141_10 : runF E n0 g c141_10 s h = seqK E n0 g c141_9 (runF E n0 g c141_4 s h) := k_seq
@[simp] theorem q141_11 : runF E n0 g c141_11 s h = regK (some [2, 4]) (runO E n0 g h.length [⟨(some 25), (.mv (.t 0)), none⟩, ⟨(some 26), (.nilc (.t 25)), none⟩, ⟨(some 27), (.fa 1 (.t 26)), none⟩, ⟨(some 28), (.ld false 1 (.t 27)), none⟩, ⟨(some 29), (.bin .add (.t 28) (.c (.int .i64 1))), none⟩, ⟨(some 30), (.nilc (.t 25)), none⟩, ⟨(some 31), (.fa 1 (.t 30)), none⟩, ⟨none, (.st 1 (.t 31) (.t 29)), none⟩] s h) := k_reg0
@[simp] theorem q141_12 : runF E n0 g c141_12 s h = regK (some [2]) (runO E n0 g h.length [⟨(some 32), (.mv (.t 4)), none⟩, ⟨(some 33), (.bld [(.int .i64 0), (.int .i64 0), (.str []), (.int .i64 0), (.sl .full [])] [(0, (1, (.c (.int .i64 1)))), (1, (1, (.t 32)))]), none⟩, ⟨none, (.st 5 (.t 2) (.t 33)), none⟩] s h) := k_reg0
@[simp] theorem q141_13 : runF E n0 g c141_13 s h = seqK E n0 g .ret (runF E n0 g c141_12 s h) := k_seq
@[simp] theorem q141_14 : runF E n0 g c141_14 s h = seqK E n0 g c141_13 (runF E n0 g c141_11 s h) := k_seq
@[simp] theorem q141_15 : runF E n0 g c141_15 s h = seqK E n0 g c141_14 (runF E n0 g c141_10 s h) := k_seq
@[simp] theorem q141_16 : runF E n0 g c141_16 s h = seqK E n0 g c141_15 (runF E n0 g c141_3 s h) := k_seq
@[simp] theorem q141_17 : runF E n0 g c141_17 s h = condK E n0 g c141_16 .skip s h (get s 12) := k_cond
@[simp] theorem q141_18 : runF E n0 g c141_18 s h = seqK E n0 g c141_17 (runF E n0 g c141_2 s h) := k_seq
@[simp] theorem q141_19 : runF E n0 g c141_19 s h = seqK E n0 g c141_18 (runF E n0 g c141_1 s h) := k_seq
@[simp] theorem q141_20 : runF E n0 g c141_20 s h = regK (some [0, 2, 6]) (runO E n0 g h.length [⟨(some 34), (.mv (.t 0)), none⟩, ⟨(some 35), (.call 23 [(.t 34)]), none⟩, ⟨(some 6), (.mv (.t 35)), none⟩] s h) := k_reg0
@[simp] theorem q141_21 : runF E n0 g c141_21 s h = regK (some [0, 2, 6, 38]) (runO E n0 g h.length [⟨(some 36), (.mv (.t 0)), none⟩, ⟨(some 37), (.call 56 [(.t 36), (.c (.str [91]))]), none⟩, ⟨(some 38), (.un .not (.t 37)), none⟩] s h) := k_reg0
@[simp] theorem q141_22 : runF E n0 g c141_22 s h = regK (some [2]) (runO E n0 g h.length [⟨(some 39), (.mv (.t 6)), none⟩, ⟨(some 40), (.bld [(.int .i64 0), (.int .i64 0), (.str []), (.int .i64 0), (.sl .full [])] [(0, (1, (.c (.int .i64 2)))), (2, (1, (.t 39)))]), none⟩, ⟨none, (.st 5 (.t 2) (.t 40)), none⟩] s h) := k_reg0
@[simp] theorem q141_23 : runF E n0 g c141_23 s h = seqK E n0 g .ret (runF E n0 g c141_22 s h) := k_seq
@[simp] theorem q141_24 : runF E n0 g c141_24 s h = condK E n0 g c141_23 .skip s h (get s 38) := k_cond
@[simp] theorem q141_25 : runF E n0 g c141_25 s h = seqK E n0 g c141_24 (runF E n0 g c141_21 s h) := k_seq
@[simp] theorem q141_26 : runF E n0 g c141_26 s h = regK (some [0, 2, 6, 7]) (runO E n0 g h.length [⟨(some 41), (.mv (.t 0)), none⟩, ⟨(some 42), (.call 60 [(.t 41)]), none⟩, ⟨(some 7), (.al 0 [(.int .i64 0), (.int .i64 0), (.str []), (.int .i64 0), (.sl .full [])]), none⟩, ⟨none, (.st 5 (.t 7) (.t 42)), none⟩] s (h ++ [(.cells [(.int .i64 0), (.int .i64 0), (.str []), (.int .i64 0), (.sl .full [])])])) := k_reg
@[simp] theorem q141_27 : runF E n0 g c141_27 s h = regK (some [2, 6, 7]) (runO E n0 g h.length [⟨(some 43), (.mv (.t 0)), none⟩, ⟨(some 44), (.call 25 [(.t 43), (.c (.str [93]))]), none⟩] s h) := k_reg0
@[simp] theorem q141_28 : runF E n0 g c141_28 s h = regK (some [2]) (runO E n0 g h.length [⟨(some 45), (.mv (.t 6)), none⟩, ⟨(some 46), (.ld true 5 (.t 7)), none⟩, ⟨(some 47), (.bsl 5 (.agg [(.int .i64 0), (.int .i64 0), (.str []), (.int .i64 0), (.sl .none [])]) 1 [(0, (.t 46))]), none⟩, ⟨(some 48), (.bld [(.int .i64 0), (.int .i64 0), (.str []), (.int .i64 0), (.sl .full [])] [(0, (1, (.c (.int .i64 3)))), (2, (1, (.t 45))), (4, (1, (.t 47)))]), none⟩, ⟨none, (.st 5 (.t 2) (.t 48)), none⟩] s h) := k_reg0
@[simp] theorem q141_29 : runF E n0 g c141_29 s h = seqK E n0 g .ret (runF E n0 g c141_28 s h) := k_seq
@[simp] theorem q141_30 : runF E n0 g c141_30 s h = seqK E n0 g c141_29 (runF E n0 g c141_27 s h) := k_seq
@[simp] theorem q141_31 : runF E n0 g c141_31 s h = seqK E n0 g c141_30 (runF E n0 g c141_26 s h) := k_seq
@[simp] theorem q141_32 : runF E n0 g c141_32 s h = seqK E n0 g c141_31 (runF E n0 g c141_25 s h) := k_seq
@[simp] theorem q141_33 : runF E n0 g c141_33 s h = seqK E n0 g c141_32 (runF E n0 g c141_20 s h) := k_seq
@[simp] theorem q141_34 : runF E n0 g c141_34 s h = seqK E n0 g c141_33 (runF E n0 g c141_19 s h) := k_seq
@[simp] theorem q141_35 : runF E n0 g c141_35 s h = seqK E n0 g c141_34 (runF E n0 g c141_0 s h) := k_seq
@[simp] theorem qq141 : runF E n0 g c141 s h = runF E n0 g c141_35 s h := rfl
@[simp] theorem q142_0 : runF E n0 g c142_0 s h = regK (some [0]) (runO E n0 g h.length [⟨(some 2), (.mv (.c (.int .i64 0))), none⟩, ⟨(some 3), (.mv (.c (.int .i64 0))), none⟩, ⟨(some 4), (.mv (.c (.bool false))), none⟩] s h) := k_reg0
@[simp] theorem q142_1 : runF E n0 g c142_1 s h = regK (some [5]) (runO E n0 g h.length [⟨(some 5), (.mv (.t 0)), none⟩] s h) := k_reg0
@[simp] theorem q142_2 : runF E n0 g c142_2 s h = regK (some [5, 6]) (runO E n0 g h.length [⟨(some 7), (.bin .eql (.t 5) (.c (.str [43]))), none⟩, ⟨(some 6), (.mv (.t 7)), none⟩] s h) := k_reg0
@[simp] theorem q142_3 : runF E n0 g c142_3 s h = regK (some [2, 3, 4]) (runO E n0 g h.length [⟨(some 2), (.mv (.c (.int .i64 4))), none⟩, ⟨(some 3), (.mv (.c (.int .i64 6))), none⟩, ⟨(some 4), (.mv (.c (.bool false))), none⟩] s h) := k_reg0
@[simp] theorem q142_4 : runF E n0 g c142_4 s h = seqK E n0 g .ret (runF E n0 g c142_3 s h) := k_seq
@[simp] theorem q142_5 : runF E n0 g c142_5 s h = regK (some [5, 8]) (runO E n0 g h.length [⟨(some 9), (.bin .eql (.t 5) (.c (.str [45]))), none⟩, ⟨(some 8), (.mv (.t 9)), none⟩] s h) := k_reg0
@[simp] theorem q142_6 : runF E n0 g c142_6 s h = regK (some [2, 3, 4]) (runO E n0 g h.length [⟨(some 2), (.mv (.c (.int .i64 5))), none⟩, ⟨(some 3), (.mv (.c (.int .i64 6))), none⟩, ⟨(some 4), (.mv (.c (.bool false))), none⟩] s h) := k_reg0
@[simp] theorem q142_7 : runF E n0 g c142_7 s h = seqK E n0 g .ret (runF E n0 g c142_6 s h) := k_seq
@[simp] theorem q142_8 : runF E n0 g c142_8 s h = regK (some [5, 10]) (runO E n0 g h.length [⟨(some 11), (.bin .eql (.t 5) (.c (.str [42]))), none⟩, ⟨(some 10), (.mv (.t 11)), none⟩] s h) := k_reg0
@[simp] theorem q142_9 : runF E n0 g c142_9 s h = regK (some [2, 3, 4]) (runO E n0 g h.length [⟨(some 2), (.mv (.c (.int .i64 6))), none⟩, ⟨(some 3), (.mv (.c (.int .i64 7))), none⟩, ⟨(some 4), (.mv (.c (.bool false))), none⟩] s h) := k_reg0
@[simp] theorem q142_10 : runF E n0 g c142_10 s h = seqK E n0 g .ret (runF E n0 g c142_9 s h) := k_seq
@[simp] theorem q142_11 : runF E n0 g c142_11 s h = regK (some [5, 12]) (runO E n0 g h.length [⟨(some 13), (.bin .eql (.t 5) (.c (.str [47]))), none⟩, ⟨(some 12), (.mv (.t 13)), none⟩] s h) := k_reg0
@[simp] theorem q142_12 : runF E n0 g c142_12 s h = regK (some [2, 3, 4]) (runO E n0 g h.length [⟨(some 2), (.mv (.c (.int .i64 7))), none⟩, ⟨(some 3), (.mv (.c (.int .i64 7))), none⟩, ⟨(some 4), (.mv (.c (.bool false))), none⟩] s h) := k_reg0
@[simp] theorem q142_13 : runF E n0 g c142_13 s h = seqK E n0 g .ret (runF E n0 g c142_12 s h) := k_seq
@[simp] theorem q142_14 : runF E n0 g c142_14 s h = regK (some [14]) (runO E n0 g h.length [⟨(some 15), (.bin .eql (.t 5) (.c (.str [37]))), none⟩, ⟨(some 14), (.mv (.t 15)), none⟩] s h) := k_reg0
@[simp] theorem q142_15 : runF E n0 g c142_15 s h = regK (some [2, 3, 4]) (runO E n0 g h.length [⟨(some 2), (.mv (.c (.int .i64 8))), none⟩, ⟨(some 3), (.mv (.c (.int .i64 7))), none⟩, ⟨(some 4), (.mv (.c (.bool false))), none⟩] s h) := k_reg0
@[simp] theorem q142_16 : runF E n0 g c142_16 s h = seqK E n0 g .ret (runF E n0 g c142_15 s h) := k_seq
@[simp] theorem q142_17 : runF E n0 g c142_17 s h = condK E n0 g c142_16 .skip s h (get s 14) := k_cond
@[simp] theorem q142_18 : runF E n0 g c142_18 s h = seqK E n0 g c142_17 (runF E n0 g c142_14 s h) := k_seq
@[simp] theorem q142_19 : runF E n0 g c142_19 s h = condK E n0 g c142_13 c142_18 s h (get s 12) := k_cond
@[simp] theorem q142_20 : runF E n0 g c142_20 s h = seqK E n0 g c142_19 (runF E n0 g c142_11 s h) := k_seq
@[simp] theorem q142_21 : runF E n0 g c142_21 s h = condK E n0 g c142_10 c142_20 s h (get s 10) := k_cond
@[simp] theorem q142_22 : runF E n0 g c142_22 s h = seqK E n0 g c142_21 (runF E n0 g c142_8 s h) := k_seq
@[simp] theorem q142_23 : runF E n0 g c142_23 s h = condK E n0 g c142_7 c142_22 s h (get s 8) := k_cond
@[simp] theorem q142_24 : runF E n0 g c142_24 s h = seqK E n0 g c142_23 (runF E n0 g c142_5 s h) := k_seq
@[simp] theorem q142_25 : runF E n0 g c142_25 s h = condK E n0 g c142_4 c142_24 s h (get s 6) := k_cond
@[simp] theorem q142_26 : runF E n0 g c142_26 s h = seqK E n0 g c142_25 (runF E n0 g c142_2 s h) := k_seq
@[simp] theorem q142_27 : runF E n0 g c142_27 s h = blkK (some []) 0 (runF E n0 g c142_26 s h) := k_block
@[simp] theorem q142_28 : runF E n0 g c142_28 s h = seqK E n0 g c142_27 (runF E n0 g c142_1 s h) := k_seq
@[simp] theorem q142_29 : runF E n0 g c142_29 s h = regK (some [2, 3, 4]) (runO E n0 g h.length [⟨(some 2), (.mv (.c (.int .i64 0))), none⟩, ⟨(some 3), (.mv (.c (.int .i64 0))), none⟩, ⟨(some 4), (.mv (.c (.bool false))), none⟩] s h) := k_reg0
@[simp] theorem q142_30 : runF E n0 g c142_30 s h = seqK E n0 g .ret (runF E n0 g c142_29 s h) := k_seq
@[simp] theorem q142_31 : runF E n0 g c142_31 s h = seqK E n0 g c142_30 (runF E n0 g c142_28 s h) := k_seq
@[simp] theorem q142_32 : runF E n0 g c142_32 s h = seqK E n0 g c142_31 (runF E n0 g c142_0 s h) := k_seq
@[simp] theorem qq142 : runF E n0 g c142 s h = runF E n0 g c142_32 s h := rfl
end Go.Proofs.Ytkomfefpfalajaa
