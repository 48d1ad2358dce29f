/- The run of MachineOperands: true at every input. -/
import Derived.Test.YtghlghbpaeimjaaDoorM5
namespace Go.Proofs.YtghlghbpaeimjaaDoor
open Go Go.Proofs Ab
set_option maxRecDepth 100000
set_option linter.unusedSimpArgs false
theorem mem_small8 {a : Int} (h1 : 0 ≤ a) (h2 : a < 8) : a ∈ small8 := by
  simp [small8]
  omega
theorem reads_up : (small8.all fun a => insUp a.toNat 0 [] == sel (fun k => decide ((k : Int) < a)) 0) = true := by decide +kernel
theorem reads_eq {op a b c m : Int} (h : validP op a b c m) : refReads (iRA op) (iRB op) (formR op) op a b c = readsL op a b c := by
  have ha : 0 ≤ a ∧ a < 8 := by unfold validP at h; omega
  have hb : 0 ≤ b ∧ b < 8 := by unfold validP at h; omega
  have hc : 0 ≤ c ∧ c < 8 := by unfold validP at h; omega
  have hop : 1 ≤ op ∧ op ≤ 37 := by unfold validP at h; omega
  by_cases o6 : op = 6
  · subst o6
    have e1 : iRA 6 = false := by decide +kernel
    have e2 : iRB 6 = false := by decide +kernel
    have := List.all_eq_true.1 reads_up a (mem_small8 ha.1 ha.2)
    simp only [beq_iff_eq] at this
    simp [refReads, readsL, e1, e2, form6, this]
  · by_cases o2 : op = 2
    · subst o2
      have e1 : iRA 2 = false := by decide +kernel
      have e2 : iRB 2 = false := by decide +kernel
      have e3 : formR 2 = 1 := rfl
      have e4 : insL [] 0 = sel (fun k => k == 0) 0 := by decide +kernel
      simp [refReads, readsL, e1, e2, e3, e4]
    · have hx := List.all_eq_true.1 (List.all_eq_true.1 (List.all_eq_true.1 (List.all_eq_true.1 (List.all_eq_true.1 (List.all_eq_true.1 reads_small a (mem_small8 ha.1 ha.2)) b (mem_small8 hb.1 hb.2)) c (mem_small8 hc.1 hc.2)) (iRA op) (by cases iRA op <;> simp)) (iRB op) (by cases iRB op <;> simp)) (decide (formR op = 4)) (by cases decide (formR op = 4) <;> simp)
      simp only [beq_iff_eq] at hx
      have hf : (formR op = 4) ↔ (op = 11 ∨ op = 12) := by
        unfold formR
        repeat' split
        all_goals omega
      have e1 : refReads (iRA op) (iRB op) (formR op) op a b c = refReads (iRA op) (iRB op) (if decide (formR op = 4) then 4 else 0) 0 a b c := by
        by_cases h4 : formR op = 4 <;> simp [refReads, o6, o2, h4]
      rw [e1, hx]
      unfold readsL
      apply sel_congr
      intro k hk
      have e2 : (op == 6) = false := beq_eq_false_iff_ne.2 o6
      have e3 : (op == 2) = false := beq_eq_false_iff_ne.2 o2
      have e4 : (op == 11 || op == 12) = decide (formR op = 4) := by
        rw [Bool.eq_iff_iff]
        simp [hf]
      simp [e2, e3, e4]
theorem sel_length (p : Nat → Bool) : (sel p 0).length ≤ 8 := by
  unfold sel
  rw [List.length_map]
  exact Nat.le_trans (List.length_filter_le _ _) (by simp)
theorem iter8 (op a b c m : Int) (k : Nat) (xs : List AV) (hx : xs[k]? = some (instrV op a b c m)) (hk : k < 100) (s : Slots) (h23 : get s 23 = .sl .full xs) (h24 : get s 24 = .int .i64 3) (h25 : get s 25 = .int .i64 k) (hk3 : (k : Int) < 3) (n0 : Nat) (h : Heap) :
    ∃ h', runF E2 n0 false c8_19 s h = some (.nrm, [(1, get s 1), (23, .sl .full xs), (24, .int .i64 3), (25, .int .i64 ((k : Int) + 1))], h') := by
  have hw : IntKind.i64.wrap ((k : Int) + 1) = (k : Int) + 1 := wrapR ⟨by omega, by omega⟩
  have hre : (if validP op a b c m then refReads (iRA op) (iRB op) (formR op) op a b c else []) = (if validP op a b c m then readsL op a b c else []) := by
    split
    · rename_i hv; exact reads_eq hv
    · rfl
  have hl1 : (if validP op a b c m then readsL op a b c else []).length < 4611686018427387904 := by
    split
    · have := sel_length (fun k => (iRA op && (k : Int) == a) || (iRB op && (k : Int) == b) || ((op == 11 || op == 12) && (k : Int) == c) || (op == 6 && (k : Int) < a) || (op == 2 && k == 0))
      unfold readsL
      omega
    · simp
  have hl2 : (writesL op a b c m).length < 4611686018427387904 := by
    unfold writesL
    repeat' split
    all_goals simp
  refine ⟨h ++ [ri op a b c m], ?_⟩
  simp [h23, h24, h25, hk3, hx, hw, flow24, flow25, valid23, valid26, reads13, reads27, hre, writes14, writes28, same12 _ _ _ _ hl1, same12 _ _ _ _ hl2, -getElem?_pos, List.getElem?_cons_zero, List.getElem?_cons_succ]
theorem loop8 (xs : List AV) (hl : xs.length = 3) (hall : ∀ k, k < 3 → ∃ op a b c m, xs[k]? = some (instrV op a b c m)) (n0 : Nat) : ∀ (j k : Nat) (s : Slots) (h : Heap), k + j = 3 → get s 23 = .sl .full xs → get s 24 = .int .i64 3 → get s 25 = .int .i64 k →
    ∃ h', blkK (some [1]) 0 (runF E2 n0 false c8_20 s h) = some (.nrm, [(1, get s 1)], h')
  | 0, k, s, h, hk, h23, h24, h25 => by
    have hk3 : k = 3 := by omega
    subst hk3
    refine ⟨h, ?_⟩
    rw [q8_20]
    simp [h23, h24, h25]
  | j + 1, k, s, h, hk, h23, h24, h25 => by
    obtain ⟨op, a, b, c, m, hx⟩ := hall k (by omega)
    obtain ⟨h1, hi⟩ := iter8 op a b c m k xs hx (by omega) (clearO (some [1, 23, 24, 25]) s) (by simp [h23]) (by simp [h24]) (by simp [h25]) (by omega) n0 h
    obtain ⟨h', ih⟩ := loop8 xs hl hall n0 j (k + 1) [(1, get s 1), (23, .sl .full xs), (24, .int .i64 3), (25, .int .i64 ((k + 1 : Nat) : Int))] h1 (by omega) rfl rfl rfl
    refine ⟨h', ?_⟩
    rw [q8_20, hi]
    simp at ih
    simp [ih]
theorem operands_run (op a b c m n how by' : Int) (hn : InR n) : callF E2 8 [instrV op a b c m, .int .i64 n, .int .i64 how, .int .i64 by'] [] = some (.bool true, []) := by
  obtain ⟨o1, a1, b1, c1, m1, hv1, h18⟩ := instr18 n hn
  obtain ⟨o2, a2, b2, c2, m2, h19⟩ := mut19 o1 a1 b1 c1 m1 how by'
  obtain ⟨h', hl⟩ := loop8 [instrV op a b c m, instrV o1 a1 b1 c1 m1, instrV o2 a2 b2 c2 m2] rfl (by
    intro k hk
    match k, hk with
    | 0, _ => exact ⟨_, _, _, _, _, rfl⟩
    | 1, _ => exact ⟨_, _, _, _, _, rfl⟩
    | 2, _ => exact ⟨_, _, _, _, _, rfl⟩) 0 3 0 [(1, .int .i64 n), (23, .sl .full [instrV op a b c m, instrV o1 a1 b1 c1 m1, instrV o2 a2 b2 c2 m2]), (24, .int .i64 3), (25, .int .i64 (0 : Nat))] [ri op a b c m] rfl rfl rfl rfl
  simp at hl
  rw [go (fn := F8) rfl rfl rfl]
  simp [F8, h18, h19, hl, valid23, hv1, c3_2', -getElem?_pos, List.getElem?_cons_zero, List.getElem?_cons_succ]
end Go.Proofs.YtghlghbpaeimjaaDoor
