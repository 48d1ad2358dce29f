/- The generators of instructions: what they return is an instruction; the first returns a valid one. -/
import Derived.Test.YtghlghbpaeimjaaDoorM4
namespace Go.Proofs.YtghlghbpaeimjaaDoor
open Go Go.Proofs Ab
set_option maxRecDepth 100000
set_option linter.unusedSimpArgs false
def isDig : Option Ob → Bool
  | some (.cells [.int .i64 _]) => true
  | _ => false
def digOf : Option Ob → Int
  | some (.cells [.int .i64 n]) => n
  | _ => 0
@[simp] theorem isDig_cells (n : Int) : isDig (some (.cells [.int .i64 n])) = true := rfl
@[simp] theorem digOf_cells (n : Int) : digOf (some (.cells [.int .i64 n])) = n := rfl
theorem next37' (m : Int) (hm : 0 < m) (hm2 : m ≤ 1000000) (H : Heap) (o : Nat) (ho : isDig H[o]? = true) : callF E2 37 [.ptr o 0, .int .i64 m] H = some (.int .i64 (digOf H[o]? % m), H.set o (.cells [.int .i64 (nxt (digOf H[o]?) m)])) := by
  unfold isDig at ho
  split at ho
  · rename_i n hn
    rw [next37 n m hm hm2 H o hn, hn]
    rfl
  · cases ho
theorem wrap_add1 (x : Int) (h : 0 ≤ x) (h2 : x < 1000000) : IntKind.i64.wrap (1 + x) = 1 + x := wrapR ⟨by omega, by omega⟩

theorem instr_f1 (n : Int) (h : formR (1 + n % 37) = 1) : ∃ a b c m, validP (1 + n % 37) a b c m ∧ ∀ H, callF E2 18 [.int .i64 n] H = some (instrV (1 + n % 37) a b c m, H) := by
  have hw : IntKind.i64.wrap (1 + n % 37) = 1 + n % 37 := wrapR ⟨by omega, by omega⟩
  have h4 : ¬ (1 + n % 37 = 4) := fun e => by rw [e] at h; cases h
  have h6 : ¬ (1 + n % 37 = 6) := fun e => by rw [e] at h; cases h
  have h34 : ¬ (1 + n % 37 = 34) := fun e => by rw [e] at h; cases h
  have h35 : ¬ (1 + n % 37 = 35) := fun e => by rw [e] at h; cases h
  have h36 : ¬ (1 + n % 37 = 36) := fun e => by rw [e] at h; cases h
  have h37 : ¬ (1 + n % 37 = 37) := fun e => by rw [e] at h; cases h
  have h14 : ¬ (1 + n % 37 = 14) := fun e => by rw [e] at h; cases h
  have h13 : ¬ (1 + n % 37 = 13) := fun e => by rw [e] at h; cases h
  have h33 : ¬ (1 + n % 37 = 33) := fun e => by rw [e] at h; cases h
  have h5 : ¬ (1 + n % 37 = 5) := fun e => by rw [e] at h; cases h
  have h7 : ¬ (1 + n % 37 = 7) := fun e => by rw [e] at h; cases h
  have h8 : ¬ (1 + n % 37 = 8) := fun e => by rw [e] at h; cases h
  refine ⟨0, 0, 0, 0, by unfold validP; omega, fun H => ?_⟩
  rw [go (fn := F18) rfl rfl rfl]
  simp [F18, next37', hw, info15', h, h4, h6, h34, h35, h36, h37, h14, h13, h33, h5, h7, h8]
theorem instr_f2 (n : Int) (h : formR (1 + n % 37) = 2) : ∃ a b c m, validP (1 + n % 37) a b c m ∧ ∀ H, callF E2 18 [.int .i64 n] H = some (instrV (1 + n % 37) a b c m, H) := by
  have hw : IntKind.i64.wrap (1 + n % 37) = 1 + n % 37 := wrapR ⟨by omega, by omega⟩
  have h4 : ¬ (1 + n % 37 = 4) := fun e => by rw [e] at h; cases h
  have h6 : ¬ (1 + n % 37 = 6) := fun e => by rw [e] at h; cases h
  have h34 : ¬ (1 + n % 37 = 34) := fun e => by rw [e] at h; cases h
  have h35 : ¬ (1 + n % 37 = 35) := fun e => by rw [e] at h; cases h
  have h36 : ¬ (1 + n % 37 = 36) := fun e => by rw [e] at h; cases h
  have h37 : ¬ (1 + n % 37 = 37) := fun e => by rw [e] at h; cases h
  have h14 : ¬ (1 + n % 37 = 14) := fun e => by rw [e] at h; cases h
  have h13 : ¬ (1 + n % 37 = 13) := fun e => by rw [e] at h; cases h
  have h33 : ¬ (1 + n % 37 = 33) := fun e => by rw [e] at h; cases h
  have h5 : ¬ (1 + n % 37 = 5) := fun e => by rw [e] at h; cases h
  have h7 : ¬ (1 + n % 37 = 7) := fun e => by rw [e] at h; cases h
  have h8 : ¬ (1 + n % 37 = 8) := fun e => by rw [e] at h; cases h
  refine ⟨(nxt n 37) % 8, 0, 0, 0, by unfold validP; omega, fun H => ?_⟩
  rw [go (fn := F18) rfl rfl rfl]
  simp [F18, next37', hw, info15', h, h4, h6, h34, h35, h36, h37, h14, h13, h33, h5, h7, h8]
theorem instr_f4 (n : Int) (h : formR (1 + n % 37) = 4) : ∃ a b c m, validP (1 + n % 37) a b c m ∧ ∀ H, callF E2 18 [.int .i64 n] H = some (instrV (1 + n % 37) a b c m, H) := by
  have hw : IntKind.i64.wrap (1 + n % 37) = 1 + n % 37 := wrapR ⟨by omega, by omega⟩
  have h4 : ¬ (1 + n % 37 = 4) := fun e => by rw [e] at h; cases h
  have h6 : ¬ (1 + n % 37 = 6) := fun e => by rw [e] at h; cases h
  have h34 : ¬ (1 + n % 37 = 34) := fun e => by rw [e] at h; cases h
  have h35 : ¬ (1 + n % 37 = 35) := fun e => by rw [e] at h; cases h
  have h36 : ¬ (1 + n % 37 = 36) := fun e => by rw [e] at h; cases h
  have h37 : ¬ (1 + n % 37 = 37) := fun e => by rw [e] at h; cases h
  have h14 : ¬ (1 + n % 37 = 14) := fun e => by rw [e] at h; cases h
  have h13 : ¬ (1 + n % 37 = 13) := fun e => by rw [e] at h; cases h
  have h33 : ¬ (1 + n % 37 = 33) := fun e => by rw [e] at h; cases h
  have h5 : ¬ (1 + n % 37 = 5) := fun e => by rw [e] at h; cases h
  have h7 : ¬ (1 + n % 37 = 7) := fun e => by rw [e] at h; cases h
  have h8 : ¬ (1 + n % 37 = 8) := fun e => by rw [e] at h; cases h
  refine ⟨(nxt n 37) % 8, (nxt (nxt n 37) 8) % 8, (nxt (nxt (nxt n 37) 8) 8) % 8, 0, by unfold validP; omega, fun H => ?_⟩
  rw [go (fn := F18) rfl rfl rfl]
  simp [F18, next37', hw, info15', h, h4, h6, h34, h35, h36, h37, h14, h13, h33, h5, h7, h8]
theorem instr_f3 (n : Int) (h : formR (1 + n % 37) = 3) : ∃ a b c m, validP (1 + n % 37) a b c m ∧ ∀ H, callF E2 18 [.int .i64 n] H = some (instrV (1 + n % 37) a b c m, H) := by
  have hw : IntKind.i64.wrap (1 + n % 37) = 1 + n % 37 := wrapR ⟨by omega, by omega⟩
  have h4 : ¬ (1 + n % 37 = 4) := fun e => by rw [e] at h; cases h
  have h6 : ¬ (1 + n % 37 = 6) := fun e => by rw [e] at h; cases h
  have h34 : ¬ (1 + n % 37 = 34) := fun e => by rw [e] at h; cases h
  have h35 : ¬ (1 + n % 37 = 35) := fun e => by rw [e] at h; cases h
  have h36 : ¬ (1 + n % 37 = 36) := fun e => by rw [e] at h; cases h
  have h37 : ¬ (1 + n % 37 = 37) := fun e => by rw [e] at h; cases h
  have h14 : ¬ (1 + n % 37 = 14) := fun e => by rw [e] at h; cases h
  have h13 : ¬ (1 + n % 37 = 13) := fun e => by rw [e] at h; cases h
  have h33 : ¬ (1 + n % 37 = 33) := fun e => by rw [e] at h; cases h
  have h5 : ¬ (1 + n % 37 = 5) := fun e => by rw [e] at h; cases h
  have h7 : ¬ (1 + n % 37 = 7) := fun e => by rw [e] at h; cases h
  have h8 : ¬ (1 + n % 37 = 8) := fun e => by rw [e] at h; cases h
  refine ⟨(nxt n 37) % 8, (nxt (nxt n 37) 8) % 8, 0, 0, by unfold validP; omega, fun H => ?_⟩
  rw [go (fn := F18) rfl rfl rfl]
  simp [F18, next37', hw, info15', h, h4, h6, h34, h35, h36, h37, h14, h13, h33, h5, h7, h8]
theorem instr_o4 (n : Int) (h : 1 + n % 37 = 4) : ∃ a b c m, validP (1 + n % 37) a b c m ∧ ∀ H, callF E2 18 [.int .i64 n] H = some (instrV (1 + n % 37) a b c m, H) := by
  have hw : IntKind.i64.wrap (1 + n % 37) = 4 := (wrapR ⟨by omega, by omega⟩).trans h
  have hf : formR 4 = 8 := rfl
  have hw0 : IntKind.i64.wrap (1 + (nxt n 37) % 40) = 1 + (nxt n 37) % 40 := wrapR ⟨by omega, by omega⟩
  refine ⟨0, 0, 0, 1 + (nxt n 37) % 40, by unfold validP loI hiI; rw [h, hf]; omega, fun H => ?_⟩
  rw [h, go (fn := F18) rfl rfl rfl]
  simp [F18, next37', hw, info15', hw0, hf]
theorem instr_o6 (n : Int) (h : 1 + n % 37 = 6) : ∃ a b c m, validP (1 + n % 37) a b c m ∧ ∀ H, callF E2 18 [.int .i64 n] H = some (instrV (1 + n % 37) a b c m, H) := by
  have hw : IntKind.i64.wrap (1 + n % 37) = 6 := (wrapR ⟨by omega, by omega⟩).trans h
  have hf : formR 6 = 5 := rfl
  refine ⟨(nxt (nxt n 37) 8) % 3, 0, 0, (nxt (nxt (nxt n 37) 8) 3) % 2, by unfold validP loI hiI; rw [h, hf]; omega, fun H => ?_⟩
  rw [h, go (fn := F18) rfl rfl rfl]
  simp [F18, next37', hw, info15', hf]
theorem instr_o34 (n : Int) (h : 1 + n % 37 = 34) : ∃ a b c m, validP (1 + n % 37) a b c m ∧ ∀ H, callF E2 18 [.int .i64 n] H = some (instrV (1 + n % 37) a b c m, H) := by
  have hw : IntKind.i64.wrap (1 + n % 37) = 34 := (wrapR ⟨by omega, by omega⟩).trans h
  have hf : formR 34 = 7 := rfl
  refine ⟨(nxt n 37) % 8, (nxt (nxt n 37) 8) % 8, 0, (nxt (nxt (nxt n 37) 8) 8) % 2, by unfold validP loI hiI; rw [h, hf]; omega, fun H => ?_⟩
  rw [h, go (fn := F18) rfl rfl rfl]
  simp [F18, next37', hw, info15', hf]
theorem instr_o35 (n : Int) (h : 1 + n % 37 = 35) : ∃ a b c m, validP (1 + n % 37) a b c m ∧ ∀ H, callF E2 18 [.int .i64 n] H = some (instrV (1 + n % 37) a b c m, H) := by
  have hw : IntKind.i64.wrap (1 + n % 37) = 35 := (wrapR ⟨by omega, by omega⟩).trans h
  have hf : formR 35 = 7 := rfl
  refine ⟨(nxt n 37) % 8, (nxt (nxt n 37) 8) % 8, 0, (nxt (nxt (nxt n 37) 8) 8) % 2, by unfold validP loI hiI; rw [h, hf]; omega, fun H => ?_⟩
  rw [h, go (fn := F18) rfl rfl rfl]
  simp [F18, next37', hw, info15', hf]
theorem instr_o36 (n : Int) (h : 1 + n % 37 = 36) : ∃ a b c m, validP (1 + n % 37) a b c m ∧ ∀ H, callF E2 18 [.int .i64 n] H = some (instrV (1 + n % 37) a b c m, H) := by
  have hw : IntKind.i64.wrap (1 + n % 37) = 36 := (wrapR ⟨by omega, by omega⟩).trans h
  have hf : formR 36 = 5 := rfl
  refine ⟨(nxt n 37) % 8, 0, 0, (nxt (nxt n 37) 8) % 6, by unfold validP loI hiI; rw [h, hf]; omega, fun H => ?_⟩
  rw [h, go (fn := F18) rfl rfl rfl]
  simp [F18, next37', hw, info15', hf]
theorem instr_o37 (n : Int) (h : 1 + n % 37 = 37) : ∃ a b c m, validP (1 + n % 37) a b c m ∧ ∀ H, callF E2 18 [.int .i64 n] H = some (instrV (1 + n % 37) a b c m, H) := by
  have hw : IntKind.i64.wrap (1 + n % 37) = 37 := (wrapR ⟨by omega, by omega⟩).trans h
  have hf : formR 37 = 5 := rfl
  refine ⟨(nxt n 37) % 8, 0, 0, (nxt (nxt n 37) 8) % 6, by unfold validP loI hiI; rw [h, hf]; omega, fun H => ?_⟩
  rw [h, go (fn := F18) rfl rfl rfl]
  simp [F18, next37', hw, info15', hf]
theorem instr_o14 (n : Int) (hn : InR n) (h : 1 + n % 37 = 14) : ∃ a b c m, validP (1 + n % 37) a b c m ∧ ∀ H, callF E2 18 [.int .i64 n] H = some (instrV (1 + n % 37) a b c m, H) := by
  have hw : IntKind.i64.wrap (1 + n % 37) = 14 := (wrapR ⟨by omega, by omega⟩).trans h
  have hf : formR 14 = 6 := rfl
  obtain ⟨r, hr, hcall⟩ := word38 ((nxt (nxt n 37) 8) % 500) n
  refine ⟨(nxt n 37) % 8, 0, 0, r, by unfold validP loI hiI; rw [h, hf]; obtain ⟨hr1, hr2⟩ := hr hn; omega, fun H => ?_⟩
  rw [h, go (fn := F18) rfl rfl rfl]
  simp [F18, next37', hw, info15', hf, hcall]
theorem instr_o13 (n : Int) (h : 1 + n % 37 = 13) : ∃ a b c m, validP (1 + n % 37) a b c m ∧ ∀ H, callF E2 18 [.int .i64 n] H = some (instrV (1 + n % 37) a b c m, H) := by
  have hw : IntKind.i64.wrap (1 + n % 37) = 13 := (wrapR ⟨by omega, by omega⟩).trans h
  have hf : formR 13 = 5 := rfl
  have hw0 : IntKind.i64.wrap ((nxt (nxt n 37) 8) % 15 - 6) = (nxt (nxt n 37) 8) % 15 - 6 := wrapR ⟨by omega, by omega⟩
  refine ⟨(nxt n 37) % 8, 0, 0, (nxt (nxt n 37) 8) % 15 - 6, by unfold validP loI hiI; rw [h, hf]; omega, fun H => ?_⟩
  rw [h, go (fn := F18) rfl rfl rfl]
  simp [F18, next37', hw, info15', hw0, hf]
theorem instr_o33 (n : Int) (h : 1 + n % 37 = 33) : ∃ a b c m, validP (1 + n % 37) a b c m ∧ ∀ H, callF E2 18 [.int .i64 n] H = some (instrV (1 + n % 37) a b c m, H) := by
  have hw : IntKind.i64.wrap (1 + n % 37) = 33 := (wrapR ⟨by omega, by omega⟩).trans h
  have hf : formR 33 = 5 := rfl
  have hw0 : IntKind.i64.wrap ((nxt (nxt n 37) 8) % 15 - 6) = (nxt (nxt n 37) 8) % 15 - 6 := wrapR ⟨by omega, by omega⟩
  refine ⟨(nxt n 37) % 8, 0, 0, (nxt (nxt n 37) 8) % 15 - 6, by unfold validP loI hiI; rw [h, hf]; omega, fun H => ?_⟩
  rw [h, go (fn := F18) rfl rfl rfl]
  simp [F18, next37', hw, info15', hw0, hf]
theorem instr_o5 (n : Int) (h : 1 + n % 37 = 5) : ∃ a b c m, validP (1 + n % 37) a b c m ∧ ∀ H, callF E2 18 [.int .i64 n] H = some (instrV (1 + n % 37) a b c m, H) := by
  have hw : IntKind.i64.wrap (1 + n % 37) = 5 := (wrapR ⟨by omega, by omega⟩).trans h
  have hf : formR 5 = 8 := rfl
  have hw0 : IntKind.i64.wrap ((nxt n 37) % 15 - 6) = (nxt n 37) % 15 - 6 := wrapR ⟨by omega, by omega⟩
  refine ⟨0, 0, 0, (nxt n 37) % 15 - 6, by unfold validP loI hiI; rw [h, hf]; omega, fun H => ?_⟩
  rw [h, go (fn := F18) rfl rfl rfl]
  simp [F18, next37', hw, info15', hw0, hf]
theorem instr_o7 (n : Int) (h : 1 + n % 37 = 7) : ∃ a b c m, validP (1 + n % 37) a b c m ∧ ∀ H, callF E2 18 [.int .i64 n] H = some (instrV (1 + n % 37) a b c m, H) := by
  have hw : IntKind.i64.wrap (1 + n % 37) = 7 := (wrapR ⟨by omega, by omega⟩).trans h
  have hf : formR 7 = 5 := rfl
  have hw0 : IntKind.i64.wrap ((nxt (nxt n 37) 8) % 15 - 6) = (nxt (nxt n 37) 8) % 15 - 6 := wrapR ⟨by omega, by omega⟩
  refine ⟨(nxt n 37) % 8, 0, 0, (nxt (nxt n 37) 8) % 15 - 6, by unfold validP loI hiI; rw [h, hf]; omega, fun H => ?_⟩
  rw [h, go (fn := F18) rfl rfl rfl]
  simp [F18, next37', hw, info15', hw0, hf]
theorem instr_o8 (n : Int) (h : 1 + n % 37 = 8) : ∃ a b c m, validP (1 + n % 37) a b c m ∧ ∀ H, callF E2 18 [.int .i64 n] H = some (instrV (1 + n % 37) a b c m, H) := by
  have hw : IntKind.i64.wrap (1 + n % 37) = 8 := (wrapR ⟨by omega, by omega⟩).trans h
  have hf : formR 8 = 5 := rfl
  have hw0 : IntKind.i64.wrap ((nxt (nxt n 37) 8) % 15 - 6) = (nxt (nxt n 37) 8) % 15 - 6 := wrapR ⟨by omega, by omega⟩
  refine ⟨(nxt n 37) % 8, 0, 0, (nxt (nxt n 37) 8) % 15 - 6, by unfold validP loI hiI; rw [h, hf]; omega, fun H => ?_⟩
  rw [h, go (fn := F18) rfl rfl rfl]
  simp [F18, next37', hw, info15', hw0, hf]

theorem instr18 (n : Int) (hn : InR n) : ∃ op a b c m, validP op a b c m ∧ ∀ H, callF E2 18 [.int .i64 n] H = some (instrV op a b c m, H) := by
  have h1 : 1 ≤ 1 + n % 37 := by omega
  have h2 : 1 + n % 37 ≤ 37 := by omega
  refine ⟨1 + n % 37, ?_⟩
  by_cases o4 : 1 + n % 37 = 4
  · exact instr_o4 n o4
  by_cases o5 : 1 + n % 37 = 5
  · exact instr_o5 n o5
  by_cases o6 : 1 + n % 37 = 6
  · exact instr_o6 n o6
  by_cases o7 : 1 + n % 37 = 7
  · exact instr_o7 n o7
  by_cases o8 : 1 + n % 37 = 8
  · exact instr_o8 n o8
  by_cases o13 : 1 + n % 37 = 13
  · exact instr_o13 n o13
  by_cases o33 : 1 + n % 37 = 33
  · exact instr_o33 n o33
  by_cases o36 : 1 + n % 37 = 36
  · exact instr_o36 n o36
  by_cases o37 : 1 + n % 37 = 37
  · exact instr_o37 n o37
  by_cases o14 : 1 + n % 37 = 14
  · exact instr_o14 n hn o14
  by_cases o34 : 1 + n % 37 = 34
  · exact instr_o34 n o34
  by_cases o35 : 1 + n % 37 = 35
  · exact instr_o35 n o35
  have hf : formR (1 + n % 37) = 1 ∨ formR (1 + n % 37) = 2 ∨ formR (1 + n % 37) = 3 ∨ formR (1 + n % 37) = 4 := by
    revert h1 h2 o4 o5 o6 o7 o8 o13 o33 o36 o37 o14 o34 o35
    generalize 1 + n % 37 = q
    intros
    unfold formR
    repeat' split
    all_goals omega
  rcases hf with h | h | h | h
  · exact instr_f1 n h
  · exact instr_f2 n h
  · exact instr_f3 n h
  · exact instr_f4 n h
theorem mut19 (op a b c m how by' : Int) : ∃ op' a' b' c' m', ∀ H, callF E2 19 [instrV op a b c m, .int .i64 how, .int .i64 by'] H = some (instrV op' a' b' c' m', H) := by
  have hp := pick21 by' 40 (by omega) (by omega)
  have hq := pick21 how 7 (by omega) (by omega)
  have hr := pick21 by' 12 (by omega) (by omega)
  have hw : IntKind.i64.wrap (by' % 40 - 4) = by' % 40 - 4 := wrapR ⟨by omega, by omega⟩
  by_cases h0 : how % 7 = 0
  · refine ⟨by' % 40 - 4, a, b, c, m, fun H => ?_⟩
    rw [go (fn := F19) rfl rfl rfl]
    simp [F19, hp, hq, hw, h0]
  by_cases h1 : how % 7 = 1
  · refine ⟨op, by' % 40 - 4, b, c, m, fun H => ?_⟩
    rw [go (fn := F19) rfl rfl rfl]
    simp [F19, hp, hq, hw, h1]
  by_cases h2 : how % 7 = 2
  · refine ⟨op, a, by' % 40 - 4, c, m, fun H => ?_⟩
    rw [go (fn := F19) rfl rfl rfl]
    simp [F19, hp, hq, hw, h2]
  by_cases h3 : how % 7 = 3
  · refine ⟨op, a, b, by' % 40 - 4, m, fun H => ?_⟩
    rw [go (fn := F19) rfl rfl rfl]
    simp [F19, hp, hq, hw, h3]
  by_cases h4 : how % 7 = 4
  · obtain ⟨r, _, hcall⟩ := word38 by' how
    refine ⟨op, a, b, c, r, fun H => ?_⟩
    rw [go (fn := F19) rfl rfl rfl]
    simp [F19, hp, hq, hw, h4, hcall]
  by_cases h5 : how % 7 = 5
  · have hk : ∀ k : Nat, k < 12 → ∃ e, [AV.int .i64 4194304, .int .i64 4194303, .int .i64 (-4194304), .int .i64 (-4194305), .int .i64 33554432, .int .i64 33554431, .int .i64 (-33554432), .int .i64 (-33554433), .int .i64 3000, .int .i64 2999, .int .i64 4, .int .i64 8][k]? = some (.int .i64 e) := by
      intro k hk
      match k, hk with
      | 0, _ | 1, _ | 2, _ | 3, _ | 4, _ | 5, _ | 6, _ | 7, _ | 8, _ | 9, _ | 10, _ | 11, _ => exact ⟨_, rfl⟩
    have h12 := Int.emod_nonneg by' (by omega : (12 : Int) ≠ 0)
    obtain ⟨e, hk⟩ := hk (by' % 12).toNat (by omega)
    refine ⟨op, a, b, c, e, fun H => ?_⟩
    rw [go (fn := F19) rfl rfl rfl]
    simp [F19, hp, hq, hw, h5, hr, h12, hk, -getElem?_pos, List.getElem?_cons_zero, List.getElem?_cons_succ]
  · refine ⟨op, a, b, c, m, fun H => ?_⟩
    rw [go (fn := F19) rfl rfl rfl]
    simp [F19, hp, hq, hw, h0, h1, h2, h3, h4, h5]
end Go.Proofs.YtghlghbpaeimjaaDoor
