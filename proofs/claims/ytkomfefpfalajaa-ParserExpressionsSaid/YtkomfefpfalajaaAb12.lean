/- The framework, part 12: Up. -/
import Derived.Test.YtkomfefpfalajaaAb10
/- What a parser reads ends within the text. -/
namespace Ab
open Go
section
variable (tk : List Tok)
/-- an answer ends within the text -/
def UpP {α : Type} (P : Nat → Rs α) : Prop := ∀ p v q, P p = .ok (v, q) → q ≤ tk.length
theorem expR_up (s : List UInt8) : UpP tk (fun p => expR tk p s) := fun p v q h => by
  have h := expR_ok tk h
  have := sym_lt tk h.1
  omega
theorem name_up : UpP tk (nameP tk) := fun p v q h => by
  have h := nameP_ok tk h
  have := nm_lt tk h.1
  omega
theorem small_up : UpP tk (smallP tk) := fun p v q h => by
  have h1 := smallP_ok tk h
  have h2 : p < tk.length := by
    unfold smallP at h
    split at h
    · exact num_lt tk (by assumption)
    · cases h
  omega
theorem while_up {α : Type} {P : Nat → Rs α} {stop : Nat → Bool} (hP : UpP tk P) : ∀ m p v q, p ≤ tk.length → whileP P stop m p = .ok (v, q) → q ≤ tk.length
  | 0, p, v, q, hp, h => by rw [whileP] at h; cases h
  | m + 1, p, v, q, hp, h => by
    rw [whileP] at h
    split at h
    · simp at h
      omega
    · obtain ⟨x, p1, h1, h⟩ := bindR_inv h
      obtain ⟨l, p2, h2, h⟩ := bindR_inv h
      have := while_up hP m _ _ _ (hP _ _ _ h1) h2
      simp at h
      omega
theorem sep_up {α : Type} {P : Nat → Rs α} (hP : UpP tk P) : ∀ m, UpP tk (sepP tk P m)
  | 0 => fun p v q h => by rw [sepP] at h; cases h
  | m + 1 => fun p v q h => by
    rw [sepP] at h
    obtain ⟨x, p1, h1, h⟩ := bindR_inv h
    have := hP _ _ _ h1
    split at h
    · obtain ⟨l, p2, h2, h⟩ := bindR_inv h
      have := sep_up hP m _ _ _ h2
      simp at h
      omega
    · simp at h
      omega
theorem expr_upP (n : Nat) : UpP tk (exprP tk n) := fun p v q h => (expr_up tk n).1 p v q h
theorem cond_up (n : Nat) : UpP tk (condP tk n) := fun p v q h => by
  unfold condP at h
  obtain ⟨_, p1, h1, h⟩ := bindR_inv h
  obtain ⟨_, p2, h2, h⟩ := bindR_inv h
  obtain ⟨_, p3, h3, h⟩ := bindR_inv h
  have := expR_up tk _ _ _ _ h3
  simp at h
  omega
theorem args_up (n : Nat) : UpP tk (argsP tk n) := fun p v q h => by
  unfold argsP at h
  obtain ⟨_, p1, h1, h⟩ := bindR_inv h
  obtain ⟨_, p2, h2, h⟩ := bindR_inv h
  obtain ⟨_, p3, h3, h⟩ := bindR_inv h
  have := expR_up tk _ _ _ _ h3
  simp at h
  omega
theorem block_up {S : Nat → Rs Stm} (n : Nat) : UpP tk (blockP tk S n) := fun p v q h => by
  unfold blockP at h
  obtain ⟨_, p1, h1, h⟩ := bindR_inv h
  obtain ⟨_, p2, h2, h⟩ := bindR_inv h
  obtain ⟨_, p3, h3, h⟩ := bindR_inv h
  have := expR_up tk _ _ _ _ h3
  simp at h
  omega
theorem stmt_up : ∀ n, UpP tk (stmtP tk n)
  | 0 => fun p v q h => by rw [stmtP] at h; cases h
  | n + 1 => fun p v q h => by
    rw [stmtP] at h
    split at h
    · obtain ⟨_, p1, h1, h⟩ := bindR_inv h
      obtain ⟨_, p2, h2, h⟩ := bindR_inv h
      have := block_up tk n _ _ _ h2
      split at h
      · obtain ⟨_, p3, h3, h⟩ := bindR_inv h
        have := block_up tk n _ _ _ h3
        simp at h
        omega
      · simp at h
        omega
    split at h
    · obtain ⟨_, p1, h1, h⟩ := bindR_inv h
      obtain ⟨_, p2, h2, h⟩ := bindR_inv h
      have := block_up tk n _ _ _ h2
      simp at h
      omega
    · obtain ⟨_, p1, h1, h⟩ := bindR_inv h
      obtain ⟨_, p2, h2, h⟩ := bindR_inv h
      have := expR_up tk _ _ _ _ h2
      simp at h
      omega
theorem func_up (n : Nat) : UpP tk (funcP tk n) := fun p v q h => by
  unfold funcP at h
  obtain ⟨_, p1, h1, h⟩ := bindR_inv h
  obtain ⟨_, p2, h2, h⟩ := bindR_inv h
  obtain ⟨_, p3, h3, h⟩ := bindR_inv h
  obtain ⟨_, p4, h4, h⟩ := bindR_inv h
  obtain ⟨_, p5, h5, h⟩ := bindR_inv h
  obtain ⟨_, p6, h6, h⟩ := bindR_inv h
  obtain ⟨_, p7, h7, h⟩ := bindR_inv h
  obtain ⟨_, p8, h8, h⟩ := bindR_inv h
  obtain ⟨_, p9, h9, h⟩ := bindR_inv h
  obtain ⟨_, p10, h10, h⟩ := bindR_inv h
  have := expR_up tk _ _ _ _ h10
  simp at h
  omega
end
end Ab
