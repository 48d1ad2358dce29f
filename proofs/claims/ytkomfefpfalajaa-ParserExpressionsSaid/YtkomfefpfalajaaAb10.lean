/- The framework, part 10: Lex2. -/
import Derived.Test.YtkomfefpfalajaaAb8
/- What the lexer's tokens begin with. -/
namespace Ab
open Go
def headW : List UInt8 → Bool
  | c :: _ => wordB c
  | [] => false
theorem firstT_head {s w : List UInt8} {k : Int} (hne : s ≠ []) (h : firstT s = .ok (k, w)) : (k = 1 → headW w = true) ∧ (k = 3 → headW w = false) := by
  obtain ⟨c, r, rfl⟩ : ∃ c r, s = c :: r := by
    cases s with
    | nil => exact absurd rfl hne
    | cons c r => exact ⟨c, r, rfl⟩
  have htake : ∀ m, m ≠ 0 → headW ((c :: r).take m) = wordB c := by
    intro m hm
    cases m with
    | zero => exact absurd rfl hm
    | succ m => rfl
  have hw0 : wordN (c :: r) = 0 ↔ wordB c = false := by
    rw [wordN]
    cases wordB c <;> simp
  unfold firstT at h
  split at h
  · rename_i h0
    split at h
    · cases h
    · rename_i h1
      simp at h
      obtain ⟨rfl, rfl⟩ := h
      refine ⟨fun h => by omega, fun _ => ?_⟩
      rw [htake _ h1]
      exact hw0.1 h0
  · rename_i h0
    have hwb : wordB c = true := by
      cases hb : wordB c with
      | true => rfl
      | false => exact absurd (hw0.2 hb) h0
    split at h
    · split at h
      · simp at h
        obtain ⟨rfl, rfl⟩ := h
        exact ⟨fun h => by omega, fun h => by omega⟩
      · cases h
    · split at h
      · cases h
      · simp at h
        obtain ⟨rfl, rfl⟩ := h
        refine ⟨fun _ => ?_, fun h => by omega⟩
        rw [htake _ h0]
        exact hwb
theorem scanR_head : ∀ (n : Nat) (s : List UInt8) (p : Nat) (l : List Tok), scanR n s p = .ok l → ∀ x ∈ l, (x.kind = 1 → headW x.text = true) ∧ (x.kind = 3 → headW x.text = false)
  | 0, s, p, l, h => by
    simp [scanR] at h
    subst h
    simp
  | n + 1, s, p, l, h => by
    rw [scanR] at h
    by_cases hs : s = []
    · simp [hs] at h
      subst h
      simp
    · rw [if_neg hs] at h
      cases hx : firstT s with
      | error e => rw [hx] at h; cases h
      | ok kw =>
        obtain ⟨k, w⟩ := kw
        rw [hx] at h
        simp only at h
        cases hr : scanR n ((s.drop w.length).drop (spaceN false (s.drop w.length))) (p + w.length + spaceN false (s.drop w.length)) with
        | error e => rw [hr] at h; cases h
        | ok l' =>
          rw [hr] at h
          simp at h
          subst h
          intro x hx'
          rcases List.mem_cons.1 hx' with rfl | hx'
          · exact firstT_head hs hx
          · exact scanR_head n _ _ _ hr x hx'
/-- everything that is known of the tokens of a text -/
structure TokOk2 (tk : List Tok) : Prop extends TokOk tk where
  hd : ∀ p, ((tokAt tk p).kind = 1 → headW (tokAt tk p).text = true) ∧ ((tokAt tk p).kind = 3 → headW (tokAt tk p).text = false)
theorem scanT_ok2 {s : List UInt8} {tk : List Tok} (h : scanT s = .ok tk) : TokOk2 tk := by
  refine { toTokOk := scanT_ok h, hd := ?_ }
  intro p
  by_cases hp : p < tk.length
  · unfold scanT at h
    split at h
    · cases h
    · exact scanR_head _ _ _ _ h _ (List.mem_of_getElem? (tokAt_get tk hp))
  · have hz : tokAt tk p = Tok.zero := by
      unfold tokAt
      rw [List.getD_eq_getElem?_getD, List.getElem?_eq_none (by omega)]
      rfl
    rw [hz]
    simp [Tok.zero]
/-- a symbol or a word, as the reference looks for it -/
def atB (tk : List Tok) (p : Nat) (s : List UInt8) : Bool := decide (p < tk.length) && ((tokAt tk p).text == s && (tokAt tk p).kind != 2)
theorem atB_sym {tk : List Tok} (hok : TokOk2 tk) {p : Nat} {s : List UInt8} (hs : headW s = false) : atB tk p s = symB tk p s := by
  unfold atB
  by_cases hp : p < tk.length
  · have hk := (hok.ne p hp).2
    have hh := hok.hd p
    unfold symB
    by_cases ht : (tokAt tk p).text = s
    · have : (tokAt tk p).kind ≠ 1 := by intro h1; have := hh.1 h1; rw [ht, hs] at this; cases this
      rcases hk with h | h | h
      · exact absurd h this
      · simp [hp, h, ht]
      · simp [hp, h, ht]
    · have hb : ((tokAt tk p).text == s) = false := by simpa using ht
      simp [hp, hb]
  · have hz : symB tk p s = false := by
      cases hb : symB tk p s with
      | false => rfl
      | true => exact absurd (sym_lt tk hb) hp
    simp [hp, hz]
theorem atB_kw {tk : List Tok} (hok : TokOk2 tk) {p : Nat} {s : List UInt8} (hs : headW s = true) : atB tk p s = kwB tk p s := by
  unfold atB
  by_cases hp : p < tk.length
  · have hk := (hok.ne p hp).2
    have hh := hok.hd p
    unfold kwB
    by_cases ht : (tokAt tk p).text = s
    · have : (tokAt tk p).kind ≠ 3 := by intro h1; have := hh.2 h1; rw [ht, hs] at this; cases this
      rcases hk with h | h | h
      · simp [hp, h, ht]
      · simp [hp, h, ht]
      · exact absurd h this
    · have hb : ((tokAt tk p).text == s) = false := by simpa using ht
      simp [hp, hb]
  · have hz : kwB tk p s = false := by
      cases hb : kwB tk p s with
      | false => rfl
      | true => exact absurd (kw_lt tk hb) hp
    simp [hp, hz]
/-- a tree read ends within the text -/
theorem expr_up (tk : List Tok) : ∀ n, (∀ p v q, exprP tk n p = .ok (v, q) → q ≤ tk.length) ∧ (∀ k p v q, binP tk n k p = .ok (v, q) → q ≤ tk.length) ∧ (∀ k a p v q, p ≤ tk.length → loopP tk n k a p = .ok (v, q) → q ≤ tk.length) ∧ (∀ p v q, unaryP tk n p = .ok (v, q) → q ≤ tk.length) ∧ (∀ p v q, primP tk n p = .ok (v, q) → q ≤ tk.length)
  | 0 => by
    refine ⟨?_, ?_, ?_, ?_, ?_⟩
    · intro p v q h; rw [exprP] at h; cases h
    · intro k p v q h; rw [binP] at h; cases h
    · intro k a p v q _ h; rw [loopP] at h; cases h
    · intro p v q h; rw [unaryP] at h; cases h
    · intro p v q h; rw [primP] at h; cases h
  | n + 1 => by
    obtain ⟨hE, hB, hL, hU, hP⟩ := expr_up tk n
    refine ⟨?_, ?_, ?_, ?_, ?_⟩
    · intro p v q h
      rw [exprP] at h
      rcases hx : binP tk n 0 p with e | ⟨c, p1⟩ <;> rw [hx] at h
      · cases h
      have h0 := hB 0 p c p1 hx
      by_cases hs : symB tk p1 [63] = true
      · simp only [hs, if_true] at h
        rcases hy : exprP tk n (p1 + 1) with e | ⟨a, p2⟩ <;> rw [hy] at h
        · cases h
        rcases hz : expectP tk p2 [58] with e | p3 <;> simp only [hz] at h
        · cases h
        rcases hw : exprP tk n p3 with e | ⟨b, p4⟩ <;> rw [hw] at h
        · cases h
        have := hE _ _ _ hw
        simp at h
        omega
      · simp only [hs] at h
        simp at h
        omega
    · intro k p v q h
      rw [binP] at h
      by_cases hk : k = 8
      · rw [if_pos hk] at h
        exact hU _ _ _ h
      · rw [if_neg hk] at h
        rcases hx : binP tk n (k + 1) p with e | ⟨c, p1⟩ <;> rw [hx] at h
        · cases h
        exact hL _ _ _ _ _ (hB _ p c p1 hx) h
    · intro k a p v q hp h
      rw [loopP] at h
      split at h
      · rcases hx : binP tk n (k + 1) (p + 1) with e | ⟨c, p1⟩ <;> rw [hx] at h
        · cases h
        exact hL _ _ _ _ _ (hB _ _ c p1 hx) h
      · simp at h
        omega
    · intro p v q h
      rw [unaryP] at h
      split at h
      · split at h
        · have := num_lt tk (p := p + 1) (by assumption)
          simp at h
          omega
        · rcases hx : unaryP tk n (p + 1) with e | ⟨c, p1⟩ <;> rw [hx] at h
          · cases h
          have := hU _ _ _ hx
          simp at h
          omega
      split at h
      · rcases hx : unaryP tk n (p + 1) with e | ⟨c, p1⟩ <;> rw [hx] at h
        · cases h
        have := hU _ _ _ hx
        simp at h
        omega
      split at h
      · rcases hx : unaryP tk n (p + 1) with e | ⟨c, p1⟩ <;> rw [hx] at h
        · cases h
        have := hU _ _ _ hx
        simp at h
        omega
      split at h
      · rcases hx : exprP tk n (p + 1) with e | ⟨c, p1⟩ <;> rw [hx] at h
        · cases h
        rcases hz : expectP tk p1 [41] with e | p3 <;> simp only [hz] at h
        · cases h
        have h2 := expectP_ok tk hz
        have := sym_lt tk h2.1
        simp at h
        omega
      · exact hP _ _ _ h
    · intro p v q h
      rw [primP] at h
      split at h
      · have := num_lt tk (p := p) (by assumption)
        cases hx : parseW (tokAt tk p).text <;> rw [hx] at h <;> simp at h
        omega
      · rcases hy : nameP tk p with e | ⟨s, p1⟩ <;> rw [hy] at h
        · cases h
        have hn := nameP_ok tk hy
        have := nm_lt tk hn.1
        simp only at h
        split at h
        · rcases hx : exprP tk n (p1 + 1) with e | ⟨c, p2⟩ <;> rw [hx] at h
          · cases h
          rcases hz : expectP tk p2 [93] with e | p3 <;> simp only [hz] at h
          · cases h
          have h2 := expectP_ok tk hz
          have := sym_lt tk h2.1
          simp at h
          omega
        · simp at h
          omega
end Ab
