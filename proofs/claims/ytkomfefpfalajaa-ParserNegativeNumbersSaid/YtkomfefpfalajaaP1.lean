/- The parser's small functions: what each answers. -/
import Derived.Test.YtkomfefpfalajaaP0
namespace Go.Proofs.Ytkomfefpfalajaa
open Go Go.Proofs Ab
set_option maxRecDepth 100000
set_option linter.unusedSimpArgs false
set_option linter.unusedVariables false
@[simp] theorem gr3 : growAt E1 3 = some false := rfl
@[simp] theorem gr11 : growAt E1 11 = some false := rfl
@[simp] theorem gr12 : growAt E1 12 = some false := rfl
@[simp] theorem gr13 : growAt E1 13 = some false := rfl
@[simp] theorem gr15 : growAt E1 15 = some false := rfl
@[simp] theorem gr17 : growAt E1 17 = some false := rfl
@[simp] theorem gr21 : growAt E1 21 = some false := rfl
@[simp] theorem gr22 : growAt E1 22 = some false := rfl
@[simp] theorem gr23 : growAt E1 23 = some false := rfl
@[simp] theorem gr24 : growAt E1 24 = some false := rfl
@[simp] theorem gr25 : growAt E1 25 = some false := rfl
@[simp] theorem gr26 : growAt E1 26 = some false := rfl
@[simp] theorem gr27 : growAt E1 27 = some false := rfl
@[simp] theorem gr35 : growAt E1 35 = some false := rfl
@[simp] theorem gr36 : growAt E1 36 = some false := rfl
@[simp] theorem gr39 : growAt E1 39 = some false := rfl
@[simp] theorem gr51 : growAt E1 51 = some false := rfl
@[simp] theorem gr52 : growAt E1 52 = some false := rfl
@[simp] theorem gr53 : growAt E1 53 = some false := rfl
@[simp] theorem gr54 : growAt E1 54 = some false := rfl
@[simp] theorem gr55 : growAt E1 55 = some false := rfl
@[simp] theorem gr56 : growAt E1 56 = some false := rfl
@[simp] theorem gr57 : growAt E1 57 = some false := rfl
@[simp] theorem gr58 : growAt E1 58 = some false := rfl
@[simp] theorem gr59 : growAt E1 59 = some false := rfl
@[simp] theorem gr60 : growAt E1 60 = some false := rfl
@[simp] theorem gr94 : growAt E1 94 = some false := rfl
@[simp] theorem gr95 : growAt E1 95 = some false := rfl
@[simp] theorem gr96 : growAt E1 96 = some false := rfl
@[simp] theorem gr97 : growAt E1 97 = some false := rfl
@[simp] theorem gr98 : growAt E1 98 = some false := rfl
@[simp] theorem gr99 : growAt E1 99 = some false := rfl
@[simp] theorem gr100 : growAt E1 100 = some false := rfl
@[simp] theorem gr101 : growAt E1 101 = some false := rfl
@[simp] theorem gr102 : growAt E1 102 = some false := rfl
@[simp] theorem gr123 : growAt E1 123 = some false := rfl
@[simp] theorem gr124 : growAt E1 124 = some false := rfl
@[simp] theorem gr125 : growAt E1 125 = some false := rfl
@[simp] theorem gr126 : growAt E1 126 = some false := rfl
@[simp] theorem gr127 : growAt E1 127 = some false := rfl
@[simp] theorem gr140 : growAt E1 140 = some false := rfl
@[simp] theorem gr141 : growAt E1 141 = some false := rfl
@[simp] theorem gr142 : growAt E1 142 = some false := rfl
/-- the parser's state: good at a token, or failed at one -/
abbrev St := Except Nat Nat
abbrev rd (tk : List Tok) (en : Int) (p : Nat) (b : Bool) : Ob := .cells [.sl .none (encTs tk), .int .i64 (ic p), .int .i64 en, .bool b]
def stP : St → Nat | .ok p => p | .error p => p
def stF : St → Bool | .ok _ => false | .error _ => true
def stB (st : St) (f : Nat → Bool) : Bool := match st with | .ok p => f p | .error _ => false
def adv : St → St | .ok p => .ok (p + 1) | .error p => .error p
def bad (st : St) : St := .error (stP st)
@[simp] theorem stP_ok (p : Nat) : stP (.ok p) = p := rfl
@[simp] theorem stP_error (p : Nat) : stP (.error p) = p := rfl
@[simp] theorem stF_ok (p : Nat) : stF (.ok p) = false := rfl
@[simp] theorem stF_error (p : Nat) : stF (.error p) = true := rfl
@[simp] theorem stB_ok (p : Nat) (f : Nat → Bool) : stB (.ok p) f = f p := rfl
@[simp] theorem stB_error (p : Nat) (f : Nat → Bool) : stB (.error p) f = false := rfl
@[simp] theorem adv_ok (p : Nat) : adv (.ok p) = .ok (p + 1) := rfl
@[simp] theorem adv_error (p : Nat) : adv (.error p) = .error p := rfl
@[simp] theorem bad_ok (p : Nat) : bad (.ok p) = .error p := rfl
@[simp] theorem bad_error (p : Nat) : bad (.error p) = .error p := rfl
@[simp] theorem stP_bad (st : St) : stP (bad st) = stP st := rfl
@[simp] theorem stF_bad (st : St) : stF (bad st) = true := rfl
theorem stB_true {st : St} {f : Nat → Bool} (h : stB st f = true) : ∃ p, st = .ok p ∧ f p = true := by
  cases st with
  | ok p => exact ⟨p, rfl, h⟩
  | error p => simp at h
abbrev rdS (tk : List Tok) (en : Int) (st : St) : Ob := rd tk en (stP st) (stF st)
/-- the next token -/
def peek (tk : List Tok) (st : St) : Tok := match st with | .ok p => tokAt tk p | .error _ => Tok.zero
@[simp] theorem peek_ok (tk : List Tok) (p : Nat) : peek tk (.ok p) = tokAt tk p := rfl
@[simp] theorem peek_error (tk : List Tok) (p : Nat) : peek tk (.error p) = Tok.zero := rfl
theorem encT_mk (t : Tok) : encT t = .agg [.int .i64 t.kind, .str t.text, .int .i64 t.pos] := rfl
section
variable (tk : List Tok) (en : Int) (o : Nat)
theorem next53 (st : St) (H : Heap) (ho : o < H.length) : callF E1 53 [.ptr o 0] (H.set o (rdS tk en st)) = some (encT (peek tk st), H.set o (rdS tk en st)) := by
  rw [go (fn := F53) rfl rfl rfl]
  cases st with
  | error p => simp [F53, ho, encT, Tok.zero] <;> rfl
  | ok p =>
    by_cases hp : tk.length ≤ p
    · have hz : tokAt tk p = Tok.zero := by unfold tokAt; rw [List.getD_eq_getElem?_getD, List.getElem?_eq_none hp]; rfl
      simp [F53, ho, hp, encT, hz, Tok.zero] <;> rfl
    · have hlt : p < tk.length := by omega
      have hz := tokAt_get tk hlt
      simp [F53, ho, hp, hz, encT_mk] <;> rfl
theorem next53' (st : St) (H : Heap) (ho : o < H.length) : callF E1 53 [.ptr o 0] (H.set o (rdS tk en st)) = some (.agg [.int .i64 (peek tk st).kind, .str (peek tk st).text, .int .i64 (peek tk st).pos], H.set o (rdS tk en st)) := next53 tk en o st H ho
theorem is57 (st : St) (s : List UInt8) (H : Heap) (ho : o < H.length) : callF E1 57 [.ptr o 0, .str s] (H.set o (rdS tk en st)) = some (.bool (stB st (symB tk · s)), H.set o (rdS tk en st)) := by
  rw [go (fn := F57) rfl rfl rfl]
  have hn := next53' tk en o st
  have hn' := app hn
  cases st with
  | error p => simp [F57, ho, hn, hn', Tok.zero] <;> rfl
  | ok p =>
    by_cases hk : (tokAt tk p).kind = 3
    · simp [F57, ho, hn, hn', symB, hk] <;> rfl
    · simp [F57, ho, hn, hn', symB, hk] <;> rfl
variable (hL : tk.length < 4611686018427387904)
include hL
theorem accept56 (st : St) (s : List UInt8) (H : Heap) (ho : o < H.length) : callF E1 56 [.ptr o 0, .str s] (H.set o (rdS tk en st)) = some (.bool (stB st (symB tk · s)), H.set o (rdS tk en (if stB st (symB tk · s) then adv st else st))) := by
  rw [go (fn := F56) rfl rfl rfl]
  have hn := is57 tk en o st s
  have hn' := app hn
  cases hc : stB st (symB tk · s) with
  | true =>
    obtain ⟨p, rfl, hp⟩ := stB_true hc
    have := sym_lt tk hp
    have hw := wrap_ic (n := p) (by omega)
    have hn := is57 tk en o (.ok p) s
    simp [hp] at hn
    simp [F56, ho, hn, hw] <;> rfl
  | false => simp [F56, ho, hn, hn', hc] <;> rfl
theorem expect25 (st : St) (s : List UInt8) (H : Heap) (ho : o < H.length) : callF E1 25 [.ptr o 0, .str s] (H.set o (rdS tk en st)) = some (.tup [], H.set o (rdS tk en (if stB st (symB tk · s) then adv st else bad st))) := by
  rw [go (fn := F25) rfl rfl rfl]
  have hn := accept56 tk en o hL st s
  have hn' := app hn
  cases hc : stB st (symB tk · s) with
  | true => simp [F25, ho, hn, hn', hc] <;> rfl
  | false => simp [F25, ho, hn, hn', hc] <;> rfl
theorem keyword22 (st : St) (s : List UInt8) (H : Heap) (ho : o < H.length) : callF E1 22 [.ptr o 0, .str s] (H.set o (rdS tk en st)) = some (.bool (stB st (kwB tk · s)), H.set o (rdS tk en (if stB st (kwB tk · s) then adv st else st))) := by
  rw [go (fn := F22) rfl rfl rfl]
  have hn := next53' tk en o st
  have hn' := app hn
  cases st with
  | error p => simp [F22, ho, hn, hn', Tok.zero] <;> rfl
  | ok p =>
    simp at hn hn'
    by_cases hk : (tokAt tk p).kind = 1
    · have hlt := kind_lt tk (p := p) (by omega)
      have hw := wrap_ic (n := p) (by omega)
      by_cases ht : (tokAt tk p).text = s
      · simp [F22, ho, hn, hn', kwB, hk, ht, hw] <;> rfl
      · have ht' : ((tokAt tk p).text == s) = false := beq_eq_false_iff_ne.2 ht
        simp [F22, ho, hn, hn', kwB, hk, ht, ht', hw] <;> rfl
    · simp [F22, ho, hn, hn', kwB, hk] <;> rfl
omit hL
theorem reserved98 (s : List UInt8) (H : Heap) : callF E1 98 [.str s] H = some (.bool (reservedB s), H) := by
  rw [go (fn := F98) rfl rfl rfl]
  by_cases h : reservedB s = true
  · rw [h]
    simp [reservedB] at h
    rcases h with h | h | h | h | h | h | h | h | h <;> subst h <;> simp [F98]
  · simp only [Bool.not_eq_true] at h
    rw [h]
    simp [reservedB] at h
    simp [F98, h]
theorem atName54 (st : St) (H : Heap) (ho : o < H.length) : callF E1 54 [.ptr o 0] (H.set o (rdS tk en st)) = some (.bool (stB st (nmB tk)), H.set o (rdS tk en st)) := by
  rw [go (fn := F54) rfl rfl rfl]
  have hn := next53' tk en o st
  have hn' := app hn
  cases st with
  | error p => simp [F54, ho, hn, hn', Tok.zero] <;> rfl
  | ok p =>
    simp at hn hn'
    by_cases hk : (tokAt tk p).kind = 1
    · simp [F54, ho, hn, hn', nmB, hk, reserved98] <;> rfl
    · simp [F54, ho, hn, hn', nmB, hk] <;> rfl
include hL
theorem name23 (st : St) (H : Heap) (ho : o < H.length) : callF E1 23 [.ptr o 0] (H.set o (rdS tk en st)) = some (.str (if stB st (nmB tk) then (peek tk st).text else []), H.set o (rdS tk en (if stB st (nmB tk) then adv st else bad st))) := by
  rw [go (fn := F23) rfl rfl rfl]
  have hn := atName54 tk en o st
  have hn' := app hn
  cases hc : stB st (nmB tk) with
  | true =>
    obtain ⟨p, rfl, hp⟩ := stB_true hc
    have hlt := nm_lt tk hp
    have hw := wrap_ic (n := p) (by omega)
    have hw1 := wrap_ic1 (n := p) (by omega)
    have hg := tokAt_get tk hlt
    simp [hp] at hn hn'
    simp [F23, ho, hn, hn', hc, hw, hw1, hg, encT_mk] <;> rfl
  | false =>
    simp [hc] at hn hn'
    simp [F23, ho, hn, hn', hc] <;> rfl
end
end Go.Proofs.Ytkomfefpfalajaa
