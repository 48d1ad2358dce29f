/- word.Parse reads a word. -/
import Derived.Test.YtkomfefpfalajaaQ0
import Derived.Test.YtkomfefpfalajaaExRun
import Derived.Test.YtkomfefpfalajaaAb7
namespace Go.Proofs.Ytkomfefpfalajaa
open Go Go.Proofs Ab
set_option maxRecDepth 100000
set_option linter.unusedSimpArgs false
set_option linter.unusedVariables false
theorem loop55 (t : List UInt8) (b : AV) (hl : t.length < 100) (n0 : Nat) (h : Heap) : ∀ (r : List UInt8) (k v : Nat) (s : Slots), t.drop k = r → k + r.length = t.length → (v + 1) * 10 ^ r.length ≤ 10 ^ 19 → get s 4 = .str t → get s 5 = b → get s 6 = .int .u64 v → get s 7 = .int .i64 k →
    blkK (some [5, 6]) 0 (runF E1 n0 false c55_28 s h) = if r.all isDec = true then some (.nrm, [(5, b), (6, .int .u64 (numOf v r))], h) else some (.ret, [(2, .int .i64 0), (3, .bool false)], h)
  | [], k, v, s, hd, hk, hv, h4, h5, h6, h7 => by
    have hn : ¬ ((k : Int) < t.length) := by simp at hk; omega
    rw [q55_28]
    simp [h4, h5, h6, h7, hn, numOf_nil]
  | c :: r, k, v, s, hd, hk, hv, h4, h5, h6, h7 => by
    simp only [List.length_cons] at hk
    have hlt : (k : Int) < t.length := by omega
    have hx : t[k]? = some c := by
      have := congrArg (fun l => l[0]?) hd
      simpa using this
    have hd' : t.drop (k + 1) = r := by
      have := congrArg List.tail hd
      simpa using this
    have hw : IntKind.i64.wrap ((k : Int) + 1) = (k : Int) + 1 := wrapR ⟨by omega, by omega⟩
    rw [q55_28]
    by_cases hc : isDec c = true
    · have hc' := isDec_iff.1 hc
      have c1 : ¬ (c.toNat : Int) < 48 := by omega
      have c2 : ¬ (57 : Int) < c.toNat := by omega
      have hp : (10 * v + (c.toNat - 48) + 1) * 10 ^ r.length ≤ 10 ^ 19 := by
        refine Nat.le_trans ?_ hv
        rw [List.length_cons, Nat.pow_succ, Nat.mul_comm (10 ^ r.length) 10, ← Nat.mul_assoc]
        exact Nat.mul_le_mul_right _ (by omega)
      have hp2 : 10 * v + (c.toNat - 48) + 1 ≤ 10 ^ 19 := Nat.le_trans (Nat.le_mul_of_pos_right _ (Nat.pow_pos (by omega))) hp
      have w1 : IntKind.u64.wrap (10 * (v : Int)) = 10 * (v : Int) := wrapU (by omega) (by omega)
      have w2 : IntKind.u8.wrap ((c.toNat : Int) - 48) = (c.toNat : Int) - 48 := wrap8 (by omega) (by omega)
      have w3 : IntKind.u64.wrap ((c.toNat : Int) - 48) = (c.toNat : Int) - 48 := wrapU (by omega) (by omega)
      have w4 : IntKind.u64.wrap (10 * (v : Int) + ((c.toNat : Int) - 48)) = 10 * (v : Int) + ((c.toNat - 48 : Nat) : Int) := by
        rw [wrapU (by omega) (by omega)]; omega
      have ih := loop55 t b hl n0 h r (k + 1) (10 * v + (c.toNat - 48)) [(4, .str t), (5, b), (6, .int .u64 ((10 * v + (c.toNat - 48) : Nat) : Int)), (7, .int .i64 ((k + 1 : Nat) : Int))] hd' (by omega) hp rfl rfl rfl rfl
      simp at ih
      simp [h4, h5, h6, h7, hlt, hx, hw, c1, c2, w1, w2, w3, w4, ih, hc, numOf_cons, -getElem?_pos]
    · have hc' : ¬ (48 ≤ c.toNat ∧ c.toNat ≤ 57) := fun h => hc (isDec_iff.2 h)
      by_cases c1 : (c.toNat : Int) < 48
      · simp [h4, h5, h6, h7, hlt, hx, c1, hc, -getElem?_pos]
      · have c2 : (57 : Int) < c.toNat := by omega
        simp [h4, h5, h6, h7, hlt, hx, c1, c2, hc, -getElem?_pos]
def tupW : Option Int → AV
  | some v => .tup [.int .i64 v, .bool true]
  | none => .tup [.int .i64 0, .bool false]
theorem parse55 (s : List UInt8) (hs : s.length < 4611686018427387904) (H : Heap) : callF E1 55 [.str s] H = some (tupW (parseW s), H) := by
  rw [go (fn := F55) rfl rfl rfl]
  have main : ∀ (t : List UInt8) (b : Bool), t.length < 4611686018427387904 → ∀ st, get st 4 = .str t → get st 5 = .bool b →
      finK F55 H.length (runF E1 H.length false c55_54 st H) = some (tupW (if t.all isDec = true ∧ t ≠ [] ∧ t.length ≤ 19 ∧ (t.head? ≠ some 48 ∨ (t.length = 1 ∧ b = false)) ∧ numOf 0 t ≤ (if b then 9223372036854775808 else 9223372036854775807) then some (if b then -(numOf 0 t : Int) else numOf 0 t) else none), H) := by
    intro t b ht st h4 h5
    by_cases hl : t.length ≤ 19
    · cases t with
      | nil => simp [F55, h4, h5, tupW]
      | cons c r =>
        have hlt : ¬ ((r.length : Int) + 1 < 1) := by omega
        simp only [List.length_cons] at hl
        have hgt : ¬ ((19 : Int) < (r.length : Int) + 1) := by omega
        have hlp := loop55 (c :: r) (.bool b) (by simp; omega) H.length H (c :: r) 0 0 [(4, .str (c :: r)), (5, .bool b), (6, .int .u64 (0 : Nat)), (7, .int .i64 (0 : Nat))] rfl (by simp) (by rw [Nat.zero_add, Nat.one_mul]; exact Nat.pow_le_pow_right (by omega) (by simp; omega)) rfl rfl rfl rfl
        have hnum : (c :: r).all isDec = true → numOf 0 (c :: r) < 10 ^ 19 := fun hd => by
          have := numOf_lt 0 (c :: r) (List.all_eq_true.1 hd)
          rw [Nat.zero_add, Nat.one_mul] at this
          exact Nat.lt_of_lt_of_le this (Nat.pow_le_pow_right (by omega) (by simp; omega))
        have e48 : ((c.toNat : Int) = 48) = (c = 48) := propext (u8_eq (c := c) (d := 48))
        simp only [Int.natCast_zero] at hlp
        by_cases hz : c = 48 ∧ (0 < r.length ∨ b = true)
        · obtain ⟨hz1, hz2⟩ := hz
          have hno : ¬ ((c :: r).head? ≠ some 48 ∨ ((c :: r).length = 1 ∧ b = false)) := by
            subst hz1
            rcases hz2 with h | h <;> simp <;> intros <;> simp_all
          simp only [hno, false_and, and_false, if_false, tupW]
          subst hz1
          by_cases hr : 0 < r.length
          · have hr' : (0 : Int) < r.length := by omega
            have hr2 : (1 : Int) < (r.length : Int) + 1 := by omega
            simp [F55, h4, h5, hlt, hgt, hr', hr2, e48]
          · have hb : b = true := by rcases hz2 with h | h; exact absurd h hr; exact h
            have hr2 : ¬ (1 : Int) < (r.length : Int) + 1 := by omega
            subst hb
            simp [F55, h4, h5, hlt, hgt, hr2, e48]
        · have hyes : (c :: r).head? ≠ some 48 ∨ ((c :: r).length = 1 ∧ b = false) := by
            by_cases hc : c = 48
            · right
              have h1 : ¬ 0 < r.length := fun h => hz ⟨hc, .inl h⟩
              have h2 : b ≠ true := fun h => hz ⟨hc, .inr h⟩
              simp at h2
              simp [h2]
              cases r with
              | nil => rfl
              | cons x r => simp at h1
            · left; simpa using hc
          have hgo : runF E1 H.length false c55_54 st H = runF E1 H.length false c55_53 [(4, .str (c :: r)), (5, .bool b), (41, .bool false)] H := by
            by_cases hc : c = 48
            · have h1 : ¬ 0 < r.length := fun h => hz ⟨hc, .inl h⟩
              have hr2 : ¬ (1 : Int) < (r.length : Int) + 1 := by omega
              have h2 : b = false := by
                cases b with
                | false => rfl
                | true => exact absurd ⟨hc, .inr rfl⟩ hz
              simp [h4, h5, hlt, hgt, hr2, e48, hc, h2, -q55_53]
            · simp [h4, h5, hlt, hgt, e48, hc, -q55_53]
          rw [hgo]
          by_cases hd : (c :: r).all isDec = true
          · have hn := hnum hd
            rw [if_pos hd] at hlp
            generalize numOf 0 (c :: r) = m at hlp hn
            have hcond : ((c :: r).all isDec = true ∧ (c :: r) ≠ [] ∧ (c :: r).length ≤ 19 ∧ ((c :: r).head? ≠ some 48 ∨ ((c :: r).length = 1 ∧ b = false)) ∧ m ≤ (if b then 9223372036854775808 else 9223372036854775807)) ↔ m ≤ (if b then 9223372036854775808 else 9223372036854775807) :=
              ⟨fun h => h.2.2.2.2, fun h => ⟨hd, by simp, by simp; omega, hyes, h⟩⟩
            rw [show (if (c :: r).all isDec = true ∧ (c :: r) ≠ [] ∧ (c :: r).length ≤ 19 ∧ ((c :: r).head? ≠ some 48 ∨ ((c :: r).length = 1 ∧ b = false)) ∧ m ≤ (if b then 9223372036854775808 else 9223372036854775807) then some (if b then -(m : Int) else m) else none) = (if m ≤ (if b then 9223372036854775808 else 9223372036854775807) then some (if b then -(m : Int) else m) else none) by
              by_cases h : m ≤ (if b then 9223372036854775808 else 9223372036854775807)
              · rw [if_pos h, if_pos (hcond.2 h)]
              · rw [if_neg h, if_neg (fun h' => h (hcond.1 h'))]]
            have wm : IntKind.u64.wrap 9223372036854775808 = 9223372036854775808 := rfl
            cases b with
            | false =>
              by_cases hm : m ≤ 9223372036854775807
              · have h1 : ¬ (9223372036854775807 : Int) < m := by omega
                have w1 : IntKind.i64.wrap (m : Int) = m := wrapR ⟨by omega, by omega⟩
                simp [F55, hlp, h1, w1, hm, tupW]
              · have h1 : (9223372036854775807 : Int) < m := by omega
                simp [F55, hlp, h1, hm, tupW]
            | true =>
              by_cases hm : m ≤ 9223372036854775808
              · have h1 : ¬ (9223372036854775808 : Int) < m := by omega
                have w1 : IntKind.i64.wrap (IntKind.u64.wrap (-(m : Int))) = -(m : Int) := by
                  simp only [IntKind.wrap, IntKind.signed, IntKind.bits]
                  simp
                  omega
                simp [F55, hlp, h1, w1, wm, hm, tupW]
              · have h1 : (9223372036854775808 : Int) < m := by omega
                simp [F55, hlp, h1, wm, hm, tupW]
          · rw [if_neg hd] at hlp
            simp only [hd, false_and, if_false, tupW]
            simp [F55, hlp]
    · have hgt : (19 : Int) < t.length := by omega
      have hlt : ¬ ((t.length : Int) < 1) := by omega
      have hno : ¬ t.length ≤ 19 := hl
      simp only [hno, false_and, and_false, if_false, tupW]
      simp [F55, h4, h5, hgt, hlt]
  unfold parseW
  cases s with
  | nil =>
    have hm := main [] false (by simp) [(4, .str []), (5, .bool false)] rfl rfl
    simp at hm
    simp [F55] at hm
    simp [F55, hm]
  | cons c r =>
    have e45 : ((c.toNat : Int) = 45) = (c = 45) := propext (u8_eq (c := c) (d := 45))
    simp only [List.length_cons] at hs
    have hpos : (0 : Int) < (r.length : Int) + 1 := by omega
    by_cases hc : c = 45
    · subst hc
      have h1 : (1 : Int) ≤ (r.length : Int) + 1 := by omega
      have hm := main r true (by omega) [(4, .str r), (5, .bool true)] rfl rfl
      have hh : (r.head? ≠ some 48 ∨ r.length = 1 ∧ true = false) ↔ r.head? ≠ some 48 := by simp
      simp only [hh, if_true] at hm
      rw [List.head?_cons, if_pos rfl, List.tail_cons]
      rw [← hm]
      simp [F55, hpos, e45, h1, -q55_54]
    · have hm := main (c :: r) false (by simp; omega) [(4, .str (c :: r)), (5, .bool false), (18, .bool false)] rfl rfl
      simp only [and_true, Bool.false_eq_true, if_false, List.head?_cons] at hm
      rw [List.head?_cons, if_neg (by simpa using hc)]
      rw [← hm]
      simp [F55, hpos, e45, hc, -q55_54]end Go.Proofs.Ytkomfefpfalajaa

namespace Go.Proofs.Ytkomfefpfalajaa
open Go Go.Proofs Ab
set_option maxRecDepth 100000
set_option linter.unusedSimpArgs false
set_option linter.unusedVariables false
@[simp] theorem gr3 : growAt E1 3 = some false := rfl
@[simp] theorem gr11 : growAt E1 11 = some false := rfl
@[simp] theorem gr12 : growAt E1 12 = some false := rfl
@[simp] theorem gr13 : growAt E1 13 = some false := rfl
@[simp] theorem gr14 : growAt E1 14 = some false := rfl
@[simp] theorem gr15 : growAt E1 15 = some false := rfl
@[simp] theorem gr21 : growAt E1 21 = some false := rfl
@[simp] theorem gr22 : growAt E1 22 = some false := rfl
@[simp] theorem gr23 : growAt E1 23 = some false := rfl
@[simp] theorem gr24 : growAt E1 24 = some false := rfl
@[simp] theorem gr25 : growAt E1 25 = some false := rfl
@[simp] theorem gr26 : growAt E1 26 = some false := rfl
@[simp] theorem gr27 : growAt E1 27 = some false := rfl
@[simp] theorem gr28 : growAt E1 28 = some false := rfl
@[simp] theorem gr29 : growAt E1 29 = some false := rfl
@[simp] theorem gr30 : growAt E1 30 = some false := rfl
@[simp] theorem gr31 : growAt E1 31 = some false := rfl
@[simp] theorem gr32 : growAt E1 32 = some false := rfl
@[simp] theorem gr33 : growAt E1 33 = some false := rfl
@[simp] theorem gr34 : growAt E1 34 = some false := rfl
@[simp] theorem gr35 : growAt E1 35 = some false := rfl
@[simp] theorem gr36 : growAt E1 36 = some false := rfl
@[simp] theorem gr51 : growAt E1 51 = some false := rfl
@[simp] theorem gr52 : growAt E1 52 = some false := rfl
@[simp] theorem gr53 : growAt E1 53 = some false := rfl
@[simp] theorem gr54 : growAt E1 54 = some false := rfl
@[simp] theorem gr55 : growAt E1 55 = some false := rfl
@[simp] theorem gr56 : growAt E1 56 = some false := rfl
@[simp] theorem gr57 : growAt E1 57 = some false := rfl
@[simp] theorem gr58 : growAt E1 58 = some false := rfl
@[simp] theorem gr59 : growAt E1 59 = some false := rfl
@[simp] theorem gr60 : growAt E1 60 = some false := rfl
@[simp] theorem gr61 : growAt E1 61 = some false := rfl
@[simp] theorem gr62 : growAt E1 62 = some false := rfl
@[simp] theorem gr63 : growAt E1 63 = some false := rfl
@[simp] theorem gr64 : growAt E1 64 = some false := rfl
@[simp] theorem gr65 : growAt E1 65 = some false := rfl
@[simp] theorem gr66 : growAt E1 66 = some false := rfl
@[simp] theorem gr67 : growAt E1 67 = some false := rfl
@[simp] theorem gr68 : growAt E1 68 = some false := rfl
@[simp] theorem gr94 : growAt E1 94 = some false := rfl
@[simp] theorem gr95 : growAt E1 95 = some false := rfl
@[simp] theorem gr96 : growAt E1 96 = some false := rfl
@[simp] theorem gr97 : growAt E1 97 = some false := rfl
@[simp] theorem gr98 : growAt E1 98 = some false := rfl
@[simp] theorem gr99 : growAt E1 99 = some false := rfl
@[simp] theorem gr100 : growAt E1 100 = some false := rfl
@[simp] theorem gr101 : growAt E1 101 = some false := rfl
@[simp] theorem gr102 : growAt E1 102 = some false := rfl
@[simp] theorem gr103 : growAt E1 103 = some false := rfl
@[simp] theorem gr104 : growAt E1 104 = some false := rfl
@[simp] theorem gr105 : growAt E1 105 = some false := rfl
@[simp] theorem gr106 : growAt E1 106 = some false := rfl
@[simp] theorem gr107 : growAt E1 107 = some false := rfl
@[simp] theorem gr123 : growAt E1 123 = some false := rfl
@[simp] theorem gr124 : growAt E1 124 = some false := rfl
@[simp] theorem gr125 : growAt E1 125 = some false := rfl
@[simp] theorem gr126 : growAt E1 126 = some false := rfl
@[simp] theorem gr127 : growAt E1 127 = some false := rfl
@[simp] theorem gr128 : growAt E1 128 = some false := rfl
@[simp] theorem gr129 : growAt E1 129 = some false := rfl
@[simp] theorem gr140 : growAt E1 140 = some false := rfl
@[simp] theorem gr141 : growAt E1 141 = some false := rfl
@[simp] theorem gr142 : growAt E1 142 = some false := rfl
@[simp] theorem gr143 : growAt E1 143 = some false := rfl
@[simp] theorem gr144 : growAt E1 144 = some false := rfl
@[simp] theorem gr145 : growAt E1 145 = some false := rfl
@[simp] theorem gr149 : growAt E1 149 = some false := rfl
/-- the parser's state: good at a token, or failed at one -/
abbrev St := Except Nat Nat
abbrev rd (tk : List Tok) (en : Int) (p : Nat) (b : Bool) : Ob := .cells [.sl .none (encTs tk), .int .i64 (ic p), .int .i64 en, .bool b]
def stP : St → Nat | .ok p => p | .error p => p
def stF : St → Bool | .ok _ => false | .error _ => true
def stB (st : St) (f : Nat → Bool) : Bool := match st with | .ok p => f p | .error _ => false
def adv : St → St | .ok p => .ok (p + 1) | .error p => .error p
def bad (st : St) : St := .error (stP st)
@[simp] theorem stP_ok (p : Nat) : stP (.ok p) = p := rfl
@[simp] theorem stP_error (p : Nat) : stP (.error p) = p := rfl
@[simp] theorem stF_ok (p : Nat) : stF (.ok p) = false := rfl
@[simp] theorem stF_error (p : Nat) : stF (.error p) = true := rfl
@[simp] theorem stB_ok (p : Nat) (f : Nat → Bool) : stB (.ok p) f = f p := rfl
@[simp] theorem stB_error (p : Nat) (f : Nat → Bool) : stB (.error p) f = false := rfl
@[simp] theorem adv_ok (p : Nat) : adv (.ok p) = .ok (p + 1) := rfl
@[simp] theorem adv_error (p : Nat) : adv (.error p) = .error p := rfl
@[simp] theorem bad_ok (p : Nat) : bad (.ok p) = .error p := rfl
@[simp] theorem bad_error (p : Nat) : bad (.error p) = .error p := rfl
@[simp] theorem stP_bad (st : St) : stP (bad st) = stP st := rfl
@[simp] theorem stF_bad (st : St) : stF (bad st) = true := rfl
theorem stB_true {st : St} {f : Nat → Bool} (h : stB st f = true) : ∃ p, st = .ok p ∧ f p = true := by
  cases st with
  | ok p => exact ⟨p, rfl, h⟩
  | error p => simp at h
abbrev rdS (tk : List Tok) (en : Int) (st : St) : Ob := rd tk en (stP st) (stF st)
/-- the next token -/
def peek (tk : List Tok) (st : St) : Tok := match st with | .ok p => tokAt tk p | .error _ => Tok.zero
@[simp] theorem peek_ok (tk : List Tok) (p : Nat) : peek tk (.ok p) = tokAt tk p := rfl
@[simp] theorem peek_error (tk : List Tok) (p : Nat) : peek tk (.error p) = Tok.zero := rfl
theorem encT_mk (t : Tok) : encT t = .agg [.int .i64 t.kind, .str t.text, .int .i64 t.pos] := rfl
section
variable (tk : List Tok) (en : Int) (o : Nat)
theorem next53 (st : St) (H : Heap) (ho : o < H.length) : callF E1 53 [.ptr o 0] (H.set o (rdS tk en st)) = some (encT (peek tk st), H.set o (rdS tk en st)) := by
  rw [go (fn := F53) rfl rfl rfl]
  cases st with
  | error p => simp [F53, ho, encT, Tok.zero] <;> rfl
  | ok p =>
    by_cases hp : tk.length ≤ p
    · have hz : tokAt tk p = Tok.zero := by unfold tokAt; rw [List.getD_eq_getElem?_getD, List.getElem?_eq_none hp]; rfl
      simp [F53, ho, hp, encT, hz, Tok.zero] <;> rfl
    · have hlt : p < tk.length := by omega
      have hz := tokAt_get tk hlt
      simp [F53, ho, hp, hz, encT_mk] <;> rfl
theorem next53' (st : St) (H : Heap) (ho : o < H.length) : callF E1 53 [.ptr o 0] (H.set o (rdS tk en st)) = some (.agg [.int .i64 (peek tk st).kind, .str (peek tk st).text, .int .i64 (peek tk st).pos], H.set o (rdS tk en st)) := next53 tk en o st H ho
theorem is57 (st : St) (s : List UInt8) (H : Heap) (ho : o < H.length) : callF E1 57 [.ptr o 0, .str s] (H.set o (rdS tk en st)) = some (.bool (stB st (symB tk · s)), H.set o (rdS tk en st)) := by
  rw [go (fn := F57) rfl rfl rfl]
  have hn := next53' tk en o st
  have hn' := app hn
  cases st with
  | error p => simp [F57, ho, hn, hn', Tok.zero] <;> rfl
  | ok p =>
    by_cases hk : (tokAt tk p).kind = 3
    · simp [F57, ho, hn, hn', symB, hk] <;> rfl
    · simp [F57, ho, hn, hn', symB, hk] <;> rfl
variable (hL : tk.length < 4611686018427387904)
include hL
theorem accept56 (st : St) (s : List UInt8) (H : Heap) (ho : o < H.length) : callF E1 56 [.ptr o 0, .str s] (H.set o (rdS tk en st)) = some (.bool (stB st (symB tk · s)), H.set o (rdS tk en (if stB st (symB tk · s) then adv st else st))) := by
  rw [go (fn := F56) rfl rfl rfl]
  have hn := is57 tk en o st s
  have hn' := app hn
  cases hc : stB st (symB tk · s) with
  | true =>
    obtain ⟨p, rfl, hp⟩ := stB_true hc
    have := sym_lt tk hp
    have hw := wrap_ic (n := p) (by omega)
    have hn := is57 tk en o (.ok p) s
    simp [hp] at hn
    simp [F56, ho, hn, hw] <;> rfl
  | false => simp [F56, ho, hn, hn', hc] <;> rfl
theorem expect25 (st : St) (s : List UInt8) (H : Heap) (ho : o < H.length) : callF E1 25 [.ptr o 0, .str s] (H.set o (rdS tk en st)) = some (.tup [], H.set o (rdS tk en (if stB st (symB tk · s) then adv st else bad st))) := by
  rw [go (fn := F25) rfl rfl rfl]
  have hn := accept56 tk en o hL st s
  have hn' := app hn
  cases hc : stB st (symB tk · s) with
  | true => simp [F25, ho, hn, hn', hc] <;> rfl
  | false => simp [F25, ho, hn, hn', hc] <;> rfl
theorem keyword22 (st : St) (s : List UInt8) (H : Heap) (ho : o < H.length) : callF E1 22 [.ptr o 0, .str s] (H.set o (rdS tk en st)) = some (.bool (stB st (kwB tk · s)), H.set o (rdS tk en (if stB st (kwB tk · s) then adv st else st))) := by
  rw [go (fn := F22) rfl rfl rfl]
  have hn := next53' tk en o st
  have hn' := app hn
  cases st with
  | error p => simp [F22, ho, hn, hn', Tok.zero] <;> rfl
  | ok p =>
    simp at hn hn'
    by_cases hk : (tokAt tk p).kind = 1
    · have hlt := kind_lt tk (p := p) (by omega)
      have hw := wrap_ic (n := p) (by omega)
      by_cases ht : (tokAt tk p).text = s
      · simp [F22, ho, hn, hn', kwB, hk, ht, hw] <;> rfl
      · have ht' : ((tokAt tk p).text == s) = false := beq_eq_false_iff_ne.2 ht
        simp [F22, ho, hn, hn', kwB, hk, ht, ht', hw] <;> rfl
    · simp [F22, ho, hn, hn', kwB, hk] <;> rfl
omit hL
theorem reserved98 (s : List UInt8) (H : Heap) : callF E1 98 [.str s] H = some (.bool (reservedB s), H) := by
  rw [go (fn := F98) rfl rfl rfl]
  by_cases h : reservedB s = true
  · rw [h]
    simp [reservedB] at h
    rcases h with h | h | h | h | h | h | h | h | h <;> subst h <;> simp [F98]
  · simp only [Bool.not_eq_true] at h
    rw [h]
    simp [reservedB] at h
    simp [F98, h]
theorem atName54 (st : St) (H : Heap) (ho : o < H.length) : callF E1 54 [.ptr o 0] (H.set o (rdS tk en st)) = some (.bool (stB st (nmB tk)), H.set o (rdS tk en st)) := by
  rw [go (fn := F54) rfl rfl rfl]
  have hn := next53' tk en o st
  have hn' := app hn
  cases st with
  | error p => simp [F54, ho, hn, hn', Tok.zero] <;> rfl
  | ok p =>
    simp at hn hn'
    by_cases hk : (tokAt tk p).kind = 1
    · simp [F54, ho, hn, hn', nmB, hk, reserved98] <;> rfl
    · simp [F54, ho, hn, hn', nmB, hk] <;> rfl
include hL
theorem name23 (st : St) (H : Heap) (ho : o < H.length) : callF E1 23 [.ptr o 0] (H.set o (rdS tk en st)) = some (.str (if stB st (nmB tk) then (peek tk st).text else []), H.set o (rdS tk en (if stB st (nmB tk) then adv st else bad st))) := by
  rw [go (fn := F23) rfl rfl rfl]
  have hn := atName54 tk en o st
  have hn' := app hn
  cases hc : stB st (nmB tk) with
  | true =>
    obtain ⟨p, rfl, hp⟩ := stB_true hc
    have hlt := nm_lt tk hp
    have hw := wrap_ic (n := p) (by omega)
    have hw1 := wrap_ic1 (n := p) (by omega)
    have hg := tokAt_get tk hlt
    simp [hp] at hn hn'
    simp [F23, ho, hn, hn', hc, hw, hw1, hg, encT_mk] <;> rfl
  | false =>
    simp [hc] at hn hn'
    simp [F23, ho, hn, hn', hc] <;> rfl
end
end Go.Proofs.Ytkomfefpfalajaa

namespace Go.Proofs.Ytkomfefpfalajaa
open Go Go.Proofs Ab
set_option maxRecDepth 100000
set_option linter.unusedSimpArgs false
set_option linter.unusedVariables false
attribute [simp] encE_mk encEs_nil encEs_cons
theorem operator142 (s : List UInt8) (H : Heap) : callF E1 142 [.str s] H = some (.tup [.int .i64 (if s = [43] then 4 else if s = [45] then 5 else if s = [42] then 6 else if s = [47] then 7 else if s = [37] then 8 else 0), .int .i64 (if s = [43] then 6 else if s = [45] then 6 else if s = [42] then 7 else if s = [47] then 7 else if s = [37] then 7 else 0), .bool false], H) := by
  rw [go (fn := F142) rfl rfl rfl]
  by_cases h1 : s = [43]
  · simp [F142, h1]
  by_cases h2 : s = [45]
  · simp [F142, h2]
  by_cases h3 : s = [42]
  · simp [F142, h3]
  by_cases h4 : s = [47]
  · simp [F142, h4]
  by_cases h5 : s = [37]
  · simp [F142, h5]
  simp [F142, h1, h2, h3, h4, h5]
theorem operator127 (s : List UInt8) (H : Heap) : callF E1 127 [.str s] H = some (.tup [.int .i64 (opOf s).1, .int .i64 (opOf s).2.1, .bool (opOf s).2.2], H) := by
  rw [go (fn := F127) rfl rfl rfl]
  by_cases h1 : s = [124]
  · simp [F127, h1, opOf]
  by_cases h2 : s = [94]
  · simp [F127, h2, opOf]
  by_cases h3 : s = [38]
  · simp [F127, h3, opOf]
  by_cases h4 : s = [61, 61]
  · simp [F127, h4, opOf]
  by_cases h5 : s = [33, 61]
  · simp [F127, h5, opOf]
  by_cases h6 : s = [60]
  · simp [F127, h6, opOf]
  by_cases h7 : s = [60, 61]
  · simp [F127, h7, opOf]
  by_cases h8 : s = [62]
  · simp [F127, h8, opOf]
  by_cases h9 : s = [62, 61]
  · simp [F127, h9, opOf]
  by_cases h10 : s = [60, 60]
  · simp [F127, h10, opOf]
  by_cases h11 : s = [62, 62]
  · simp [F127, h11, opOf]
  by_cases h12 : s = [62, 62, 62]
  · simp [F127, h12, opOf]
  by_cases h13 : s = [43]
  · simp [F127, h13, opOf, operator142]
  by_cases h14 : s = [45]
  · simp [F127, h14, opOf, operator142]
  by_cases h15 : s = [42]
  · simp [F127, h15, opOf, operator142]
  by_cases h16 : s = [47]
  · simp [F127, h16, opOf, operator142]
  by_cases h17 : s = [37]
  · simp [F127, h17, opOf, operator142]
  simp [F127, opOf, operator142, h1, h2, h3, h4, h5, h6, h7, h8, h9, h10, h11, h12, h13, h14, h15, h16, h17]
theorem negative140 (s : List UInt8) (hs : s.length ≤ 20000) (H : Heap) : callF E1 140 [.str s] H = some (.int .i64 (negV s), H) := by
  rw [go (fn := F140) rfl rfl rfl]
  have hp := parse55 (45 :: s) (by simp; omega)
  unfold negV
  cases hw : parseW (45 :: s) with
  | none => simp [F140, hp, hw, tupW]; omega
  | some v => simp [F140, hp, hw, tupW]; omega

section
variable {α : Type}
def runS (f : Nat → Rs α) (st : St) : Rs α := match st with | .ok p => f p | .error p => .error p
def stR (r : Rs α) : St := match r with | .ok (_, q) => .ok q | .error q => .error q
@[simp] theorem runS_ok (f : Nat → Rs α) (p : Nat) : runS f (.ok p) = f p := rfl
@[simp] theorem runS_error (f : Nat → Rs α) (p : Nat) : runS f (.error p) = .error p := rfl
@[simp] theorem stR_ok (v : α) (q : Nat) : stR (.ok (v, q) : Rs α) = .ok q := rfl
@[simp] theorem stR_error (q : Nat) : stR (.error q : Rs α) = .error q := rfl
def valOk (r : Rs α) (v : α) : Prop := ∀ w q, r = .ok (w, q) → v = w
@[simp] theorem valOk_ok (v w : α) (q : Nat) : valOk (.ok (w, q) : Rs α) v = (v = w) := by
  unfold valOk
  simp
@[simp] theorem valOk_error (v : α) (q : Nat) : valOk (.error q : Rs α) v = True := by
  unfold valOk
  simp
end
section
variable (tk : List Tok) (en : Int) (o : Nat) (hL : tk.length < 4611686018427387904) (hT : ∀ p, (tokAt tk p).text.length ≤ 20000)
def Con {α : Type} (f : Nat) (xs : List AV) (enc : α → AV) (P : Nat → Rs α) (st : St) : Prop :=
  ∃ v, (∀ H : Heap, o < H.length → callF E1 f (.ptr o 0 :: xs) (H.set o (rdS tk en st)) = some (enc v, H.set o (rdS tk en (stR (runS P st))))) ∧ valOk (runS P st) v
include hL
theorem bad141 (P : Nat → Rs Ex) (p : Nat) : Con tk en o 141 [] encE P (.error p) := by
  refine ⟨.mk 2 0 [] 0 [], fun H ho => ?_, by simp⟩
  rw [go (fn := F141) rfl rfl rfl]
  have h1 := app (next53' tk en o (.error p))
  have h2 := app (name23 tk en o hL (.error p))
  have h3 := app (accept56 tk en o hL (.error p) [91])
  simp at h2 h3
  simp [F141, ho, h1, h2, h3, Tok.zero] <;> rfl
theorem bad126 (P : Nat → Rs Ex) (p : Nat) : Con tk en o 126 [] encE P (.error p) := by
  obtain ⟨⟨k, n, s, op, ks⟩, hv, -⟩ := bad141 tk en o hL P p
  refine ⟨.mk k n s op ks, fun H ho => ?_, by simp⟩
  rw [go (fn := F126) rfl rfl rfl]
  have h1 := app (accept56 tk en o hL (.error p) [45])
  have h2 := app (accept56 tk en o hL (.error p) [126])
  have h3 := app (accept56 tk en o hL (.error p) [33])
  have h4 := app (accept56 tk en o hL (.error p) [40])
  have h5 := app hv
  simp at h1 h2 h3 h4 h5
  simp [F126, ho, h1, h2, h3, h4, h5] <;> rfl
abbrev zE : Ob := .cells [.int .i64 0, .int .i64 0, .str [], .int .i64 0, .sl .full []]
def leavesC (c : Cap) : Ex → List AV
  | .mk k n s o ks => [.int .i64 k, .int .i64 n, .str s, .int .i64 o, .sl c (encEs ks)]
omit hL in
theorem leavesC_mk (c : Cap) (k n : Int) (s : List UInt8) (o : Int) (ks : List Ex) : leavesC c (.mk k n s o ks) = [.int .i64 k, .int .i64 n, .str s, .int .i64 o, .sl c (encEs ks)] := rfl
omit hL in
theorem loop102_bad (k : Nat) (a : Ex) (c : Cap) (p : Nat) (J : Heap) (s : Slots) (H : Heap) (ho : o < H.length) (s0 : get s 0 = .ptr o 0) (s1 : get s 1 = .int .i64 k) (s4 : get s 4 = .ptr H.length 0) (s5 : get s 5 = .ptr (H.length + 1) 0) :
    ∃ J', blkK (some [4]) 0 (runF E1 H.length false c102_28 s (H.set o (rdS tk en (.error p)) ++ zE :: .cells (leavesC c a) :: J)) = some (.ret, [(4, .ptr H.length 0)], H.set o (rdS tk en (.error p)) ++ .cells (leavesC c a) :: J') := by
  obtain ⟨k', n, w, op, ks⟩ := a
  have h1 := app (next53' tk en o (.error p))
  simp at h1
  rw [q102_28]
  simp [s0, s1, s4, s5, ho, h1, leavesE, leavesC_mk, Tok.zero, operator127]
theorem bad102 (P : Nat → Rs Ex) (p : Nat) : ∀ (j k : Nat), k + j = 8 → Con tk en o 102 [.int .i64 k] encE P (.error p)
  | 0, k, hk => by
    have : k = 8 := by omega
    subst this
    obtain ⟨⟨k, n, s, op, ks⟩, hv, -⟩ := bad126 tk en o hL P p
    refine ⟨.mk k n s op ks, fun H ho => ?_, by simp⟩
    rw [go (fn := F102) rfl rfl rfl]
    have h5 := app hv
    simp at h5
    simp [F102, ho, h5] <;> rfl
  | j + 1, k, hk => by
    obtain ⟨⟨k', n, s, op, ks⟩, hv, -⟩ := bad102 P p j (k + 1) (by omega)
    refine ⟨.mk k' n s op ks, fun H ho => ?_, by simp⟩
    rw [go (fn := F102) rfl rfl rfl]
    have h5 := app hv
    have hw : IntKind.i64.wrap ((k : Int) + 1) = ((k + 1 : Nat) : Int) := wrapR ⟨by omega, by omega⟩
    have hk8 : ¬ ((k : Int) = 8) := by omega
    obtain ⟨J', hl⟩ := loop102_bad tk en o k (.mk k' n s op ks) .none p [] [(0, .ptr o 0), (1, .int .i64 k), (4, .ptr H.length 0), (5, .ptr (H.length + 1) 0)] H ho rfl rfl rfl rfl
    simp [leavesE, leavesC_mk] at h5 hl
    simp [F102, ho, h5, hk8, hw, hl] <;> rfl
theorem bad60 (P : Nat → Rs Ex) (p : Nat) : Con tk en o 60 [] encE P (.error p) := by
  obtain ⟨⟨k, n, s, op, ks⟩, hv, -⟩ := bad102 tk en o hL P p 8 0 rfl
  refine ⟨.mk k n s op ks, fun H ho => ?_, by simp⟩
  rw [go (fn := F60) rfl rfl rfl]
  have h1 := app (accept56 tk en o hL (.error p) [63])
  have h5 := app hv
  simp at h1 h5
  simp [F60, ho, h1, h5] <;> rfl
/-- a symbol, then -/
def expS (st : St) (s : List UInt8) : St := if stB st (symB tk · s) then adv st else bad st
omit hL in
theorem expS_eq (st : St) (s : List UInt8) : (if stB st (symB tk · s) = true then adv st else bad st) = expS tk st s := rfl
omit hL in
theorem expS_ok (p : Nat) (s : List UInt8) : expS tk (.ok p) s = match expectP tk p s with | .ok q => .ok q | .error q => .error q := by
  unfold expS expectP
  cases h : symB tk p s <;> simp [h]
omit hL in
theorem expS_error (p : Nat) (s : List UInt8) : expS tk (.error p) s = .error p := by
  unfold expS
  simp
include hT
theorem good141 (n p : Nat) (hE : p < tk.length → ∀ st, (∀ q, st = .ok q → p < q) → Con tk en o 60 [] encE (exprP tk n) st) : Con tk en o 141 [] encE (primP tk (n + 1)) (.ok p) := by
  have h1 := app (next53' tk en o (.ok p))
  have h2 := app (name23 tk en o hL (.ok p))
  simp at h1
  by_cases hk : (tokAt tk p).kind = 2
  · have hlt := kind_lt tk (p := p) (by omega)
    have hw := wrap_ic (n := p) (by omega)
    have h5 := parse55 (tokAt tk p).text (by have := hT p; omega)
    have hn : numB tk p = true := by simp [numB, hk]
    cases hq : parseW (tokAt tk p).text with
    | none =>
      have hr : primP tk (n + 1) p = .error p := by simp [primP, hn, hq]
      refine ⟨.mk 0 0 [] 0 [], fun H ho => ?_, by simp [hr]⟩
      rw [go (fn := F141) rfl rfl rfl]
      simp [F141, ho, h1, hk, h5, hq, tupW, hr] <;> rfl
    | some v =>
      have hr : primP tk (n + 1) p = .ok (numE v, p + 1) := by simp [primP, hn, hq]
      refine ⟨numE v, fun H ho => ?_, by simp [hr]⟩
      rw [go (fn := F141) rfl rfl rfl]
      simp [F141, ho, h1, hk, h5, hq, tupW, hr, hw, numE] <;> rfl
  · have hn : numB tk p = false := by simp [numB, hk]
    cases hb : nmB tk p with
    | false =>
      have hr : primP tk (n + 1) p = .error p := by simp [primP, hn, hb, nameP]
      have h3 := app (accept56 tk en o hL (.error p) [91])
      simp [hb] at h2 h3
      refine ⟨.mk 2 0 [] 0 [], fun H ho => ?_, by simp [hr]⟩
      rw [go (fn := F141) rfl rfl rfl]
      simp [F141, ho, h1, hk, h2, h3, hr] <;> rfl
    | true =>
      have h3 := app (accept56 tk en o hL (.ok (p + 1)) [91])
      simp [hb] at h2
      cases hs : symB tk (p + 1) [91] with
      | false =>
        have hr : primP tk (n + 1) p = .ok (varE (tokAt tk p).text, p + 1) := by simp [primP, hn, hb, nameP, hs]
        simp [hs] at h3
        refine ⟨varE (tokAt tk p).text, fun H ho => ?_, by simp [hr]⟩
        rw [go (fn := F141) rfl rfl rfl]
        simp [F141, ho, h1, hk, h2, h3, hr, varE] <;> rfl
      | true =>
        obtain ⟨⟨k, m, w, op, ks⟩, hv, hval⟩ := hE (nm_lt tk hb) (.ok (p + 1 + 1)) (by intro q hq; cases hq; omega)
        have h4 := fun st => app (expect25 tk en o hL st [93])
        have hv' := app hv
        have hst : stR (primP tk (n + 1) p) = expS tk (stR (exprP tk n (p + 1 + 1))) [93] := by
          simp [primP, hn, hb, nameP, hs]
          rcases hx : exprP tk n (p + 1 + 1) with q | ⟨v, q⟩
          · simp [expS_error]
          · simp [expS_ok]
            cases expectP tk q [93] <;> simp
        simp [hs, expS_eq] at h3 h4 hv'
        refine ⟨ixE (tokAt tk p).text (.mk k m w op ks), fun H ho => ?_, ?_⟩
        · rw [go (fn := F141) rfl rfl rfl]
          simp [F141, ho, h1, hk, h2, h3, h4, hv', hst, ixE] <;> rfl
        · simp [primP, hn, hb, nameP, hs]
          simp at hval
          cases hx : exprP tk n (p + 1 + 1) with
          | error q => simp
          | ok r =>
            obtain ⟨v, q⟩ := r
            simp [hx] at hval
            subst hval
            simp
            cases expectP tk q [93] <;> simp
theorem good126 (n p : Nat) (hE : p < tk.length → ∀ st, (∀ q, st = .ok q → p < q) → Con tk en o 60 [] encE (exprP tk n) st) (hU : p < tk.length → ∀ st, (∀ q, st = .ok q → p < q) → Con tk en o 126 [] encE (unaryP tk n) st)
    (hP : Con tk en o 141 [] encE (primP tk n) (.ok p)) : Con tk en o 126 [] encE (unaryP tk (n + 1)) (.ok p) := by
  have h1 := app (accept56 tk en o hL (.ok p) [45])
  have h2 := app (accept56 tk en o hL (.ok p) [126])
  have h3 := app (accept56 tk en o hL (.ok p) [33])
  have h4 := app (accept56 tk en o hL (.ok p) [40])
  cases hs1 : symB tk p [45] with
  | true =>
    simp [hs1] at h1
    have hlt := sym_lt tk hs1
    have h5 := app (next53' tk en o (.ok (p + 1)))
    simp at h5
    by_cases hk : (tokAt tk (p + 1)).kind = 2
    · have hlt := kind_lt tk (p := p + 1) (by omega)
      have hw := wrap_ic (n := p + 1) (by omega)
      have hn : numB tk (p + 1) = true := by simp [numB, hk]
      have hg := negative140 (tokAt tk (p + 1)).text (hT (p + 1))
      have hr : unaryP tk (n + 1) p = .ok (numE (negV (tokAt tk (p + 1)).text), p + 1 + 1) := by simp [unaryP, hs1, hn]
      refine ⟨numE (negV (tokAt tk (p + 1)).text), fun H ho => ?_, by simp [hr]⟩
      rw [go (fn := F126) rfl rfl rfl]
      simp [F126, ho, h1, h5, hk, hw, hg, hr, numE] <;> rfl
    · have hn : numB tk (p + 1) = false := by simp [numB, hk]
      obtain ⟨⟨k, m, w, op, ks⟩, hv, hval⟩ := hU (sym_lt tk hs1) (.ok (p + 1)) (by intro q hq; cases hq; omega)
      have hv' := app hv
      simp at hv' hval
      have hst : stR (unaryP tk (n + 1) p) = stR (unaryP tk n (p + 1)) := by
        simp [unaryP, hs1, hn]
        rcases unaryP tk n (p + 1) with q | ⟨v, q⟩ <;> simp
      refine ⟨opE 20 [.mk k m w op ks], fun H ho => ?_, ?_⟩
      · rw [go (fn := F126) rfl rfl rfl]
        simp [F126, ho, h1, h5, hk, hv', hst, opE] <;> rfl
      · simp [unaryP, hs1, hn]
        rcases hx : unaryP tk n (p + 1) with q | ⟨v, q⟩
        · simp
        · simp [hx] at hval
          simp [hval]
  | false =>
  cases hs2 : symB tk p [126] with
  | true =>
    simp [hs1] at h1
    simp [hs2] at h2
    obtain ⟨⟨k, m, w, op, ks⟩, hv, hval⟩ := hU (sym_lt tk hs2) (.ok (p + 1)) (by intro q hq; cases hq; omega)
    have hv' := app hv
    simp at hv' hval
    have hst : stR (unaryP tk (n + 1) p) = stR (unaryP tk n (p + 1)) := by
      simp [unaryP, hs1, hs2]
      rcases unaryP tk n (p + 1) with q | ⟨v, q⟩ <;> simp
    refine ⟨opE 21 [.mk k m w op ks], fun H ho => ?_, ?_⟩
    · rw [go (fn := F126) rfl rfl rfl]
      simp [F126, ho, h1, h2, hv', hst, opE] <;> rfl
    · simp [unaryP, hs1, hs2]
      rcases hx : unaryP tk n (p + 1) with q | ⟨v, q⟩
      · simp
      · simp [hx] at hval
        simp [hval]
  | false =>
  cases hs3 : symB tk p [33] with
  | true =>
    simp [hs1] at h1
    simp [hs2] at h2
    simp [hs3] at h3
    obtain ⟨⟨k, m, w, op, ks⟩, hv, hval⟩ := hU (sym_lt tk hs3) (.ok (p + 1)) (by intro q hq; cases hq; omega)
    have hv' := app hv
    simp at hv' hval
    have hst : stR (unaryP tk (n + 1) p) = stR (unaryP tk n (p + 1)) := by
      simp [unaryP, hs1, hs2, hs3]
      rcases unaryP tk n (p + 1) with q | ⟨v, q⟩ <;> simp
    refine ⟨opE 15 [.mk k m w op ks, numE 0], fun H ho => ?_, ?_⟩
    · rw [go (fn := F126) rfl rfl rfl]
      simp [F126, ho, h1, h2, h3, hv', hst, opE, numE] <;> rfl
    · simp [unaryP, hs1, hs2, hs3]
      rcases hx : unaryP tk n (p + 1) with q | ⟨v, q⟩
      · simp
      · simp [hx] at hval
        simp [hval]
  | false =>
  cases hs4 : symB tk p [40] with
  | true =>
    simp [hs1] at h1
    simp [hs2] at h2
    simp [hs3] at h3
    simp [hs4] at h4
    obtain ⟨⟨k, m, w, op, ks⟩, hv, hval⟩ := hE (sym_lt tk hs4) (.ok (p + 1)) (by intro q hq; cases hq; omega)
    have h5 := fun st => app (expect25 tk en o hL st [41])
    have hv' := app hv
    have hst : stR (unaryP tk (n + 1) p) = expS tk (stR (exprP tk n (p + 1))) [41] := by
      simp [unaryP, hs1, hs2, hs3, hs4]
      rcases hx : exprP tk n (p + 1) with q | ⟨v, q⟩
      · simp [expS_error]
      · simp [expS_ok]
        cases expectP tk q [41] <;> simp
    simp [expS_eq] at h5 hv' hval
    refine ⟨.mk k m w op ks, fun H ho => ?_, ?_⟩
    · rw [go (fn := F126) rfl rfl rfl]
      simp [F126, ho, h1, h2, h3, h4, h5, hv', hst] <;> rfl
    · simp [unaryP, hs1, hs2, hs3, hs4]
      rcases hx : exprP tk n (p + 1) with q | ⟨v, q⟩
      · simp
      · simp [hx] at hval
        simp [hval]
        cases expectP tk q [41] <;> simp
  | false =>
    simp [hs1] at h1
    simp [hs2] at h2
    simp [hs3] at h3
    simp [hs4] at h4
    obtain ⟨⟨k, m, w, op, ks⟩, hv, hval⟩ := hP
    have hv' := app hv
    simp at hv' hval
    have hr : unaryP tk (n + 1) p = primP tk n p := by simp [unaryP, hs1, hs2, hs3, hs4]
    refine ⟨.mk k m w op ks, fun H ho => ?_, by simpa [hr] using hval⟩
    rw [go (fn := F126) rfl rfl rfl]
    simp [F126, ho, h1, h2, h3, h4, hv', hr] <;> rfl
end
end Go.Proofs.Ytkomfefpfalajaa

namespace Go.Proofs.Ytkomfefpfalajaa
open Go Go.Proofs Ab
set_option maxRecDepth 100000
set_option linter.unusedSimpArgs false
set_option linter.unusedVariables false
section
variable (tk : List Tok) (en : Int) (o : Nat) (hL : tk.length < 4611686018427387904) (hT : ∀ p, (tokAt tk p).text.length ≤ 20000)
def LoopC (n k : Nat) (p : Nat) : Prop := ∀ (a : Ex), ∃ v, valOk (loopP tk n k a p) v ∧ ∀ (c : Cap) (J : Heap) (s : Slots) (H : Heap), o < H.length → get s 0 = .ptr o 0 → get s 1 = .int .i64 k → get s 4 = .ptr H.length 0 → get s 5 = .ptr (H.length + 1) 0 →
    ∃ c' J', blkK (some [4]) 0 (runF E1 H.length false c102_28 s (H.set o (rdS tk en (.ok p)) ++ zE :: .cells (leavesC c a) :: J)) = some (.ret, [(4, .ptr H.length 0)], H.set o (rdS tk en (stR (loopP tk n k a p))) ++ .cells (leavesC c' v) :: J')
include hL
theorem loop102_step (n k p : Nat) (hk : k < 8) (hB : p < tk.length → Con tk en o 102 [.int .i64 (k + 1 : Nat)] encE (binP tk n (k + 1)) (.ok (p + 1)))
    (hN : ∀ v q, p < tk.length → binP tk n (k + 1) (p + 1) = .ok (v, q) → LoopC tk en o n k q) : LoopC tk en o (n + 1) k p := by
  intro a
  obtain ⟨k', m, w, op, ks⟩ := a
  have h1 := app (next53' tk en o (.ok p))
  simp at h1
  by_cases hc : (tokAt tk p).kind = 3 ∧ (opOf (tokAt tk p).text).1 ≠ 0 ∧ (opOf (tokAt tk p).text).2.1 = (k : Int)
  · have hlt := kind_lt tk (p := p) (by omega)
    have hw := wrap_ic (n := p) (by omega)
    have hw1 : IntKind.i64.wrap ((k : Int) + 1) = ((k + 1 : Nat) : Int) := wrapR ⟨by omega, by omega⟩
    obtain ⟨⟨k2, m2, w2, op2, ks2⟩, hv, hval⟩ := hB hlt
    have hv' := app hv
    simp at hv' hval
    have hv2 : ∀ (H X : Heap), o < H.length → callF E1 102 [.ptr o 0, .int .i64 ((k : Int) + 1)] (H.set o (rd tk en (p + 1) false) ++ X) = some (.agg [.int .i64 k2, .int .i64 m2, .str w2, .int .i64 op2, .sl .none (encEs ks2)], H.set o (rdS tk en (stR (binP tk n (k + 1) (p + 1)))) ++ X) := hv'
    have hr : loopP tk (n + 1) k (.mk k' m w op ks) p = match binP tk n (k + 1) (p + 1) with
      | .error q => .error q
      | .ok (b, p1) => loopP tk n k (opE (opOf (tokAt tk p).text).1 (if (opOf (tokAt tk p).text).2.2 then [b, .mk k' m w op ks] else [.mk k' m w op ks, b])) p1 := by
      rw [loopP, if_pos hc]
      rcases binP tk n (k + 1) (p + 1) with q | ⟨b, q⟩ <;> rfl
    obtain ⟨e1, e2, e3⟩ := hc
    rw [hr]
    let a' := opE (opOf (tokAt tk p).text).1 (if (opOf (tokAt tk p).text).2.2 then [.mk k2 m2 w2 op2 ks2, .mk k' m w op ks] else [.mk k' m w op ks, .mk k2 m2 w2 op2 ks2])
    have hstep : ∀ (c : Cap) (J : Heap) (s : Slots) (H : Heap), o < H.length → get s 0 = .ptr o 0 → get s 1 = .int .i64 k → get s 4 = .ptr H.length 0 → get s 5 = .ptr (H.length + 1) 0 →
      ∃ J2, blkK (some [4]) 0 (runF E1 H.length false c102_28 s (H.set o (rdS tk en (.ok p)) ++ zE :: .cells (leavesC c (.mk k' m w op ks)) :: J)) =
          blkK (some [4]) 0 (runF E1 H.length false c102_28 [(0, .ptr o 0), (1, .int .i64 k), (4, .ptr H.length 0), (5, .ptr (H.length + 1) 0)] (H.set o (rdS tk en (stR (binP tk n (k + 1) (p + 1)))) ++ zE :: .cells (leavesC .full a') :: J2)) := by
      intro c J s H ho s0 s1 s4 s5
      rw [q102_28 (s := s)]
      cases ht : (opOf (tokAt tk p).text).2.2 with
      | true =>
        refine ⟨J ++ [.cells [.int .i64 3, .str (tokAt tk p).text, .int .i64 (tokAt tk p).pos], .cells [.int .i64 k', .int .i64 m, .str w, .int .i64 op, .sl c (encEs ks)]], ?_⟩
        simp [s0, s1, s4, s5, ho, h1, leavesE, leavesC_mk, operator127, e1, e2, e3, ht, hw, hw1, hv2, a', opE]
      | false =>
        refine ⟨J ++ [.cells [.int .i64 3, .str (tokAt tk p).text, .int .i64 (tokAt tk p).pos], .cells [.int .i64 k2, .int .i64 m2, .str w2, .int .i64 op2, .sl .none (encEs ks2)]], ?_⟩
        simp [s0, s1, s4, s5, ho, h1, leavesE, leavesC_mk, operator127, e1, e2, e3, ht, hw, hw1, hv2, a', opE]
    rcases hx : binP tk n (k + 1) (p + 1) with q | ⟨b, q⟩
    · refine ⟨a', by simp, ?_⟩
      intro c J s H ho s0 s1 s4 s5
      obtain ⟨J2, hs⟩ := hstep c J s H ho s0 s1 s4 s5
      obtain ⟨J', hb⟩ := loop102_bad tk en o k a' .full q J2 [(0, .ptr o 0), (1, .int .i64 k), (4, .ptr H.length 0), (5, .ptr (H.length + 1) 0)] H ho rfl rfl rfl rfl
      rw [hs, hx]
      exact ⟨.full, J', by simpa using hb⟩
    · simp [hx] at hval
      subst hval
      obtain ⟨v, hv, hN⟩ := hN _ q hlt hx a'
      refine ⟨v, by simpa using hv, ?_⟩
      intro c J s H ho s0 s1 s4 s5
      obtain ⟨J2, hs⟩ := hstep c J s H ho s0 s1 s4 s5
      obtain ⟨c', J', hb⟩ := hN .full J2 [(0, .ptr o 0), (1, .int .i64 k), (4, .ptr H.length 0), (5, .ptr (H.length + 1) 0)] H ho rfl rfl rfl rfl
      rw [hs, hx]
      exact ⟨c', J', by simpa using hb⟩
  · have hr : loopP tk (n + 1) k (.mk k' m w op ks) p = .ok (.mk k' m w op ks, p) := by
      rw [loopP, if_neg hc]
    rw [hr]
    refine ⟨.mk k' m w op ks, by simp, ?_⟩
    intro c J s H ho s0 s1 s4 s5
    refine ⟨c, ?_⟩
    rw [q102_28]
    by_cases e1 : (tokAt tk p).kind = 3
    · by_cases e2 : (opOf (tokAt tk p).text).1 = 0
      · simp [s0, s1, s4, s5, ho, h1, leavesE, leavesC_mk, operator127, e1, e2]
      · have e3 : ¬ ((opOf (tokAt tk p).text).2.1 = (k : Int)) := fun h => hc ⟨e1, e2, h⟩
        simp [s0, s1, s4, s5, ho, h1, leavesE, leavesC_mk, operator127, e1, e2, e3]
    · simp [s0, s1, s4, s5, ho, h1, leavesE, leavesC_mk, operator127, e1]
theorem good102 (n k p : Nat) (hk : k < 8) (hB : Con tk en o 102 [.int .i64 (k + 1 : Nat)] encE (binP tk n (k + 1)) (.ok p)) (hN : ∀ v q, binP tk n (k + 1) p = .ok (v, q) → LoopC tk en o n k q) :
    Con tk en o 102 [.int .i64 k] encE (binP tk (n + 1) k) (.ok p) := by
  have _ := hL
  obtain ⟨⟨k2, m2, w2, op2, ks2⟩, hv, hval⟩ := hB
  have hv' := app hv
  have hw : IntKind.i64.wrap ((k : Int) + 1) = ((k + 1 : Nat) : Int) := wrapR ⟨by omega, by omega⟩
  have hk8 : ¬ ((k : Int) = 8) := by omega
  have hk8' : ¬ (k = 8) := by omega
  simp at hv' hval
  rcases hx : binP tk n (k + 1) p with q | ⟨b, q⟩
  · have hr : binP tk (n + 1) k p = .error q := by rw [binP, if_neg hk8', hx]
    refine ⟨.mk k2 m2 w2 op2 ks2, fun H ho => ?_, by simp [hr]⟩
    obtain ⟨J', hl⟩ := loop102_bad tk en o k (.mk k2 m2 w2 op2 ks2) .none q [] [(0, .ptr o 0), (1, .int .i64 k), (4, .ptr H.length 0), (5, .ptr (H.length + 1) 0)] H ho rfl rfl rfl rfl
    rw [go (fn := F102) rfl rfl rfl]
    simp [hx] at hv'
    simp [leavesE, leavesC_mk] at hl
    simp [F102, ho, hv', hk8, hw, hl, hr] <;> rfl
  · have hr : binP tk (n + 1) k p = loopP tk n k b q := by rw [binP, if_neg hk8', hx]
    simp [hx] at hv' hval
    subst hval
    obtain ⟨⟨k3, m3, w3, op3, ks3⟩, hval3, hN⟩ := hN _ q hx (.mk k2 m2 w2 op2 ks2)
    refine ⟨.mk k3 m3 w3 op3 ks3, fun H ho => ?_, by simpa [hr] using hval3⟩
    obtain ⟨c', J', hl⟩ := hN .none [] [(0, .ptr o 0), (1, .int .i64 k), (4, .ptr H.length 0), (5, .ptr (H.length + 1) 0)] H ho rfl rfl rfl rfl
    rw [go (fn := F102) rfl rfl rfl]
    simp [leavesE, leavesC_mk] at hl
    simp [F102, ho, hv', hk8, hw, hl, hr] <;> rfl
theorem good102_8 (n p : Nat) (hB : Con tk en o 126 [] encE (unaryP tk n) (.ok p)) : Con tk en o 102 [.int .i64 8] encE (binP tk (n + 1) 8) (.ok p) := by
  have _ := hL
  obtain ⟨⟨k2, m2, w2, op2, ks2⟩, hv, hval⟩ := hB
  have hv' := app hv
  simp at hv' hval
  have hr : binP tk (n + 1) 8 p = unaryP tk n p := by rw [binP, if_pos rfl]
  refine ⟨.mk k2 m2 w2 op2 ks2, fun H ho => ?_, by simpa [hr] using hval⟩
  rw [go (fn := F102) rfl rfl rfl]
  simp [F102, ho, hv', hr] <;> rfl
theorem good60 (n p : Nat) (hB : Con tk en o 102 [.int .i64 0] encE (binP tk n 0) (.ok p)) (hE : ∀ v q st, binP tk n 0 p = .ok (v, q) → q < tk.length → (∀ r, st = .ok r → q < r) → Con tk en o 60 [] encE (exprP tk n) st) :
    Con tk en o 60 [] encE (exprP tk (n + 1)) (.ok p) := by
  obtain ⟨⟨k, m, w, op, ks⟩, hv, hval⟩ := hB
  have hv' := app hv
  simp at hv' hval
  rcases hx : binP tk n 0 p with q | ⟨c, p1⟩
  · have hr : exprP tk (n + 1) p = .error q := by rw [exprP, hx]
    refine ⟨.mk k m w op ks, fun H ho => ?_, by simp [hr]⟩
    have h1 := app (accept56 tk en o hL (.error q) [63])
    simp [hx] at hv' h1
    rw [go (fn := F60) rfl rfl rfl]
    simp [F60, ho, hv', h1, hr] <;> rfl
  · simp [hx] at hval hv'
    subst hval
    have h1 := app (accept56 tk en o hL (.ok p1) [63])
    cases hs : symB tk p1 [63] with
    | false =>
      have hr : exprP tk (n + 1) p = .ok (.mk k m w op ks, p1) := by rw [exprP, hx]; simp [hs]
      refine ⟨.mk k m w op ks, fun H ho => ?_, by simp [hr]⟩
      simp [hs] at h1
      rw [go (fn := F60) rfl rfl rfl]
      simp [F60, ho, hv', h1, hr] <;> rfl
    | true =>
      simp [hs] at h1
      obtain ⟨⟨k2, m2, w2, op2, ks2⟩, hv2, hval2⟩ := hE _ p1 (.ok (p1 + 1)) hx (sym_lt tk hs) (by intro r hr; cases hr; omega)
      have hv2' := app hv2
      simp at hv2' hval2
      have h3 := fun st => app (expect25 tk en o hL st [58])
      simp [expS_eq] at h3
      have hst : stR (exprP tk (n + 1) p) = stR (runS (exprP tk n) (expS tk (stR (exprP tk n (p1 + 1))) [58])) := by
        rw [exprP, hx]
        simp [hs]
        rcases hy : exprP tk n (p1 + 1) with q | ⟨a, p2⟩
        · simp [expS_error]
        · simp [expS_ok]
          rcases expectP tk p2 [58] with q | p3
          · simp
          · simp
            rcases exprP tk n p3 with q | ⟨b, p4⟩ <;> simp
      have h4 : Con tk en o 60 [] encE (exprP tk n) (expS tk (stR (exprP tk n (p1 + 1))) [58]) := by
        rcases hy : exprP tk n (p1 + 1) with q | ⟨a, p2⟩
        · simp [expS_error]
          exact bad60 tk en o hL _ q
        · simp [expS_ok]
          rcases hz : expectP tk p2 [58] with q | p3
          · exact bad60 tk en o hL _ q
          · exact hE _ p1 _ hx (sym_lt tk hs) (by intro r hr; cases hr; have := (prog tk n).1 _ _ _ hy; have := (expectP_ok tk hz).2; omega)
      obtain ⟨⟨k3, m3, w3, op3, ks3⟩, hv3, hval3⟩ := h4
      have hv3' := app hv3
      simp at hv3'
      refine ⟨condE (.mk k m w op ks) (.mk k2 m2 w2 op2 ks2) (.mk k3 m3 w3 op3 ks3), fun H ho => ?_, ?_⟩
      · rw [go (fn := F60) rfl rfl rfl]
        simp [F60, ho, hv', h1, hv2', h3, hv3', hst, condE] <;> rfl
      · simp
        rw [exprP, hx]
        simp [hs]
        rcases hy : exprP tk n (p1 + 1) with q | ⟨a, p2⟩
        · simp
        · simp [hy, expS_ok] at hval2 hval3
          subst hval2
          simp
          rcases hz : expectP tk p2 [58] with q | p3
          · simp
          · simp [hz] at hval3
            simp
            rcases hu : exprP tk n p3 with q | ⟨b, p4⟩
            · simp
            · simp [hu] at hval3
              simp [hval3]
def fuelS (st : St) (r n : Nat) : Prop := ∀ p, st = .ok p → 40 * (tk.length - p) + r ≤ n
include hT
theorem exprAll : ∀ n, (∀ st, fuelS tk st 12 n → Con tk en o 60 [] encE (exprP tk n) st) ∧ (∀ k, k ≤ 8 → ∀ st, fuelS tk st (11 - k) n → Con tk en o 102 [.int .i64 k] encE (binP tk n k) st) ∧ (∀ k, k < 8 → ∀ p, 40 * (tk.length - p) + 1 ≤ n → LoopC tk en o n k p)
    ∧ (∀ st, fuelS tk st 2 n → Con tk en o 126 [] encE (unaryP tk n) st) ∧ (∀ st, fuelS tk st 1 n → Con tk en o 141 [] encE (primP tk n) st)
  | 0 => by
    refine ⟨?_, ?_, ?_, ?_, ?_⟩
    · intro st hf
      cases st with
      | error p => exact bad60 tk en o hL _ p
      | ok p => have := hf p rfl; omega
    · intro k hk st hf
      cases st with
      | error p => exact bad102 tk en o hL _ p (8 - k) k (by omega)
      | ok p => have := hf p rfl; omega
    · intro k hk p hf
      omega
    · intro st hf
      cases st with
      | error p => exact bad126 tk en o hL _ p
      | ok p => have := hf p rfl; omega
    · intro st hf
      cases st with
      | error p => exact bad141 tk en o hL _ p
      | ok p => have := hf p rfl; omega
  | n + 1 => by
    obtain ⟨hE, hB, hLp, hU, hP⟩ := exprAll n
    refine ⟨?_, ?_, ?_, ?_, ?_⟩
    · intro st hf
      cases st with
      | error p => exact bad60 tk en o hL _ p
      | ok p =>
        have := hf p rfl
        refine good60 tk en o hL n p (hB 0 (by omega) _ (by intro q hq; cases hq; omega)) ?_
        intro v q st hq hlt hst
        have := (prog tk n).2.1 _ _ _ _ hq
        exact hE _ (by intro r hr; have := hst r hr; omega)
    · intro k hk st hf
      cases st with
      | error p => exact bad102 tk en o hL _ p (8 - k) k (by omega)
      | ok p =>
        have := hf p rfl
        by_cases hk8 : k = 8
        · subst hk8
          exact good102_8 tk en o hL n p (hU _ (by intro q hq; cases hq; omega))
        · refine good102 tk en o hL n k p (by omega) (hB (k + 1) (by omega) _ (by intro q hq; cases hq; omega)) ?_
          intro v q hq
          have := (prog tk n).2.1 _ _ _ _ hq
          exact hLp k (by omega) q (by omega)
    · intro k hk p hf
      refine loop102_step tk en o hL n k p hk ?_ ?_
      · intro hlt
        exact hB (k + 1) (by omega) _ (by intro q hq; cases hq; omega)
      · intro v q hlt hq
        have := (prog tk n).2.1 _ _ _ _ hq
        exact hLp k hk q (by omega)
    · intro st hf
      cases st with
      | error p => exact bad126 tk en o hL _ p
      | ok p =>
        have := hf p rfl
        refine good126 tk en o hL hT n p ?_ ?_ (hP _ (by intro q hq; cases hq; omega))
        · intro hlt st hst
          exact hE _ (by intro r hr; have := hst r hr; omega)
        · intro hlt st hst
          exact hU _ (by intro r hr; have := hst r hr; omega)
    · intro st hf
      cases st with
      | error p => exact bad141 tk en o hL _ p
      | ok p =>
        have := hf p rfl
        refine good141 tk en o hL hT n p ?_
        intro hlt st hst
        exact hE _ (by intro r hr; have := hst r hr; omega)
end
end Go.Proofs.Ytkomfefpfalajaa
