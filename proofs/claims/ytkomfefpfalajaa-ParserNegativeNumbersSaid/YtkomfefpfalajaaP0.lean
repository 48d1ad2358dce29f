/- word.Parse reads a word. -/
import Derived.Test.YtkomfefpfalajaaQ0
import Derived.Test.YtkomfefpfalajaaExRun
import Derived.Test.YtkomfefpfalajaaAb7
namespace Go.Proofs.Ytkomfefpfalajaa
open Go Go.Proofs Ab
set_option maxRecDepth 100000
set_option linter.unusedSimpArgs false
set_option linter.unusedVariables false
theorem loop55 (t : List UInt8) (b : AV) (hl : t.length < 100) (n0 : Nat) (h : Heap) : ∀ (r : List UInt8) (k v : Nat) (s : Slots), t.drop k = r → k + r.length = t.length → (v + 1) * 10 ^ r.length ≤ 10 ^ 19 → get s 4 = .str t → get s 5 = b → get s 6 = .int .u64 v → get s 7 = .int .i64 k →
    blkK (some [5, 6]) 0 (runF E1 n0 false c55_28 s h) = if r.all isDec = true then some (.nrm, [(5, b), (6, .int .u64 (numOf v r))], h) else some (.ret, [(2, .int .i64 0), (3, .bool false)], h)
  | [], k, v, s, hd, hk, hv, h4, h5, h6, h7 => by
    have hn : ¬ ((k : Int) < t.length) := by simp at hk; omega
    rw [q55_28]
    simp [h4, h5, h6, h7, hn, numOf_nil]
  | c :: r, k, v, s, hd, hk, hv, h4, h5, h6, h7 => by
    simp only [List.length_cons] at hk
    have hlt : (k : Int) < t.length := by omega
    have hx : t[k]? = some c := by
      have := congrArg (fun l => l[0]?) hd
      simpa using this
    have hd' : t.drop (k + 1) = r := by
      have := congrArg List.tail hd
      simpa using this
    have hw : IntKind.i64.wrap ((k : Int) + 1) = (k : Int) + 1 := wrapR ⟨by omega, by omega⟩
    rw [q55_28]
    by_cases hc : isDec c = true
    · have hc' := isDec_iff.1 hc
      have c1 : ¬ (c.toNat : Int) < 48 := by omega
      have c2 : ¬ (57 : Int) < c.toNat := by omega
      have hp : (10 * v + (c.toNat - 48) + 1) * 10 ^ r.length ≤ 10 ^ 19 := by
        refine Nat.le_trans ?_ hv
        rw [List.length_cons, Nat.pow_succ, Nat.mul_comm (10 ^ r.length) 10, ← Nat.mul_assoc]
        exact Nat.mul_le_mul_right _ (by omega)
      have hp2 : 10 * v + (c.toNat - 48) + 1 ≤ 10 ^ 19 := Nat.le_trans (Nat.le_mul_of_pos_right _ (Nat.pow_pos (by omega))) hp
      have w1 : IntKind.u64.wrap (10 * (v : Int)) = 10 * (v : Int) := wrapU (by omega) (by omega)
      have w2 : IntKind.u8.wrap ((c.toNat : Int) - 48) = (c.toNat : Int) - 48 := wrap8 (by omega) (by omega)
      have w3 : IntKind.u64.wrap ((c.toNat : Int) - 48) = (c.toNat : Int) - 48 := wrapU (by omega) (by omega)
      have w4 : IntKind.u64.wrap (10 * (v : Int) + ((c.toNat : Int) - 48)) = 10 * (v : Int) + ((c.toNat - 48 : Nat) : Int) := by
        rw [wrapU (by omega) (by omega)]; omega
      have ih := loop55 t b hl n0 h r (k + 1) (10 * v + (c.toNat - 48)) [(4, .str t), (5, b), (6, .int .u64 ((10 * v + (c.toNat - 48) : Nat) : Int)), (7, .int .i64 ((k + 1 : Nat) : Int))] hd' (by omega) hp rfl rfl rfl rfl
      simp at ih
      simp [h4, h5, h6, h7, hlt, hx, hw, c1, c2, w1, w2, w3, w4, ih, hc, numOf_cons, -getElem?_pos]
    · have hc' : ¬ (48 ≤ c.toNat ∧ c.toNat ≤ 57) := fun h => hc (isDec_iff.2 h)
      by_cases c1 : (c.toNat : Int) < 48
      · simp [h4, h5, h6, h7, hlt, hx, c1, hc, -getElem?_pos]
      · have c2 : (57 : Int) < c.toNat := by omega
        simp [h4, h5, h6, h7, hlt, hx, c1, c2, hc, -getElem?_pos]
def tupW : Option Int → AV
  | some v => .tup [.int .i64 v, .bool true]
  | none => .tup [.int .i64 0, .bool false]
theorem parse55 (s : List UInt8) (hs : s.length < 4611686018427387904) (H : Heap) : callF E1 55 [.str s] H = some (tupW (parseW s), H) := by
  rw [go (fn := F55) rfl rfl rfl]
  have main : ∀ (t : List UInt8) (b : Bool), t.length < 4611686018427387904 → ∀ st, get st 4 = .str t → get st 5 = .bool b →
      finK F55 H.length (runF E1 H.length false c55_54 st H) = some (tupW (if t.all isDec = true ∧ t ≠ [] ∧ t.length ≤ 19 ∧ (t.head? ≠ some 48 ∨ (t.length = 1 ∧ b = false)) ∧ numOf 0 t ≤ (if b then 9223372036854775808 else 9223372036854775807) then some (if b then -(numOf 0 t : Int) else numOf 0 t) else none), H) := by
    intro t b ht st h4 h5
    by_cases hl : t.length ≤ 19
    · cases t with
      | nil => simp [F55, h4, h5, tupW]
      | cons c r =>
        have hlt : ¬ ((r.length : Int) + 1 < 1) := by omega
        simp only [List.length_cons] at hl
        have hgt : ¬ ((19 : Int) < (r.length : Int) + 1) := by omega
        have hlp := loop55 (c :: r) (.bool b) (by simp; omega) H.length H (c :: r) 0 0 [(4, .str (c :: r)), (5, .bool b), (6, .int .u64 (0 : Nat)), (7, .int .i64 (0 : Nat))] rfl (by simp) (by rw [Nat.zero_add, Nat.one_mul]; exact Nat.pow_le_pow_right (by omega) (by simp; omega)) rfl rfl rfl rfl
        have hnum : (c :: r).all isDec = true → numOf 0 (c :: r) < 10 ^ 19 := fun hd => by
          have := numOf_lt 0 (c :: r) (List.all_eq_true.1 hd)
          rw [Nat.zero_add, Nat.one_mul] at this
          exact Nat.lt_of_lt_of_le this (Nat.pow_le_pow_right (by omega) (by simp; omega))
        have e48 : ((c.toNat : Int) = 48) = (c = 48) := propext (u8_eq (c := c) (d := 48))
        simp only [Int.natCast_zero] at hlp
        by_cases hz : c = 48 ∧ (0 < r.length ∨ b = true)
        · obtain ⟨hz1, hz2⟩ := hz
          have hno : ¬ ((c :: r).head? ≠ some 48 ∨ ((c :: r).length = 1 ∧ b = false)) := by
            subst hz1
            rcases hz2 with h | h <;> simp <;> intros <;> simp_all
          simp only [hno, false_and, and_false, if_false, tupW]
          subst hz1
          by_cases hr : 0 < r.length
          · have hr' : (0 : Int) < r.length := by omega
            have hr2 : (1 : Int) < (r.length : Int) + 1 := by omega
            simp [F55, h4, h5, hlt, hgt, hr', hr2, e48]
          · have hb : b = true := by rcases hz2 with h | h; exact absurd h hr; exact h
            have hr2 : ¬ (1 : Int) < (r.length : Int) + 1 := by omega
            subst hb
            simp [F55, h4, h5, hlt, hgt, hr2, e48]
        · have hyes : (c :: r).head? ≠ some 48 ∨ ((c :: r).length = 1 ∧ b = false) := by
            by_cases hc : c = 48
            · right
              have h1 : ¬ 0 < r.length := fun h => hz ⟨hc, .inl h⟩
              have h2 : b ≠ true := fun h => hz ⟨hc, .inr h⟩
              simp at h2
              simp [h2]
              cases r with
              | nil => rfl
              | cons x r => simp at h1
            · left; simpa using hc
          have hgo : runF E1 H.length false c55_54 st H = runF E1 H.length false c55_53 [(4, .str (c :: r)), (5, .bool b), (41, .bool false)] H := by
            by_cases hc : c = 48
            · have h1 : ¬ 0 < r.length := fun h => hz ⟨hc, .inl h⟩
              have hr2 : ¬ (1 : Int) < (r.length : Int) + 1 := by omega
              have h2 : b = false := by
                cases b with
                | false => rfl
                | true => exact absurd ⟨hc, .inr rfl⟩ hz
              simp [h4, h5, hlt, hgt, hr2, e48, hc, h2, -q55_53]
            · simp [h4, h5, hlt, hgt, e48, hc, -q55_53]
          rw [hgo]
          by_cases hd : (c :: r).all isDec = true
          · have hn := hnum hd
            rw [if_pos hd] at hlp
            generalize numOf 0 (c :: r) = m at hlp hn
            have hcond : ((c :: r).all isDec = true ∧ (c :: r) ≠ [] ∧ (c :: r).length ≤ 19 ∧ ((c :: r).head? ≠ some 48 ∨ ((c :: r).length = 1 ∧ b = false)) ∧ m ≤ (if b then 9223372036854775808 else 9223372036854775807)) ↔ m ≤ (if b then 9223372036854775808 else 9223372036854775807) :=
              ⟨fun h => h.2.2.2.2, fun h => ⟨hd, by simp, by simp; omega, hyes, h⟩⟩
            rw [show (if (c :: r).all isDec = true ∧ (c :: r) ≠ [] ∧ (c :: r).length ≤ 19 ∧ ((c :: r).head? ≠ some 48 ∨ ((c :: r).length = 1 ∧ b = false)) ∧ m ≤ (if b then 9223372036854775808 else 9223372036854775807) then some (if b then -(m : Int) else m) else none) = (if m ≤ (if b then 9223372036854775808 else 9223372036854775807) then some (if b then -(m : Int) else m) else none) by
              by_cases h : m ≤ (if b then 9223372036854775808 else 9223372036854775807)
              · rw [if_pos h, if_pos (hcond.2 h)]
              · rw [if_neg h, if_neg (fun h' => h (hcond.1 h'))]]
            have wm : IntKind.u64.wrap 9223372036854775808 = 9223372036854775808 := rfl
            cases b with
            | false =>
              by_cases hm : m ≤ 9223372036854775807
              · have h1 : ¬ (9223372036854775807 : Int) < m := by omega
                have w1 : IntKind.i64.wrap (m : Int) = m := wrapR ⟨by omega, by omega⟩
                simp [F55, hlp, h1, w1, hm, tupW]
              · have h1 : (9223372036854775807 : Int) < m := by omega
                simp [F55, hlp, h1, hm, tupW]
            | true =>
              by_cases hm : m ≤ 9223372036854775808
              · have h1 : ¬ (9223372036854775808 : Int) < m := by omega
                have w1 : IntKind.i64.wrap (IntKind.u64.wrap (-(m : Int))) = -(m : Int) := by
                  simp only [IntKind.wrap, IntKind.signed, IntKind.bits]
                  simp
                  omega
                simp [F55, hlp, h1, w1, wm, hm, tupW]
              · have h1 : (9223372036854775808 : Int) < m := by omega
                simp [F55, hlp, h1, wm, hm, tupW]
          · rw [if_neg hd] at hlp
            simp only [hd, false_and, if_false, tupW]
            simp [F55, hlp]
    · have hgt : (19 : Int) < t.length := by omega
      have hlt : ¬ ((t.length : Int) < 1) := by omega
      have hno : ¬ t.length ≤ 19 := hl
      simp only [hno, false_and, and_false, if_false, tupW]
      simp [F55, h4, h5, hgt, hlt]
  unfold parseW
  cases s with
  | nil =>
    have hm := main [] false (by simp) [(4, .str []), (5, .bool false)] rfl rfl
    simp at hm
    simp [F55] at hm
    simp [F55, hm]
  | cons c r =>
    have e45 : ((c.toNat : Int) = 45) = (c = 45) := propext (u8_eq (c := c) (d := 45))
    simp only [List.length_cons] at hs
    have hpos : (0 : Int) < (r.length : Int) + 1 := by omega
    by_cases hc : c = 45
    · subst hc
      have h1 : (1 : Int) ≤ (r.length : Int) + 1 := by omega
      have hm := main r true (by omega) [(4, .str r), (5, .bool true)] rfl rfl
      have hh : (r.head? ≠ some 48 ∨ r.length = 1 ∧ true = false) ↔ r.head? ≠ some 48 := by simp
      simp only [hh, if_true] at hm
      rw [List.head?_cons, if_pos rfl, List.tail_cons]
      rw [← hm]
      simp [F55, hpos, e45, h1, -q55_54]
    · have hm := main (c :: r) false (by simp; omega) [(4, .str (c :: r)), (5, .bool false), (18, .bool false)] rfl rfl
      simp only [and_true, Bool.false_eq_true, if_false, List.head?_cons] at hm
      rw [List.head?_cons, if_neg (by simpa using hc)]
      rw [← hm]
      simp [F55, hpos, e45, hc, -q55_54]end Go.Proofs.Ytkomfefpfalajaa
