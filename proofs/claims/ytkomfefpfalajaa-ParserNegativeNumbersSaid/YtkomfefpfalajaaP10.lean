/- The lexer's functions. -/
import Derived.Test.YtkomfefpfalajaaP9
import Derived.Test.YtkomfefpfalajaaAb8
namespace Go.Proofs.Ytkomfefpfalajaa
open Go Go.Proofs Ab
set_option maxRecDepth 100000
set_option linter.unusedSimpArgs false
set_option linter.unusedVariables false
theorem isLetter123 (c : UInt8) (H : Heap) : callF E1 123 [.int .u8 c.toNat] H = some (.bool (letB c), H) := by
  rw [go (fn := F123) rfl rfl rfl]
  unfold letB
  by_cases h1 : 97 ≤ c.toNat
  · have h1' : (97 : Int) ≤ c.toNat := by omega
    by_cases h2 : c.toNat ≤ 122
    · have h2' : (c.toNat : Int) ≤ 122 := by omega
      simp [F123, h1, h1', h2, h2']
    · have h2' : ¬ (c.toNat : Int) ≤ 122 := by omega
      have h3 : ¬ c.toNat ≤ 90 := by omega
      have h3' : ¬ (c.toNat : Int) ≤ 90 := by omega
      have h4 : ¬ c.toNat = 95 := by omega
      have h4' : ¬ (c.toNat : Int) = 95 := by omega
      have h5' : (65 : Int) ≤ c.toNat := by omega
      simp [F123, h1, h1', h2, h2', h3, h3', h4, h4', h5']
  · have h1' : ¬ (97 : Int) ≤ c.toNat := by omega
    by_cases h2 : 65 ≤ c.toNat
    · have h2' : (65 : Int) ≤ c.toNat := by omega
      by_cases h3 : c.toNat ≤ 90
      · have h3' : (c.toNat : Int) ≤ 90 := by omega
        simp [F123, h1, h1', h2, h2', h3, h3']
      · have h3' : ¬ (c.toNat : Int) ≤ 90 := by omega
        by_cases h4 : c.toNat = 95
        · have h4' : (c.toNat : Int) = 95 := by omega
          simp [F123, h1, h1', h2, h2', h3, h3', h4, h4']
        · have h4' : ¬ (c.toNat : Int) = 95 := by omega
          simp [F123, h1, h1', h2, h2', h3, h3', h4, h4']
    · have h2' : ¬ (65 : Int) ≤ c.toNat := by omega
      have h4 : ¬ c.toNat = 95 := by omega
      have h4' : ¬ (c.toNat : Int) = 95 := by omega
      simp [F123, h1, h1', h2, h2', h4, h4']
theorem isDigit96 (c : UInt8) (H : Heap) : callF E1 96 [.int .u8 c.toNat] H = some (.bool (isDec c), H) := by
  rw [go (fn := F96) rfl rfl rfl]
  unfold isDec
  by_cases h1 : 48 ≤ c.toNat
  · have h1' : (48 : Int) ≤ c.toNat := by omega
    by_cases h2 : c.toNat ≤ 57
    · have h2' : (c.toNat : Int) ≤ 57 := by omega
      simp [F96, h1, h1', h2, h2']
    · have h2' : ¬ (c.toNat : Int) ≤ 57 := by omega
      simp [F96, h1, h1', h2, h2']
  · have h1' : ¬ (48 : Int) ≤ c.toNat := by omega
    simp [F96, h1, h1']
section
variable (t : List UInt8) (ht : t.length ≤ 4000000)
include ht
theorem loop94 (n0 : Nat) (h : Heap) (hn0 : n0 = h.length) : ∀ (r : List UInt8) (k : Nat) (s : Slots), t.drop k = r → k + r.length = t.length → get s 0 = .str t → get s 3 = .int .i64 k →
    blkK (some [3]) 0 (runF E1 n0 false c94_8 s h) = some (.nrm, [(3, .int .i64 ((k + wordN r : Nat) : Int))], h)
  | [], k, s, hd, hk, h0, h3 => by
    have hn : ¬ ((k : Int) < t.length) := by simp at hk; omega
    rw [q94_8]
    simp [h0, h3, hn, wordN]
  | c :: r, k, s, hd, hk, h0, h3 => by
    simp only [List.length_cons] at hk
    have hlt : (k : Int) < t.length := by omega
    have hx : t[k]? = some c := by
      have := congrArg (fun l => l[0]?) hd
      simpa using this
    have hd' : t.drop (k + 1) = r := by
      have := congrArg List.tail hd
      simpa using this
    have hw : IntKind.i64.wrap ((k : Int) + 1) = (k : Int) + 1 := wrapR ⟨by omega, by omega⟩
    have ih := loop94 n0 h hn0 r (k + 1) [(0, .str t), (3, .int .i64 ((k + 1 : Nat) : Int))] hd' (by omega) rfl rfl
    simp at ih
    rw [q94_8]
    cases h1 : letB c with
    | true =>
      simp [h0, h3, hlt, hx, hw, isLetter123, h1, ih, wordN, wordB, -getElem?_pos]
      omega
    | false =>
      cases h2 : isDec c with
      | true =>
        simp [h0, h3, hlt, hx, hw, isLetter123, isDigit96, h1, h2, ih, wordN, wordB, -getElem?_pos]
        omega
      | false => simp [h0, h3, hlt, hx, hw, isLetter123, isDigit96, h1, h2, wordN, wordB, -getElem?_pos]
theorem wordLen94 (H : Heap) : callF E1 94 [.str t] H = some (.int .i64 (wordN t), H) := by
  rw [go (fn := F94) rfl rfl rfl]
  have hl := loop94 t ht H.length H rfl t 0 [(0, .str t), (3, .int .i64 (0 : Nat))] rfl (by simp) rfl rfl
  simp at hl
  simp [F94, hl]
theorem loop51b (n0 : Nat) (h : Heap) : ∀ (r : List UInt8) (k : Nat) (s : Slots), t.drop k = r → k + r.length = t.length → get s 0 = .str t → get s 3 = .int .i64 k →
    ∃ j, blkK (some [0, 3]) 3 (runF E1 n0 false c51_24 s h) = some (.nrm, [(0, .str t), (3, .int .i64 ((k + j : Nat) : Int))], h) ∧ j ≤ r.length ∧ (∀ (c : UInt8) (r' : List UInt8), r.drop j = c :: r' → c.toNat = 10) ∧ spaceN true r = j + spaceN false (r.drop j)
  | [], k, s, hd, hk, h0, h3 => by
    have hn : ¬ ((k : Int) < t.length) := by simp at hk; omega
    refine ⟨0, ?_, by simp, by simp, by simp [spaceN]⟩
    rw [q51_24]
    simp [h0, h3, hn]
  | c :: r, k, s, hd, hk, h0, h3 => by
    simp only [List.length_cons] at hk
    have hlt : (k : Int) < t.length := by omega
    have hx : t[k]? = some c := by
      have := congrArg (fun l => l[0]?) hd
      simpa using this
    have hd' : t.drop (k + 1) = r := by
      have := congrArg List.tail hd
      simpa using this
    have hw : IntKind.i64.wrap ((k : Int) + 1) = (k : Int) + 1 := wrapR ⟨by omega, by omega⟩
    by_cases hc : c.toNat = 10
    · have hc' : (c.toNat : Int) = 10 := by omega
      refine ⟨0, ?_, by simp, ?_, ?_⟩
      · rw [q51_24]
        simp [h0, h3, hlt, hx, hc', -getElem?_pos]
      · intro c' r' he
        simp at he
        rw [← he.1]
        exact hc
      · simp [spaceN, hc]
    · have hc' : ¬ (c.toNat : Int) = 10 := by omega
      obtain ⟨j, ih, hj, hh, hsp⟩ := loop51b n0 h r (k + 1) [(0, .str t), (3, .int .i64 ((k + 1 : Nat) : Int))] hd' (by omega) rfl rfl
      simp at ih
      refine ⟨j + 1, ?_, by simp; omega, by simpa using hh, ?_⟩
      · rw [q51_24]
        simp [h0, h3, hlt, hx, hc', hw, ih, -getElem?_pos]
        omega
      · simp [spaceN, hc, hsp]
        omega
theorem loop51 (h : Heap) : ∀ (n : Nat) (r : List UInt8) (k : Nat) (s : Slots), r.length ≤ n → t.drop k = r → k + r.length = t.length → get s 0 = .str t → get s 3 = .int .i64 k →
    finK F51 h.length (seqK E1 h.length false c51_39 (blkK (some [3]) 0 (runF E1 h.length false c51_36 s h))) = some (.int .i64 ((k + spaceN false r : Nat) : Int), h)
  | n, [], k, s, hn, hd, hk, h0, h3 => by
    have hn : ¬ ((k : Int) < t.length) := by simp at hk; omega
    rw [q51_36]
    simp [F51, h0, h3, hn, spaceN]
  | n + 1, c :: r, k, s, hn, hd, hk, h0, h3 => by
    simp only [List.length_cons] at hk hn
    have hlt : (k : Int) < t.length := by omega
    have hx : t[k]? = some c := by
      have := congrArg (fun l => l[0]?) hd
      simpa using this
    have hd' : t.drop (k + 1) = r := by
      have := congrArg List.tail hd
      simpa using this
    have hw : IntKind.i64.wrap ((k : Int) + 1) = (k : Int) + 1 := wrapR ⟨by omega, by omega⟩
    by_cases hc : c.toNat = 32 ∨ c.toNat = 9 ∨ c.toNat = 10 ∨ c.toNat = 13
    · have ih := loop51 h n r (k + 1) [(0, .str t), (3, .int .i64 ((k + 1 : Nat) : Int))] (by omega) hd' (by omega) rfl rfl
      have hsp : k + spaceN false (c :: r) = k + 1 + spaceN false r := by
        rw [spaceN, if_pos hc]
        omega
      rw [hsp, q51_36, ← ih]
      have hc' : (c.toNat : Int) = 32 ∨ (c.toNat : Int) = 9 ∨ (c.toNat : Int) = 10 ∨ (c.toNat : Int) = 13 := by omega
      rcases hc' with hc' | hc' | hc' | hc' <;> simp [F51, h0, h3, hlt, hx, hc', hw, -getElem?_pos]
    · have c1 : ¬ (c.toNat : Int) = 32 := by omega
      have c2 : ¬ (c.toNat : Int) = 9 := by omega
      have c3 : ¬ (c.toNat : Int) = 10 := by omega
      have c4 : ¬ (c.toNat : Int) = 13 := by omega
      by_cases hr : c.toNat = 35
      · have hr' : (c.toNat : Int) = 35 := by omega
        obtain ⟨j, hb, hj, hh, hsp⟩ := loop51b t ht h.length h (c :: r) k [(0, .str t), (3, .int .i64 k), (19, .bool true)] hd (by simp; omega) rfl rfl
        have hj1 : 1 ≤ j := by
          cases j with
          | zero => have := hh c r (by simp); omega
          | succ j => omega
        simp only [List.length_cons] at hj
        have ih := loop51 h n ((c :: r).drop j) (k + j) [(0, .str t), (3, .int .i64 ((k + j : Nat) : Int))] (by rw [List.length_drop, List.length_cons]; omega) (by rw [← hd, List.drop_drop]) (by rw [List.length_drop, List.length_cons]; omega) rfl rfl
        have hsp2 : k + spaceN false (c :: r) = k + j + spaceN false ((c :: r).drop j) := by
          have e : spaceN false (c :: r) = spaceN true r + 1 := by rw [spaceN, if_neg hc, if_pos hr]
          have e2 : spaceN true (c :: r) = spaceN true r + 1 := by rw [spaceN, if_neg (by omega)]
          omega
        rw [hsp2, q51_36, ← ih]
        simp at hb
        simp [F51, h0, h3, hlt, hx, hr', hb, -getElem?_pos]
      · have hr' : ¬ (c.toNat : Int) = 35 := by omega
        have hsp : spaceN false (c :: r) = 0 := by rw [spaceN, if_neg hc, if_neg hr]
        rw [hsp, q51_36]
        simp [F51, h0, h3, hlt, hx, c1, c2, c3, c4, hr', -getElem?_pos]
theorem spaceLen51 (H : Heap) : callF E1 51 [.str t] H = some (.int .i64 (spaceN false t), H) := by
  rw [go (fn := F51) rfl rfl rfl]
  have hl := loop51 t ht H t.length t 0 [(0, .str t), (3, .int .i64 (0 : Nat))] (Nat.le_refl _) rfl (by simp) rfl rfl
  simp [F51] at hl
  simp [F51, hl]
omit ht in
theorem loop97 (n0 : Nat) (h : Heap) (ht : t.length ≤ 4000000) : ∀ (r : List UInt8) (k : Nat) (s : Slots), t.drop k = r → k + r.length = t.length → get s 0 = .str t → get s 3 = .int .i64 k →
    blkK (some [0]) 0 (runF E1 n0 false c97_14 s h) = if r.all isDec = true then some (.nrm, [(0, .str t)], h) else some (.ret, [(2, .bool false)], h)
  | [], k, s, hd, hk, h0, h3 => by
    have hn : ¬ ((k : Int) < t.length) := by simp at hk; omega
    rw [q97_14]
    simp [h0, h3, hn]
  | c :: r, k, s, hd, hk, h0, h3 => by
    simp only [List.length_cons] at hk
    have hlt : (k : Int) < t.length := by omega
    have hx : t[k]? = some c := by
      have := congrArg (fun l => l[0]?) hd
      simpa using this
    have hd' : t.drop (k + 1) = r := by
      have := congrArg List.tail hd
      simpa using this
    have hw : IntKind.i64.wrap ((k : Int) + 1) = (k : Int) + 1 := wrapR ⟨by omega, by omega⟩
    have ih := loop97 n0 h ht r (k + 1) [(0, .str t), (3, .int .i64 ((k + 1 : Nat) : Int))] hd' (by omega) rfl rfl
    simp at ih
    rw [q97_14]
    cases h1 : isDec c with
    | true => simp [h0, h3, hlt, hx, hw, isDigit96, h1, ih, -getElem?_pos]
    | false => simp [h0, h3, hlt, hx, hw, isDigit96, h1, -getElem?_pos]
theorem valid97 (hne : t ≠ []) (H : Heap) : callF E1 97 [.str t] H = some (.bool (numOk t), H) := by
  rw [go (fn := F97) rfl rfl rfl]
  have hl := loop97 t H.length H ht t 0 [(0, .str t), (3, .int .i64 (0 : Nat))] rfl (by simp) rfl rfl
  unfold numOk
  cases ha : t.all isDec with
  | false =>
    rw [ha] at hl
    simp at hl
    simp [F97, hl]
  | true =>
    rw [ha] at hl
    simp at hl
    obtain ⟨c, r, rfl⟩ : ∃ c r, t = c :: r := by
      cases t with
      | nil => exact absurd rfl hne
      | cons c r => exact ⟨c, r, rfl⟩
    simp only [List.length_cons] at ht
    have hall : ∀ x ∈ c :: r, isDec x = true := by simpa using ha
    have e48 : ((c.toNat : Int) = 48) ↔ c = 48 := by
      rw [show (48 : Int) = ((48 : UInt8).toNat : Int) from rfl, Int.ofNat_inj, UInt8.toNat_inj]
    by_cases hc : c = 48
    · subst hc
      by_cases l1 : r = []
      · subst l1
        simp [F97, hl, numOf_cons, numOf_nil]
      · have h1 : r.length ≠ 0 := by simpa using l1
        have l1' : ¬ ((r.length : Int) + 1 = 1) := by omega
        have l1'' : (r.length == 0) = false := by simpa using h1
        simp [F97, hl, l1', l1'']
    · have hc' : ¬ (c.toNat : Int) = 48 := fun h => hc (e48.1 h)
      have hcb : (c == 48) = false := by simpa using hc
      by_cases l18 : r.length + 1 < 19
      · have hb := numOf_lt 0 (c :: r) hall
        have hp : (0 + 1) * 10 ^ (c :: r).length ≤ 10 ^ 18 := by
          rw [Nat.zero_add, Nat.one_mul]
          exact Nat.pow_le_pow_right (by omega) (by simp; omega)
        have h9 : numOf 0 (c :: r) ≤ 9223372036854775808 := by omega
        have l18' : (r.length : Int) + 1 < 19 := by omega
        have l19 : r.length ≤ 18 := by omega
        simp [F97, hl, hc, hc', hcb, l18', h9, l19]
      · by_cases l19 : r.length + 1 = 19
        · have l18' : ¬ (r.length : Int) + 1 < 19 := by omega
          have l19' : (r.length : Int) + 1 = 19 := by omega
          have l19'' : r.length ≤ 18 := by omega
          have hcmp := num_cmp (c :: r) [57, 50, 50, 51, 51, 55, 50, 48, 51, 54, 56, 53, 52, 55, 55, 53, 56, 48, 56] 0 (by simpa using l19) hall (by decide)
          rw [show numOf 0 [57, 50, 50, 51, 51, 55, 50, 48, 51, 54, 56, 53, 52, 55, 55, 53, 56, 48, 56] = 9223372036854775808 from by decide] at hcmp
          simp only [List.cons_beq_cons] at hcmp
          have hsc : (some c != some 48) = true := by simp [hc]
          simp [F97, hl, hc, hc', hcb, l18', l19', l19'', hsc, ← hcmp]
        · have l18' : ¬ (r.length : Int) + 1 < 19 := by omega
          have l19' : ¬ (r.length : Int) + 1 = 19 := by omega
          have l19'' : ¬ r.length ≤ 18 := by omega
          simp [F97, hl, hc, hc', hcb, l18', l19', l19'']
end
end Go.Proofs.Ytkomfefpfalajaa
