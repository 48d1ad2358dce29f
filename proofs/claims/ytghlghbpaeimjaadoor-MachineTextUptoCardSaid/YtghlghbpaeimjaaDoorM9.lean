/- Numbers read: register, word.Parse and the reference's parseInt. -/
import Derived.Test.YtghlghbpaeimjaaDoorM8
namespace Go.Proofs.YtghlghbpaeimjaaDoor
open Go Go.Proofs Ab
set_option maxRecDepth 100000
set_option linter.unusedSimpArgs false
def regV (s : List UInt8) : Int := match s with
  | [x, c] => if x = 114 ∧ 48 ≤ c.toNat ∧ c.toNat ≤ 55 then (c.toNat : Int) - 48 else -1
  | _ => -1
theorem u8_eq {c d : UInt8} : ((c.toNat : Int) = d.toNat) ↔ c = d := by
  rw [Int.ofNat_inj, UInt8.toNat_inj]
theorem register31 (s : List UInt8) (hs : s.length < 4611686018427387904) (H : Heap) : callF E2 31 [.str s] H = some (.int .i64 (regV s), H) := by
  rw [go (fn := F31) rfl rfl rfl]
  match s, hs with
  | [], _ => simp [F31, regV]
  | [x], _ => simp [F31, regV]
  | [x, c], _ =>
    have hx : ((x.toNat : Int) = 114) ↔ x = 114 := u8_eq (c := x) (d := 114)
    by_cases h1 : x = 114
    · have h1' := hx.2 h1
      by_cases h2 : (c.toNat : Int) < 48
      · have h2' : ¬ (48 ≤ c.toNat) := by omega
        simp [F31, regV, h1, h2, h2']
      · have h2' : 48 ≤ c.toNat := by omega
        by_cases h3 : (55 : Int) < c.toNat
        · have h3' : ¬ (c.toNat ≤ 55) := by omega
          simp [F31, regV, h1, h2, h2', h3, h3']
        · have h3' : c.toNat ≤ 55 := by omega
          have hw : IntKind.u8.wrap ((c.toNat : Int) - 48) = c.toNat - 48 := wrap8 (by omega) (by omega)
          have hw2 : IntKind.i64.wrap ((c.toNat : Int) - 48) = c.toNat - 48 := wrapR ⟨by omega, by omega⟩
          simp [F31, regV, h1, h2, h2', h3, h3', hw, hw2]
    · have h1' : ¬ (x.toNat : Int) = 114 := fun h => h1 (hx.1 h)
      simp [F31, regV, h1, h1']
  | x :: c :: y :: r, hs =>
    have h2 : ¬ ((r.length : Int) + 1 + 1 + 1 = 2) := by omega
    simp [F31, regV, h2]
theorem loop32 (t : List UInt8) (b : AV) (hl : t.length < 100) (n0 : Nat) (h : Heap) : ∀ (r : List UInt8) (k v : Nat) (s : Slots), t.drop k = r → k + r.length = t.length → (v + 1) * 10 ^ r.length ≤ 10 ^ 19 → get s 4 = .str t → get s 5 = b → get s 6 = .int .u64 v → get s 7 = .int .i64 k →
    blkK (some [5, 6]) 0 (runF E2 n0 false c32_28 s h) = if r.all isDec = true then some (.nrm, [(5, b), (6, .int .u64 (numOf v r))], h) else some (.ret, [(2, .int .i64 0), (3, .bool false)], h)
  | [], k, v, s, hd, hk, hv, h4, h5, h6, h7 => by
    have hn : ¬ ((k : Int) < t.length) := by simp at hk; omega
    rw [q32_28]
    simp [h4, h5, h6, h7, hn, numOf_nil]
  | c :: r, k, v, s, hd, hk, hv, h4, h5, h6, h7 => by
    simp only [List.length_cons] at hk
    have hlt : (k : Int) < t.length := by omega
    have hx : t[k]? = some c := by
      have := congrArg (fun l => l[0]?) hd
      simpa using this
    have hd' : t.drop (k + 1) = r := by
      have := congrArg List.tail hd
      simpa using this
    have hw : IntKind.i64.wrap ((k : Int) + 1) = (k : Int) + 1 := wrapR ⟨by omega, by omega⟩
    rw [q32_28]
    by_cases hc : isDec c = true
    · have hc' := isDec_iff.1 hc
      have c1 : ¬ (c.toNat : Int) < 48 := by omega
      have c2 : ¬ (57 : Int) < c.toNat := by omega
      have hp : (10 * v + (c.toNat - 48) + 1) * 10 ^ r.length ≤ 10 ^ 19 := by
        refine Nat.le_trans ?_ hv
        rw [List.length_cons, Nat.pow_succ, Nat.mul_comm (10 ^ r.length) 10, ← Nat.mul_assoc]
        exact Nat.mul_le_mul_right _ (by omega)
      have hp2 : 10 * v + (c.toNat - 48) + 1 ≤ 10 ^ 19 := Nat.le_trans (Nat.le_mul_of_pos_right _ (Nat.pow_pos (by omega))) hp
      have w1 : IntKind.u64.wrap (10 * (v : Int)) = 10 * (v : Int) := wrapU (by omega) (by omega)
      have w2 : IntKind.u8.wrap ((c.toNat : Int) - 48) = (c.toNat : Int) - 48 := wrap8 (by omega) (by omega)
      have w3 : IntKind.u64.wrap ((c.toNat : Int) - 48) = (c.toNat : Int) - 48 := wrapU (by omega) (by omega)
      have w4 : IntKind.u64.wrap (10 * (v : Int) + ((c.toNat : Int) - 48)) = 10 * (v : Int) + ((c.toNat - 48 : Nat) : Int) := by
        rw [wrapU (by omega) (by omega)]; omega
      have ih := loop32 t b hl n0 h r (k + 1) (10 * v + (c.toNat - 48)) [(4, .str t), (5, b), (6, .int .u64 ((10 * v + (c.toNat - 48) : Nat) : Int)), (7, .int .i64 ((k + 1 : Nat) : Int))] hd' (by omega) hp rfl rfl rfl rfl
      simp at ih
      simp [h4, h5, h6, h7, hlt, hx, hw, c1, c2, w1, w2, w3, w4, ih, hc, numOf_cons, -getElem?_pos]
    · have hc' : ¬ (48 ≤ c.toNat ∧ c.toNat ≤ 57) := fun h => hc (isDec_iff.2 h)
      by_cases c1 : (c.toNat : Int) < 48
      · simp [h4, h5, h6, h7, hlt, hx, c1, hc, -getElem?_pos]
      · have c2 : (57 : Int) < c.toNat := by omega
        simp [h4, h5, h6, h7, hlt, hx, c1, c2, hc, -getElem?_pos]
def tupW : Option Int → AV
  | some v => .tup [.int .i64 v, .bool true]
  | none => .tup [.int .i64 0, .bool false]
theorem parse32 (s : List UInt8) (hs : s.length < 4611686018427387904) (H : Heap) : callF E2 32 [.str s] H = some (tupW (parseW s), H) := by
  rw [go (fn := F32) rfl rfl rfl]
  have main : ∀ (t : List UInt8) (b : Bool), t.length < 4611686018427387904 → ∀ st, get st 4 = .str t → get st 5 = .bool b →
      finK F32 H.length (runF E2 H.length false c32_54 st H) = some (tupW (if t.all isDec = true ∧ t ≠ [] ∧ t.length ≤ 19 ∧ (t.head? ≠ some 48 ∨ (t.length = 1 ∧ b = false)) ∧ numOf 0 t ≤ (if b then 9223372036854775808 else 9223372036854775807) then some (if b then -(numOf 0 t : Int) else numOf 0 t) else none), H) := by
    intro t b ht st h4 h5
    by_cases hl : t.length ≤ 19
    · cases t with
      | nil => simp [F32, h4, h5, tupW]
      | cons c r =>
        have hlt : ¬ ((r.length : Int) + 1 < 1) := by omega
        simp only [List.length_cons] at hl
        have hgt : ¬ ((19 : Int) < (r.length : Int) + 1) := by omega
        have hlp := loop32 (c :: r) (.bool b) (by simp; omega) H.length H (c :: r) 0 0 [(4, .str (c :: r)), (5, .bool b), (6, .int .u64 (0 : Nat)), (7, .int .i64 (0 : Nat))] rfl (by simp) (by rw [Nat.zero_add, Nat.one_mul]; exact Nat.pow_le_pow_right (by omega) (by simp; omega)) rfl rfl rfl rfl
        have hnum : (c :: r).all isDec = true → numOf 0 (c :: r) < 10 ^ 19 := fun hd => by
          have := numOf_lt 0 (c :: r) (List.all_eq_true.1 hd)
          rw [Nat.zero_add, Nat.one_mul] at this
          exact Nat.lt_of_lt_of_le this (Nat.pow_le_pow_right (by omega) (by simp; omega))
        have e48 : ((c.toNat : Int) = 48) = (c = 48) := propext (u8_eq (c := c) (d := 48))
        simp only [Int.natCast_zero] at hlp
        by_cases hz : c = 48 ∧ (0 < r.length ∨ b = true)
        · obtain ⟨hz1, hz2⟩ := hz
          have hno : ¬ ((c :: r).head? ≠ some 48 ∨ ((c :: r).length = 1 ∧ b = false)) := by
            subst hz1
            rcases hz2 with h | h <;> simp <;> intros <;> simp_all
          simp only [hno, false_and, and_false, if_false, tupW]
          subst hz1
          by_cases hr : 0 < r.length
          · have hr' : (0 : Int) < r.length := by omega
            have hr2 : (1 : Int) < (r.length : Int) + 1 := by omega
            simp [F32, h4, h5, hlt, hgt, hr', hr2, e48]
          · have hb : b = true := by rcases hz2 with h | h; exact absurd h hr; exact h
            have hr2 : ¬ (1 : Int) < (r.length : Int) + 1 := by omega
            subst hb
            simp [F32, h4, h5, hlt, hgt, hr2, e48]
        · have hyes : (c :: r).head? ≠ some 48 ∨ ((c :: r).length = 1 ∧ b = false) := by
            by_cases hc : c = 48
            · right
              have h1 : ¬ 0 < r.length := fun h => hz ⟨hc, .inl h⟩
              have h2 : b ≠ true := fun h => hz ⟨hc, .inr h⟩
              simp at h2
              simp [h2]
              cases r with
              | nil => rfl
              | cons x r => simp at h1
            · left; simpa using hc
          have hgo : runF E2 H.length false c32_54 st H = runF E2 H.length false c32_53 [(4, .str (c :: r)), (5, .bool b), (41, .bool false)] H := by
            by_cases hc : c = 48
            · have h1 : ¬ 0 < r.length := fun h => hz ⟨hc, .inl h⟩
              have hr2 : ¬ (1 : Int) < (r.length : Int) + 1 := by omega
              have h2 : b = false := by
                cases b with
                | false => rfl
                | true => exact absurd ⟨hc, .inr rfl⟩ hz
              simp [h4, h5, hlt, hgt, hr2, e48, hc, h2, -q32_53]
            · simp [h4, h5, hlt, hgt, e48, hc, -q32_53]
          rw [hgo]
          by_cases hd : (c :: r).all isDec = true
          · have hn := hnum hd
            rw [if_pos hd] at hlp
            generalize numOf 0 (c :: r) = m at hlp hn
            have hcond : ((c :: r).all isDec = true ∧ (c :: r) ≠ [] ∧ (c :: r).length ≤ 19 ∧ ((c :: r).head? ≠ some 48 ∨ ((c :: r).length = 1 ∧ b = false)) ∧ m ≤ (if b then 9223372036854775808 else 9223372036854775807)) ↔ m ≤ (if b then 9223372036854775808 else 9223372036854775807) :=
              ⟨fun h => h.2.2.2.2, fun h => ⟨hd, by simp, by simp; omega, hyes, h⟩⟩
            rw [show (if (c :: r).all isDec = true ∧ (c :: r) ≠ [] ∧ (c :: r).length ≤ 19 ∧ ((c :: r).head? ≠ some 48 ∨ ((c :: r).length = 1 ∧ b = false)) ∧ m ≤ (if b then 9223372036854775808 else 9223372036854775807) then some (if b then -(m : Int) else m) else none) = (if m ≤ (if b then 9223372036854775808 else 9223372036854775807) then some (if b then -(m : Int) else m) else none) by
              by_cases h : m ≤ (if b then 9223372036854775808 else 9223372036854775807)
              · rw [if_pos h, if_pos (hcond.2 h)]
              · rw [if_neg h, if_neg (fun h' => h (hcond.1 h'))]]
            have wm : IntKind.u64.wrap 9223372036854775808 = 9223372036854775808 := rfl
            cases b with
            | false =>
              by_cases hm : m ≤ 9223372036854775807
              · have h1 : ¬ (9223372036854775807 : Int) < m := by omega
                have w1 : IntKind.i64.wrap (m : Int) = m := wrapR ⟨by omega, by omega⟩
                simp [F32, hlp, h1, w1, hm, tupW]
              · have h1 : (9223372036854775807 : Int) < m := by omega
                simp [F32, hlp, h1, hm, tupW]
            | true =>
              by_cases hm : m ≤ 9223372036854775808
              · have h1 : ¬ (9223372036854775808 : Int) < m := by omega
                have w1 : IntKind.i64.wrap (IntKind.u64.wrap (-(m : Int))) = -(m : Int) := by
                  simp only [IntKind.wrap, IntKind.signed, IntKind.bits]
                  simp
                  omega
                simp [F32, hlp, h1, w1, wm, hm, tupW]
              · have h1 : (9223372036854775808 : Int) < m := by omega
                simp [F32, hlp, h1, wm, hm, tupW]
          · rw [if_neg hd] at hlp
            simp only [hd, false_and, if_false, tupW]
            simp [F32, hlp]
    · have hgt : (19 : Int) < t.length := by omega
      have hlt : ¬ ((t.length : Int) < 1) := by omega
      have hno : ¬ t.length ≤ 19 := hl
      simp only [hno, false_and, and_false, if_false, tupW]
      simp [F32, h4, h5, hgt, hlt]
  unfold parseW
  cases s with
  | nil =>
    have hm := main [] false (by simp) [(4, .str []), (5, .bool false)] rfl rfl
    simp at hm
    simp [F32] at hm
    simp [F32, hm]
  | cons c r =>
    have e45 : ((c.toNat : Int) = 45) = (c = 45) := propext (u8_eq (c := c) (d := 45))
    simp only [List.length_cons] at hs
    have hpos : (0 : Int) < (r.length : Int) + 1 := by omega
    by_cases hc : c = 45
    · subst hc
      have h1 : (1 : Int) ≤ (r.length : Int) + 1 := by omega
      have hm := main r true (by omega) [(4, .str r), (5, .bool true)] rfl rfl
      have hh : (r.head? ≠ some 48 ∨ r.length = 1 ∧ true = false) ↔ r.head? ≠ some 48 := by simp
      simp only [hh, if_true] at hm
      rw [List.head?_cons, if_pos rfl, List.tail_cons]
      rw [← hm]
      simp [F32, hpos, e45, h1, -q32_54]
    · have hm := main (c :: r) false (by simp; omega) [(4, .str (c :: r)), (5, .bool false), (18, .bool false)] rfl rfl
      simp only [and_true, Bool.false_eq_true, if_false, List.head?_cons] at hm
      rw [List.head?_cons, if_neg (by simpa using hc)]
      rw [← hm]
      simp [F32, hpos, e45, hc, -q32_54]
theorem wrapU_emod (n : Int) : IntKind.u64.wrap n = n % 18446744073709551616 := by
  simp only [IntKind.wrap, IntKind.signed, IntKind.bits]
  simp
theorem loop41 (t : List UInt8) (a : AV) (hl : t.length < 100) (n0 : Nat) (h : Heap) : ∀ (r : List UInt8) (k v : Nat) (s : Slots), t.drop k = r → k + r.length = t.length → get s 0 = .str t → get s 4 = .int .u64 ((v : Int) % 18446744073709551616) → get s 5 = a → get s 6 = .int .i64 k →
    blkK (some [0, 4, 5]) 0 (runF E2 n0 false c41_27 s h) = if r.all isDec = true then some (.nrm, [(0, .str t), (4, .int .u64 ((numOf v r : Int) % 18446744073709551616)), (5, a)], h) else some (.ret, [(2, .int .i64 0), (3, .bool false)], h)
  | [], k, v, s, hd, hk, h0, h4, h5, h6 => by
    have hn : ¬ ((k : Int) < t.length) := by simp at hk; omega
    rw [q41_27]
    simp [h0, h4, h5, h6, hn, numOf_nil]
  | c :: r, k, v, s, hd, hk, h0, h4, h5, h6 => by
    simp only [List.length_cons] at hk
    have hlt : (k : Int) < t.length := by omega
    have hx : t[k]? = some c := by
      have := congrArg (fun l => l[0]?) hd
      simpa using this
    have hd' : t.drop (k + 1) = r := by
      have := congrArg List.tail hd
      simpa using this
    have hw : IntKind.i64.wrap ((k : Int) + 1) = (k : Int) + 1 := wrapR ⟨by omega, by omega⟩
    rw [q41_27]
    by_cases hc : isDec c = true
    · have hc' := isDec_iff.1 hc
      have c1 : ¬ (c.toNat : Int) < 48 := by omega
      have c2 : ¬ (57 : Int) < c.toNat := by omega
      have w2 : IntKind.u8.wrap ((c.toNat : Int) - 48) = (c.toNat : Int) - 48 := wrap8 (by omega) (by omega)
      have w3 : IntKind.u64.wrap ((c.toNat : Int) - 48) = (c.toNat : Int) - 48 := wrapU (by omega) (by omega)
      have w4 : IntKind.u64.wrap (IntKind.u64.wrap ((v : Int) % 18446744073709551616 * 10) + ((c.toNat : Int) - 48)) = ((10 * v + (c.toNat - 48) : Nat) : Int) % 18446744073709551616 := by
        rw [wrapU_emod, wrapU_emod]; omega
      have ih := loop41 t a hl n0 h r (k + 1) (10 * v + (c.toNat - 48)) [(0, .str t), (4, .int .u64 (((10 * v + (c.toNat - 48) : Nat) : Int) % 18446744073709551616)), (5, a), (6, .int .i64 ((k + 1 : Nat) : Int))] hd' (by omega) rfl rfl rfl rfl
      rw [← w4] at ih
      simp at ih
      simp [h0, h4, h5, h6, hlt, hx, hw, c1, c2, w2, w3, ih, hc, numOf_cons, -getElem?_pos]
    · have hc' : ¬ (48 ≤ c.toNat ∧ c.toNat ≤ 57) := fun h => hc (isDec_iff.2 h)
      by_cases c1 : (c.toNat : Int) < 48
      · simp [h0, h4, h5, h6, hlt, hx, c1, hc, -getElem?_pos]
      · have c2 : (57 : Int) < c.toNat := by omega
        simp [h0, h4, h5, h6, hlt, hx, c1, c2, hc, -getElem?_pos]
theorem parseInt41 (s : List UInt8) (hs : s.length < 4611686018427387904) : ∃ v, InR v ∧ (∀ w, parseW s = some w → v = w) ∧ ∀ H, callF E2 41 [.str s] H = some (.tup [.int .i64 v, .bool (parseW s).isSome], H) := by
  have inR0 : InR 0 := ⟨by omega, by omega⟩
  have hlong : 20 < s.length → parseW s = none := by
    intro hl
    cases hp : parseW s with
    | none => rfl
    | some w =>
      obtain ⟨hr, hf⟩ := parseW_some hp
      have : (fmtI w).length ≤ 20 := by
        unfold fmtI
        split
        · have := digs_length 18 (-w).toNat (by omega)
          simp
          omega
        · have := digs_length 18 w.toNat (by omega)
          omega
      rw [hf] at this
      omega
  by_cases hl : 20 < s.length
  · have h1 : (20 : Int) < s.length := by omega
    have h2 : (0 : Int) < s.length := by omega
    have h3 : 0 < s.length := by omega
    refine ⟨0, inR0, fun w hw => (by rw [hlong hl] at hw; cases hw), fun H => ?_⟩
    rw [go (fn := F41) rfl rfl rfl, hlong hl]
    cases s with
    | nil => simp at h3
    | cons c r =>
      have e45 : ((c.toNat : Int) = 45) = (c = 45) := propext (u8_eq (c := c) (d := 45))
      simp only [List.length_cons] at hl
      have h4 : (0 : Int) < (r.length : Int) + 1 := by omega
      have h5 : ¬ ((r.length : Int) + 1 = 1) := by omega
      have h6 : ¬ ((r.length : Int) + 1 = 0) := by omega
      have h7 : (20 : Int) < (r.length : Int) + 1 := by omega
      by_cases hc : c = 45
      · simp [F41, h4, h5, h6, h7, e45, hc]
      · simp [F41, h4, h5, h6, h7, e45, hc]
  · have fin : ∀ (t : List UInt8) (neg : Bool), t.length ≤ 20 → (neg = true → s = 45 :: t) → (neg = false → s = t ∧ s.head? ≠ some 45) → t ≠ [] → ∃ v, InR v ∧ (∀ w, parseW s = some w → v = w) ∧ ∀ H st, get st 0 = .str s → get st 4 = .int .u64 (0 : Int) → get st 5 = .int .i64 (if neg then 1 else 0) →
        finK F41 H.length (runF E2 H.length false c41_39 st H) = some (.tup [.int .i64 v, .bool (parseW s).isSome], H) := by
      intro t neg ht hneg hpos hne
      have hsd : s.drop (if neg then 1 else 0) = t := by
        cases neg with
        | true => rw [hneg rfl]; rfl
        | false => rw [(hpos rfl).1]; rfl
      have hsl : (if neg then 1 else 0) + t.length = s.length := by
        cases neg with
        | true => rw [hneg rfl]; simp; omega
        | false => rw [(hpos rfl).1]; simp
      by_cases hd : t.all isDec = true
      · obtain ⟨v, hv⟩ : ∃ v, v = (if neg then IntKind.i64.wrap (0 - IntKind.i64.wrap ((numOf 0 t : Int) % 18446744073709551616)) else IntKind.i64.wrap ((numOf 0 t : Int) % 18446744073709551616)) := ⟨_, rfl⟩
        have hvR : InR v := by
          rw [hv]
          cases neg <;> exact inR_wrap _
        have hw : ∀ w, parseW s = some w → v = w := by
          intro w hp
          have h2 := hp
          unfold parseW at h2
          cases neg with
          | true =>
            rw [hneg rfl, List.head?_cons, if_pos rfl, List.tail_cons] at h2
            split at h2
            · rename_i hc
              cases h2
              rw [hv]
              simp only [if_true]
              have := hc.2.2.2.2
              simp only [IntKind.wrap, IntKind.signed, IntKind.bits]
              simp
              omega
            · cases h2
          | false =>
            obtain ⟨hst, h45⟩ := hpos rfl
            rw [if_neg h45] at h2
            split at h2
            · rename_i hc
              cases h2
              rw [hv]
              simp only [Bool.false_eq_true, if_false]
              have := hc.2.2.2.2
              rw [hst] at this
              rw [← hst]
              simp only [IntKind.wrap, IntKind.signed, IntKind.bits]
              simp
              omega
            · cases h2
        refine ⟨v, hvR, hw, fun H st h0 h4 h5 => ?_⟩
        have hsome : (fmtI v == s) = (parseW s).isSome := by
          rw [Bool.eq_iff_iff, beq_iff_eq]
          constructor
          · intro h
            rw [← h, parseW_fmt hvR]
            rfl
          · intro h
            obtain ⟨w, hp⟩ := Option.isSome_iff_exists.1 h
            rw [hw w hp]
            exact (parseW_some hp).2
        have hf := fmt39 v hvR
        have hlp := fun H => loop41 s (.int .i64 (if neg then 1 else 0)) (by omega) (List.length H) H t (if neg then 1 else 0) 0 [(0, .str s), (4, .int .u64 (((0 : Nat) : Int) % 18446744073709551616)), (5, .int .i64 (if neg then 1 else 0)), (6, .int .i64 (((if neg then 1 else 0 : Nat)) : Int))] hsd hsl rfl rfl rfl rfl
        simp only [hd, if_true] at hlp
        rw [hv] at hf ⊢
        rw [hv] at hsome
        cases neg with
        | true =>
          simp at hlp
          simp only [if_true] at hf hsome ⊢
          simp at hf hsome
          simp [F41, h0, h4, h5, hlp, hf, hsome]
        | false =>
          simp at hlp
          simp only [Bool.false_eq_true, if_false] at hf hsome ⊢
          simp [F41, h0, h4, h5, hlp, hf, hsome]
      · have hnone : parseW s = none := by
          unfold parseW
          cases neg with
          | true =>
            rw [hneg rfl, List.head?_cons, if_pos rfl, List.tail_cons, if_neg (fun h => hd h.1)]
          | false =>
            obtain ⟨hst, h45⟩ := hpos rfl
            rw [if_neg h45, if_neg (fun h => hd (by rw [hst] at h; exact h.1))]
        refine ⟨0, inR0, fun w hw => (by rw [hnone] at hw; cases hw), fun H st h0 h4 h5 => ?_⟩
        rw [hnone]
        have hlp := fun H => loop41 s (.int .i64 (if neg then 1 else 0)) (by omega) (List.length H) H t (if neg then 1 else 0) 0 [(0, .str s), (4, .int .u64 (((0 : Nat) : Int) % 18446744073709551616)), (5, .int .i64 (if neg then 1 else 0)), (6, .int .i64 (((if neg then 1 else 0 : Nat)) : Int))] hsd hsl rfl rfl rfl rfl
        simp only [hd, if_false] at hlp
        cases neg with
        | true =>
          simp at hlp
          simp [F41, h0, h4, h5, hlp]
        | false =>
          simp at hlp
          simp [F41, h0, h4, h5, hlp]
    cases s with
    | nil =>
      refine ⟨0, inR0, fun w hw => (by simp [parseW] at hw), fun H => ?_⟩
      rw [go (fn := F41) rfl rfl rfl]
      simp [F41, parseW]
    | cons c r =>
      have e45 : ((c.toNat : Int) = 45) = (c = 45) := propext (u8_eq (c := c) (d := 45))
      simp only [List.length_cons] at hl
      have h4 : (0 : Int) < (r.length : Int) + 1 := by omega
      have h7 : ¬ (20 : Int) < (r.length : Int) + 1 := by omega
      by_cases hc : c = 45
      · subst hc
        cases r with
        | nil =>
          refine ⟨0, inR0, fun w hw => (by simp [parseW] at hw), fun H => ?_⟩
          rw [go (fn := F41) rfl rfl rfl]
          simp [F41, parseW, e45]
        | cons d r =>
          obtain ⟨v, hv1, hv2, hv3⟩ := fin (d :: r) true (by simp at hl ⊢; omega) (fun _ => rfl) (fun h => by cases h) (by simp)
          refine ⟨v, hv1, hv2, fun H => ?_⟩
          rw [go (fn := F41) rfl rfl rfl]
          rw [← hv3 H [(0, .str (45 :: d :: r)), (4, .int .u64 0), (5, .int .i64 1), (24, .bool false)] rfl rfl rfl]
          simp only [List.length_cons] at h4 h7
          have h5 : ¬ ((r.length : Int) + 1 + 1 = 1) := by omega
          have h8 : ¬ (20 : Int) < (r.length : Int) + 1 + 1 := by omega
          have h9 : (0 : Int) < (r.length : Int) + 1 + 1 := by omega
          simp [F41, h4, h5, h7, h8, h9, e45, -q41_39]
      · obtain ⟨v, hv1, hv2, hv3⟩ := fin (c :: r) false (by simp; omega) (fun h => by cases h) (fun _ => ⟨rfl, by simpa using hc⟩) (by simp)
        refine ⟨v, hv1, hv2, fun H => ?_⟩
        rw [go (fn := F41) rfl rfl rfl]
        rw [← hv3 H [(0, .str (c :: r)), (4, .int .u64 0), (5, .int .i64 0), (24, .bool false)] rfl rfl rfl]
        have h5 : ¬ ((r.length : Int) + 1 = 0) := by omega
        simp [F41, h4, h5, h7, e45, hc, -q41_39]
end Go.Proofs.YtghlghbpaeimjaaDoor
