/- The reference's parser: its small functions. -/
import Derived.Test.YtkomfefpfalajaaC1
import Derived.Test.YtkomfefpfalajaaQ1
import Derived.Test.YtkomfefpfalajaaAb10
namespace Go.Proofs.Ytkomfefpfalajaa
open Go Go.Proofs Ab
set_option maxRecDepth 100000
set_option linter.unusedSimpArgs false
set_option linter.unusedVariables false
def whyS : St → Int | .ok _ => 0 | .error _ => 2
def posS (tk : List Tok) (en : Int) : St → Int | .ok _ => 0 | .error p => offS tk en p
@[simp] theorem whyS_ok (p : Nat) : whyS (.ok p) = 0 := rfl
@[simp] theorem whyS_error (p : Nat) : whyS (.error p) = 2 := rfl
@[simp] theorem posS_ok (tk : List Tok) (en : Int) (p : Nat) : posS tk en (.ok p) = 0 := rfl
@[simp] theorem posS_error (tk : List Tok) (en : Int) (p : Nat) : posS tk en (.error p) = offS tk en p := rfl
abbrev rdR (tk : List Tok) (en : Int) (st : St) : Ob := .cells [.sl .none (encTs tk), .int .i64 (ic (stP st)), .int .i64 en, .int .i64 (whyS st), .int .i64 (posS tk en st)]
section
variable (tk : List Tok) (en : Int) (o : Nat)
theorem ok29 (st : St) (H : Heap) (ho : o < H.length) : callF E1 29 [.ptr o 0] (H.set o (rdR tk en st)) = some (.bool (!stF st), H.set o (rdR tk en st)) := by
  rw [go (fn := F29) rfl rfl rfl]
  cases st <;> simp [F29, ho] <;> rfl
theorem offset104 (st : St) (H : Heap) (ho : o < H.length) : callF E1 104 [.ptr o 0] (H.set o (rdR tk en st)) = some (.int .i64 (offS tk en (stP st)), H.set o (rdR tk en st)) := by
  rw [go (fn := F104) rfl rfl rfl]
  unfold offS
  by_cases hp : stP st < tk.length
  · have hg := tokAt_get tk hp
    simp [F104, ho, hp, hg, encT_mk, -getElem?_pos] <;> rfl
  · simp [F104, ho, hp] <;> rfl
theorem fail66 (st : St) (H : Heap) (ho : o < H.length) : callF E1 66 [.ptr o 0] (H.set o (rdR tk en st)) = some (.tup [], H.set o (rdR tk en (bad st))) := by
  rw [go (fn := F66) rfl rfl rfl]
  have h1 := offset104 tk en o st
  cases st with
  | error p => simp [F66, ho] <;> rfl
  | ok p => simp [F66, ho, h1] <;> rfl
variable (hL : tk.length ≤ 20000)
theorem wrap_icn {n k : Nat} (h : n + k < 4611686018427387904) : IntKind.i64.wrap (ic n + (k : Int)) = ic (n + k) := by
  rw [ic_eq, ic_eq, wrapR ⟨by omega, by omega⟩]
  omega
include hL
theorem at30 (st : St) (k : Nat) (hk : k ≤ 1) (hp : ∀ p, st = .ok p → p ≤ tk.length) (s : List UInt8) (H : Heap) (ho : o < H.length) : callF E1 30 [.ptr o 0, .int .i64 k, .str s] (H.set o (rdR tk en st)) = some (.bool (stB st (fun p => atB tk (p + k) s)), H.set o (rdR tk en st)) := by
  rw [go (fn := F30) rfl rfl rfl]
  have h1 := ok29 tk en o st
  cases st with
  | error p => simp [F30, ho, h1] <;> rfl
  | ok p =>
    have hp := hp p rfl
    have hw := wrap_icn (n := p) (k := k) (by omega)
    unfold atB
    by_cases hlt : p + k < tk.length
    · have hg := tokAt_get tk hlt
      by_cases hs : (tokAt tk (p + k)).text = s
      · by_cases hk2 : (tokAt tk (p + k)).kind = 2
        · simp [F30, ho, h1, hw, hlt, hg, encT_mk, hs, hk2, -getElem?_pos] <;> rfl
        · have hk3 : ((tokAt tk (p + k)).kind != 2) = true := by simpa using hk2
          simp [F30, ho, h1, hw, hlt, hg, encT_mk, hs, hk2, hk3, -getElem?_pos] <;> rfl
      · have hs' : ((tokAt tk (p + k)).text == s) = false := by simpa using hs
        simp [F30, ho, h1, hw, hlt, hg, encT_mk, hs, hs', -getElem?_pos] <;> rfl
    · simp [F30, ho, h1, hw, hlt] <;> rfl
/-- the same for the next token -/
theorem at30_0 (st : St) (hp : ∀ p, st = .ok p → p ≤ tk.length) (s : List UInt8) (H : Heap) (ho : o < H.length) : callF E1 30 [.ptr o 0, .int .i64 0, .str s] (H.set o (rdR tk en st)) = some (.bool (stB st (atB tk · s)), H.set o (rdR tk en st)) :=
  at30 tk en o hL st 0 (by omega) hp s H ho
theorem expect33 (st : St) (hp : ∀ p, st = .ok p → p ≤ tk.length) (s : List UInt8) (H : Heap) (ho : o < H.length) : callF E1 33 [.ptr o 0, .str s] (H.set o (rdR tk en st)) = some (.tup [], H.set o (rdR tk en (if stB st (atB tk · s) then adv st else bad st))) := by
  rw [go (fn := F33) rfl rfl rfl]
  have h1 := at30_0 tk en o hL st hp s
  have h2 := fail66 tk en o st
  cases hc : stB st (atB tk · s) with
  | true =>
    obtain ⟨p, rfl, hb⟩ := stB_true hc
    have hw := wrap_ic (n := p) (by have := hp p rfl; omega)
    simp [hb] at h1
    simp [F33, ho, h1, hw] <;> rfl
  | false =>
    simp [hc] at h1
    simp [F33, ho, h1, h2] <;> rfl
omit hL in
theorem loop103 (w : List UInt8) (L : List (List UInt8)) (hLl : L.length ≤ 1000) (n0 : Nat) (h : Heap) : ∀ (r : List (List UInt8)) (i : Nat) (s : Slots), L.drop i = r → i + r.length = L.length → get s 0 = .str w → get s 3 = .sl .full (L.map AV.str) → get s 4 = .int .i64 i →
    blkK (some []) 0 (runF E1 n0 false c103_15 s h) = if r.contains w then some (.ret, [(2, .bool true)], h) else some (.nrm, [], h)
  | [], i, s, hd, hi, s0, s3, s4 => by
    have hn : ¬ (i < L.length) := by simp at hi; omega
    rw [q103_15]
    simp [s0, s3, s4, hn]
  | x :: r, i, s, hd, hi, s0, s3, s4 => by
    simp only [List.length_cons] at hi
    have hlt : i < L.length := by omega
    have hx : L[i]? = some x := by
      have := congrArg (fun l => l[0]?) hd
      simpa using this
    have hd' : L.drop (i + 1) = r := by
      have := congrArg List.tail hd
      simpa using this
    have hw : IntKind.i64.wrap ((i : Int) + 1) = (i : Int) + 1 := wrapR ⟨by omega, by omega⟩
    have ih := loop103 w L hLl n0 h r (i + 1) [(0, .str w), (3, .sl .full (L.map AV.str)), (4, .int .i64 ((i + 1 : Nat) : Int))] hd' (by omega) rfl rfl rfl
    simp at ih
    rw [q103_15]
    by_cases hc : x = w
    · simp [s0, s3, s4, hlt, hx, hc, -getElem?_pos]
    · have hc' : ¬ w = x := fun h => hc h.symm
      simp [s0, s3, s4, hlt, hx, hc, hc', hw, ih, -getElem?_pos]
end
end Go.Proofs.Ytkomfefpfalajaa

namespace Go.Proofs.Ytkomfefpfalajaa
open Go Go.Proofs Ab
set_option maxRecDepth 100000
set_option linter.unusedSimpArgs false
set_option linter.unusedVariables false
/-- what is still to hold at the k-th character -/
def goodR (t : List UInt8) (k : Nat) (r : List UInt8) : Bool := r.all isDec && (decide (r = []) || decide (k + r.length ≤ 19)) && (decide (1 < k) || decide (k + r.length ≤ 1) || t.head? != some 48)
theorem loop63_long (t : List UInt8) (most : AV) (ht : t.length ≤ 4000000) (n0 : Nat) (h : Heap) : ∀ (r : List UInt8) (k : Nat) (x : Int) (s : Slots), t.drop k = r → k + r.length = t.length → 19 < t.length → k ≤ 19 → get s 0 = .str t → get s 1 = most → get s 6 = .int .u64 x → get s 7 = .int .i64 k →
    blkK (some [0, 1, 6]) 0 (runF E1 n0 false c63_17 s h) = some (.ret, [(4, .int .u64 0), (5, .bool false)], h)
  | [], k, x, s, hd, hk, hl, hk19, s0, s1, s6, s7 => by
    simp at hk
    omega
  | c :: r, k, x, s, hd, hk, hl, hk19, s0, s1, s6, s7 => by
    simp only [List.length_cons] at hk
    have hlt : (k : Int) < t.length := by omega
    have hx : t[k]? = some c := by
      have := congrArg (fun l => l[0]?) hd
      simpa using this
    have hd' : t.drop (k + 1) = r := by
      have := congrArg List.tail hd
      simpa using this
    have hw : IntKind.i64.wrap ((k : Int) + 1) = (k : Int) + 1 := wrapR ⟨by omega, by omega⟩
    obtain ⟨c0, hc0⟩ : ∃ c0, t[0]? = some c0 := by
      cases t with
      | nil => simp at hk
      | cons c0 r0 => exact ⟨c0, rfl⟩
    rw [q63_17]
    by_cases c1 : (c.toNat : Int) < 48
    · simp [s0, s1, s6, s7, hlt, hx, c1, -getElem?_pos]
    by_cases c2 : (57 : Int) < c.toNat
    · simp [s0, s1, s6, s7, hlt, hx, c1, c2, -getElem?_pos]
    by_cases h18 : 18 < k
    · have h18' : (18 : Int) < k := by omega
      have hk1' : ¬ (k : Int) = 1 := by omega
      have hk1 : ¬ k = 1 := by omega
      simp [s0, s1, s6, s7, hlt, hx, hc0, c1, c2, hk1, hk1', h18, h18', -getElem?_pos]
    · have h18' : ¬ (18 : Int) < k := by omega
      have ih := fun y => loop63_long t most ht n0 h r (k + 1) y [(0, .str t), (1, most), (6, .int .u64 y), (7, .int .i64 ((k + 1 : Nat) : Int))] hd' (by omega) hl (by omega) rfl rfl rfl rfl
      simp at ih
      by_cases hk1 : k = 1
      · subst hk1
        have hlt1 : (1 : Int) < t.length := by omega
        simp at hw ih
        by_cases h48 : (c0.toNat : Int) = 48
        · simp [s0, s1, s6, s7, hlt, hlt1, hx, hc0, c1, c2, h48, -getElem?_pos]
        · simp [s0, s1, s6, s7, hlt, hlt1, hx, hc0, hw, c1, c2, h48, ih, -getElem?_pos]
      · have hk1' : ¬ (k : Int) = 1 := by omega
        simp [s0, s1, s6, s7, hlt, hx, hc0, hw, c1, c2, hk1, hk1', h18, h18', ih, -getElem?_pos]
theorem loop63 (t : List UInt8) (most : AV) (ht : t.length ≤ 4000000) (n0 : Nat) (h : Heap) : ∀ (r : List UInt8) (k v : Nat) (s : Slots), t.drop k = r → k + r.length = t.length → (k + r.length ≤ 19 → (v + 1) * 10 ^ r.length ≤ 10 ^ 19) → get s 0 = .str t → get s 1 = most → get s 6 = .int .u64 v → get s 7 = .int .i64 k →
    blkK (some [0, 1, 6]) 0 (runF E1 n0 false c63_17 s h) = if goodR t k r = true then some (.nrm, [(0, .str t), (1, most), (6, .int .u64 (numOf v r))], h) else some (.ret, [(4, .int .u64 0), (5, .bool false)], h)
  | [], k, v, s, hd, hk, hv, s0, s1, s6, s7 => by
    have hn : ¬ ((k : Int) < t.length) := by simp at hk; omega
    have hg : goodR t k [] = true := by
      unfold goodR
      simp only [List.length_nil] at hk
      by_cases h1 : 1 < k
      · simp [h1]
      · have h2 : k ≤ 1 := by omega
        simp [h2]
    rw [hg, q63_17]
    simp [s0, s1, s6, s7, hn, numOf_nil]
  | c :: r, k, v, s, hd, hk, hv, s0, s1, s6, s7 => by
    simp only [List.length_cons] at hk hv
    have hlt : (k : Int) < t.length := by omega
    have hx : t[k]? = some c := by
      have := congrArg (fun l => l[0]?) hd
      simpa using this
    have hd' : t.drop (k + 1) = r := by
      have := congrArg List.tail hd
      simpa using this
    have hw : IntKind.i64.wrap ((k : Int) + 1) = (k : Int) + 1 := wrapR ⟨by omega, by omega⟩
    obtain ⟨c0, hc0⟩ : ∃ c0, t[0]? = some c0 := by
      cases t with
      | nil => simp at hk
      | cons c0 r0 => exact ⟨c0, rfl⟩
    have hhd : t.head? = some c0 := by rw [List.head?_eq_getElem?]; exact hc0
    have e48 : ((c0.toNat : Int) = 48) ↔ c0 = 48 := by
      rw [show (48 : Int) = ((48 : UInt8).toNat : Int) from rfl, Int.ofNat_inj, UInt8.toNat_inj]
    rw [q63_17]
    by_cases hc : isDec c = true
    · have hc' := isDec_iff.1 hc
      have c1 : ¬ (c.toNat : Int) < 48 := by omega
      have c2 : ¬ (57 : Int) < c.toNat := by omega
      by_cases hb : k = 1 ∧ c0 = 48
      · obtain ⟨rfl, rfl⟩ := hb
        have hlt1 : (1 : Int) < t.length := by omega
        have hg : goodR t 1 (c :: r) = false := by
          unfold goodR
          rw [hhd]
          simp
        rw [hg]
        simp [s0, s1, s6, s7, hlt, hlt1, hx, hc0, c1, c2, -getElem?_pos]
      · by_cases h18 : 18 < k
        · have h18' : (18 : Int) < k := by omega
          have hg : goodR t k (c :: r) = false := by
            unfold goodR
            have : ¬ k + (r.length + 1) ≤ 19 := by omega
            simp [this]
          rw [hg]
          by_cases hk1 : k = 1
          · omega
          · have hk1' : ¬ (k : Int) = 1 := by omega
            simp [s0, s1, s6, s7, hlt, hx, hc0, c1, c2, hk1, hk1', h18', h18, -getElem?_pos]
        · have h18' : ¬ (18 : Int) < k := by omega
          have hg : goodR t k (c :: r) = goodR t (k + 1) r := by
            unfold goodR
            rw [hhd]
            have e1 : (c :: r).all isDec = r.all isDec := by simp [hc]
            have e2 : (decide ((c :: r) = []) || decide (k + (c :: r).length ≤ 19)) = (decide (r = []) || decide (k + 1 + r.length ≤ 19)) := by
              by_cases hr : r = []
              · subst hr; simp; omega
              · have : k + (r.length + 1) = k + 1 + r.length := by omega
                simp [hr, this]
            have e3 : (decide (1 < k) || decide (k + (c :: r).length ≤ 1) || some c0 != some 48) = (decide (1 < k + 1) || decide (k + 1 + r.length ≤ 1) || some c0 != some 48) := by
              by_cases h0 : k = 0
              · subst h0
                simp [Nat.add_comm]
              · by_cases h1 : k = 1
                · have : c0 ≠ 48 := fun h => hb ⟨h1, h⟩
                  subst h1
                  simp [this]
                · have : 1 < k := by omega
                  have : 1 < k + 1 := by omega
                  simp [*]
            rw [e1, e2, e3]
          rw [hg]
          by_cases h19 : k + (r.length + 1) ≤ 19
          · have hv := hv h19
            have hp : (10 * v + (c.toNat - 48) + 1) * 10 ^ r.length ≤ 10 ^ 19 := by
              refine Nat.le_trans ?_ hv
              rw [Nat.pow_succ, Nat.mul_comm (10 ^ r.length) 10, ← Nat.mul_assoc]
              exact Nat.mul_le_mul_right _ (by omega)
            have hp2 : 10 * v + (c.toNat - 48) + 1 ≤ 10 ^ 19 := Nat.le_trans (Nat.le_mul_of_pos_right _ (Nat.pow_pos (by omega))) hp
            have w1 : IntKind.u64.wrap (10 * (v : Int)) = 10 * (v : Int) := wrapU (by omega) (by omega)
            have w2 : IntKind.u8.wrap ((c.toNat : Int) - 48) = (c.toNat : Int) - 48 := wrap8 (by omega) (by omega)
            have w3 : IntKind.u64.wrap ((c.toNat : Int) - 48) = (c.toNat : Int) - 48 := wrapU (by omega) (by omega)
            have w4 : IntKind.u64.wrap (10 * (v : Int) + ((c.toNat : Int) - 48)) = 10 * (v : Int) + ((c.toNat - 48 : Nat) : Int) := by
              rw [wrapU (by omega) (by omega)]; omega
            have ih := loop63 t most ht n0 h r (k + 1) (10 * v + (c.toNat - 48)) [(0, .str t), (1, most), (6, .int .u64 ((10 * v + (c.toNat - 48) : Nat) : Int)), (7, .int .i64 ((k + 1 : Nat) : Int))] hd' (by omega) (fun _ => hp) rfl rfl rfl rfl
            simp at ih
            by_cases hk1 : k = 1
            · have h48 : ¬ (c0.toNat : Int) = 48 := fun h => hb ⟨hk1, e48.1 h⟩
              have hk1' : (k : Int) = 1 := by omega
              subst hk1
              have hlt1 : (1 : Int) < t.length := by omega
              simp at hw
              simp [s0, s1, s6, s7, hlt, hlt1, hx, hc0, hw, c1, c2, h48, h18', w1, w2, w3, w4, numOf_cons, -getElem?_pos]
              simpa using ih
            · have hk1' : ¬ (k : Int) = 1 := by omega
              simp [s0, s1, s6, s7, hlt, hx, hc0, hw, c1, c2, hk1, hk1', h18', w1, w2, w3, w4, ih, numOf_cons, -getElem?_pos]
          · have hgf : goodR t (k + 1) r = false := by
              rw [← hg]
              unfold goodR
              simp [h19]
            rw [hgf]
            have hl := loop63_long t most ht n0 h (c :: r) k v s hd (by simp only [List.length_cons]; omega) (by omega) (by omega) s0 s1 s6 s7
            rw [q63_17] at hl
            simpa using hl
    · have hg : goodR t k (c :: r) = false := by unfold goodR; simp [hc]
      rw [hg]
      have hc' : ¬ (48 ≤ c.toNat ∧ c.toNat ≤ 57) := fun h => hc (isDec_iff.2 h)
      by_cases c1 : (c.toNat : Int) < 48
      · simp [s0, s1, s6, s7, hlt, hx, c1, -getElem?_pos]
      · have c2 : (57 : Int) < c.toNat := by omega
        simp [s0, s1, s6, s7, hlt, hx, c1, c2, -getElem?_pos]
def numR (s : List UInt8) (most : Nat) : Option Nat := if s.all isDec = true ∧ s ≠ [] ∧ s.length ≤ 19 ∧ (s.head? ≠ some 48 ∨ s.length = 1) ∧ numOf 0 s ≤ most then some (numOf 0 s) else none
def tupU : Option Nat → AV
  | some v => .tup [.int .u64 v, .bool true]
  | none => .tup [.int .u64 0, .bool false]
theorem number63 (t : List UInt8) (most : Nat) (ht : t.length ≤ 4000000) (H : Heap) : callF E1 63 [.str t, .int .u64 most] H = some (tupU (numR t most), H) := by
  rw [go (fn := F63) rfl rfl rfl]
  have hl := loop63 t (.int .u64 most) ht H.length H t 0 0 [(0, .str t), (1, .int .u64 most), (6, .int .u64 (0 : Nat)), (7, .int .i64 (0 : Nat))] rfl (by simp) (by
    intro h
    rw [Nat.zero_add, Nat.one_mul]
    exact Nat.pow_le_pow_right (by omega) (by omega)) rfl rfl rfl rfl
  simp at hl
  by_cases hne : t = []
  · subst hne
    have hg : goodR [] 0 [] = true := rfl
    simp [hg] at hl
    simp [F63, hl, numR, tupU]
  · have h0 : t.length ≠ 0 := by simpa using hne
    by_cases hg : goodR t 0 t = true
    · have hg' := hg
      unfold goodR at hg'
      simp [hne] at hg'
      obtain ⟨⟨g1, g2⟩, g3⟩ := hg'
      have hall : t.all isDec = true := by simpa using g1
      have hh : t.head? ≠ some 48 ∨ t.length = 1 := by
        rcases g3 with g3 | g3
        · right; omega
        · left; exact g3
      rw [if_pos hg] at hl
      by_cases hm : numOf 0 t ≤ most
      · have hm' : ¬ (most : Int) < (numOf 0 t : Nat) := by omega
        have hr : numR t most = some (numOf 0 t) := by unfold numR; rw [if_pos ⟨hall, hne, g2, hh, hm⟩]
        simp [F63, hl, hr, tupU, hne, hm, hm']
      · have hm' : (most : Int) < (numOf 0 t : Nat) := by omega
        have hm2 : most < numOf 0 t := by omega
        have hr : numR t most = none := by unfold numR; rw [if_neg (fun h => hm h.2.2.2.2)]
        simp [F63, hl, hr, tupU, hne, hm, hm', hm2]
    · rw [if_neg hg] at hl
      have hr : numR t most = none := by
        unfold numR
        rw [if_neg]
        intro ⟨h1, h2, h3, h4, h5⟩
        apply hg
        unfold goodR
        rw [h1]
        simp [h3]
        rcases h4 with h4 | h4
        · exact .inr h4
        · left; omega
      simp [F63, hl, hr, tupU]
theorem parse149 (t : List UInt8) (ht : t.length ≤ 4000000) (H : Heap) : callF E1 149 [.str t] H = some (tupW (parseW t), H) := by
  rw [go (fn := F149) rfl rfl rfl]
  have hN := number63 t 9223372036854775807 ht
  have w0 : IntKind.i64.wrap 0 = 0 := by decide
  cases t with
  | nil =>
    have hr : numR [] 9223372036854775807 = none := rfl
    have hp : parseW [] = none := rfl
    rw [hr] at hN
    simp [tupU] at hN
    rw [hp]
    simp [F149, hN, tupW, w0]
  | cons c r =>
    have e45 : ((c.toNat : Int) = 45) ↔ c = 45 := by
      rw [show (45 : Int) = ((45 : UInt8).toNat : Int) from rfl, Int.ofNat_inj, UInt8.toNat_inj]
    by_cases hc : c = 45
    · subst hc
      have hM := number63 r 9223372036854775808 (by simp at ht; omega)
      by_cases hz : r.all isDec = true ∧ r ≠ [] ∧ r.length ≤ 19 ∧ r.head? ≠ some 48 ∧ numOf 0 r ≤ 9223372036854775808
      · have hr : numR r 9223372036854775808 = some (numOf 0 r) := by
          unfold numR
          rw [if_pos ⟨hz.1, hz.2.1, hz.2.2.1, .inl hz.2.2.2.1, hz.2.2.2.2⟩]
        have hp : parseW (45 :: r) = some (-(numOf 0 r : Int)) := by
          unfold parseW
          rw [if_pos (show (45 :: r : List UInt8).head? = some 45 from rfl)]
          exact if_pos hz
        have h0 : numOf 0 r ≠ 0 := by
          intro h
          have h1 := digs_numOf r.length r rfl hz.2.1 (List.all_eq_true.1 hz.1) (.inl hz.2.2.2.1)
          rw [h] at h1
          have : digs 0 = [48] := by rw [digs_lt (by omega)]; rfl
          rw [this] at h1
          rw [← h1] at hz
          exact hz.2.2.2.1 rfl
        have hle := hz.2.2.2.2
        have w1 : IntKind.u64.wrap ((numOf 0 r : Int) - 1) = (numOf 0 r : Int) - 1 := wrapU (by omega) (by omega)
        have w2 : IntKind.i64.wrap ((numOf 0 r : Int) - 1) = (numOf 0 r : Int) - 1 := wrapR ⟨by omega, by omega⟩
        have w3 : IntKind.i64.wrap (-((numOf 0 r : Int) - 1)) = -((numOf 0 r : Int) - 1) := wrapR ⟨by omega, by omega⟩
        have w4 : IntKind.i64.wrap (-((numOf 0 r : Int) - 1) - 1) = -(numOf 0 r : Int) := by rw [wrapR ⟨by omega, by omega⟩]; omega
        have h0' : ¬ (numOf 0 r : Int) = 0 := by omega
        rw [hr] at hM
        simp [tupU] at hM
        rw [hp]
        simp [F149, hM, tupW, h0, h0', w1, w2, w3, w4, -getElem?_pos, List.getElem?_cons_zero]
        omega
      · have hp : parseW (45 :: r) = none := by
          unfold parseW
          rw [if_pos (show (45 :: r : List UInt8).head? = some 45 from rfl)]
          exact if_neg hz
        rw [hp]
        cases hx : numR r 9223372036854775808 with
        | none =>
          rw [hx] at hM
          simp [tupU] at hM
          simp [F149, hM, tupW, -getElem?_pos, List.getElem?_cons_zero]
          omega
        | some v =>
          have hv : v = 0 := by
            unfold numR at hx
            split at hx
            · rename_i h
              simp at hx
              rcases h.2.2.2.1 with h48 | h1
              · exact absurd ⟨h.1, h.2.1, h.2.2.1, h48, h.2.2.2.2⟩ hz
              · obtain ⟨x, rfl⟩ : ∃ x, r = [x] := by
                  match r, h1 with
                  | [x], _ => exact ⟨x, rfl⟩
                by_cases hx48 : x = 48
                · subst hx48
                  rw [← hx]
                  rfl
                · exact absurd ⟨h.1, h.2.1, h.2.2.1, by simpa using hx48, h.2.2.2.2⟩ hz
            · cases hx
          subst hv
          rw [hx] at hM
          simp [tupU] at hM
          simp [F149, hM, tupW, -getElem?_pos, List.getElem?_cons_zero]
          omega
    · have hc' : ¬ (c.toNat : Int) = 45 := fun h => hc (e45.1 h)
      by_cases hz : (c :: r).all isDec = true ∧ (c :: r) ≠ [] ∧ (c :: r).length ≤ 19 ∧ ((c :: r).head? ≠ some 48 ∨ (c :: r).length = 1) ∧ numOf 0 (c :: r) ≤ 9223372036854775807
      · have hr : numR (c :: r) 9223372036854775807 = some (numOf 0 (c :: r)) := by
          unfold numR
          rw [if_pos hz]
        have hp : parseW (c :: r) = some (numOf 0 (c :: r) : Int) := by
          unfold parseW
          rw [if_neg (by simpa using hc), if_pos hz]
        have hle := hz.2.2.2.2
        have w1 : IntKind.i64.wrap (numOf 0 (c :: r) : Int) = numOf 0 (c :: r) := wrapR ⟨by omega, by omega⟩
        rw [hr] at hN
        simp [tupU] at hN
        rw [hp]
        simp [F149, hc', hN, tupW, w1, -getElem?_pos, List.getElem?_cons_zero]
      · have hr : numR (c :: r) 9223372036854775807 = none := by
          unfold numR
          rw [if_neg hz]
        have hp : parseW (c :: r) = none := by
          unfold parseW
          rw [if_neg (by simpa using hc), if_neg hz]
        rw [hr] at hN
        simp [tupU] at hN
        rw [hp]
        simp [F149, hc', hN, tupW, w0, -getElem?_pos, List.getElem?_cons_zero]
end Go.Proofs.Ytkomfefpfalajaa

namespace Go.Proofs.Ytkomfefpfalajaa
open Go Go.Proofs Ab
set_option maxRecDepth 100000
set_option linter.unusedSimpArgs false
set_option linter.unusedVariables false
theorem reserved103 (w : List UInt8) (H : Heap) : callF E1 103 [.str w] H = some (.bool (reservedB w), H) := by
  rw [go (fn := F103) rfl rfl rfl]
  have hl := loop103 w [[97, 114, 114, 97, 121], [102, 117, 110, 99], [118, 97, 114], [114, 101, 116, 117, 114, 110], [105, 102], [101, 108, 115, 101], [119, 104, 105, 108, 101], [111, 117, 116], [116, 114, 97, 112]] (by simp) H.length H [[97, 114, 114, 97, 121], [102, 117, 110, 99], [118, 97, 114], [114, 101, 116, 117, 114, 110], [105, 102], [101, 108, 115, 101], [119, 104, 105, 108, 101], [111, 117, 116], [116, 114, 97, 112]] 0 [(0, .str w), (3, .sl .full ([[97, 114, 114, 97, 121], [102, 117, 110, 99], [118, 97, 114], [114, 101, 116, 117, 114, 110], [105, 102], [101, 108, 115, 101], [119, 104, 105, 108, 101], [111, 117, 116], [116, 114, 97, 112]].map AV.str)), (4, .int .i64 (0 : Nat))] rfl rfl rfl rfl rfl
  unfold reservedB
  cases hc : [[97, 114, 114, 97, 121], [102, 117, 110, 99], [118, 97, 114], [114, 101, 116, 117, 114, 110], [105, 102], [101, 108, 115, 101], [119, 104, 105, 108, 101], [111, 117, 116], [116, 114, 97, 112]].contains w with
  | true =>
    rw [hc] at hl
    simp at hl
    simp [F103, hl]
  | false =>
    rw [hc] at hl
    simp at hl
    simp [F103, hl]
theorem numOk_parse {s : List UInt8} (h : numOk s = true) (hne : s ≠ []) : parseW s = if numOf 0 s ≤ 9223372036854775807 then some (numOf 0 s : Int) else none := by
  unfold numOk at h
  simp at h
  obtain ⟨⟨h1, h2⟩, h3, h4⟩ := h
  have hall : s.all isDec = true := by simpa using h1
  have h45 : s.head? ≠ some 45 := by
    intro he
    cases s with
    | nil => cases he
    | cons c r =>
      simp at he
      subst he
      have := h1 45 (by simp)
      exact absurd this (by decide)
  unfold parseW
  rw [if_neg h45]
  by_cases hm : numOf 0 s ≤ 9223372036854775807
  · rw [if_pos hm, if_pos ⟨hall, hne, h3, h2, hm⟩]
  · rw [if_neg hm, if_neg (fun h => hm h.2.2.2.2)]
theorem numOk_numR {s : List UInt8} (h : numOk s = true) (hne : s ≠ []) (m : Nat) : numR s m = if numOf 0 s ≤ m then some (numOf 0 s) else none := by
  unfold numOk at h
  simp at h
  obtain ⟨⟨h1, h2⟩, h3, h4⟩ := h
  have hall : s.all isDec = true := by simpa using h1
  unfold numR
  by_cases hm : numOf 0 s ≤ m
  · rw [if_pos hm, if_pos ⟨hall, hne, h3, h2, hm⟩]
  · rw [if_neg hm, if_neg (fun h => hm h.2.2.2.2)]
theorem numOk_neg {s : List UInt8} (h : numOk s = true) (hne : s ≠ []) (h0 : s ≠ [48]) : parseW (45 :: s) = some (negV s) := by
  unfold numOk at h
  simp at h
  obtain ⟨⟨h1, h2⟩, h3, h4⟩ := h
  have hall : s.all isDec = true := by simpa using h1
  have h48 : s.head? ≠ some 48 := by
    rcases h2 with h2 | h2
    · exact h2
    · intro he
      match s, h2 with
      | [x], _ =>
        simp at he
        subst he
        exact h0 rfl
  have hp : parseW (45 :: s) = some (-(numOf 0 s : Int)) := by
    unfold parseW
    rw [if_pos (show (45 :: s : List UInt8).head? = some 45 from rfl)]
    exact if_pos ⟨hall, hne, h3, h48, h4⟩
  unfold negV
  rw [hp]
section
variable (tk : List Tok) (en : Int) (o : Nat) (hk : TokOk2 tk)
def inS (st : St) : Prop := ∀ p, st = .ok p → p ≤ tk.length
def ConR {α : Type} (f : Nat) (xs : List AV) (enc : α → AV) (P : Nat → Rs α) (st : St) : Prop :=
  ∃ v, (∀ H : Heap, o < H.length → callF E1 f (.ptr o 0 :: xs) (H.set o (rdR tk en st)) = some (enc v, H.set o (rdR tk en (stR (runS P st))))) ∧ valOk (runS P st) v
include hk
theorem atName65 (st : St) (hp : inS tk st) (H : Heap) (ho : o < H.length) : callF E1 65 [.ptr o 0, .int .i64 0] (H.set o (rdR tk en st)) = some (.bool (stB st (nmB tk)), H.set o (rdR tk en st)) := by
  rw [go (fn := F65) rfl rfl rfl]
  have h1 := ok29 tk en o st
  have hl := hk.len
  cases st with
  | error p => simp [F65, ho, h1] <;> rfl
  | ok p =>
    have hp := hp p rfl
    have hw := wrap_icn (n := p) (k := 0) (by omega)
    simp at hw
    by_cases hlt : p < tk.length
    · have hg := tokAt_get tk hlt
      by_cases hs : (tokAt tk p).kind = 1
      · simp [F65, ho, h1, hw, hlt, hg, encT_mk, hs, nmB, reserved103, -getElem?_pos] <;> rfl
      · simp [F65, ho, h1, hw, hlt, hg, encT_mk, hs, nmB, -getElem?_pos] <;> rfl
    · have hz : nmB tk p = false := by
        cases hb : nmB tk p with
        | false => rfl
        | true => exact absurd (nm_lt tk hb) hlt
      simp [F65, ho, h1, hw, hlt, hz] <;> rfl
theorem atNumber143 (st : St) (k : Nat) (hk1 : k ≤ 1) (hp : inS tk st) (H : Heap) (ho : o < H.length) : callF E1 143 [.ptr o 0, .int .i64 k] (H.set o (rdR tk en st)) = some (.bool (stB st (fun p => numB tk (p + k))), H.set o (rdR tk en st)) := by
  rw [go (fn := F143) rfl rfl rfl]
  have h1 := ok29 tk en o st
  have hl := hk.len
  cases st with
  | error p => simp [F143, ho, h1] <;> rfl
  | ok p =>
    have hp := hp p rfl
    have hw := wrap_icn (n := p) (k := k) (by omega)
    by_cases hlt : p + k < tk.length
    · have hg := tokAt_get tk hlt
      simp [F143, ho, h1, hw, hlt, hg, encT_mk, numB, -getElem?_pos] <;> rfl
    · have hz : numB tk (p + k) = false := by
        cases hb : numB tk (p + k) with
        | false => rfl
        | true => exact absurd (num_lt tk hb) hlt
      simp [F143, ho, h1, hw, hlt, hz] <;> rfl
theorem name31 (st : St) (hp : inS tk st) : ConR tk en o 31 [] AV.str (nameP tk) st := by
  have hn := atName65 tk en o hk st hp
  have hf := fail66 tk en o st
  have hl := hk.len
  cases hc : stB st (nmB tk) with
  | true =>
    obtain ⟨p, rfl, hb⟩ := stB_true hc
    have hlt := nm_lt tk hb
    have hw := wrap_ic (n := p) (by omega)
    have hw1 := wrap_ic1 (n := p) (by omega)
    have hg := tokAt_get tk hlt
    have hr : nameP tk p = .ok ((tokAt tk p).text, p + 1) := by simp [nameP, hb]
    refine ⟨(tokAt tk p).text, fun H ho => ?_, by simp [hr]⟩
    rw [go (fn := F31) rfl rfl rfl]
    simp [hb] at hn
    simp [F31, ho, hn, hw, hw1, hg, encT_mk, hr, -getElem?_pos] <;> rfl
  | false =>
    simp [hc] at hn
    have hr : stR (runS (nameP tk) st) = bad st := by
      cases st with
      | error p => rfl
      | ok p => simp at hc; simp [nameP, hc]
    refine ⟨[], fun H ho => ?_, ?_⟩
    · rw [go (fn := F31) rfl rfl rfl, hr]
      simp [F31, ho, hn, hf] <;> rfl
    · cases st with
      | error p => simp
      | ok p => simp at hc; simp [nameP, hc]
end
end Go.Proofs.Ytkomfefpfalajaa

namespace Go.Proofs.Ytkomfefpfalajaa
open Go Go.Proofs Ab
set_option maxRecDepth 100000
set_option linter.unusedSimpArgs false
set_option linter.unusedVariables false
section
variable (tk : List Tok) (en : Int) (o : Nat) (hk : TokOk2 tk)
include hk
theorem numText {p : Nat} (hn : numB tk p = true) : numOk (tokAt tk p).text = true ∧ (tokAt tk p).text ≠ [] ∧ (tokAt tk p).text.length ≤ 20000 := by
  have hlt := num_lt tk hn
  have h1 := hk.ne p hlt
  refine ⟨hk.num p (by simpa [numB] using hn), ?_, hk.text p⟩
  intro h
  rw [h] at h1
  simp at h1
/-- a number, not negated -/
theorem number144_pos (p : Nat) (hn : numB tk p = true) (n : Nat) : ConR tk en o 144 [.bool false] encE (primP tk (n + 1)) (.ok p) := by
  obtain ⟨h1, h2, h3⟩ := numText tk hk hn
  have hlt := num_lt tk hn
  have hl := hk.len
  have hg := tokAt_get tk hlt
  have hw := wrap_ic (n := p) (by omega)
  have hp := parse149 (tokAt tk p).text (by omega)
  have hf := app (fail66 tk en o (.ok p))
  simp at hf
  cases hq : parseW (tokAt tk p).text with
  | none =>
    have hr : primP tk (n + 1) p = .error p := by simp [primP, hn, hq]
    refine ⟨.mk 0 0 [] 0 [], fun H ho => ?_, by simp [hr]⟩
    rw [go (fn := F144) rfl rfl rfl]
    simp [F144, ho, hg, encT_mk, hp, hq, tupW, hf, hr, -getElem?_pos, List.getElem?_cons_zero, List.getElem?_cons_succ] <;> rfl
  | some v =>
    have hr : primP tk (n + 1) p = .ok (numE v, p + 1) := by simp [primP, hn, hq]
    refine ⟨numE v, fun H ho => ?_, by simp [hr]⟩
    rw [go (fn := F144) rfl rfl rfl]
    simp [F144, ho, hg, encT_mk, hp, hq, tupW, hw, hr, numE, -getElem?_pos, List.getElem?_cons_zero, List.getElem?_cons_succ] <;> rfl
/-- a number behind a minus -/
theorem number144_neg (p : Nat) (hn : numB tk p = true) (H : Heap) (ho : o < H.length) : callF E1 144 [.ptr o 0, .bool true] (H.set o (rdR tk en (.ok p))) = some (encE (numE (negV (tokAt tk p).text)), H.set o (rdR tk en (.ok (p + 1)))) := by
  obtain ⟨h1, h2, h3⟩ := numText tk hk hn
  have hlt := num_lt tk hn
  have hl := hk.len
  have hg := tokAt_get tk hlt
  have hw := wrap_ic (n := p) (by omega)
  have hp := parse149 (tokAt tk p).text (by omega)
  have hm := parse149 (45 :: (tokAt tk p).text) (by simp; omega)
  by_cases h0 : (tokAt tk p).text = [48]
  · have hz : negV [48] = 0 := rfl
    rw [h0] at hp hm
    have e1 : parseW [48] = some 0 := rfl
    have e2 : parseW [45, 48] = none := rfl
    rw [e1] at hp
    rw [e2] at hm
    simp [tupW] at hp hm
    rw [go (fn := F144) rfl rfl rfl, h0, hz]
    simp [F144, ho, hg, encT_mk, hp, hm, hw, h0, numE, -getElem?_pos, List.getElem?_cons_zero, List.getElem?_cons_succ] <;> rfl
  · have hq := numOk_neg h1 h2 h0
    have h0' : ((tokAt tk p).text == [48]) = false := by simpa using h0
    rw [hq] at hm
    simp [tupW] at hm
    have hb : (1 + (tokAt tk p).text.length) ≤ 9223372036854775807 := by omega
    rw [go (fn := F144) rfl rfl rfl]
    cases hx : parseW (tokAt tk p).text with
    | none =>
      rw [hx] at hp
      simp [tupW] at hp
      simp [F144, ho, hg, encT_mk, hp, hm, hw, h0, h0', hb, numE, -getElem?_pos, List.getElem?_cons_zero, List.getElem?_cons_succ] <;> rfl
    | some v =>
      rw [hx] at hp
      simp [tupW] at hp
      simp [F144, ho, hg, encT_mk, hp, hm, hw, h0, h0', hb, numE, -getElem?_pos, List.getElem?_cons_zero, List.getElem?_cons_succ] <;> rfl
theorem small32 (st : St) (hp : inS tk st) : ConR tk en o 32 [] (fun v => .int .i64 v) (smallP tk) st := by
  have h1 := ok29 tk en o st
  have hf := fail66 tk en o st
  have hl := hk.len
  cases st with
  | error p =>
    refine ⟨0, fun H ho => ?_, by simp⟩
    rw [go (fn := F32) rfl rfl rfl]
    simp at hf
    simp [F32, ho, h1, hf] <;> rfl
  | ok p =>
    have hp := hp p rfl
    simp at hf
    cases hn : numB tk p with
    | false =>
      have hr : smallP tk p = .error p := by simp [smallP, hn]
      refine ⟨0, fun H ho => ?_, by simp [hr]⟩
      rw [go (fn := F32) rfl rfl rfl]
      by_cases hlt : p < tk.length
      · have hg := tokAt_get tk hlt
        have hk2 : ¬ (tokAt tk p).kind = 2 := by intro h; simp [numB, h] at hn
        simp [F32, ho, h1, hf, hlt, hg, encT_mk, hk2, hr, -getElem?_pos, List.getElem?_cons_zero, List.getElem?_cons_succ] <;> rfl
      · have hlt' : tk.length ≤ p := by omega
        simp [F32, ho, h1, hf, hlt, hlt', hr] <;> rfl
    | true =>
      obtain ⟨n1, n2, n3⟩ := numText tk hk hn
      have hlt := num_lt tk hn
      have hlt' : ¬ tk.length ≤ p := by omega
      have hg := tokAt_get tk hlt
      have hk2 : (tokAt tk p).kind = 2 := by simpa [numB] using hn
      have hw := wrap_ic (n := p) (by omega)
      have hN := number63 (tokAt tk p).text 1000000 (by omega)
      rw [numOk_numR n1 n2] at hN
      have hpw := numOk_parse n1 n2
      by_cases hm : numOf 0 (tokAt tk p).text ≤ 1000000
      · have hr : smallP tk p = .ok ((numOf 0 (tokAt tk p).text : Int), p + 1) := by
          unfold smallP
          rw [hn, hpw, if_pos (show numOf 0 (tokAt tk p).text ≤ 9223372036854775807 by omega)]
          simp
          omega
        have w1 : IntKind.i64.wrap (numOf 0 (tokAt tk p).text : Int) = numOf 0 (tokAt tk p).text := wrapR ⟨by omega, by omega⟩
        rw [if_pos hm] at hN
        simp [tupU] at hN
        refine ⟨_, fun H ho => ?_, by rw [runS_ok, hr, valOk_ok]⟩
        rw [go (fn := F32) rfl rfl rfl]
        simp [F32, ho, h1, hlt, hlt', hg, encT_mk, hk2, hN, hw, w1, hr, -getElem?_pos, List.getElem?_cons_zero, List.getElem?_cons_succ] <;> rfl
      · have hr : smallP tk p = .error p := by
          unfold smallP
          rw [hn, hpw]
          by_cases hb : numOf 0 (tokAt tk p).text ≤ 9223372036854775807
          · rw [if_pos hb]
            simp
            omega
          · rw [if_neg hb]
            simp
        rw [if_neg hm] at hN
        simp [tupU] at hN
        refine ⟨0, fun H ho => ?_, by simp [hr]⟩
        rw [go (fn := F32) rfl rfl rfl]
        simp [F32, ho, h1, hlt, hlt', hg, encT_mk, hk2, hN, hf, hr, -getElem?_pos, List.getElem?_cons_zero, List.getElem?_cons_succ] <;> rfl
end
end Go.Proofs.Ytkomfefpfalajaa
