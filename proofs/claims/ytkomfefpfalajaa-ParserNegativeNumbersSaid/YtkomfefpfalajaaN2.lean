/- The law of negative numbers, run. -/
import Derived.Test.YtkomfefpfalajaaN1
import Derived.Test.YtkomfefpfalajaaAb11
namespace Go.Proofs.Ytkomfefpfalajaa
open Go Go.Proofs Ab
set_option maxRecDepth 100000
set_option linter.unusedSimpArgs false
set_option linter.unusedVariables false
theorem rep_succ : ∀ k, rep k ++ [45, 32] = rep (k + 1)
  | 0 => rfl
  | k + 1 => by
    have := rep_succ k
    show 45 :: 32 :: (rep k ++ [45, 32]) = _
    rw [this]
    rfl
theorem loop8a (n b : Int) (k : Nat) (hk : b % 6 = k) : ∀ (j i : Nat) (s : Slots) (h : Heap), i + j = k → get s 0 = .int .i64 n → get s 1 = .int .i64 b → get s 5 = .str (rep i) → get s 6 = .int .i64 i →
    blkK (some [0, 1, 5]) 0 (runF E1 0 false c8_15 s h) = some (.nrm, [(0, .int .i64 n), (1, .int .i64 b), (5, .str (rep k))], h)
  | 0, i, s, h, hi, s0, s1, s5, s6 => by
    have hp := pick b 6 (by omega) (by omega)
    rw [hk] at hp
    have hn : ¬ ((i : Int) < k) := by omega
    have : i = k := by omega
    subst this
    rw [q8_15]
    simp [s0, s1, s5, s6, hp]
  | j + 1, i, s, h, hi, s0, s1, s5, s6 => by
    have hp := pick b 6 (by omega) (by omega)
    rw [hk] at hp
    have hlt : (i : Int) < k := by omega
    have hlt' : i < k := by omega
    have hw : IntKind.i64.wrap ((i : Int) + 1) = (i : Int) + 1 := wrapR ⟨by omega, by omega⟩
    have hl := rep_length i
    have hb : 2 * i + 2 ≤ 9223372036854775807 := by omega
    have ih := loop8a n b k hk j (i + 1) [(0, .int .i64 n), (1, .int .i64 b), (5, .str (rep (i + 1))), (6, .int .i64 ((i + 1 : Nat) : Int))] h (by omega) rfl rfl rfl rfl
    simp at ih
    rw [q8_15]
    simp [s0, s1, s5, s6, hp, hlt, hlt', hw, hl, rep_succ, ih]
    omega
theorem loop8b (n b : Int) (k : Nat) (hk : b % 6 = k) (z : Ex) (P Q : Ob) : ∀ (j i : Nat) (c : Cap) (s : Slots), i + j = k → get s 0 = .int .i64 n → get s 1 = .int .i64 b → get s 9 = .ptr 2 0 → get s 10 = .int .i64 i →
    ∃ c', blkK (some [0, 1, 9]) 2 (runF E1 0 false c8_40 s (P :: Q :: [.cells (leavesC c (negIt j z))])) = some (.nrm, [(0, .int .i64 n), (1, .int .i64 b), (9, .ptr 2 0)], P :: Q :: [.cells (leavesC c' z)])
  | 0, i, c, s, hi, s0, s1, s9, s10 => by
    have hp := pick b 6 (by omega) (by omega)
    rw [hk] at hp
    have : i = k := by omega
    subst this
    refine ⟨c, ?_⟩
    rw [q8_40]
    simp [s0, s1, s9, s10, hp, negIt]
  | j + 1, i, c, s, hi, s0, s1, s9, s10 => by
    have hp := pick b 6 (by omega) (by omega)
    rw [hk] at hp
    have hlt : (i : Int) < k := by omega
    have hlt' : i < k := by omega
    have hw : IntKind.i64.wrap ((i : Int) + 1) = (i : Int) + 1 := wrapR ⟨by omega, by omega⟩
    obtain ⟨c', ih⟩ := loop8b n b k hk z P Q j (i + 1) .none [(0, .int .i64 n), (1, .int .i64 b), (9, .ptr 2 0), (10, .int .i64 ((i + 1 : Nat) : Int))] (by omega) rfl rfl rfl rfl
    refine ⟨c', ?_⟩
    simp only [negIt]
    generalize hx : negIt j z = x at ih
    obtain ⟨k1, n1, w1, o1, ks1⟩ := x
    simp [leavesC_mk] at ih
    rw [q8_40]
    simp [s0, s1, s9, s10, hp, hlt, hlt', hw, opE, leavesC_mk, ih, -getElem?_pos, List.getElem?_cons_zero, List.getElem?_cons_succ]
theorem neg_run (a b : Int) (ha : InR a) : callF E1 8 [.int .i64 a, .int .i64 b] [] = some (.bool true, []) := by
  obtain ⟨k, hk⟩ : ∃ k : Nat, b % 6 = k := ⟨(b % 6).toNat, by omega⟩
  have hk5 : k ≤ 5 := by omega
  obtain ⟨n, hn, hn2⟩ : ∃ n : Nat, (if a < 0 then -(a + 1) else a) = (n : Int) ∧ n < 9223372036854775808 := by
    obtain ⟨h1, h2⟩ := ha
    by_cases h : a < 0
    · rw [if_pos h]; exact ⟨(-(a + 1)).toNat, by omega, by omega⟩
    · rw [if_neg h]; exact ⟨a.toNat, by omega, by omega⟩
  have hp := pick b 6 (by omega) (by omega)
  rw [hk] at hp
  have ht := text17 n hn2
  have hdl := digs_length 18 n (by omega)
  have hrl := rep_length k
  have e1 := parse11 (negText k (digs n)) (by unfold negText; simp [headL, hrl]; omega)
  have e2 := parse11 (headL ++ ([57, 50, 50, 51, 51, 55, 50, 48, 51, 54, 56, 53, 52, 55, 55, 53, 56, 48, 56] ++ [59, 32, 125])) (by simp [headL])
  have e3 := parse11 (headL ++ ([45, 57, 50, 50, 51, 51, 55, 50, 48, 51, 54, 56, 53, 52, 55, 55, 53, 56, 48, 56] ++ [59, 32, 125])) (by simp [headL])
  rw [neg_law k n hk5 hn2] at e1
  rw [neg_bad] at e2
  rw [neg_least] at e3
  have l1 := loop8a n b k hk k 0 [(0, .int .i64 n), (1, .int .i64 b), (5, .str []), (6, .int .i64 (0 : Nat))] [] (by omega) rfl rfl rfl rfl
  simp at l1
  have hw0 : IntKind.i64.wrap (-(n : Int)) = -(n : Int) := wrapR ⟨by omega, by omega⟩
  have hst : runF E1 0 false c8_60 [(0, .int .i64 a), (1, .int .i64 b)] [] = runF E1 0 false c8_58 [(0, .int .i64 n), (1, .int .i64 b), (5, .str [])] [] := by
    obtain ⟨h1, h2⟩ := ha
    by_cases h : a < 0
    · rw [if_pos h] at hn
      have w1 : IntKind.i64.wrap (a + 1) = a + 1 := wrapR ⟨by omega, by omega⟩
      have w2 : IntKind.i64.wrap (-(a + 1)) = n := by rw [hn]; exact wrapR ⟨by omega, by omega⟩
      simp [h, w1, w2, -q8_58]
    · rw [if_neg h] at hn
      subst hn
      simp [h, -q8_58]
  rw [go (fn := F8) rfl rfl rfl]
  have hst2 : runF E1 0 false c8_61 [(0, .int .i64 a), (1, .int .i64 b)] [] = runF E1 0 false c8_58 [(0, .int .i64 n), (1, .int .i64 b), (5, .str [])] [] := by
    rw [← hst]
    simp [-q8_60]
  cases k with
  | zero =>
    simp [negText, headL, encPR, encP_eq, encFs1, encF, leavesE, negE, numE, rep] at e1 e2 e3 l1
    simp [F8, hst2, l1, -q8_61]
    simp [hp, ht, e1, e2, e3, l1, ex3, q8_40, -getElem?_pos, List.getElem?_cons_zero, List.getElem?_cons_succ]
    omega
  | succ k =>
    obtain ⟨c', l2⟩ := loop8b n b (k + 1) hk (numE (-(n : Int))) (.cells [.sl .none (encAs []), .sl .none (encFs [⟨[102], [], [], [], negIt k (numE (-(n : Int)))⟩])]) (.cells [.int .i64 0, .int .i64 0]) k 1 .none [(0, .int .i64 n), (1, .int .i64 b), (9, .ptr 2 0), (10, .int .i64 (1 : Nat))] (by omega) rfl rfl rfl rfl
    simp only [negE] at e1
    generalize negIt k (numE (-(n : Int))) = x at e1 l2
    obtain ⟨k1, n1, w1, o1, ks1⟩ := x
    simp [negText, headL, encPR, encP_eq, encFs1, encF, leavesE, leavesC_mk, numE] at e1 e2 e3 l1 l2
    simp [F8, hst2, l1, -q8_61]
    simp [hp, ht, e1, e2, e3, l1, l2, ex3, hw0, -getElem?_pos, List.getElem?_cons_zero, List.getElem?_cons_succ]
    omega
end Go.Proofs.Ytkomfefpfalajaa
