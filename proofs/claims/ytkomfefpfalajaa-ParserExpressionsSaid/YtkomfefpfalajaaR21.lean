/- The reference's lexer: Scan. -/
import Derived.Test.YtkomfefpfalajaaR17
import Derived.Test.YtkomfefpfalajaaP12
namespace Go.Proofs.Ytkomfefpfalajaa
open Go Go.Proofs Ab
set_option maxRecDepth 100000
set_option linter.unusedSimpArgs false
set_option linter.unusedVariables false
theorem numR_numOk {s : List UInt8} (hne : s ≠ []) : numR s 9223372036854775808 = if numOk s then some (numOf 0 s) else none := by
  unfold numR numOk
  by_cases h1 : s.all isDec = true
  · by_cases h2 : s.length ≤ 19
    · by_cases h3 : s.head? = some 48
      · by_cases h4 : s.length = 1
        · by_cases h5 : numOf 0 s ≤ 9223372036854775808 <;> simp [h1, h3, h4, h5, hne]
        · simp [h1, h2, h3, h4, hne]
      · have h3' : (s.head? != some 48) = true := by simp [h3]
        by_cases h5 : numOf 0 s ≤ 9223372036854775808 <;> simp [h1, h2, h3, h3', h5, hne]
    · simp [h2]
  · simp [h1]
section
variable (t : List UInt8) (ht : t.length ≤ 4000000)
include ht
theorem loop28w (a3 a4 a5 a6 a7 : AV) (n0 : Nat) (h : Heap) : ∀ (r : List UInt8) (k : Nat) (s : Slots), t.drop k = r → k + r.length = t.length → get s 0 = .str t → get s 3 = a3 → get s 4 = a4 → get s 5 = a5 → get s 6 = a6 → get s 7 = a7 → get s 8 = .int .i64 k →
    blkK (some [0, 3, 4, 5, 6, 7, 8]) 4 (runF E1 n0 false c28_38 s h) = some (.nrm, [(0, .str t), (3, a3), (4, a4), (5, a5), (6, a6), (7, a7), (8, .int .i64 ((k + wordN r : Nat) : Int))], h)
  | [], k, s, hd, hk, h0, h3, h4, h5, h6, h7, h8 => by
    have hn : ¬ ((k : Int) < t.length) := by simp at hk; omega
    rw [q28_38]
    simp [h0, h3, h4, h5, h6, h7, h8, hn, wordN]
  | c :: r, k, s, hd, hk, h0, h3, h4, h5, h6, h7, h8 => by
    simp only [List.length_cons] at hk
    have hlt : (k : Int) < t.length := by omega
    have hx : t[k]? = some c := by
      have := congrArg (fun l => l[0]?) hd
      simpa using this
    have hd' : t.drop (k + 1) = r := by
      have := congrArg List.tail hd
      simpa using this
    have hw : IntKind.i64.wrap ((k : Int) + 1) = (k : Int) + 1 := wrapR ⟨by omega, by omega⟩
    have ih := loop28w a3 a4 a5 a6 a7 n0 h r (k + 1) [(0, .str t), (3, a3), (4, a4), (5, a5), (6, a6), (7, a7), (8, .int .i64 ((k + 1 : Nat) : Int))] hd' (by omega) rfl rfl rfl rfl rfl rfl rfl
    simp at ih
    rw [q28_38]
    cases h1 : letB c with
    | true =>
      simp [h0, h3, h4, h5, h6, h7, h8, hlt, hx, hw, isLetter61, h1, ih, wordN, wordB, -getElem?_pos]
      omega
    | false =>
      cases h2 : isDec c with
      | true =>
        simp [h0, h3, h4, h5, h6, h7, h8, hlt, hx, hw, isLetter61, isDigit62, h1, h2, ih, wordN, wordB, -getElem?_pos]
        omega
      | false => simp [h0, h3, h4, h5, h6, h7, h8, hlt, hx, hw, isLetter61, isDigit62, h1, h2, wordN, wordB, -getElem?_pos]
theorem loop28c (a3 a4 : AV) (n0 : Nat) (h : Heap) : ∀ (r : List UInt8) (k : Nat) (s : Slots), t.drop k = r → k + r.length = t.length → get s 0 = .str t → get s 3 = a3 → get s 4 = a4 → get s 5 = .int .i64 k →
    ∃ j, blkK (some [0, 3, 4, 5]) 2 (runF E1 n0 false c28_24 s h) = some (.nrm, [(0, .str t), (3, a3), (4, a4), (5, .int .i64 ((k + j : Nat) : Int))], h) ∧ j ≤ r.length ∧ (∀ (c : UInt8) (r' : List UInt8), r.drop j = c :: r' → c.toNat = 10) ∧ spaceN true r = j + spaceN false (r.drop j)
  | [], k, s, hd, hk, h0, h3, h4, h5 => by
    have hn : ¬ ((k : Int) < t.length) := by simp at hk; omega
    refine ⟨0, ?_, by simp, by simp, by simp [spaceN]⟩
    rw [q28_24]
    simp [h0, h3, h4, h5, hn]
  | c :: r, k, s, hd, hk, h0, h3, h4, h5 => by
    simp only [List.length_cons] at hk
    have hlt : (k : Int) < t.length := by omega
    have hx : t[k]? = some c := by
      have := congrArg (fun l => l[0]?) hd
      simpa using this
    have hd' : t.drop (k + 1) = r := by
      have := congrArg List.tail hd
      simpa using this
    have hw : IntKind.i64.wrap ((k : Int) + 1) = (k : Int) + 1 := wrapR ⟨by omega, by omega⟩
    by_cases hc : c.toNat = 10
    · have hc' : (c.toNat : Int) = 10 := by omega
      refine ⟨0, ?_, by simp, ?_, ?_⟩
      · rw [q28_24]
        simp [h0, h3, h4, h5, hlt, hx, hc', -getElem?_pos]
      · intro c' r' he
        simp at he
        rw [← he.1]
        exact hc
      · simp [spaceN, hc]
    · have hc' : ¬ (c.toNat : Int) = 10 := by omega
      obtain ⟨j, ih, hj, hh, hsp⟩ := loop28c a3 a4 n0 h r (k + 1) [(0, .str t), (3, a3), (4, a4), (5, .int .i64 ((k + 1 : Nat) : Int))] hd' (by omega) rfl rfl rfl rfl
      simp at ih
      refine ⟨j + 1, ?_, by simp; omega, by simpa using hh, ?_⟩
      · rw [q28_24]
        simp [h0, h3, h4, h5, hlt, hx, hc', hw, ih, -getElem?_pos]
        omega
      · simp [spaceN, hc, hsp]
        omega
theorem loop28 (H : Heap) (h20 : t.length ≤ 20000) : ∀ (n : Nat) (r : List UInt8) (p : Nat) (acc : List Tok) (c : Cap) (J : Heap) (s : Slots) (m : Nat), r.length ≤ n → r.length ≤ m + spaceN false r → t.drop p = r → p + r.length = t.length → acc.length + r.length ≤ 20000 → get s 0 = .str t → get s 3 = .ptr H.length 0 → get s 4 = .sl c (encTs acc) → get s 5 = .int .i64 p → Own (H.length + 1) J 3 c acc.length →
    finK F28 H.length (seqK E1 H.length false c28_86 (blkK (some [3, 4]) 0 (runF E1 H.length false c28_82 s (H ++ zErr :: J)))) = some (encScan acc (scanR m (r.drop (spaceN false r)) (p + spaceN false r)), H)
  | n, [], p, acc, c, J, s, m, hn, hm, hd, hp, hal, h0, h3, h4, h5, hown => by
    have hlt : ¬ ((p : Int) < t.length) := by simp at hp; omega
    have hr : scanR m (([] : List UInt8).drop (spaceN false [])) (p + spaceN false []) = .ok [] := by cases m <;> simp [scanR]
    rw [hr, q28_82]
    simp [F28, h0, h3, h4, h5, hlt, encScan]
  | n + 1, c0 :: r, p, acc, c, J, s, m, hn, hm, hd, hp, hal, h0, h3, h4, h5, hown => by
    simp only [List.length_cons] at hp hn hal hm
    have hlt : (p : Int) < t.length := by omega
    have hle : (p : Int) ≤ t.length := by omega
    have hx : t[p]? = some c0 := by
      have := congrArg (fun l => l[0]?) hd
      simpa using this
    have hd' : t.drop (p + 1) = r := by
      have := congrArg List.tail hd
      simpa using this
    have hw : IntKind.i64.wrap ((p : Int) + 1) = (p : Int) + 1 := wrapR ⟨by omega, by omega⟩
    by_cases hc : c0.toNat = 32 ∨ c0.toNat = 9 ∨ c0.toNat = 10 ∨ c0.toNat = 13
    · have hsp : spaceN false (c0 :: r) = spaceN false r + 1 := by rw [spaceN, if_pos hc]
      have ih := loop28 H h20 n r (p + 1) acc c J [(0, .str t), (3, .ptr H.length 0), (4, .sl c (encTs acc)), (5, .int .i64 ((p + 1 : Nat) : Int))] m (by omega) (by omega) hd' (by omega) (by omega) rfl rfl rfl rfl hown
      rw [hsp, List.drop_succ_cons, show p + (spaceN false r + 1) = p + 1 + spaceN false r by omega, q28_82, ← ih]
      have hc' : (c0.toNat : Int) = 32 ∨ (c0.toNat : Int) = 9 ∨ (c0.toNat : Int) = 10 ∨ (c0.toNat : Int) = 13 := by omega
      rcases hc' with hc' | hc' | hc' | hc' <;> simp [F28, h0, h3, h4, h5, hlt, hx, hc', hw, -getElem?_pos]
    · have c1 : ¬ (c0.toNat : Int) = 32 := by omega
      have c2 : ¬ (c0.toNat : Int) = 9 := by omega
      have c3 : ¬ (c0.toNat : Int) = 10 := by omega
      have c4 : ¬ (c0.toNat : Int) = 13 := by omega
      by_cases hr : c0.toNat = 35
      · have hr' : (c0.toNat : Int) = 35 := by omega
        obtain ⟨j, hb, hj, hh, hsp⟩ := loop28c t ht (.ptr H.length 0) (.sl c (encTs acc)) H.length (H ++ zErr :: J) (c0 :: r) p [(0, .str t), (3, .ptr H.length 0), (4, .sl c (encTs acc)), (5, .int .i64 p), (6, .int .u8 35), (39, .bool true)] hd (by simp; omega) rfl rfl rfl rfl
        have hj1 : 1 ≤ j := by
          cases j with
          | zero => have := hh c0 r (by simp); omega
          | succ j => omega
        simp only [List.length_cons] at hj
        have e : spaceN false (c0 :: r) = spaceN true r + 1 := by rw [spaceN, if_neg hc, if_pos hr]
        have e2 : spaceN true (c0 :: r) = spaceN true r + 1 := by rw [spaceN, if_neg (by omega)]
        have hsp2 : spaceN false (c0 :: r) = j + spaceN false ((c0 :: r).drop j) := by omega
        have ih := loop28 H h20 n ((c0 :: r).drop j) (p + j) acc c J [(0, .str t), (3, .ptr H.length 0), (4, .sl c (encTs acc)), (5, .int .i64 ((p + j : Nat) : Int))] m (by rw [List.length_drop, List.length_cons]; omega) (by rw [List.length_drop, List.length_cons]; omega) (by rw [← hd, List.drop_drop]) (by rw [List.length_drop, List.length_cons]; omega) (by rw [List.length_drop, List.length_cons]; omega) rfl rfl rfl rfl hown
        rw [hsp2, ← List.drop_drop, show p + (j + spaceN false ((c0 :: r).drop j)) = p + j + spaceN false ((c0 :: r).drop j) by omega, q28_82, ← ih]
        simp at hb
        simp [F28, h0, h3, h4, h5, hlt, hx, hr', hb, -getElem?_pos]
      · have hr' : ¬ (c0.toNat : Int) = 35 := by omega
        have hsp : spaceN false (c0 :: r) = 0 := by rw [spaceN, if_neg hc, if_neg hr]
        rw [hsp] at hm
        rw [hsp, List.drop_zero, Nat.add_zero]
        match m, hm with
        | m + 1, hm =>
        have hwl := wordN_le (c0 :: r)
        have hsl := symN_le (c0 :: r)
        simp only [List.length_cons] at hwl hsl
        -- what happens behind a token
        have hnext : ∀ (k : Int) (w : List UInt8), firstT (c0 :: r) = .ok (k, w) → ∀ s' : Slots, get s' 0 = .str t → get s' 3 = .ptr H.length 0 → get s' 4 = .sl c (encTs acc) → get s' 5 = .int .i64 p → get s' 7 = .ptr (H.length + (J.length + 1)) 0 →
            finK F28 H.length (seqK E1 H.length false c28_86 (blkK (some [3, 4]) 0 (loopK E1 H.length false (some [0, 3, 4, 5]) c28_81 (blkK (some [0, 3, 4, 5]) 1 (runF E1 H.length false c28_74 s' (H ++ zErr :: (J ++ [.cells [.int .i64 k, .str w, .int .i64 p]]))))))) = some (encScan acc (scanR (m + 1) (c0 :: r) p), H) := by
          intro k w hf s' g0 g3 g4 g5 g7
          have hw1 := firstT_ok (by simp) hf
          simp only [List.length_cons] at hw1
          have hwne : w ≠ [] := by intro h; rw [h] at hw1; simp at hw1
          have hd2 : t.drop (p + w.length) = (c0 :: r).drop w.length := by rw [← hd, List.drop_drop]
          obtain ⟨c', J', happ, hown', hkeep⟩ := appC_keep (i := J.length) (n0 := H.length) (g := false) (sz := 3) (H1 := H ++ [zErr]) (J := J ++ [.cells [.int .i64 k, .str w, .int .i64 p]]) (xs := encTs acc) (ys := [encT ⟨k, w, p⟩]) (c := c) (by simp) (by
            rw [List.length_append, encTs_length]
            rcases hown with rfl | ⟨o, rfl, ho⟩
            · exact own_full
            · have hlt : o < J.length := by rw [List.getElem?_eq_some_iff] at ho; exact ho.1
              exact .inr ⟨o, rfl, by rw [List.getElem?_append_left hlt]; exact ho⟩) (by simp; rfl)
          rw [List.length_append] at happ hown'
          have ih := loop28 H h20 n ((c0 :: r).drop w.length) (p + w.length) (acc ++ [⟨k, w, p⟩]) c' J' [(0, .str t), (3, .ptr H.length 0), (4, .sl c' (encTs (acc ++ [⟨k, w, p⟩]))), (5, .int .i64 ((p + w.length : Nat) : Int))] m
            (by rw [List.length_drop, List.length_cons]; omega) (by rw [List.length_drop, List.length_cons]; omega) hd2 (by rw [List.length_drop, List.length_cons]; omega) (by rw [List.length_drop, List.length_cons, List.length_append]; simp; omega) rfl rfl rfl rfl (by simpa [encTs] using hown')
          have hr : encScan acc (scanR (m + 1) (c0 :: r) p) = encScan (acc ++ [⟨k, w, p⟩]) (scanR m (((c0 :: r).drop w.length).drop (spaceN false ((c0 :: r).drop w.length))) (p + w.length + spaceN false ((c0 :: r).drop w.length))) := by
            rw [scanR, if_neg (by simp), hf]
            simp only
            rcases scanR m (((c0 :: r).drop w.length).drop (spaceN false ((c0 :: r).drop w.length))) (p + w.length + spaceN false ((c0 :: r).drop w.length)) with ⟨e, q⟩ | l
            · rfl
            · simp [encScan]
          rw [hr, ← ih]
          have w1 : IntKind.i64.wrap ((p : Int) + w.length) = (p : Int) + w.length := wrapR ⟨by omega, by omega⟩
          have hbb : 2 * ((acc.length + 1) * 32) + 2048 * 32 ≤ 281474976710656 := by omega
          have happ2 : appC H.length false (H.length + (J.length + 1 + 1)) 0 3 (H ++ zErr :: (J ++ [.cells [.int .i64 k, .str w, .int .i64 p], .dead])) (encTs acc) [.agg [.int .i64 k, .str w, .int .i64 p]] c = some (.sl c' (encTs acc ++ [.agg [.int .i64 k, .str w, .int .i64 p]]), H ++ zErr :: J') := by
            have e : H.length + [zErr].length + (J ++ [Ob.cells [.int .i64 k, .str w, .int .i64 p]]).length = H.length + (J.length + 1 + 1) := by simp; omega
            rw [e] at happ
            simpa [encT] using happ
          simp [F28, g0, g3, g4, g5, g7, hwne, w1, happ2, hbb, hkeep, encTs_append, encTs1, encT, -q28_81]
        by_cases hw0 : wordN (c0 :: r) = 0
        · have hb : wordB c0 = false := by
            cases hb : wordB c0 with
            | false => rfl
            | true => rw [wordN, if_pos hb] at hw0; omega
          have hb1 : letB c0 = false := by unfold wordB at hb; simp at hb; exact hb.1
          have hb2 : isDec c0 = false := by unfold wordB at hb; simp at hb; exact hb.2
          have hs := symbol64 (c0 :: r) (by simp only [List.length_cons]; omega) (by simp)
          have i1 := isLetter61 c0
          have i2 := isDigit62 c0
          rw [hb1] at i1
          rw [hb2] at i2
          by_cases hs0 : symN (c0 :: r) = 0
          · have hf : firstT (c0 :: r) = .error 2 := by simp [firstT, hw0, hs0]
            have hr : scanR (m + 1) (c0 :: r) p = .error (2, p) := by simp [scanR, hf]
            rw [hs0] at hs
            rw [hr, q28_82]
            simp [F28, h0, h3, h4, h5, hlt, hle, hx, c1, c2, c3, c4, hr', i1, i2, hd, hs, encScan, -getElem?_pos, List.getElem?_cons_zero, List.getElem?_cons_succ]
          · have hf : firstT (c0 :: r) = .ok (3, (c0 :: r).take (symN (c0 :: r))) := by simp [firstT, hw0, hs0]
            rw [← hnext _ _ hf [(0, .str t), (3, .ptr H.length 0), (4, .sl c (encTs acc)), (5, .int .i64 p), (7, .ptr (H.length + (J.length + 1)) 0)] rfl rfl rfl rfl rfl, q28_82]
            simp [F28, h0, h3, h4, h5, hlt, hle, hx, c1, c2, c3, c4, hr', i1, i2, hd, hs, -getElem?_pos, List.getElem?_cons_zero, List.getElem?_cons_succ, -q28_74]
        · have hb : wordB c0 = true := by
            cases hb : wordB c0 with
            | true => rfl
            | false => rw [wordN, hb] at hw0; simp at hw0
          have hlw := loop28w t ht (.ptr H.length 0) (.sl c (encTs acc)) (.int .i64 p) (.int .u8 c0.toNat) (.ptr (H.length + (J.length + 1)) 0) H.length (H ++ zErr :: (J ++ [.cells [.int .i64 3, .str [], .int .i64 p]])) (c0 :: r) p [(0, .str t), (3, .ptr H.length 0), (4, .sl c (encTs acc)), (5, .int .i64 p), (6, .int .u8 c0.toNat), (7, .ptr (H.length + (J.length + 1)) 0), (8, .int .i64 p)] hd (by simp; omega) rfl rfl rfl rfl rfl rfl rfl
          simp at hlw
          have hgo : ∀ Y, (∀ s' : Slots, get s' 0 = .str t → get s' 3 = .ptr H.length 0 → get s' 4 = .sl c (encTs acc) → get s' 5 = .int .i64 p → get s' 6 = .int .u8 c0.toNat → get s' 7 = .ptr (H.length + (J.length + 1)) 0 → get s' 8 = .int .i64 ((p : Int) + wordN (c0 :: r)) →
              finK F28 H.length (seqK E1 H.length false c28_86 (blkK (some [3, 4]) 0 (loopK E1 H.length false (some [0, 3, 4, 5]) c28_81 (blkK (some [0, 3, 4, 5]) 1 (seqK E1 H.length false c28_74 (runF E1 H.length false c28_58 s' (H ++ zErr :: (J ++ [.cells [.int .i64 1, .str ((c0 :: r).take (wordN (c0 :: r))), .int .i64 p]])))))))) = Y) →
              finK F28 H.length (seqK E1 H.length false c28_86 (blkK (some [3, 4]) 0 (runF E1 H.length false c28_82 s (H ++ zErr :: J)))) = Y := by
            intro Y hY
            have w1 : ((p : Int) + wordN (c0 :: r)).toNat = p + wordN (c0 :: r) := by omega
            have w2 : (p : Int) + wordN (c0 :: r) ≤ t.length := by omega
            have w5 : (0 : Int) ≤ (p : Int) + wordN (c0 :: r) := by omega
            have w6 : ¬ (p : Int) + wordN (c0 :: r) < p := by omega
            have w3 : (t.take (p + wordN (c0 :: r))).drop p = (c0 :: r).take (wordN (c0 :: r)) := by rw [List.drop_take, hd, Nat.add_sub_cancel_left]
            have i1 := isLetter61 c0
            have i2 := isDigit62 c0
            rw [q28_82, ← hY [(0, .str t), (3, .ptr H.length 0), (4, .sl c (encTs acc)), (5, .int .i64 p), (6, .int .u8 c0.toNat), (7, .ptr (H.length + (J.length + 1)) 0), (8, .int .i64 ((p : Int) + wordN (c0 :: r)))] rfl rfl rfl rfl rfl rfl rfl]
            cases hb1 : letB c0 with
            | true =>
              rw [hb1] at i1
              simp [h0, h3, h4, h5, hlt, hle, hx, c1, c2, c3, c4, hr', i1, hlw, hd, w1, w2, w3, w5, w6, -getElem?_pos, List.getElem?_cons_zero, List.getElem?_cons_succ, -q28_74, -q28_58]
            | false =>
              have hb2 : isDec c0 = true := by unfold wordB at hb; rw [hb1] at hb; simpa using hb
              rw [hb1] at i1
              rw [hb2] at i2
              simp [h0, h3, h4, h5, hlt, hle, hx, c1, c2, c3, c4, hr', i1, i2, hlw, hd, w1, w2, w3, w5, w6, -getElem?_pos, List.getElem?_cons_zero, List.getElem?_cons_succ, -q28_74, -q28_58]
          apply hgo
          intro s' g0 g3 g4 g5 g6 g7 g8
          have i2 := isDigit62 c0
          have hwne : (c0 :: r).take (wordN (c0 :: r)) ≠ [] := by intro h; rw [List.take_eq_nil_iff] at h; simp [hw0] at h
          cases hdc : isDec c0 with
          | true =>
            rw [hdc] at i2
            have hN := number63 ((c0 :: r).take (wordN (c0 :: r))) 9223372036854775808 (by rw [List.length_take, List.length_cons]; omega)
            rw [numR_numOk hwne] at hN
            cases hn : numOk ((c0 :: r).take (wordN (c0 :: r))) with
            | true =>
              have hf : firstT (c0 :: r) = .ok (2, (c0 :: r).take (wordN (c0 :: r))) := by simp [firstT, headDec, hw0, hdc, hn]
              rw [hn] at hN
              simp [tupU] at hN
              rw [← hnext _ _ hf [(0, .str t), (3, .ptr H.length 0), (4, .sl c (encTs acc)), (5, .int .i64 p), (7, .ptr (H.length + (J.length + 1)) 0), (95, .bool false)] rfl rfl rfl rfl rfl]
              simp [g0, g3, g4, g5, g6, g7, g8, i2, hN, -q28_74]
            | false =>
              have hf : firstT (c0 :: r) = .error 2 := by simp [firstT, headDec, hw0, hdc, hn]
              have hr : scanR (m + 1) (c0 :: r) p = .error (2, p) := by simp [scanR, hf]
              rw [hn] at hN
              simp [tupU] at hN
              rw [hr]
              simp [F28, g0, g3, g4, g5, g6, g7, g8, i2, hN, encScan]
          | false =>
            rw [hdc] at i2
            have w4 : IntKind.i64.wrap ((p : Int) + wordN (c0 :: r) - p) = wordN (c0 :: r) := by rw [wrapR ⟨by omega, by omega⟩]; omega
            by_cases h16 : 16 < wordN (c0 :: r)
            · have hf : firstT (c0 :: r) = .error 6 := by simp [firstT, headDec, hw0, hdc, h16]
              have hr : scanR (m + 1) (c0 :: r) p = .error (6, p) := by simp [scanR, hf]
              have h16' : (16 : Int) < wordN (c0 :: r) := by omega
              rw [hr]
              simp [F28, g0, g3, g4, g5, g6, g7, g8, i2, w4, h16, h16', encScan]
            · have hf : firstT (c0 :: r) = .ok (1, (c0 :: r).take (wordN (c0 :: r))) := by simp [firstT, headDec, hw0, hdc, h16]
              have h16' : ¬ (16 : Int) < wordN (c0 :: r) := by omega
              rw [← hnext _ _ hf [(0, .str t), (3, .ptr H.length 0), (4, .sl c (encTs acc)), (5, .int .i64 p), (7, .ptr (H.length + (J.length + 1)) 0), (101, .bool false)] rfl rfl rfl rfl rfl]
              simp [g0, g3, g4, g5, g6, g7, g8, i2, w4, h16, h16', -q28_74]
theorem scan28 (H : Heap) : callF E1 28 [.str t] H = some (encScan [] (scanT t), H) := by
  rw [go (fn := F28) rfl rfl rfl]
  unfold scanT
  by_cases h20 : 20000 < t.length
  · have h20' : (20000 : Int) < t.length := by omega
    simp [F28, h20, h20', encScan]
  · have h20' : ¬ (20000 : Int) < t.length := by omega
    have hle := spaceN_le false t
    have hl := loop28 t ht H (by omega) t.length t 0 [] .full [] [(0, .str t), (3, .ptr H.length 0), (4, .sl .full []), (5, .int .i64 (0 : Nat))] t.length (Nat.le_refl _) (by omega) rfl (by omega) (by simp; omega) rfl rfl rfl rfl own_full
    rw [if_neg h20]
    simp at hl
    rw [← hl]
    simp [F28, h20']
end
end Go.Proofs.Ytkomfefpfalajaa

namespace Go.Proofs.Ytkomfefpfalajaa
open Go Go.Proofs Ab
set_option maxRecDepth 100000
set_option linter.unusedSimpArgs false
set_option linter.unusedVariables false
theorem ok29_any (o : Nat) (a b c d : AV) (w : Int) (H : Heap) (ho : o < H.length) : callF E1 29 [.ptr o 0] (H.set o (.cells [a, b, c, .int .i64 w, d])) = some (.bool (w == 0), H.set o (.cells [a, b, c, .int .i64 w, d])) := by
  rw [go (fn := F29) rfl rfl rfl]
  simp [F29, ho] <;> rfl
section
variable (tk : List Tok) (en : Int) (hk : TokOk2 tk)
theorem end14_bad (q : Nat) (a : List Ar) (f : List Ab.Fn) (ca cf : Cap) (E : Ob) (J : Heap) (s : Slots) (H : Heap) (s2 : get s 2 = .ptr H.length 0) (s3 : get s 3 = .ptr (H.length + 1) 0) (s6 : get s 6 = .ptr (H.length + 3) 0) (s7 : get s 7 = .ptr (H.length + 4) 0) :
    finK F14 H.length (seqK E1 H.length false c14_35 (blkK (some [2, 3, 6, 7]) 0 (runF E1 H.length false c14_26 s (H ++ zP :: zErr :: E :: rdR tk en (.error q) :: cP ca cf a f :: J)))) = some (encParse tk en (.error q), H) := by
  have h1 := at3 (H := H) (ok29 tk en (H.length + 3) (.error q))
  rw [q14_26]
  simp at h1
  simp [F14, s2, s3, s6, s7, h1, encParse]
theorem end14_ok (p : Nat) (hp : ¬ p < tk.length) (a : List Ar) (f : List Ab.Fn) (ca cf : Cap) (E : Ob) (J : Heap) (s : Slots) (H : Heap) (s2 : get s 2 = .ptr H.length 0) (s3 : get s 3 = .ptr (H.length + 1) 0) (s6 : get s 6 = .ptr (H.length + 3) 0) (s7 : get s 7 = .ptr (H.length + 4) 0) :
    finK F14 H.length (seqK E1 H.length false c14_35 (blkK (some [2, 3, 6, 7]) 0 (runF E1 H.length false c14_26 s (H ++ zP :: zErr :: E :: rdR tk en (.ok p) :: cP ca cf a f :: J)))) = some (encParse tk en (.ok ⟨a, f⟩), H) := by
  have h1 := at3 (H := H) (ok29 tk en (H.length + 3) (.ok p))
  rw [q14_26]
  simp at h1
  simp [F14, s2, s3, s6, s7, hp, h1, encParse, encP_eq]
def L14 (n : Nat) (E : Ob) (H : Heap) (m p : Nat) (a : List Ar) (f : List Ab.Fn) : Prop := ∀ (ca cf : Cap) (J : Heap) (s : Slots), tk.length - p < m → p ≤ tk.length → a.length + m ≤ 1000000 → f.length + m ≤ 1000000 → Own (H.length + 5) J 2 ca a.length → Own (H.length + 5) J 9 cf f.length →
    get s 2 = .ptr H.length 0 → get s 3 = .ptr (H.length + 1) 0 → get s 6 = .ptr (H.length + 3) 0 → get s 7 = .ptr (H.length + 4) 0 →
    finK F14 H.length (seqK E1 H.length false c14_35 (blkK (some [2, 3, 6, 7]) 0 (runF E1 H.length false c14_26 s (H ++ zP :: zErr :: E :: rdR tk en (.ok p) :: cP ca cf a f :: J)))) = some (encParse tk en (declsP tk n m p a f), H)
abbrev slots14 (H : Heap) : Slots := [(2, .ptr H.length 0), (3, .ptr (H.length + 1) 0), (6, .ptr (H.length + 3) 0), (7, .ptr (H.length + 4) 0)]
include hk
theorem step14_arr (n : Nat) (E : Ob) (H : Heap) (m p : Nat) (a : List Ar) (f : List Ab.Fn) (hp : p < tk.length) (hs1 : kwB tk p [97, 114, 114, 97, 121] = true) (hN : ∀ q x, p < q → L14 tk en n E H m q (a ++ [x]) f) : L14 tk en n E H (m + 1) p a f := by
  intro ca cf J s hm hpl ha hf hoa hof s2 s3 s6 s7
  have hlen := hk.len
  have hw := wrap_ic (n := p) (by omega)
  have hin0 : inS tk (.ok p) := fun q hq => by cases hq; omega
  have hin1 : inS tk (.ok (p + 1)) := fun q hq => by cases hq; omega
  have k0 := at3 (H := H) (ok29 tk en (H.length + 3) (.ok p))
  have k1 := at3 (H := H) (at_kw tk en (H.length + 3) hk (.ok p) hin0 [97, 114, 114, 97, 121] rfl)
  simp at k0
  simp [hs1] at k1
  obtain ⟨nm, hv1, hval1⟩ := name31 tk en (H.length + 3) hk (.ok (p + 1)) hin1
  have hin2 := inS_run tk (name_up tk) (.ok (p + 1))
  obtain ⟨v, hv2, hval2⟩ := small32 tk en (H.length + 3) hk (stR (runS (nameP tk) (.ok (p + 1)))) hin2
  have hin3 := inS_run tk (small_up tk) (stR (runS (nameP tk) (.ok (p + 1))))
  have hv3 := exp_sym tk en (H.length + 3) hk (stR (runS (smallP tk) (stR (runS (nameP tk) (.ok (p + 1)))))) hin3 [59] rfl
  have hin4 := inS_exp tk hin3 (s := [59])
  have hv1 := at3 hv1
  have hv2 := at3 hv2
  have hv3 := at3 hv3
  have hr : (bindR (nameP tk (p + 1)) fun s p1 => bindR (smallP tk p1) fun v p2 => bindR (expR tk p2 [59]) fun _ p3 => (.ok ((⟨s, v⟩ : Ar), p3) : Rs Ar)) = runS (fun p => .ok (⟨nm, v⟩, p)) (expS tk (stR (runS (smallP tk) (stR (runS (nameP tk) (.ok (p + 1)))))) [59]) := by
    refine (bind_run hval1).trans ?_
    refine (runS_bind hval2).trans ?_
    exact runS_exp
  have hmo : ∀ q, expS tk (stR (runS (smallP tk) (stR (runS (nameP tk) (.ok (p + 1)))))) [59] = .ok q → p < q := by
    intro q hq
    have hex : (bindR (nameP tk (p + 1)) fun s p1 => bindR (smallP tk p1) fun v p2 => bindR (expR tk p2 [59]) fun _ p3 => (.ok ((⟨s, v⟩ : Ar), p3) : Rs Ar)) = .ok (⟨nm, v⟩, q) := by rw [hr, hq]; rfl
    obtain ⟨_, p1, h1, h⟩ := bindR_inv hex
    obtain ⟨_, p2, h2, h⟩ := bindR_inv h
    obtain ⟨_, p3, h3, h⟩ := bindR_inv h
    have := nameP_ok tk h1
    have := smallP_ok tk h2
    have := expR_ok tk h3
    simp at h
    omega
  generalize expS tk (stR (runS (smallP tk) (stR (runS (nameP tk) (.ok (p + 1)))))) [59] = s3' at *
  simp only [runS_ok] at hv1 hv2 hv3
  have hv1' : ∀ (a b c : Ob) (X : Heap), callF E1 31 [.ptr (H.length + 3) 0] (H ++ a :: b :: c :: rdO tk en (p + 1) :: X) = some (.str nm, H ++ a :: b :: c :: rdR tk en (stR (nameP tk (p + 1))) :: X) := hv1
  obtain ⟨c', J', happ, hown', hkeep⟩ := appC_all (n0 := H.length) (g := false) (sz := 2) (H1 := H ++ [zP, zErr, E, rdR tk en s3', cP ca cf a f]) (J := J) (xs := encAs a) (ys := [encA ⟨nm, v⟩]) (c := ca) (by simp) (by
    rw [List.length_append, encAs_length]
    exact hoa)
  rw [show (H ++ [zP, zErr, E, rdR tk en s3', cP ca cf a f]).length = H.length + 5 by simp] at happ hown'
  have happ2 : appC H.length false (H.length + (J.length + 1 + 1 + 1 + 1 + 1)) 0 2 (H ++ zP :: zErr :: E :: rdR tk en s3' :: cP ca cf a f :: (J ++ [.dead])) (encAs a) [.agg [.str nm, .int .i64 v]] ca = some (.sl c' (encAs a ++ [.agg [.str nm, .int .i64 v]]), H ++ zP :: zErr :: E :: rdR tk en s3' :: cP ca cf a f :: J') := by
    rw [show H.length + 5 + J.length = H.length + (J.length + 1 + 1 + 1 + 1 + 1) by omega] at happ
    simpa [encA] using happ
  have hbb : 2 * ((a.length + 1) * 24) + 2048 * 24 ≤ 281474976710656 := by omega
  have hstep : blkK (some [2, 3, 6, 7]) 0 (runF E1 H.length false c14_26 s (H ++ zP :: zErr :: E :: rdR tk en (.ok p) :: cP ca cf a f :: J)) =
      blkK (some [2, 3, 6, 7]) 0 (runF E1 H.length false c14_26 (slots14 H) (H ++ zP :: zErr :: E :: rdR tk en s3' :: cP c' cf (a ++ [⟨nm, v⟩]) f :: J')) := by
    rw [q14_26]
    simp [s2, s3, s6, s7, hp, k0, k1, hw, hv1', hv2, hv3, happ2, hbb, encAs_append, encAs1, encA, cP]
  have hd : declsP tk n (m + 1) p a f = match runS (fun p => (.ok ((⟨nm, v⟩ : Ar), p) : Rs Ar)) s3' with
    | .error q => .error q
    | .ok (x, p3) => declsP tk n m p3 (a ++ [x]) f := by
    rw [declsP, if_pos hp, if_pos hs1, hr]
    cases s3' <;> rfl
  rw [hstep, hd]
  cases hs3 : s3' with
  | error q => exact end14_bad tk en q _ f c' cf E J' _ H rfl rfl rfl rfl
  | ok q =>
    have hlt := hmo q hs3
    exact hN q ⟨nm, v⟩ hlt c' cf J' _ (by omega) (hin4 q hs3) (by simp; omega) (by omega) (by simpa using hown') (hof.keep (by decide) hkeep) rfl rfl rfl rfl
/-- a function is read and kept, whether or not its word stands there -/
theorem step14_app (st0 st1 : St) (g : Ab.Fn) (E : Ob) (H : Heap) (p : Nat) (a : List Ar) (f : List Ab.Fn) (ca cf : Cap) (J : Heap) (s : Slots) (hp : p < tk.length) (hs1 : kwB tk p [97, 114, 114, 97, 121] = false) (hf : f.length ≤ 1000000)
    (he : ∀ H' : Heap, H.length + 3 < H'.length → callF E1 33 [.ptr (H.length + 3) 0, .str [102, 117, 110, 99]] (H'.set (H.length + 3) (rdR tk en (.ok p))) = some (.tup [], H'.set (H.length + 3) (rdR tk en st0)))
    (hg : ∀ H' : Heap, H.length + 3 < H'.length → callF E1 34 [.ptr (H.length + 3) 0] (H'.set (H.length + 3) (rdR tk en st0)) = some (encF g, H'.set (H.length + 3) (rdR tk en st1)))
    (hof : Own (H.length + 5) J 9 cf f.length) (s2 : get s 2 = .ptr H.length 0) (s3 : get s 3 = .ptr (H.length + 1) 0) (s6 : get s 6 = .ptr (H.length + 3) 0) (s7 : get s 7 = .ptr (H.length + 4) 0) :
    ∃ c' J', blkK (some [2, 3, 6, 7]) 0 (runF E1 H.length false c14_26 s (H ++ zP :: zErr :: E :: rdR tk en (.ok p) :: cP ca cf a f :: J)) =
      blkK (some [2, 3, 6, 7]) 0 (runF E1 H.length false c14_26 (slots14 H) (H ++ zP :: zErr :: E :: rdR tk en st1 :: cP ca c' a (f ++ [g]) :: J')) ∧ Own (H.length + 5) J' 9 c' (f ++ [g]).length ∧ ∀ n, Own (H.length + 5) J 2 ca n → Own (H.length + 5) J' 2 ca n := by
  have hlen := hk.len
  have hin0 : inS tk (.ok p) := fun q hq => by cases hq; omega
  have k0 := at3 (H := H) (ok29 tk en (H.length + 3) (.ok p))
  have k1 := at3 (H := H) (at_kw tk en (H.length + 3) hk (.ok p) hin0 [97, 114, 114, 97, 121] rfl)
  have k2 := at3 he
  have k3 := at3 hg
  simp at k0
  simp [hs1] at k1
  obtain ⟨c', J', happ, hown', hkeep⟩ := appC_all (n0 := H.length) (g := false) (sz := 9) (H1 := H ++ [zP, zErr, E, rdR tk en st1, cP ca cf a f]) (J := J) (xs := encFs f) (ys := [encF g]) (c := cf) (by simp) (by
    rw [List.length_append, encFs_length]
    exact hof)
  rw [show (H ++ [zP, zErr, E, rdR tk en st1, cP ca cf a f]).length = H.length + 5 by simp] at happ hown'
  refine ⟨c', J', ?_, by simpa using hown', fun n hoa => hoa.keep (by decide) hkeep⟩
  have happ3 : appC H.length false (H.length + (J.length + 1 + 1 + 1 + 1 + 1)) 0 9 (H ++ zP :: zErr :: E :: rdR tk en st1 :: cP ca cf a f :: (J ++ [.dead])) (encFs f) [encF g] cf = some (.sl c' (encFs f ++ [encF g]), H ++ zP :: zErr :: E :: rdR tk en st1 :: cP ca cf a f :: J') := by
    rw [show H.length + 5 + J.length = H.length + (J.length + 1 + 1 + 1 + 1 + 1) by omega] at happ
    simpa using happ
  have hbb : 2 * ((f.length + 1) * 152) + 2048 * 152 ≤ 281474976710656 := by omega
  obtain ⟨nm1, ps1, ls1, b1, ⟨vk, vn, vs, vo, vks⟩⟩ := g
  simp [encF, leavesE] at happ3 k3
  rw [q14_26]
  simp [s2, s3, s6, s7, hp, k0, k1, k2, k3, happ3, hbb, encFs_append, encFs1, cP, encF, leavesE]
theorem step14_fun (n : Nat) (hn1 : 1 ≤ n) (hn : n ≤ 900000) (hn2 : 40 * tk.length + 20 ≤ n) (E : Ob) (H : Heap) (m p : Nat) (a : List Ar) (f : List Ab.Fn) (hp : p < tk.length) (hs1 : kwB tk p [97, 114, 114, 97, 121] = false) (hs2 : kwB tk p [102, 117, 110, 99] = true) (hN : ∀ q x, p < q → L14 tk en n E H m q a (f ++ [x])) : L14 tk en n E H (m + 1) p a f := by
  intro ca cf J s hm hpl ha hf hoa hof s2 s3 s6 s7
  have hin0 : inS tk (.ok p) := fun q hq => by cases hq; omega
  have hin1 : inS tk (.ok (p + 1)) := fun q hq => by cases hq; omega
  have he := exp_kw tk en (H.length + 3) hk (.ok p) hin0 [102, 117, 110, 99] rfl
  simp [hs2] at he
  obtain ⟨g, hv1, hval1⟩ := function34 tk en (H.length + 3) hk n hn1 hn (exprRAll tk en (H.length + 3) hk n).1 (stmtRAll tk en (H.length + 3) hk n hn) (.ok (p + 1)) hin1 (by intro q hq; cases hq; omega)
  have hr : funcP tk n (p + 1) = runS (fun p => .ok (g, p)) (stR (funcP tk n (p + 1))) := by
    simp at hval1
    rcases hx : funcP tk n (p + 1) with q | ⟨w, q⟩
    · rfl
    · simp [hx] at hval1
      subst hval1
      rfl
  have hmo : ∀ q, stR (funcP tk n (p + 1)) = .ok q → p < q := by
    intro q hq
    rcases hx : funcP tk n (p + 1) with e | ⟨w, q'⟩
    · rw [hx] at hq; cases hq
    · rw [hx] at hq
      simp at hq
      have := func_mo tk n _ _ _ hx
      omega
  have hin2 := inS_run tk (func_up tk n) (.ok (p + 1))
  simp only [runS_ok] at hv1 hin2
  obtain ⟨c', J', hstep, hown', hoa'⟩ := step14_app tk en hk (.ok (p + 1)) (stR (funcP tk n (p + 1))) g E H p a f ca cf J s hp hs1 (by omega) he hv1 hof s2 s3 s6 s7
  have hd : declsP tk n (m + 1) p a f = match runS (fun p => (.ok (g, p) : Rs Ab.Fn)) (stR (funcP tk n (p + 1))) with
    | .error q => .error q
    | .ok (x, p3) => declsP tk n m p3 a (f ++ [x]) := by
    rw [declsP, if_pos hp, if_neg (by rw [hs1]; decide), if_pos hs2, hr]
    cases stR (funcP tk n (p + 1)) <;> rfl
  rw [hstep, hd]
  cases hs3 : stR (funcP tk n (p + 1)) with
  | error q => exact end14_bad tk en q a _ ca c' E J' _ H rfl rfl rfl rfl
  | ok q =>
    have hlt := hmo q hs3
    exact hN q g hlt ca c' J' _ (by omega) (hin2 q hs3) (by omega) (by simp; omega) (hoa' _ hoa) hown' rfl rfl rfl rfl
theorem step14_bad (n : Nat) (E : Ob) (H : Heap) (m p : Nat) (a : List Ar) (f : List Ab.Fn) (hp : p < tk.length) (hs1 : kwB tk p [97, 114, 114, 97, 121] = false) (hs2 : kwB tk p [102, 117, 110, 99] = false) : L14 tk en n E H (m + 1) p a f := by
  intro ca cf J s hm hpl ha hf hoa hof s2 s3 s6 s7
  have hin0 : inS tk (.ok p) := fun q hq => by cases hq; omega
  have he := exp_kw tk en (H.length + 3) hk (.ok p) hin0 [102, 117, 110, 99] rfl
  simp [hs2] at he
  obtain ⟨g, hv1, -⟩ := function34 tk en (H.length + 3) hk 1 (by omega) (by omega) (exprRAll tk en (H.length + 3) hk 1).1 (stmtRAll tk en (H.length + 3) hk 1 (by omega)) (.error p) (inS_error tk p) (by intro q hq; cases hq)
  simp at hv1
  obtain ⟨c', J', hstep, hown', hoa'⟩ := step14_app tk en hk (.error p) (.error p) g E H p a f ca cf J s hp hs1 (by omega) he hv1 hof s2 s3 s6 s7
  have hd : declsP tk n (m + 1) p a f = .error p := by
    rw [declsP, if_pos hp, if_neg (by rw [hs1]; decide), if_neg (by rw [hs2]; decide)]
  rw [hstep, hd]
  exact end14_bad tk en p a _ ca c' E J' _ H rfl rfl rfl rfl
theorem loop14 (n : Nat) (hn1 : 1 ≤ n) (hn : n ≤ 900000) (hn2 : 40 * tk.length + 20 ≤ n) (E : Ob) (H : Heap) : ∀ (m p : Nat) (a : List Ar) (f : List Ab.Fn), L14 tk en n E H m p a f
  | 0, p, a, f => by
    intro ca cf J s hm
    omega
  | m + 1, p, a, f => by
    by_cases hp : p < tk.length
    · cases hs1 : kwB tk p [97, 114, 114, 97, 121] with
      | true => exact step14_arr tk en hk n E H m p a f hp hs1 (fun q x _ => loop14 n hn1 hn hn2 E H m q (a ++ [x]) f)
      | false =>
        cases hs2 : kwB tk p [102, 117, 110, 99] with
        | true => exact step14_fun tk en hk n hn1 hn hn2 E H m p a f hp hs1 hs2 (fun q x _ => loop14 n hn1 hn hn2 E H m q a (f ++ [x]))
        | false => exact step14_bad tk en hk n E H m p a f hp hs1 hs2
    · intro ca cf J s hm hpl ha hf hoa hof s2 s3 s6 s7
      have hr : declsP tk n (m + 1) p a f = .ok ⟨a, f⟩ := by rw [declsP, if_neg hp]
      rw [hr]
      exact end14_ok tk en p hp a f ca cf E J s H s2 s3 s6 s7
end
theorem parse14 (t : List UInt8) (ht : t.length ≤ 4000000) (H : Heap) : callF E1 14 [.str t] H = some (encPR (parseP t), H) := by
  rw [go (fn := F14) rfl rfl rfl]
  have hs := scan28 t ht
  unfold parseP
  cases hx : scanT t with
  | error ep =>
    obtain ⟨e, p⟩ := ep
    have he : ¬ e = 0 := by have := scanT_err hx; omega
    have h1 := at3 (H := H) (ok29_any (H.length + 3) (.sl .none []) (.int .i64 0) (.int .i64 t.length) (.int .i64 p) e)
    have he' : (e == 0) = false := by simpa using he
    rw [he'] at h1
    have h2 : runF E1 H.length false c14_26 (slots14 H) (H ++ [zP, zErr, .cells [.int .i64 e, .int .i64 p], .cells [.sl .none [], .int .i64 0, .int .i64 t.length, .int .i64 e, .int .i64 p], zP]) = some (.exit 0, slots14 H ++ [(34, .bool false)], H ++ [zP, zErr, .cells [.int .i64 e, .int .i64 p], .cells [.sl .none [], .int .i64 0, .int .i64 t.length, .int .i64 e, .int .i64 p], zP]) := by
      rw [q14_26]
      simp [h1]
    simp [F14, hs, hx, encScan, encPR, he, h1, h2]
  | ok tk =>
    have hok := scanT_ok2 hx
    have hl := loop14 tk t.length hok (40 * tk.length + 100) (by omega) (by have := hok.len; omega) (by omega) zErr H (tk.length + 1) 0 [] [] .full .full [] (slots14 H) (by omega) (by omega) (by have := hok.len; simp; omega) (by have := hok.len; simp; omega) own_full own_full rfl rfl rfl rfl
    have hg : encPR (match declsP tk (40 * tk.length + 100) (tk.length + 1) 0 [] [] with
      | .error q => .error (2, offS tk t.length q)
      | .ok p => .ok p) = encParse tk t.length (declsP tk (40 * tk.length + 100) (tk.length + 1) 0 [] []) := by
      rcases declsP tk (40 * tk.length + 100) (tk.length + 1) 0 [] [] with q | p <;> rfl
    refine Eq.trans ?_ (congrArg (fun x => some (x, H)) hg.symm)
    rw [← hl]
    simp [F14, hs, hx, encScan] <;> rfl
end Go.Proofs.Ytkomfefpfalajaa
