/- ParserExpressions: both parsers answer the same at every text. -/
import Derived.Test.YtkomfefpfalajaaR21
import Derived.Test.YtkomfefpfalajaaPick
namespace Go.Proofs.Ytkomfefpfalajaa
open Go Go.Proofs Ab
set_option maxRecDepth 100000
set_option linter.unusedSimpArgs false
set_option linter.unusedVariables false
abbrev piecesX : List (List UInt8) := [[120], [49], [45], [126], [33], [43], [42], [60, 60], [62, 62], [62, 62, 62], [60], [62], [60, 61], [62, 61], [61, 61], [33, 61], [38], [94], [124], [63], [58], [40], [41], [97, 91], [93], [45, 49], [57, 50, 50, 51, 51, 55, 50, 48, 51, 54, 56, 53, 52, 55, 55, 53, 56, 48, 56], [37]]
theorem loop4 (l : List Int) (n0 : Nat) (h : Heap) : ∀ (n i : Nat) (t : List UInt8) (s : Slots), i + n = 16 → t.length ≤ 19 + 20 * i → get s 0 = .sl .none (l.map (AV.int .i64)) → get s 3 = .sl .full (piecesX.map AV.str) → get s 4 = .str t → get s 5 = .int .i64 i →
    ∃ t', t'.length ≤ 339 ∧ blkK (some [4]) 0 (runF E1 n0 false c4_12 s h) = some (.nrm, [(4, .str t')], h)
  | 0, i, t, s, hn, ht, h0, h3, h4, h5 => by
    have hi : i = 16 := by omega
    subst hi
    refine ⟨t, by omega, ?_⟩
    rw [q4_12]
    by_cases hl : (16 : Int) < l.length
    · simp [h0, h3, h4, h5, hl]
    · simp [h0, h3, h4, h5, hl]
  | n + 1, i, t, s, hn, ht, h0, h3, h4, h5 => by
    by_cases hl : i < l.length
    · have hl' : (i : Int) < l.length := by omega
      have h16 : (i : Int) < 16 := by omega
      have hx : l[i]? = some l[i] := List.getElem?_eq_getElem hl
      generalize l[i] = a at hx
      have hw : IntKind.i64.wrap ((i : Int) + 1) = (i : Int) + 1 := wrapR ⟨by omega, by omega⟩
      have p1 := pick a 28 (by decide) (by decide)
      have p2 := pick (IntKind.i64.wrap (a.tdiv 28)) 2 (by decide) (by decide)
      obtain ⟨b, hb⟩ : ∃ b, IntKind.i64.wrap (a.tdiv 28) = b := ⟨_, rfl⟩
      rw [hb] at p2
      obtain ⟨u, hu⟩ : ∃ u : Nat, a % 28 = u := ⟨(a % 28).toNat, by omega⟩
      obtain ⟨v, hv⟩ : ∃ v : Nat, b % 2 = v := ⟨(b % 2).toNat, by omega⟩
      have hu28 : u < 28 := by omega
      have hv2 : v < 2 := by omega
      rw [hu] at p1
      rw [hv] at p2
      obtain ⟨w, hpw, hwl⟩ : ∃ w, piecesX[u]? = some w ∧ w.length ≤ 19 := by
        have : ∀ u : Fin 28, ∃ w, piecesX[u.val]? = some w ∧ w.length ≤ 19 := by decide
        exact this ⟨u, hu28⟩
      obtain ⟨z, hz, hzl⟩ : ∃ z, ([[32], []] : List (List UInt8))[v]? = some z ∧ z.length ≤ 1 := by
        have : ∀ v : Fin 2, ∃ z, ([[32], []] : List (List UInt8))[v.val]? = some z ∧ z.length ≤ 1 := by decide
        exact this ⟨v, hv2⟩
      have hpw' : (piecesX.map AV.str)[u]? = some (.str w) := by rw [List.getElem?_map, hpw]; rfl
      have hz' : ([.str [32], .str []] : List AV)[v]? = some (.str z) := by
        have : ([[32], []] : List (List UInt8)).map AV.str = [.str [32], .str []] := rfl
        rw [← this, List.getElem?_map, hz]; rfl
      obtain ⟨t', ht', ih⟩ := loop4 l n0 h n (i + 1) (t ++ w ++ z) [(0, .sl .none (l.map (AV.int .i64))), (3, .sl .full (piecesX.map AV.str)), (4, .str (t ++ w ++ z)), (5, .int .i64 ((i + 1 : Nat) : Int))] (by omega) (by simp; omega) rfl rfl rfl rfl
      refine ⟨t', ht', ?_⟩
      have hx' : (l.map (AV.int .i64))[i]? = some (.int .i64 a) := by rw [List.getElem?_map, hx]; rfl
      have hlen : (piecesX.map AV.str).length = 28 := rfl
      generalize hP : piecesX.map AV.str = P at *
      have hsz : sizeOk 1 P = true := by rw [← hP]; rfl
      have b1 : t.length + w.length ≤ 9223372036854775807 := by omega
      have b2 : t.length + w.length + z.length ≤ 9223372036854775807 := by omega
      simp at ih
      rw [q4_12]
      simp [h0, h3, h4, h5, hl', h16, hx, hx', hlen, p1, p2, hpw', hz', hw, hb, b1, b2, ih, -getElem?_pos, List.getElem?_cons_zero, List.getElem?_cons_succ]
    · have hl' : ¬ (i : Int) < l.length := by omega
      refine ⟨t, by omega, ?_⟩
      rw [q4_12]
      simp [h0, h3, h4, h5, hl', hl]
/-- both parsers and the comparison, at any text -/
theorem sameErr (q : Except (Int × Int) Prg) : ∃ x a b, encPR q = .tup [x, .agg [.int .i64 a, .int .i64 b]] := by
  rcases q with ⟨e, p⟩ | p
  · exact ⟨_, _, _, rfl⟩
  · exact ⟨_, _, _, rfl⟩
theorem expr_run (l : List Int) (_hl : l.length ≤ maxLen) (_hw : ∀ m ∈ l, (Lit.int .i64 m).wf = true) : callF E1 4 [.sl .none (l.map (AV.int .i64))] [] = some (.bool true, []) := by
  rw [go (fn := F4) rfl rfl rfl]
  obtain ⟨t, ht, hl⟩ := loop4 l 0 [] 16 0 [102, 117, 110, 99, 32, 102, 40, 120, 41, 32, 123, 32, 114, 101, 116, 117, 114, 110, 32] [(0, .sl .none (l.map (AV.int .i64))), (3, .sl .full (piecesX.map AV.str)), (4, .str [102, 117, 110, 99, 32, 102, 40, 120, 41, 32, 123, 32, 114, 101, 116, 117, 114, 110, 32]), (5, .int .i64 (0 : Nat))] rfl (by simp) rfl rfl rfl rfl
  have p1 := parse11 (t ++ [59, 32, 125]) (by simp; omega)
  have p2 := parse14 (t ++ [59, 32, 125]) (by simp; omega)
  have b1 : t.length + 3 ≤ 9223372036854775807 := by omega
  simp at hl
  cases hx : parseP (t ++ [59, 32, 125]) with
  | error ep =>
    obtain ⟨e, p⟩ := ep
    rw [hx] at p1 p2
    have hs := sameP ⟨[], []⟩ ⟨by simp, by simp, by simp⟩
    simp [encPR, encP_eq, encAs, encFs] at p1 p2 hs
    simp [F4, hl, p1, p2, b1, hs, ex3]
  | ok prg =>
    rw [hx] at p1 p2
    have hs := sameP prg (parse_ok hx)
    simp [encPR, encP_eq] at p1 p2 hs
    simp [F4, hl, p1, p2, b1, hs, ex3]
end Go.Proofs.Ytkomfefpfalajaa
