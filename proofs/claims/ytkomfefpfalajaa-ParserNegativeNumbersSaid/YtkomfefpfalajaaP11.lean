/- The lexer's symbols and first token. -/
import Derived.Test.YtkomfefpfalajaaP10
namespace Go.Proofs.Ytkomfefpfalajaa
open Go Go.Proofs Ab
set_option maxRecDepth 100000
set_option linter.unusedSimpArgs false
set_option linter.unusedVariables false
section
variable (t : List UInt8) (ht : t.length ≤ 4000000)
abbrev longsV : List AV := [.str [62, 62, 62], .str [60, 60], .str [62, 62], .str [60, 61], .str [62, 61], .str [61, 61], .str [33, 61]]
include ht
theorem loop95a (n0 : Nat) (h : Heap) : ∀ (ws : List (List UInt8)) (i : Nat) (s : Slots), longs.drop i = ws → i + ws.length = 7 → get s 0 = .str t → get s 6 = .agg longsV → get s 7 = .int .i64 i →
    blkK (some [0]) 0 (runF E1 n0 false c95_16 s h) = if longN ws t ≠ 0 then some (.ret, [(2, .int .i64 (longN ws t))], h) else some (.nrm, [(0, .str t)], h)
  | [], i, s, hd, hi, h0, h6, h7 => by
    have _ := ht
    have hn : ¬ ((i : Int) < 7) := by simp at hi; omega
    rw [q95_16]
    simp [h0, h6, h7, hn, longN]
  | w :: ws, i, s, hd, hi, h0, h6, h7 => by
    simp only [List.length_cons] at hi
    have hlt : (i : Int) < 7 := by omega
    have hx : (longsV.drop i).take 1 = [.str w] := by
      have h2 : longsV = longs.map AV.str := rfl
      rw [h2, ← List.map_drop, hd]
      rfl
    have hmin : min 1 (7 - i) = 1 := by omega
    have hwl : w.length ≠ 0 ∧ w.length ≤ 3 := by
      have : ∀ w ∈ longs, w.length ≠ 0 ∧ w.length ≤ 3 := by decide
      apply this
      have := congrArg (fun l => l[0]?) hd
      simp at this
      exact List.mem_of_getElem? this
    have hd' : longs.drop (i + 1) = ws := by
      have := congrArg List.tail hd
      simpa using this
    have hw : IntKind.i64.wrap ((i : Int) + 1) = (i : Int) + 1 := wrapR ⟨by omega, by omega⟩
    have ih := loop95a n0 h ws (i + 1) [(0, .str t), (6, .agg longsV), (7, .int .i64 ((i + 1 : Nat) : Int))] hd' (by omega) rfl rfl rfl
    simp at ih
    rw [q95_16]
    by_cases hlen : w.length ≤ t.length
    · have hlen' : (w.length : Int) ≤ t.length := by omega
      by_cases he : t.take w.length = w
      · simp [h0, h6, h7, hlt, hx, hmin, hlen, hlen', he, longN, hwl]
      · simp [h0, h6, h7, hlt, hx, hmin, hlen, hlen', he, longN, hw, ih]
    · have hlen' : ¬ (w.length : Int) ≤ t.length := by omega
      have he : ¬ t.take w.length = w := by
        intro he
        have := congrArg List.length he
        rw [List.length_take] at this
        omega
      simp [h0, h6, h7, hlt, hx, hmin, hlen, hlen', he, longN, hw, ih]
theorem loop95b (c0 : UInt8) (r0 : List UInt8) (n0 : Nat) (h : Heap) : ∀ (r : List UInt8) (k : Nat) (s : Slots), singles.drop k = r → k + r.length = 23 → get s 0 = .str (c0 :: r0) → get s 5 = .int .i64 k →
    blkK (some []) 2 (runF E1 n0 false c95_32 s h) = if r.contains c0 then some (.ret, [(2, .int .i64 1)], h) else some (.nrm, [], h)
  | [], k, s, hd, hk, h0, h5 => by
    have _ := ht
    have hn : ¬ ((k : Int) < 23) := by simp at hk; omega
    rw [q95_32]
    simp [h0, h5, hn]
  | c :: r, k, s, hd, hk, h0, h5 => by
    simp only [List.length_cons] at hk
    have hlt : (k : Int) < 23 := by omega
    have hx : singles[k]? = some c := by
      have := congrArg (fun l => l[0]?) hd
      simpa using this
    unfold singles at hx
    have hd' : singles.drop (k + 1) = r := by
      have := congrArg List.tail hd
      simpa using this
    have hw : IntKind.i64.wrap ((k : Int) + 1) = (k : Int) + 1 := wrapR ⟨by omega, by omega⟩
    have ih := loop95b c0 r0 n0 h r (k + 1) [(0, .str (c0 :: r0)), (5, .int .i64 ((k + 1 : Nat) : Int))] hd' (by omega) rfl rfl
    simp at ih
    have he : ((c0.toNat : Int) = c.toNat) ↔ c0 = c := by rw [Int.ofNat_inj, UInt8.toNat_inj]
    rw [q95_32]
    by_cases hc : c0 = c
    · have he' := he.2 hc
      simp [h0, h5, hlt, hx, hw, he', hc, ih, -getElem?_pos, List.getElem?_cons_zero]
    · have he' : ¬ (c0.toNat : Int) = c.toNat := fun h => hc (he.1 h)
      simp [h0, h5, hlt, hx, hw, he', hc, ih, -getElem?_pos, List.getElem?_cons_zero]
theorem symbolLen95 (hne : t ≠ []) (H : Heap) : callF E1 95 [.str t] H = some (.int .i64 (symN t), H) := by
  rw [go (fn := F95) rfl rfl rfl]
  have hl := loop95a t ht H.length H longs 0 [(0, .str t), (6, .agg longsV), (7, .int .i64 (0 : Nat))] rfl rfl rfl rfl rfl
  obtain ⟨c, r, rfl⟩ : ∃ c r, t = c :: r := by
    cases t with
    | nil => exact absurd rfl hne
    | cons c r => exact ⟨c, r, rfl⟩
  by_cases hz : longN longs (c :: r) = 0
  · have hl2 := loop95b (c :: r) ht c r H.length H singles 0 [(0, .str (c :: r)), (5, .int .i64 (0 : Nat))] rfl rfl rfl rfl
    have hs : symN (c :: r) = if singles.contains c then 1 else 0 := by simp [symN, hz]
    cases hc : singles.contains c with
    | true =>
      rw [hc] at hl2 hs
      simp [hz] at hl hl2
      simp [F95, hl, hl2, hs]
    | false =>
      rw [hc] at hl2 hs
      simp [hz] at hl hl2
      simp [F95, hl, hl2, hs]
  · have hs : symN (c :: r) = longN longs (c :: r) := by simp [symN, hz]
    simp [hz] at hl
    simp [F95, hl, hs]
def encFirst (r : Except Int (Int × List UInt8)) : AV := match r with
  | .error e => .tup [.agg [.int .i64 0, .str [], .int .i64 0], .int .i64 e]
  | .ok (k, s) => .tup [.agg [.int .i64 k, .str s, .int .i64 0], .int .i64 0]
omit ht in
theorem symN_le (t : List UInt8) : symN t ≤ t.length := by
  have hl : ∀ ws : List (List UInt8), longN ws t ≤ t.length := by
    intro ws
    induction ws with
    | nil => simp [longN]
    | cons w ws ih =>
      rw [longN]
      split
      · rename_i h
        have := congrArg List.length h
        rw [List.length_take] at this
        omega
      · exact ih
  unfold symN
  split
  · exact hl _
  · cases t with
    | nil => simp
    | cons c r =>
      simp only
      split <;> simp
theorem first52 (hne : t ≠ []) (H : Heap) : callF E1 52 [.str t] H = some (encFirst (firstT t), H) := by
  rw [go (fn := F52) rfl rfl rfl]
  have h1 := wordLen94 t ht
  have h2 := symbolLen95 t ht hne
  have hwl := wordN_le t
  have hsl := symN_le t
  obtain ⟨c, r, rfl⟩ : ∃ c r, t = c :: r := by
    cases t with
    | nil => exact absurd rfl hne
    | cons c r => exact ⟨c, r, rfl⟩
  by_cases hw : wordN (c :: r) = 0
  · by_cases hs : symN (c :: r) = 0
    · have hr : firstT (c :: r) = .error 2 := by simp [firstT, hw, hs]
      simp [F52, h1, hw, h2, hs, hr, encFirst]
    · have hr : firstT (c :: r) = .ok (3, (c :: r).take (symN (c :: r))) := by simp [firstT, hw, hs]
      simp [F52, h1, hw, h2, hs, hr, encFirst]
      simp only [List.length_cons] at hwl hsl
      omega
  · cases hd : isDec c with
    | true =>
      have hv := valid97 ((c :: r).take (wordN (c :: r))) (by rw [List.length_take]; omega) (by intro h; rw [List.take_eq_nil_iff] at h; simp [hw] at h)
      have hd96 := isDigit96 c
      rw [hd] at hd96
      cases hn : numOk ((c :: r).take (wordN (c :: r))) with
      | true =>
        have hr : firstT (c :: r) = .ok (2, (c :: r).take (wordN (c :: r))) := by simp [firstT, headDec, hw, hd, hn]
        rw [hn] at hv
        simp [F52, h1, hw, hr, encFirst, hd96, hv]
        simp only [List.length_cons] at hwl hsl
        omega
      | false =>
        have hr : firstT (c :: r) = .error 2 := by simp [firstT, headDec, hw, hd, hn]
        rw [hn] at hv
        simp [F52, h1, hw, hr, encFirst, hd96, hv]
        simp only [List.length_cons] at hwl hsl
        omega
    | false =>
      have hd96 := isDigit96 c
      rw [hd] at hd96
      by_cases h16 : 16 < wordN (c :: r)
      · have hr : firstT (c :: r) = .error 6 := by simp [firstT, headDec, hw, hd, h16]
        have h16' : (16 : Int) < wordN (c :: r) := by omega
        simp [F52, h1, hw, hr, encFirst, hd96, h16, h16']
      · have hr : firstT (c :: r) = .ok (1, (c :: r).take (wordN (c :: r))) := by simp [firstT, headDec, hw, hd, h16]
        have h16' : ¬ (16 : Int) < wordN (c :: r) := by omega
        simp [F52, h1, hw, hr, encFirst, hd96, h16, h16']
        simp only [List.length_cons] at hwl hsl
        omega
omit ht in
theorem encTs1 (x : Tok) : encTs [x] = [encT x] := rfl
def encScan (acc : List Tok) (r : Except (Int × Nat) (List Tok)) : AV := match r with
  | .error (e, p) => .tup [.sl .none [], .agg [.int .i64 e, .int .i64 p]]
  | .ok l => .tup [.sl .none (encTs (acc ++ l)), .agg [.int .i64 0, .int .i64 0]]
abbrev zErr : Ob := .cells [.int .i64 0, .int .i64 0]
omit ht in
@[simp] theorem encTs_size' (l : List Tok) : sizeOk 3 (encTs l) = true := encTs_size l
theorem loop21 (H : Heap) (h20 : t.length ≤ 20000) : ∀ (n : Nat) (r : List UInt8) (p : Nat) (acc : List Tok) (c : Cap) (J : Heap) (s : Slots), r.length ≤ n → t.drop p = r → p + r.length = t.length → acc.length + r.length ≤ 20000 → get s 0 = .str t → get s 3 = .ptr H.length 0 → get s 4 = .sl c (encTs acc) → get s 5 = .int .i64 p → Own (H.length + 1) J 3 c acc.length →
    finK F21 H.length (seqK E1 H.length false c21_32 (blkK (some [3, 4]) 0 (runF E1 H.length false c21_28 s (H ++ zErr :: J)))) = some (encScan acc (scanR n r p), H)
  | n, [], p, acc, c, J, s, hn, hd, hp, hal, h0, h3, h4, h5, hown => by
    have hlt : ¬ ((p : Int) < t.length) := by simp at hp; omega
    have hr : scanR n [] p = .ok [] := by cases n <;> simp [scanR]
    rw [hr, q21_28]
    simp [F21, h0, h3, h4, h5, hlt, encScan]
  | n + 1, c0 :: r, p, acc, c, J, s, hn, hd, hp, hal, h0, h3, h4, h5, hown => by
    simp only [List.length_cons] at hp hn hal
    have hlt : (p : Int) < t.length := by omega
    have hle : (p : Int) ≤ t.length := by omega
    have hf := first52 (c0 :: r) (by simp only [List.length_cons]; omega) (by simp)
    cases hx : firstT (c0 :: r) with
    | error e =>
      have he := firstT_err hx
      have he0 : ¬ e = 0 := by omega
      have hr : scanR (n + 1) (c0 :: r) p = .error (e, p) := by simp [scanR, hx]
      rw [hr, q21_28]
      simp [F21, h0, h3, h4, h5, hlt, hle, hd, hf, hx, encScan, encFirst, he0]
    | ok kw =>
      obtain ⟨k, w⟩ := kw
      have hw := firstT_ok (by simp) hx
      simp only [List.length_cons] at hw
      have hd2 : t.drop (p + w.length) = (c0 :: r).drop w.length := by rw [← hd, List.drop_drop]
      have hs := spaceLen51 ((c0 :: r).drop w.length) (by rw [List.length_drop, List.length_cons]; omega)
      have hsle := spaceN_le false ((c0 :: r).drop w.length)
      rw [List.length_drop, List.length_cons] at hsle
      generalize hsp : spaceN false ((c0 :: r).drop w.length) = sp at *
      have hd3 : t.drop (p + w.length + sp) = ((c0 :: r).drop w.length).drop sp := by rw [← hd2, List.drop_drop]
      obtain ⟨c', J', happ, hown', hkeep⟩ := appC_keep (i := J.length) (n0 := H.length) (g := false) (sz := 3) (H1 := H ++ [zErr]) (J := J ++ [.cells [.int .i64 k, .str w, .int .i64 p]]) (xs := encTs acc) (ys := [encT ⟨k, w, p⟩]) (c := c) (by simp) (by
        rw [List.length_append, encTs_length]
        rcases hown with rfl | ⟨o, rfl, ho⟩
        · exact own_full
        · have hlt : o < J.length := by rw [List.getElem?_eq_some_iff] at ho; exact ho.1
          exact .inr ⟨o, rfl, by rw [List.getElem?_append_left hlt]; exact ho⟩) (by simp; rfl)
      rw [List.length_append] at happ hown'
      have ih := loop21 H h20 n (((c0 :: r).drop w.length).drop sp) (p + w.length + sp) (acc ++ [⟨k, w, p⟩]) c' J' [(0, .str t), (3, .ptr H.length 0), (4, .sl c' (encTs (acc ++ [⟨k, w, p⟩]))), (5, .int .i64 ((p + w.length + sp : Nat) : Int))]
        (by rw [List.length_drop, List.length_drop, List.length_cons]; omega) hd3 (by rw [List.length_drop, List.length_drop, List.length_cons]; omega) (by rw [List.length_drop, List.length_drop, List.length_cons, List.length_append]; simp; omega) rfl rfl rfl rfl (by simpa [encTs] using hown')
      have hr : encScan acc (scanR (n + 1) (c0 :: r) p) = encScan (acc ++ [⟨k, w, p⟩]) (scanR n (((c0 :: r).drop w.length).drop sp) (p + w.length + sp)) := by
        rw [scanR, if_neg (by simp), hx]
        simp only [hsp]
        rcases scanR n (((c0 :: r).drop w.length).drop sp) (p + w.length + sp) with ⟨e, q⟩ | l
        · rfl
        · simp [encScan]
      rw [hr, ← ih, q21_28]
      have w1 : IntKind.i64.wrap ((p : Int) + w.length) = (p : Int) + w.length := wrapR ⟨by omega, by omega⟩
      have w2 : IntKind.i64.wrap ((p : Int) + w.length + sp) = (p : Int) + w.length + sp := wrapR ⟨by omega, by omega⟩
      have w3 : (p : Int) + w.length ≤ t.length := by omega
      have w5 : (0 : Int) ≤ (p : Int) + w.length := by omega
      have w4 : (((p : Int) + w.length)).toNat = p + w.length := by omega
      have hbb : 2 * ((acc.length + 1) * 32) + 2048 * 32 ≤ 281474976710656 := by omega
      have happ2 : appC H.length false (H.length + (J.length + 1 + 1)) 0 3 (H ++ zErr :: (J ++ [.cells [.int .i64 k, .str w, .int .i64 p], .dead])) (encTs acc) [.agg [.int .i64 k, .str w, .int .i64 p]] c = some (.sl c' (encTs acc ++ [.agg [.int .i64 k, .str w, .int .i64 p]]), H ++ zErr :: J') := by
        have e : H.length + [zErr].length + (J ++ [Ob.cells [.int .i64 k, .str w, .int .i64 p]]).length = H.length + (J.length + 1 + 1) := by simp; omega
        rw [e] at happ
        simpa [encT] using happ
      simp [F21, h0, h3, h4, h5, hlt, hle, hd, hf, hx, encFirst, w1, w2, w3, w4, hd2, hs, happ2, hbb, hkeep, w5, encTs_append, encTs1, encT]
theorem scan21 (H : Heap) : callF E1 21 [.str t] H = some (encScan [] (scanT t), H) := by
  rw [go (fn := F21) rfl rfl rfl]
  unfold scanT
  by_cases h20 : 20000 < t.length
  · have h20' : (20000 : Int) < t.length := by omega
    simp [F21, h20, h20', encScan]
  · have h20' : ¬ (20000 : Int) < t.length := by omega
    have hs := spaceLen51 t ht
    have hle := spaceN_le false t
    have hl := loop21 t ht H (by omega) t.length (t.drop (spaceN false t)) (spaceN false t) [] .full [] [(0, .str t), (3, .ptr H.length 0), (4, .sl .full []), (5, .int .i64 (spaceN false t))] (by rw [List.length_drop]; omega) rfl (by rw [List.length_drop]; omega) (by rw [List.length_drop]; simp; omega) rfl rfl rfl rfl own_full
    rw [if_neg h20, ← hl]
    simp [F21, h20', hs]
end
end Go.Proofs.Ytkomfefpfalajaa
