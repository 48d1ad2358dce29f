/- The framework, part 11: Neg. -/
import Derived.Test.YtkomfefpfalajaaAb8
import Derived.KernelRfl
/- The law of negative numbers, without a program in sight. -/
namespace Ab
open Go
def consX (x : Tok) (r : Except (Int × Nat) (List Tok)) : Except (Int × Nat) (List Tok) := match r with
  | .error e => .error e
  | .ok l => .ok (x :: l)
theorem consX_ok (x : Tok) (l : List Tok) : consX x (.ok l) = .ok (x :: l) := rfl
theorem scan_tok {n : Nat} {s t sp r : List UInt8} {p q : Nat} {k : Int} (hne : t ≠ []) (e : s = t ++ (sp ++ r)) (hq : q = p + t.length + sp.length) (ht : firstT s = .ok (k, t)) (hs : spaceN false (sp ++ r) = sp.length) :
    scanR (n + 1) s p = consX ⟨k, t, p⟩ (scanR n r q) := by
  subst e hq
  have hne' : t ++ (sp ++ r) ≠ [] := by
    intro h
    exact hne (List.append_eq_nil_iff.1 h).1
  rw [scanR, if_neg hne', ht]
  simp only [List.drop_left, hs]
  cases scanR n r (p + t.length + sp.length) <;> rfl
theorem scanR_nil (n p : Nat) : scanR n [] p = .ok [] := by cases n <;> simp [scanR]
def rep : Nat → List UInt8
  | 0 => []
  | k + 1 => 45 :: 32 :: rep k
def minusT : Nat → Nat → List Tok
  | 0, _ => []
  | k + 1, p => ⟨3, [45], p⟩ :: minusT k (p + 2)
def endT (d : List UInt8) (p : Nat) : List Tok := [⟨2, d, p⟩, ⟨3, [59], (p + d.length : Nat)⟩, ⟨3, [125], (p + d.length + 2 : Nat)⟩]
section
variable {c : UInt8} {d' : List UInt8}
theorem spaceN_dec (hc : isDec c = true) (r : List UInt8) : spaceN false (c :: r) = 0 := by
  have := isDec_iff.1 hc
  rw [spaceN, if_neg (by omega), if_neg (by omega)]
theorem wordN_dec : ∀ (d r : List UInt8), (∀ x ∈ d, isDec x = true) → wordN (d ++ 59 :: r) = d.length
  | [], r, _ => rfl
  | x :: d, r, h => by
    have hx : wordB x = true := by unfold wordB; rw [h x (by simp)]; simp
    rw [List.cons_append, wordN, if_pos hx, wordN_dec d r fun y hy => h y (by simp [hy]), List.length_cons]
theorem scan_end {d : List UInt8} (hd : ∀ x ∈ d, isDec x = true) (hne : d ≠ []) (hok : numOk d = true) (n p : Nat) : scanR (n + 3) (d ++ [59, 32, 125]) p = .ok (endT d p) := by
  have ht : firstT (d ++ ([] ++ [59, 32, 125])) = .ok (2, d) := by
    have hw := wordN_dec d [32, 125] hd
    obtain ⟨c, r, rfl⟩ : ∃ c r, d = c :: r := by
      cases d with
      | nil => exact absurd rfl hne
      | cons c r => exact ⟨c, r, rfl⟩
    unfold firstT
    simp only [List.nil_append]
    rw [hw, if_neg (by simp), List.take_left]
    rw [if_pos (by simp [headDec]; exact hd c (by simp)), if_pos hok]
  rw [scan_tok (n := n + 2) (p := p) (q := p + d.length) (s := d ++ [59, 32, 125]) (t := d) (sp := []) (r := [59, 32, 125]) (k := 2) hne (by simp) (by simp) (by simpa using ht) rfl,
    scan_tok (n := n + 1) (p := p + d.length) (q := p + d.length + 2) (s := [59, 32, 125]) (t := [59]) (sp := [32]) (r := [125]) (k := 3) (by simp) rfl rfl rfl rfl,
    scan_tok (n := n) (p := p + d.length + 2) (q := p + d.length + 3) (s := [125]) (t := [125]) (sp := []) (r := []) (k := 3) (by simp) rfl rfl rfl rfl, scanR_nil]
  rfl
theorem scan_minus {d : List UInt8} (hd : ∀ x ∈ d, isDec x = true) (hne : d ≠ []) (hok : numOk d = true) (n : Nat) : ∀ (k p : Nat), scanR (n + 3 + k) (rep k ++ (d ++ [59, 32, 125])) p = .ok (minusT k p ++ endT d (p + 2 * k))
  | 0, p => by
    rw [rep, List.nil_append, Nat.add_zero, scan_end hd hne hok]
    rfl
  | k + 1, p => by
    have ht : firstT ([45] ++ ([32] ++ (rep k ++ (d ++ [59, 32, 125])))) = .ok (3, [45]) := rfl
    have hs : spaceN false ([32] ++ (rep k ++ (d ++ [59, 32, 125]))) = ([32] : List UInt8).length := by
      cases k with
      | zero =>
        obtain ⟨c, r, rfl⟩ : ∃ c r, d = c :: r := by
          cases d with
          | nil => exact absurd rfl hne
          | cons c r => exact ⟨c, r, rfl⟩
        show spaceN false (c :: (r ++ [59, 32, 125])) + 1 = 1
        rw [spaceN_dec (hd c (by simp))]
      | succ k => rfl
    rw [show n + 3 + (k + 1) = n + 3 + k + 1 from rfl, scan_tok (n := n + 3 + k) (p := p) (q := p + 2) (s := rep (k + 1) ++ (d ++ [59, 32, 125])) (t := [45]) (sp := [32]) (r := rep k ++ (d ++ [59, 32, 125])) (k := 3) (by simp) rfl rfl ht hs, scan_minus hd hne hok n k (p + 2), consX_ok]
    simp only [minusT, List.cons_append]
    rw [show p + 2 + 2 * k = p + 2 * (k + 1) by omega]
def headL : List UInt8 := [102, 117, 110, 99, 32, 102, 40, 41, 32, 123, 32, 114, 101, 116, 117, 114, 110, 32]
def headT : List Tok := [⟨1, [102, 117, 110, 99], 0⟩, ⟨1, [102], 5⟩, ⟨3, [40], 6⟩, ⟨3, [41], 7⟩, ⟨3, [123], 9⟩, ⟨1, [114, 101, 116, 117, 114, 110], 11⟩]
theorem scan_head (n : Nat) (X : List UInt8) (hX : spaceN false X = 0) (l : List Tok) (hl : scanR n X 18 = .ok l) : scanR (n + 6) (headL ++ X) 0 = .ok (headT ++ l) := by
  have hs : spaceN false ([32] ++ X) = ([32] : List UInt8).length := by
    show spaceN false X + 1 = 1
    rw [hX]
  rw [scan_tok (n := n + 5) (p := 0) (q := 5) (s := headL ++ X) (t := [102, 117, 110, 99]) (sp := [32]) (r := [102, 40, 41, 32, 123, 32, 114, 101, 116, 117, 114, 110, 32] ++ X) (k := 1) (by simp) rfl rfl rfl rfl,
    scan_tok (n := n + 4) (p := 5) (q := 6) (s := [102, 40, 41, 32, 123, 32, 114, 101, 116, 117, 114, 110, 32] ++ X) (t := [102]) (sp := []) (r := [40, 41, 32, 123, 32, 114, 101, 116, 117, 114, 110, 32] ++ X) (k := 1) (by simp) rfl rfl rfl rfl,
    scan_tok (n := n + 3) (p := 6) (q := 7) (s := [40, 41, 32, 123, 32, 114, 101, 116, 117, 114, 110, 32] ++ X) (t := [40]) (sp := []) (r := [41, 32, 123, 32, 114, 101, 116, 117, 114, 110, 32] ++ X) (k := 3) (by simp) rfl rfl rfl rfl,
    scan_tok (n := n + 2) (p := 7) (q := 9) (s := [41, 32, 123, 32, 114, 101, 116, 117, 114, 110, 32] ++ X) (t := [41]) (sp := [32]) (r := [123, 32, 114, 101, 116, 117, 114, 110, 32] ++ X) (k := 3) (by simp) rfl rfl rfl rfl,
    scan_tok (n := n + 1) (p := 9) (q := 11) (s := [123, 32, 114, 101, 116, 117, 114, 110, 32] ++ X) (t := [123]) (sp := [32]) (r := [114, 101, 116, 117, 114, 110, 32] ++ X) (k := 3) (by simp) rfl rfl rfl rfl,
    scan_tok (n := n) (p := 11) (q := 18) (s := [114, 101, 116, 117, 114, 110, 32] ++ X) (t := [114, 101, 116, 117, 114, 110]) (sp := [32]) (r := X) (k := 1) (by simp) rfl rfl rfl hs, hl]
  rfl
def negText (k : Nat) (d : List UInt8) : List UInt8 := headL ++ (rep k ++ (d ++ [59, 32, 125]))
theorem rep_length : ∀ k, (rep k).length = 2 * k
  | 0 => rfl
  | k + 1 => by simp [rep, rep_length k]; omega
theorem scan_neg {d : List UInt8} (hd : ∀ x ∈ d, isDec x = true) (hne : d ≠ []) (hok : numOk d = true) (k : Nat) (hl : d.length + 2 * k ≤ 10000) : scanT (negText k d) = .ok (headT ++ (minusT k 18 ++ endT d (18 + 2 * k))) := by
  have h0 : spaceN false (negText k d) = 0 := rfl
  have hlen : (negText k d).length = d.length + 2 * k + 21 := by
    unfold negText
    rw [List.length_append, List.length_append, rep_length, List.length_append]
    simp [headL]
    omega
  have hdl : 1 ≤ d.length := by
    cases d with
    | nil => exact absurd rfl hne
    | cons => simp
  unfold scanT
  rw [if_neg (by omega), h0, List.drop_zero, hlen]
  have hX : spaceN false (rep k ++ (d ++ [59, 32, 125])) = 0 := by
    cases k with
    | zero =>
      obtain ⟨c, r, rfl⟩ : ∃ c r, d = c :: r := by
        cases d with
        | nil => exact absurd rfl hne
        | cons c r => exact ⟨c, r, rfl⟩
      exact spaceN_dec (hd c (by simp)) _
    | succ k => rfl
  obtain ⟨m, hm⟩ : ∃ m, d.length + 2 * k + 21 = (m + 3 + k) + 6 := ⟨d.length + k + 12, by omega⟩
  rw [hm]
  exact scan_head _ _ hX _ (scan_minus hd hne hok m k 18)
def negIt : Nat → Ex → Ex
  | 0, x => x
  | k + 1, x => opE 20 [negIt k x]
theorem neg_parse (d : List UInt8) : ∀ k : Nat, k < 5 → declsP (headT ++ (minusT (k + 1) 18 ++ endT d (18 + 2 * (k + 1)))) (40 * (k + 10) + 100) (k + 11) 0 [] [] = .ok ⟨[], [⟨[102], [], [], [], negIt k (numE (negV d))⟩]⟩
  | 0, _ => by kernel_rfl
  | 1, _ => by kernel_rfl
  | 2, _ => by kernel_rfl
  | 3, _ => by kernel_rfl
  | 4, _ => by kernel_rfl
  | k + 5, h => absurd h (by omega)
theorem num_expr (tk : List Tok) (p : Nat) (v : Int) (hn : (tokAt tk p).kind = 2) (hv : parseW (tokAt tk p).text = some v) (h1 : (tokAt tk (p + 1)).text = [59]) (n : Nat) : exprP tk (n + 12) p = .ok (numE v, p + 1) := by
  have hs : ∀ s, symB tk p s = false := by intro s; simp [symB, hn]
  have hb : numB tk p = true := by simp [numB, hn]
  have hq : symB tk (p + 1) [63] = false := by simp [symB, h1]
  have ho : opOf [59] = (0, 0, false) := by decide
  have hU : ∀ m, unaryP tk (m + 2) p = .ok (numE v, p + 1) := by
    intro m
    rw [unaryP]
    simp [hs, primP, hb, hv]
  have hL : ∀ m k a, loopP tk (m + 1) k a (p + 1) = .ok (a, p + 1) := by
    intro m k a
    rw [loopP]
    simp [h1, ho]
  have hB : ∀ j m, j ≤ 8 → binP tk (m + 3 + j) (8 - j) p = .ok (numE v, p + 1) := by
    intro j
    induction j with
    | zero => intro m _; rw [binP]; simpa using hU m
    | succ j ih =>
      intro m hj
      rw [show m + 3 + (j + 1) = (m + 3 + j) + 1 from rfl, binP, if_neg (by omega), show 8 - (j + 1) + 1 = 8 - j by omega, ih m (by omega)]
      simp only
      rw [show m + 3 + j = (m + 2 + j) + 1 by omega]
      exact hL (m + 2 + j) _ _
  have h0 := hB 8 n (by omega)
  rw [show n + 12 = (n + 3 + 8) + 1 from rfl, exprP]
  simp only [Nat.sub_self] at h0
  rw [h0]
  simp [hq]
theorem neg_parse0 (d : List UInt8) (v : Int) (hv : parseW d = some v) : declsP (headT ++ (minusT 0 18 ++ endT d (18 + 2 * 0))) (40 * 9 + 100) 10 0 [] [] = .ok ⟨[], [⟨[102], [], [], [], numE v⟩]⟩ := by
  have he : exprP (headT ++ (minusT 0 18 ++ endT d (18 + 2 * 0))) (448 + 12) 6 = .ok (numE v, 7) := num_expr (headT ++ (minusT 0 18 ++ endT d (18 + 2 * 0))) 6 v rfl (by exact hv) rfl 448
  have hd : declsP (headT ++ (minusT 0 18 ++ endT d (18 + 2 * 0))) (40 * 9 + 100) 10 0 [] [] = match (bindR (exprP (headT ++ (minusT 0 18 ++ endT d (18 + 2 * 0))) (448 + 12) 6) fun v p8 => bindR (expR (headT ++ (minusT 0 18 ++ endT d (18 + 2 * 0))) p8 [59]) fun _ p9 => bindR (expR (headT ++ (minusT 0 18 ++ endT d (18 + 2 * 0))) p9 [125]) fun _ p10 => .ok ((⟨[102], [], [], [], v⟩ : Ab.Fn), p10)) with
      | .error q => .error q
      | .ok (x, p1) => declsP (headT ++ (minusT 0 18 ++ endT d (18 + 2 * 0))) (40 * 9 + 100) 9 p1 [] ([] ++ [x]) := by kernel_rfl
  rw [hd, he]
  rfl
theorem numOk_digs (n : Nat) (hn : n ≤ 9223372036854775808) : numOk (digs n) = true := by
  unfold numOk
  have h1 : (digs n).all isDec = true := List.all_eq_true.2 (digs_all n)
  have h2 := digs_head n
  have h3 := digs_length 18 n (by omega)
  rw [h1, numOf_digs]
  simp only [Bool.true_and, Bool.and_eq_true, decide_eq_true_eq, Bool.or_eq_true]
  refine ⟨?_, h3, hn⟩
  rcases h2 with h2 | h2
  · exact .inl (by simpa using h2)
  · exact .inr (by simp [h2])
theorem negV_digs (n : Nat) (hn : n < 9223372036854775808) : negV (digs n) = -(n : Int) := by
  unfold negV
  by_cases h0 : n = 0
  · subst h0
    rw [digs_lt (by omega)]
    rfl
  · have h := parseW_fmt (v := -(n : Int)) (by omega)
    have e : fmtI (-(n : Int)) = 45 :: digs n := by
      unfold fmtI
      rw [if_pos (by omega)]
      simp
    rw [e] at h
    rw [h]
theorem parseW_digs (n : Nat) (hn : n < 9223372036854775808) : parseW (digs n) = some (n : Int) := by
  have h := parseW_fmt (v := (n : Int)) (by omega)
  have e : fmtI (n : Int) = digs n := by
    unfold fmtI
    rw [if_neg (by omega)]
    simp
  rwa [e] at h
def negE (k n : Nat) : Ex := match k with
  | 0 => numE n
  | k + 1 => negIt k (numE (-(n : Int)))
theorem neg_law (k n : Nat) (hk : k ≤ 5) (hn : n < 9223372036854775808) : parseP (negText k (digs n)) = .ok ⟨[], [⟨[102], [], [], [], negE k n⟩]⟩ := by
  have hl := digs_length 18 n (by omega)
  have hs := scan_neg (digs_all n) (digs_ne n) (numOk_digs n (by omega)) k (by omega)
  unfold parseP
  rw [hs]
  have hlen : (headT ++ (minusT k 18 ++ endT (digs n) (18 + 2 * k))).length = k + 9 := by
    have : ∀ k p, (minusT k p).length = k := by
      intro k
      induction k with
      | zero => intro p; rfl
      | succ k ih => intro p; simp [minusT, ih]
    rw [List.length_append, List.length_append, this]
    simp [headT, endT]
    omega
  simp only [hlen]
  match k, hk with
  | 0, _ => rw [neg_parse0 _ _ (parseW_digs n hn)]; rfl
  | k + 1, hk =>
    have h := neg_parse (digs n) k (by omega)
    rw [negV_digs n hn] at h
    rw [show k + 1 + 9 = k + 10 by omega, show k + 10 + 1 = k + 11 by omega, h]
    rfl
theorem neg_bad : parseP (headL ++ ([57, 50, 50, 51, 51, 55, 50, 48, 51, 54, 56, 53, 52, 55, 55, 53, 56, 48, 56] ++ [59, 32, 125])) = .error (2, 18) := by kernel_rfl
theorem neg_least : parseP (headL ++ ([45, 57, 50, 50, 51, 51, 55, 50, 48, 51, 54, 56, 53, 52, 55, 55, 53, 56, 48, 56] ++ [59, 32, 125])) = .ok ⟨[], [⟨[102], [], [], [], numE (-9223372036854775808)⟩]⟩ := by kernel_rfl
end
end Ab
