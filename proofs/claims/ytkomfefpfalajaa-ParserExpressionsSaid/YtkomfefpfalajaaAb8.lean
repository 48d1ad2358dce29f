/- The framework, part 8: Lex, Okt. -/
import Derived.Test.YtkomfefpfalajaaAb7
/- The lexer, without a program in sight. -/
namespace Ab
open Go
def letB (c : UInt8) : Bool := (97 ≤ c.toNat && c.toNat ≤ 122) || (65 ≤ c.toNat && c.toNat ≤ 90) || c.toNat == 95
def wordB (c : UInt8) : Bool := letB c || isDec c
/-- how long the spaces and remarks are (true: within a remark) -/
def spaceN : Bool → List UInt8 → Nat
  | _, [] => 0
  | false, c :: r => if c.toNat = 32 ∨ c.toNat = 9 ∨ c.toNat = 10 ∨ c.toNat = 13 then spaceN false r + 1 else if c.toNat = 35 then spaceN true r + 1 else 0
  | true, c :: r => if c.toNat = 10 then spaceN false r + 1 else spaceN true r + 1
def wordN : List UInt8 → Nat
  | [] => 0
  | c :: r => if wordB c then wordN r + 1 else 0
def singles : List UInt8 := [43, 45, 42, 47, 37, 38, 124, 94, 126, 33, 60, 62, 61, 63, 58, 59, 44, 40, 41, 123, 125, 91, 93]
def longs : List (List UInt8) := [[62, 62, 62], [60, 60], [62, 62], [60, 61], [62, 61], [61, 61], [33, 61]]
def longN : List (List UInt8) → List UInt8 → Nat
  | [], _ => 0
  | w :: r, s => if s.take w.length = w then w.length else longN r s
def symN (s : List UInt8) : Nat := if longN longs s ≠ 0 then longN longs s else match s with
  | [] => 0
  | c :: _ => if singles.contains c then 1 else 0
def numOk (s : List UInt8) : Bool := s.all isDec && (s.head? != some 48 || s.length == 1) && (decide (s.length ≤ 19) && decide (numOf 0 s ≤ 9223372036854775808))
def headDec : List UInt8 → Bool
  | c :: _ => isDec c
  | [] => false
/-- the first token: an error's kind, or the token's kind and text -/
def firstT (s : List UInt8) : Except Int (Int × List UInt8) :=
  if wordN s = 0 then (if symN s = 0 then .error 2 else .ok (3, s.take (symN s)))
  else if headDec s then (if numOk (s.take (wordN s)) then .ok (2, s.take (wordN s)) else .error 2)
  else if 16 < wordN s then .error 6 else .ok (1, s.take (wordN s))
def scanR : Nat → List UInt8 → Nat → Except (Int × Nat) (List Tok)
  | 0, _, _ => .ok []
  | n + 1, s, p => if s = [] then .ok [] else match firstT s with
    | .error e => .error (e, p)
    | .ok (k, t) => match scanR n ((s.drop t.length).drop (spaceN false (s.drop t.length))) (p + t.length + spaceN false (s.drop t.length)) with
      | .error e => .error e
      | .ok l => .ok (⟨k, t, p⟩ :: l)
def scanT (s : List UInt8) : Except (Int × Nat) (List Tok) := if 20000 < s.length then .error (6, 20000) else scanR s.length (s.drop (spaceN false s)) (spaceN false s)
theorem spaceN_le : ∀ (b : Bool) (s : List UInt8), spaceN b s ≤ s.length
  | _, [] => by simp [spaceN]
  | false, c :: r => by
    rw [spaceN]
    have := spaceN_le false r
    have := spaceN_le true r
    split
    · simp; omega
    · split <;> simp; omega
  | true, c :: r => by
    rw [spaceN]
    have := spaceN_le false r
    have := spaceN_le true r
    split <;> simp <;> omega
theorem wordN_le : ∀ (s : List UInt8), wordN s ≤ s.length
  | [] => by simp [wordN]
  | c :: r => by
    rw [wordN]
    have := wordN_le r
    split <;> simp; omega
theorem numOf_low : ∀ (v : Nat) (s : List UInt8), v * 10 ^ s.length ≤ numOf v s
  | v, [] => by simp [numOf_nil]
  | v, c :: s => by
    rw [numOf_cons]
    refine Nat.le_trans ?_ (numOf_low _ s)
    rw [List.length_cons, Nat.pow_succ, Nat.mul_comm (10 ^ s.length) 10, ← Nat.mul_assoc, Nat.mul_comm v 10]
    exact Nat.mul_le_mul_right _ (by omega)
theorem num_cmp : ∀ (x y : List UInt8) (u : Nat), x.length = y.length → (∀ c ∈ x, isDec c = true) → (∀ c ∈ y, isDec c = true) → ((Go.Op.bytesLess x y || x == y) = decide (numOf u x ≤ numOf u y))
  | [], [], u, _, _, _ => by simp
  | a :: x, b :: y, u, hl, hx, hy => by
    have hl' : x.length = y.length := by simpa using hl
    have ha := isDec_iff.1 (hx a (by simp))
    have hb := isDec_iff.1 (hy b (by simp))
    have hx' : ∀ c ∈ x, isDec c = true := fun c hc => hx c (by simp [hc])
    have hy' : ∀ c ∈ y, isDec c = true := fun c hc => hy c (by simp [hc])
    have h1 := numOf_lt (10 * u + (a.toNat - 48)) x hx'
    have h2 := numOf_low (10 * u + (b.toNat - 48)) y
    have h3 := numOf_lt (10 * u + (b.toNat - 48)) y hy'
    have h4 := numOf_low (10 * u + (a.toNat - 48)) x
    rw [numOf_cons, numOf_cons]
    rw [hl'] at h1 h4
    by_cases hlt : a < b
    · have hlt' : a.toNat < b.toNat := UInt8.lt_iff_toNat_lt.1 hlt
      have : (10 * u + (a.toNat - 48) + 1) * 10 ^ y.length ≤ (10 * u + (b.toNat - 48)) * 10 ^ y.length := Nat.mul_le_mul_right _ (by omega)
      have hle : numOf (10 * u + (a.toNat - 48)) x ≤ numOf (10 * u + (b.toNat - 48)) y := by omega
      simp [Go.Op.bytesLess, hlt, hle]
    · by_cases heq : a = b
      · subst heq
        have ih := num_cmp x y (10 * u + (a.toNat - 48)) hl' hx' hy'
        rw [← ih]
        simp [Go.Op.bytesLess]
      · have hgt : b.toNat < a.toNat := by
          have : ¬ a.toNat < b.toNat := fun h => hlt (UInt8.lt_iff_toNat_lt.2 h)
          have : a.toNat ≠ b.toNat := fun h => heq (UInt8.toNat_inj.1 h)
          omega
        have : (10 * u + (b.toNat - 48) + 1) * 10 ^ y.length ≤ (10 * u + (a.toNat - 48)) * 10 ^ y.length := Nat.mul_le_mul_right _ (by omega)
        have hle : ¬ numOf (10 * u + (a.toNat - 48)) x ≤ numOf (10 * u + (b.toNat - 48)) y := by omega
        simp [Go.Op.bytesLess, hlt, heq, hle]
theorem firstT_ok {s : List UInt8} {k : Int} {w : List UInt8} (hne : s ≠ []) (h : firstT s = .ok (k, w)) : 1 ≤ w.length ∧ w.length ≤ s.length := by
  have hl : 1 ≤ s.length := by
    cases s with
    | nil => exact absurd rfl hne
    | cons => simp
  unfold firstT at h
  split at h
  · split at h
    · cases h
    · simp at h
      rw [← h.2, List.length_take]
      omega
  · split at h
    · split at h
      · simp at h
        rw [← h.2, List.length_take]
        omega
      · cases h
    · split at h
      · cases h
      · simp at h
        rw [← h.2, List.length_take]
        omega
theorem firstT_err {s : List UInt8} {e : Int} (h : firstT s = .error e) : e = 2 ∨ e = 6 := by
  unfold firstT at h
  split at h
  · split at h
    · cases h; exact .inl rfl
    · cases h
  · split at h
    · split at h
      · cases h
      · cases h; exact .inl rfl
    · split at h
      · cases h; exact .inr rfl
      · cases h
theorem firstT_num {s w : List UInt8} (h : firstT s = .ok (2, w)) : numOk w = true := by
  unfold firstT at h
  split at h
  · split at h
    · cases h
    · simp at h
  · split at h
    · split at h
      · rename_i hn
        simp at h
        rw [← h]
        exact hn
      · cases h
    · split at h
      · cases h
      · simp at h
theorem firstT_kind {s w : List UInt8} {k : Int} (h : firstT s = .ok (k, w)) : k = 1 ∨ k = 2 ∨ k = 3 := by
  unfold firstT at h
  split at h
  · split at h
    · cases h
    · simp at h; omega
  · split at h
    · split at h
      · simp at h; omega
      · cases h
    · split at h
      · cases h
      · simp at h; omega
theorem scanR_ok : ∀ (n : Nat) (s : List UInt8) (p : Nat) (l : List Tok), scanR n s p = .ok l → l.length ≤ s.length ∧ ∀ x ∈ l, 1 ≤ x.text.length ∧ x.text.length ≤ s.length ∧ (x.kind = 2 → numOk x.text = true) ∧ (x.kind = 1 ∨ x.kind = 2 ∨ x.kind = 3)
  | 0, s, p, l, h => by
    simp [scanR] at h
    subst h
    simp
  | n + 1, s, p, l, h => by
    rw [scanR] at h
    by_cases hs : s = []
    · simp [hs] at h
      subst h
      simp
    · rw [if_neg hs] at h
      cases hx : firstT s with
      | error e => rw [hx] at h; cases h
      | ok kw =>
        obtain ⟨k, w⟩ := kw
        rw [hx] at h
        simp only at h
        have hw := firstT_ok hs hx
        cases hr : scanR n ((s.drop w.length).drop (spaceN false (s.drop w.length))) (p + w.length + spaceN false (s.drop w.length)) with
        | error e => rw [hr] at h; cases h
        | ok l' =>
          rw [hr] at h
          simp at h
          subst h
          obtain ⟨h1, h2⟩ := scanR_ok n _ _ _ hr
          rw [List.length_drop, List.length_drop] at h1 h2
          refine ⟨by simp; omega, ?_⟩
          intro x hx'
          rcases List.mem_cons.1 hx' with rfl | hx'
          · refine ⟨hw.1, hw.2, ?_, firstT_kind hx⟩
            intro hk
            simp only at hk
            subst hk
            exact firstT_num hx
          · obtain ⟨a, b, c⟩ := h2 x hx'
            exact ⟨a, by omega, c⟩
structure TokOk (tk : List Tok) : Prop where
  len : tk.length ≤ 20000
  text : ∀ p, (tokAt tk p).text.length ≤ 20000
  num : ∀ p, (tokAt tk p).kind = 2 → numOk (tokAt tk p).text = true
  ne : ∀ p, p < tk.length → 1 ≤ (tokAt tk p).text.length ∧ ((tokAt tk p).kind = 1 ∨ (tokAt tk p).kind = 2 ∨ (tokAt tk p).kind = 3)
theorem scanT_ok {s : List UInt8} {tk : List Tok} (h : scanT s = .ok tk) : TokOk tk := by
  unfold scanT at h
  split at h
  · cases h
  · rename_i h20
    obtain ⟨h1, h2⟩ := scanR_ok _ _ _ _ h
    rw [List.length_drop] at h1 h2
    have hz : ∀ p, p < tk.length → tokAt tk p ∈ tk := by
      intro p hp
      have := tokAt_get tk hp
      exact List.mem_of_getElem? this
    have hz2 : ∀ p, ¬ p < tk.length → tokAt tk p = Tok.zero := by
      intro p hp
      unfold tokAt
      rw [List.getD_eq_getElem?_getD, List.getElem?_eq_none (by omega)]
      rfl
    refine ⟨by omega, ?_, ?_, ?_⟩
    · intro p
      by_cases hp : p < tk.length
      · have := h2 _ (hz p hp); omega
      · rw [hz2 p hp]; simp [Tok.zero]
    · intro p hk
      by_cases hp : p < tk.length
      · exact (h2 _ (hz p hp)).2.2.1 hk
      · rw [hz2 p hp] at hk; simp [Tok.zero] at hk
    · intro p hp
      have := h2 _ (hz p hp)
      exact ⟨this.1, this.2.2.2⟩
theorem scanR_err : ∀ (n : Nat) (s : List UInt8) (p : Nat) (e : Int) (q : Nat), scanR n s p = .error (e, q) → e = 2 ∨ e = 6
  | 0, s, p, e, q, h => by simp [scanR] at h
  | n + 1, s, p, e, q, h => by
    rw [scanR] at h
    by_cases hs : s = []
    · simp [hs] at h
    · rw [if_neg hs] at h
      cases hx : firstT s with
      | error e' =>
        rw [hx] at h
        simp at h
        have := firstT_err hx
        omega
      | ok kw =>
        obtain ⟨k, w⟩ := kw
        rw [hx] at h
        simp only at h
        cases hr : scanR n ((s.drop w.length).drop (spaceN false (s.drop w.length))) (p + w.length + spaceN false (s.drop w.length)) with
        | error e' =>
          rw [hr] at h
          simp at h
          obtain ⟨e2, q2⟩ := e'
          simp at h
          have := scanR_err n _ _ _ _ hr
          omega
        | ok l' => rw [hr] at h; cases h
theorem scanT_err {s : List UInt8} {e : Int} {q : Nat} (h : scanT s = .error (e, q)) : e = 2 ∨ e = 6 := by
  unfold scanT at h
  split at h
  · simp at h; omega
  · exact scanR_err _ _ _ _ _ h
def offS (tk : List Tok) (en : Int) (p : Nat) : Int := if p < tk.length then (tokAt tk p).pos else en
/-- what a parser of programs answers -/
def parseP (s : List UInt8) : Except (Int × Int) Prg := match scanT s with
  | .error (e, p) => .error (e, p)
  | .ok tk => match declsP tk (40 * tk.length + 100) (tk.length + 1) 0 [] [] with
    | .error q => .error (2, offS tk s.length q)
    | .ok p => .ok p
def encPR (r : Except (Int × Int) Prg) : AV := match r with
  | .error (e, p) => .tup [.agg [.sl .none [], .sl .none []], .agg [.int .i64 e, .int .i64 p]]
  | .ok p => .tup [encP p, .agg [.int .i64 0, .int .i64 0]]
end Ab
/- Trees whose lists are not too long; what a parser answers is such a tree. -/
namespace Ab
open Go
mutual
def okE : Ex → Prop
  | .mk _ _ _ _ ks => ks.length ≤ 1000000 ∧ okEs ks
def okEs : List Ex → Prop
  | [] => True
  | x :: r => okE x ∧ okEs r
end
theorem okE_mk (k n : Int) (s : List UInt8) (o : Int) (ks : List Ex) : okE (.mk k n s o ks) = (ks.length ≤ 1000000 ∧ okEs ks) := by rw [okE]
theorem okEs_nil : okEs [] = True := by rw [okEs]
theorem okEs_cons (x : Ex) (r : List Ex) : okEs (x :: r) = (okE x ∧ okEs r) := by rw [okEs]
theorem okEs_mem : ∀ {l : List Ex} {x : Ex}, okEs l → x ∈ l → okE x
  | y :: r, x, h, hx => by
    rw [okEs_cons] at h
    rcases List.mem_cons.1 hx with rfl | hx
    · exact h.1
    · exact okEs_mem h.2 hx
theorem okEs_of : ∀ {l : List Ex}, (∀ x ∈ l, okE x) → okEs l
  | [], _ => by rw [okEs_nil]; trivial
  | y :: r, h => by
    rw [okEs_cons]
    exact ⟨h y (by simp), okEs_of fun x hx => h x (by simp [hx])⟩
mutual
def okS : Stm → Prop
  | .mk _ _ _ _ a v args thn els => okE a ∧ okE v ∧ (args.length ≤ 1000000 ∧ okEs args) ∧ (thn.length ≤ 1000000 ∧ okSs thn) ∧ (els.length ≤ 1000000 ∧ okSs els)
def okSs : List Stm → Prop
  | [] => True
  | x :: r => okS x ∧ okSs r
end
theorem okS_mk (k : Int) (nm to : List UInt8) (n : Int) (a v : Ex) (args : List Ex) (thn els : List Stm) : okS (.mk k nm to n a v args thn els) = (okE a ∧ okE v ∧ (args.length ≤ 1000000 ∧ okEs args) ∧ (thn.length ≤ 1000000 ∧ okSs thn) ∧ (els.length ≤ 1000000 ∧ okSs els)) := by rw [okS]
theorem okSs_nil : okSs [] = True := by rw [okSs]
theorem okSs_cons (x : Stm) (r : List Stm) : okSs (x :: r) = (okS x ∧ okSs r) := by rw [okSs]
theorem okSs_mem : ∀ {l : List Stm} {x : Stm}, okSs l → x ∈ l → okS x
  | y :: r, x, h, hx => by
    rw [okSs_cons] at h
    rcases List.mem_cons.1 hx with rfl | hx
    · exact h.1
    · exact okSs_mem h.2 hx
theorem okSs_of : ∀ {l : List Stm}, (∀ x ∈ l, okS x) → okSs l
  | [], _ => by rw [okSs_nil]; trivial
  | y :: r, h => by
    rw [okSs_cons]
    exact ⟨h y (by simp), okSs_of fun x hx => h x (by simp [hx])⟩
structure OkF (f : Ab.Fn) : Prop where
  ps : f.params.length ≤ 1000000
  ls : f.locals.length ≤ 1000000
  bl : f.body.length ≤ 1000000
  b : okSs f.body
  v : okE f.value
structure OkP (p : Prg) : Prop where
  al : p.arrays.length ≤ 1000000
  fl : p.funcs.length ≤ 1000000
  fs : ∀ f ∈ p.funcs, OkF f
theorem while_all {α : Type} {P : Nat → Rs α} {stop : Nat → Bool} {G : α → Prop} (hP : ∀ p v q, P p = .ok (v, q) → G v) : ∀ m p v q, whileP P stop m p = .ok (v, q) → v.length ≤ m ∧ ∀ x ∈ v, G x
  | 0, p, v, q, h => by rw [whileP] at h; cases h
  | m + 1, p, v, q, h => by
    rw [whileP] at h
    split at h
    · simp at h
      rw [h.1]
      simp
    · obtain ⟨x, p1, h1, h⟩ := bindR_inv h
      obtain ⟨l, p2, h2, h⟩ := bindR_inv h
      have := hP _ _ _ h1
      have ih := while_all hP m _ _ _ h2
      simp at h
      rw [← h.1]
      refine ⟨by simp; omega, ?_⟩
      intro y hy
      rcases List.mem_cons.1 hy with rfl | hy
      · exact this
      · exact ih.2 y hy
theorem sep_all {α : Type} {tk : List Tok} {P : Nat → Rs α} {G : α → Prop} (hP : ∀ p v q, P p = .ok (v, q) → G v) : ∀ m p v q, sepP tk P m p = .ok (v, q) → v.length ≤ m ∧ ∀ x ∈ v, G x
  | 0, p, v, q, h => by rw [sepP] at h; cases h
  | m + 1, p, v, q, h => by
    rw [sepP] at h
    obtain ⟨x, p1, h1, h⟩ := bindR_inv h
    have := hP _ _ _ h1
    split at h
    · obtain ⟨l, p2, h2, h⟩ := bindR_inv h
      have ih := sep_all hP m _ _ _ h2
      simp at h
      rw [← h.1]
      refine ⟨by simp; omega, ?_⟩
      intro y hy
      rcases List.mem_cons.1 hy with rfl | hy
      · exact this
      · exact ih.2 y hy
    · simp at h
      rw [← h.1]
      refine ⟨by simp, ?_⟩
      intro y hy
      rw [List.mem_singleton] at hy
      rw [hy]
      exact this
section
variable (tk : List Tok)
theorem okE_num (n : Int) : okE (numE n) := by unfold numE; rw [okE_mk, okEs_nil]; simp
theorem okE_var (s : List UInt8) : okE (varE s) := by unfold varE; rw [okE_mk, okEs_nil]; simp
theorem okE_zero : okE zeroE := by unfold zeroE; rw [okE_mk, okEs_nil]; simp
theorem expr_ok : ∀ n, (∀ p v q, exprP tk n p = .ok (v, q) → okE v) ∧ (∀ k p v q, binP tk n k p = .ok (v, q) → okE v) ∧ (∀ k a p v q, okE a → loopP tk n k a p = .ok (v, q) → okE v) ∧ (∀ p v q, unaryP tk n p = .ok (v, q) → okE v) ∧ (∀ p v q, primP tk n p = .ok (v, q) → okE v)
  | 0 => by
    refine ⟨?_, ?_, ?_, ?_, ?_⟩
    · intro p v q h; rw [exprP] at h; cases h
    · intro k p v q h; rw [binP] at h; cases h
    · intro k a p v q _ h; rw [loopP] at h; cases h
    · intro p v q h; rw [unaryP] at h; cases h
    · intro p v q h; rw [primP] at h; cases h
  | n + 1 => by
    obtain ⟨hE, hB, hL, hU, hP⟩ := expr_ok n
    refine ⟨?_, ?_, ?_, ?_, ?_⟩
    · intro p v q h
      rw [exprP] at h
      rcases hx : binP tk n 0 p with e | ⟨c, p1⟩ <;> rw [hx] at h
      · cases h
      have h0 := hB 0 p c p1 hx
      by_cases hs : symB tk p1 [63] = true
      · simp only [hs, if_true] at h
        rcases hy : exprP tk n (p1 + 1) with e | ⟨a, p2⟩ <;> rw [hy] at h
        · cases h
        have h1 := hE _ _ _ hy
        rcases hz : expectP tk p2 [58] with e | p3 <;> simp only [hz] at h
        · cases h
        rcases hw : exprP tk n p3 with e | ⟨b, p4⟩ <;> rw [hw] at h
        · cases h
        have h2 := hE _ _ _ hw
        simp at h
        rw [← h.1]
        unfold condE
        rw [okE_mk, okEs_cons, okEs_cons, okEs_cons, okEs_nil]
        exact ⟨by simp, h0, h1, h2, trivial⟩
      · simp only [hs] at h
        simp at h
        rw [← h.1]
        exact h0
    · intro k p v q h
      rw [binP] at h
      by_cases hk : k = 8
      · rw [if_pos hk] at h
        exact hU _ _ _ h
      · rw [if_neg hk] at h
        rcases hx : binP tk n (k + 1) p with e | ⟨c, p1⟩ <;> rw [hx] at h
        · cases h
        exact hL _ _ _ _ _ (hB _ p c p1 hx) h
    · intro k a p v q ha h
      rw [loopP] at h
      split at h
      · rcases hx : binP tk n (k + 1) (p + 1) with e | ⟨c, p1⟩ <;> rw [hx] at h
        · cases h
        have hc := hB _ _ c p1 hx
        refine hL _ _ _ _ _ ?_ h
        unfold opE
        split
        · rw [okE_mk, okEs_cons, okEs_cons, okEs_nil]
          exact ⟨by simp, hc, ha, trivial⟩
        · rw [okE_mk, okEs_cons, okEs_cons, okEs_nil]
          exact ⟨by simp, ha, hc, trivial⟩
      · simp at h
        rw [← h.1]
        exact ha
    · intro p v q h
      rw [unaryP] at h
      split at h
      · split at h
        · simp at h
          rw [← h.1]
          exact okE_num _
        · rcases hx : unaryP tk n (p + 1) with e | ⟨c, p1⟩ <;> rw [hx] at h
          · cases h
          have := hU _ _ _ hx
          simp at h
          rw [← h.1]
          unfold opE
          rw [okE_mk, okEs_cons, okEs_nil]
          exact ⟨by simp, this, trivial⟩
      split at h
      · rcases hx : unaryP tk n (p + 1) with e | ⟨c, p1⟩ <;> rw [hx] at h
        · cases h
        have := hU _ _ _ hx
        simp at h
        rw [← h.1]
        unfold opE
        rw [okE_mk, okEs_cons, okEs_nil]
        exact ⟨by simp, this, trivial⟩
      split at h
      · rcases hx : unaryP tk n (p + 1) with e | ⟨c, p1⟩ <;> rw [hx] at h
        · cases h
        have := hU _ _ _ hx
        simp at h
        rw [← h.1]
        unfold opE
        rw [okE_mk, okEs_cons, okEs_cons, okEs_nil]
        exact ⟨by simp, this, okE_num 0, trivial⟩
      split at h
      · rcases hx : exprP tk n (p + 1) with e | ⟨c, p1⟩ <;> rw [hx] at h
        · cases h
        have := hE _ _ _ hx
        rcases hz : expectP tk p1 [41] with e | p3 <;> simp only [hz] at h
        · cases h
        simp at h
        rw [← h.1]
        exact this
      · exact hP _ _ _ h
    · intro p v q h
      rw [primP] at h
      split at h
      · cases hx : parseW (tokAt tk p).text <;> rw [hx] at h <;> simp at h
        rw [← h.1]
        exact okE_num _
      · rcases hy : nameP tk p with e | ⟨s, p1⟩ <;> rw [hy] at h
        · cases h
        simp only at h
        split at h
        · rcases hx : exprP tk n (p1 + 1) with e | ⟨c, p2⟩ <;> rw [hx] at h
          · cases h
          have := hE _ _ _ hx
          rcases hz : expectP tk p2 [93] with e | p3 <;> simp only [hz] at h
          · cases h
          simp at h
          rw [← h.1]
          unfold ixE
          rw [okE_mk, okEs_cons, okEs_nil]
          exact ⟨by simp, this, trivial⟩
        · simp at h
          rw [← h.1]
          exact okE_var _
theorem okL {α : Type} {l : List α} {m : Nat} (h : l.length ≤ m) (hm : m ≤ 1000000) : l.length ≤ 1000000 := Nat.le_trans h hm
theorem nilE : ([] : List Ex).length ≤ 1000000 ∧ okEs [] := ⟨by simp, by rw [okEs_nil]; trivial⟩
theorem nilS : ([] : List Stm).length ≤ 1000000 ∧ okSs [] := ⟨by simp, by rw [okSs_nil]; trivial⟩
theorem cond_ok {n p : Nat} {v : Ex} {q : Nat} (h : condP tk n p = .ok (v, q)) : okE v := by
  unfold condP at h
  obtain ⟨_, p1, h1, h⟩ := bindR_inv h
  obtain ⟨_, p2, h2, h⟩ := bindR_inv h
  obtain ⟨_, p3, h3, h⟩ := bindR_inv h
  simp at h
  rw [← h.1]
  exact (expr_ok tk n).1 _ _ _ h2
theorem argsP_okt {n p : Nat} {v : List Ex} {q : Nat} (hn : n ≤ 1000000) (h : argsP tk n p = .ok (v, q)) : v.length ≤ 1000000 ∧ okEs v := by
  unfold argsP at h
  obtain ⟨_, p1, h1, h⟩ := bindR_inv h
  obtain ⟨_, p2, h2, h⟩ := bindR_inv h
  obtain ⟨_, p3, h3, h⟩ := bindR_inv h
  simp at h
  rw [← h.1]
  split at h2
  · simp at h2
    rw [h2.1]
    exact nilE
  · have := sep_all (fun p v q h => (expr_ok tk n).1 p v q h) n _ _ _ h2
    exact ⟨okL this.1 hn, okEs_of this.2⟩
theorem simple_ok {n p : Nat} {v : Stm} {q : Nat} (hn : n ≤ 1000000) (h : simpleP tk n p = .ok (v, q)) : okS v := by
  have hz := okE_zero
  unfold simpleP at h
  split at h
  · obtain ⟨_, p1, h1, h⟩ := bindR_inv h
    have := (expr_ok tk n).1 _ _ _ h1
    simp at h
    rw [← h.1]
    unfold outS
    rw [okS_mk]
    exact ⟨hz, this, nilE, nilS, nilS⟩
  split at h
  · obtain ⟨_, p1, h1, h⟩ := bindR_inv h
    simp at h
    rw [← h.1]
    unfold trapS
    rw [okS_mk]
    exact ⟨hz, hz, nilE, nilS, nilS⟩
  · obtain ⟨_, p1, h1, h⟩ := bindR_inv h
    split at h
    · obtain ⟨_, p2, h2, h⟩ := bindR_inv h
      obtain ⟨_, p3, h3, h⟩ := bindR_inv h
      obtain ⟨_, p4, h4, h⟩ := bindR_inv h
      obtain ⟨_, p5, h5, h⟩ := bindR_inv h
      have e1 := (expr_ok tk n).1 _ _ _ h2
      have e2 := (expr_ok tk n).1 _ _ _ h5
      simp at h
      rw [← h.1]
      unfold storeS
      rw [okS_mk]
      exact ⟨e1, e2, nilE, nilS, nilS⟩
    · obtain ⟨_, p2, h2, h⟩ := bindR_inv h
      split at h
      · obtain ⟨_, p3, h3, h⟩ := bindR_inv h
        have := argsP_okt tk hn h3
        simp at h
        rw [← h.1]
        unfold callS
        rw [okS_mk]
        exact ⟨hz, hz, this, nilS, nilS⟩
      · obtain ⟨_, p3, h3, h⟩ := bindR_inv h
        have := (expr_ok tk n).1 _ _ _ h3
        simp at h
        rw [← h.1]
        unfold assignS
        rw [okS_mk]
        exact ⟨hz, this, nilE, nilS, nilS⟩
theorem block_ok {S : Nat → Rs Stm} (hS : ∀ p v q, S p = .ok (v, q) → okS v) {n p : Nat} {v : List Stm} {q : Nat} (hn : n ≤ 1000000) (h : blockP tk S n p = .ok (v, q)) : v.length ≤ 1000000 ∧ okSs v := by
  unfold blockP at h
  obtain ⟨_, p1, h1, h⟩ := bindR_inv h
  obtain ⟨_, p2, h2, h⟩ := bindR_inv h
  obtain ⟨_, p3, h3, h⟩ := bindR_inv h
  have := while_all hS n _ _ _ h2
  simp at h
  rw [← h.1]
  exact ⟨okL this.1 hn, okSs_of this.2⟩
theorem stmt_ok : ∀ {n : Nat}, n ≤ 1000000 → ∀ (p : Nat) (v : Stm) (q : Nat), stmtP tk n p = .ok (v, q) → okS v
  | 0, _, p, v, q, h => by rw [stmtP] at h; cases h
  | n + 1, hn, p, v, q, h => by
    have hS := stmt_ok (n := n) (by omega)
    have hz := okE_zero
    rw [stmtP] at h
    split at h
    · obtain ⟨_, p1, h1, h⟩ := bindR_inv h
      obtain ⟨_, p2, h2, h⟩ := bindR_inv h
      have e1 := cond_ok tk h1
      have e2 := block_ok tk hS (by omega) h2
      split at h
      · obtain ⟨_, p3, h3, h⟩ := bindR_inv h
        have e3 := block_ok tk hS (by omega) h3
        simp at h
        rw [← h.1]
        unfold ifS
        rw [okS_mk]
        exact ⟨hz, e1, nilE, e2, e3⟩
      · simp at h
        rw [← h.1]
        unfold ifS
        rw [okS_mk]
        exact ⟨hz, e1, nilE, e2, nilS⟩
    split at h
    · obtain ⟨_, p1, h1, h⟩ := bindR_inv h
      obtain ⟨_, p2, h2, h⟩ := bindR_inv h
      have e1 := cond_ok tk h1
      have e2 := block_ok tk hS (by omega) h2
      simp at h
      rw [← h.1]
      unfold whileS
      rw [okS_mk]
      exact ⟨hz, e1, nilE, e2, nilS⟩
    · obtain ⟨_, p1, h1, h⟩ := bindR_inv h
      obtain ⟨_, p2, h2, h⟩ := bindR_inv h
      have := simple_ok tk (by omega) h1
      simp at h
      rw [← h.1]
      exact this
theorem func_ok {n p : Nat} {v : Ab.Fn} {q : Nat} (hn : n ≤ 1000000) (h : funcP tk n p = .ok (v, q)) : OkF v := by
  unfold funcP at h
  obtain ⟨_, p1, h1, h⟩ := bindR_inv h
  obtain ⟨_, p2, h2, h⟩ := bindR_inv h
  obtain ⟨_, p3, h3, h⟩ := bindR_inv h
  obtain ⟨_, p4, h4, h⟩ := bindR_inv h
  obtain ⟨_, p5, h5, h⟩ := bindR_inv h
  obtain ⟨_, p6, h6, h⟩ := bindR_inv h
  obtain ⟨_, p7, h7, h⟩ := bindR_inv h
  obtain ⟨_, p8, h8, h⟩ := bindR_inv h
  obtain ⟨_, p9, h9, h⟩ := bindR_inv h
  obtain ⟨_, p10, h10, h⟩ := bindR_inv h
  simp at h
  rw [← h.1]
  have hb := while_all (fun p v q h => stmt_ok tk hn p v q h) n _ _ _ h7
  refine ⟨?_, ?_, okL hb.1 hn, okSs_of hb.2, (expr_ok tk n).1 _ _ _ h8⟩
  · split at h3
    · simp at h3
      rw [h3.1]
      simp
    · exact okL (sep_all (G := fun _ => True) (fun _ _ _ _ => trivial) n _ _ _ h3).1 hn
  · split at h5
    · exact okL (sep_all (G := fun _ => True) (fun _ _ _ _ => trivial) n _ _ _ h5).1 hn
    · simp at h5
      rw [h5.1]
      simp
theorem decls_ok {n : Nat} (hn : n ≤ 1000000) : ∀ (m p : Nat) (a : List Ar) (f : List Ab.Fn) (v : Prg), a.length + m ≤ 1000000 → f.length + m ≤ 1000000 → (∀ x ∈ f, OkF x) → declsP tk n m p a f = .ok v → OkP v
  | 0, p, a, f, v, ha, hf, hx, h => by rw [declsP] at h; cases h
  | m + 1, p, a, f, v, ha, hf, hx, h => by
    rw [declsP] at h
    split at h
    · split at h
      · split at h
        · cases h
        · exact decls_ok hn m _ _ _ v (by simp; omega) (by omega) hx h
      · split at h
        · split at h
          · cases h
          · rename_i x p1 he
            refine decls_ok hn m _ _ _ v (by omega) (by simp; omega) ?_ h
            intro y hy
            rcases List.mem_append.1 hy with hy | hy
            · exact hx y hy
            · rw [List.mem_singleton] at hy
              rw [hy]
              exact func_ok tk hn he
        · cases h
    · simp at h
      rw [← h]
      exact ⟨by simp only; omega, by simp only; omega, hx⟩
end
theorem parse_ok {s : List UInt8} {v : Prg} (h : parseP s = .ok v) : OkP v := by
  unfold parseP at h
  split at h
  · cases h
  · rename_i tk hs
    have hok := scanT_ok hs
    split at h
    · cases h
    · rename_i hd
      cases h
      exact decls_ok tk (by have := hok.len; omega) _ _ _ _ _ (by have := hok.len; simp; omega) (by have := hok.len; simp; omega) (by simp) hd
end Ab
