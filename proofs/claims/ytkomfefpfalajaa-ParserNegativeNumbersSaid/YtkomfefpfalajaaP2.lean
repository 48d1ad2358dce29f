/- The parser's expressions. -/
import Derived.Test.YtkomfefpfalajaaP1
import Derived.Test.YtkomfefpfalajaaAb7
namespace Go.Proofs.Ytkomfefpfalajaa
open Go Go.Proofs Ab
set_option maxRecDepth 100000
set_option linter.unusedSimpArgs false
set_option linter.unusedVariables false
attribute [simp] encE_mk encEs_nil encEs_cons
theorem operator142 (s : List UInt8) (H : Heap) : callF E1 142 [.str s] H = some (.tup [.int .i64 (if s = [43] then 4 else if s = [45] then 5 else if s = [42] then 6 else if s = [47] then 7 else if s = [37] then 8 else 0), .int .i64 (if s = [43] then 6 else if s = [45] then 6 else if s = [42] then 7 else if s = [47] then 7 else if s = [37] then 7 else 0), .bool false], H) := by
  rw [go (fn := F142) rfl rfl rfl]
  by_cases h1 : s = [43]
  · simp [F142, h1]
  by_cases h2 : s = [45]
  · simp [F142, h2]
  by_cases h3 : s = [42]
  · simp [F142, h3]
  by_cases h4 : s = [47]
  · simp [F142, h4]
  by_cases h5 : s = [37]
  · simp [F142, h5]
  simp [F142, h1, h2, h3, h4, h5]
theorem operator127 (s : List UInt8) (H : Heap) : callF E1 127 [.str s] H = some (.tup [.int .i64 (opOf s).1, .int .i64 (opOf s).2.1, .bool (opOf s).2.2], H) := by
  rw [go (fn := F127) rfl rfl rfl]
  by_cases h1 : s = [124]
  · simp [F127, h1, opOf]
  by_cases h2 : s = [94]
  · simp [F127, h2, opOf]
  by_cases h3 : s = [38]
  · simp [F127, h3, opOf]
  by_cases h4 : s = [61, 61]
  · simp [F127, h4, opOf]
  by_cases h5 : s = [33, 61]
  · simp [F127, h5, opOf]
  by_cases h6 : s = [60]
  · simp [F127, h6, opOf]
  by_cases h7 : s = [60, 61]
  · simp [F127, h7, opOf]
  by_cases h8 : s = [62]
  · simp [F127, h8, opOf]
  by_cases h9 : s = [62, 61]
  · simp [F127, h9, opOf]
  by_cases h10 : s = [60, 60]
  · simp [F127, h10, opOf]
  by_cases h11 : s = [62, 62]
  · simp [F127, h11, opOf]
  by_cases h12 : s = [62, 62, 62]
  · simp [F127, h12, opOf]
  by_cases h13 : s = [43]
  · simp [F127, h13, opOf, operator142]
  by_cases h14 : s = [45]
  · simp [F127, h14, opOf, operator142]
  by_cases h15 : s = [42]
  · simp [F127, h15, opOf, operator142]
  by_cases h16 : s = [47]
  · simp [F127, h16, opOf, operator142]
  by_cases h17 : s = [37]
  · simp [F127, h17, opOf, operator142]
  simp [F127, opOf, operator142, h1, h2, h3, h4, h5, h6, h7, h8, h9, h10, h11, h12, h13, h14, h15, h16, h17]
theorem negative140 (s : List UInt8) (hs : s.length ≤ 20000) (H : Heap) : callF E1 140 [.str s] H = some (.int .i64 (negV s), H) := by
  rw [go (fn := F140) rfl rfl rfl]
  have hp := parse55 (45 :: s) (by simp; omega)
  unfold negV
  cases hw : parseW (45 :: s) with
  | none => simp [F140, hp, hw, tupW]; omega
  | some v => simp [F140, hp, hw, tupW]; omega

section
variable {α : Type}
def runS (f : Nat → Rs α) (st : St) : Rs α := match st with | .ok p => f p | .error p => .error p
def stR (r : Rs α) : St := match r with | .ok (_, q) => .ok q | .error q => .error q
@[simp] theorem runS_ok (f : Nat → Rs α) (p : Nat) : runS f (.ok p) = f p := rfl
@[simp] theorem runS_error (f : Nat → Rs α) (p : Nat) : runS f (.error p) = .error p := rfl
@[simp] theorem stR_ok (v : α) (q : Nat) : stR (.ok (v, q) : Rs α) = .ok q := rfl
@[simp] theorem stR_error (q : Nat) : stR (.error q : Rs α) = .error q := rfl
def valOk (r : Rs α) (v : α) : Prop := ∀ w q, r = .ok (w, q) → v = w
@[simp] theorem valOk_ok (v w : α) (q : Nat) : valOk (.ok (w, q) : Rs α) v = (v = w) := by
  unfold valOk
  simp
@[simp] theorem valOk_error (v : α) (q : Nat) : valOk (.error q : Rs α) v = True := by
  unfold valOk
  simp
end
section
variable (tk : List Tok) (en : Int) (o : Nat) (hL : tk.length < 4611686018427387904) (hT : ∀ p, (tokAt tk p).text.length ≤ 20000)
def Con {α : Type} (f : Nat) (xs : List AV) (enc : α → AV) (P : Nat → Rs α) (st : St) : Prop :=
  ∃ v, (∀ H : Heap, o < H.length → callF E1 f (.ptr o 0 :: xs) (H.set o (rdS tk en st)) = some (enc v, H.set o (rdS tk en (stR (runS P st))))) ∧ valOk (runS P st) v
include hL
theorem bad141 (P : Nat → Rs Ex) (p : Nat) : Con tk en o 141 [] encE P (.error p) := by
  refine ⟨.mk 2 0 [] 0 [], fun H ho => ?_, by simp⟩
  rw [go (fn := F141) rfl rfl rfl]
  have h1 := app (next53' tk en o (.error p))
  have h2 := app (name23 tk en o hL (.error p))
  have h3 := app (accept56 tk en o hL (.error p) [91])
  simp at h2 h3
  simp [F141, ho, h1, h2, h3, Tok.zero] <;> rfl
theorem bad126 (P : Nat → Rs Ex) (p : Nat) : Con tk en o 126 [] encE P (.error p) := by
  obtain ⟨⟨k, n, s, op, ks⟩, hv, -⟩ := bad141 tk en o hL P p
  refine ⟨.mk k n s op ks, fun H ho => ?_, by simp⟩
  rw [go (fn := F126) rfl rfl rfl]
  have h1 := app (accept56 tk en o hL (.error p) [45])
  have h2 := app (accept56 tk en o hL (.error p) [126])
  have h3 := app (accept56 tk en o hL (.error p) [33])
  have h4 := app (accept56 tk en o hL (.error p) [40])
  have h5 := app hv
  simp at h1 h2 h3 h4 h5
  simp [F126, ho, h1, h2, h3, h4, h5] <;> rfl
abbrev zE : Ob := .cells [.int .i64 0, .int .i64 0, .str [], .int .i64 0, .sl .full []]
def leavesC (c : Cap) : Ex → List AV
  | .mk k n s o ks => [.int .i64 k, .int .i64 n, .str s, .int .i64 o, .sl c (encEs ks)]
omit hL in
theorem leavesC_mk (c : Cap) (k n : Int) (s : List UInt8) (o : Int) (ks : List Ex) : leavesC c (.mk k n s o ks) = [.int .i64 k, .int .i64 n, .str s, .int .i64 o, .sl c (encEs ks)] := rfl
omit hL in
theorem loop102_bad (k : Nat) (a : Ex) (c : Cap) (p : Nat) (J : Heap) (s : Slots) (H : Heap) (ho : o < H.length) (s0 : get s 0 = .ptr o 0) (s1 : get s 1 = .int .i64 k) (s4 : get s 4 = .ptr H.length 0) (s5 : get s 5 = .ptr (H.length + 1) 0) :
    ∃ J', blkK (some [4]) 0 (runF E1 H.length false c102_28 s (H.set o (rdS tk en (.error p)) ++ zE :: .cells (leavesC c a) :: J)) = some (.ret, [(4, .ptr H.length 0)], H.set o (rdS tk en (.error p)) ++ .cells (leavesC c a) :: J') := by
  obtain ⟨k', n, w, op, ks⟩ := a
  have h1 := app (next53' tk en o (.error p))
  simp at h1
  rw [q102_28]
  simp [s0, s1, s4, s5, ho, h1, leavesE, leavesC_mk, Tok.zero, operator127]
theorem bad102 (P : Nat → Rs Ex) (p : Nat) : ∀ (j k : Nat), k + j = 8 → Con tk en o 102 [.int .i64 k] encE P (.error p)
  | 0, k, hk => by
    have : k = 8 := by omega
    subst this
    obtain ⟨⟨k, n, s, op, ks⟩, hv, -⟩ := bad126 tk en o hL P p
    refine ⟨.mk k n s op ks, fun H ho => ?_, by simp⟩
    rw [go (fn := F102) rfl rfl rfl]
    have h5 := app hv
    simp at h5
    simp [F102, ho, h5] <;> rfl
  | j + 1, k, hk => by
    obtain ⟨⟨k', n, s, op, ks⟩, hv, -⟩ := bad102 P p j (k + 1) (by omega)
    refine ⟨.mk k' n s op ks, fun H ho => ?_, by simp⟩
    rw [go (fn := F102) rfl rfl rfl]
    have h5 := app hv
    have hw : IntKind.i64.wrap ((k : Int) + 1) = ((k + 1 : Nat) : Int) := wrapR ⟨by omega, by omega⟩
    have hk8 : ¬ ((k : Int) = 8) := by omega
    obtain ⟨J', hl⟩ := loop102_bad tk en o k (.mk k' n s op ks) .none p [] [(0, .ptr o 0), (1, .int .i64 k), (4, .ptr H.length 0), (5, .ptr (H.length + 1) 0)] H ho rfl rfl rfl rfl
    simp [leavesE, leavesC_mk] at h5 hl
    simp [F102, ho, h5, hk8, hw, hl] <;> rfl
theorem bad60 (P : Nat → Rs Ex) (p : Nat) : Con tk en o 60 [] encE P (.error p) := by
  obtain ⟨⟨k, n, s, op, ks⟩, hv, -⟩ := bad102 tk en o hL P p 8 0 rfl
  refine ⟨.mk k n s op ks, fun H ho => ?_, by simp⟩
  rw [go (fn := F60) rfl rfl rfl]
  have h1 := app (accept56 tk en o hL (.error p) [63])
  have h5 := app hv
  simp at h1 h5
  simp [F60, ho, h1, h5] <;> rfl
/-- a symbol, then -/
def expS (st : St) (s : List UInt8) : St := if stB st (symB tk · s) then adv st else bad st
omit hL in
theorem expS_eq (st : St) (s : List UInt8) : (if stB st (symB tk · s) = true then adv st else bad st) = expS tk st s := rfl
omit hL in
theorem expS_ok (p : Nat) (s : List UInt8) : expS tk (.ok p) s = match expectP tk p s with | .ok q => .ok q | .error q => .error q := by
  unfold expS expectP
  cases h : symB tk p s <;> simp [h]
omit hL in
theorem expS_error (p : Nat) (s : List UInt8) : expS tk (.error p) s = .error p := by
  unfold expS
  simp
include hT
theorem good141 (n p : Nat) (hE : p < tk.length → ∀ st, (∀ q, st = .ok q → p < q) → Con tk en o 60 [] encE (exprP tk n) st) : Con tk en o 141 [] encE (primP tk (n + 1)) (.ok p) := by
  have h1 := app (next53' tk en o (.ok p))
  have h2 := app (name23 tk en o hL (.ok p))
  simp at h1
  by_cases hk : (tokAt tk p).kind = 2
  · have hlt := kind_lt tk (p := p) (by omega)
    have hw := wrap_ic (n := p) (by omega)
    have h5 := parse55 (tokAt tk p).text (by have := hT p; omega)
    have hn : numB tk p = true := by simp [numB, hk]
    cases hq : parseW (tokAt tk p).text with
    | none =>
      have hr : primP tk (n + 1) p = .error p := by simp [primP, hn, hq]
      refine ⟨.mk 0 0 [] 0 [], fun H ho => ?_, by simp [hr]⟩
      rw [go (fn := F141) rfl rfl rfl]
      simp [F141, ho, h1, hk, h5, hq, tupW, hr] <;> rfl
    | some v =>
      have hr : primP tk (n + 1) p = .ok (numE v, p + 1) := by simp [primP, hn, hq]
      refine ⟨numE v, fun H ho => ?_, by simp [hr]⟩
      rw [go (fn := F141) rfl rfl rfl]
      simp [F141, ho, h1, hk, h5, hq, tupW, hr, hw, numE] <;> rfl
  · have hn : numB tk p = false := by simp [numB, hk]
    cases hb : nmB tk p with
    | false =>
      have hr : primP tk (n + 1) p = .error p := by simp [primP, hn, hb, nameP]
      have h3 := app (accept56 tk en o hL (.error p) [91])
      simp [hb] at h2 h3
      refine ⟨.mk 2 0 [] 0 [], fun H ho => ?_, by simp [hr]⟩
      rw [go (fn := F141) rfl rfl rfl]
      simp [F141, ho, h1, hk, h2, h3, hr] <;> rfl
    | true =>
      have h3 := app (accept56 tk en o hL (.ok (p + 1)) [91])
      simp [hb] at h2
      cases hs : symB tk (p + 1) [91] with
      | false =>
        have hr : primP tk (n + 1) p = .ok (varE (tokAt tk p).text, p + 1) := by simp [primP, hn, hb, nameP, hs]
        simp [hs] at h3
        refine ⟨varE (tokAt tk p).text, fun H ho => ?_, by simp [hr]⟩
        rw [go (fn := F141) rfl rfl rfl]
        simp [F141, ho, h1, hk, h2, h3, hr, varE] <;> rfl
      | true =>
        obtain ⟨⟨k, m, w, op, ks⟩, hv, hval⟩ := hE (nm_lt tk hb) (.ok (p + 1 + 1)) (by intro q hq; cases hq; omega)
        have h4 := fun st => app (expect25 tk en o hL st [93])
        have hv' := app hv
        have hst : stR (primP tk (n + 1) p) = expS tk (stR (exprP tk n (p + 1 + 1))) [93] := by
          simp [primP, hn, hb, nameP, hs]
          rcases hx : exprP tk n (p + 1 + 1) with q | ⟨v, q⟩
          · simp [expS_error]
          · simp [expS_ok]
            cases expectP tk q [93] <;> simp
        simp [hs, expS_eq] at h3 h4 hv'
        refine ⟨ixE (tokAt tk p).text (.mk k m w op ks), fun H ho => ?_, ?_⟩
        · rw [go (fn := F141) rfl rfl rfl]
          simp [F141, ho, h1, hk, h2, h3, h4, hv', hst, ixE] <;> rfl
        · simp [primP, hn, hb, nameP, hs]
          simp at hval
          cases hx : exprP tk n (p + 1 + 1) with
          | error q => simp
          | ok r =>
            obtain ⟨v, q⟩ := r
            simp [hx] at hval
            subst hval
            simp
            cases expectP tk q [93] <;> simp
theorem good126 (n p : Nat) (hE : p < tk.length → ∀ st, (∀ q, st = .ok q → p < q) → Con tk en o 60 [] encE (exprP tk n) st) (hU : p < tk.length → ∀ st, (∀ q, st = .ok q → p < q) → Con tk en o 126 [] encE (unaryP tk n) st)
    (hP : Con tk en o 141 [] encE (primP tk n) (.ok p)) : Con tk en o 126 [] encE (unaryP tk (n + 1)) (.ok p) := by
  have h1 := app (accept56 tk en o hL (.ok p) [45])
  have h2 := app (accept56 tk en o hL (.ok p) [126])
  have h3 := app (accept56 tk en o hL (.ok p) [33])
  have h4 := app (accept56 tk en o hL (.ok p) [40])
  cases hs1 : symB tk p [45] with
  | true =>
    simp [hs1] at h1
    have hlt := sym_lt tk hs1
    have h5 := app (next53' tk en o (.ok (p + 1)))
    simp at h5
    by_cases hk : (tokAt tk (p + 1)).kind = 2
    · have hlt := kind_lt tk (p := p + 1) (by omega)
      have hw := wrap_ic (n := p + 1) (by omega)
      have hn : numB tk (p + 1) = true := by simp [numB, hk]
      have hg := negative140 (tokAt tk (p + 1)).text (hT (p + 1))
      have hr : unaryP tk (n + 1) p = .ok (numE (negV (tokAt tk (p + 1)).text), p + 1 + 1) := by simp [unaryP, hs1, hn]
      refine ⟨numE (negV (tokAt tk (p + 1)).text), fun H ho => ?_, by simp [hr]⟩
      rw [go (fn := F126) rfl rfl rfl]
      simp [F126, ho, h1, h5, hk, hw, hg, hr, numE] <;> rfl
    · have hn : numB tk (p + 1) = false := by simp [numB, hk]
      obtain ⟨⟨k, m, w, op, ks⟩, hv, hval⟩ := hU (sym_lt tk hs1) (.ok (p + 1)) (by intro q hq; cases hq; omega)
      have hv' := app hv
      simp at hv' hval
      have hst : stR (unaryP tk (n + 1) p) = stR (unaryP tk n (p + 1)) := by
        simp [unaryP, hs1, hn]
        rcases unaryP tk n (p + 1) with q | ⟨v, q⟩ <;> simp
      refine ⟨opE 20 [.mk k m w op ks], fun H ho => ?_, ?_⟩
      · rw [go (fn := F126) rfl rfl rfl]
        simp [F126, ho, h1, h5, hk, hv', hst, opE] <;> rfl
      · simp [unaryP, hs1, hn]
        rcases hx : unaryP tk n (p + 1) with q | ⟨v, q⟩
        · simp
        · simp [hx] at hval
          simp [hval]
  | false =>
  cases hs2 : symB tk p [126] with
  | true =>
    simp [hs1] at h1
    simp [hs2] at h2
    obtain ⟨⟨k, m, w, op, ks⟩, hv, hval⟩ := hU (sym_lt tk hs2) (.ok (p + 1)) (by intro q hq; cases hq; omega)
    have hv' := app hv
    simp at hv' hval
    have hst : stR (unaryP tk (n + 1) p) = stR (unaryP tk n (p + 1)) := by
      simp [unaryP, hs1, hs2]
      rcases unaryP tk n (p + 1) with q | ⟨v, q⟩ <;> simp
    refine ⟨opE 21 [.mk k m w op ks], fun H ho => ?_, ?_⟩
    · rw [go (fn := F126) rfl rfl rfl]
      simp [F126, ho, h1, h2, hv', hst, opE] <;> rfl
    · simp [unaryP, hs1, hs2]
      rcases hx : unaryP tk n (p + 1) with q | ⟨v, q⟩
      · simp
      · simp [hx] at hval
        simp [hval]
  | false =>
  cases hs3 : symB tk p [33] with
  | true =>
    simp [hs1] at h1
    simp [hs2] at h2
    simp [hs3] at h3
    obtain ⟨⟨k, m, w, op, ks⟩, hv, hval⟩ := hU (sym_lt tk hs3) (.ok (p + 1)) (by intro q hq; cases hq; omega)
    have hv' := app hv
    simp at hv' hval
    have hst : stR (unaryP tk (n + 1) p) = stR (unaryP tk n (p + 1)) := by
      simp [unaryP, hs1, hs2, hs3]
      rcases unaryP tk n (p + 1) with q | ⟨v, q⟩ <;> simp
    refine ⟨opE 15 [.mk k m w op ks, numE 0], fun H ho => ?_, ?_⟩
    · rw [go (fn := F126) rfl rfl rfl]
      simp [F126, ho, h1, h2, h3, hv', hst, opE, numE] <;> rfl
    · simp [unaryP, hs1, hs2, hs3]
      rcases hx : unaryP tk n (p + 1) with q | ⟨v, q⟩
      · simp
      · simp [hx] at hval
        simp [hval]
  | false =>
  cases hs4 : symB tk p [40] with
  | true =>
    simp [hs1] at h1
    simp [hs2] at h2
    simp [hs3] at h3
    simp [hs4] at h4
    obtain ⟨⟨k, m, w, op, ks⟩, hv, hval⟩ := hE (sym_lt tk hs4) (.ok (p + 1)) (by intro q hq; cases hq; omega)
    have h5 := fun st => app (expect25 tk en o hL st [41])
    have hv' := app hv
    have hst : stR (unaryP tk (n + 1) p) = expS tk (stR (exprP tk n (p + 1))) [41] := by
      simp [unaryP, hs1, hs2, hs3, hs4]
      rcases hx : exprP tk n (p + 1) with q | ⟨v, q⟩
      · simp [expS_error]
      · simp [expS_ok]
        cases expectP tk q [41] <;> simp
    simp [expS_eq] at h5 hv' hval
    refine ⟨.mk k m w op ks, fun H ho => ?_, ?_⟩
    · rw [go (fn := F126) rfl rfl rfl]
      simp [F126, ho, h1, h2, h3, h4, h5, hv', hst] <;> rfl
    · simp [unaryP, hs1, hs2, hs3, hs4]
      rcases hx : exprP tk n (p + 1) with q | ⟨v, q⟩
      · simp
      · simp [hx] at hval
        simp [hval]
        cases expectP tk q [41] <;> simp
  | false =>
    simp [hs1] at h1
    simp [hs2] at h2
    simp [hs3] at h3
    simp [hs4] at h4
    obtain ⟨⟨k, m, w, op, ks⟩, hv, hval⟩ := hP
    have hv' := app hv
    simp at hv' hval
    have hr : unaryP tk (n + 1) p = primP tk n p := by simp [unaryP, hs1, hs2, hs3, hs4]
    refine ⟨.mk k m w op ks, fun H ho => ?_, by simpa [hr] using hval⟩
    rw [go (fn := F126) rfl rfl rfl]
    simp [F126, ho, h1, h2, h3, h4, hv', hr] <;> rfl
end
end Go.Proofs.Ytkomfefpfalajaa
