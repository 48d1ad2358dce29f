/- The parser's expressions: the operators' loop, and all of them together. -/
import Derived.Test.YtkomfefpfalajaaP2
namespace Go.Proofs.Ytkomfefpfalajaa
open Go Go.Proofs Ab
set_option maxRecDepth 100000
set_option linter.unusedSimpArgs false
set_option linter.unusedVariables false
section
variable (tk : List Tok) (en : Int) (o : Nat) (hL : tk.length < 4611686018427387904) (hT : ∀ p, (tokAt tk p).text.length ≤ 20000)
def LoopC (n k : Nat) (p : Nat) : Prop := ∀ (a : Ex), ∃ v, valOk (loopP tk n k a p) v ∧ ∀ (c : Cap) (J : Heap) (s : Slots) (H : Heap), o < H.length → get s 0 = .ptr o 0 → get s 1 = .int .i64 k → get s 4 = .ptr H.length 0 → get s 5 = .ptr (H.length + 1) 0 →
    ∃ c' J', blkK (some [4]) 0 (runF E1 H.length false c102_28 s (H.set o (rdS tk en (.ok p)) ++ zE :: .cells (leavesC c a) :: J)) = some (.ret, [(4, .ptr H.length 0)], H.set o (rdS tk en (stR (loopP tk n k a p))) ++ .cells (leavesC c' v) :: J')
include hL
theorem loop102_step (n k p : Nat) (hk : k < 8) (hB : p < tk.length → Con tk en o 102 [.int .i64 (k + 1 : Nat)] encE (binP tk n (k + 1)) (.ok (p + 1)))
    (hN : ∀ v q, p < tk.length → binP tk n (k + 1) (p + 1) = .ok (v, q) → LoopC tk en o n k q) : LoopC tk en o (n + 1) k p := by
  intro a
  obtain ⟨k', m, w, op, ks⟩ := a
  have h1 := app (next53' tk en o (.ok p))
  simp at h1
  by_cases hc : (tokAt tk p).kind = 3 ∧ (opOf (tokAt tk p).text).1 ≠ 0 ∧ (opOf (tokAt tk p).text).2.1 = (k : Int)
  · have hlt := kind_lt tk (p := p) (by omega)
    have hw := wrap_ic (n := p) (by omega)
    have hw1 : IntKind.i64.wrap ((k : Int) + 1) = ((k + 1 : Nat) : Int) := wrapR ⟨by omega, by omega⟩
    obtain ⟨⟨k2, m2, w2, op2, ks2⟩, hv, hval⟩ := hB hlt
    have hv' := app hv
    simp at hv' hval
    have hv2 : ∀ (H X : Heap), o < H.length → callF E1 102 [.ptr o 0, .int .i64 ((k : Int) + 1)] (H.set o (rd tk en (p + 1) false) ++ X) = some (.agg [.int .i64 k2, .int .i64 m2, .str w2, .int .i64 op2, .sl .none (encEs ks2)], H.set o (rdS tk en (stR (binP tk n (k + 1) (p + 1)))) ++ X) := hv'
    have hr : loopP tk (n + 1) k (.mk k' m w op ks) p = match binP tk n (k + 1) (p + 1) with
      | .error q => .error q
      | .ok (b, p1) => loopP tk n k (opE (opOf (tokAt tk p).text).1 (if (opOf (tokAt tk p).text).2.2 then [b, .mk k' m w op ks] else [.mk k' m w op ks, b])) p1 := by
      rw [loopP, if_pos hc]
      rcases binP tk n (k + 1) (p + 1) with q | ⟨b, q⟩ <;> rfl
    obtain ⟨e1, e2, e3⟩ := hc
    rw [hr]
    let a' := opE (opOf (tokAt tk p).text).1 (if (opOf (tokAt tk p).text).2.2 then [.mk k2 m2 w2 op2 ks2, .mk k' m w op ks] else [.mk k' m w op ks, .mk k2 m2 w2 op2 ks2])
    have hstep : ∀ (c : Cap) (J : Heap) (s : Slots) (H : Heap), o < H.length → get s 0 = .ptr o 0 → get s 1 = .int .i64 k → get s 4 = .ptr H.length 0 → get s 5 = .ptr (H.length + 1) 0 →
      ∃ J2, blkK (some [4]) 0 (runF E1 H.length false c102_28 s (H.set o (rdS tk en (.ok p)) ++ zE :: .cells (leavesC c (.mk k' m w op ks)) :: J)) =
          blkK (some [4]) 0 (runF E1 H.length false c102_28 [(0, .ptr o 0), (1, .int .i64 k), (4, .ptr H.length 0), (5, .ptr (H.length + 1) 0)] (H.set o (rdS tk en (stR (binP tk n (k + 1) (p + 1)))) ++ zE :: .cells (leavesC .full a') :: J2)) := by
      intro c J s H ho s0 s1 s4 s5
      rw [q102_28 (s := s)]
      cases ht : (opOf (tokAt tk p).text).2.2 with
      | true =>
        refine ⟨J ++ [.cells [.int .i64 3, .str (tokAt tk p).text, .int .i64 (tokAt tk p).pos], .cells [.int .i64 k', .int .i64 m, .str w, .int .i64 op, .sl c (encEs ks)]], ?_⟩
        simp [s0, s1, s4, s5, ho, h1, leavesE, leavesC_mk, operator127, e1, e2, e3, ht, hw, hw1, hv2, a', opE]
      | false =>
        refine ⟨J ++ [.cells [.int .i64 3, .str (tokAt tk p).text, .int .i64 (tokAt tk p).pos], .cells [.int .i64 k2, .int .i64 m2, .str w2, .int .i64 op2, .sl .none (encEs ks2)]], ?_⟩
        simp [s0, s1, s4, s5, ho, h1, leavesE, leavesC_mk, operator127, e1, e2, e3, ht, hw, hw1, hv2, a', opE]
    rcases hx : binP tk n (k + 1) (p + 1) with q | ⟨b, q⟩
    · refine ⟨a', by simp, ?_⟩
      intro c J s H ho s0 s1 s4 s5
      obtain ⟨J2, hs⟩ := hstep c J s H ho s0 s1 s4 s5
      obtain ⟨J', hb⟩ := loop102_bad tk en o k a' .full q J2 [(0, .ptr o 0), (1, .int .i64 k), (4, .ptr H.length 0), (5, .ptr (H.length + 1) 0)] H ho rfl rfl rfl rfl
      rw [hs, hx]
      exact ⟨.full, J', by simpa using hb⟩
    · simp [hx] at hval
      subst hval
      obtain ⟨v, hv, hN⟩ := hN _ q hlt hx a'
      refine ⟨v, by simpa using hv, ?_⟩
      intro c J s H ho s0 s1 s4 s5
      obtain ⟨J2, hs⟩ := hstep c J s H ho s0 s1 s4 s5
      obtain ⟨c', J', hb⟩ := hN .full J2 [(0, .ptr o 0), (1, .int .i64 k), (4, .ptr H.length 0), (5, .ptr (H.length + 1) 0)] H ho rfl rfl rfl rfl
      rw [hs, hx]
      exact ⟨c', J', by simpa using hb⟩
  · have hr : loopP tk (n + 1) k (.mk k' m w op ks) p = .ok (.mk k' m w op ks, p) := by
      rw [loopP, if_neg hc]
    rw [hr]
    refine ⟨.mk k' m w op ks, by simp, ?_⟩
    intro c J s H ho s0 s1 s4 s5
    refine ⟨c, ?_⟩
    rw [q102_28]
    by_cases e1 : (tokAt tk p).kind = 3
    · by_cases e2 : (opOf (tokAt tk p).text).1 = 0
      · simp [s0, s1, s4, s5, ho, h1, leavesE, leavesC_mk, operator127, e1, e2]
      · have e3 : ¬ ((opOf (tokAt tk p).text).2.1 = (k : Int)) := fun h => hc ⟨e1, e2, h⟩
        simp [s0, s1, s4, s5, ho, h1, leavesE, leavesC_mk, operator127, e1, e2, e3]
    · simp [s0, s1, s4, s5, ho, h1, leavesE, leavesC_mk, operator127, e1]
theorem good102 (n k p : Nat) (hk : k < 8) (hB : Con tk en o 102 [.int .i64 (k + 1 : Nat)] encE (binP tk n (k + 1)) (.ok p)) (hN : ∀ v q, binP tk n (k + 1) p = .ok (v, q) → LoopC tk en o n k q) :
    Con tk en o 102 [.int .i64 k] encE (binP tk (n + 1) k) (.ok p) := by
  have _ := hL
  obtain ⟨⟨k2, m2, w2, op2, ks2⟩, hv, hval⟩ := hB
  have hv' := app hv
  have hw : IntKind.i64.wrap ((k : Int) + 1) = ((k + 1 : Nat) : Int) := wrapR ⟨by omega, by omega⟩
  have hk8 : ¬ ((k : Int) = 8) := by omega
  have hk8' : ¬ (k = 8) := by omega
  simp at hv' hval
  rcases hx : binP tk n (k + 1) p with q | ⟨b, q⟩
  · have hr : binP tk (n + 1) k p = .error q := by rw [binP, if_neg hk8', hx]
    refine ⟨.mk k2 m2 w2 op2 ks2, fun H ho => ?_, by simp [hr]⟩
    obtain ⟨J', hl⟩ := loop102_bad tk en o k (.mk k2 m2 w2 op2 ks2) .none q [] [(0, .ptr o 0), (1, .int .i64 k), (4, .ptr H.length 0), (5, .ptr (H.length + 1) 0)] H ho rfl rfl rfl rfl
    rw [go (fn := F102) rfl rfl rfl]
    simp [hx] at hv'
    simp [leavesE, leavesC_mk] at hl
    simp [F102, ho, hv', hk8, hw, hl, hr] <;> rfl
  · have hr : binP tk (n + 1) k p = loopP tk n k b q := by rw [binP, if_neg hk8', hx]
    simp [hx] at hv' hval
    subst hval
    obtain ⟨⟨k3, m3, w3, op3, ks3⟩, hval3, hN⟩ := hN _ q hx (.mk k2 m2 w2 op2 ks2)
    refine ⟨.mk k3 m3 w3 op3 ks3, fun H ho => ?_, by simpa [hr] using hval3⟩
    obtain ⟨c', J', hl⟩ := hN .none [] [(0, .ptr o 0), (1, .int .i64 k), (4, .ptr H.length 0), (5, .ptr (H.length + 1) 0)] H ho rfl rfl rfl rfl
    rw [go (fn := F102) rfl rfl rfl]
    simp [leavesE, leavesC_mk] at hl
    simp [F102, ho, hv', hk8, hw, hl, hr] <;> rfl
theorem good102_8 (n p : Nat) (hB : Con tk en o 126 [] encE (unaryP tk n) (.ok p)) : Con tk en o 102 [.int .i64 8] encE (binP tk (n + 1) 8) (.ok p) := by
  have _ := hL
  obtain ⟨⟨k2, m2, w2, op2, ks2⟩, hv, hval⟩ := hB
  have hv' := app hv
  simp at hv' hval
  have hr : binP tk (n + 1) 8 p = unaryP tk n p := by rw [binP, if_pos rfl]
  refine ⟨.mk k2 m2 w2 op2 ks2, fun H ho => ?_, by simpa [hr] using hval⟩
  rw [go (fn := F102) rfl rfl rfl]
  simp [F102, ho, hv', hr] <;> rfl
theorem good60 (n p : Nat) (hB : Con tk en o 102 [.int .i64 0] encE (binP tk n 0) (.ok p)) (hE : ∀ v q st, binP tk n 0 p = .ok (v, q) → q < tk.length → (∀ r, st = .ok r → q < r) → Con tk en o 60 [] encE (exprP tk n) st) :
    Con tk en o 60 [] encE (exprP tk (n + 1)) (.ok p) := by
  obtain ⟨⟨k, m, w, op, ks⟩, hv, hval⟩ := hB
  have hv' := app hv
  simp at hv' hval
  rcases hx : binP tk n 0 p with q | ⟨c, p1⟩
  · have hr : exprP tk (n + 1) p = .error q := by rw [exprP, hx]
    refine ⟨.mk k m w op ks, fun H ho => ?_, by simp [hr]⟩
    have h1 := app (accept56 tk en o hL (.error q) [63])
    simp [hx] at hv' h1
    rw [go (fn := F60) rfl rfl rfl]
    simp [F60, ho, hv', h1, hr] <;> rfl
  · simp [hx] at hval hv'
    subst hval
    have h1 := app (accept56 tk en o hL (.ok p1) [63])
    cases hs : symB tk p1 [63] with
    | false =>
      have hr : exprP tk (n + 1) p = .ok (.mk k m w op ks, p1) := by rw [exprP, hx]; simp [hs]
      refine ⟨.mk k m w op ks, fun H ho => ?_, by simp [hr]⟩
      simp [hs] at h1
      rw [go (fn := F60) rfl rfl rfl]
      simp [F60, ho, hv', h1, hr] <;> rfl
    | true =>
      simp [hs] at h1
      obtain ⟨⟨k2, m2, w2, op2, ks2⟩, hv2, hval2⟩ := hE _ p1 (.ok (p1 + 1)) hx (sym_lt tk hs) (by intro r hr; cases hr; omega)
      have hv2' := app hv2
      simp at hv2' hval2
      have h3 := fun st => app (expect25 tk en o hL st [58])
      simp [expS_eq] at h3
      have hst : stR (exprP tk (n + 1) p) = stR (runS (exprP tk n) (expS tk (stR (exprP tk n (p1 + 1))) [58])) := by
        rw [exprP, hx]
        simp [hs]
        rcases hy : exprP tk n (p1 + 1) with q | ⟨a, p2⟩
        · simp [expS_error]
        · simp [expS_ok]
          rcases expectP tk p2 [58] with q | p3
          · simp
          · simp
            rcases exprP tk n p3 with q | ⟨b, p4⟩ <;> simp
      have h4 : Con tk en o 60 [] encE (exprP tk n) (expS tk (stR (exprP tk n (p1 + 1))) [58]) := by
        rcases hy : exprP tk n (p1 + 1) with q | ⟨a, p2⟩
        · simp [expS_error]
          exact bad60 tk en o hL _ q
        · simp [expS_ok]
          rcases hz : expectP tk p2 [58] with q | p3
          · exact bad60 tk en o hL _ q
          · exact hE _ p1 _ hx (sym_lt tk hs) (by intro r hr; cases hr; have := (prog tk n).1 _ _ _ hy; have := (expectP_ok tk hz).2; omega)
      obtain ⟨⟨k3, m3, w3, op3, ks3⟩, hv3, hval3⟩ := h4
      have hv3' := app hv3
      simp at hv3'
      refine ⟨condE (.mk k m w op ks) (.mk k2 m2 w2 op2 ks2) (.mk k3 m3 w3 op3 ks3), fun H ho => ?_, ?_⟩
      · rw [go (fn := F60) rfl rfl rfl]
        simp [F60, ho, hv', h1, hv2', h3, hv3', hst, condE] <;> rfl
      · simp
        rw [exprP, hx]
        simp [hs]
        rcases hy : exprP tk n (p1 + 1) with q | ⟨a, p2⟩
        · simp
        · simp [hy, expS_ok] at hval2 hval3
          subst hval2
          simp
          rcases hz : expectP tk p2 [58] with q | p3
          · simp
          · simp [hz] at hval3
            simp
            rcases hu : exprP tk n p3 with q | ⟨b, p4⟩
            · simp
            · simp [hu] at hval3
              simp [hval3]
def fuelS (st : St) (r n : Nat) : Prop := ∀ p, st = .ok p → 40 * (tk.length - p) + r ≤ n
include hT
theorem exprAll : ∀ n, (∀ st, fuelS tk st 12 n → Con tk en o 60 [] encE (exprP tk n) st) ∧ (∀ k, k ≤ 8 → ∀ st, fuelS tk st (11 - k) n → Con tk en o 102 [.int .i64 k] encE (binP tk n k) st) ∧ (∀ k, k < 8 → ∀ p, 40 * (tk.length - p) + 1 ≤ n → LoopC tk en o n k p)
    ∧ (∀ st, fuelS tk st 2 n → Con tk en o 126 [] encE (unaryP tk n) st) ∧ (∀ st, fuelS tk st 1 n → Con tk en o 141 [] encE (primP tk n) st)
  | 0 => by
    refine ⟨?_, ?_, ?_, ?_, ?_⟩
    · intro st hf
      cases st with
      | error p => exact bad60 tk en o hL _ p
      | ok p => have := hf p rfl; omega
    · intro k hk st hf
      cases st with
      | error p => exact bad102 tk en o hL _ p (8 - k) k (by omega)
      | ok p => have := hf p rfl; omega
    · intro k hk p hf
      omega
    · intro st hf
      cases st with
      | error p => exact bad126 tk en o hL _ p
      | ok p => have := hf p rfl; omega
    · intro st hf
      cases st with
      | error p => exact bad141 tk en o hL _ p
      | ok p => have := hf p rfl; omega
  | n + 1 => by
    obtain ⟨hE, hB, hLp, hU, hP⟩ := exprAll n
    refine ⟨?_, ?_, ?_, ?_, ?_⟩
    · intro st hf
      cases st with
      | error p => exact bad60 tk en o hL _ p
      | ok p =>
        have := hf p rfl
        refine good60 tk en o hL n p (hB 0 (by omega) _ (by intro q hq; cases hq; omega)) ?_
        intro v q st hq hlt hst
        have := (prog tk n).2.1 _ _ _ _ hq
        exact hE _ (by intro r hr; have := hst r hr; omega)
    · intro k hk st hf
      cases st with
      | error p => exact bad102 tk en o hL _ p (8 - k) k (by omega)
      | ok p =>
        have := hf p rfl
        by_cases hk8 : k = 8
        · subst hk8
          exact good102_8 tk en o hL n p (hU _ (by intro q hq; cases hq; omega))
        · refine good102 tk en o hL n k p (by omega) (hB (k + 1) (by omega) _ (by intro q hq; cases hq; omega)) ?_
          intro v q hq
          have := (prog tk n).2.1 _ _ _ _ hq
          exact hLp k (by omega) q (by omega)
    · intro k hk p hf
      refine loop102_step tk en o hL n k p hk ?_ ?_
      · intro hlt
        exact hB (k + 1) (by omega) _ (by intro q hq; cases hq; omega)
      · intro v q hlt hq
        have := (prog tk n).2.1 _ _ _ _ hq
        exact hLp k hk q (by omega)
    · intro st hf
      cases st with
      | error p => exact bad126 tk en o hL _ p
      | ok p =>
        have := hf p rfl
        refine good126 tk en o hL hT n p ?_ ?_ (hP _ (by intro q hq; cases hq; omega))
        · intro hlt st hst
          exact hE _ (by intro r hr; have := hst r hr; omega)
        · intro hlt st hst
          exact hU _ (by intro r hr; have := hst r hr; omega)
    · intro st hf
      cases st with
      | error p => exact bad141 tk en o hL _ p
      | ok p =>
        have := hf p rfl
        refine good141 tk en o hL hT n p ?_
        intro hlt st hst
        exact hE _ (by intro r hr; have := hst r hr; omega)
end
end Go.Proofs.Ytkomfefpfalajaa
