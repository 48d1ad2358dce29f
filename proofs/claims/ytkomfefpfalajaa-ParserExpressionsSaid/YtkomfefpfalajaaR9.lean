/- The reference's parser: operators, and expressions together. -/
import Derived.Test.YtkomfefpfalajaaR5
import Derived.Test.YtkomfefpfalajaaAb12
namespace Go.Proofs.Ytkomfefpfalajaa
open Go Go.Proofs Ab
set_option maxRecDepth 100000
set_option linter.unusedSimpArgs false
set_option linter.unusedVariables false
section
variable (tk : List Tok) (en : Int) (o : Nat) (hk : TokOk2 tk)
def LoopR (n k : Nat) (p : Nat) : Prop := ∀ (a : Ex), ∃ v, valOk (loopP tk n k a p) v ∧ ∀ (c : Cap) (J : Heap) (s : Slots) (H : Heap), o < H.length → get s 0 = .ptr o 0 → get s 1 = .int .i64 k → get s 4 = .ptr H.length 0 → get s 5 = .ptr (H.length + 1) 0 →
    ∃ c' J', blkK (some [4, 5]) 0 (runF E1 H.length false c107_28 s (H.set o (rdR tk en (.ok p)) ++ zE :: .cells (leavesC c a) :: J)) = some (.nrm, [(4, .ptr H.length 0), (5, .ptr (H.length + 1) 0)], H.set o (rdR tk en (stR (loopP tk n k a p))) ++ zE :: .cells (leavesC c' v) :: J')
include hk
theorem loop107_step (n k p : Nat) (hk8 : k < 8) (hp : p ≤ tk.length) (hB : p < tk.length → ConR tk en o 107 [.int .i64 (k + 1 : Nat)] encE (binP tk n (k + 1)) (.ok (p + 1)))
    (hN : ∀ v q, p < tk.length → binP tk n (k + 1) (p + 1) = .ok (v, q) → LoopR tk en o n k q) : LoopR tk en o (n + 1) k p := by
  intro a
  obtain ⟨k', m, w, op, ks⟩ := a
  have h1 := app (ok29 tk en o (.ok p))
  simp at h1
  have hlen := hk.len
  by_cases hc : (tokAt tk p).kind = 3 ∧ (opOf (tokAt tk p).text).1 ≠ 0 ∧ (opOf (tokAt tk p).text).2.1 = (k : Int)
  · have hlt := kind_lt tk (p := p) (by omega)
    have hg := tokAt_get tk hlt
    have hw := wrap_ic (n := p) (by omega)
    have hw1 : IntKind.i64.wrap ((k : Int) + 1) = ((k + 1 : Nat) : Int) := wrapR ⟨by omega, by omega⟩
    obtain ⟨⟨k2, m2, w2, op2, ks2⟩, hv, hval⟩ := hB hlt
    have hv' := app hv
    simp at hv' hval
    have hv2 : ∀ (H X : Heap), o < H.length → callF E1 107 [.ptr o 0, .int .i64 ((k : Int) + 1)] (H.set o (rdO tk en (p + 1)) ++ X) = some (.agg [.int .i64 k2, .int .i64 m2, .str w2, .int .i64 op2, .sl .none (encEs ks2)], H.set o (rdR tk en (stR (binP tk n (k + 1) (p + 1)))) ++ X) := hv'
    have hr : loopP tk (n + 1) k (.mk k' m w op ks) p = match binP tk n (k + 1) (p + 1) with
      | .error q => .error q
      | .ok (b, p1) => loopP tk n k (opE (opOf (tokAt tk p).text).1 (if (opOf (tokAt tk p).text).2.2 then [b, .mk k' m w op ks] else [.mk k' m w op ks, b])) p1 := by
      rw [loopP, if_pos hc]
      rcases binP tk n (k + 1) (p + 1) with q | ⟨b, q⟩ <;> rfl
    obtain ⟨e1, e2, e3⟩ := hc
    have hop : opK k (tokAt tk p).text = ((opOf (tokAt tk p).text).1, (opOf (tokAt tk p).text).2.2) := by unfold opK; rw [if_pos ⟨e2, e3⟩]
    rw [hr]
    let a' := opE (opOf (tokAt tk p).text).1 (if (opOf (tokAt tk p).text).2.2 then [.mk k2 m2 w2 op2 ks2, .mk k' m w op ks] else [.mk k' m w op ks, .mk k2 m2 w2 op2 ks2])
    have hstep : ∀ (c : Cap) (J : Heap) (s : Slots) (H : Heap), o < H.length → get s 0 = .ptr o 0 → get s 1 = .int .i64 k → get s 4 = .ptr H.length 0 → get s 5 = .ptr (H.length + 1) 0 →
      ∃ J2, blkK (some [4, 5]) 0 (runF E1 H.length false c107_28 s (H.set o (rdR tk en (.ok p)) ++ zE :: .cells (leavesC c (.mk k' m w op ks)) :: J)) =
          blkK (some [4, 5]) 0 (runF E1 H.length false c107_28 [(0, .ptr o 0), (1, .int .i64 k), (4, .ptr H.length 0), (5, .ptr (H.length + 1) 0)] (H.set o (rdR tk en (stR (binP tk n (k + 1) (p + 1)))) ++ zE :: .cells (leavesC .full a') :: J2)) := by
      intro c J s H ho s0 s1 s4 s5
      rw [q107_28 (s := s)]
      cases ht : (opOf (tokAt tk p).text).2.2 with
      | true =>
        refine ⟨J ++ [.cells [.int .i64 k', .int .i64 m, .str w, .int .i64 op, .sl c (encEs ks)]], ?_⟩
        simp [s0, s1, s4, s5, ho, h1, hlt, hg, encT_mk, leavesE, leavesC_mk, operator129, hop, e1, e2, e3, ht, hw, hw1, hv2, a', opE, -getElem?_pos, List.getElem?_cons_zero, List.getElem?_cons_succ]
      | false =>
        refine ⟨J ++ [.cells [.int .i64 k2, .int .i64 m2, .str w2, .int .i64 op2, .sl .none (encEs ks2)]], ?_⟩
        simp [s0, s1, s4, s5, ho, h1, hlt, hg, encT_mk, leavesE, leavesC_mk, operator129, hop, e1, e2, e3, ht, hw, hw1, hv2, a', opE, -getElem?_pos, List.getElem?_cons_zero, List.getElem?_cons_succ]
    rcases hx : binP tk n (k + 1) (p + 1) with q | ⟨b, q⟩
    · refine ⟨a', by simp, ?_⟩
      intro c J s H ho s0 s1 s4 s5
      obtain ⟨J2, hs⟩ := hstep c J s H ho s0 s1 s4 s5
      have hb := loop107_bad tk en o k a' .full q J2 [(0, .ptr o 0), (1, .int .i64 k), (4, .ptr H.length 0), (5, .ptr (H.length + 1) 0)] H ho rfl rfl rfl rfl
      rw [hs, hx]
      exact ⟨.full, J2, by simpa using hb⟩
    · simp [hx] at hval
      subst hval
      obtain ⟨v, hv, hN⟩ := hN _ q hlt hx a'
      refine ⟨v, by simpa using hv, ?_⟩
      intro c J s H ho s0 s1 s4 s5
      obtain ⟨J2, hs⟩ := hstep c J s H ho s0 s1 s4 s5
      obtain ⟨c', J', hb⟩ := hN .full J2 [(0, .ptr o 0), (1, .int .i64 k), (4, .ptr H.length 0), (5, .ptr (H.length + 1) 0)] H ho rfl rfl rfl rfl
      rw [hs, hx]
      exact ⟨c', J', by simpa using hb⟩
  · have hr : loopP tk (n + 1) k (.mk k' m w op ks) p = .ok (.mk k' m w op ks, p) := by
      rw [loopP, if_neg hc]
    rw [hr]
    refine ⟨.mk k' m w op ks, by simp, ?_⟩
    intro c J s H ho s0 s1 s4 s5
    refine ⟨c, J, ?_⟩
    rw [q107_28]
    by_cases hlt : p < tk.length
    · have hg := tokAt_get tk hlt
      by_cases e1 : (tokAt tk p).kind = 3
      · have hop : opK k (tokAt tk p).text = (0, false) := by
          unfold opK
          rw [if_neg (fun h => hc ⟨e1, h⟩)]
        simp [s0, s1, s4, s5, ho, h1, hlt, hg, encT_mk, leavesC_mk, operator129, hop, e1, -getElem?_pos, List.getElem?_cons_zero, List.getElem?_cons_succ]
      · simp [s0, s1, s4, s5, ho, h1, hlt, hg, encT_mk, leavesC_mk, e1, -getElem?_pos, List.getElem?_cons_zero, List.getElem?_cons_succ]
    · simp [s0, s1, s4, s5, ho, h1, hlt, leavesC_mk]
omit hk in
theorem goodR107 (n k p : Nat) (hk8 : k < 8) (hB : ConR tk en o 107 [.int .i64 (k + 1 : Nat)] encE (binP tk n (k + 1)) (.ok p)) (hN : ∀ v q, binP tk n (k + 1) p = .ok (v, q) → LoopR tk en o n k q) :
    ConR tk en o 107 [.int .i64 k] encE (binP tk (n + 1) k) (.ok p) := by
  obtain ⟨⟨k2, m2, w2, op2, ks2⟩, hv, hval⟩ := hB
  have hv' := app hv
  have hw : IntKind.i64.wrap ((k : Int) + 1) = ((k + 1 : Nat) : Int) := wrapR ⟨by omega, by omega⟩
  have hk7 : ¬ ((7 : Int) < k) := by omega
  have hk7' : ¬ (7 < k) := by omega
  have hk8' : ¬ (k = 8) := by omega
  simp at hv' hval
  rcases hx : binP tk n (k + 1) p with q | ⟨b, q⟩
  · have hr : binP tk (n + 1) k p = .error q := by rw [binP, if_neg hk8', hx]
    refine ⟨.mk k2 m2 w2 op2 ks2, fun H ho => ?_, by simp [hr]⟩
    have hl := loop107_bad tk en o k (.mk k2 m2 w2 op2 ks2) .none q [] [(0, .ptr o 0), (1, .int .i64 k), (4, .ptr H.length 0), (5, .ptr (H.length + 1) 0)] H ho rfl rfl rfl rfl
    rw [go (fn := F107) rfl rfl rfl]
    simp [hx] at hv'
    simp [leavesC_mk] at hl
    simp [F107, ho, hv', hk7, hk7', hw, hl, hr] <;> rfl
  · have hr : binP tk (n + 1) k p = loopP tk n k b q := by rw [binP, if_neg hk8', hx]
    simp [hx] at hv' hval
    subst hval
    obtain ⟨⟨k3, m3, w3, op3, ks3⟩, hval3, hN⟩ := hN _ q hx (.mk k2 m2 w2 op2 ks2)
    refine ⟨.mk k3 m3 w3 op3 ks3, fun H ho => ?_, by simpa [hr] using hval3⟩
    obtain ⟨c', J', hl⟩ := hN .none [] [(0, .ptr o 0), (1, .int .i64 k), (4, .ptr H.length 0), (5, .ptr (H.length + 1) 0)] H ho rfl rfl rfl rfl
    rw [go (fn := F107) rfl rfl rfl]
    simp [leavesC_mk] at hl
    simp [F107, ho, hv', hk7, hk7', hw, hl, hr] <;> rfl
omit hk in
theorem goodR107_8 (n p : Nat) (hB : ConR tk en o 128 [] encE (unaryP tk n) (.ok p)) : ConR tk en o 107 [.int .i64 8] encE (binP tk (n + 1) 8) (.ok p) := by
  obtain ⟨⟨k2, m2, w2, op2, ks2⟩, hv, hval⟩ := hB
  have hv' := app hv
  simp at hv' hval
  have hr : binP tk (n + 1) 8 p = unaryP tk n p := by rw [binP, if_pos rfl]
  refine ⟨.mk k2 m2 w2 op2 ks2, fun H ho => ?_, by simpa [hr] using hval⟩
  rw [go (fn := F107) rfl rfl rfl]
  simp [F107, ho, hv', hr] <;> rfl
theorem goodR68 (n p : Nat) (hB : ConR tk en o 107 [.int .i64 0] encE (binP tk n 0) (.ok p)) (hE : ∀ v q st, binP tk n 0 p = .ok (v, q) → q < tk.length → inS tk st → (∀ r, st = .ok r → q < r) → ConR tk en o 68 [] encE (exprP tk n) st) :
    ConR tk en o 68 [] encE (exprP tk (n + 1)) (.ok p) := by
  obtain ⟨⟨k, m, w, op, ks⟩, hv, hval⟩ := hB
  have hv' := app hv
  have hlen := hk.len
  simp at hv' hval
  rcases hx : binP tk n 0 p with q | ⟨c, p1⟩
  · have hr : exprP tk (n + 1) p = .error q := by rw [exprP, hx]
    refine ⟨.mk k m w op ks, fun H ho => ?_, by simp [hr]⟩
    have h1 := app (at_sym tk en o hk (.error q) (inS_error tk q) [63] rfl)
    simp [hx] at hv' h1
    rw [go (fn := F68) rfl rfl rfl]
    simp [F68, ho, hv', h1, hr] <;> rfl
  · simp [hx] at hval hv'
    subst hval
    have hp1 := (expr_up tk n).2.1 _ _ _ _ hx
    have h1 := app (at_sym tk en o hk (.ok p1) (fun q hq => by cases hq; exact hp1) [63] rfl)
    simp at h1
    cases hs : symB tk p1 [63] with
    | false =>
      rw [hs] at h1
      have hr : exprP tk (n + 1) p = .ok (.mk k m w op ks, p1) := by rw [exprP, hx]; simp [hs]
      refine ⟨.mk k m w op ks, fun H ho => ?_, by simp [hr]⟩
      rw [go (fn := F68) rfl rfl rfl]
      simp [F68, ho, hv', h1, hr] <;> rfl
    | true =>
      rw [hs] at h1
      have hlt := sym_lt tk hs
      have hw := wrap_ic (n := p1) (by omega)
      obtain ⟨⟨k2, m2, w2, op2, ks2⟩, hv2, hval2⟩ := hE _ p1 (.ok (p1 + 1)) hx hlt (fun q hq => by cases hq; omega) (by intro r hr; cases hr; omega)
      have hv2' := app hv2
      simp at hv2' hval2
      have hv4 : ∀ (H X : Heap), o < H.length → callF E1 68 [.ptr o 0] (H.set o (rdO tk en (p1 + 1)) ++ X) = some (.agg [.int .i64 k2, .int .i64 m2, .str w2, .int .i64 op2, .sl .none (encEs ks2)], H.set o (rdR tk en (stR (exprP tk n (p1 + 1)))) ++ X) := hv2'
      have hin2 : inS tk (stR (exprP tk n (p1 + 1))) := by
        intro q hq
        rcases hy : exprP tk n (p1 + 1) with e | ⟨v, q'⟩
        · rw [hy] at hq; cases hq
        · rw [hy] at hq
          simp at hq
          have := (expr_up tk n).1 _ _ _ hy
          omega
      have h3 := app (exp_sym tk en o hk _ hin2 [58] rfl)
      have hst : stR (exprP tk (n + 1) p) = stR (runS (exprP tk n) (expS tk (stR (exprP tk n (p1 + 1))) [58])) := by
        rw [exprP, hx]
        simp [hs]
        rcases hy : exprP tk n (p1 + 1) with q | ⟨a, p2⟩
        · simp [expS_error]
        · simp [expS_ok]
          rcases expectP tk p2 [58] with q | p3
          · simp
          · simp
            rcases exprP tk n p3 with q | ⟨b, p4⟩ <;> simp
      have h4 : ConR tk en o 68 [] encE (exprP tk n) (expS tk (stR (exprP tk n (p1 + 1))) [58]) := by
        refine hE _ p1 _ hx hlt (inS_exp tk hin2) ?_
        intro r hr
        rcases hy : exprP tk n (p1 + 1) with q | ⟨a, p2⟩
        · rw [hy] at hr
          simp [expS_error] at hr
        · rw [hy] at hr
          have hpr := (prog tk n).1 _ _ _ hy
          simp [expS_ok] at hr
          rcases hz : expectP tk p2 [58] with q | p3
          · rw [hz] at hr; cases hr
          · rw [hz] at hr
            have := (expectP_ok tk hz).2
            cases hr
            omega
      obtain ⟨⟨k3, m3, w3, op3, ks3⟩, hv3, hval3⟩ := h4
      have hv3' := app hv3
      simp at hv3'
      refine ⟨condE (.mk k m w op ks) (.mk k2 m2 w2 op2 ks2) (.mk k3 m3 w3 op3 ks3), fun H ho => ?_, ?_⟩
      · rw [go (fn := F68) rfl rfl rfl]
        simp [F68, ho, hv', h1, hw, hv4, h3, hv3', hst, condE] <;> rfl
      · simp
        rw [exprP, hx]
        simp [hs]
        rcases hy : exprP tk n (p1 + 1) with q | ⟨a, p2⟩
        · simp
        · simp [hy, expS_ok] at hval2 hval3
          subst hval2
          simp
          rcases hz : expectP tk p2 [58] with q | p3
          · simp
          · simp [hz] at hval3
            simp
            rcases hu : exprP tk n p3 with q | ⟨b, p4⟩
            · simp
            · simp [hu] at hval3
              simp [hval3]
end
end Go.Proofs.Ytkomfefpfalajaa

namespace Go.Proofs.Ytkomfefpfalajaa
open Go Go.Proofs Ab
set_option maxRecDepth 100000
set_option linter.unusedSimpArgs false
set_option linter.unusedVariables false
section
variable (tk : List Tok) (en : Int) (o : Nat) (hk : TokOk2 tk)
include hk
theorem exprRAll : ∀ n, (∀ st, inS tk st → fuelS tk st 12 n → ConR tk en o 68 [] encE (exprP tk n) st) ∧ (∀ k, k ≤ 8 → ∀ st, inS tk st → fuelS tk st (11 - k) n → ConR tk en o 107 [.int .i64 k] encE (binP tk n k) st) ∧ (∀ k, k < 8 → ∀ p, p ≤ tk.length → 40 * (tk.length - p) + 1 ≤ n → LoopR tk en o n k p)
    ∧ (∀ st, inS tk st → fuelS tk st 2 n → ConR tk en o 128 [] encE (unaryP tk n) st) ∧ (∀ st, inS tk st → fuelS tk st 1 n → ConR tk en o 145 [] encE (parP tk n) st)
  | 0 => by
    refine ⟨?_, ?_, ?_, ?_, ?_⟩
    · intro st hin hf
      cases st with
      | error p => exact badR68 tk en o hk _ p
      | ok p => have := hf p rfl; omega
    · intro k hk8 st hin hf
      cases st with
      | error p => exact badR107 tk en o hk _ p (8 - k) k (by omega)
      | ok p => have := hf p rfl; omega
    · intro k hk8 p hin hf
      omega
    · intro st hin hf
      cases st with
      | error p => exact badR128 tk en o hk _ p
      | ok p => have := hf p rfl; omega
    · intro st hin hf
      cases st with
      | error p => exact badR145 tk en o hk _ p
      | ok p => have := hf p rfl; omega
  | n + 1 => by
    obtain ⟨hE, hB, hLp, hU, hP⟩ := exprRAll n
    have hE1 : ∀ st, inS tk st → fuelS tk st 12 (n + 1) → ConR tk en o 68 [] encE (exprP tk (n + 1)) st := by
      intro st hin hf
      cases st with
      | error p => exact badR68 tk en o hk _ p
      | ok p =>
        have := hf p rfl
        refine goodR68 tk en o hk n p (hB 0 (by omega) _ hin (by intro q hq; cases hq; omega)) ?_
        intro v q st hq hlt hst hst2
        have := (prog tk n).2.1 _ _ _ _ hq
        exact hE _ hst (by intro r hr; have := hst2 r hr; omega)
    refine ⟨hE1, ?_, ?_, ?_, ?_⟩
    · intro k hk8 st hin hf
      cases st with
      | error p => exact badR107 tk en o hk _ p (8 - k) k (by omega)
      | ok p =>
        have := hf p rfl
        by_cases hk8' : k = 8
        · subst hk8'
          exact goodR107_8 tk en o n p (hU _ hin (by intro q hq; cases hq; omega))
        · refine goodR107 tk en o n k p (by omega) (hB (k + 1) (by omega) _ hin (by intro q hq; cases hq; omega)) ?_
          intro v q hq
          have := (prog tk n).2.1 _ _ _ _ hq
          exact hLp k (by omega) q ((expr_up tk n).2.1 _ _ _ _ hq) (by omega)
    · intro k hk8 p hin hf
      refine loop107_step tk en o hk n k p hk8 hin ?_ ?_
      · intro hlt
        exact hB (k + 1) (by omega) _ (by intro q hq; cases hq; omega) (by intro q hq; cases hq; omega)
      · intro v q hlt hq
        have := (prog tk n).2.1 _ _ _ _ hq
        exact hLp k hk8 q ((expr_up tk n).2.1 _ _ _ _ hq) (by omega)
    · intro st hin hf
      cases st with
      | error p => exact badR128 tk en o hk _ p
      | ok p =>
        have := hf p rfl
        refine goodR128 tk en o hk n p (hin p rfl) ?_ (hP _ hin (by intro q hq; cases hq; omega))
        intro hlt
        exact hU _ (by intro q hq; cases hq; omega) (by intro r hr; cases hr; omega)
    · intro st hin hf
      cases st with
      | error p => exact badR145 tk en o hk _ p
      | ok p =>
        have := hf p rfl
        refine goodR145 tk en o hk n p (hin p rfl) ?_ ?_
        · intro hlt
          exact hE1 _ (by intro q hq; cases hq; omega) (by intro r hr; cases hr; omega)
        · intro hlt
          exact hE _ (by intro q hq; cases hq; omega) (by intro r hr; cases hr; omega)
end
end Go.Proofs.Ytkomfefpfalajaa

namespace Go.Proofs.Ytkomfefpfalajaa
open Go Go.Proofs Ab
set_option maxRecDepth 100000
set_option linter.unusedSimpArgs false
set_option linter.unusedVariables false
section
variable (tk : List Tok) (en : Int) (o : Nat) (hk : TokOk2 tk)
theorem inS_run {α : Type} {P : Nat → Rs α} (hP : UpP tk P) (st : St) : inS tk (stR (runS P st)) := by
  intro q hq
  cases st with
  | error p => cases hq
  | ok p =>
    rcases hx : P p with e | ⟨v, q'⟩
    · simp [hx] at hq
    · simp [hx] at hq
      have := hP _ _ _ hx
      omega
include hk
theorem loop105 (n : Nat) (hS : ∀ st, inS tk st → fuelS tk st 20 n → ConR tk en o 67 [] encS (stmtP tk n) st) : ∀ (m : Nat) (st : St), RoomS tk st m → inS tk st → fuelS tk st 20 n → ∃ l, valOk (runS (whileP (stmtP tk n) (symB tk · [125]) m) st) l ∧ ∀ (acc : List Stm) (c : Cap) (J : Heap) (s : Slots) (H : Heap), o < H.length → acc.length + m ≤ 1000000 → get s 0 = .ptr o 0 → get s 3 = .sl c (encSs acc) → Own H.length J 17 c acc.length →
    ∃ c' J', blkK (some [0, 3]) 0 (runF E1 H.length false c105_9 s (H.set o (rdR tk en st) ++ J)) = some (.nrm, [(0, .ptr o 0), (3, .sl c' (encSs (acc ++ l)))], H.set o (rdR tk en (stR (runS (whileP (stmtP tk n) (symB tk · [125]) m) st))) ++ J')
  | m, .error p, hm, hin, hf => by
    have h0 := app (ok29 tk en o (.error p))
    simp at h0
    refine ⟨[], by simp, ?_⟩
    intro acc c J s H ho hb s0 s3 hown
    refine ⟨c, J, ?_⟩
    rw [q105_9]
    simp [s0, s3, ho, h0]
  | 0, .ok p, hm, hin, hf => by
    have := hm p rfl
    omega
  | m + 1, .ok p, hm, hin, hf => by
    have h0 := app (ok29 tk en o (.ok p))
    have h1 := app (at_sym tk en o hk (.ok p) hin [125] rfl)
    simp at h0 h1
    have hm' := hm p rfl
    cases hs : symB tk p [125] with
    | true =>
      have hr : runS (whileP (stmtP tk n) (symB tk · [125]) (m + 1)) (.ok p) = .ok ([], p) := by
        simp only [runS_ok]
        rw [whileP, if_pos hs]
      refine ⟨[], by rw [hr]; simp, ?_⟩
      intro acc c J s H ho hb s0 s3 hown
      refine ⟨c, J, ?_⟩
      rw [hr, q105_9]
      simp [s0, s3, ho, h0, h1, hs]
    | false =>
      obtain ⟨⟨k, nm, to, nn, ⟨ak, an, az, ao, aks⟩, ⟨vk, vn, vs, vo, vks⟩, args, thn, els⟩, hv, hval⟩ := hS _ hin hf
      obtain ⟨l, hl, ih⟩ := loop105 n hS m (stR (stmtP tk n p)) (room_stmt tk hm') (inS_run tk (stmt_up tk n) (.ok p)) (fuel_run tk hf (stmt_mo tk n))
      have hr := while_run (stop := (symB tk · [125])) hs hval hl
      refine ⟨_ :: l, by simp only [runS_ok]; rw [hr]; exact valOk_pure, ?_⟩
      intro acc c J s H ho hb s0 s3 hown
      have hv' := app hv
      obtain ⟨c', J', happ, hown'⟩ := appC_ownS (n0 := H.length) (g := false) (sz := 17) (o := o) (S := rdR tk en (stR (stmtP tk n p))) (H := H) (X := []) (J := J) (xs := encSs acc) (ys := [encS (.mk k nm to nn (.mk ak an az ao aks) (.mk vk vn vs vo vks) args thn els)]) (c := c) (Nat.le_refl _) (by simpa using hown)
      simp at happ hown'
      obtain ⟨c2, J2, ih⟩ := ih (acc ++ [.mk k nm to nn (.mk ak an az ao aks) (.mk vk vn vs vo vks) args thn els]) c' J' [(0, .ptr o 0), (3, .sl c' (encSs (acc ++ [.mk k nm to nn (.mk ak an az ao aks) (.mk vk vn vs vo vks) args thn els])))] H ho (by simp; omega) rfl rfl (by simpa using hown')
      refine ⟨c2, J2, ?_⟩
      simp only [runS_ok]
      rw [hr, stR_pure, q105_9]
      have hbb : 2 * ((acc.length + 1) * 248) + 2048 * 248 ≤ 281474976710656 := by omega
      simp [s0, s3, ho, h0, h1, hs, hv', happ, hbb]
      simpa [encSs_append] using ih
theorem block105 (n : Nat) (hn : n ≤ 900000) (hS : ∀ st, inS tk st → fuelS tk st 20 n → ConR tk en o 67 [] encS (stmtP tk n) st) (st : St) (hin : inS tk st) (hf : fuelS tk st 20 n) : ConR tk en o 105 [] (fun l => .sl .none (encSs l)) (blockP tk (stmtP tk n) n) st := by
  have g1 := exp_sym tk en o hk st hin [123] rfl
  have h1 := app g1
  have hf1 : fuelS tk (expS tk st [123]) 20 n := fuel_mono tk (fuel_exp tk hf) (by omega)
  have hin1 : inS tk (expS tk st [123]) := inS_exp tk hin
  obtain ⟨l, hl, hlp⟩ := loop105 tk en o hk n hS n (expS tk st [123]) (by intro p hp; have := hf1 p hp; omega) hin1 hf1
  have hr : runS (blockP tk (stmtP tk n) n) st = runS (fun p => .ok (l, p)) (expS tk (stR (runS (whileP (stmtP tk n) (symB tk · [125]) n) (expS tk st [123]))) [125]) := by
    unfold blockP
    rw [runS_exp, runS_bind hl, runS_exp]
  have hin2 : inS tk (stR (runS (whileP (stmtP tk n) (symB tk · [125]) n) (expS tk st [123]))) := by
    intro q hq
    cases hst : expS tk st [123] with
    | error p => rw [hst] at hq; cases hq
    | ok p =>
      rw [hst] at hq
      have hp := hin1 p hst
      rcases hx : whileP (stmtP tk n) (symB tk · [125]) n p with e | ⟨v, q'⟩
      · simp [hx] at hq
      · simp [hx] at hq
        have := while_up tk (stmt_up tk n) n _ _ _ hp hx
        omega
  have h3 := app (exp_sym tk en o hk _ hin2 [125] rfl)
  refine ⟨l, fun H ho => ?_, by rw [hr]; simp⟩
  rw [go (fn := F105) rfl rfl rfl, hr, stR_pure]
  obtain ⟨c', J', hb⟩ := hlp [] .full [] [(0, .ptr o 0), (3, .sl .full [])] H ho (by simp; omega) rfl rfl own_full
  simp at hb
  simp [F105, ho, g1, h1, h3, hb] <;> rfl
end
end Go.Proofs.Ytkomfefpfalajaa

namespace Go.Proofs.Ytkomfefpfalajaa
open Go Go.Proofs Ab
set_option maxRecDepth 100000
set_option linter.unusedSimpArgs false
set_option linter.unusedVariables false
abbrev zS : Ob := .cells [.int .i64 0, .str [], .str [], .int .i64 0, .int .i64 0, .int .i64 0, .str [], .int .i64 0, .sl .full [], .int .i64 0, .int .i64 0, .str [], .int .i64 0, .sl .full [], .sl .full [], .sl .full [], .sl .full []]
abbrev cA (nm to : List UInt8) (c : Cap) (l : List Ex) : Ob := .cells [.int .i64 6, .str nm, .str to, .int .i64 0, .int .i64 0, .int .i64 0, .str [], .int .i64 0, .sl .full [], .int .i64 0, .int .i64 0, .str [], .int .i64 0, .sl .full [], .sl c (encEs l), .sl .full [], .sl .full []]
section
variable (tk : List Tok) (en : Int) (o : Nat) (hk : TokOk2 tk)
include hk
omit hk in
theorem loop106_bad (nm to : List UInt8) (acc : List Ex) (c : Cap) (p : Nat) (J : Heap) (s : Slots) (H : Heap) (ho : o < H.length) (s0 : get s 0 = .ptr o 0) (s2 : get s 2 = .ptr H.length 0) (s3 : get s 3 = .ptr (H.length + 1) 0) :
    blkK (some [0, 2, 3]) 0 (runF E1 H.length false c106_36 s (H.set o (rdR tk en (.error p)) ++ zS :: cA nm to c acc :: J)) = some (.nrm, [(0, .ptr o 0), (2, .ptr H.length 0), (3, .ptr (H.length + 1) 0)], H.set o (rdR tk en (.error p)) ++ zS :: cA nm to c acc :: J) := by
  have h1 := app (ok29 tk en o (.error p))
  simp at h1
  rw [q106_36]
  simp [s0, s2, s3, ho, h1]
/-- one more argument, behind a comma or first: what the body does -/
theorem step106 (n : Nat) (st' : St) (p : Nat) (hin : inS tk (.ok p)) (hs : symB tk p [41] = false) (acc : List Ex) (hst : st' = if acc = [] then .ok p else expS tk (.ok p) [44]) (v : Ex)
    (hv : ∀ H : Heap, o < H.length → callF E1 68 [.ptr o 0] (H.set o (rdR tk en st')) = some (encE v, H.set o (rdR tk en (stR (runS (exprP tk n) st')))))
    (nm to : List UInt8) (c : Cap) (J : Heap) (s : Slots) (H : Heap) (ho : o < H.length) (hb : acc.length ≤ 1000000) (s0 : get s 0 = .ptr o 0) (s2 : get s 2 = .ptr H.length 0) (s3 : get s 3 = .ptr (H.length + 1) 0) (hown : Own (H.length + 2) J 5 c acc.length) :
    ∃ c' J', blkK (some [0, 2, 3]) 0 (runF E1 H.length false c106_36 s (H.set o (rdR tk en (.ok p)) ++ zS :: cA nm to c acc :: J)) =
      blkK (some [0, 2, 3]) 0 (runF E1 H.length false c106_36 [(0, .ptr o 0), (2, .ptr H.length 0), (3, .ptr (H.length + 1) 0)] (H.set o (rdR tk en (stR (runS (exprP tk n) st'))) ++ zS :: cA nm to c' (acc ++ [v]) :: J')) ∧ Own (H.length + 2) J' 5 c' (acc ++ [v]).length := by
  obtain ⟨k, j, w, op, ks⟩ := v
  have h0 := app (ok29 tk en o (.ok p))
  have h1 := app (at_sym tk en o hk (.ok p) hin [41] rfl)
  have h2 := app (exp_sym tk en o hk (.ok p) hin [44] rfl)
  simp [hs] at h0 h1
  have hv' := app hv
  obtain ⟨c', J', happ, hown'⟩ := appC_ownS (n0 := H.length) (g := false) (sz := 5) (o := o) (S := rdR tk en (stR (runS (exprP tk n) st'))) (H := H) (X := [zS, cA nm to c acc]) (J := J) (xs := encEs acc) (ys := [encE (.mk k j w op ks)]) (c := c) (Nat.le_refl _) (by simpa using hown)
  simp at happ hown'
  rw [show H.length + (2 + J.length) = H.length + (J.length + 1 + 1) by omega] at happ
  refine ⟨c', J', ?_, by simpa using hown'⟩
  have hbb : 2 * ((acc.length + 1) * 64) + 2048 * 64 ≤ 281474976710656 := by omega
  by_cases ha : acc = []
  · subst ha
    rw [if_pos rfl] at hst
    subst hst
    simp [cA] at hv' happ
    rw [q106_36]
    simp [s0, s2, s3, ho, h0, h1, hv', happ, cA, encEs_append]
  · rw [if_neg ha] at hst
    subst hst
    have hl : acc.length ≠ 0 := by simpa using ha
    have hl' : (0 : Int) < acc.length := by omega
    have hl'' : 0 < acc.length := by omega
    rw [q106_36]
    simp [s0, s2, s3, ho, h0, h1, h2, hv', happ, hbb, hl', hl'', cA, encEs_append]
omit hk in
theorem sym_ne {p : Nat} {a b : List UInt8} (h : symB tk p a = true) (hab : a ≠ b) : symB tk p b = false := by
  unfold symB at h ⊢
  simp at h
  have : ((tokAt tk p).text == b) = false := by simpa [h.2] using hab
  simp [this]
theorem loop106 (n : Nat) (hE : ∀ st, inS tk st → fuelS tk st 12 n → ConR tk en o 68 [] encE (exprP tk n) st) : ∀ (m : Nat) (st : St), RoomS tk st m → inS tk st → fuelS tk st 12 n →
    ∃ l l' sR, inS tk sR ∧ expS tk sR [41] = expS tk (stR (runS (tailP tk (exprP tk n) m) st)) [41] ∧ valOk (runS (tailP tk (exprP tk n) m) st) l ∧ ((∃ q, expS tk sR [41] = .ok q) → l' = l) ∧
      ∀ (nm to : List UInt8) (acc : List Ex) (c : Cap) (J : Heap) (s : Slots) (H : Heap), o < H.length → acc ≠ [] → acc.length + m ≤ 1000000 → get s 0 = .ptr o 0 → get s 2 = .ptr H.length 0 → get s 3 = .ptr (H.length + 1) 0 → Own (H.length + 2) J 5 c acc.length →
        ∃ c' J', blkK (some [0, 2, 3]) 0 (runF E1 H.length false c106_36 s (H.set o (rdR tk en st) ++ zS :: cA nm to c acc :: J)) = some (.nrm, [(0, .ptr o 0), (2, .ptr H.length 0), (3, .ptr (H.length + 1) 0)], H.set o (rdR tk en sR) ++ zS :: cA nm to c' (acc ++ l') :: J')
  | m, .error p, hm, hin, hf => by
    refine ⟨[], [], .error p, hin, by simp, by simp, fun _ => rfl, ?_⟩
    intro nm to acc c J s H ho ha hb s0 s2 s3 hown
    exact ⟨c, J, by simpa using loop106_bad tk en o nm to acc c p J s H ho s0 s2 s3⟩
  | m, .ok p, hm, hin, hf => by
    cases hs : symB tk p [41] with
    | true =>
      have hc := sym_ne tk hs (b := [44]) (by decide)
      have hr : tailP tk (exprP tk n) m p = .ok ([], p) := by unfold tailP; rw [hc]; simp
      refine ⟨[], [], .ok p, hin, by simp [hr], by simp [hr], fun _ => rfl, ?_⟩
      intro nm to acc c J s H ho ha hb s0 s2 s3 hown
      have h0 := app (ok29 tk en o (.ok p))
      have h1 := app (at_sym tk en o hk (.ok p) hin [41] rfl)
      simp [hs] at h0 h1
      refine ⟨c, J, ?_⟩
      rw [q106_36]
      simp [s0, s2, s3, ho, h0, h1]
    | false =>
      cases hc : symB tk p [44] with
      | true =>
        have hlt := sym_lt tk hc
        have hm' := hm p rfl
        have hf' := hf p rfl
        match m, hm' with
        | m + 1, hm' =>
          have hin1 : inS tk (.ok (p + 1)) := fun q hq => by cases hq; omega
          have hf1 : fuelS tk (.ok (p + 1)) 12 n := by intro q hq; cases hq; omega
          obtain ⟨v, hv, hval⟩ := hE _ hin1 hf1
          obtain ⟨l, l', sR, hinR, hexp, hl, hll, ih⟩ := loop106 n hE m (stR (runS (exprP tk n) (.ok (p + 1)))) (room_run tk hm' hlt (expr_mo tk n)) (inS_run tk (expr_upP tk n) _) (fuel_run tk hf1 (expr_mo tk n))
          have hr := tail_run tk (exprP tk n) hc hval hl
          refine ⟨v :: l, v :: l', sR, hinR, ?_, ?_, fun hq => by rw [hll hq], ?_⟩
          · simp only [runS_ok]
            rw [hr, stR_pure]
            exact hexp
          · simp only [runS_ok]
            rw [hr]
            exact valOk_pure
          · intro nm to acc c J s H ho ha hb s0 s2 s3 hown
            have he : expS tk (.ok p) [44] = .ok (p + 1) := by unfold expS; simp [hc]
            obtain ⟨c1, J1, hst, hown1⟩ := step106 tk en o hk n (.ok (p + 1)) p hin hs acc (by rw [if_neg ha, he]) v hv nm to c J s H ho (by omega) s0 s2 s3 hown
            obtain ⟨c2, J2, h2⟩ := ih nm to (acc ++ [v]) c1 J1 [(0, .ptr o 0), (2, .ptr H.length 0), (3, .ptr (H.length + 1) 0)] H ho (by simp) (by simp; omega) rfl rfl rfl hown1
            refine ⟨c2, J2, ?_⟩
            rw [hst, h2]
            simp
      | false =>
        have hr : tailP tk (exprP tk n) m p = .ok ([], p) := by unfold tailP; rw [hc]; simp
        have he : expS tk (.ok p) [44] = .error p := by unfold expS; simp [hc]
        have he2 : expS tk (.ok p) [41] = .error p := by unfold expS; simp [hs]
        obtain ⟨v, hv, -⟩ := hE (.error p) (inS_error tk p) (by intro q hq; cases hq)
        refine ⟨[], [v], .error p, inS_error tk p, by simp [hr, he2, expS_error], by simp [hr], fun ⟨q, hq⟩ => by simp [expS_error] at hq, ?_⟩
        intro nm to acc c J s H ho ha hb s0 s2 s3 hown
        obtain ⟨c1, J1, hst, hown1⟩ := step106 tk en o hk n (.error p) p hin hs acc (by rw [if_neg ha, he]) v hv nm to c J s H ho (by omega) s0 s2 s3 hown
        have hb2 := loop106_bad tk en o nm to (acc ++ [v]) c1 p J1 [(0, .ptr o 0), (2, .ptr H.length 0), (3, .ptr (H.length + 1) 0)] H ho rfl rfl rfl
        exact ⟨c1, J1, by rw [hst]; simpa using hb2⟩
end
end Go.Proofs.Ytkomfefpfalajaa
