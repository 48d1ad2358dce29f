/- The parser's statements. -/
import Derived.Test.YtkomfefpfalajaaP5
namespace Go.Proofs.Ytkomfefpfalajaa
open Go Go.Proofs Ab
set_option maxRecDepth 100000
set_option linter.unusedSimpArgs false
set_option linter.unusedVariables false
attribute [simp] encS_mk encSs_nil encSs_cons
section
variable (tk : List Tok) (en : Int) (o : Nat) (hL : tk.length < 4611686018427387904) (hT : ∀ p, (tokAt tk p).text.length ≤ 20000)
theorem runS_bind_adv {α β : Type} {P : Nat → Rs α} {f : α → Nat → Rs β} {st : St} {v : α} (h : valOk (runS P (adv st)) v) : runS (fun p => bindR (P (p + 1)) f) st = runS (f v) (stR (runS P (adv st))) := by
  rw [← runS_bind h]
  cases st <;> rfl
include hL hT
theorem simple101 (n : Nat) (hn1 : 1 ≤ n) (hn : n ≤ 900000) (hE : ∀ st, fuelS tk st 12 n → Con tk en o 60 [] encE (exprP tk n) st) (st : St) (hf : fuelS tk st 13 n) : Con tk en o 101 [] encS (simpleP tk n) st := by
  have k1 := keyword22 tk en o hL st [111, 117, 116]
  have k1' := app k1
  have k2 := keyword22 tk en o hL st [116, 114, 97, 112]
  have k2' := app k2
  cases hs1 : stB st (kwB tk · [111, 117, 116]) with
  | true =>
    simp [hs1] at k1 k1'
    have hf1 : fuelS tk (adv st) 12 n := fuel_mono tk (fuel_adv tk hf hs1 (fun p hp => kw_lt tk hp)) (by omega)
    obtain ⟨⟨k, j, w, op, ks⟩, hv, hval⟩ := hE _ hf1
    have hv' := app hv
    have hr : runS (simpleP tk n) st = runS (fun p => .ok (outS (.mk k j w op ks), p)) (stR (runS (exprP tk n) (adv st))) := by
      unfold simpleP
      rw [runS_ite, hs1]
      exact runS_bind_adv hval
    refine ⟨outS (.mk k j w op ks), fun H ho => ?_, by rw [hr]; simp⟩
    rw [go (fn := F101) rfl rfl rfl, hr, stR_pure]
    simp [F101, ho, k1, k1', hv, hv', outS, zeroE] <;> rfl
  | false =>
  cases hs2 : stB st (kwB tk · [116, 114, 97, 112]) with
  | true =>
    simp [hs1] at k1 k1'
    simp [hs2] at k2 k2'
    obtain ⟨v, hv, hval⟩ := small24 tk en o hL hT (adv st)
    have hv' := app hv
    have hr : runS (simpleP tk n) st = runS (fun p => .ok (trapS v, p)) (stR (runS (smallP tk) (adv st))) := by
      unfold simpleP
      rw [runS_ite, hs1]
      simp only [Bool.false_eq_true, if_false]
      rw [runS_ite, hs2]
      exact runS_bind_adv hval
    refine ⟨trapS v, fun H ho => ?_, by rw [hr]; simp⟩
    rw [go (fn := F101) rfl rfl rfl, hr, stR_pure]
    simp [F101, ho, k1, k1', k2, k2', hv, hv', trapS, zeroE] <;> rfl
  | false =>
    simp [hs1] at k1 k1'
    simp [hs2] at k2 k2'
    obtain ⟨s, hsv, hsval⟩ := name_con tk en o hL st
    have hsv' := app hsv
    have hf1 : fuelS tk (stR (runS (nameP tk) st)) 13 n := fuel_run tk hf (fun p v q h => by have := nameP_ok tk h; omega)
    have hbase : runS (simpleP tk n) st = runS (fun p1 => if symB tk p1 [91] then bindR (exprP tk n (p1 + 1)) fun a p2 => bindR (expR tk p2 [93]) fun _ p3 => bindR (expR tk p3 [61]) fun _ p4 => bindR (exprP tk n p4) fun v p5 => .ok (storeS s a v, p5)
        else bindR (expR tk p1 [61]) fun _ p2 =>
          if nmB tk p2 && symB tk (p2 + 1) [40] then bindR (argsP tk n (p2 + 1)) fun l p3 => .ok (callS s (tokAt tk p2).text l, p3)
          else bindR (exprP tk n p2) fun v p3 => .ok (assignS s v, p3)) (stR (runS (nameP tk) st)) := by
      unfold simpleP
      rw [runS_ite, hs1]
      simp only [Bool.false_eq_true, if_false]
      rw [runS_ite, hs2]
      simp only [Bool.false_eq_true, if_false]
      rw [runS_bind hsval]
    generalize stR (runS (nameP tk) st) = st1 at *
    have a1 := accept56 tk en o hL st1 [91]
    have a1' := app a1
    cases hs3 : stB st1 (symB tk · [91]) with
    | true =>
      simp [hs3] at a1 a1'
      have hf2 : fuelS tk (adv st1) 12 n := fuel_mono tk (fuel_adv tk hf1 hs3 (fun p hp => sym_lt tk hp)) (by omega)
      obtain ⟨⟨k, j, w, op, ks⟩, hv, hval⟩ := hE _ hf2
      have hmono : ∀ p v q, exprP tk n p = .ok (v, q) → p ≤ q := fun p v q h => Nat.le_of_lt ((prog tk n).1 _ _ _ h)
      have hf3 := fuel_run tk hf2 hmono
      have hr1 := fun (f : Ex → Nat → Rs Stm) => runS_bind_adv (f := f) hval
      generalize stR (runS (exprP tk n) (adv st1)) = st2 at *
      have hv' := app hv
      have e1 := app (expect25 tk en o hL st2 [93])
      have e2 := app (expect25 tk en o hL (expS tk st2 [93]) [61])
      simp [expS_eq] at e1 e2
      have hf4 : fuelS tk (expS tk (expS tk st2 [93]) [61]) 12 n := fuel_mono tk (fuel_exp tk (fuel_exp tk hf3)) (by omega)
      obtain ⟨⟨x2, j2, w2, op2, ks2⟩, hv2, hval2⟩ := hE _ hf4
      have hv2' := app hv2
      have hr : runS (simpleP tk n) st = runS (fun p => .ok (storeS s (.mk k j w op ks) (.mk x2 j2 w2 op2 ks2), p)) (stR (runS (exprP tk n) (expS tk (expS tk st2 [93]) [61]))) := by
        rw [hbase, runS_ite, hs3]
        simp only [if_true]
        rw [hr1, runS_exp, runS_exp, runS_bind hval2]
      refine ⟨storeS s (.mk k j w op ks) (.mk x2 j2 w2 op2 ks2), fun H ho => ?_, by rw [hr]; simp⟩
      rw [go (fn := F101) rfl rfl rfl, hr, stR_pure]
      simp [F101, ho, k1, k1', k2, k2', hsv, hsv', a1, a1', hv', e1, e2, hv2', storeS] <;> rfl
    | false =>
      simp [hs3] at a1 a1'
      have e1 := app (expect25 tk en o hL st1 [61])
      simp [expS_eq] at e1
      have hf2 : fuelS tk (expS tk st1 [61]) 12 n := fuel_mono tk (fuel_exp tk hf1) (by omega)
      have hbase2 : runS (simpleP tk n) st = runS (fun p2 =>
          if nmB tk p2 && symB tk (p2 + 1) [40] then bindR (argsP tk n (p2 + 1)) fun l p3 => .ok (callS s (tokAt tk p2).text l, p3)
          else bindR (exprP tk n p2) fun v p3 => .ok (assignS s v, p3)) (expS tk st1 [61]) := by
        rw [hbase, runS_ite, hs3]
        simp only [Bool.false_eq_true, if_false]
        rw [runS_exp]
      generalize expS tk st1 [61] = st2 at *
      have c1 := app (atCall124 tk en o hL st2)
      cases hs4 : stB st2 (fun p => nmB tk p && symB tk (p + 1) [40]) with
      | true =>
        simp [hs4] at c1
        obtain ⟨p2, rfl, hp2⟩ := stB_true hs4
        simp only [Bool.and_eq_true] at hp2
        have hlt := nm_lt tk hp2.1
        have n1 := app (name23 tk en o hL (.ok p2))
        simp [hp2.1] at n1
        have hf3 : fuelS tk (.ok (p2 + 1)) 12 n := by intro q hq; cases hq; have := hf2 p2 rfl; omega
        obtain ⟨l, hv, hval⟩ := args125 tk en o hL n hn1 hn hE (.ok (p2 + 1)) hf3
        have hv' := app hv
        have hr : runS (simpleP tk n) st = runS (fun p => .ok (callS s (tokAt tk p2).text l, p)) (stR (runS (argsP tk n) (.ok (p2 + 1)))) := by
          rw [hbase2]
          simp only [runS_ok]
          rw [if_pos (by simp [hp2])]
          exact bind_run hval
        refine ⟨callS s (tokAt tk p2).text l, fun H ho => ?_, by rw [hr]; simp⟩
        rw [go (fn := F101) rfl rfl rfl, hr, stR_pure]
        simp [F101, ho, k1, k1', k2, k2', hsv, hsv', a1, a1', e1, c1, n1, hv', callS, zeroE] <;> rfl
      | false =>
        simp [hs4] at c1
        obtain ⟨⟨k, j, w, op, ks⟩, hv, hval⟩ := hE _ hf2
        have hv' := app hv
        have hr : runS (simpleP tk n) st = runS (fun p => .ok (assignS s (.mk k j w op ks), p)) (stR (runS (exprP tk n) st2)) := by
          rw [hbase2, runS_ite, hs4]
          simp only [Bool.false_eq_true, if_false]
          exact runS_bind hval
        refine ⟨assignS s (.mk k j w op ks), fun H ho => ?_, by rw [hr]; simp⟩
        rw [go (fn := F101) rfl rfl rfl, hr, stR_pure]
        simp [F101, ho, k1, k1', k2, k2', hsv, hsv', a1, a1', e1, c1, hv', assignS, zeroE] <;> rfl
end
end Go.Proofs.Ytkomfefpfalajaa
