/- The parser's statements, all of them, and functions. -/
import Derived.Test.YtkomfefpfalajaaP7
namespace Go.Proofs.Ytkomfefpfalajaa
open Go Go.Proofs Ab
set_option maxRecDepth 100000
set_option linter.unusedSimpArgs false
set_option linter.unusedVariables false
section
variable (tk : List Tok) (en : Int) (o : Nat) (hL : tk.length < 4611686018427387904) (hT : ∀ p, (tokAt tk p).text.length ≤ 20000)
include hL
theorem stmt59 (n : Nat) (hE : ∀ st, fuelS tk st 12 n → Con tk en o 60 [] encE (exprP tk n) st) (hB : ∀ st, fuelS tk st 20 n → Con tk en o 100 [] (fun l => .sl .none (encSs l)) (blockP tk (stmtP tk n) n) st)
    (hM : ∀ st, fuelS tk st 13 n → Con tk en o 101 [] encS (simpleP tk n) st) (st : St) (hf : fuelS tk st 20 (n + 1)) : Con tk en o 59 [] encS (stmtP tk (n + 1)) st := by
  have k1 := keyword22 tk en o hL st [105, 102]
  have k1' := app k1
  have k2 := keyword22 tk en o hL st [119, 104, 105, 108, 101]
  have k2' := app k2
  have hun : stmtP tk (n + 1) = fun p => if kwB tk p [105, 102] then bindR (condP tk n (p + 1)) fun x p1 => bindR (blockP tk (stmtP tk n) n p1) fun t p2 =>
      if kwB tk p2 [101, 108, 115, 101] then bindR (blockP tk (stmtP tk n) n (p2 + 1)) fun e p3 => .ok (ifS x t e, p3) else .ok (ifS x t [], p2)
    else if kwB tk p [119, 104, 105, 108, 101] then bindR (condP tk n (p + 1)) fun x p1 => bindR (blockP tk (stmtP tk n) n p1) fun t p2 => .ok (whileS x t, p2)
    else bindR (simpleP tk n p) fun s p1 => bindR (expR tk p1 [59]) fun _ p2 => .ok (s, p2) := funext fun p => by rw [stmtP]
  cases hs1 : stB st (kwB tk · [105, 102]) with
  | true =>
    simp [hs1] at k1 k1'
    have hf1 : fuelS tk (adv st) 59 n := fuel_mono tk (fuel_adv tk hf hs1 (fun p hp => kw_lt tk hp)) (by omega)
    obtain ⟨⟨k, j, w, op, ks⟩, hv, hval⟩ := cond99 tk en o hL n (adv st) (hE _ (fuel_mono tk (fuel_exp tk hf1) (by omega)))
    have hf2 := fuel_run tk hf1 (cond_mo tk n)
    have hr1 := fun (f : Ex → Nat → Rs Stm) => runS_bind_adv (f := f) hval
    have hv' := app hv
    generalize stR (runS (condP tk n) (adv st)) = st1 at *
    obtain ⟨t, hv2, hval2⟩ := hB st1 (fuel_mono tk hf2 (by omega))
    have hf3 := fuel_run tk hf2 (block_mo tk (stmt_mo tk n) n)
    have hr2 := fun (f : List Stm → Nat → Rs Stm) => runS_bind (f := f) hval2
    have hv2' := app hv2
    generalize stR (runS (blockP tk (stmtP tk n) n) st1) = st2 at *
    have k3 := app (keyword22 tk en o hL st2 [101, 108, 115, 101])
    cases hs3 : stB st2 (kwB tk · [101, 108, 115, 101]) with
    | true =>
      simp [hs3] at k3
      have hf4 : fuelS tk (adv st2) 20 n := fuel_mono tk (fuel_adv tk hf3 hs3 (fun p hp => kw_lt tk hp)) (by omega)
      obtain ⟨e, hv3, hval3⟩ := hB _ hf4
      have hv3' := app hv3
      have hr : runS (stmtP tk (n + 1)) st = runS (fun p => .ok (ifS (.mk k j w op ks) t e, p)) (stR (runS (blockP tk (stmtP tk n) n) (adv st2))) := by
        rw [hun, runS_ite, hs1]
        simp only [if_true]
        rw [hr1, hr2, runS_ite, hs3]
        simp only [if_true]
        exact runS_bind_adv hval3
      refine ⟨ifS (.mk k j w op ks) t e, fun H ho => ?_, by rw [hr]; simp⟩
      rw [go (fn := F59) rfl rfl rfl, hr, stR_pure]
      simp [F59, ho, k1, k1', hv', hv2', k3, hv3', ifS, zeroE] <;> rfl
    | false =>
      simp [hs3] at k3
      have hr : runS (stmtP tk (n + 1)) st = runS (fun p => .ok (ifS (.mk k j w op ks) t [], p)) st2 := by
        rw [hun, runS_ite, hs1]
        simp only [if_true]
        rw [hr1, hr2, runS_ite, hs3]
        simp
      refine ⟨ifS (.mk k j w op ks) t [], fun H ho => ?_, by rw [hr]; simp⟩
      rw [go (fn := F59) rfl rfl rfl, hr, stR_pure]
      simp [F59, ho, k1, k1', hv', hv2', k3, ifS, zeroE] <;> rfl
  | false =>
  cases hs2 : stB st (kwB tk · [119, 104, 105, 108, 101]) with
  | true =>
    simp [hs1] at k1 k1'
    simp [hs2] at k2 k2'
    have hf1 : fuelS tk (adv st) 59 n := fuel_mono tk (fuel_adv tk hf hs2 (fun p hp => kw_lt tk hp)) (by omega)
    obtain ⟨⟨k, j, w, op, ks⟩, hv, hval⟩ := cond99 tk en o hL n (adv st) (hE _ (fuel_mono tk (fuel_exp tk hf1) (by omega)))
    have hf2 := fuel_run tk hf1 (cond_mo tk n)
    have hr1 := fun (f : Ex → Nat → Rs Stm) => runS_bind_adv (f := f) hval
    have hv' := app hv
    generalize stR (runS (condP tk n) (adv st)) = st1 at *
    obtain ⟨t, hv2, hval2⟩ := hB st1 (fuel_mono tk hf2 (by omega))
    have hr2 := fun (f : List Stm → Nat → Rs Stm) => runS_bind (f := f) hval2
    have hv2' := app hv2
    have hr : runS (stmtP tk (n + 1)) st = runS (fun p => .ok (whileS (.mk k j w op ks) t, p)) (stR (runS (blockP tk (stmtP tk n) n) st1)) := by
      rw [hun, runS_ite, hs1]
      simp only [Bool.false_eq_true, if_false]
      rw [runS_ite, hs2]
      simp only [if_true]
      rw [hr1, hr2]
    refine ⟨whileS (.mk k j w op ks) t, fun H ho => ?_, by rw [hr]; simp⟩
    rw [go (fn := F59) rfl rfl rfl, hr, stR_pure]
    simp [F59, ho, k1, k1', k2, k2', hv', hv2', whileS, zeroE] <;> rfl
  | false =>
    simp [hs1] at k1 k1'
    simp [hs2] at k2 k2'
    obtain ⟨⟨k, nm, to, nn, ⟨ak, an, az, ao, aks⟩, ⟨vk, vn, vs, vo, vks⟩, args, thn, els⟩, hv, hval⟩ := hM st (fuel_mono tk hf (by omega))
    have hv' := app hv
    have e1 := app (expect25 tk en o hL (stR (runS (simpleP tk n) st)) [59])
    simp [expS_eq] at e1
    have hr : runS (stmtP tk (n + 1)) st = runS (fun p => .ok (.mk k nm to nn (.mk ak an az ao aks) (.mk vk vn vs vo vks) args thn els, p)) (expS tk (stR (runS (simpleP tk n) st)) [59]) := by
      rw [hun, runS_ite, hs1]
      simp only [Bool.false_eq_true, if_false]
      rw [runS_ite, hs2]
      simp only [Bool.false_eq_true, if_false]
      rw [runS_bind hval, runS_exp]
    refine ⟨_, fun H ho => ?_, by rw [hr]; exact valOk_pure⟩
    rw [go (fn := F59) rfl rfl rfl, hr, stR_pure]
    simp [F59, ho, k1, k1', k2, k2', hv', e1] <;> rfl
include hT
theorem stmt_bad (P : Nat → Rs Stm) (p : Nat) : Con tk en o 59 [] encS P (.error p) := by
  have k1 := app (keyword22 tk en o hL (.error p) [105, 102])
  have k2 := app (keyword22 tk en o hL (.error p) [119, 104, 105, 108, 101])
  obtain ⟨⟨k, nm, to, nn, ⟨ak, an, az, ao, aks⟩, ⟨vk, vn, vs, vo, vks⟩, args, thn, els⟩, hv, hval⟩ := simple101 tk en o hL hT 1 (by omega) (by omega) (exprAll tk en o hL hT 1).1 (.error p) (by intro q hq; cases hq)
  have hv' := app hv
  have e1 := app (expect25 tk en o hL (.error p) [59])
  simp at k1 k2 hv' e1
  refine ⟨.mk k nm to nn (.mk ak an az ao aks) (.mk vk vn vs vo vks) args thn els, fun H ho => ?_, by simp⟩
  rw [go (fn := F59) rfl rfl rfl]
  simp [F59, ho, k1, k2, hv', e1] <;> rfl
theorem stmtAll : ∀ n, n ≤ 900000 → ∀ st, fuelS tk st 20 n → Con tk en o 59 [] encS (stmtP tk n) st
  | n, hn, .error p, hf => stmt_bad tk en o hL hT _ p
  | 0, hn, .ok p, hf => by
    have := hf p rfl
    omega
  | n + 1, hn, .ok p, hf => by
    have := hf p rfl
    have hS := stmtAll n (by omega)
    exact stmt59 tk en o hL n (exprAll tk en o hL hT n).1 (fun st hf => block100 tk en o hL n (by omega) hS st hf) (fun st hf => simple101 tk en o hL hT n (by omega) (by omega) (exprAll tk en o hL hT n).1 st hf) (.ok p) hf
end
end Go.Proofs.Ytkomfefpfalajaa
