/- The reference's parser: assignments. -/
import Derived.Test.YtkomfefpfalajaaR9
namespace Go.Proofs.Ytkomfefpfalajaa
open Go Go.Proofs Ab
set_option maxRecDepth 100000
set_option linter.unusedSimpArgs false
set_option linter.unusedVariables false
def assignP (tk : List Tok) (n p : Nat) : Rs Stm := bindR (nameP tk p) fun s p1 =>
    if symB tk p1 [91] then bindR (exprP tk n (p1 + 1)) fun a p2 => bindR (expR tk p2 [93]) fun _ p3 => bindR (expR tk p3 [61]) fun _ p4 => bindR (exprP tk n p4) fun v p5 => .ok (storeS s a v, p5)
    else bindR (expR tk p1 [61]) fun _ p2 =>
      if nmB tk p2 && symB tk (p2 + 1) [40] then bindR (argsP tk n (p2 + 1)) fun l p3 => .ok (callS s (tokAt tk p2).text l, p3)
      else bindR (exprP tk n p2) fun v p3 => .ok (assignS s v, p3)
section
variable (tk : List Tok) (en : Int) (o : Nat) (hk : TokOk2 tk)
theorem simple_eq (n p : Nat) : simpleP tk n p = if kwB tk p [111, 117, 116] then bindR (exprP tk n (p + 1)) fun x p1 => .ok (outS x, p1)
  else if kwB tk p [116, 114, 97, 112] then bindR (smallP tk (p + 1)) fun v p1 => .ok (trapS v, p1)
  else assignP tk n p := rfl
include hk
theorem at1_sym (st : St) (hp : inS tk st) (s : List UInt8) (hs : headW s = false) (H : Heap) (ho : o < H.length) : callF E1 30 [.ptr o 0, .int .i64 1, .str s] (H.set o (rdR tk en st)) = some (.bool (stB st (fun p => symB tk (p + 1) s)), H.set o (rdR tk en st)) := by
  have h := at30 tk en o hk.len st 1 (by omega) hp s H ho
  simp only [atB_sym hk hs] at h
  exact h
theorem assign106 (n : Nat) (hn1 : 1 ≤ n) (hn : n ≤ 900000) (hE : ∀ st, inS tk st → fuelS tk st 12 n → ConR tk en o 68 [] encE (exprP tk n) st) (st : St) (hin : inS tk st) (hf : fuelS tk st 13 n) : ConR tk en o 106 [] encS (assignP tk n) st := by
  obtain ⟨s, hsv, hsval⟩ := name31 tk en o hk st hin
  have hsv' := app hsv
  have hf1 : fuelS tk (stR (runS (nameP tk) st)) 13 n := fuel_run tk hf (name_mo tk)
  have hin1 : inS tk (stR (runS (nameP tk) st)) := inS_run tk (name_up tk) st
  have hbase : runS (assignP tk n) st = runS (fun p1 => if symB tk p1 [91] then bindR (exprP tk n (p1 + 1)) fun a p2 => bindR (expR tk p2 [93]) fun _ p3 => bindR (expR tk p3 [61]) fun _ p4 => bindR (exprP tk n p4) fun v p5 => .ok (storeS s a v, p5)
      else bindR (expR tk p1 [61]) fun _ p2 =>
        if nmB tk p2 && symB tk (p2 + 1) [40] then bindR (argsP tk n (p2 + 1)) fun l p3 => .ok (callS s (tokAt tk p2).text l, p3)
        else bindR (exprP tk n p2) fun v p3 => .ok (assignS s v, p3)) (stR (runS (nameP tk) st)) := by
    unfold assignP
    rw [runS_bind hsval]
  generalize stR (runS (nameP tk) st) = st1 at *
  have a1 := app (at_sym tk en o hk st1 hin1 [91] rfl)
  cases hs3 : stB st1 (symB tk · [91]) with
  | true =>
    simp [hs3] at a1
    obtain ⟨p1, rfl, hp1⟩ := stB_true hs3
    have hlt := sym_lt tk hp1
    have hw := wrap_ic (n := p1) (by have := hk.len; omega)
    have hin2 : inS tk (.ok (p1 + 1)) := fun q hq => by cases hq; omega
    have hf2 : fuelS tk (.ok (p1 + 1)) 12 n := by intro q hq; cases hq; have := hf1 p1 rfl; omega
    obtain ⟨⟨k, j, w, op, ks⟩, hv, hval⟩ := hE _ hin2 hf2
    have hv' := app hv
    have hf3 := fuel_run tk hf2 (expr_mo tk n)
    have hin3 := inS_run tk (expr_upP tk n) (.ok (p1 + 1))
    have hr1 := fun (f : Ex → Nat → Rs Stm) => bind_run (f := f) hval
    simp only [runS_ok] at hv' hf3 hin3 hr1
    generalize stR (exprP tk n (p1 + 1)) = st2 at *
    have hv4 : ∀ (H X : Heap), o < H.length → callF E1 68 [.ptr o 0] (H.set o (rdO tk en (p1 + 1)) ++ X) = some (encE (.mk k j w op ks), H.set o (rdR tk en st2) ++ X) := hv'
    have e1 := app (exp_sym tk en o hk st2 hin3 [93] rfl)
    have e2 := app (exp_sym tk en o hk _ (inS_exp tk hin3 (s := [93])) [61] rfl)
    have hin4 := inS_exp tk (inS_exp tk hin3 (s := [93])) (s := [61])
    have hf4 : fuelS tk (expS tk (expS tk st2 [93]) [61]) 12 n := fuel_mono tk (fuel_exp tk (fuel_exp tk hf3)) (by omega)
    obtain ⟨⟨x2, j2, w2, op2, ks2⟩, hv2, hval2⟩ := hE _ hin4 hf4
    have hv2' := app hv2
    have hr : runS (assignP tk n) st = runS (fun p => .ok (storeS s (.mk k j w op ks) (.mk x2 j2 w2 op2 ks2), p)) (stR (runS (exprP tk n) (expS tk (expS tk st2 [93]) [61]))) := by
      rw [hbase]
      simp only [runS_ok]
      rw [if_pos hp1, hr1, runS_exp, runS_exp, runS_bind hval2]
    refine ⟨storeS s (.mk k j w op ks) (.mk x2 j2 w2 op2 ks2), fun H ho => ?_, by rw [hr]; simp⟩
    rw [go (fn := F106) rfl rfl rfl, hr, stR_pure]
    simp [F106, ho, hsv', a1, hw, hv4, e1, e2, hv2', storeS] <;> rfl
  | false =>
    simp [hs3] at a1
    have e1 := app (exp_sym tk en o hk st1 hin1 [61] rfl)
    have hin2 := inS_exp tk hin1 (s := [61])
    have hf2 : fuelS tk (expS tk st1 [61]) 12 n := fuel_mono tk (fuel_exp tk hf1) (by omega)
    have hbase2 : runS (assignP tk n) st = runS (fun p2 =>
        if nmB tk p2 && symB tk (p2 + 1) [40] then bindR (argsP tk n (p2 + 1)) fun l p3 => .ok (callS s (tokAt tk p2).text l, p3)
        else bindR (exprP tk n p2) fun v p3 => .ok (assignS s v, p3)) (expS tk st1 [61]) := by
      rw [hbase, runS_ite, hs3]
      simp only [Bool.false_eq_true, if_false]
      rw [runS_exp]
    generalize expS tk st1 [61] = st2 at *
    have c1 := app (atName65 tk en o hk st2 hin2)
    have c2 := app (at1_sym tk en o hk st2 hin2 [40] rfl)
    cases hs4 : stB st2 (fun p => nmB tk p && symB tk (p + 1) [40]) with
    | true =>
      obtain ⟨p2, rfl, hp2⟩ := stB_true hs4
      have hp2' := hp2
      simp only [Bool.and_eq_true] at hp2'
      obtain ⟨hb, hs5⟩ := hp2'
      have hlt := nm_lt tk hb
      have hlt2 := sym_lt tk hs5
      have hlen := hk.len
      have hw := wrap_ic (n := p2 + 1) (by omega)
      simp [hb] at c1
      simp [hs5] at c2
      obtain ⟨nm2, hn2, hnv2⟩ := name31 tk en o hk (.ok p2) hin2
      have hnp : nameP tk p2 = .ok ((tokAt tk p2).text, p2 + 1) := by simp [nameP, hb]
      simp [hnp] at hnv2
      subst hnv2
      have hn2' := app hn2
      simp [hnp] at hn2'
      have hinA : inS tk (.ok (p2 + 1 + 1)) := fun q hq => by cases hq; omega
      have hfA : fuelS tk (.ok (p2 + 1 + 1)) 12 n := by intro q hq; cases hq; have := hf2 p2 rfl; omega
      have hargs : argsP tk n (p2 + 1) = bindR (if symB tk (p2 + 1 + 1) [41] then .ok ([], p2 + 1 + 1) else sepP tk (exprP tk n) n (p2 + 1 + 1)) fun l p2 => bindR (expR tk p2 [41]) fun _ p3 => .ok (l, p3) := by
        unfold argsP expR
        rw [if_pos hs5]
        rfl
      have hbase3 : runS (assignP tk n) st = bindR (argsP tk n (p2 + 1)) fun l p3 => .ok (callS s (tokAt tk p2).text l, p3) := by
        rw [hbase2]
        simp only [runS_ok]
        rw [if_pos hp2]
      -- the loop
      have hloop : ∃ l l' sR, inS tk sR ∧ ((∃ q, expS tk sR [41] = .ok q) → l' = l) ∧ argsP tk n (p2 + 1) = runS (fun p => .ok (l, p)) (expS tk sR [41]) ∧ ∀ (H : Heap), o < H.length →
          ∃ c' J', blkK (some [0, 2, 3]) 0 (runF E1 H.length false c106_36 [(0, .ptr o 0), (2, .ptr H.length 0), (3, .ptr (H.length + 1) 0)] (H.set o (rdO tk en (p2 + 1 + 1)) ++ zS :: cA s (tokAt tk p2).text .full [] :: [])) = some (.nrm, [(0, .ptr o 0), (2, .ptr H.length 0), (3, .ptr (H.length + 1) 0)], H.set o (rdR tk en sR) ++ zS :: cA s (tokAt tk p2).text c' l' :: J') := by
        cases hs6 : symB tk (p2 + 1 + 1) [41] with
        | true =>
          refine ⟨[], [], .ok (p2 + 1 + 1), hinA, fun _ => rfl, ?_, ?_⟩
          · rw [hargs, if_pos hs6, bindR_ok]
            exact runS_exp (st := .ok (p2 + 1 + 1))
          · intro H ho
            have h0 := app (ok29 tk en o (.ok (p2 + 1 + 1)))
            have h1 := app (at_sym tk en o hk (.ok (p2 + 1 + 1)) hinA [41] rfl)
            have h0' : ∀ (H X : Heap), o < H.length → callF E1 29 [.ptr o 0] (H.set o (rdO tk en (p2 + 1 + 1)) ++ X) = some (.bool true, H.set o (rdR tk en (.ok (p2 + 1 + 1))) ++ X) := h0
            simp [hs6] at h1
            refine ⟨.full, [], ?_⟩
            rw [q106_36]
            simp [ho, h0', h1]
        | false =>
          obtain ⟨m, rfl⟩ : ∃ m, n = m + 1 := ⟨n - 1, by omega⟩
          obtain ⟨v, hv, hval⟩ := hE _ hinA hfA
          have hfB := fuel_run tk hfA (expr_mo tk (m + 1))
          obtain ⟨l, l', sR, hinR, hexp, hl, hll, hrun⟩ := loop106 tk en o hk (m + 1) hE m (stR (runS (exprP tk (m + 1)) (.ok (p2 + 1 + 1)))) (by intro q hq; have := hfB q hq; omega) (inS_run tk (expr_upP tk (m + 1)) _) hfB
          have hsr := sep_run tk (exprP tk (m + 1)) hval hl
          refine ⟨v :: l, v :: l', sR, hinR, fun hq => by rw [hll hq], ?_, ?_⟩
          · rw [hargs, if_neg (by rw [hs6]; decide)]
            simp only [runS_ok] at hsr hexp
            rw [hsr]
            refine (bind_run (v := v :: l) (by simp)).trans ?_
            rw [stR_pure]
            refine runS_exp.trans ?_
            rw [← hexp]
          · intro H ho
            obtain ⟨c1', J1, hst, hown1⟩ := step106 tk en o hk (m + 1) (.ok (p2 + 1 + 1)) (p2 + 1 + 1) hinA hs6 [] (by rw [if_pos rfl]) v hv s (tokAt tk p2).text .full [] [(0, .ptr o 0), (2, .ptr H.length 0), (3, .ptr (H.length + 1) 0)] H ho (by simp) rfl rfl rfl own_full
            obtain ⟨c2', J2, h2⟩ := hrun s (tokAt tk p2).text ([] ++ [v]) c1' J1 [(0, .ptr o 0), (2, .ptr H.length 0), (3, .ptr (H.length + 1) 0)] H ho (by simp) (by simp; omega) rfl rfl rfl hown1
            refine ⟨c2', J2, ?_⟩
            exact hst.trans h2
      obtain ⟨l, l', sR, hinR, hll, hA, hrun⟩ := hloop
      have e3 := app (exp_sym tk en o hk sR hinR [41] rfl)
      have hr : runS (assignP tk n) st = runS (fun p => .ok (callS s (tokAt tk p2).text l, p)) (expS tk sR [41]) := by
        rw [hbase3, hA]
        refine (bind_run (v := l) (by simp)).trans ?_
        rw [stR_pure]
      refine ⟨callS s (tokAt tk p2).text l', fun H ho => ?_, ?_⟩
      · obtain ⟨c', J', hb⟩ := hrun H ho
        rw [go (fn := F106) rfl rfl rfl, hr, stR_pure]
        simp [cA] at hb
        simp [F106, ho, hsv', a1, e1, c1, c2, hn2', hw, hb, e3, callS, zeroE] <;> rfl
      · rw [hr]
        intro w q hq
        cases hx : expS tk sR [41] with
        | error e => rw [hx] at hq; cases hq
        | ok q' =>
          rw [hx] at hq
          simp at hq
          rw [hll ⟨q', hx⟩, hq.1]
    | false =>
      obtain ⟨⟨k, j, w, op, ks⟩, hv, hval⟩ := hE _ hin2 hf2
      have hv' := app hv
      have hr : runS (assignP tk n) st = runS (fun p => .ok (assignS s (.mk k j w op ks), p)) (stR (runS (exprP tk n) st2)) := by
        rw [hbase2, runS_ite, hs4]
        simp only [Bool.false_eq_true, if_false]
        exact runS_bind hval
      refine ⟨assignS s (.mk k j w op ks), fun H ho => ?_, by rw [hr]; simp⟩
      rw [go (fn := F106) rfl rfl rfl, hr, stR_pure]
      cases hb : stB st2 (nmB tk) with
      | false =>
        simp [hb] at c1
        simp [F106, ho, hsv', a1, e1, c1, hv', assignS, zeroE] <;> rfl
      | true =>
        have hb2 : stB st2 (fun p => symB tk (p + 1) [40]) = false := by
          obtain ⟨p, rfl, h⟩ := stB_true hb
          simpa [h] using hs4
        simp [hb] at c1
        simp [hb2] at c2
        simp [F106, ho, hsv', a1, e1, c1, c2, hv', assignS, zeroE] <;> rfl
end
end Go.Proofs.Ytkomfefpfalajaa

namespace Go.Proofs.Ytkomfefpfalajaa
open Go Go.Proofs Ab
set_option maxRecDepth 100000
set_option linter.unusedSimpArgs false
set_option linter.unusedVariables false
section
variable (tk : List Tok) (en : Int) (o : Nat) (hk : TokOk2 tk)
include hk
omit hk in
theorem assign_up (n : Nat) : UpP tk (assignP tk n) := fun p v q h => by
  unfold assignP at h
  obtain ⟨_, p1, h1, h⟩ := bindR_inv h
  split at h
  · obtain ⟨_, p2, h2, h⟩ := bindR_inv h
    obtain ⟨_, p3, h3, h⟩ := bindR_inv h
    obtain ⟨_, p4, h4, h⟩ := bindR_inv h
    obtain ⟨_, p5, h5, h⟩ := bindR_inv h
    have := expr_upP tk n _ _ _ h5
    simp at h
    omega
  · obtain ⟨_, p2, h2, h⟩ := bindR_inv h
    split at h
    · obtain ⟨_, p3, h3, h⟩ := bindR_inv h
      have := args_up tk n _ _ _ h3
      simp at h
      omega
    · obtain ⟨_, p3, h3, h⟩ := bindR_inv h
      have := expr_upP tk n _ _ _ h3
      simp at h
      omega
omit hk in
theorem cond_run {n : Nat} {st : St} {x : Ex} (hval : valOk (runS (exprP tk n) (expS tk st [40])) x) : runS (condP tk n) st = runS (fun p => .ok (x, p)) (expS tk (stR (runS (exprP tk n) (expS tk st [40]))) [41]) := by
  unfold condP
  rw [runS_exp, runS_bind hval, runS_exp]
/-- the parts of a condition, right behind its word -/
theorem condR (n : Nat) (hE : ∀ st, inS tk st → fuelS tk st 12 n → ConR tk en o 68 [] encE (exprP tk n) st) (p : Nat) (hp : p + 1 ≤ tk.length) (hf : 40 * (tk.length - (p + 1)) + 50 ≤ n + 40) :
    ∃ (k j : Int) (w : List UInt8) (op : Int) (ks : List Ex) (s1 s2 s3 : St), inS tk s3 ∧ fuelS tk s3 80 n ∧ runS (condP tk n) (.ok (p + 1)) = runS (fun p => .ok (.mk k j w op ks, p)) s3 ∧
      (∀ (H X : Heap), o < H.length → callF E1 33 [.ptr o 0, .str [40]] (H.set o (rdO tk en (p + 1)) ++ X) = some (.tup [], H.set o (rdR tk en s1) ++ X)) ∧
      (∀ (H X : Heap), o < H.length → callF E1 68 [.ptr o 0] (H.set o (rdR tk en s1) ++ X) = some (encE (.mk k j w op ks), H.set o (rdR tk en s2) ++ X)) ∧
      (∀ (H X : Heap), o < H.length → callF E1 33 [.ptr o 0, .str [41]] (H.set o (rdR tk en s2) ++ X) = some (.tup [], H.set o (rdR tk en s3) ++ X)) := by
  have hin : inS tk (.ok (p + 1)) := fun q hq => by cases hq; exact hp
  have hf0 : fuelS tk (.ok (p + 1)) 10 n := by intro q hq; cases hq; omega
  have hin1 := inS_exp tk hin (s := [40])
  have hf1 : fuelS tk (expS tk (.ok (p + 1)) [40]) 50 n := fuel_mono tk (fuel_exp tk hf0) (by omega)
  obtain ⟨⟨k, j, w, op, ks⟩, hv, hval⟩ := hE _ hin1 (fuel_mono tk hf1 (by omega))
  have hin2 := inS_run tk (expr_upP tk n) (expS tk (.ok (p + 1)) [40])
  have hf2 := fuel_run tk hf1 (expr_mo tk n)
  refine ⟨k, j, w, op, ks, _, _, _, inS_exp tk hin2, fuel_mono tk (fuel_exp tk hf2) (by omega), cond_run tk hval, ?_, app hv, ?_⟩
  · exact app (exp_sym tk en o hk (.ok (p + 1)) hin [40] rfl)
  · exact app (exp_sym tk en o hk _ hin2 [41] rfl)
theorem stmt67 (n : Nat) (hn1 : 1 ≤ n) (hn : n ≤ 900000) (hE : ∀ st, inS tk st → fuelS tk st 12 n → ConR tk en o 68 [] encE (exprP tk n) st) (hB : ∀ st, inS tk st → fuelS tk st 20 n → ConR tk en o 105 [] (fun l => .sl .none (encSs l)) (blockP tk (stmtP tk n) n) st)
    (st : St) (hin : inS tk st) (hf : fuelS tk st 20 (n + 1)) : ConR tk en o 67 [] encS (stmtP tk (n + 1)) st := by
  have k1 := app (at_kw tk en o hk st hin [105, 102] rfl)
  have k2 := app (at_kw tk en o hk st hin [119, 104, 105, 108, 101] rfl)
  have k3 := app (at_kw tk en o hk st hin [111, 117, 116] rfl)
  have k4 := app (at_kw tk en o hk st hin [116, 114, 97, 112] rfl)
  have hlen := hk.len
  have hun : stmtP tk (n + 1) = fun p => if kwB tk p [105, 102] then bindR (condP tk n (p + 1)) fun x p1 => bindR (blockP tk (stmtP tk n) n p1) fun t p2 =>
      if kwB tk p2 [101, 108, 115, 101] then bindR (blockP tk (stmtP tk n) n (p2 + 1)) fun e p3 => .ok (ifS x t e, p3) else .ok (ifS x t [], p2)
    else if kwB tk p [119, 104, 105, 108, 101] then bindR (condP tk n (p + 1)) fun x p1 => bindR (blockP tk (stmtP tk n) n p1) fun t p2 => .ok (whileS x t, p2)
    else bindR (simpleP tk n p) fun s p1 => bindR (expR tk p1 [59]) fun _ p2 => .ok (s, p2) := funext fun p => by rw [stmtP]
  cases hs1 : stB st (kwB tk · [105, 102]) with
  | true =>
    simp [hs1] at k1
    obtain ⟨p, rfl, hb⟩ := stB_true hs1
    have hlt := kw_lt tk hb
    have hw := wrap_ic (n := p) (by omega)
    have hfp := hf p rfl
    obtain ⟨k, j, w, op, ks, s1, s2, s3, hin3, hf3, hcr, d1, d2, d3⟩ := condR tk en o hk n hE p (by omega) (by omega)
    obtain ⟨t, hv, hval⟩ := hB s3 hin3 (fuel_mono tk hf3 (by omega))
    have hv' := app hv
    have hin4 := inS_run tk (block_up tk (S := stmtP tk n) n) s3
    have hf4 := fuel_run tk hf3 (block_mo tk (stmt_mo tk n) n)
    have hbase : runS (stmtP tk (n + 1)) (.ok p) = runS (fun p2 => if kwB tk p2 [101, 108, 115, 101] then bindR (blockP tk (stmtP tk n) n (p2 + 1)) fun e p3 => .ok (ifS (.mk k j w op ks) t e, p3) else .ok (ifS (.mk k j w op ks) t [], p2)) (stR (runS (blockP tk (stmtP tk n) n) s3)) := by
      rw [hun, runS_ite, hs1]
      simp only [if_true]
      refine (runS_bind_adv (st := .ok p) (v := .mk k j w op ks) (by show valOk (runS (condP tk n) (.ok (p + 1))) _; rw [hcr]; simp)).trans ?_
      show runS _ (stR (runS (condP tk n) (.ok (p + 1)))) = _
      rw [hcr, stR_pure]
      exact runS_bind hval
    generalize stR (runS (blockP tk (stmtP tk n) n) s3) = s4 at *
    have k5 := app (at_kw tk en o hk s4 hin4 [101, 108, 115, 101] rfl)
    simp at d2
    cases hs5 : stB s4 (kwB tk · [101, 108, 115, 101]) with
    | true =>
      obtain ⟨p4, rfl, hb4⟩ := stB_true hs5
      have hlt4 := kw_lt tk hb4
      have hw4 := wrap_ic (n := p4) (by omega)
      simp [hb4] at k5
      obtain ⟨e, hv2, hval2⟩ := hB (.ok (p4 + 1)) (fun q hq => by cases hq; omega) (by intro q hq; cases hq; have := hf4 p4 rfl; omega)
      have hv2' := app hv2
      simp at hv2'
      have hv4 : ∀ (H X : Heap), o < H.length → callF E1 105 [.ptr o 0] (H.set o (rdO tk en (p4 + 1)) ++ X) = some (.sl .none (encSs e), H.set o (rdR tk en (stR (blockP tk (stmtP tk n) n (p4 + 1)))) ++ X) := hv2'
      have hr : runS (stmtP tk (n + 1)) (.ok p) = runS (fun p => .ok (ifS (.mk k j w op ks) t e, p)) (stR (blockP tk (stmtP tk n) n (p4 + 1))) := by
        rw [hbase]
        simp only [runS_ok]
        rw [if_pos hb4]
        exact bind_run hval2
      refine ⟨ifS (.mk k j w op ks) t e, fun H ho => ?_, by rw [hr]; simp⟩
      rw [go (fn := F67) rfl rfl rfl, hr, stR_pure]
      simp [F67, ho, k1, hw, d1, d2, d3, hv', k5, hw4, hv4, ifS, zeroE] <;> rfl
    | false =>
      simp [hs5] at k5
      have hr : runS (stmtP tk (n + 1)) (.ok p) = runS (fun p => .ok (ifS (.mk k j w op ks) t [], p)) s4 := by
        rw [hbase, runS_ite, hs5]
        simp
      refine ⟨ifS (.mk k j w op ks) t [], fun H ho => ?_, by rw [hr]; simp⟩
      rw [go (fn := F67) rfl rfl rfl, hr, stR_pure]
      simp [F67, ho, k1, hw, d1, d2, d3, hv', k5, ifS, zeroE] <;> rfl
  | false =>
  simp [hs1] at k1
  cases hs2 : stB st (kwB tk · [119, 104, 105, 108, 101]) with
  | true =>
    simp [hs2] at k2
    obtain ⟨p, rfl, hb⟩ := stB_true hs2
    have hlt := kw_lt tk hb
    have hw := wrap_ic (n := p) (by omega)
    have hfp := hf p rfl
    obtain ⟨k, j, w, op, ks, s1, s2, s3, hin3, hf3, hcr, d1, d2, d3⟩ := condR tk en o hk n hE p (by omega) (by omega)
    obtain ⟨t, hv, hval⟩ := hB s3 hin3 (fuel_mono tk hf3 (by omega))
    have hv' := app hv
    have hr : runS (stmtP tk (n + 1)) (.ok p) = runS (fun p => .ok (whileS (.mk k j w op ks) t, p)) (stR (runS (blockP tk (stmtP tk n) n) s3)) := by
      rw [hun, runS_ite, hs1]
      simp only [Bool.false_eq_true, if_false]
      rw [runS_ite, hs2]
      simp only [if_true]
      refine (runS_bind_adv (st := .ok p) (v := .mk k j w op ks) (by show valOk (runS (condP tk n) (.ok (p + 1))) _; rw [hcr]; simp)).trans ?_
      show runS _ (stR (runS (condP tk n) (.ok (p + 1)))) = _
      rw [hcr, stR_pure]
      exact runS_bind hval
    refine ⟨whileS (.mk k j w op ks) t, fun H ho => ?_, by rw [hr]; simp⟩
    rw [go (fn := F67) rfl rfl rfl, hr, stR_pure]
    simp at d2
    simp [F67, ho, k1, k2, hw, d1, d2, d3, hv', whileS, zeroE] <;> rfl
  | false =>
  simp [hs2] at k2
  have hbase : runS (stmtP tk (n + 1)) st = runS (fun p => bindR (simpleP tk n p) fun s p1 => bindR (expR tk p1 [59]) fun _ p2 => .ok (s, p2)) st := by
    rw [hun, runS_ite, hs1]
    simp only [Bool.false_eq_true, if_false]
    rw [runS_ite, hs2]
    simp
  cases hs3 : stB st (kwB tk · [111, 117, 116]) with
  | true =>
    simp [hs3] at k3
    obtain ⟨p, rfl, hb⟩ := stB_true hs3
    have hlt := kw_lt tk hb
    have hw := wrap_ic (n := p) (by omega)
    have hfp := hf p rfl
    have hin1 : inS tk (.ok (p + 1)) := fun q hq => by cases hq; omega
    obtain ⟨⟨k, j, w, op, ks⟩, hv, hval⟩ := hE (.ok (p + 1)) hin1 (by intro q hq; cases hq; omega)
    have hv' := app hv
    simp at hv'
    have hv4 : ∀ (H X : Heap), o < H.length → callF E1 68 [.ptr o 0] (H.set o (rdO tk en (p + 1)) ++ X) = some (.agg [.int .i64 k, .int .i64 j, .str w, .int .i64 op, .sl .none (encEs ks)], H.set o (rdR tk en (stR (exprP tk n (p + 1)))) ++ X) := hv'
    have hin2 := inS_run tk (expr_upP tk n) (.ok (p + 1))
    have e1 := app (exp_sym tk en o hk _ hin2 [59] rfl)
    have hsim : simpleP tk n p = runS (fun q => .ok (outS (.mk k j w op ks), q)) (stR (exprP tk n (p + 1))) := by
      rw [simple_eq, if_pos hb]
      exact bind_run hval
    have hr : runS (stmtP tk (n + 1)) (.ok p) = runS (fun p => .ok (outS (.mk k j w op ks), p)) (expS tk (stR (exprP tk n (p + 1))) [59]) := by
      rw [hbase]
      simp only [runS_ok]
      rw [hsim]
      refine (bind_run (v := outS (.mk k j w op ks)) (by simp)).trans ?_
      rw [stR_pure]
      exact runS_exp
    refine ⟨outS (.mk k j w op ks), fun H ho => ?_, by rw [hr]; simp⟩
    rw [go (fn := F67) rfl rfl rfl, hr, stR_pure]
    simp at e1
    simp [F67, ho, k1, k2, k3, hw, hv4, e1, outS, zeroE] <;> rfl
  | false =>
  simp [hs3] at k3
  cases hs4 : stB st (kwB tk · [116, 114, 97, 112]) with
  | true =>
    simp [hs4] at k4
    obtain ⟨p, rfl, hb⟩ := stB_true hs4
    have hb3 : kwB tk p [111, 117, 116] = false := by simpa using hs3
    have hlt := kw_lt tk hb
    have hw := wrap_ic (n := p) (by omega)
    have hin1 : inS tk (.ok (p + 1)) := fun q hq => by cases hq; omega
    obtain ⟨v, hv, hval⟩ := small32 tk en o hk (.ok (p + 1)) hin1
    have hv' := app hv
    simp at hv'
    have hv4 : ∀ (H X : Heap), o < H.length → callF E1 32 [.ptr o 0] (H.set o (rdO tk en (p + 1)) ++ X) = some (.int .i64 v, H.set o (rdR tk en (stR (smallP tk (p + 1)))) ++ X) := hv'
    have hin2 := inS_run tk (small_up tk) (.ok (p + 1))
    have e1 := app (exp_sym tk en o hk _ hin2 [59] rfl)
    have hsim : simpleP tk n p = runS (fun q => .ok (trapS v, q)) (stR (smallP tk (p + 1))) := by
      rw [simple_eq, if_neg (by rw [hb3]; decide), if_pos hb]
      exact bind_run hval
    have hr : runS (stmtP tk (n + 1)) (.ok p) = runS (fun p => .ok (trapS v, p)) (expS tk (stR (smallP tk (p + 1))) [59]) := by
      rw [hbase]
      simp only [runS_ok]
      rw [hsim]
      refine (bind_run (v := trapS v) (by simp)).trans ?_
      rw [stR_pure]
      exact runS_exp
    refine ⟨trapS v, fun H ho => ?_, by rw [hr]; simp⟩
    rw [go (fn := F67) rfl rfl rfl, hr, stR_pure]
    simp at e1
    simp [F67, ho, k1, k2, k3, k4, hw, hv4, e1, trapS, zeroE] <;> rfl
  | false =>
  simp [hs4] at k4
  obtain ⟨⟨k, nm, to, nn, ⟨ak, an, az, ao, aks⟩, ⟨vk, vn, vs, vo, vks⟩, args, thn, els⟩, hv, hval⟩ := assign106 tk en o hk n hn1 hn hE st hin (fuel_mono tk hf (by omega))
  have hv' := app hv
  have hsim : runS (simpleP tk n) st = runS (assignP tk n) st := by
    have : simpleP tk n = fun p => if kwB tk p [111, 117, 116] then bindR (exprP tk n (p + 1)) fun x p1 => .ok (outS x, p1)
      else if kwB tk p [116, 114, 97, 112] then bindR (smallP tk (p + 1)) fun v p1 => .ok (trapS v, p1)
      else assignP tk n p := funext fun p => simple_eq tk n p
    rw [this, runS_ite, hs3]
    simp only [Bool.false_eq_true, if_false]
    rw [runS_ite, hs4]
    simp
  have hinA : inS tk (stR (runS (assignP tk n) st)) := inS_run tk (assign_up tk n) st
  have e1 := app (exp_sym tk en o hk _ hinA [59] rfl)
  have hr : runS (stmtP tk (n + 1)) st = runS (fun p => .ok (.mk k nm to nn (.mk ak an az ao aks) (.mk vk vn vs vo vks) args thn els, p)) (expS tk (stR (runS (assignP tk n) st)) [59]) := by
    rw [hbase, runS_bind (by rw [hsim]; exact hval), runS_exp, hsim]
  refine ⟨_, fun H ho => ?_, by rw [hr]; exact valOk_pure⟩
  rw [go (fn := F67) rfl rfl rfl, hr, stR_pure]
  simp [F67, ho, k1, k2, k3, k4, hv', e1] <;> rfl
end
end Go.Proofs.Ytkomfefpfalajaa

namespace Go.Proofs.Ytkomfefpfalajaa
open Go Go.Proofs Ab
set_option maxRecDepth 100000
set_option linter.unusedSimpArgs false
set_option linter.unusedVariables false
section
variable (tk : List Tok) (en : Int) (o : Nat) (hk : TokOk2 tk)
include hk
theorem stmtR_bad (P : Nat → Rs Stm) (p : Nat) : ConR tk en o 67 [] encS P (.error p) := by
  have k1 := app (at_kw tk en o hk (.error p) (inS_error tk p) [105, 102] rfl)
  have k2 := app (at_kw tk en o hk (.error p) (inS_error tk p) [119, 104, 105, 108, 101] rfl)
  have k3 := app (at_kw tk en o hk (.error p) (inS_error tk p) [111, 117, 116] rfl)
  have k4 := app (at_kw tk en o hk (.error p) (inS_error tk p) [116, 114, 97, 112] rfl)
  obtain ⟨⟨k, nm, to, nn, ⟨ak, an, az, ao, aks⟩, ⟨vk, vn, vs, vo, vks⟩, args, thn, els⟩, hv, hval⟩ := assign106 tk en o hk 1 (by omega) (by omega) (exprRAll tk en o hk 1).1 (.error p) (inS_error tk p) (by intro q hq; cases hq)
  have hv' := app hv
  have e1 := app (exp_sym tk en o hk (.error p) (inS_error tk p) [59] rfl)
  simp [expS_error] at k1 k2 k3 k4 hv' e1
  refine ⟨.mk k nm to nn (.mk ak an az ao aks) (.mk vk vn vs vo vks) args thn els, fun H ho => ?_, by simp⟩
  rw [go (fn := F67) rfl rfl rfl]
  simp [F67, ho, k1, k2, k3, k4, hv', e1] <;> rfl
theorem stmtRAll : ∀ n, n ≤ 900000 → ∀ st, inS tk st → fuelS tk st 20 n → ConR tk en o 67 [] encS (stmtP tk n) st
  | n, hn, .error p, hin, hf => stmtR_bad tk en o hk _ p
  | 0, hn, .ok p, hin, hf => by
    have := hf p rfl
    omega
  | n + 1, hn, .ok p, hin, hf => by
    have := hf p rfl
    have hS := stmtRAll n (by omega)
    exact stmt67 tk en o hk n (by omega) (by omega) (exprRAll tk en o hk n).1 (fun st hin hf => block105 tk en o hk n (by omega) hS st hin hf) (.ok p) hin hf
end
end Go.Proofs.Ytkomfefpfalajaa

namespace Go.Proofs.Ytkomfefpfalajaa
open Go Go.Proofs Ab
set_option maxRecDepth 100000
set_option linter.unusedSimpArgs false
set_option linter.unusedVariables false
abbrev cG (nm : List UInt8) (c1 : Cap) (ps : List (List UInt8)) (c2 : Cap) (ls : List (List UInt8)) (c3 : Cap) (b : List Stm) : Ob := .cells [.str nm, .sl c1 (encStr ps), .sl c2 (encStr ls), .sl c3 (encSs b), .int .i64 0, .int .i64 0, .str [], .int .i64 0, .sl .full []]
theorem encStr1 (x : List UInt8) : encStr [x] = [.str x] := rfl
theorem encStr_nil : encStr [] = [] := rfl
section
variable (tk : List Tok) (en : Int) (o : Nat) (hk : TokOk2 tk)
abbrev slots3 (o : Nat) (H : Heap) : Slots := [(0, .ptr o 0), (2, .ptr H.length 0), (3, .ptr (H.length + 1) 0)]
theorem loop34a_bad (nm : List UInt8) (ps : List (List UInt8)) (c : Cap) (p : Nat) (J : Heap) (s : Slots) (H : Heap) (ho : o < H.length) (s0 : get s 0 = .ptr o 0) (s2 : get s 2 = .ptr H.length 0) (s3 : get s 3 = .ptr (H.length + 1) 0) :
    blkK (some [0, 2, 3]) 0 (runF E1 H.length false c34_15 s (H.set o (rdR tk en (.error p)) ++ zF :: cG nm c ps .full [] .full [] :: J)) = some (.nrm, slots3 o H, H.set o (rdR tk en (.error p)) ++ zF :: cG nm c ps .full [] .full [] :: J) := by
  have h1 := app (ok29 tk en o (.error p))
  simp at h1
  rw [q34_15]
  simp [s0, s2, s3, ho, h1]
include hk
theorem step34a (st' : St) (p : Nat) (hin : inS tk (.ok p)) (hs : symB tk p [41] = false) (acc : List (List UInt8)) (hst : st' = if acc = [] then .ok p else expS tk (.ok p) [44]) (v : List UInt8)
    (hv : ∀ H : Heap, o < H.length → callF E1 31 [.ptr o 0] (H.set o (rdR tk en st')) = some (.str v, H.set o (rdR tk en (stR (runS (nameP tk) st')))))
    (nm : List UInt8) (c : Cap) (J : Heap) (s : Slots) (H : Heap) (ho : o < H.length) (hb : acc.length ≤ 1000000) (s0 : get s 0 = .ptr o 0) (s2 : get s 2 = .ptr H.length 0) (s3 : get s 3 = .ptr (H.length + 1) 0) (hown : Own (H.length + 2) J 1 c acc.length) :
    ∃ c' J', blkK (some [0, 2, 3]) 0 (runF E1 H.length false c34_15 s (H.set o (rdR tk en (.ok p)) ++ zF :: cG nm c acc .full [] .full [] :: J)) =
      blkK (some [0, 2, 3]) 0 (runF E1 H.length false c34_15 (slots3 o H) (H.set o (rdR tk en (stR (runS (nameP tk) st'))) ++ zF :: cG nm c' (acc ++ [v]) .full [] .full [] :: J')) ∧ Own (H.length + 2) J' 1 c' (acc ++ [v]).length := by
  have h0 := app (ok29 tk en o (.ok p))
  have h1 := app (at_sym tk en o hk (.ok p) hin [41] rfl)
  have h2 := app (exp_sym tk en o hk (.ok p) hin [44] rfl)
  simp [hs] at h0 h1
  have hv' := app hv
  obtain ⟨c', J', happ, hown'⟩ := appC_ownS (n0 := H.length) (g := false) (sz := 1) (o := o) (S := rdR tk en (stR (runS (nameP tk) st'))) (H := H) (X := [zF, cG nm c acc .full [] .full []]) (J := J) (xs := encStr acc) (ys := [.str v]) (c := c) (Nat.le_refl _) (by simpa using hown)
  simp at happ hown'
  rw [show H.length + (2 + J.length) = H.length + (J.length + 1 + 1) by omega] at happ
  refine ⟨c', J', ?_, by simpa using hown'⟩
  have hbb : 2 * ((acc.length + 1) * 16) + 2048 * 16 ≤ 281474976710656 := by omega
  by_cases ha : acc = []
  · subst ha
    rw [if_pos rfl] at hst
    subst hst
    simp [cG, encStr_nil] at hv' happ
    rw [q34_15]
    simp [s0, s2, s3, ho, h0, h1, hv', happ, cG, encStr_append, encStr1, encStr_nil]
  · rw [if_neg ha] at hst
    subst hst
    have hl : acc.length ≠ 0 := by simpa using ha
    have hl' : (0 : Int) < acc.length := by omega
    have hl'' : 0 < acc.length := by omega
    simp only [cG, encSs_nil, encStr_nil] at happ
    rw [q34_15]
    simp [s0, s2, s3, ho, h0, h1, h2, hv', happ, hbb, hl', hl'', cG, encStr_append, encStr1, encStr_nil]
theorem loop34a : ∀ (m : Nat) (st : St), RoomS tk st m → inS tk st →
    ∃ l l' sR, inS tk sR ∧ expS tk sR [41] = expS tk (stR (runS (tailP tk (nameP tk) m) st)) [41] ∧ valOk (runS (tailP tk (nameP tk) m) st) l ∧ ((∃ q, expS tk sR [41] = .ok q) → l' = l) ∧
      ∀ (nm : List UInt8) (acc : List (List UInt8)) (c : Cap) (J : Heap) (s : Slots) (H : Heap), o < H.length → acc ≠ [] → acc.length + m ≤ 1000000 → get s 0 = .ptr o 0 → get s 2 = .ptr H.length 0 → get s 3 = .ptr (H.length + 1) 0 → Own (H.length + 2) J 1 c acc.length →
        ∃ c' J', blkK (some [0, 2, 3]) 0 (runF E1 H.length false c34_15 s (H.set o (rdR tk en st) ++ zF :: cG nm c acc .full [] .full [] :: J)) = some (.nrm, slots3 o H, H.set o (rdR tk en sR) ++ zF :: cG nm c' (acc ++ l') .full [] .full [] :: J')
  | m, .error p, hm, hin => by
    refine ⟨[], [], .error p, hin, by simp, by simp, fun _ => rfl, ?_⟩
    intro nm acc c J s H ho ha hb s0 s2 s3 hown
    exact ⟨c, J, by simpa using loop34a_bad tk en o nm acc c p J s H ho s0 s2 s3⟩
  | m, .ok p, hm, hin => by
    cases hs : symB tk p [41] with
    | true =>
      have hc := sym_ne tk hs (b := [44]) (by decide)
      have hr : tailP tk (nameP tk) m p = .ok ([], p) := by unfold tailP; rw [hc]; simp
      refine ⟨[], [], .ok p, hin, by simp [hr], by simp [hr], fun _ => rfl, ?_⟩
      intro nm acc c J s H ho ha hb s0 s2 s3 hown
      have h0 := app (ok29 tk en o (.ok p))
      have h1 := app (at_sym tk en o hk (.ok p) hin [41] rfl)
      simp [hs] at h0 h1
      refine ⟨c, J, ?_⟩
      rw [q34_15]
      simp [s0, s2, s3, ho, h0, h1]
    | false =>
      cases hc : symB tk p [44] with
      | true =>
        have hlt := sym_lt tk hc
        have hm' := hm p rfl
        match m, hm' with
        | m + 1, hm' =>
          have hin1 : inS tk (.ok (p + 1)) := fun q hq => by cases hq; omega
          obtain ⟨v, hv, hval⟩ := name31 tk en o hk (.ok (p + 1)) hin1
          obtain ⟨l, l', sR, hinR, hexp, hl, hll, ih⟩ := loop34a m (stR (runS (nameP tk) (.ok (p + 1)))) (room_run tk hm' hlt (name_mo tk)) (inS_run tk (name_up tk) _)
          have hr := tail_run tk (nameP tk) hc hval hl
          refine ⟨v :: l, v :: l', sR, hinR, ?_, ?_, fun hq => by rw [hll hq], ?_⟩
          · simp only [runS_ok]
            rw [hr, stR_pure]
            exact hexp
          · simp only [runS_ok]
            rw [hr]
            exact valOk_pure
          · intro nm acc c J s H ho ha hb s0 s2 s3 hown
            have he : expS tk (.ok p) [44] = .ok (p + 1) := by unfold expS; simp [hc]
            obtain ⟨c1, J1, hst, hown1⟩ := step34a tk en o hk (.ok (p + 1)) p hin hs acc (by rw [if_neg ha, he]) v hv nm c J s H ho (by omega) s0 s2 s3 hown
            obtain ⟨c2, J2, h2⟩ := ih nm (acc ++ [v]) c1 J1 (slots3 o H) H ho (by simp) (by simp; omega) rfl rfl rfl hown1
            refine ⟨c2, J2, ?_⟩
            rw [hst, h2]
            simp
      | false =>
        have hr : tailP tk (nameP tk) m p = .ok ([], p) := by unfold tailP; rw [hc]; simp
        have he : expS tk (.ok p) [44] = .error p := by unfold expS; simp [hc]
        have he2 : expS tk (.ok p) [41] = .error p := by unfold expS; simp [hs]
        obtain ⟨v, hv, -⟩ := name31 tk en o hk (.error p) (inS_error tk p)
        refine ⟨[], [v], .error p, inS_error tk p, by simp [hr, he2, expS_error], by simp [hr], fun ⟨q, hq⟩ => by simp [expS_error] at hq, ?_⟩
        intro nm acc c J s H ho ha hb s0 s2 s3 hown
        obtain ⟨c1, J1, hst, hown1⟩ := step34a tk en o hk (.error p) p hin hs acc (by rw [if_neg ha, he]) v hv nm c J s H ho (by omega) s0 s2 s3 hown
        have hb2 := loop34a_bad tk en o nm (acc ++ [v]) c1 p J1 (slots3 o H) H ho rfl rfl rfl
        exact ⟨c1, J1, by rw [hst]; simpa using hb2⟩
end
end Go.Proofs.Ytkomfefpfalajaa
