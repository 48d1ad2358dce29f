/- The parser's statements, all of them, and functions. -/
import Derived.Test.YtkomfefpfalajaaP4
import Derived.Test.YtkomfefpfalajaaAb8
namespace Go.Proofs.Ytkomfefpfalajaa
open Go Go.Proofs Ab
set_option maxRecDepth 100000
set_option linter.unusedSimpArgs false
set_option linter.unusedVariables false
section
variable (tk : List Tok) (en : Int) (o : Nat) (hL : tk.length < 4611686018427387904) (hT : ∀ p, (tokAt tk p).text.length ≤ 20000)
include hL
theorem stmt59 (n : Nat) (hE : ∀ st, fuelS tk st 12 n → Con tk en o 60 [] encE (exprP tk n) st) (hB : ∀ st, fuelS tk st 20 n → Con tk en o 100 [] (fun l => .sl .none (encSs l)) (blockP tk (stmtP tk n) n) st)
    (hM : ∀ st, fuelS tk st 13 n → Con tk en o 101 [] encS (simpleP tk n) st) (st : St) (hf : fuelS tk st 20 (n + 1)) : Con tk en o 59 [] encS (stmtP tk (n + 1)) st := by
  have k1 := keyword22 tk en o hL st [105, 102]
  have k1' := app k1
  have k2 := keyword22 tk en o hL st [119, 104, 105, 108, 101]
  have k2' := app k2
  have hun : stmtP tk (n + 1) = fun p => if kwB tk p [105, 102] then bindR (condP tk n (p + 1)) fun x p1 => bindR (blockP tk (stmtP tk n) n p1) fun t p2 =>
      if kwB tk p2 [101, 108, 115, 101] then bindR (blockP tk (stmtP tk n) n (p2 + 1)) fun e p3 => .ok (ifS x t e, p3) else .ok (ifS x t [], p2)
    else if kwB tk p [119, 104, 105, 108, 101] then bindR (condP tk n (p + 1)) fun x p1 => bindR (blockP tk (stmtP tk n) n p1) fun t p2 => .ok (whileS x t, p2)
    else bindR (simpleP tk n p) fun s p1 => bindR (expR tk p1 [59]) fun _ p2 => .ok (s, p2) := funext fun p => by rw [stmtP]
  cases hs1 : stB st (kwB tk · [105, 102]) with
  | true =>
    simp [hs1] at k1 k1'
    have hf1 : fuelS tk (adv st) 59 n := fuel_mono tk (fuel_adv tk hf hs1 (fun p hp => kw_lt tk hp)) (by omega)
    obtain ⟨⟨k, j, w, op, ks⟩, hv, hval⟩ := cond99 tk en o hL n (adv st) (hE _ (fuel_mono tk (fuel_exp tk hf1) (by omega)))
    have hf2 := fuel_run tk hf1 (cond_mo tk n)
    have hr1 := fun (f : Ex → Nat → Rs Stm) => runS_bind_adv (f := f) hval
    have hv' := app hv
    generalize stR (runS (condP tk n) (adv st)) = st1 at *
    obtain ⟨t, hv2, hval2⟩ := hB st1 (fuel_mono tk hf2 (by omega))
    have hf3 := fuel_run tk hf2 (block_mo tk (stmt_mo tk n) n)
    have hr2 := fun (f : List Stm → Nat → Rs Stm) => runS_bind (f := f) hval2
    have hv2' := app hv2
    generalize stR (runS (blockP tk (stmtP tk n) n) st1) = st2 at *
    have k3 := app (keyword22 tk en o hL st2 [101, 108, 115, 101])
    cases hs3 : stB st2 (kwB tk · [101, 108, 115, 101]) with
    | true =>
      simp [hs3] at k3
      have hf4 : fuelS tk (adv st2) 20 n := fuel_mono tk (fuel_adv tk hf3 hs3 (fun p hp => kw_lt tk hp)) (by omega)
      obtain ⟨e, hv3, hval3⟩ := hB _ hf4
      have hv3' := app hv3
      have hr : runS (stmtP tk (n + 1)) st = runS (fun p => .ok (ifS (.mk k j w op ks) t e, p)) (stR (runS (blockP tk (stmtP tk n) n) (adv st2))) := by
        rw [hun, runS_ite, hs1]
        simp only [if_true]
        rw [hr1, hr2, runS_ite, hs3]
        simp only [if_true]
        exact runS_bind_adv hval3
      refine ⟨ifS (.mk k j w op ks) t e, fun H ho => ?_, by rw [hr]; simp⟩
      rw [go (fn := F59) rfl rfl rfl, hr, stR_pure]
      simp [F59, ho, k1, k1', hv', hv2', k3, hv3', ifS, zeroE] <;> rfl
    | false =>
      simp [hs3] at k3
      have hr : runS (stmtP tk (n + 1)) st = runS (fun p => .ok (ifS (.mk k j w op ks) t [], p)) st2 := by
        rw [hun, runS_ite, hs1]
        simp only [if_true]
        rw [hr1, hr2, runS_ite, hs3]
        simp
      refine ⟨ifS (.mk k j w op ks) t [], fun H ho => ?_, by rw [hr]; simp⟩
      rw [go (fn := F59) rfl rfl rfl, hr, stR_pure]
      simp [F59, ho, k1, k1', hv', hv2', k3, ifS, zeroE] <;> rfl
  | false =>
  cases hs2 : stB st (kwB tk · [119, 104, 105, 108, 101]) with
  | true =>
    simp [hs1] at k1 k1'
    simp [hs2] at k2 k2'
    have hf1 : fuelS tk (adv st) 59 n := fuel_mono tk (fuel_adv tk hf hs2 (fun p hp => kw_lt tk hp)) (by omega)
    obtain ⟨⟨k, j, w, op, ks⟩, hv, hval⟩ := cond99 tk en o hL n (adv st) (hE _ (fuel_mono tk (fuel_exp tk hf1) (by omega)))
    have hf2 := fuel_run tk hf1 (cond_mo tk n)
    have hr1 := fun (f : Ex → Nat → Rs Stm) => runS_bind_adv (f := f) hval
    have hv' := app hv
    generalize stR (runS (condP tk n) (adv st)) = st1 at *
    obtain ⟨t, hv2, hval2⟩ := hB st1 (fuel_mono tk hf2 (by omega))
    have hr2 := fun (f : List Stm → Nat → Rs Stm) => runS_bind (f := f) hval2
    have hv2' := app hv2
    have hr : runS (stmtP tk (n + 1)) st = runS (fun p => .ok (whileS (.mk k j w op ks) t, p)) (stR (runS (blockP tk (stmtP tk n) n) st1)) := by
      rw [hun, runS_ite, hs1]
      simp only [Bool.false_eq_true, if_false]
      rw [runS_ite, hs2]
      simp only [if_true]
      rw [hr1, hr2]
    refine ⟨whileS (.mk k j w op ks) t, fun H ho => ?_, by rw [hr]; simp⟩
    rw [go (fn := F59) rfl rfl rfl, hr, stR_pure]
    simp [F59, ho, k1, k1', k2, k2', hv', hv2', whileS, zeroE] <;> rfl
  | false =>
    simp [hs1] at k1 k1'
    simp [hs2] at k2 k2'
    obtain ⟨⟨k, nm, to, nn, ⟨ak, an, az, ao, aks⟩, ⟨vk, vn, vs, vo, vks⟩, args, thn, els⟩, hv, hval⟩ := hM st (fuel_mono tk hf (by omega))
    have hv' := app hv
    have e1 := app (expect25 tk en o hL (stR (runS (simpleP tk n) st)) [59])
    simp [expS_eq] at e1
    have hr : runS (stmtP tk (n + 1)) st = runS (fun p => .ok (.mk k nm to nn (.mk ak an az ao aks) (.mk vk vn vs vo vks) args thn els, p)) (expS tk (stR (runS (simpleP tk n) st)) [59]) := by
      rw [hun, runS_ite, hs1]
      simp only [Bool.false_eq_true, if_false]
      rw [runS_ite, hs2]
      simp only [Bool.false_eq_true, if_false]
      rw [runS_bind hval, runS_exp]
    refine ⟨_, fun H ho => ?_, by rw [hr]; exact valOk_pure⟩
    rw [go (fn := F59) rfl rfl rfl, hr, stR_pure]
    simp [F59, ho, k1, k1', k2, k2', hv', e1] <;> rfl
include hT
theorem stmt_bad (P : Nat → Rs Stm) (p : Nat) : Con tk en o 59 [] encS P (.error p) := by
  have k1 := app (keyword22 tk en o hL (.error p) [105, 102])
  have k2 := app (keyword22 tk en o hL (.error p) [119, 104, 105, 108, 101])
  obtain ⟨⟨k, nm, to, nn, ⟨ak, an, az, ao, aks⟩, ⟨vk, vn, vs, vo, vks⟩, args, thn, els⟩, hv, hval⟩ := simple101 tk en o hL hT 1 (by omega) (by omega) (exprAll tk en o hL hT 1).1 (.error p) (by intro q hq; cases hq)
  have hv' := app hv
  have e1 := app (expect25 tk en o hL (.error p) [59])
  simp at k1 k2 hv' e1
  refine ⟨.mk k nm to nn (.mk ak an az ao aks) (.mk vk vn vs vo vks) args thn els, fun H ho => ?_, by simp⟩
  rw [go (fn := F59) rfl rfl rfl]
  simp [F59, ho, k1, k2, hv', e1] <;> rfl
theorem stmtAll : ∀ n, n ≤ 900000 → ∀ st, fuelS tk st 20 n → Con tk en o 59 [] encS (stmtP tk n) st
  | n, hn, .error p, hf => stmt_bad tk en o hL hT _ p
  | 0, hn, .ok p, hf => by
    have := hf p rfl
    omega
  | n + 1, hn, .ok p, hf => by
    have := hf p rfl
    have hS := stmtAll n (by omega)
    exact stmt59 tk en o hL n (exprAll tk en o hL hT n).1 (fun st hf => block100 tk en o hL n (by omega) hS st hf) (fun st hf => simple101 tk en o hL hT n (by omega) (by omega) (exprAll tk en o hL hT n).1 st hf) (.ok p) hf
end
end Go.Proofs.Ytkomfefpfalajaa

namespace Go.Proofs.Ytkomfefpfalajaa
open Go Go.Proofs Ab
set_option maxRecDepth 100000
set_option linter.unusedSimpArgs false
set_option linter.unusedVariables false
section
variable (tk : List Tok) (en : Int) (o : Nat) (hL : tk.length < 4611686018427387904) (hT : ∀ p, (tokAt tk p).text.length ≤ 20000)
abbrev zF : Ob := .cells [.str [], .sl .full [], .sl .full [], .sl .full [], .int .i64 0, .int .i64 0, .str [], .int .i64 0, .sl .full []]
abbrev cF (nm : List UInt8) (x y : AV) (c : Cap) (b : List Stm) : Ob := .cells [.str nm, x, y, .sl c (encSs b), .int .i64 0, .int .i64 0, .str [], .int .i64 0, .sl .full []]
abbrev kwR : List UInt8 := [114, 101, 116, 117, 114, 110]
include hL
theorem loop26 (n : Nat) (hS : ∀ st, fuelS tk st 20 n → Con tk en o 59 [] encS (stmtP tk n) st) : ∀ (m : Nat) (st : St), RoomS tk st m → fuelS tk st 20 n → ∃ l, valOk (runS (whileP (stmtP tk n) (kwB tk · kwR) m) st) l ∧ ∀ (acc : List Stm) (nm : List UInt8) (x y : AV) (c : Cap) (J : Heap) (s : Slots) (H : Heap), o < H.length → acc.length + m ≤ 1000000 → get s 0 = .ptr o 0 → get s 2 = .ptr H.length 0 → get s 3 = .ptr (H.length + 1) 0 → Own (H.length + 2) J 17 c acc.length →
    ∃ c' J', blkK (some [0, 2, 3]) 0 (runF E1 H.length false c26_19 s (H.set o (rdS tk en st) ++ zF :: cF nm x y c acc :: J)) = some (.nrm, [(0, .ptr o 0), (2, .ptr H.length 0), (3, .ptr (H.length + 1) 0)], H.set o (rdS tk en (adv (stR (runS (whileP (stmtP tk n) (kwB tk · kwR) m) st)))) ++ zF :: cF nm x y c' (acc ++ l) :: J')
  | m, .error p, hm, hf => by
    refine ⟨[], by simp, ?_⟩
    intro acc nm x y c J s H ho hb s0 s2 s3 hown
    refine ⟨c, J, ?_⟩
    rw [q26_19]
    simp [s0, s2, s3, ho]
  | 0, .ok p, hm, hf => by
    have := hm p rfl
    omega
  | m + 1, .ok p, hm, hf => by
    have h1 := app (keyword22 tk en o hL (.ok p) kwR)
    simp at h1
    have hm' := hm p rfl
    cases hs : kwB tk p kwR with
    | true =>
      have hr : runS (whileP (stmtP tk n) (kwB tk · kwR) (m + 1)) (.ok p) = .ok ([], p) := by
        simp only [runS_ok]
        rw [whileP, if_pos hs]
      refine ⟨[], by rw [hr]; simp, ?_⟩
      intro acc nm x y c J s H ho hb s0 s2 s3 hown
      refine ⟨c, J, ?_⟩
      rw [hr, q26_19]
      simp [s0, s2, s3, ho, h1, hs]
    | false =>
      obtain ⟨⟨k, nm1, to, nn, ⟨ak, an, az, ao, aks⟩, ⟨vk, vn, vs, vo, vks⟩, args, thn, els⟩, hv, hval⟩ := hS _ hf
      obtain ⟨l, hl, ih⟩ := loop26 n hS m (stR (stmtP tk n p)) (room_stmt tk hm') (fuel_run tk hf (stmt_mo tk n))
      have hr := while_run (stop := (kwB tk · kwR)) hs hval hl
      refine ⟨_ :: l, by simp only [runS_ok]; rw [hr]; exact valOk_pure, ?_⟩
      intro acc nm x y c J s H ho hb s0 s2 s3 hown
      have hv' := app hv
      obtain ⟨c', J', happ, hown'⟩ := appC_ownS (n0 := H.length) (g := false) (sz := 17) (o := o) (S := rdS tk en (stR (stmtP tk n p))) (H := H) (X := [zF, cF nm x y c acc]) (J := J) (xs := encSs acc) (ys := [encS (.mk k nm1 to nn (.mk ak an az ao aks) (.mk vk vn vs vo vks) args thn els)]) (c := c) (Nat.le_refl _) (by simpa using hown)
      simp at happ hown'
      rw [show H.length + (2 + J.length) = H.length + (J.length + 1 + 1) by omega] at happ
      obtain ⟨c2, J2, ih⟩ := ih (acc ++ [.mk k nm1 to nn (.mk ak an az ao aks) (.mk vk vn vs vo vks) args thn els]) nm x y c' J' [(0, .ptr o 0), (2, .ptr H.length 0), (3, .ptr (H.length + 1) 0)] H ho (by simp; omega) rfl rfl rfl (by simpa using hown')
      refine ⟨c2, J2, ?_⟩
      simp only [runS_ok]
      rw [hr, stR_pure, q26_19]
      have hbb : 2 * ((acc.length + 1) * 248) + 2048 * 248 ≤ 281474976710656 := by omega
      simp [s0, s2, s3, ho, h1, hs, hv', happ, hbb]
      simpa [encSs_append, cF] using ih
theorem rest26 (n : Nat) (hn : n ≤ 900000) (hE : ∀ st, fuelS tk st 12 n → Con tk en o 60 [] encE (exprP tk n) st) (hS : ∀ st, fuelS tk st 20 n → Con tk en o 59 [] encS (stmtP tk n) st) (st : St) (hf1 : fuelS tk st 20 n) :
    ∃ b v s10, (∀ g : List Stm → Ex → Ab.Fn, runS (fun p6 => bindR (whileP (stmtP tk n) (kwB tk · kwR) n p6) fun b p7 => bindR (exprP tk n (p7 + 1)) fun v p8 => bindR (expR tk p8 [59]) fun _ p9 => bindR (expR tk p9 [125]) fun _ p10 => .ok (g b v, p10)) st = runS (fun p => .ok (g b v, p)) s10)
      ∧ ∀ (nm : List UInt8) (cx cy : Cap) (ps ls : List (List UInt8)) (H : Heap), o < H.length → finK F26 H.length (runF E1 H.length false c26_29 [(0, .ptr o 0), (2, .ptr H.length 0), (3, .ptr (H.length + 1) 0)] (H.set o (rdS tk en st) ++ [zF, cF nm (.sl cx (encStr ps)) (.sl cy (encStr ls)) .full []]))
        = some (encF ⟨nm, ps, ls, b, v⟩, H.set o (rdS tk en s10)) := by
  obtain ⟨b, hb, hlp⟩ := loop26 tk en o hL n hS n st (room_fuel tk hL hf1 (by omega)) hf1
  have hf2 := fuel_run tk hf1 (while_mo (stop := (kwB tk · kwR)) (stmt_mo tk n) n)
  have hr1 := fun (f : List Stm → Nat → Rs Ab.Fn) => runS_bind (f := f) hb
  generalize stR (runS (whileP (stmtP tk n) (kwB tk · kwR) n) st) = s7 at *
  have hf3 : fuelS tk (adv s7) 12 n := by
    intro q hq
    cases s7 with
    | error p => cases hq
    | ok p => cases hq; have := hf2 p rfl; omega
  obtain ⟨⟨vk, vn, vs, vo, vks⟩, hv, hval⟩ := hE _ hf3
  have hv' := app hv
  have h3 := app (expect25 tk en o hL (stR (runS (exprP tk n) (adv s7))) [59])
  have h4 := app (expect25 tk en o hL (expS tk (stR (runS (exprP tk n) (adv s7))) [59]) [125])
  simp [expS_eq] at h3 h4
  refine ⟨b, .mk vk vn vs vo vks, expS tk (expS tk (stR (runS (exprP tk n) (adv s7))) [59]) [125], ?_, ?_⟩
  · intro g
    rw [hr1, runS_bind_adv hval, runS_exp, runS_exp]
  · intro nm cx cy ps ls H ho
    obtain ⟨c', J', hb⟩ := hlp [] nm (.sl cx (encStr ps)) (.sl cy (encStr ls)) .full [] [(0, .ptr o 0), (2, .ptr H.length 0), (3, .ptr (H.length + 1) 0)] H ho (by simp; omega) rfl rfl rfl own_full
    simp at hb
    simp [F26, ho, hb, hv', h3, h4, encF, leavesE] <;> rfl
/-- what stands between two marks, if it does -/
theorem list_run {m : Nat} {s : St} {v : List (List UInt8)} (hval : valOk (runS (sepP tk (nameP tk) m) s) v) : runS (sepP tk (nameP tk) m) s = runS (fun p => .ok (v, p)) (stR (runS (sepP tk (nameP tk) m) s)) := by
  have _ := hL
  have := runS_bind (f := fun (v : List (List UInt8)) p => (.ok (v, p) : Rs (List (List UInt8)))) hval
  rw [← this]
  congr 1
  funext p
  rcases sepP tk (nameP tk) m p with q | ⟨v, q⟩ <;> rfl
theorem function26 (n : Nat) (hn : n ≤ 900000) (hn2 : tk.length + 2 ≤ n) (hE : ∀ st, fuelS tk st 12 n → Con tk en o 60 [] encE (exprP tk n) st) (hS : ∀ st, fuelS tk st 20 n → Con tk en o 59 [] encS (stmtP tk n) st) (st : St) (hf : fuelS tk st 20 n) :
    Con tk en o 26 [] encF (funcP tk n) st := by
  obtain ⟨nm, hv1, hval1⟩ := name_con tk en o hL st
  have hv1' := app hv1
  have hr1 := fun (f : List UInt8 → Nat → Rs Ab.Fn) => runS_bind (f := f) hval1
  have hf1 : fuelS tk (stR (runS (nameP tk) st)) 20 n := fuel_run tk hf (name_mo tk)
  generalize stR (runS (nameP tk) st) = s1 at *
  have h2 := app (expect25 tk en o hL s1 [40])
  simp [expS_eq] at h2
  have hf2 : fuelS tk (expS tk s1 [40]) 20 n := fuel_mono tk (fuel_exp tk hf1) (by omega)
  have hr2 := fun (f : Unit → Nat → Rs Ab.Fn) => runS_exp (tk := tk) (s := [40]) (f := f) (st := s1)
  generalize expS tk s1 [40] = s2 at *
  obtain ⟨m, rfl⟩ : ∃ m, n = m + 2 := ⟨n - 2, by omega⟩
  -- the parameters
  have hps : ∃ ps s3 cx, fuelS tk s3 20 (m + 2) ∧ runS (fun p2 => if symB tk p2 [41] = true then (.ok ([], p2) : Rs (List (List UInt8))) else sepP tk (nameP tk) (m + 2) p2) s2 = runS (fun p => .ok (ps, p)) s3 ∧
      ∀ (H : Heap), o < H.length → runF E1 H.length false c26_33 [(0, .ptr o 0), (2, .ptr H.length 0), (3, .ptr (H.length + 1) 0)] (H.set o (rdS tk en s2) ++ [zF, cF nm (.sl .full []) (.sl .full []) .full []])
        = runF E1 H.length false c26_31 [(0, .ptr o 0), (2, .ptr H.length 0), (3, .ptr (H.length + 1) 0)] (H.set o (rdS tk en (expS tk s3 [41])) ++ [zF, cF nm (.sl cx (encStr ps)) (.sl .full []) .full []]) := by
    have h3 := app (is57 tk en o s2 [41])
    have h4 := fun st => app (expect25 tk en o hL st [41])
    simp [expS_eq] at h4
    cases hs : stB s2 (symB tk · [41]) with
    | true =>
      simp [hs] at h3
      refine ⟨[], s2, .full, hf2, by rw [runS_ite, hs]; simp, ?_⟩
      intro H ho
      simp [ho, h3, h4, encStr, -q26_31]
    | false =>
      simp [hs] at h3
      obtain ⟨ps, hv, hval⟩ := names58 tk en o hL m (by omega) (by omega) s2
      have hv' := app hv
      refine ⟨ps, stR (runS (sepP tk (nameP tk) (m + 2)) s2), .none, fuel_run tk hf2 (sep_mo tk (name_mo tk) _), ?_, ?_⟩
      · rw [runS_ite, hs]
        simp only [Bool.false_eq_true, if_false]
        exact list_run tk hL hval
      · intro H ho
        simp [ho, h3, h4, hv', cF, -q26_31]
  obtain ⟨ps, s3, cx, hf3, hr3, hrun3⟩ := hps
  have hf4 : fuelS tk (expS tk s3 [41]) 20 (m + 2) := fuel_mono tk (fuel_exp tk hf3) (by omega)
  have hr4 := fun (f : Unit → Nat → Rs Ab.Fn) => runS_exp (tk := tk) (s := [41]) (f := f) (st := s3)
  generalize expS tk s3 [41] = s4 at *
  -- the locals
  have hls : ∃ ls s5 cy, fuelS tk s5 20 (m + 2) ∧ runS (fun p4 => if kwB tk p4 [118, 97, 114] = true then sepP tk (nameP tk) (m + 2) (p4 + 1) else (.ok ([], p4) : Rs (List (List UInt8)))) s4 = runS (fun p => .ok (ls, p)) s5 ∧
      ∀ (H : Heap), o < H.length → runF E1 H.length false c26_31 [(0, .ptr o 0), (2, .ptr H.length 0), (3, .ptr (H.length + 1) 0)] (H.set o (rdS tk en s4) ++ [zF, cF nm (.sl cx (encStr ps)) (.sl .full []) .full []])
        = runF E1 H.length false c26_29 [(0, .ptr o 0), (2, .ptr H.length 0), (3, .ptr (H.length + 1) 0)] (H.set o (rdS tk en (expS tk s5 [123])) ++ [zF, cF nm (.sl cx (encStr ps)) (.sl cy (encStr ls)) .full []]) := by
    have h3 := app (keyword22 tk en o hL s4 [118, 97, 114])
    have h4 := fun st => app (expect25 tk en o hL st [123])
    simp [expS_eq] at h4
    cases hs : stB s4 (kwB tk · [118, 97, 114]) with
    | false =>
      simp [hs] at h3
      refine ⟨[], s4, .full, hf4, by rw [runS_ite, hs]; simp, ?_⟩
      intro H ho
      simp [ho, h3, h4, encStr, -q26_29]
    | true =>
      simp [hs] at h3
      obtain ⟨ls, hv, hval⟩ := names58 tk en o hL m (by omega) (by omega) (adv s4)
      have hv' := app hv
      have hf5 : fuelS tk (adv s4) 20 (m + 2) := fuel_mono tk (fuel_adv tk hf4 hs (fun p hp => kw_lt tk hp)) (by omega)
      refine ⟨ls, stR (runS (sepP tk (nameP tk) (m + 2)) (adv s4)), .none, fuel_run tk hf5 (sep_mo tk (name_mo tk) _), ?_, ?_⟩
      · rw [runS_ite, hs]
        simp only [if_true]
        rw [← list_run tk hL hval]
        exact runS_adv (F := sepP tk (nameP tk) (m + 2))
      · intro H ho
        simp [ho, h3, h4, hv', cF, -q26_29]
  obtain ⟨ls, s5, cy, hf5, hr5, hrun5⟩ := hls
  have hf6 : fuelS tk (expS tk s5 [123]) 20 (m + 2) := fuel_mono tk (fuel_exp tk hf5) (by omega)
  have hr6 := fun (f : Unit → Nat → Rs Ab.Fn) => runS_exp (tk := tk) (s := [123]) (f := f) (st := s5)
  generalize expS tk s5 [123] = s6 at *
  obtain ⟨b, v, s10, hr7, hrun7⟩ := rest26 tk en o hL (m + 2) hn hE hS s6 hf6
  have hr : runS (funcP tk (m + 2)) st = runS (fun p => .ok (⟨nm, ps, ls, b, v⟩, p)) s10 := by
    unfold funcP
    refine (hr1 _).trans ?_
    refine (hr2 _).trans ?_
    refine (runS_bind (v := ps) (by rw [hr3]; simp)).trans ?_
    rw [hr3, stR_pure]
    refine (hr4 _).trans ?_
    refine (runS_bind (v := ls) (by rw [hr5]; simp)).trans ?_
    rw [hr5, stR_pure]
    refine (hr6 _).trans ?_
    exact hr7 fun b v => ⟨nm, ps, ls, b, v⟩
  refine ⟨⟨nm, ps, ls, b, v⟩, fun H ho => ?_, by rw [hr]; simp⟩
  rw [go (fn := F26) rfl rfl rfl, hr, stR_pure, ← hrun7 nm cx cy ps ls H ho, ← hrun5 H ho, ← hrun3 H ho]
  simp [F26, ho, hv1', h2, zF, cF, -q26_33]
end
end Go.Proofs.Ytkomfefpfalajaa

namespace Go.Proofs.Ytkomfefpfalajaa
open Go Go.Proofs Ab
set_option maxRecDepth 100000
set_option linter.unusedSimpArgs false
set_option linter.unusedVariables false
theorem isLetter123 (c : UInt8) (H : Heap) : callF E1 123 [.int .u8 c.toNat] H = some (.bool (letB c), H) := by
  rw [go (fn := F123) rfl rfl rfl]
  unfold letB
  by_cases h1 : 97 ≤ c.toNat
  · have h1' : (97 : Int) ≤ c.toNat := by omega
    by_cases h2 : c.toNat ≤ 122
    · have h2' : (c.toNat : Int) ≤ 122 := by omega
      simp [F123, h1, h1', h2, h2']
    · have h2' : ¬ (c.toNat : Int) ≤ 122 := by omega
      have h3 : ¬ c.toNat ≤ 90 := by omega
      have h3' : ¬ (c.toNat : Int) ≤ 90 := by omega
      have h4 : ¬ c.toNat = 95 := by omega
      have h4' : ¬ (c.toNat : Int) = 95 := by omega
      have h5' : (65 : Int) ≤ c.toNat := by omega
      simp [F123, h1, h1', h2, h2', h3, h3', h4, h4', h5']
  · have h1' : ¬ (97 : Int) ≤ c.toNat := by omega
    by_cases h2 : 65 ≤ c.toNat
    · have h2' : (65 : Int) ≤ c.toNat := by omega
      by_cases h3 : c.toNat ≤ 90
      · have h3' : (c.toNat : Int) ≤ 90 := by omega
        simp [F123, h1, h1', h2, h2', h3, h3']
      · have h3' : ¬ (c.toNat : Int) ≤ 90 := by omega
        by_cases h4 : c.toNat = 95
        · have h4' : (c.toNat : Int) = 95 := by omega
          simp [F123, h1, h1', h2, h2', h3, h3', h4, h4']
        · have h4' : ¬ (c.toNat : Int) = 95 := by omega
          simp [F123, h1, h1', h2, h2', h3, h3', h4, h4']
    · have h2' : ¬ (65 : Int) ≤ c.toNat := by omega
      have h4 : ¬ c.toNat = 95 := by omega
      have h4' : ¬ (c.toNat : Int) = 95 := by omega
      simp [F123, h1, h1', h2, h2', h4, h4']
theorem isDigit96 (c : UInt8) (H : Heap) : callF E1 96 [.int .u8 c.toNat] H = some (.bool (isDec c), H) := by
  rw [go (fn := F96) rfl rfl rfl]
  unfold isDec
  by_cases h1 : 48 ≤ c.toNat
  · have h1' : (48 : Int) ≤ c.toNat := by omega
    by_cases h2 : c.toNat ≤ 57
    · have h2' : (c.toNat : Int) ≤ 57 := by omega
      simp [F96, h1, h1', h2, h2']
    · have h2' : ¬ (c.toNat : Int) ≤ 57 := by omega
      simp [F96, h1, h1', h2, h2']
  · have h1' : ¬ (48 : Int) ≤ c.toNat := by omega
    simp [F96, h1, h1']
section
variable (t : List UInt8) (ht : t.length ≤ 4000000)
include ht
theorem loop94 (n0 : Nat) (h : Heap) (hn0 : n0 = h.length) : ∀ (r : List UInt8) (k : Nat) (s : Slots), t.drop k = r → k + r.length = t.length → get s 0 = .str t → get s 3 = .int .i64 k →
    blkK (some [3]) 0 (runF E1 n0 false c94_8 s h) = some (.nrm, [(3, .int .i64 ((k + wordN r : Nat) : Int))], h)
  | [], k, s, hd, hk, h0, h3 => by
    have hn : ¬ ((k : Int) < t.length) := by simp at hk; omega
    rw [q94_8]
    simp [h0, h3, hn, wordN]
  | c :: r, k, s, hd, hk, h0, h3 => by
    simp only [List.length_cons] at hk
    have hlt : (k : Int) < t.length := by omega
    have hx : t[k]? = some c := by
      have := congrArg (fun l => l[0]?) hd
      simpa using this
    have hd' : t.drop (k + 1) = r := by
      have := congrArg List.tail hd
      simpa using this
    have hw : IntKind.i64.wrap ((k : Int) + 1) = (k : Int) + 1 := wrapR ⟨by omega, by omega⟩
    have ih := loop94 n0 h hn0 r (k + 1) [(0, .str t), (3, .int .i64 ((k + 1 : Nat) : Int))] hd' (by omega) rfl rfl
    simp at ih
    rw [q94_8]
    cases h1 : letB c with
    | true =>
      simp [h0, h3, hlt, hx, hw, isLetter123, h1, ih, wordN, wordB, -getElem?_pos]
      omega
    | false =>
      cases h2 : isDec c with
      | true =>
        simp [h0, h3, hlt, hx, hw, isLetter123, isDigit96, h1, h2, ih, wordN, wordB, -getElem?_pos]
        omega
      | false => simp [h0, h3, hlt, hx, hw, isLetter123, isDigit96, h1, h2, wordN, wordB, -getElem?_pos]
theorem wordLen94 (H : Heap) : callF E1 94 [.str t] H = some (.int .i64 (wordN t), H) := by
  rw [go (fn := F94) rfl rfl rfl]
  have hl := loop94 t ht H.length H rfl t 0 [(0, .str t), (3, .int .i64 (0 : Nat))] rfl (by simp) rfl rfl
  simp at hl
  simp [F94, hl]
theorem loop51b (n0 : Nat) (h : Heap) : ∀ (r : List UInt8) (k : Nat) (s : Slots), t.drop k = r → k + r.length = t.length → get s 0 = .str t → get s 3 = .int .i64 k →
    ∃ j, blkK (some [0, 3]) 3 (runF E1 n0 false c51_24 s h) = some (.nrm, [(0, .str t), (3, .int .i64 ((k + j : Nat) : Int))], h) ∧ j ≤ r.length ∧ (∀ (c : UInt8) (r' : List UInt8), r.drop j = c :: r' → c.toNat = 10) ∧ spaceN true r = j + spaceN false (r.drop j)
  | [], k, s, hd, hk, h0, h3 => by
    have hn : ¬ ((k : Int) < t.length) := by simp at hk; omega
    refine ⟨0, ?_, by simp, by simp, by simp [spaceN]⟩
    rw [q51_24]
    simp [h0, h3, hn]
  | c :: r, k, s, hd, hk, h0, h3 => by
    simp only [List.length_cons] at hk
    have hlt : (k : Int) < t.length := by omega
    have hx : t[k]? = some c := by
      have := congrArg (fun l => l[0]?) hd
      simpa using this
    have hd' : t.drop (k + 1) = r := by
      have := congrArg List.tail hd
      simpa using this
    have hw : IntKind.i64.wrap ((k : Int) + 1) = (k : Int) + 1 := wrapR ⟨by omega, by omega⟩
    by_cases hc : c.toNat = 10
    · have hc' : (c.toNat : Int) = 10 := by omega
      refine ⟨0, ?_, by simp, ?_, ?_⟩
      · rw [q51_24]
        simp [h0, h3, hlt, hx, hc', -getElem?_pos]
      · intro c' r' he
        simp at he
        rw [← he.1]
        exact hc
      · simp [spaceN, hc]
    · have hc' : ¬ (c.toNat : Int) = 10 := by omega
      obtain ⟨j, ih, hj, hh, hsp⟩ := loop51b n0 h r (k + 1) [(0, .str t), (3, .int .i64 ((k + 1 : Nat) : Int))] hd' (by omega) rfl rfl
      simp at ih
      refine ⟨j + 1, ?_, by simp; omega, by simpa using hh, ?_⟩
      · rw [q51_24]
        simp [h0, h3, hlt, hx, hc', hw, ih, -getElem?_pos]
        omega
      · simp [spaceN, hc, hsp]
        omega
theorem loop51 (h : Heap) : ∀ (n : Nat) (r : List UInt8) (k : Nat) (s : Slots), r.length ≤ n → t.drop k = r → k + r.length = t.length → get s 0 = .str t → get s 3 = .int .i64 k →
    finK F51 h.length (seqK E1 h.length false c51_39 (blkK (some [3]) 0 (runF E1 h.length false c51_36 s h))) = some (.int .i64 ((k + spaceN false r : Nat) : Int), h)
  | n, [], k, s, hn, hd, hk, h0, h3 => by
    have hn : ¬ ((k : Int) < t.length) := by simp at hk; omega
    rw [q51_36]
    simp [F51, h0, h3, hn, spaceN]
  | n + 1, c :: r, k, s, hn, hd, hk, h0, h3 => by
    simp only [List.length_cons] at hk hn
    have hlt : (k : Int) < t.length := by omega
    have hx : t[k]? = some c := by
      have := congrArg (fun l => l[0]?) hd
      simpa using this
    have hd' : t.drop (k + 1) = r := by
      have := congrArg List.tail hd
      simpa using this
    have hw : IntKind.i64.wrap ((k : Int) + 1) = (k : Int) + 1 := wrapR ⟨by omega, by omega⟩
    by_cases hc : c.toNat = 32 ∨ c.toNat = 9 ∨ c.toNat = 10 ∨ c.toNat = 13
    · have ih := loop51 h n r (k + 1) [(0, .str t), (3, .int .i64 ((k + 1 : Nat) : Int))] (by omega) hd' (by omega) rfl rfl
      have hsp : k + spaceN false (c :: r) = k + 1 + spaceN false r := by
        rw [spaceN, if_pos hc]
        omega
      rw [hsp, q51_36, ← ih]
      have hc' : (c.toNat : Int) = 32 ∨ (c.toNat : Int) = 9 ∨ (c.toNat : Int) = 10 ∨ (c.toNat : Int) = 13 := by omega
      rcases hc' with hc' | hc' | hc' | hc' <;> simp [F51, h0, h3, hlt, hx, hc', hw, -getElem?_pos]
    · have c1 : ¬ (c.toNat : Int) = 32 := by omega
      have c2 : ¬ (c.toNat : Int) = 9 := by omega
      have c3 : ¬ (c.toNat : Int) = 10 := by omega
      have c4 : ¬ (c.toNat : Int) = 13 := by omega
      by_cases hr : c.toNat = 35
      · have hr' : (c.toNat : Int) = 35 := by omega
        obtain ⟨j, hb, hj, hh, hsp⟩ := loop51b t ht h.length h (c :: r) k [(0, .str t), (3, .int .i64 k), (19, .bool true)] hd (by simp; omega) rfl rfl
        have hj1 : 1 ≤ j := by
          cases j with
          | zero => have := hh c r (by simp); omega
          | succ j => omega
        simp only [List.length_cons] at hj
        have ih := loop51 h n ((c :: r).drop j) (k + j) [(0, .str t), (3, .int .i64 ((k + j : Nat) : Int))] (by rw [List.length_drop, List.length_cons]; omega) (by rw [← hd, List.drop_drop]) (by rw [List.length_drop, List.length_cons]; omega) rfl rfl
        have hsp2 : k + spaceN false (c :: r) = k + j + spaceN false ((c :: r).drop j) := by
          have e : spaceN false (c :: r) = spaceN true r + 1 := by rw [spaceN, if_neg hc, if_pos hr]
          have e2 : spaceN true (c :: r) = spaceN true r + 1 := by rw [spaceN, if_neg (by omega)]
          omega
        rw [hsp2, q51_36, ← ih]
        simp at hb
        simp [F51, h0, h3, hlt, hx, hr', hb, -getElem?_pos]
      · have hr' : ¬ (c.toNat : Int) = 35 := by omega
        have hsp : spaceN false (c :: r) = 0 := by rw [spaceN, if_neg hc, if_neg hr]
        rw [hsp, q51_36]
        simp [F51, h0, h3, hlt, hx, c1, c2, c3, c4, hr', -getElem?_pos]
theorem spaceLen51 (H : Heap) : callF E1 51 [.str t] H = some (.int .i64 (spaceN false t), H) := by
  rw [go (fn := F51) rfl rfl rfl]
  have hl := loop51 t ht H t.length t 0 [(0, .str t), (3, .int .i64 (0 : Nat))] (Nat.le_refl _) rfl (by simp) rfl rfl
  simp [F51] at hl
  simp [F51, hl]
omit ht in
theorem loop97 (n0 : Nat) (h : Heap) (ht : t.length ≤ 4000000) : ∀ (r : List UInt8) (k : Nat) (s : Slots), t.drop k = r → k + r.length = t.length → get s 0 = .str t → get s 3 = .int .i64 k →
    blkK (some [0]) 0 (runF E1 n0 false c97_14 s h) = if r.all isDec = true then some (.nrm, [(0, .str t)], h) else some (.ret, [(2, .bool false)], h)
  | [], k, s, hd, hk, h0, h3 => by
    have hn : ¬ ((k : Int) < t.length) := by simp at hk; omega
    rw [q97_14]
    simp [h0, h3, hn]
  | c :: r, k, s, hd, hk, h0, h3 => by
    simp only [List.length_cons] at hk
    have hlt : (k : Int) < t.length := by omega
    have hx : t[k]? = some c := by
      have := congrArg (fun l => l[0]?) hd
      simpa using this
    have hd' : t.drop (k + 1) = r := by
      have := congrArg List.tail hd
      simpa using this
    have hw : IntKind.i64.wrap ((k : Int) + 1) = (k : Int) + 1 := wrapR ⟨by omega, by omega⟩
    have ih := loop97 n0 h ht r (k + 1) [(0, .str t), (3, .int .i64 ((k + 1 : Nat) : Int))] hd' (by omega) rfl rfl
    simp at ih
    rw [q97_14]
    cases h1 : isDec c with
    | true => simp [h0, h3, hlt, hx, hw, isDigit96, h1, ih, -getElem?_pos]
    | false => simp [h0, h3, hlt, hx, hw, isDigit96, h1, -getElem?_pos]
theorem valid97 (hne : t ≠ []) (H : Heap) : callF E1 97 [.str t] H = some (.bool (numOk t), H) := by
  rw [go (fn := F97) rfl rfl rfl]
  have hl := loop97 t H.length H ht t 0 [(0, .str t), (3, .int .i64 (0 : Nat))] rfl (by simp) rfl rfl
  unfold numOk
  cases ha : t.all isDec with
  | false =>
    rw [ha] at hl
    simp at hl
    simp [F97, hl]
  | true =>
    rw [ha] at hl
    simp at hl
    obtain ⟨c, r, rfl⟩ : ∃ c r, t = c :: r := by
      cases t with
      | nil => exact absurd rfl hne
      | cons c r => exact ⟨c, r, rfl⟩
    simp only [List.length_cons] at ht
    have hall : ∀ x ∈ c :: r, isDec x = true := by simpa using ha
    have e48 : ((c.toNat : Int) = 48) ↔ c = 48 := by
      rw [show (48 : Int) = ((48 : UInt8).toNat : Int) from rfl, Int.ofNat_inj, UInt8.toNat_inj]
    by_cases hc : c = 48
    · subst hc
      by_cases l1 : r = []
      · subst l1
        simp [F97, hl, numOf_cons, numOf_nil]
      · have h1 : r.length ≠ 0 := by simpa using l1
        have l1' : ¬ ((r.length : Int) + 1 = 1) := by omega
        have l1'' : (r.length == 0) = false := by simpa using h1
        simp [F97, hl, l1', l1'']
    · have hc' : ¬ (c.toNat : Int) = 48 := fun h => hc (e48.1 h)
      have hcb : (c == 48) = false := by simpa using hc
      by_cases l18 : r.length + 1 < 19
      · have hb := numOf_lt 0 (c :: r) hall
        have hp : (0 + 1) * 10 ^ (c :: r).length ≤ 10 ^ 18 := by
          rw [Nat.zero_add, Nat.one_mul]
          exact Nat.pow_le_pow_right (by omega) (by simp; omega)
        have h9 : numOf 0 (c :: r) ≤ 9223372036854775808 := by omega
        have l18' : (r.length : Int) + 1 < 19 := by omega
        have l19 : r.length ≤ 18 := by omega
        simp [F97, hl, hc, hc', hcb, l18', h9, l19]
      · by_cases l19 : r.length + 1 = 19
        · have l18' : ¬ (r.length : Int) + 1 < 19 := by omega
          have l19' : (r.length : Int) + 1 = 19 := by omega
          have l19'' : r.length ≤ 18 := by omega
          have hcmp := num_cmp (c :: r) [57, 50, 50, 51, 51, 55, 50, 48, 51, 54, 56, 53, 52, 55, 55, 53, 56, 48, 56] 0 (by simpa using l19) hall (by decide)
          rw [show numOf 0 [57, 50, 50, 51, 51, 55, 50, 48, 51, 54, 56, 53, 52, 55, 55, 53, 56, 48, 56] = 9223372036854775808 from by decide] at hcmp
          simp only [List.cons_beq_cons] at hcmp
          have hsc : (some c != some 48) = true := by simp [hc]
          simp [F97, hl, hc, hc', hcb, l18', l19', l19'', hsc, ← hcmp]
        · have l18' : ¬ (r.length : Int) + 1 < 19 := by omega
          have l19' : ¬ (r.length : Int) + 1 = 19 := by omega
          have l19'' : ¬ r.length ≤ 18 := by omega
          simp [F97, hl, hc, hc', hcb, l18', l19', l19'']
end
end Go.Proofs.Ytkomfefpfalajaa

namespace Go.Proofs.Ytkomfefpfalajaa
open Go Go.Proofs Ab
set_option maxRecDepth 100000
set_option linter.unusedSimpArgs false
set_option linter.unusedVariables false
section
variable (t : List UInt8) (ht : t.length ≤ 4000000)
abbrev longsV : List AV := [.str [62, 62, 62], .str [60, 60], .str [62, 62], .str [60, 61], .str [62, 61], .str [61, 61], .str [33, 61]]
include ht
theorem loop95a (n0 : Nat) (h : Heap) : ∀ (ws : List (List UInt8)) (i : Nat) (s : Slots), longs.drop i = ws → i + ws.length = 7 → get s 0 = .str t → get s 6 = .agg longsV → get s 7 = .int .i64 i →
    blkK (some [0]) 0 (runF E1 n0 false c95_16 s h) = if longN ws t ≠ 0 then some (.ret, [(2, .int .i64 (longN ws t))], h) else some (.nrm, [(0, .str t)], h)
  | [], i, s, hd, hi, h0, h6, h7 => by
    have _ := ht
    have hn : ¬ ((i : Int) < 7) := by simp at hi; omega
    rw [q95_16]
    simp [h0, h6, h7, hn, longN]
  | w :: ws, i, s, hd, hi, h0, h6, h7 => by
    simp only [List.length_cons] at hi
    have hlt : (i : Int) < 7 := by omega
    have hx : (longsV.drop i).take 1 = [.str w] := by
      have h2 : longsV = longs.map AV.str := rfl
      rw [h2, ← List.map_drop, hd]
      rfl
    have hmin : min 1 (7 - i) = 1 := by omega
    have hwl : w.length ≠ 0 ∧ w.length ≤ 3 := by
      have : ∀ w ∈ longs, w.length ≠ 0 ∧ w.length ≤ 3 := by decide
      apply this
      have := congrArg (fun l => l[0]?) hd
      simp at this
      exact List.mem_of_getElem? this
    have hd' : longs.drop (i + 1) = ws := by
      have := congrArg List.tail hd
      simpa using this
    have hw : IntKind.i64.wrap ((i : Int) + 1) = (i : Int) + 1 := wrapR ⟨by omega, by omega⟩
    have ih := loop95a n0 h ws (i + 1) [(0, .str t), (6, .agg longsV), (7, .int .i64 ((i + 1 : Nat) : Int))] hd' (by omega) rfl rfl rfl
    simp at ih
    rw [q95_16]
    by_cases hlen : w.length ≤ t.length
    · have hlen' : (w.length : Int) ≤ t.length := by omega
      by_cases he : t.take w.length = w
      · simp [h0, h6, h7, hlt, hx, hmin, hlen, hlen', he, longN, hwl]
      · simp [h0, h6, h7, hlt, hx, hmin, hlen, hlen', he, longN, hw, ih]
    · have hlen' : ¬ (w.length : Int) ≤ t.length := by omega
      have he : ¬ t.take w.length = w := by
        intro he
        have := congrArg List.length he
        rw [List.length_take] at this
        omega
      simp [h0, h6, h7, hlt, hx, hmin, hlen, hlen', he, longN, hw, ih]
theorem loop95b (c0 : UInt8) (r0 : List UInt8) (n0 : Nat) (h : Heap) : ∀ (r : List UInt8) (k : Nat) (s : Slots), singles.drop k = r → k + r.length = 23 → get s 0 = .str (c0 :: r0) → get s 5 = .int .i64 k →
    blkK (some []) 2 (runF E1 n0 false c95_32 s h) = if r.contains c0 then some (.ret, [(2, .int .i64 1)], h) else some (.nrm, [], h)
  | [], k, s, hd, hk, h0, h5 => by
    have _ := ht
    have hn : ¬ ((k : Int) < 23) := by simp at hk; omega
    rw [q95_32]
    simp [h0, h5, hn]
  | c :: r, k, s, hd, hk, h0, h5 => by
    simp only [List.length_cons] at hk
    have hlt : (k : Int) < 23 := by omega
    have hx : singles[k]? = some c := by
      have := congrArg (fun l => l[0]?) hd
      simpa using this
    unfold singles at hx
    have hd' : singles.drop (k + 1) = r := by
      have := congrArg List.tail hd
      simpa using this
    have hw : IntKind.i64.wrap ((k : Int) + 1) = (k : Int) + 1 := wrapR ⟨by omega, by omega⟩
    have ih := loop95b c0 r0 n0 h r (k + 1) [(0, .str (c0 :: r0)), (5, .int .i64 ((k + 1 : Nat) : Int))] hd' (by omega) rfl rfl
    simp at ih
    have he : ((c0.toNat : Int) = c.toNat) ↔ c0 = c := by rw [Int.ofNat_inj, UInt8.toNat_inj]
    rw [q95_32]
    by_cases hc : c0 = c
    · have he' := he.2 hc
      simp [h0, h5, hlt, hx, hw, he', hc, ih, -getElem?_pos, List.getElem?_cons_zero]
    · have he' : ¬ (c0.toNat : Int) = c.toNat := fun h => hc (he.1 h)
      simp [h0, h5, hlt, hx, hw, he', hc, ih, -getElem?_pos, List.getElem?_cons_zero]
theorem symbolLen95 (hne : t ≠ []) (H : Heap) : callF E1 95 [.str t] H = some (.int .i64 (symN t), H) := by
  rw [go (fn := F95) rfl rfl rfl]
  have hl := loop95a t ht H.length H longs 0 [(0, .str t), (6, .agg longsV), (7, .int .i64 (0 : Nat))] rfl rfl rfl rfl rfl
  obtain ⟨c, r, rfl⟩ : ∃ c r, t = c :: r := by
    cases t with
    | nil => exact absurd rfl hne
    | cons c r => exact ⟨c, r, rfl⟩
  by_cases hz : longN longs (c :: r) = 0
  · have hl2 := loop95b (c :: r) ht c r H.length H singles 0 [(0, .str (c :: r)), (5, .int .i64 (0 : Nat))] rfl rfl rfl rfl
    have hs : symN (c :: r) = if singles.contains c then 1 else 0 := by simp [symN, hz]
    cases hc : singles.contains c with
    | true =>
      rw [hc] at hl2 hs
      simp [hz] at hl hl2
      simp [F95, hl, hl2, hs]
    | false =>
      rw [hc] at hl2 hs
      simp [hz] at hl hl2
      simp [F95, hl, hl2, hs]
  · have hs : symN (c :: r) = longN longs (c :: r) := by simp [symN, hz]
    simp [hz] at hl
    simp [F95, hl, hs]
def encFirst (r : Except Int (Int × List UInt8)) : AV := match r with
  | .error e => .tup [.agg [.int .i64 0, .str [], .int .i64 0], .int .i64 e]
  | .ok (k, s) => .tup [.agg [.int .i64 k, .str s, .int .i64 0], .int .i64 0]
omit ht in
theorem symN_le (t : List UInt8) : symN t ≤ t.length := by
  have hl : ∀ ws : List (List UInt8), longN ws t ≤ t.length := by
    intro ws
    induction ws with
    | nil => simp [longN]
    | cons w ws ih =>
      rw [longN]
      split
      · rename_i h
        have := congrArg List.length h
        rw [List.length_take] at this
        omega
      · exact ih
  unfold symN
  split
  · exact hl _
  · cases t with
    | nil => simp
    | cons c r =>
      simp only
      split <;> simp
theorem first52 (hne : t ≠ []) (H : Heap) : callF E1 52 [.str t] H = some (encFirst (firstT t), H) := by
  rw [go (fn := F52) rfl rfl rfl]
  have h1 := wordLen94 t ht
  have h2 := symbolLen95 t ht hne
  have hwl := wordN_le t
  have hsl := symN_le t
  obtain ⟨c, r, rfl⟩ : ∃ c r, t = c :: r := by
    cases t with
    | nil => exact absurd rfl hne
    | cons c r => exact ⟨c, r, rfl⟩
  by_cases hw : wordN (c :: r) = 0
  · by_cases hs : symN (c :: r) = 0
    · have hr : firstT (c :: r) = .error 2 := by simp [firstT, hw, hs]
      simp [F52, h1, hw, h2, hs, hr, encFirst]
    · have hr : firstT (c :: r) = .ok (3, (c :: r).take (symN (c :: r))) := by simp [firstT, hw, hs]
      simp [F52, h1, hw, h2, hs, hr, encFirst]
      simp only [List.length_cons] at hwl hsl
      omega
  · cases hd : isDec c with
    | true =>
      have hv := valid97 ((c :: r).take (wordN (c :: r))) (by rw [List.length_take]; omega) (by intro h; rw [List.take_eq_nil_iff] at h; simp [hw] at h)
      have hd96 := isDigit96 c
      rw [hd] at hd96
      cases hn : numOk ((c :: r).take (wordN (c :: r))) with
      | true =>
        have hr : firstT (c :: r) = .ok (2, (c :: r).take (wordN (c :: r))) := by simp [firstT, headDec, hw, hd, hn]
        rw [hn] at hv
        simp [F52, h1, hw, hr, encFirst, hd96, hv]
        simp only [List.length_cons] at hwl hsl
        omega
      | false =>
        have hr : firstT (c :: r) = .error 2 := by simp [firstT, headDec, hw, hd, hn]
        rw [hn] at hv
        simp [F52, h1, hw, hr, encFirst, hd96, hv]
        simp only [List.length_cons] at hwl hsl
        omega
    | false =>
      have hd96 := isDigit96 c
      rw [hd] at hd96
      by_cases h16 : 16 < wordN (c :: r)
      · have hr : firstT (c :: r) = .error 6 := by simp [firstT, headDec, hw, hd, h16]
        have h16' : (16 : Int) < wordN (c :: r) := by omega
        simp [F52, h1, hw, hr, encFirst, hd96, h16, h16']
      · have hr : firstT (c :: r) = .ok (1, (c :: r).take (wordN (c :: r))) := by simp [firstT, headDec, hw, hd, h16]
        have h16' : ¬ (16 : Int) < wordN (c :: r) := by omega
        simp [F52, h1, hw, hr, encFirst, hd96, h16, h16']
        simp only [List.length_cons] at hwl hsl
        omega
omit ht in
theorem encTs1 (x : Tok) : encTs [x] = [encT x] := rfl
def encScan (acc : List Tok) (r : Except (Int × Nat) (List Tok)) : AV := match r with
  | .error (e, p) => .tup [.sl .none [], .agg [.int .i64 e, .int .i64 p]]
  | .ok l => .tup [.sl .none (encTs (acc ++ l)), .agg [.int .i64 0, .int .i64 0]]
abbrev zErr : Ob := .cells [.int .i64 0, .int .i64 0]
omit ht in
@[simp] theorem encTs_size' (l : List Tok) : sizeOk 3 (encTs l) = true := encTs_size l
theorem loop21 (H : Heap) (h20 : t.length ≤ 20000) : ∀ (n : Nat) (r : List UInt8) (p : Nat) (acc : List Tok) (c : Cap) (J : Heap) (s : Slots), r.length ≤ n → t.drop p = r → p + r.length = t.length → acc.length + r.length ≤ 20000 → get s 0 = .str t → get s 3 = .ptr H.length 0 → get s 4 = .sl c (encTs acc) → get s 5 = .int .i64 p → Own (H.length + 1) J 3 c acc.length →
    finK F21 H.length (seqK E1 H.length false c21_32 (blkK (some [3, 4]) 0 (runF E1 H.length false c21_28 s (H ++ zErr :: J)))) = some (encScan acc (scanR n r p), H)
  | n, [], p, acc, c, J, s, hn, hd, hp, hal, h0, h3, h4, h5, hown => by
    have hlt : ¬ ((p : Int) < t.length) := by simp at hp; omega
    have hr : scanR n [] p = .ok [] := by cases n <;> simp [scanR]
    rw [hr, q21_28]
    simp [F21, h0, h3, h4, h5, hlt, encScan]
  | n + 1, c0 :: r, p, acc, c, J, s, hn, hd, hp, hal, h0, h3, h4, h5, hown => by
    simp only [List.length_cons] at hp hn hal
    have hlt : (p : Int) < t.length := by omega
    have hle : (p : Int) ≤ t.length := by omega
    have hf := first52 (c0 :: r) (by simp only [List.length_cons]; omega) (by simp)
    cases hx : firstT (c0 :: r) with
    | error e =>
      have he := firstT_err hx
      have he0 : ¬ e = 0 := by omega
      have hr : scanR (n + 1) (c0 :: r) p = .error (e, p) := by simp [scanR, hx]
      rw [hr, q21_28]
      simp [F21, h0, h3, h4, h5, hlt, hle, hd, hf, hx, encScan, encFirst, he0]
    | ok kw =>
      obtain ⟨k, w⟩ := kw
      have hw := firstT_ok (by simp) hx
      simp only [List.length_cons] at hw
      have hd2 : t.drop (p + w.length) = (c0 :: r).drop w.length := by rw [← hd, List.drop_drop]
      have hs := spaceLen51 ((c0 :: r).drop w.length) (by rw [List.length_drop, List.length_cons]; omega)
      have hsle := spaceN_le false ((c0 :: r).drop w.length)
      rw [List.length_drop, List.length_cons] at hsle
      generalize hsp : spaceN false ((c0 :: r).drop w.length) = sp at *
      have hd3 : t.drop (p + w.length + sp) = ((c0 :: r).drop w.length).drop sp := by rw [← hd2, List.drop_drop]
      obtain ⟨c', J', happ, hown', hkeep⟩ := appC_keep (i := J.length) (n0 := H.length) (g := false) (sz := 3) (H1 := H ++ [zErr]) (J := J ++ [.cells [.int .i64 k, .str w, .int .i64 p]]) (xs := encTs acc) (ys := [encT ⟨k, w, p⟩]) (c := c) (by simp) (by
        rw [List.length_append, encTs_length]
        rcases hown with rfl | ⟨o, rfl, ho⟩
        · exact own_full
        · have hlt : o < J.length := by rw [List.getElem?_eq_some_iff] at ho; exact ho.1
          exact .inr ⟨o, rfl, by rw [List.getElem?_append_left hlt]; exact ho⟩) (by simp; rfl)
      rw [List.length_append] at happ hown'
      have ih := loop21 H h20 n (((c0 :: r).drop w.length).drop sp) (p + w.length + sp) (acc ++ [⟨k, w, p⟩]) c' J' [(0, .str t), (3, .ptr H.length 0), (4, .sl c' (encTs (acc ++ [⟨k, w, p⟩]))), (5, .int .i64 ((p + w.length + sp : Nat) : Int))]
        (by rw [List.length_drop, List.length_drop, List.length_cons]; omega) hd3 (by rw [List.length_drop, List.length_drop, List.length_cons]; omega) (by rw [List.length_drop, List.length_drop, List.length_cons, List.length_append]; simp; omega) rfl rfl rfl rfl (by simpa [encTs] using hown')
      have hr : encScan acc (scanR (n + 1) (c0 :: r) p) = encScan (acc ++ [⟨k, w, p⟩]) (scanR n (((c0 :: r).drop w.length).drop sp) (p + w.length + sp)) := by
        rw [scanR, if_neg (by simp), hx]
        simp only [hsp]
        rcases scanR n (((c0 :: r).drop w.length).drop sp) (p + w.length + sp) with ⟨e, q⟩ | l
        · rfl
        · simp [encScan]
      rw [hr, ← ih, q21_28]
      have w1 : IntKind.i64.wrap ((p : Int) + w.length) = (p : Int) + w.length := wrapR ⟨by omega, by omega⟩
      have w2 : IntKind.i64.wrap ((p : Int) + w.length + sp) = (p : Int) + w.length + sp := wrapR ⟨by omega, by omega⟩
      have w3 : (p : Int) + w.length ≤ t.length := by omega
      have w5 : (0 : Int) ≤ (p : Int) + w.length := by omega
      have w4 : (((p : Int) + w.length)).toNat = p + w.length := by omega
      have hbb : 2 * ((acc.length + 1) * 32) + 2048 * 32 ≤ 281474976710656 := by omega
      have happ2 : appC H.length false (H.length + (J.length + 1 + 1)) 0 3 (H ++ zErr :: (J ++ [.cells [.int .i64 k, .str w, .int .i64 p], .dead])) (encTs acc) [.agg [.int .i64 k, .str w, .int .i64 p]] c = some (.sl c' (encTs acc ++ [.agg [.int .i64 k, .str w, .int .i64 p]]), H ++ zErr :: J') := by
        have e : H.length + [zErr].length + (J ++ [Ob.cells [.int .i64 k, .str w, .int .i64 p]]).length = H.length + (J.length + 1 + 1) := by simp; omega
        rw [e] at happ
        simpa [encT] using happ
      simp [F21, h0, h3, h4, h5, hlt, hle, hd, hf, hx, encFirst, w1, w2, w3, w4, hd2, hs, happ2, hbb, hkeep, w5, encTs_append, encTs1, encT]
theorem scan21 (H : Heap) : callF E1 21 [.str t] H = some (encScan [] (scanT t), H) := by
  rw [go (fn := F21) rfl rfl rfl]
  unfold scanT
  by_cases h20 : 20000 < t.length
  · have h20' : (20000 : Int) < t.length := by omega
    simp [F21, h20, h20', encScan]
  · have h20' : ¬ (20000 : Int) < t.length := by omega
    have hs := spaceLen51 t ht
    have hle := spaceN_le false t
    have hl := loop21 t ht H (by omega) t.length (t.drop (spaceN false t)) (spaceN false t) [] .full [] [(0, .str t), (3, .ptr H.length 0), (4, .sl .full []), (5, .int .i64 (spaceN false t))] (by rw [List.length_drop]; omega) rfl (by rw [List.length_drop]; omega) (by rw [List.length_drop]; simp; omega) rfl rfl rfl rfl own_full
    rw [if_neg h20, ← hl]
    simp [F21, h20', hs]
end
end Go.Proofs.Ytkomfefpfalajaa
