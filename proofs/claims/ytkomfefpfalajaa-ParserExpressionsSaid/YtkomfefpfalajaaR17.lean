/- The reference's parser: the locals and the body of a function. -/
import Derived.Test.YtkomfefpfalajaaR13
namespace Go.Proofs.Ytkomfefpfalajaa
open Go Go.Proofs Ab
set_option maxRecDepth 100000
set_option linter.unusedSimpArgs false
set_option linter.unusedVariables false
section
variable (tk : List Tok) (en : Int) (o : Nat) (hk : TokOk2 tk)
include hk
theorem loop34b : ∀ (m : Nat) (st : St), RoomS tk st m → inS tk st → ∃ l, valOk (runS (tailP tk (nameP tk) m) st) l ∧
      ∀ (nm : List UInt8) (c1 : Cap) (ps : List (List UInt8)) (acc : List (List UInt8)) (c : Cap) (J : Heap) (s : Slots) (H : Heap), o < H.length → acc.length + m ≤ 1000000 → get s 0 = .ptr o 0 → get s 2 = .ptr H.length 0 → get s 3 = .ptr (H.length + 1) 0 → Own (H.length + 2) J 1 c acc.length →
        ∃ c' J', blkK (some [0, 2, 3]) 2 (runF E1 H.length false c34_29 s (H.set o (rdR tk en st) ++ zF :: cG nm c1 ps c acc .full [] :: J)) = some (.nrm, slots3 o H, H.set o (rdR tk en (stR (runS (tailP tk (nameP tk) m) st))) ++ zF :: cG nm c1 ps c' (acc ++ l) .full [] :: J')
  | m, st, hm, hin => by
    have h1 := app (at_sym tk en o hk st hin [44] rfl)
    cases hs : stB st (symB tk · [44]) with
    | false =>
      have hr : runS (tailP tk (nameP tk) m) st = runS (fun p => .ok ([], p)) st := by
        unfold tailP
        rw [runS_ite, hs]
        simp
      refine ⟨[], by rw [hr]; simp, ?_⟩
      intro nm c1 ps acc c J s H ho hb s0 s2 s3 hown
      refine ⟨c, J, ?_⟩
      rw [hr, stR_pure, q34_29]
      simp [hs] at h1
      simp [s0, s2, s3, ho, h1]
    | true =>
      obtain ⟨p, rfl, hp⟩ := stB_true hs
      have hlt := sym_lt tk hp
      have hm' := hm p rfl
      have hw := wrap_ic (n := p) (by have := hk.len; omega)
      match m, hm' with
      | m + 1, hm' =>
        have hin1 : inS tk (.ok (p + 1)) := fun q hq => by cases hq; omega
        obtain ⟨v, hv, hval⟩ := name31 tk en o hk (.ok (p + 1)) hin1
        obtain ⟨l, hl, ih⟩ := loop34b m (stR (runS (nameP tk) (.ok (p + 1)))) (room_run tk hm' hlt (name_mo tk)) (inS_run tk (name_up tk) _)
        have hr := tail_run tk (nameP tk) hp hval hl
        refine ⟨v :: l, by simp only [runS_ok]; rw [hr]; exact valOk_pure, ?_⟩
        intro nm c1 ps acc c J s H ho hb s0 s2 s3 hown
        have hv' := app hv
        simp only [runS_ok] at hv'
        have hv4 : ∀ (H X : Heap), o < H.length → callF E1 31 [.ptr o 0] (H.set o (rdO tk en (p + 1)) ++ X) = some (.str v, H.set o (rdR tk en (stR (nameP tk (p + 1)))) ++ X) := hv'
        simp [hs] at h1
        obtain ⟨c', J', happ, hown'⟩ := appC_ownS (n0 := H.length) (g := false) (sz := 1) (o := o) (S := rdR tk en (stR (nameP tk (p + 1)))) (H := H) (X := [zF, cG nm c1 ps c acc .full []]) (J := J) (xs := encStr acc) (ys := [.str v]) (c := c) (Nat.le_refl _) (by simpa using hown)
        simp at happ hown'
        rw [show H.length + (2 + J.length) = H.length + (J.length + 1 + 1) by omega] at happ
        obtain ⟨c2, J2, ih⟩ := ih nm c1 ps (acc ++ [v]) c' J' (slots3 o H) H ho (by simp; omega) rfl rfl rfl (by simpa using hown')
        refine ⟨c2, J2, ?_⟩
        have hbb : 2 * ((acc.length + 1) * 16) + 2048 * 16 ≤ 281474976710656 := by omega
        simp only [runS_ok]
        rw [hr, stR_pure, q34_29]
        simp only [cG, encSs_nil] at happ
        simp [s0, s2, s3, ho, h1, hw, hv4, happ, hbb, cG]
        simpa [encStr_append, encStr1, cG] using ih
theorem loop34c (n : Nat) (hS : ∀ st, inS tk st → fuelS tk st 20 n → ConR tk en o 67 [] encS (stmtP tk n) st) : ∀ (m : Nat) (st : St), RoomS tk st m → inS tk st → fuelS tk st 20 n → ∃ l, valOk (runS (whileP (stmtP tk n) (kwB tk · kwR) m) st) l ∧
      ∀ (nm : List UInt8) (c1 c2 : Cap) (ps ls : List (List UInt8)) (acc : List Stm) (c : Cap) (J : Heap) (s : Slots) (H : Heap), o < H.length → acc.length + m ≤ 1000000 → get s 0 = .ptr o 0 → get s 2 = .ptr H.length 0 → get s 3 = .ptr (H.length + 1) 0 → Own (H.length + 2) J 17 c acc.length →
        ∃ c' J', blkK (some [0, 2, 3]) 4 (runF E1 H.length false c34_42 s (H.set o (rdR tk en st) ++ zF :: cG nm c1 ps c2 ls c acc :: J)) = some (.nrm, slots3 o H, H.set o (rdR tk en (stR (runS (whileP (stmtP tk n) (kwB tk · kwR) m) st))) ++ zF :: cG nm c1 ps c2 ls c' (acc ++ l) :: J')
  | m, .error p, hm, hin, hf => by
    have h0 := app (ok29 tk en o (.error p))
    simp at h0
    refine ⟨[], by simp, ?_⟩
    intro nm c1 c2 ps ls acc c J s H ho hb s0 s2 s3 hown
    refine ⟨c, J, ?_⟩
    rw [q34_42]
    simp [s0, s2, s3, ho, h0]
  | 0, .ok p, hm, hin, hf => by
    have := hm p rfl
    omega
  | m + 1, .ok p, hm, hin, hf => by
    have h0 := app (ok29 tk en o (.ok p))
    have h1 := app (at_kw tk en o hk (.ok p) hin kwR rfl)
    simp at h0 h1
    have hm' := hm p rfl
    cases hs : kwB tk p kwR with
    | true =>
      have hr : runS (whileP (stmtP tk n) (kwB tk · kwR) (m + 1)) (.ok p) = .ok ([], p) := by
        simp only [runS_ok]
        rw [whileP, if_pos hs]
      refine ⟨[], by rw [hr]; simp, ?_⟩
      intro nm c1 c2 ps ls acc c J s H ho hb s0 s2 s3 hown
      refine ⟨c, J, ?_⟩
      rw [hr, q34_42]
      simp [s0, s2, s3, ho, h0, h1, hs]
    | false =>
      obtain ⟨⟨k, nm1, to, nn, ⟨ak, an, az, ao, aks⟩, ⟨vk, vn, vs, vo, vks⟩, args, thn, els⟩, hv, hval⟩ := hS _ hin hf
      obtain ⟨l, hl, ih⟩ := loop34c n hS m (stR (stmtP tk n p)) (room_stmt tk hm') (inS_run tk (stmt_up tk n) (.ok p)) (fuel_run tk hf (stmt_mo tk n))
      have hr := while_run (stop := (kwB tk · kwR)) hs hval hl
      refine ⟨_ :: l, by simp only [runS_ok]; rw [hr]; exact valOk_pure, ?_⟩
      intro nm c1 c2 ps ls acc c J s H ho hb s0 s2 s3 hown
      have hv' := app hv
      obtain ⟨c', J', happ, hown'⟩ := appC_ownS (n0 := H.length) (g := false) (sz := 17) (o := o) (S := rdR tk en (stR (stmtP tk n p))) (H := H) (X := [zF, cG nm c1 ps c2 ls c acc]) (J := J) (xs := encSs acc) (ys := [encS (.mk k nm1 to nn (.mk ak an az ao aks) (.mk vk vn vs vo vks) args thn els)]) (c := c) (Nat.le_refl _) (by simpa using hown)
      simp at happ hown'
      rw [show H.length + (2 + J.length) = H.length + (J.length + 1 + 1) by omega] at happ
      obtain ⟨c2', J2, ih⟩ := ih nm c1 c2 ps ls (acc ++ [.mk k nm1 to nn (.mk ak an az ao aks) (.mk vk vn vs vo vks) args thn els]) c' J' (slots3 o H) H ho (by simp; omega) rfl rfl rfl (by simpa using hown')
      refine ⟨c2', J2, ?_⟩
      simp only [runS_ok]
      rw [hr, stR_pure, q34_42]
      have hbb : 2 * ((acc.length + 1) * 248) + 2048 * 248 ≤ 281474976710656 := by omega
      simp [s0, s2, s3, ho, h0, h1, hs, hv', happ, hbb]
      simpa [encSs_append, cG] using ih
end
end Go.Proofs.Ytkomfefpfalajaa

namespace Go.Proofs.Ytkomfefpfalajaa
open Go Go.Proofs Ab
set_option maxRecDepth 100000
set_option linter.unusedSimpArgs false
set_option linter.unusedVariables false
section
variable (tk : List Tok) (en : Int) (o : Nat) (hk : TokOk2 tk)
theorem while_stop {α : Type} {P : Nat → Rs α} {stop : Nat → Bool} : ∀ {m p : Nat} {l : List α} {q : Nat}, whileP P stop m p = .ok (l, q) → stop q = true
  | 0, p, l, q, h => by rw [whileP] at h; cases h
  | m + 1, p, l, q, h => by
    rw [whileP] at h
    by_cases hs : stop p = true
    · rw [if_pos hs] at h
      simp at h
      rw [← h.2]
      exact hs
    · rw [if_neg hs] at h
      obtain ⟨v, p1, h1, h⟩ := bindR_inv h
      obtain ⟨l2, p2, h2, h⟩ := bindR_inv h
      simp at h
      have := while_stop h2
      rw [h.2] at this
      exact this
theorem func_up' (n : Nat) : UpP tk (funcP tk n) := func_up tk n
include hk
theorem exp_kw (st : St) (hp : inS tk st) (s : List UInt8) (hs : headW s = true) (H : Heap) (ho : o < H.length) : callF E1 33 [.ptr o 0, .str s] (H.set o (rdR tk en st)) = some (.tup [], H.set o (rdR tk en (if stB st (kwB tk · s) then adv st else bad st))) := by
  rw [expect33 tk en o hk.len st hp s H ho]
  have : (atB tk · s) = (kwB tk · s) := funext fun p => atB_kw hk hs
  rw [this]
theorem rest34 (n : Nat) (hn : n ≤ 900000) (hE : ∀ st, inS tk st → fuelS tk st 12 n → ConR tk en o 68 [] encE (exprP tk n) st) (hS : ∀ st, inS tk st → fuelS tk st 20 n → ConR tk en o 67 [] encS (stmtP tk n) st) (st : St) (hin : inS tk st) (hf1 : fuelS tk st 20 n) :
    ∃ b v s10, inS tk s10 ∧ (∀ g : List Stm → Ex → Ab.Fn, runS (fun p6 => bindR (whileP (stmtP tk n) (kwB tk · kwR) n p6) fun b p7 => bindR (exprP tk n (p7 + 1)) fun v p8 => bindR (expR tk p8 [59]) fun _ p9 => bindR (expR tk p9 [125]) fun _ p10 => .ok (g b v, p10)) st = runS (fun p => .ok (g b v, p)) s10)
      ∧ ∀ (nm : List UInt8) (cx cy : Cap) (ps ls : List (List UInt8)) (J : Heap) (H : Heap), o < H.length → finK F34 H.length (runF E1 H.length false c34_54 (slots3 o H) (H.set o (rdR tk en st) ++ zF :: cG nm cx ps cy ls .full [] :: J))
        = some (encF ⟨nm, ps, ls, b, v⟩, H.set o (rdR tk en s10)) := by
  have hlen := hk.len
  obtain ⟨b, hb, hlp⟩ := loop34c tk en o hk n hS n st (by intro p hp; have := hf1 p hp; omega) hin hf1
  have hf2 := fuel_run tk hf1 (while_mo (stop := (kwB tk · kwR)) (stmt_mo tk n) n)
  have hin2 : inS tk (stR (runS (whileP (stmtP tk n) (kwB tk · kwR) n) st)) := by
    intro q hq
    cases st with
    | error p => cases hq
    | ok p =>
      rcases hx : whileP (stmtP tk n) (kwB tk · kwR) n p with e | ⟨v, q'⟩
      · simp [hx] at hq
      · simp [hx] at hq
        have := while_up tk (stmt_up tk n) n _ _ _ (hin p rfl) hx
        omega
  have hkw : ∀ q, stR (runS (whileP (stmtP tk n) (kwB tk · kwR) n) st) = .ok q → kwB tk q kwR = true := by
    intro q hq
    cases st with
    | error p => cases hq
    | ok p =>
      rcases hx : whileP (stmtP tk n) (kwB tk · kwR) n p with e | ⟨v, q'⟩
      · simp [hx] at hq
      · simp [hx] at hq
        subst hq
        exact while_stop (stop := (kwB tk · kwR)) hx
  have hr1 := fun (f : List Stm → Nat → Rs Ab.Fn) => runS_bind (f := f) hb
  generalize stR (runS (whileP (stmtP tk n) (kwB tk · kwR) n) st) = s7 at *
  have e0 := app (exp_kw tk en o hk s7 hin2 kwR rfl)
  have e0s : (if stB s7 (kwB tk · kwR) then adv s7 else bad s7) = adv s7 := by
    cases s7 with
    | error p => rfl
    | ok p => simp [hkw p rfl]
  rw [e0s] at e0
  have hin3 : inS tk (adv s7) := by
    intro q hq
    cases s7 with
    | error p => cases hq
    | ok p => cases hq; have := kw_lt tk (hkw p rfl); omega
  have hf3 : fuelS tk (adv s7) 12 n := by
    intro q hq
    cases s7 with
    | error p => cases hq
    | ok p => cases hq; have := hf2 p rfl; omega
  obtain ⟨⟨vk, vn, vs, vo, vks⟩, hv, hval⟩ := hE _ hin3 hf3
  have hv' := app hv
  have hin4 := inS_run tk (expr_upP tk n) (adv s7)
  have h3 := app (exp_sym tk en o hk (stR (runS (exprP tk n) (adv s7))) hin4 [59] rfl)
  have hin5 := inS_exp tk hin4 (s := [59])
  have h4 := app (exp_sym tk en o hk (expS tk (stR (runS (exprP tk n) (adv s7))) [59]) hin5 [125] rfl)
  refine ⟨b, .mk vk vn vs vo vks, expS tk (expS tk (stR (runS (exprP tk n) (adv s7))) [59]) [125], inS_exp tk hin5, ?_, ?_⟩
  · intro g
    rw [hr1, runS_bind_adv hval, runS_exp, runS_exp]
  · intro nm cx cy ps ls J H ho
    obtain ⟨c', J', hb⟩ := hlp nm cx cy ps ls [] .full J (slots3 o H) H ho (by simp; omega) rfl rfl rfl own_full
    simp at hb
    simp [F34, ho, hb, e0, hv', h3, h4, encF, leavesE] <;> rfl
theorem params34 (n : Nat) (hn1 : 1 ≤ n) (hn : n ≤ 900000) (st : St) (hin : inS tk st) (hf : fuelS tk st 20 n) :
    ∃ ps ps' s4, inS tk s4 ∧ fuelS tk s4 20 n ∧ ((∃ q, s4 = .ok q) → ps' = ps) ∧
      (∀ f : List (List UInt8) → Nat → Rs Ab.Fn, runS (fun p2 => bindR (if symB tk p2 [41] = true then (.ok ([], p2) : Rs (List (List UInt8))) else sepP tk (nameP tk) n p2) fun ps p3 => bindR (expR tk p3 [41]) fun _ p4 => f ps p4) st = runS (f ps) s4) ∧
      ∀ (nm : List UInt8) (H : Heap), o < H.length → ∃ cx J, runF E1 H.length false c34_58 (slots3 o H) (H.set o (rdR tk en st) ++ [zF, cG nm .full [] .full [] .full []])
        = runF E1 H.length false c34_56 (slots3 o H) (H.set o (rdR tk en s4) ++ zF :: cG nm cx ps' .full [] .full [] :: J) := by
  have hlen := hk.len
  have e1 := fun sR hinR => app (exp_sym tk en o hk sR hinR [41] rfl)
  cases st with
  | error p =>
    refine ⟨[], [], .error p, inS_error tk p, hf, fun _ => rfl, fun f => by simp, ?_⟩
    intro nm H ho
    have hb := loop34a_bad tk en o nm [] .full p [] (slots3 o H) H ho rfl rfl rfl
    have e1 := e1 (.error p) (inS_error tk p)
    simp [expS_error] at hb e1
    refine ⟨.full, [], ?_⟩
    simp [ho, hb, e1, -q34_56]
  | ok p =>
    cases hs : symB tk p [41] with
    | true =>
      have hlt := sym_lt tk hs
      have hes : expS tk (.ok p) [41] = .ok (p + 1) := by unfold expS; simp [hs]
      refine ⟨[], [], .ok (p + 1), fun q hq => by cases hq; omega, by intro q hq; cases hq; have := hf p rfl; omega, fun _ => rfl, ?_, ?_⟩
      · intro f
        simp only [runS_ok]
        rw [if_pos hs, bindR_ok]
        have := runS_exp (tk := tk) (s := [41]) (f := fun _ p4 => f [] p4) (st := .ok p)
        rw [hes] at this
        exact this
      · intro nm H ho
        have h0 := app (ok29 tk en o (.ok p))
        have h1 := app (at_sym tk en o hk (.ok p) hin [41] rfl)
        have e1 := e1 (.ok p) hin
        rw [hes] at e1
        simp [hs] at h0 h1
        have hl : blkK (some [0, 2, 3]) 0 (runF E1 H.length false c34_15 (slots3 o H) (H.set o (rdR tk en (.ok p)) ++ zF :: cG nm .full [] .full [] .full [] :: [])) = some (.nrm, slots3 o H, H.set o (rdR tk en (.ok p)) ++ zF :: cG nm .full [] .full [] .full [] :: []) := by
          rw [q34_15]
          simp [ho, h0, h1]
        refine ⟨.full, [], ?_⟩
        simp [ho, hl, e1, -q34_56]
    | false =>
      obtain ⟨m, rfl⟩ : ∃ m, n = m + 1 := ⟨n - 1, by omega⟩
      obtain ⟨v, hv, hval⟩ := name31 tk en o hk (.ok p) hin
      have hfB := fuel_run tk hf (name_mo tk)
      obtain ⟨l, l', sR, hinR, hexp, hl, hll, hrun⟩ := loop34a tk en o hk m (stR (runS (nameP tk) (.ok p))) (by intro q hq; have := hfB q hq; omega) (inS_run tk (name_up tk) _)
      have hsr := sep_run tk (nameP tk) hval hl
      have hfS : fuelS tk (expS tk (stR (runS (sepP tk (nameP tk) (m + 1)) (.ok p))) [41]) 20 (m + 1) := fuel_mono tk (fuel_exp tk (fuel_run tk hf (sep_mo tk (name_mo tk) (m + 1)))) (by omega)
      rw [hsr, stR_pure, ← hexp] at hfS
      refine ⟨v :: l, v :: l', expS tk sR [41], inS_exp tk hinR, hfS, fun hq => by rw [hll hq], ?_, ?_⟩
      · intro f
        simp only [runS_ok] at hsr hexp ⊢
        rw [if_neg (by rw [hs]; decide), hsr]
        refine (bind_run (v := v :: l) (by simp)).trans ?_
        rw [stR_pure]
        refine runS_exp.trans ?_
        rw [← hexp]
      · intro nm H ho
        obtain ⟨c1', J1, hst, hown1⟩ := step34a tk en o hk (.ok p) p hin hs [] (by rw [if_pos rfl]) v hv nm .full [] (slots3 o H) H ho (by simp) rfl rfl rfl own_full
        obtain ⟨c2', J2, h2⟩ := hrun nm ([] ++ [v]) c1' J1 (slots3 o H) H ho (by simp) (by simp; omega) rfl rfl rfl hown1
        have hb := hst.trans h2
        have e1 := e1 sR hinR
        simp at hb
        refine ⟨c2', J2, ?_⟩
        simp [ho, hb, e1, -q34_56]
end
end Go.Proofs.Ytkomfefpfalajaa

namespace Go.Proofs.Ytkomfefpfalajaa
open Go Go.Proofs Ab
set_option maxRecDepth 100000
set_option linter.unusedSimpArgs false
set_option linter.unusedVariables false
section
variable (tk : List Tok) (en : Int) (o : Nat) (hk : TokOk2 tk)
abbrev kwV : List UInt8 := [118, 97, 114]
include hk
theorem locals34 (n : Nat) (hn1 : 1 ≤ n) (hn : n ≤ 900000) (st : St) (hin : inS tk st) (hf : fuelS tk st 20 n) :
    ∃ ls s6, inS tk s6 ∧ fuelS tk s6 20 n ∧
      (∀ f : List (List UInt8) → Nat → Rs Ab.Fn, runS (fun p4 => bindR (if kwB tk p4 [118, 97, 114] then sepP tk (nameP tk) n (p4 + 1) else .ok ([], p4)) fun ls p5 => bindR (expR tk p5 [123]) fun _ p6 => f ls p6) st = runS (f ls) s6) ∧
      ∀ (nm : List UInt8) (cx : Cap) (ps : List (List UInt8)) (J : Heap) (H : Heap), o < H.length → ∃ cy J', runF E1 H.length false c34_56 (slots3 o H) (H.set o (rdR tk en st) ++ zF :: cG nm cx ps .full [] .full [] :: J)
        = runF E1 H.length false c34_54 (slots3 o H) (H.set o (rdR tk en s6) ++ zF :: cG nm cx ps cy ls .full [] :: J') := by
  have hlen := hk.len
  have e1 := fun sR hinR => app (exp_sym tk en o hk sR hinR [123] rfl)
  have k1 := app (at_kw tk en o hk st hin kwV rfl)
  cases hs : stB st (kwB tk · kwV) with
  | false =>
    simp [hs] at k1
    have e1 := e1 st hin
    refine ⟨[], expS tk st [123], inS_exp tk hin, fuel_mono tk (fuel_exp tk hf) (by omega), ?_, ?_⟩
    · intro f
      have hr : runS (fun p4 => if kwB tk p4 [118, 97, 114] = true then sepP tk (nameP tk) n (p4 + 1) else (.ok ([], p4) : Rs (List (List UInt8)))) st = runS (fun p => .ok ([], p)) st := by
        rw [runS_ite, hs]
        simp
      refine (runS_bind (v := []) (by rw [hr]; simp)).trans ?_
      rw [hr, stR_pure]
      exact runS_exp
    · intro nm cx ps J H ho
      refine ⟨.full, J, ?_⟩
      simp [ho, k1, e1, -q34_54]
  | true =>
    simp [hs] at k1
    obtain ⟨p, rfl, hp⟩ := stB_true hs
    have hlt := kw_lt tk hp
    have hw := wrap_ic (n := p) (by omega)
    obtain ⟨m, rfl⟩ : ∃ m, n = m + 1 := ⟨n - 1, by omega⟩
    have hin1 : inS tk (.ok (p + 1)) := fun q hq => by cases hq; omega
    have hf1 : fuelS tk (.ok (p + 1)) 20 (m + 1) := by intro q hq; cases hq; have := hf p rfl; omega
    obtain ⟨v, hv, hval⟩ := name31 tk en o hk (.ok (p + 1)) hin1
    have hfB := fuel_run tk hf1 (name_mo tk)
    obtain ⟨l, hl, hrun⟩ := loop34b tk en o hk m (stR (runS (nameP tk) (.ok (p + 1)))) (by intro q hq; have := hfB q hq; omega) (inS_run tk (name_up tk) _)
    have hsr := sep_run tk (nameP tk) hval hl
    have hinS := inS_run tk (sep_up tk (name_up tk) (m + 1)) (.ok (p + 1))
    have hfS := fuel_run tk hf1 (sep_mo tk (name_mo tk) (m + 1))
    have hv' := app hv
    simp only [runS_ok] at hv'
    have hv4 : ∀ (H X : Heap), o < H.length → callF E1 31 [.ptr o 0] (H.set o (rdO tk en (p + 1)) ++ X) = some (.str v, H.set o (rdR tk en (stR (nameP tk (p + 1)))) ++ X) := hv'
    rw [hsr, stR_pure] at hinS hfS
    have e1 := e1 _ hinS
    refine ⟨v :: l, expS tk (stR (runS (tailP tk (nameP tk) m) (stR (runS (nameP tk) (.ok (p + 1)))))) [123], inS_exp tk hinS, fuel_mono tk (fuel_exp tk hfS) (by omega), ?_, ?_⟩
    · intro f
      simp only [runS_ok] at hsr ⊢
      rw [if_pos hp, hsr]
      refine (bind_run (v := v :: l) (by simp)).trans ?_
      rw [stR_pure]
      exact runS_exp
    · intro nm cx ps J H ho
      have hown' : Own (H.length + 2) (J ++ [.fr 1 1]) 1 (.tok (H.length + (J.length + 1 + 1))) 1 := .inr ⟨J.length, by rw [show H.length + (J.length + 1 + 1) = H.length + 2 + J.length by omega], by simp⟩
      obtain ⟨c2, J2, h2⟩ := hrun nm cx ps [v] _ _ (slots3 o H) H ho (by simp; omega) rfl rfl rfl hown'
      refine ⟨c2, J2, ?_⟩
      simp only [runS_ok] at e1 h2 ⊢
      simp only [cG, encSs_nil, encStr_nil, encStr1] at h2
      simp at h2
      simp [ho, k1, hw, hv4, h2, e1, cG, encStr_nil, -q34_54]
theorem function34 (n : Nat) (hn1 : 1 ≤ n) (hn : n ≤ 900000) (hE : ∀ st, inS tk st → fuelS tk st 12 n → ConR tk en o 68 [] encE (exprP tk n) st) (hS : ∀ st, inS tk st → fuelS tk st 20 n → ConR tk en o 67 [] encS (stmtP tk n) st) (st : St) (hin : inS tk st) (hf : fuelS tk st 20 n) :
    ConR tk en o 34 [] encF (funcP tk n) st := by
  obtain ⟨nm, hv1, hval1⟩ := name31 tk en o hk st hin
  have hv1' := app hv1
  have hr1 := fun (f : List UInt8 → Nat → Rs Ab.Fn) => runS_bind (f := f) hval1
  have hf1 : fuelS tk (stR (runS (nameP tk) st)) 20 n := fuel_run tk hf (name_mo tk)
  have hin1 := inS_run tk (name_up tk) st
  generalize stR (runS (nameP tk) st) = s1 at *
  have h2 := app (exp_sym tk en o hk s1 hin1 [40] rfl)
  have hf2 : fuelS tk (expS tk s1 [40]) 20 n := fuel_mono tk (fuel_exp tk hf1) (by omega)
  have hin2 := inS_exp tk hin1 (s := [40])
  have hr2 := fun (f : Unit → Nat → Rs Ab.Fn) => runS_exp (tk := tk) (s := [40]) (f := f) (st := s1)
  generalize expS tk s1 [40] = s2 at *
  obtain ⟨ps, ps', s4, hin4, hf4, hps, hr4, hrun4⟩ := params34 tk en o hk n hn1 hn s2 hin2 hf2
  obtain ⟨ls, s6, hin6, hf6, hr6, hrun6⟩ := locals34 tk en o hk n hn1 hn s4 hin4 hf4
  obtain ⟨b, v, s10, hin10, hr10, hrun10⟩ := rest34 tk en o hk n hn hE hS s6 hin6 hf6
  have hr : runS (funcP tk n) st = runS (fun p => .ok (⟨nm, ps, ls, b, v⟩, p)) s10 := by
    unfold funcP
    refine (hr1 _).trans ?_
    refine (hr2 _).trans ?_
    refine (hr4 _).trans ?_
    refine (hr6 _).trans ?_
    exact hr10 fun b v => ⟨nm, ps, ls, b, v⟩
  refine ⟨⟨nm, ps', ls, b, v⟩, fun H ho => ?_, ?_⟩
  · obtain ⟨cx, J, h4⟩ := hrun4 nm H ho
    obtain ⟨cy, J', h6⟩ := hrun6 nm cx ps' J H ho
    rw [go (fn := F34) rfl rfl rfl, hr, stR_pure, ← hrun10 nm cx cy ps' ls J' H ho, ← h6, ← h4]
    simp [F34, ho, hv1', h2, zF, cG, encStr_nil, -q34_58]
  · intro w q hq
    cases hs4 : s4 with
    | ok q4 =>
      rw [hps ⟨q4, hs4⟩]
      rw [hr] at hq
      cases s10 with
      | error e => cases hq
      | ok p => simp at hq; exact hq.1
    | error e =>
      exfalso
      have h6 := hr6 fun ls p6 => (.ok (⟨[], [], [], [], zeroE⟩, p6) : Rs Ab.Fn)
      rw [hs4] at h6
      have h6' : s6 = .error e := by
        cases s6 with
        | ok p => simp at h6
        | error e' => simp at h6; rw [h6]
      have h10 := hr10 fun b v => ⟨[], [], [], [], zeroE⟩
      rw [h6'] at h10
      rw [hr] at hq
      cases s10 with
      | ok p => simp at h10
      | error e' => cases hq
end
end Go.Proofs.Ytkomfefpfalajaa

namespace Go.Proofs.Ytkomfefpfalajaa
open Go Go.Proofs Ab
set_option maxRecDepth 100000
set_option linter.unusedSimpArgs false
set_option linter.unusedVariables false
theorem isLetter61 (c : UInt8) (H : Heap) : callF E1 61 [.int .u8 c.toNat] H = some (.bool (letB c), H) := by
  rw [go (fn := F61) rfl rfl rfl]
  unfold letB
  by_cases h1 : 97 ≤ c.toNat
  · have h1' : (97 : Int) ≤ c.toNat := by omega
    by_cases h2 : c.toNat ≤ 122
    · have h2' : (c.toNat : Int) ≤ 122 := by omega
      simp [F61, h1, h1', h2, h2']
    · have h2' : ¬ (c.toNat : Int) ≤ 122 := by omega
      have h3 : ¬ c.toNat ≤ 90 := by omega
      have h3' : ¬ (c.toNat : Int) ≤ 90 := by omega
      have h4 : ¬ c.toNat = 95 := by omega
      have h4' : ¬ (c.toNat : Int) = 95 := by omega
      have h5' : (65 : Int) ≤ c.toNat := by omega
      simp [F61, h1, h1', h2, h2', h3, h3', h4, h4', h5']
  · have h1' : ¬ (97 : Int) ≤ c.toNat := by omega
    by_cases h2 : 65 ≤ c.toNat
    · have h2' : (65 : Int) ≤ c.toNat := by omega
      by_cases h3 : c.toNat ≤ 90
      · have h3' : (c.toNat : Int) ≤ 90 := by omega
        simp [F61, h1, h1', h2, h2', h3, h3']
      · have h3' : ¬ (c.toNat : Int) ≤ 90 := by omega
        by_cases h4 : c.toNat = 95
        · have h4' : (c.toNat : Int) = 95 := by omega
          simp [F61, h1, h1', h2, h2', h3, h3', h4, h4']
        · have h4' : ¬ (c.toNat : Int) = 95 := by omega
          simp [F61, h1, h1', h2, h2', h3, h3', h4, h4']
    · have h2' : ¬ (65 : Int) ≤ c.toNat := by omega
      have h4 : ¬ c.toNat = 95 := by omega
      have h4' : ¬ (c.toNat : Int) = 95 := by omega
      simp [F61, h1, h1', h2, h2', h4, h4']
theorem isDigit62 (c : UInt8) (H : Heap) : callF E1 62 [.int .u8 c.toNat] H = some (.bool (isDec c), H) := by
  rw [go (fn := F62) rfl rfl rfl]
  unfold isDec
  by_cases h1 : 48 ≤ c.toNat
  · have h1' : (48 : Int) ≤ c.toNat := by omega
    by_cases h2 : c.toNat ≤ 57
    · have h2' : (c.toNat : Int) ≤ 57 := by omega
      simp [F62, h1, h1', h2, h2']
    · have h2' : ¬ (c.toNat : Int) ≤ 57 := by omega
      simp [F62, h1, h1', h2, h2']
  · have h1' : ¬ (48 : Int) ≤ c.toNat := by omega
    simp [F62, h1, h1']
section
variable (t : List UInt8) (ht : t.length ≤ 4000000)
include ht
theorem loop64a (n0 : Nat) (h : Heap) : ∀ (ws : List (List UInt8)) (i : Nat) (s : Slots), longs.drop i = ws → i + ws.length = 7 → get s 0 = .str t → get s 3 = .sl .full longsV → get s 4 = .int .i64 i →
    blkK (some [0]) 0 (runF E1 n0 false c64_15 s h) = if longN ws t ≠ 0 then some (.ret, [(2, .str (t.take (longN ws t)))], h) else some (.nrm, [(0, .str t)], h)
  | [], i, s, hd, hi, h0, h3, h4 => by
    have _ := ht
    have hn : ¬ ((i : Int) < 7) := by simp at hi; omega
    rw [q64_15]
    simp [h0, h3, h4, hn, longN]
  | w :: ws, i, s, hd, hi, h0, h3, h4 => by
    simp only [List.length_cons] at hi
    have hlt : (i : Int) < 7 := by omega
    have hx : longsV[i]? = some (.str w) := by
      have h2 : longsV = longs.map AV.str := rfl
      have := congrArg (fun l => l[0]?) hd
      simp at this
      rw [h2, List.getElem?_map, this]
      rfl
    have hwl : w.length ≠ 0 ∧ w.length ≤ 3 := by
      have : ∀ w ∈ longs, w.length ≠ 0 ∧ w.length ≤ 3 := by decide
      apply this
      have := congrArg (fun l => l[0]?) hd
      simp at this
      exact List.mem_of_getElem? this
    have hd' : longs.drop (i + 1) = ws := by
      have := congrArg List.tail hd
      simpa using this
    have hw : IntKind.i64.wrap ((i : Int) + 1) = (i : Int) + 1 := wrapR ⟨by omega, by omega⟩
    have ih := loop64a n0 h ws (i + 1) [(0, .str t), (3, .sl .full longsV), (4, .int .i64 ((i + 1 : Nat) : Int))] hd' (by omega) rfl rfl rfl
    unfold longsV at hx h3 ih
    simp at ih
    rw [q64_15]
    by_cases hlen : w.length ≤ t.length
    · have hlen' : (w.length : Int) ≤ t.length := by omega
      by_cases he : t.take w.length = w
      · simp [h0, h3, h4, hlt, hx, hlen, hlen', he, longN, hwl, -getElem?_pos]
      · simp [h0, h3, h4, hlt, hx, hlen, hlen', he, longN, hw, ih, -getElem?_pos]
    · have hlen' : ¬ (w.length : Int) ≤ t.length := by omega
      have he : ¬ t.take w.length = w := by
        intro he
        have := congrArg List.length he
        rw [List.length_take] at this
        omega
      simp [h0, h3, h4, hlt, hx, hlen, hlen', he, longN, hw, ih, -getElem?_pos]
theorem loop64b (c0 : UInt8) (r0 : List UInt8) (n0 : Nat) (h : Heap) : ∀ (r : List UInt8) (k : Nat) (s : Slots), singles.drop k = r → k + r.length = 23 → get s 0 = .str (c0 :: r0) → get s 5 = .str singles → get s 6 = .int .i64 k →
    blkK (some []) 2 (runF E1 n0 false c64_32 s h) = if r.contains c0 then some (.ret, [(2, .str [c0])], h) else some (.nrm, [], h)
  | [], k, s, hd, hk, h0, h5, h6 => by
    have _ := ht
    have hn : ¬ ((k : Int) < 23) := by simp at hk; omega
    unfold singles at h5
    rw [q64_32]
    simp [h0, h5, h6, hn]
  | c :: r, k, s, hd, hk, h0, h5, h6 => by
    simp only [List.length_cons] at hk
    have hlt : (k : Int) < 23 := by omega
    have hx : singles[k]? = some c := by
      have := congrArg (fun l => l[0]?) hd
      simpa using this
    have hd' : singles.drop (k + 1) = r := by
      have := congrArg List.tail hd
      simpa using this
    have hw : IntKind.i64.wrap ((k : Int) + 1) = (k : Int) + 1 := wrapR ⟨by omega, by omega⟩
    have ih := loop64b c0 r0 n0 h r (k + 1) [(0, .str (c0 :: r0)), (5, .str singles), (6, .int .i64 ((k + 1 : Nat) : Int))] hd' (by omega) rfl rfl rfl
    unfold singles at hx h5 ih
    simp at ih
    have he : ((c0.toNat : Int) = c.toNat) ↔ c0 = c := by rw [Int.ofNat_inj, UInt8.toNat_inj]
    rw [q64_32]
    by_cases hc : c0 = c
    · have he' := he.2 hc
      simp [h0, h5, h6, hlt, hx, hw, he', hc, ih, -getElem?_pos, List.getElem?_cons_zero]
      omega
    · have he' : ¬ (c0.toNat : Int) = c.toNat := fun h => hc (he.1 h)
      simp [h0, h5, h6, hlt, hx, hw, he', hc, ih, -getElem?_pos, List.getElem?_cons_zero]
theorem symbol64 (hne : t ≠ []) (H : Heap) : callF E1 64 [.str t] H = some (.str (t.take (symN t)), H) := by
  rw [go (fn := F64) rfl rfl rfl]
  have hl := loop64a t ht H.length H longs 0 [(0, .str t), (3, .sl .full longsV), (4, .int .i64 (0 : Nat))] rfl rfl rfl rfl rfl
  obtain ⟨c, r, rfl⟩ : ∃ c r, t = c :: r := by
    cases t with
    | nil => exact absurd rfl hne
    | cons c r => exact ⟨c, r, rfl⟩
  by_cases hz : longN longs (c :: r) = 0
  · have hl2 := loop64b (c :: r) ht c r H.length H singles 0 [(0, .str (c :: r)), (5, .str singles), (6, .int .i64 (0 : Nat))] rfl rfl rfl rfl rfl
    have hs : symN (c :: r) = if singles.contains c then 1 else 0 := by simp [symN, hz]
    cases hc : singles.contains c with
    | true =>
      rw [hc] at hl2 hs
      simp [hz] at hl hl2
      unfold singles at hl2
      simp [F64, hl, hl2, hs]
    | false =>
      rw [hc] at hl2 hs
      simp [hz] at hl hl2
      unfold singles at hl2
      simp [F64, hl, hl2, hs]
  · have hs : symN (c :: r) = longN longs (c :: r) := by simp [symN, hz]
    simp [hz] at hl
    simp [F64, hl, hs]
end
end Go.Proofs.Ytkomfefpfalajaa
