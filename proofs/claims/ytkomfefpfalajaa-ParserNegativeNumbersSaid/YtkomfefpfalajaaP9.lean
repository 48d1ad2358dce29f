/- The parser's functions. -/
import Derived.Test.YtkomfefpfalajaaP8
namespace Go.Proofs.Ytkomfefpfalajaa
open Go Go.Proofs Ab
set_option maxRecDepth 100000
set_option linter.unusedSimpArgs false
set_option linter.unusedVariables false
section
variable (tk : List Tok) (en : Int) (o : Nat) (hL : tk.length < 4611686018427387904) (hT : ∀ p, (tokAt tk p).text.length ≤ 20000)
abbrev zF : Ob := .cells [.str [], .sl .full [], .sl .full [], .sl .full [], .int .i64 0, .int .i64 0, .str [], .int .i64 0, .sl .full []]
abbrev cF (nm : List UInt8) (x y : AV) (c : Cap) (b : List Stm) : Ob := .cells [.str nm, x, y, .sl c (encSs b), .int .i64 0, .int .i64 0, .str [], .int .i64 0, .sl .full []]
abbrev kwR : List UInt8 := [114, 101, 116, 117, 114, 110]
include hL
theorem loop26 (n : Nat) (hS : ∀ st, fuelS tk st 20 n → Con tk en o 59 [] encS (stmtP tk n) st) : ∀ (m : Nat) (st : St), RoomS tk st m → fuelS tk st 20 n → ∃ l, valOk (runS (whileP (stmtP tk n) (kwB tk · kwR) m) st) l ∧ ∀ (acc : List Stm) (nm : List UInt8) (x y : AV) (c : Cap) (J : Heap) (s : Slots) (H : Heap), o < H.length → acc.length + m ≤ 1000000 → get s 0 = .ptr o 0 → get s 2 = .ptr H.length 0 → get s 3 = .ptr (H.length + 1) 0 → Own (H.length + 2) J 17 c acc.length →
    ∃ c' J', blkK (some [0, 2, 3]) 0 (runF E1 H.length false c26_19 s (H.set o (rdS tk en st) ++ zF :: cF nm x y c acc :: J)) = some (.nrm, [(0, .ptr o 0), (2, .ptr H.length 0), (3, .ptr (H.length + 1) 0)], H.set o (rdS tk en (adv (stR (runS (whileP (stmtP tk n) (kwB tk · kwR) m) st)))) ++ zF :: cF nm x y c' (acc ++ l) :: J')
  | m, .error p, hm, hf => by
    refine ⟨[], by simp, ?_⟩
    intro acc nm x y c J s H ho hb s0 s2 s3 hown
    refine ⟨c, J, ?_⟩
    rw [q26_19]
    simp [s0, s2, s3, ho]
  | 0, .ok p, hm, hf => by
    have := hm p rfl
    omega
  | m + 1, .ok p, hm, hf => by
    have h1 := app (keyword22 tk en o hL (.ok p) kwR)
    simp at h1
    have hm' := hm p rfl
    cases hs : kwB tk p kwR with
    | true =>
      have hr : runS (whileP (stmtP tk n) (kwB tk · kwR) (m + 1)) (.ok p) = .ok ([], p) := by
        simp only [runS_ok]
        rw [whileP, if_pos hs]
      refine ⟨[], by rw [hr]; simp, ?_⟩
      intro acc nm x y c J s H ho hb s0 s2 s3 hown
      refine ⟨c, J, ?_⟩
      rw [hr, q26_19]
      simp [s0, s2, s3, ho, h1, hs]
    | false =>
      obtain ⟨⟨k, nm1, to, nn, ⟨ak, an, az, ao, aks⟩, ⟨vk, vn, vs, vo, vks⟩, args, thn, els⟩, hv, hval⟩ := hS _ hf
      obtain ⟨l, hl, ih⟩ := loop26 n hS m (stR (stmtP tk n p)) (room_stmt tk hm') (fuel_run tk hf (stmt_mo tk n))
      have hr := while_run (stop := (kwB tk · kwR)) hs hval hl
      refine ⟨_ :: l, by simp only [runS_ok]; rw [hr]; exact valOk_pure, ?_⟩
      intro acc nm x y c J s H ho hb s0 s2 s3 hown
      have hv' := app hv
      obtain ⟨c', J', happ, hown'⟩ := appC_ownS (n0 := H.length) (g := false) (sz := 17) (o := o) (S := rdS tk en (stR (stmtP tk n p))) (H := H) (X := [zF, cF nm x y c acc]) (J := J) (xs := encSs acc) (ys := [encS (.mk k nm1 to nn (.mk ak an az ao aks) (.mk vk vn vs vo vks) args thn els)]) (c := c) (Nat.le_refl _) (by simpa using hown)
      simp at happ hown'
      rw [show H.length + (2 + J.length) = H.length + (J.length + 1 + 1) by omega] at happ
      obtain ⟨c2, J2, ih⟩ := ih (acc ++ [.mk k nm1 to nn (.mk ak an az ao aks) (.mk vk vn vs vo vks) args thn els]) nm x y c' J' [(0, .ptr o 0), (2, .ptr H.length 0), (3, .ptr (H.length + 1) 0)] H ho (by simp; omega) rfl rfl rfl (by simpa using hown')
      refine ⟨c2, J2, ?_⟩
      simp only [runS_ok]
      rw [hr, stR_pure, q26_19]
      have hbb : 2 * ((acc.length + 1) * 248) + 2048 * 248 ≤ 281474976710656 := by omega
      simp [s0, s2, s3, ho, h1, hs, hv', happ, hbb]
      simpa [encSs_append, cF] using ih
theorem rest26 (n : Nat) (hn : n ≤ 900000) (hE : ∀ st, fuelS tk st 12 n → Con tk en o 60 [] encE (exprP tk n) st) (hS : ∀ st, fuelS tk st 20 n → Con tk en o 59 [] encS (stmtP tk n) st) (st : St) (hf1 : fuelS tk st 20 n) :
    ∃ b v s10, (∀ g : List Stm → Ex → Ab.Fn, runS (fun p6 => bindR (whileP (stmtP tk n) (kwB tk · kwR) n p6) fun b p7 => bindR (exprP tk n (p7 + 1)) fun v p8 => bindR (expR tk p8 [59]) fun _ p9 => bindR (expR tk p9 [125]) fun _ p10 => .ok (g b v, p10)) st = runS (fun p => .ok (g b v, p)) s10)
      ∧ ∀ (nm : List UInt8) (cx cy : Cap) (ps ls : List (List UInt8)) (H : Heap), o < H.length → finK F26 H.length (runF E1 H.length false c26_29 [(0, .ptr o 0), (2, .ptr H.length 0), (3, .ptr (H.length + 1) 0)] (H.set o (rdS tk en st) ++ [zF, cF nm (.sl cx (encStr ps)) (.sl cy (encStr ls)) .full []]))
        = some (encF ⟨nm, ps, ls, b, v⟩, H.set o (rdS tk en s10)) := by
  obtain ⟨b, hb, hlp⟩ := loop26 tk en o hL n hS n st (room_fuel tk hL hf1 (by omega)) hf1
  have hf2 := fuel_run tk hf1 (while_mo (stop := (kwB tk · kwR)) (stmt_mo tk n) n)
  have hr1 := fun (f : List Stm → Nat → Rs Ab.Fn) => runS_bind (f := f) hb
  generalize stR (runS (whileP (stmtP tk n) (kwB tk · kwR) n) st) = s7 at *
  have hf3 : fuelS tk (adv s7) 12 n := by
    intro q hq
    cases s7 with
    | error p => cases hq
    | ok p => cases hq; have := hf2 p rfl; omega
  obtain ⟨⟨vk, vn, vs, vo, vks⟩, hv, hval⟩ := hE _ hf3
  have hv' := app hv
  have h3 := app (expect25 tk en o hL (stR (runS (exprP tk n) (adv s7))) [59])
  have h4 := app (expect25 tk en o hL (expS tk (stR (runS (exprP tk n) (adv s7))) [59]) [125])
  simp [expS_eq] at h3 h4
  refine ⟨b, .mk vk vn vs vo vks, expS tk (expS tk (stR (runS (exprP tk n) (adv s7))) [59]) [125], ?_, ?_⟩
  · intro g
    rw [hr1, runS_bind_adv hval, runS_exp, runS_exp]
  · intro nm cx cy ps ls H ho
    obtain ⟨c', J', hb⟩ := hlp [] nm (.sl cx (encStr ps)) (.sl cy (encStr ls)) .full [] [(0, .ptr o 0), (2, .ptr H.length 0), (3, .ptr (H.length + 1) 0)] H ho (by simp; omega) rfl rfl rfl own_full
    simp at hb
    simp [F26, ho, hb, hv', h3, h4, encF, leavesE] <;> rfl
/-- what stands between two marks, if it does -/
theorem list_run {m : Nat} {s : St} {v : List (List UInt8)} (hval : valOk (runS (sepP tk (nameP tk) m) s) v) : runS (sepP tk (nameP tk) m) s = runS (fun p => .ok (v, p)) (stR (runS (sepP tk (nameP tk) m) s)) := by
  have _ := hL
  have := runS_bind (f := fun (v : List (List UInt8)) p => (.ok (v, p) : Rs (List (List UInt8)))) hval
  rw [← this]
  congr 1
  funext p
  rcases sepP tk (nameP tk) m p with q | ⟨v, q⟩ <;> rfl
theorem function26 (n : Nat) (hn : n ≤ 900000) (hn2 : tk.length + 2 ≤ n) (hE : ∀ st, fuelS tk st 12 n → Con tk en o 60 [] encE (exprP tk n) st) (hS : ∀ st, fuelS tk st 20 n → Con tk en o 59 [] encS (stmtP tk n) st) (st : St) (hf : fuelS tk st 20 n) :
    Con tk en o 26 [] encF (funcP tk n) st := by
  obtain ⟨nm, hv1, hval1⟩ := name_con tk en o hL st
  have hv1' := app hv1
  have hr1 := fun (f : List UInt8 → Nat → Rs Ab.Fn) => runS_bind (f := f) hval1
  have hf1 : fuelS tk (stR (runS (nameP tk) st)) 20 n := fuel_run tk hf (name_mo tk)
  generalize stR (runS (nameP tk) st) = s1 at *
  have h2 := app (expect25 tk en o hL s1 [40])
  simp [expS_eq] at h2
  have hf2 : fuelS tk (expS tk s1 [40]) 20 n := fuel_mono tk (fuel_exp tk hf1) (by omega)
  have hr2 := fun (f : Unit → Nat → Rs Ab.Fn) => runS_exp (tk := tk) (s := [40]) (f := f) (st := s1)
  generalize expS tk s1 [40] = s2 at *
  obtain ⟨m, rfl⟩ : ∃ m, n = m + 2 := ⟨n - 2, by omega⟩
  -- the parameters
  have hps : ∃ ps s3 cx, fuelS tk s3 20 (m + 2) ∧ runS (fun p2 => if symB tk p2 [41] = true then (.ok ([], p2) : Rs (List (List UInt8))) else sepP tk (nameP tk) (m + 2) p2) s2 = runS (fun p => .ok (ps, p)) s3 ∧
      ∀ (H : Heap), o < H.length → runF E1 H.length false c26_33 [(0, .ptr o 0), (2, .ptr H.length 0), (3, .ptr (H.length + 1) 0)] (H.set o (rdS tk en s2) ++ [zF, cF nm (.sl .full []) (.sl .full []) .full []])
        = runF E1 H.length false c26_31 [(0, .ptr o 0), (2, .ptr H.length 0), (3, .ptr (H.length + 1) 0)] (H.set o (rdS tk en (expS tk s3 [41])) ++ [zF, cF nm (.sl cx (encStr ps)) (.sl .full []) .full []]) := by
    have h3 := app (is57 tk en o s2 [41])
    have h4 := fun st => app (expect25 tk en o hL st [41])
    simp [expS_eq] at h4
    cases hs : stB s2 (symB tk · [41]) with
    | true =>
      simp [hs] at h3
      refine ⟨[], s2, .full, hf2, by rw [runS_ite, hs]; simp, ?_⟩
      intro H ho
      simp [ho, h3, h4, encStr, -q26_31]
    | false =>
      simp [hs] at h3
      obtain ⟨ps, hv, hval⟩ := names58 tk en o hL m (by omega) (by omega) s2
      have hv' := app hv
      refine ⟨ps, stR (runS (sepP tk (nameP tk) (m + 2)) s2), .none, fuel_run tk hf2 (sep_mo tk (name_mo tk) _), ?_, ?_⟩
      · rw [runS_ite, hs]
        simp only [Bool.false_eq_true, if_false]
        exact list_run tk hL hval
      · intro H ho
        simp [ho, h3, h4, hv', cF, -q26_31]
  obtain ⟨ps, s3, cx, hf3, hr3, hrun3⟩ := hps
  have hf4 : fuelS tk (expS tk s3 [41]) 20 (m + 2) := fuel_mono tk (fuel_exp tk hf3) (by omega)
  have hr4 := fun (f : Unit → Nat → Rs Ab.Fn) => runS_exp (tk := tk) (s := [41]) (f := f) (st := s3)
  generalize expS tk s3 [41] = s4 at *
  -- the locals
  have hls : ∃ ls s5 cy, fuelS tk s5 20 (m + 2) ∧ runS (fun p4 => if kwB tk p4 [118, 97, 114] = true then sepP tk (nameP tk) (m + 2) (p4 + 1) else (.ok ([], p4) : Rs (List (List UInt8)))) s4 = runS (fun p => .ok (ls, p)) s5 ∧
      ∀ (H : Heap), o < H.length → runF E1 H.length false c26_31 [(0, .ptr o 0), (2, .ptr H.length 0), (3, .ptr (H.length + 1) 0)] (H.set o (rdS tk en s4) ++ [zF, cF nm (.sl cx (encStr ps)) (.sl .full []) .full []])
        = runF E1 H.length false c26_29 [(0, .ptr o 0), (2, .ptr H.length 0), (3, .ptr (H.length + 1) 0)] (H.set o (rdS tk en (expS tk s5 [123])) ++ [zF, cF nm (.sl cx (encStr ps)) (.sl cy (encStr ls)) .full []]) := by
    have h3 := app (keyword22 tk en o hL s4 [118, 97, 114])
    have h4 := fun st => app (expect25 tk en o hL st [123])
    simp [expS_eq] at h4
    cases hs : stB s4 (kwB tk · [118, 97, 114]) with
    | false =>
      simp [hs] at h3
      refine ⟨[], s4, .full, hf4, by rw [runS_ite, hs]; simp, ?_⟩
      intro H ho
      simp [ho, h3, h4, encStr, -q26_29]
    | true =>
      simp [hs] at h3
      obtain ⟨ls, hv, hval⟩ := names58 tk en o hL m (by omega) (by omega) (adv s4)
      have hv' := app hv
      have hf5 : fuelS tk (adv s4) 20 (m + 2) := fuel_mono tk (fuel_adv tk hf4 hs (fun p hp => kw_lt tk hp)) (by omega)
      refine ⟨ls, stR (runS (sepP tk (nameP tk) (m + 2)) (adv s4)), .none, fuel_run tk hf5 (sep_mo tk (name_mo tk) _), ?_, ?_⟩
      · rw [runS_ite, hs]
        simp only [if_true]
        rw [← list_run tk hL hval]
        exact runS_adv (F := sepP tk (nameP tk) (m + 2))
      · intro H ho
        simp [ho, h3, h4, hv', cF, -q26_29]
  obtain ⟨ls, s5, cy, hf5, hr5, hrun5⟩ := hls
  have hf6 : fuelS tk (expS tk s5 [123]) 20 (m + 2) := fuel_mono tk (fuel_exp tk hf5) (by omega)
  have hr6 := fun (f : Unit → Nat → Rs Ab.Fn) => runS_exp (tk := tk) (s := [123]) (f := f) (st := s5)
  generalize expS tk s5 [123] = s6 at *
  obtain ⟨b, v, s10, hr7, hrun7⟩ := rest26 tk en o hL (m + 2) hn hE hS s6 hf6
  have hr : runS (funcP tk (m + 2)) st = runS (fun p => .ok (⟨nm, ps, ls, b, v⟩, p)) s10 := by
    unfold funcP
    refine (hr1 _).trans ?_
    refine (hr2 _).trans ?_
    refine (runS_bind (v := ps) (by rw [hr3]; simp)).trans ?_
    rw [hr3, stR_pure]
    refine (hr4 _).trans ?_
    refine (runS_bind (v := ls) (by rw [hr5]; simp)).trans ?_
    rw [hr5, stR_pure]
    refine (hr6 _).trans ?_
    exact hr7 fun b v => ⟨nm, ps, ls, b, v⟩
  refine ⟨⟨nm, ps, ls, b, v⟩, fun H ho => ?_, by rw [hr]; simp⟩
  rw [go (fn := F26) rfl rfl rfl, hr, stR_pure, ← hrun7 nm cx cy ps ls H ho, ← hrun5 H ho, ← hrun3 H ho]
  simp [F26, ho, hv1', h2, zF, cF, -q26_33]
end
end Go.Proofs.Ytkomfefpfalajaa
