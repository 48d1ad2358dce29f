/- The parser's lists, conditions and simple statements. -/
import Derived.Test.YtkomfefpfalajaaP3
import Derived.Test.YtkomfefpfalajaaAb7
namespace Go.Proofs.Ytkomfefpfalajaa
open Go Go.Proofs Ab
set_option maxRecDepth 100000
set_option linter.unusedSimpArgs false
set_option linter.unusedVariables false
section
variable {α β : Type}
theorem bind_run {r : Rs α} {f : α → Nat → Rs β} {v : α} (h : valOk r v) : bindR r f = runS (f v) (stR r) := by
  rcases r with q | ⟨w, q⟩
  · rfl
  · simp at h
    subst h
    rfl
theorem runS_bind {P : Nat → Rs α} {f : α → Nat → Rs β} {v : α} {st : St} (h : valOk (runS P st) v) : runS (fun p => bindR (P p) f) st = runS (f v) (stR (runS P st)) := by
  rw [← bind_run h]
  cases st <;> rfl
theorem runS_exp {tk : List Tok} {s : List UInt8} {f : Unit → Nat → Rs β} {st : St} : runS (fun p => bindR (expR tk p s) f) st = runS (f ()) (expS tk st s) := by
  cases st with
  | error p => simp [expS_error]
  | ok p =>
    unfold expR expS
    cases h : symB tk p s <;> simp [h]
theorem runS_ite {c : Nat → Bool} {A B : Nat → Rs α} {st : St} : runS (fun p => if c p = true then A p else B p) st = if stB st c = true then runS A st else runS B st := by
  cases st with
  | error p => simp
  | ok p => rfl
theorem runS_adv {F : Nat → Rs α} {st : St} : runS (fun p => F (p + 1)) st = runS F (adv st) := by
  cases st <;> rfl
@[simp] theorem stR_pure {v : α} {st : St} : stR (runS (fun p => (.ok (v, p) : Rs α)) st) = st := by
  cases st <;> rfl
@[simp] theorem valOk_pure {v : α} {st : St} : valOk (runS (fun p => (.ok (v, p) : Rs α)) st) v := by
  cases st <;> simp
end
section
variable (tk : List Tok) (en : Int) (o : Nat) (hL : tk.length < 4611686018427387904) (hT : ∀ p, (tokAt tk p).text.length ≤ 20000)
theorem fuel_mono {st : St} {r r' n n' : Nat} (h : fuelS tk st r n) (hr : r' + n ≤ r + n') : fuelS tk st r' n' := by
  intro p hp
  have := h p hp
  omega
theorem fuel_adv {st : St} {c : Nat → Bool} {r n : Nat} (h : fuelS tk st r n) (hc : stB st c = true) (hlt : ∀ p, c p = true → p < tk.length) : fuelS tk (adv st) (r + 40) n := by
  obtain ⟨p, rfl, hp⟩ := stB_true hc
  intro q hq
  cases hq
  have := h p rfl
  have := hlt p hp
  omega
theorem fuel_exp {st : St} {s : List UInt8} {r n : Nat} (h : fuelS tk st r n) : fuelS tk (expS tk st s) (r + 40) n := by
  unfold expS
  cases hc : stB st (symB tk · s) with
  | true => exact fuel_adv tk h hc (fun p hp => sym_lt tk hp)
  | false =>
    intro p hp
    cases st <;> simp at hp
theorem fuel_run {α : Type} {P : Nat → Rs α} {st : St} {r n : Nat} (h : fuelS tk st r n) (hP : ∀ p v q, P p = .ok (v, q) → p ≤ q) : fuelS tk (stR (runS P st)) r n := by
  intro q hq
  cases st with
  | error p => cases hq
  | ok p =>
    have := h p rfl
    rcases hx : P p with e | ⟨v, q'⟩
    · simp [hx] at hq
    · simp [hx] at hq
      have := hP _ _ _ hx
      omega
include hL hT
theorem small24 (st : St) : Con tk en o 24 [] (fun v => .int .i64 v) (smallP tk) st := by
  have h1 := app (next53' tk en o st)
  cases st with
  | error p =>
    have h5 := parse55 [] (by simp)
    refine ⟨0, fun H ho => ?_, by simp⟩
    rw [go (fn := F24) rfl rfl rfl]
    simp [F24, ho, h1, h5, Tok.zero, parseW, tupW] <;> rfl
  | ok p =>
    simp at h1
    have h5 := parse55 (tokAt tk p).text (by have := hT p; omega)
    cases hn : numB tk p with
    | false =>
      have hk : ¬ (tokAt tk p).kind = 2 := by intro h; simp [numB, h] at hn
      have hr : smallP tk p = .error p := by simp [smallP, hn]
      refine ⟨0, fun H ho => ?_, by simp [hr]⟩
      rw [go (fn := F24) rfl rfl rfl]
      cases hq : parseW (tokAt tk p).text with
      | none => simp [F24, ho, h1, h5, hk, hr, hq, tupW] <;> rfl
      | some v => simp [F24, ho, h1, h5, hk, hr, hq, tupW] <;> rfl
    | true =>
      have hk : (tokAt tk p).kind = 2 := by simpa [numB] using hn
      have hw := wrap_ic (n := p) (by have := num_lt tk hn; omega)
      cases hq : parseW (tokAt tk p).text with
      | none =>
        have hr : smallP tk p = .error p := by simp [smallP, hn, hq]
        refine ⟨0, fun H ho => ?_, by simp [hr]⟩
        rw [go (fn := F24) rfl rfl rfl]
        simp [F24, ho, h1, h5, hk, hr, hq, tupW] <;> rfl
      | some v =>
        by_cases hv : v ≤ 1000000
        · have hv' : ¬ 1000000 < v := by omega
          have hr : smallP tk p = .ok (v, p + 1) := by simp [smallP, hn, hq, hv]
          refine ⟨v, fun H ho => ?_, by simp [hr]⟩
          rw [go (fn := F24) rfl rfl rfl]
          simp [F24, ho, h1, h5, hk, hr, hq, tupW, hv', hw] <;> rfl
        · have hv' : 1000000 < v := by omega
          have hr : smallP tk p = .error p := by simp [smallP, hn, hq, hv]
          refine ⟨0, fun H ho => ?_, by simp [hr]⟩
          rw [go (fn := F24) rfl rfl rfl]
          simp [F24, ho, h1, h5, hk, hr, hq, tupW, hv'] <;> rfl
omit hT
theorem cond99 (n : Nat) (st : St) (hE : Con tk en o 60 [] encE (exprP tk n) (expS tk st [40])) : Con tk en o 99 [] encE (condP tk n) st := by
  obtain ⟨⟨k, m, w, op, ks⟩, hv, hval⟩ := hE
  have h1 := app (expect25 tk en o hL st [40])
  have h2 := app hv
  have h3 := app (expect25 tk en o hL (stR (runS (exprP tk n) (expS tk st [40]))) [41])
  have hr : runS (condP tk n) st = runS (fun p => .ok (.mk k m w op ks, p)) (expS tk (stR (runS (exprP tk n) (expS tk st [40]))) [41]) := by
    unfold condP
    rw [runS_exp, runS_bind hval, runS_exp]
  simp [expS_eq] at h1 h3
  refine ⟨.mk k m w op ks, fun H ho => ?_, by rw [hr]; simp⟩
  rw [go (fn := F99) rfl rfl rfl, hr, stR_pure]
  simp [F99, ho, h1, h2, h3] <;> rfl
theorem atCall124 (st : St) (H : Heap) (ho : o < H.length) : callF E1 124 [.ptr o 0] (H.set o (rdS tk en st)) = some (.bool (stB st (fun p => nmB tk p && symB tk (p + 1) [40])), H.set o (rdS tk en st)) := by
  have h1 := atName54 tk en o st
  rw [go (fn := F124) rfl rfl rfl]
  cases hb : stB st (nmB tk) with
  | false =>
    have hb2 : stB st (fun p => nmB tk p && symB tk (p + 1) [40]) = false := by
      cases st with
      | error p => rfl
      | ok p => simp at hb ⊢; simp [hb]
    simp [hb] at h1
    simp [F124, ho, h1, hb2] <;> rfl
  | true =>
    obtain ⟨p, rfl, hp⟩ := stB_true hb
    have hlt := nm_lt tk hp
    have hw := wrap_ic (n := p) (by omega)
    simp [hp] at h1
    by_cases hl : tk.length ≤ p + 1
    · have hs : symB tk (p + 1) [40] = false := by
        cases hs : symB tk (p + 1) [40] with
        | false => rfl
        | true => have := sym_lt tk hs; omega
      simp [F124, ho, h1, hp, hw, hl, hs] <;> rfl
    · have hg := tokAt_get tk (p := p + 1) (by omega)
      by_cases hk : (tokAt tk (p + 1)).kind = 3
      · simp [F124, ho, h1, hp, hw, hl, hg, encT_mk, symB, hk] <;> rfl
      · simp [F124, ho, h1, hp, hw, hl, hg, encT_mk, symB, hk] <;> rfl
end
end Go.Proofs.Ytkomfefpfalajaa
