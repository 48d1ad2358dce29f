/- The parser's lists, conditions and simple statements. -/
import Derived.Test.YtkomfefpfalajaaP0
import Derived.Test.YtkomfefpfalajaaAb7
namespace Go.Proofs.Ytkomfefpfalajaa
open Go Go.Proofs Ab
set_option maxRecDepth 100000
set_option linter.unusedSimpArgs false
set_option linter.unusedVariables false
section
variable {α β : Type}
theorem bind_run {r : Rs α} {f : α → Nat → Rs β} {v : α} (h : valOk r v) : bindR r f = runS (f v) (stR r) := by
  rcases r with q | ⟨w, q⟩
  · rfl
  · simp at h
    subst h
    rfl
theorem runS_bind {P : Nat → Rs α} {f : α → Nat → Rs β} {v : α} {st : St} (h : valOk (runS P st) v) : runS (fun p => bindR (P p) f) st = runS (f v) (stR (runS P st)) := by
  rw [← bind_run h]
  cases st <;> rfl
theorem runS_exp {tk : List Tok} {s : List UInt8} {f : Unit → Nat → Rs β} {st : St} : runS (fun p => bindR (expR tk p s) f) st = runS (f ()) (expS tk st s) := by
  cases st with
  | error p => simp [expS_error]
  | ok p =>
    unfold expR expS
    cases h : symB tk p s <;> simp [h]
theorem runS_ite {c : Nat → Bool} {A B : Nat → Rs α} {st : St} : runS (fun p => if c p = true then A p else B p) st = if stB st c = true then runS A st else runS B st := by
  cases st with
  | error p => simp
  | ok p => rfl
theorem runS_adv {F : Nat → Rs α} {st : St} : runS (fun p => F (p + 1)) st = runS F (adv st) := by
  cases st <;> rfl
@[simp] theorem stR_pure {v : α} {st : St} : stR (runS (fun p => (.ok (v, p) : Rs α)) st) = st := by
  cases st <;> rfl
@[simp] theorem valOk_pure {v : α} {st : St} : valOk (runS (fun p => (.ok (v, p) : Rs α)) st) v := by
  cases st <;> simp
end
section
variable (tk : List Tok) (en : Int) (o : Nat) (hL : tk.length < 4611686018427387904) (hT : ∀ p, (tokAt tk p).text.length ≤ 20000)
theorem fuel_mono {st : St} {r r' n n' : Nat} (h : fuelS tk st r n) (hr : r' + n ≤ r + n') : fuelS tk st r' n' := by
  intro p hp
  have := h p hp
  omega
theorem fuel_adv {st : St} {c : Nat → Bool} {r n : Nat} (h : fuelS tk st r n) (hc : stB st c = true) (hlt : ∀ p, c p = true → p < tk.length) : fuelS tk (adv st) (r + 40) n := by
  obtain ⟨p, rfl, hp⟩ := stB_true hc
  intro q hq
  cases hq
  have := h p rfl
  have := hlt p hp
  omega
theorem fuel_exp {st : St} {s : List UInt8} {r n : Nat} (h : fuelS tk st r n) : fuelS tk (expS tk st s) (r + 40) n := by
  unfold expS
  cases hc : stB st (symB tk · s) with
  | true => exact fuel_adv tk h hc (fun p hp => sym_lt tk hp)
  | false =>
    intro p hp
    cases st <;> simp at hp
theorem fuel_run {α : Type} {P : Nat → Rs α} {st : St} {r n : Nat} (h : fuelS tk st r n) (hP : ∀ p v q, P p = .ok (v, q) → p ≤ q) : fuelS tk (stR (runS P st)) r n := by
  intro q hq
  cases st with
  | error p => cases hq
  | ok p =>
    have := h p rfl
    rcases hx : P p with e | ⟨v, q'⟩
    · simp [hx] at hq
    · simp [hx] at hq
      have := hP _ _ _ hx
      omega
include hL hT
theorem small24 (st : St) : Con tk en o 24 [] (fun v => .int .i64 v) (smallP tk) st := by
  have h1 := app (next53' tk en o st)
  cases st with
  | error p =>
    have h5 := parse55 [] (by simp)
    refine ⟨0, fun H ho => ?_, by simp⟩
    rw [go (fn := F24) rfl rfl rfl]
    simp [F24, ho, h1, h5, Tok.zero, parseW, tupW] <;> rfl
  | ok p =>
    simp at h1
    have h5 := parse55 (tokAt tk p).text (by have := hT p; omega)
    cases hn : numB tk p with
    | false =>
      have hk : ¬ (tokAt tk p).kind = 2 := by intro h; simp [numB, h] at hn
      have hr : smallP tk p = .error p := by simp [smallP, hn]
      refine ⟨0, fun H ho => ?_, by simp [hr]⟩
      rw [go (fn := F24) rfl rfl rfl]
      cases hq : parseW (tokAt tk p).text with
      | none => simp [F24, ho, h1, h5, hk, hr, hq, tupW] <;> rfl
      | some v => simp [F24, ho, h1, h5, hk, hr, hq, tupW] <;> rfl
    | true =>
      have hk : (tokAt tk p).kind = 2 := by simpa [numB] using hn
      have hw := wrap_ic (n := p) (by have := num_lt tk hn; omega)
      cases hq : parseW (tokAt tk p).text with
      | none =>
        have hr : smallP tk p = .error p := by simp [smallP, hn, hq]
        refine ⟨0, fun H ho => ?_, by simp [hr]⟩
        rw [go (fn := F24) rfl rfl rfl]
        simp [F24, ho, h1, h5, hk, hr, hq, tupW] <;> rfl
      | some v =>
        by_cases hv : v ≤ 1000000
        · have hv' : ¬ 1000000 < v := by omega
          have hr : smallP tk p = .ok (v, p + 1) := by simp [smallP, hn, hq, hv]
          refine ⟨v, fun H ho => ?_, by simp [hr]⟩
          rw [go (fn := F24) rfl rfl rfl]
          simp [F24, ho, h1, h5, hk, hr, hq, tupW, hv', hw] <;> rfl
        · have hv' : 1000000 < v := by omega
          have hr : smallP tk p = .error p := by simp [smallP, hn, hq, hv]
          refine ⟨0, fun H ho => ?_, by simp [hr]⟩
          rw [go (fn := F24) rfl rfl rfl]
          simp [F24, ho, h1, h5, hk, hr, hq, tupW, hv'] <;> rfl
omit hT
theorem cond99 (n : Nat) (st : St) (hE : Con tk en o 60 [] encE (exprP tk n) (expS tk st [40])) : Con tk en o 99 [] encE (condP tk n) st := by
  obtain ⟨⟨k, m, w, op, ks⟩, hv, hval⟩ := hE
  have h1 := app (expect25 tk en o hL st [40])
  have h2 := app hv
  have h3 := app (expect25 tk en o hL (stR (runS (exprP tk n) (expS tk st [40]))) [41])
  have hr : runS (condP tk n) st = runS (fun p => .ok (.mk k m w op ks, p)) (expS tk (stR (runS (exprP tk n) (expS tk st [40]))) [41]) := by
    unfold condP
    rw [runS_exp, runS_bind hval, runS_exp]
  simp [expS_eq] at h1 h3
  refine ⟨.mk k m w op ks, fun H ho => ?_, by rw [hr]; simp⟩
  rw [go (fn := F99) rfl rfl rfl, hr, stR_pure]
  simp [F99, ho, h1, h2, h3] <;> rfl
theorem atCall124 (st : St) (H : Heap) (ho : o < H.length) : callF E1 124 [.ptr o 0] (H.set o (rdS tk en st)) = some (.bool (stB st (fun p => nmB tk p && symB tk (p + 1) [40])), H.set o (rdS tk en st)) := by
  have h1 := atName54 tk en o st
  rw [go (fn := F124) rfl rfl rfl]
  cases hb : stB st (nmB tk) with
  | false =>
    have hb2 : stB st (fun p => nmB tk p && symB tk (p + 1) [40]) = false := by
      cases st with
      | error p => rfl
      | ok p => simp at hb ⊢; simp [hb]
    simp [hb] at h1
    simp [F124, ho, h1, hb2] <;> rfl
  | true =>
    obtain ⟨p, rfl, hp⟩ := stB_true hb
    have hlt := nm_lt tk hp
    have hw := wrap_ic (n := p) (by omega)
    simp [hp] at h1
    by_cases hl : tk.length ≤ p + 1
    · have hs : symB tk (p + 1) [40] = false := by
        cases hs : symB tk (p + 1) [40] with
        | false => rfl
        | true => have := sym_lt tk hs; omega
      simp [F124, ho, h1, hp, hw, hl, hs] <;> rfl
    · have hg := tokAt_get tk (p := p + 1) (by omega)
      by_cases hk : (tokAt tk (p + 1)).kind = 3
      · simp [F124, ho, h1, hp, hw, hl, hg, encT_mk, symB, hk] <;> rfl
      · simp [F124, ho, h1, hp, hw, hl, hg, encT_mk, symB, hk] <;> rfl
end
end Go.Proofs.Ytkomfefpfalajaa

namespace Go.Proofs.Ytkomfefpfalajaa
open Go Go.Proofs Ab
set_option maxRecDepth 100000
set_option linter.unusedSimpArgs false
set_option linter.unusedVariables false
section
variable (tk : List Tok) {α : Type} (P : Nat → Rs α)
def tailP (m p : Nat) : Rs (List α) := if symB tk p [44] then sepP tk P m (p + 1) else .ok ([], p)
theorem sep_eq (m p : Nat) : sepP tk P (m + 1) p = bindR (P p) fun v p1 => bindR (tailP tk P m p1) fun l p2 => .ok (v :: l, p2) := by
  rw [sepP]
  rcases P p with q | ⟨v, p1⟩
  · rfl
  · simp only [bindR_ok, tailP]
    cases symB tk p1 [44] <;> simp
theorem tail_run {m p : Nat} {v : α} {l : List α} (hp : symB tk p [44] = true) (hval : valOk (P (p + 1)) v) (hl : valOk (runS (tailP tk P m) (stR (P (p + 1)))) l) : tailP tk P (m + 1) p = runS (fun p => .ok (v :: l, p)) (stR (runS (tailP tk P m) (stR (P (p + 1))))) := by
  rw [tailP, if_pos hp, sep_eq, bind_run hval]
  exact runS_bind hl
theorem sep_run {m : Nat} {st : St} {v : α} {l : List α} (hval : valOk (runS P st) v) (hl : valOk (runS (tailP tk P m) (stR (runS P st))) l) : runS (sepP tk P (m + 1)) st = runS (fun p => .ok (v :: l, p)) (stR (runS (tailP tk P m) (stR (runS P st)))) := by
  have : sepP tk P (m + 1) = fun p => bindR (P p) fun v p1 => bindR (tailP tk P m p1) fun l p2 => .ok (v :: l, p2) := funext (sep_eq tk P m)
  rw [this, runS_bind hval]
  exact runS_bind hl
end
@[simp] theorem encEs_size' (l : List Ex) : sizeOk 5 (encEs l) = true := encEs_size l
@[simp] theorem encEs_length' (l : List Ex) : (encEs l).length = l.length := encEs_length l
section
variable (tk : List Tok) (en : Int) (o : Nat) (hL : tk.length < 4611686018427387904) (hT : ∀ p, (tokAt tk p).text.length ≤ 20000)
def RoomS (st : St) (m : Nat) : Prop := ∀ p, st = .ok p → tk.length - p < m
theorem room_run {α : Type} {P : Nat → Rs α} {p m : Nat} (h : tk.length - p < m + 1) (hp : p < tk.length) (hP : ∀ p v q, P p = .ok (v, q) → p ≤ q) : RoomS tk (stR (runS P (.ok (p + 1)))) m := by
  intro q hq
  simp at hq
  rcases hx : P (p + 1) with e | ⟨v, q'⟩
  · simp [hx] at hq
  · simp [hx] at hq
    have := hP _ _ _ hx
    omega
include hL
theorem name_con (st : St) : Con tk en o 23 [] AV.str (nameP tk) st := by
  refine ⟨if stB st (nmB tk) then (peek tk st).text else [], fun H ho => ?_, ?_⟩
  · rw [name23 tk en o hL st H ho]
    cases st with
    | error p => simp
    | ok p => cases h : nmB tk p <;> simp [nameP, h]
  · cases st with
    | error p => simp
    | ok p => cases h : nmB tk p <;> simp [nameP, h]
theorem loop58 : ∀ (m : Nat) (st : St), RoomS tk st m → ∃ l, valOk (runS (tailP tk (nameP tk) m) st) l ∧ ∀ (acc : List (List UInt8)) (c : Cap) (J : Heap) (s : Slots) (H : Heap), o < H.length → acc.length + m ≤ 1000000 → get s 0 = .ptr o 0 → get s 3 = .sl c (encStr acc) → Own H.length J 1 c acc.length →
    ∃ c' J', blkK (some [3]) 0 (runF E1 H.length false c58_8 s (H.set o (rdS tk en st) ++ J)) = some (.nrm, [(3, .sl c' (encStr (acc ++ l)))], H.set o (rdS tk en (stR (runS (tailP tk (nameP tk) m) st))) ++ J')
  | m, st, hm => by
    have h1 := app (accept56 tk en o hL st [44])
    cases hs : stB st (symB tk · [44]) with
    | false =>
      have hr : runS (tailP tk (nameP tk) m) st = runS (fun p => .ok ([], p)) st := by
        unfold tailP
        rw [runS_ite, hs]
        simp
      refine ⟨[], by rw [hr]; simp, ?_⟩
      intro acc c J s H ho hb s0 s3 hown
      refine ⟨c, J, ?_⟩
      rw [hr, stR_pure, q58_8]
      simp [hs] at h1
      simp [s0, s3, ho, h1]
    | true =>
      obtain ⟨p, rfl, hp⟩ := stB_true hs
      have hlt := sym_lt tk hp
      have hm' := hm p rfl
      match m, hm' with
      | m + 1, hm' =>
        obtain ⟨v, hv, hval⟩ := name_con tk en o hL (.ok (p + 1))
        obtain ⟨l, hl, ih⟩ := loop58 m (stR (runS (nameP tk) (.ok (p + 1)))) (room_run tk hm' hlt (fun p v q h => by have := nameP_ok tk h; omega))
        have hr : runS (tailP tk (nameP tk) (m + 1)) (.ok p) = runS (fun p => .ok (v :: l, p)) (stR (runS (tailP tk (nameP tk) m) (stR (runS (nameP tk) (.ok (p + 1)))))) := by
          exact tail_run tk (nameP tk) hp hval hl
        refine ⟨v :: l, by rw [hr]; simp, ?_⟩
        intro acc c J s H ho hb s0 s3 hown
        have hv' := app hv
        simp [hs] at h1
        obtain ⟨c', J', happ, hown'⟩ := appC_ownS (n0 := H.length) (g := false) (sz := 1) (o := o) (S := rdS tk en (stR (runS (nameP tk) (.ok (p + 1))))) (H := H) (X := []) (J := J) (xs := encStr acc) (ys := [.str v]) (c := c) (Nat.le_refl _) (by simpa using hown)
        simp at happ hown'
        obtain ⟨c2, J2, ih⟩ := ih (acc ++ [v]) c' J' [(0, .ptr o 0), (3, .sl c' (encStr (acc ++ [v])))] H ho (by simp; omega) rfl rfl (by simpa using hown')
        refine ⟨c2, J2, ?_⟩
        rw [hr, stR_pure, q58_8]
        have hbb : 2 * ((acc.length + 1) * 16) + 2048 * 16 ≤ 281474976710656 := by omega
        simp [s0, s3, ho, h1, hv', happ, hbb]
        simpa [encStr] using ih
theorem names58 (m : Nat) (hm : tk.length ≤ m) (hm2 : m ≤ 900000) (st : St) : Con tk en o 58 [] (fun l => .sl .none (encStr l)) (sepP tk (nameP tk) (m + 2)) st := by
  obtain ⟨v, hv, hval⟩ := name_con tk en o hL st
  obtain ⟨l, hl, hlp⟩ := loop58 tk en o hL (m + 1) (stR (runS (nameP tk) st)) (by intro p hp; omega)
  have hr := sep_run tk (nameP tk) hval hl
  have hv' := app hv
  refine ⟨v :: l, fun H ho => ?_, by rw [hr]; simp⟩
  obtain ⟨c', J', hb⟩ := hlp [v] .full [] [(0, .ptr o 0), (3, .sl .full (encStr [v]))] H ho (by simp; omega) rfl rfl own_full
  rw [go (fn := F58) rfl rfl rfl, hr, stR_pure]
  simp [encStr] at hb
  simp [F58, ho, hv, hv', hb, encStr] <;> rfl
theorem room_fuel {st : St} {r n : Nat} (h : fuelS tk st r n) (hr : 0 < r) : RoomS tk st n := by
  have _ := hL
  intro p hp
  have := h p hp
  omega
theorem loop125 (n : Nat) (hE : ∀ st, fuelS tk st 12 n → Con tk en o 60 [] encE (exprP tk n) st) : ∀ (m : Nat) (st : St), RoomS tk st m → fuelS tk st 12 n → ∃ l, valOk (runS (tailP tk (exprP tk n) m) st) l ∧ ∀ (acc : List Ex) (c : Cap) (J : Heap) (s : Slots) (H : Heap), o < H.length → acc.length + m ≤ 1000000 → get s 0 = .ptr o 0 → get s 3 = .sl c (encEs acc) → Own H.length J 5 c acc.length →
    ∃ c' J', blkK (some [0, 3]) 0 (runF E1 H.length false c125_11 s (H.set o (rdS tk en st) ++ J)) = some (.nrm, [(0, .ptr o 0), (3, .sl c' (encEs (acc ++ l)))], H.set o (rdS tk en (stR (runS (tailP tk (exprP tk n) m) st))) ++ J')
  | m, st, hm, hf => by
    have h1 := app (accept56 tk en o hL st [44])
    cases hs : stB st (symB tk · [44]) with
    | false =>
      have hr : runS (tailP tk (exprP tk n) m) st = runS (fun p => .ok ([], p)) st := by
        unfold tailP
        rw [runS_ite, hs]
        simp
      refine ⟨[], by rw [hr]; simp, ?_⟩
      intro acc c J s H ho hb s0 s3 hown
      refine ⟨c, J, ?_⟩
      rw [hr, stR_pure, q125_11]
      simp [hs] at h1
      simp [s0, s3, ho, h1]
    | true =>
      obtain ⟨p, rfl, hp⟩ := stB_true hs
      have hlt := sym_lt tk hp
      have hm' := hm p rfl
      have hf' := hf p rfl
      match m, hm' with
      | m + 1, hm' =>
        have hf1 : fuelS tk (.ok (p + 1)) 12 n := by intro q hq; cases hq; omega
        have hmono : ∀ p v q, exprP tk n p = .ok (v, q) → p ≤ q := fun p v q h => Nat.le_of_lt ((prog tk n).1 _ _ _ h)
        obtain ⟨⟨k, j, w, op, ks⟩, hv, hval⟩ := hE _ hf1
        obtain ⟨l, hl, ih⟩ := loop125 n hE m (stR (runS (exprP tk n) (.ok (p + 1)))) (room_run tk hm' hlt hmono) (fuel_run tk hf1 hmono)
        have hr : runS (tailP tk (exprP tk n) (m + 1)) (.ok p) = runS (fun p => .ok (.mk k j w op ks :: l, p)) (stR (runS (tailP tk (exprP tk n) m) (stR (runS (exprP tk n) (.ok (p + 1)))))) := by
          exact tail_run tk (exprP tk n) hp hval hl
        refine ⟨.mk k j w op ks :: l, by rw [hr]; simp, ?_⟩
        intro acc c J s H ho hb s0 s3 hown
        have hv' := app hv
        simp [hs] at h1
        obtain ⟨c', J', happ, hown'⟩ := appC_ownS (n0 := H.length) (g := false) (sz := 5) (o := o) (S := rdS tk en (stR (runS (exprP tk n) (.ok (p + 1))))) (H := H) (X := []) (J := J) (xs := encEs acc) (ys := [encE (.mk k j w op ks)]) (c := c) (Nat.le_refl _) (by simpa using hown)
        simp at happ hown'
        obtain ⟨c2, J2, ih⟩ := ih (acc ++ [.mk k j w op ks]) c' J' [(0, .ptr o 0), (3, .sl c' (encEs (acc ++ [.mk k j w op ks])))] H ho (by simp; omega) rfl rfl (by simpa using hown')
        refine ⟨c2, J2, ?_⟩
        rw [hr, stR_pure, q125_11]
        have hbb : 2 * ((acc.length + 1) * 64) + 2048 * 64 ≤ 281474976710656 := by omega
        simp [s0, s3, ho, h1, hv', happ, hbb]
        simpa [encEs_append] using ih
theorem args125 (n : Nat) (hn1 : 1 ≤ n) (hn : n ≤ 900000) (hE : ∀ st, fuelS tk st 12 n → Con tk en o 60 [] encE (exprP tk n) st) (st : St) (hf : fuelS tk st 12 n) : Con tk en o 125 [] (fun l => .sl .none (encEs l)) (argsP tk n) st := by
  have g1 := expect25 tk en o hL st [40]
  have h1 := app g1
  have g2 := is57 tk en o (expS tk st [40]) [41]
  have h2 := app g2
  have g3 := fun st => expect25 tk en o hL st [41]
  have h3 := fun st => app (g3 st)
  simp [expS_eq] at h1 h3 g1 g3
  have hf1 := fuel_exp tk (s := [40]) hf
  cases hs : stB (expS tk st [40]) (symB tk · [41]) with
  | true =>
    have hr : runS (argsP tk n) st = runS (fun p => .ok ([], p)) (expS tk (expS tk st [40]) [41]) := by
      unfold argsP
      rw [runS_exp]
      have hc : runS (fun p1 => if symB tk p1 [41] = true then (.ok ([], p1) : Rs (List Ex)) else sepP tk (exprP tk n) n p1) (expS tk st [40]) = runS (fun p => .ok ([], p)) (expS tk st [40]) := by
        rw [runS_ite, hs]; simp
      rw [runS_bind (v := []) (by rw [hc]; simp), hc, stR_pure, runS_exp]
    refine ⟨[], fun H ho => ?_, by rw [hr]; simp⟩
    rw [go (fn := F125) rfl rfl rfl, hr, stR_pure]
    simp [hs] at h2 g2
    simp [F125, ho, g1, g2, g3, h1, h2, h3] <;> rfl
  | false =>
    have hf2 : fuelS tk (expS tk st [40]) 12 n := fuel_mono tk hf1 (by omega)
    obtain ⟨⟨k, j, w, op, ks⟩, hv, hval⟩ := hE _ hf2
    have hmono : ∀ p v q, exprP tk n p = .ok (v, q) → p ≤ q := fun p v q h => Nat.le_of_lt ((prog tk n).1 _ _ _ h)
    obtain ⟨m, rfl⟩ : ∃ m, n = m + 1 := ⟨n - 1, by omega⟩
    have hf3 := fuel_run tk hf2 hmono
    obtain ⟨l, hl, hlp⟩ := loop125 tk en o hL (m + 1) hE m (stR (runS (exprP tk (m + 1)) (expS tk st [40]))) (by intro p hp; have := hf3 p hp; omega) hf3
    have hr1 := sep_run tk (exprP tk (m + 1)) hval hl
    have hr : runS (argsP tk (m + 1)) st = runS (fun p => .ok (.mk k j w op ks :: l, p)) (expS tk (stR (runS (tailP tk (exprP tk (m + 1)) m) (stR (runS (exprP tk (m + 1)) (expS tk st [40]))))) [41]) := by
      unfold argsP
      rw [runS_exp]
      have hc : runS (fun p1 => if symB tk p1 [41] = true then (.ok ([], p1) : Rs (List Ex)) else sepP tk (exprP tk (m + 1)) (m + 1) p1) (expS tk st [40]) = runS (fun p => .ok (.mk k j w op ks :: l, p)) (stR (runS (tailP tk (exprP tk (m + 1)) m) (stR (runS (exprP tk (m + 1)) (expS tk st [40]))))) := by
        rw [runS_ite, hs]
        simp only [Bool.false_eq_true, if_false]
        exact hr1
      rw [runS_bind (v := .mk k j w op ks :: l) (by rw [hc]; simp), hc, stR_pure, runS_exp]
    refine ⟨.mk k j w op ks :: l, fun H ho => ?_, by rw [hr]; simp⟩
    have hv' := app hv
    rw [go (fn := F125) rfl rfl rfl, hr, stR_pure]
    simp [hs] at h2 g2
    obtain ⟨c1, J1, happ, hown⟩ := appC_ownS (n0 := H.length) (g := false) (sz := 5) (o := o) (S := rdS tk en (stR (runS (exprP tk (m + 1)) (expS tk st [40])))) (H := H) (X := []) (J := []) (xs := []) (ys := [encE (.mk k j w op ks)]) (c := .full) (Nat.le_refl _) own_full
    obtain ⟨c', J', hb⟩ := hlp [.mk k j w op ks] c1 J1 [(0, .ptr o 0), (3, .sl c1 (encEs [.mk k j w op ks]))] H ho (by simp; omega) rfl rfl (by simpa using hown)
    simp at hb happ
    simp [F125, ho, g1, g2, g3, h1, h2, h3, hv, hv', happ, hb] <;> rfl
end
end Go.Proofs.Ytkomfefpfalajaa

namespace Go.Proofs.Ytkomfefpfalajaa
open Go Go.Proofs Ab
set_option maxRecDepth 100000
set_option linter.unusedSimpArgs false
set_option linter.unusedVariables false
attribute [simp] encS_mk encSs_nil encSs_cons
section
variable (tk : List Tok) (en : Int) (o : Nat) (hL : tk.length < 4611686018427387904) (hT : ∀ p, (tokAt tk p).text.length ≤ 20000)
theorem runS_bind_adv {α β : Type} {P : Nat → Rs α} {f : α → Nat → Rs β} {st : St} {v : α} (h : valOk (runS P (adv st)) v) : runS (fun p => bindR (P (p + 1)) f) st = runS (f v) (stR (runS P (adv st))) := by
  rw [← runS_bind h]
  cases st <;> rfl
include hL hT
theorem simple101 (n : Nat) (hn1 : 1 ≤ n) (hn : n ≤ 900000) (hE : ∀ st, fuelS tk st 12 n → Con tk en o 60 [] encE (exprP tk n) st) (st : St) (hf : fuelS tk st 13 n) : Con tk en o 101 [] encS (simpleP tk n) st := by
  have k1 := keyword22 tk en o hL st [111, 117, 116]
  have k1' := app k1
  have k2 := keyword22 tk en o hL st [116, 114, 97, 112]
  have k2' := app k2
  cases hs1 : stB st (kwB tk · [111, 117, 116]) with
  | true =>
    simp [hs1] at k1 k1'
    have hf1 : fuelS tk (adv st) 12 n := fuel_mono tk (fuel_adv tk hf hs1 (fun p hp => kw_lt tk hp)) (by omega)
    obtain ⟨⟨k, j, w, op, ks⟩, hv, hval⟩ := hE _ hf1
    have hv' := app hv
    have hr : runS (simpleP tk n) st = runS (fun p => .ok (outS (.mk k j w op ks), p)) (stR (runS (exprP tk n) (adv st))) := by
      unfold simpleP
      rw [runS_ite, hs1]
      exact runS_bind_adv hval
    refine ⟨outS (.mk k j w op ks), fun H ho => ?_, by rw [hr]; simp⟩
    rw [go (fn := F101) rfl rfl rfl, hr, stR_pure]
    simp [F101, ho, k1, k1', hv, hv', outS, zeroE] <;> rfl
  | false =>
  cases hs2 : stB st (kwB tk · [116, 114, 97, 112]) with
  | true =>
    simp [hs1] at k1 k1'
    simp [hs2] at k2 k2'
    obtain ⟨v, hv, hval⟩ := small24 tk en o hL hT (adv st)
    have hv' := app hv
    have hr : runS (simpleP tk n) st = runS (fun p => .ok (trapS v, p)) (stR (runS (smallP tk) (adv st))) := by
      unfold simpleP
      rw [runS_ite, hs1]
      simp only [Bool.false_eq_true, if_false]
      rw [runS_ite, hs2]
      exact runS_bind_adv hval
    refine ⟨trapS v, fun H ho => ?_, by rw [hr]; simp⟩
    rw [go (fn := F101) rfl rfl rfl, hr, stR_pure]
    simp [F101, ho, k1, k1', k2, k2', hv, hv', trapS, zeroE] <;> rfl
  | false =>
    simp [hs1] at k1 k1'
    simp [hs2] at k2 k2'
    obtain ⟨s, hsv, hsval⟩ := name_con tk en o hL st
    have hsv' := app hsv
    have hf1 : fuelS tk (stR (runS (nameP tk) st)) 13 n := fuel_run tk hf (fun p v q h => by have := nameP_ok tk h; omega)
    have hbase : runS (simpleP tk n) st = runS (fun p1 => if symB tk p1 [91] then bindR (exprP tk n (p1 + 1)) fun a p2 => bindR (expR tk p2 [93]) fun _ p3 => bindR (expR tk p3 [61]) fun _ p4 => bindR (exprP tk n p4) fun v p5 => .ok (storeS s a v, p5)
        else bindR (expR tk p1 [61]) fun _ p2 =>
          if nmB tk p2 && symB tk (p2 + 1) [40] then bindR (argsP tk n (p2 + 1)) fun l p3 => .ok (callS s (tokAt tk p2).text l, p3)
          else bindR (exprP tk n p2) fun v p3 => .ok (assignS s v, p3)) (stR (runS (nameP tk) st)) := by
      unfold simpleP
      rw [runS_ite, hs1]
      simp only [Bool.false_eq_true, if_false]
      rw [runS_ite, hs2]
      simp only [Bool.false_eq_true, if_false]
      rw [runS_bind hsval]
    generalize stR (runS (nameP tk) st) = st1 at *
    have a1 := accept56 tk en o hL st1 [91]
    have a1' := app a1
    cases hs3 : stB st1 (symB tk · [91]) with
    | true =>
      simp [hs3] at a1 a1'
      have hf2 : fuelS tk (adv st1) 12 n := fuel_mono tk (fuel_adv tk hf1 hs3 (fun p hp => sym_lt tk hp)) (by omega)
      obtain ⟨⟨k, j, w, op, ks⟩, hv, hval⟩ := hE _ hf2
      have hmono : ∀ p v q, exprP tk n p = .ok (v, q) → p ≤ q := fun p v q h => Nat.le_of_lt ((prog tk n).1 _ _ _ h)
      have hf3 := fuel_run tk hf2 hmono
      have hr1 := fun (f : Ex → Nat → Rs Stm) => runS_bind_adv (f := f) hval
      generalize stR (runS (exprP tk n) (adv st1)) = st2 at *
      have hv' := app hv
      have e1 := app (expect25 tk en o hL st2 [93])
      have e2 := app (expect25 tk en o hL (expS tk st2 [93]) [61])
      simp [expS_eq] at e1 e2
      have hf4 : fuelS tk (expS tk (expS tk st2 [93]) [61]) 12 n := fuel_mono tk (fuel_exp tk (fuel_exp tk hf3)) (by omega)
      obtain ⟨⟨x2, j2, w2, op2, ks2⟩, hv2, hval2⟩ := hE _ hf4
      have hv2' := app hv2
      have hr : runS (simpleP tk n) st = runS (fun p => .ok (storeS s (.mk k j w op ks) (.mk x2 j2 w2 op2 ks2), p)) (stR (runS (exprP tk n) (expS tk (expS tk st2 [93]) [61]))) := by
        rw [hbase, runS_ite, hs3]
        simp only [if_true]
        rw [hr1, runS_exp, runS_exp, runS_bind hval2]
      refine ⟨storeS s (.mk k j w op ks) (.mk x2 j2 w2 op2 ks2), fun H ho => ?_, by rw [hr]; simp⟩
      rw [go (fn := F101) rfl rfl rfl, hr, stR_pure]
      simp [F101, ho, k1, k1', k2, k2', hsv, hsv', a1, a1', hv', e1, e2, hv2', storeS] <;> rfl
    | false =>
      simp [hs3] at a1 a1'
      have e1 := app (expect25 tk en o hL st1 [61])
      simp [expS_eq] at e1
      have hf2 : fuelS tk (expS tk st1 [61]) 12 n := fuel_mono tk (fuel_exp tk hf1) (by omega)
      have hbase2 : runS (simpleP tk n) st = runS (fun p2 =>
          if nmB tk p2 && symB tk (p2 + 1) [40] then bindR (argsP tk n (p2 + 1)) fun l p3 => .ok (callS s (tokAt tk p2).text l, p3)
          else bindR (exprP tk n p2) fun v p3 => .ok (assignS s v, p3)) (expS tk st1 [61]) := by
        rw [hbase, runS_ite, hs3]
        simp only [Bool.false_eq_true, if_false]
        rw [runS_exp]
      generalize expS tk st1 [61] = st2 at *
      have c1 := app (atCall124 tk en o hL st2)
      cases hs4 : stB st2 (fun p => nmB tk p && symB tk (p + 1) [40]) with
      | true =>
        simp [hs4] at c1
        obtain ⟨p2, rfl, hp2⟩ := stB_true hs4
        simp only [Bool.and_eq_true] at hp2
        have hlt := nm_lt tk hp2.1
        have n1 := app (name23 tk en o hL (.ok p2))
        simp [hp2.1] at n1
        have hf3 : fuelS tk (.ok (p2 + 1)) 12 n := by intro q hq; cases hq; have := hf2 p2 rfl; omega
        obtain ⟨l, hv, hval⟩ := args125 tk en o hL n hn1 hn hE (.ok (p2 + 1)) hf3
        have hv' := app hv
        have hr : runS (simpleP tk n) st = runS (fun p => .ok (callS s (tokAt tk p2).text l, p)) (stR (runS (argsP tk n) (.ok (p2 + 1)))) := by
          rw [hbase2]
          simp only [runS_ok]
          rw [if_pos (by simp [hp2])]
          exact bind_run hval
        refine ⟨callS s (tokAt tk p2).text l, fun H ho => ?_, by rw [hr]; simp⟩
        rw [go (fn := F101) rfl rfl rfl, hr, stR_pure]
        simp [F101, ho, k1, k1', k2, k2', hsv, hsv', a1, a1', e1, c1, n1, hv', callS, zeroE] <;> rfl
      | false =>
        simp [hs4] at c1
        obtain ⟨⟨k, j, w, op, ks⟩, hv, hval⟩ := hE _ hf2
        have hv' := app hv
        have hr : runS (simpleP tk n) st = runS (fun p => .ok (assignS s (.mk k j w op ks), p)) (stR (runS (exprP tk n) st2)) := by
          rw [hbase2, runS_ite, hs4]
          simp only [Bool.false_eq_true, if_false]
          exact runS_bind hval
        refine ⟨assignS s (.mk k j w op ks), fun H ho => ?_, by rw [hr]; simp⟩
        rw [go (fn := F101) rfl rfl rfl, hr, stR_pure]
        simp [F101, ho, k1, k1', k2, k2', hsv, hsv', a1, a1', e1, c1, hv', assignS, zeroE] <;> rfl
end
end Go.Proofs.Ytkomfefpfalajaa

namespace Go.Proofs.Ytkomfefpfalajaa
open Go Go.Proofs Ab
set_option maxRecDepth 100000
set_option linter.unusedSimpArgs false
set_option linter.unusedVariables false
@[simp] theorem encSs_size' (l : List Stm) : sizeOk 17 (encSs l) = true := encSs_size l
@[simp] theorem encSs_length' (l : List Stm) : (encSs l).length = l.length := encSs_length l
theorem while_run {α : Type} {P : Nat → Rs α} {stop : Nat → Bool} {m p : Nat} {v : α} {l : List α} (hp : stop p = false) (hval : valOk (P p) v) (hl : valOk (runS (whileP P stop m) (stR (P p))) l) :
    whileP P stop (m + 1) p = runS (fun p => .ok (v :: l, p)) (stR (runS (whileP P stop m) (stR (P p)))) := by
  rw [whileP, if_neg (by rw [hp]; decide), bind_run hval]
  exact runS_bind hl
section
variable (tk : List Tok) (en : Int) (o : Nat) (hL : tk.length < 4611686018427387904) (hT : ∀ p, (tokAt tk p).text.length ≤ 20000)
theorem stmt_mo (n : Nat) : Mo (stmtP tk n) := fun p v q h => Nat.le_of_lt (stmt_prog tk h).1
theorem room_stmt {n p m : Nat} (h : tk.length - p < m + 1) : RoomS tk (stR (stmtP tk n p)) m := by
  intro q hq
  rcases hx : stmtP tk n p with e | ⟨v, q'⟩
  · simp [hx] at hq
  · simp [hx] at hq
    have := stmt_prog tk hx
    omega
include hL
theorem loop100 (n : Nat) (hS : ∀ st, fuelS tk st 20 n → Con tk en o 59 [] encS (stmtP tk n) st) : ∀ (m : Nat) (st : St), RoomS tk st m → fuelS tk st 20 n → ∃ l, valOk (runS (whileP (stmtP tk n) (symB tk · [125]) m) st) l ∧ ∀ (acc : List Stm) (c : Cap) (J : Heap) (s : Slots) (H : Heap), o < H.length → acc.length + m ≤ 1000000 → get s 0 = .ptr o 0 → get s 3 = .sl c (encSs acc) → Own H.length J 17 c acc.length →
    ∃ c' J', blkK (some [0, 3]) 0 (runF E1 H.length false c100_9 s (H.set o (rdS tk en st) ++ J)) = some (.nrm, [(0, .ptr o 0), (3, .sl c' (encSs (acc ++ l)))], H.set o (rdS tk en (stR (runS (whileP (stmtP tk n) (symB tk · [125]) m) st))) ++ J')
  | m, .error p, hm, hf => by
    have _ := hL
    refine ⟨[], by simp, ?_⟩
    intro acc c J s H ho hb s0 s3 hown
    refine ⟨c, J, ?_⟩
    rw [q100_9]
    simp [s0, s3, ho]
  | 0, .ok p, hm, hf => by
    have := hm p rfl
    omega
  | m + 1, .ok p, hm, hf => by
    have h1 := app (is57 tk en o (.ok p) [125])
    simp at h1
    have hm' := hm p rfl
    cases hs : symB tk p [125] with
    | true =>
      have hr : runS (whileP (stmtP tk n) (symB tk · [125]) (m + 1)) (.ok p) = .ok ([], p) := by
        simp only [runS_ok]
        rw [whileP, if_pos hs]
      refine ⟨[], by rw [hr]; simp, ?_⟩
      intro acc c J s H ho hb s0 s3 hown
      refine ⟨c, J, ?_⟩
      rw [hr, q100_9]
      simp [s0, s3, ho, h1, hs]
    | false =>
      obtain ⟨⟨k, nm, to, nn, ⟨ak, an, az, ao, aks⟩, ⟨vk, vn, vs, vo, vks⟩, args, thn, els⟩, hv, hval⟩ := hS _ hf
      obtain ⟨l, hl, ih⟩ := loop100 n hS m (stR (stmtP tk n p)) (room_stmt tk hm') (fuel_run tk hf (stmt_mo tk n))
      have hr := while_run (stop := (symB tk · [125])) hs hval hl
      refine ⟨_ :: l, by simp only [runS_ok]; rw [hr]; exact valOk_pure, ?_⟩
      intro acc c J s H ho hb s0 s3 hown
      have hv' := app hv
      obtain ⟨c', J', happ, hown'⟩ := appC_ownS (n0 := H.length) (g := false) (sz := 17) (o := o) (S := rdS tk en (stR (stmtP tk n p))) (H := H) (X := []) (J := J) (xs := encSs acc) (ys := [encS (.mk k nm to nn (.mk ak an az ao aks) (.mk vk vn vs vo vks) args thn els)]) (c := c) (Nat.le_refl _) (by simpa using hown)
      simp at happ hown'
      obtain ⟨c2, J2, ih⟩ := ih (acc ++ [.mk k nm to nn (.mk ak an az ao aks) (.mk vk vn vs vo vks) args thn els]) c' J' [(0, .ptr o 0), (3, .sl c' (encSs (acc ++ [.mk k nm to nn (.mk ak an az ao aks) (.mk vk vn vs vo vks) args thn els])))] H ho (by simp; omega) rfl rfl (by simpa using hown')
      refine ⟨c2, J2, ?_⟩
      simp only [runS_ok]
      rw [hr, stR_pure, q100_9]
      have hbb : 2 * ((acc.length + 1) * 248) + 2048 * 248 ≤ 281474976710656 := by omega
      simp [s0, s3, ho, h1, hs, hv', happ, hbb]
      simpa [encSs_append] using ih
theorem block100 (n : Nat) (hn : n ≤ 900000) (hS : ∀ st, fuelS tk st 20 n → Con tk en o 59 [] encS (stmtP tk n) st) (st : St) (hf : fuelS tk st 20 n) : Con tk en o 100 [] (fun l => .sl .none (encSs l)) (blockP tk (stmtP tk n) n) st := by
  have g1 := expect25 tk en o hL st [123]
  have h1 := app g1
  simp [expS_eq] at h1 g1
  have hf1 : fuelS tk (expS tk st [123]) 20 n := fuel_mono tk (fuel_exp tk hf) (by omega)
  obtain ⟨l, hl, hlp⟩ := loop100 tk en o hL n hS n (expS tk st [123]) (room_fuel tk hL hf1 (by omega)) hf1
  have hr : runS (blockP tk (stmtP tk n) n) st = runS (fun p => .ok (l, p)) (expS tk (stR (runS (whileP (stmtP tk n) (symB tk · [125]) n) (expS tk st [123]))) [125]) := by
    unfold blockP
    rw [runS_exp, runS_bind hl, runS_exp]
  have h3 := app (expect25 tk en o hL (stR (runS (whileP (stmtP tk n) (symB tk · [125]) n) (expS tk st [123]))) [125])
  simp [expS_eq] at h3
  refine ⟨l, fun H ho => ?_, by rw [hr]; simp⟩
  rw [go (fn := F100) rfl rfl rfl, hr, stR_pure]
  obtain ⟨c', J', hb⟩ := hlp [] .full [] [(0, .ptr o 0), (3, .sl .full [])] H ho (by simp; omega) rfl rfl own_full
  simp at hb
  simp [F100, ho, g1, h1, h3, hb] <;> rfl
end
end Go.Proofs.Ytkomfefpfalajaa
