/- The parser's lists of names and arguments. -/
import Derived.Test.YtkomfefpfalajaaP4
namespace Go.Proofs.Ytkomfefpfalajaa
open Go Go.Proofs Ab
set_option maxRecDepth 100000
set_option linter.unusedSimpArgs false
set_option linter.unusedVariables false
section
variable (tk : List Tok) {α : Type} (P : Nat → Rs α)
def tailP (m p : Nat) : Rs (List α) := if symB tk p [44] then sepP tk P m (p + 1) else .ok ([], p)
theorem sep_eq (m p : Nat) : sepP tk P (m + 1) p = bindR (P p) fun v p1 => bindR (tailP tk P m p1) fun l p2 => .ok (v :: l, p2) := by
  rw [sepP]
  rcases P p with q | ⟨v, p1⟩
  · rfl
  · simp only [bindR_ok, tailP]
    cases symB tk p1 [44] <;> simp
theorem tail_run {m p : Nat} {v : α} {l : List α} (hp : symB tk p [44] = true) (hval : valOk (P (p + 1)) v) (hl : valOk (runS (tailP tk P m) (stR (P (p + 1)))) l) : tailP tk P (m + 1) p = runS (fun p => .ok (v :: l, p)) (stR (runS (tailP tk P m) (stR (P (p + 1))))) := by
  rw [tailP, if_pos hp, sep_eq, bind_run hval]
  exact runS_bind hl
theorem sep_run {m : Nat} {st : St} {v : α} {l : List α} (hval : valOk (runS P st) v) (hl : valOk (runS (tailP tk P m) (stR (runS P st))) l) : runS (sepP tk P (m + 1)) st = runS (fun p => .ok (v :: l, p)) (stR (runS (tailP tk P m) (stR (runS P st)))) := by
  have : sepP tk P (m + 1) = fun p => bindR (P p) fun v p1 => bindR (tailP tk P m p1) fun l p2 => .ok (v :: l, p2) := funext (sep_eq tk P m)
  rw [this, runS_bind hval]
  exact runS_bind hl
end
@[simp] theorem encEs_size' (l : List Ex) : sizeOk 5 (encEs l) = true := encEs_size l
@[simp] theorem encEs_length' (l : List Ex) : (encEs l).length = l.length := encEs_length l
section
variable (tk : List Tok) (en : Int) (o : Nat) (hL : tk.length < 4611686018427387904) (hT : ∀ p, (tokAt tk p).text.length ≤ 20000)
def RoomS (st : St) (m : Nat) : Prop := ∀ p, st = .ok p → tk.length - p < m
theorem room_run {α : Type} {P : Nat → Rs α} {p m : Nat} (h : tk.length - p < m + 1) (hp : p < tk.length) (hP : ∀ p v q, P p = .ok (v, q) → p ≤ q) : RoomS tk (stR (runS P (.ok (p + 1)))) m := by
  intro q hq
  simp at hq
  rcases hx : P (p + 1) with e | ⟨v, q'⟩
  · simp [hx] at hq
  · simp [hx] at hq
    have := hP _ _ _ hx
    omega
include hL
theorem name_con (st : St) : Con tk en o 23 [] AV.str (nameP tk) st := by
  refine ⟨if stB st (nmB tk) then (peek tk st).text else [], fun H ho => ?_, ?_⟩
  · rw [name23 tk en o hL st H ho]
    cases st with
    | error p => simp
    | ok p => cases h : nmB tk p <;> simp [nameP, h]
  · cases st with
    | error p => simp
    | ok p => cases h : nmB tk p <;> simp [nameP, h]
theorem loop58 : ∀ (m : Nat) (st : St), RoomS tk st m → ∃ l, valOk (runS (tailP tk (nameP tk) m) st) l ∧ ∀ (acc : List (List UInt8)) (c : Cap) (J : Heap) (s : Slots) (H : Heap), o < H.length → acc.length + m ≤ 1000000 → get s 0 = .ptr o 0 → get s 3 = .sl c (encStr acc) → Own H.length J 1 c acc.length →
    ∃ c' J', blkK (some [3]) 0 (runF E1 H.length false c58_8 s (H.set o (rdS tk en st) ++ J)) = some (.nrm, [(3, .sl c' (encStr (acc ++ l)))], H.set o (rdS tk en (stR (runS (tailP tk (nameP tk) m) st))) ++ J')
  | m, st, hm => by
    have h1 := app (accept56 tk en o hL st [44])
    cases hs : stB st (symB tk · [44]) with
    | false =>
      have hr : runS (tailP tk (nameP tk) m) st = runS (fun p => .ok ([], p)) st := by
        unfold tailP
        rw [runS_ite, hs]
        simp
      refine ⟨[], by rw [hr]; simp, ?_⟩
      intro acc c J s H ho hb s0 s3 hown
      refine ⟨c, J, ?_⟩
      rw [hr, stR_pure, q58_8]
      simp [hs] at h1
      simp [s0, s3, ho, h1]
    | true =>
      obtain ⟨p, rfl, hp⟩ := stB_true hs
      have hlt := sym_lt tk hp
      have hm' := hm p rfl
      match m, hm' with
      | m + 1, hm' =>
        obtain ⟨v, hv, hval⟩ := name_con tk en o hL (.ok (p + 1))
        obtain ⟨l, hl, ih⟩ := loop58 m (stR (runS (nameP tk) (.ok (p + 1)))) (room_run tk hm' hlt (fun p v q h => by have := nameP_ok tk h; omega))
        have hr : runS (tailP tk (nameP tk) (m + 1)) (.ok p) = runS (fun p => .ok (v :: l, p)) (stR (runS (tailP tk (nameP tk) m) (stR (runS (nameP tk) (.ok (p + 1)))))) := by
          exact tail_run tk (nameP tk) hp hval hl
        refine ⟨v :: l, by rw [hr]; simp, ?_⟩
        intro acc c J s H ho hb s0 s3 hown
        have hv' := app hv
        simp [hs] at h1
        obtain ⟨c', J', happ, hown'⟩ := appC_ownS (n0 := H.length) (g := false) (sz := 1) (o := o) (S := rdS tk en (stR (runS (nameP tk) (.ok (p + 1))))) (H := H) (X := []) (J := J) (xs := encStr acc) (ys := [.str v]) (c := c) (Nat.le_refl _) (by simpa using hown)
        simp at happ hown'
        obtain ⟨c2, J2, ih⟩ := ih (acc ++ [v]) c' J' [(0, .ptr o 0), (3, .sl c' (encStr (acc ++ [v])))] H ho (by simp; omega) rfl rfl (by simpa using hown')
        refine ⟨c2, J2, ?_⟩
        rw [hr, stR_pure, q58_8]
        have hbb : 2 * ((acc.length + 1) * 16) + 2048 * 16 ≤ 281474976710656 := by omega
        simp [s0, s3, ho, h1, hv', happ, hbb]
        simpa [encStr] using ih
theorem names58 (m : Nat) (hm : tk.length ≤ m) (hm2 : m ≤ 900000) (st : St) : Con tk en o 58 [] (fun l => .sl .none (encStr l)) (sepP tk (nameP tk) (m + 2)) st := by
  obtain ⟨v, hv, hval⟩ := name_con tk en o hL st
  obtain ⟨l, hl, hlp⟩ := loop58 tk en o hL (m + 1) (stR (runS (nameP tk) st)) (by intro p hp; omega)
  have hr := sep_run tk (nameP tk) hval hl
  have hv' := app hv
  refine ⟨v :: l, fun H ho => ?_, by rw [hr]; simp⟩
  obtain ⟨c', J', hb⟩ := hlp [v] .full [] [(0, .ptr o 0), (3, .sl .full (encStr [v]))] H ho (by simp; omega) rfl rfl own_full
  rw [go (fn := F58) rfl rfl rfl, hr, stR_pure]
  simp [encStr] at hb
  simp [F58, ho, hv, hv', hb, encStr] <;> rfl
theorem room_fuel {st : St} {r n : Nat} (h : fuelS tk st r n) (hr : 0 < r) : RoomS tk st n := by
  have _ := hL
  intro p hp
  have := h p hp
  omega
theorem loop125 (n : Nat) (hE : ∀ st, fuelS tk st 12 n → Con tk en o 60 [] encE (exprP tk n) st) : ∀ (m : Nat) (st : St), RoomS tk st m → fuelS tk st 12 n → ∃ l, valOk (runS (tailP tk (exprP tk n) m) st) l ∧ ∀ (acc : List Ex) (c : Cap) (J : Heap) (s : Slots) (H : Heap), o < H.length → acc.length + m ≤ 1000000 → get s 0 = .ptr o 0 → get s 3 = .sl c (encEs acc) → Own H.length J 5 c acc.length →
    ∃ c' J', blkK (some [0, 3]) 0 (runF E1 H.length false c125_11 s (H.set o (rdS tk en st) ++ J)) = some (.nrm, [(0, .ptr o 0), (3, .sl c' (encEs (acc ++ l)))], H.set o (rdS tk en (stR (runS (tailP tk (exprP tk n) m) st))) ++ J')
  | m, st, hm, hf => by
    have h1 := app (accept56 tk en o hL st [44])
    cases hs : stB st (symB tk · [44]) with
    | false =>
      have hr : runS (tailP tk (exprP tk n) m) st = runS (fun p => .ok ([], p)) st := by
        unfold tailP
        rw [runS_ite, hs]
        simp
      refine ⟨[], by rw [hr]; simp, ?_⟩
      intro acc c J s H ho hb s0 s3 hown
      refine ⟨c, J, ?_⟩
      rw [hr, stR_pure, q125_11]
      simp [hs] at h1
      simp [s0, s3, ho, h1]
    | true =>
      obtain ⟨p, rfl, hp⟩ := stB_true hs
      have hlt := sym_lt tk hp
      have hm' := hm p rfl
      have hf' := hf p rfl
      match m, hm' with
      | m + 1, hm' =>
        have hf1 : fuelS tk (.ok (p + 1)) 12 n := by intro q hq; cases hq; omega
        have hmono : ∀ p v q, exprP tk n p = .ok (v, q) → p ≤ q := fun p v q h => Nat.le_of_lt ((prog tk n).1 _ _ _ h)
        obtain ⟨⟨k, j, w, op, ks⟩, hv, hval⟩ := hE _ hf1
        obtain ⟨l, hl, ih⟩ := loop125 n hE m (stR (runS (exprP tk n) (.ok (p + 1)))) (room_run tk hm' hlt hmono) (fuel_run tk hf1 hmono)
        have hr : runS (tailP tk (exprP tk n) (m + 1)) (.ok p) = runS (fun p => .ok (.mk k j w op ks :: l, p)) (stR (runS (tailP tk (exprP tk n) m) (stR (runS (exprP tk n) (.ok (p + 1)))))) := by
          exact tail_run tk (exprP tk n) hp hval hl
        refine ⟨.mk k j w op ks :: l, by rw [hr]; simp, ?_⟩
        intro acc c J s H ho hb s0 s3 hown
        have hv' := app hv
        simp [hs] at h1
        obtain ⟨c', J', happ, hown'⟩ := appC_ownS (n0 := H.length) (g := false) (sz := 5) (o := o) (S := rdS tk en (stR (runS (exprP tk n) (.ok (p + 1))))) (H := H) (X := []) (J := J) (xs := encEs acc) (ys := [encE (.mk k j w op ks)]) (c := c) (Nat.le_refl _) (by simpa using hown)
        simp at happ hown'
        obtain ⟨c2, J2, ih⟩ := ih (acc ++ [.mk k j w op ks]) c' J' [(0, .ptr o 0), (3, .sl c' (encEs (acc ++ [.mk k j w op ks])))] H ho (by simp; omega) rfl rfl (by simpa using hown')
        refine ⟨c2, J2, ?_⟩
        rw [hr, stR_pure, q125_11]
        have hbb : 2 * ((acc.length + 1) * 64) + 2048 * 64 ≤ 281474976710656 := by omega
        simp [s0, s3, ho, h1, hv', happ, hbb]
        simpa [encEs_append] using ih
theorem args125 (n : Nat) (hn1 : 1 ≤ n) (hn : n ≤ 900000) (hE : ∀ st, fuelS tk st 12 n → Con tk en o 60 [] encE (exprP tk n) st) (st : St) (hf : fuelS tk st 12 n) : Con tk en o 125 [] (fun l => .sl .none (encEs l)) (argsP tk n) st := by
  have g1 := expect25 tk en o hL st [40]
  have h1 := app g1
  have g2 := is57 tk en o (expS tk st [40]) [41]
  have h2 := app g2
  have g3 := fun st => expect25 tk en o hL st [41]
  have h3 := fun st => app (g3 st)
  simp [expS_eq] at h1 h3 g1 g3
  have hf1 := fuel_exp tk (s := [40]) hf
  cases hs : stB (expS tk st [40]) (symB tk · [41]) with
  | true =>
    have hr : runS (argsP tk n) st = runS (fun p => .ok ([], p)) (expS tk (expS tk st [40]) [41]) := by
      unfold argsP
      rw [runS_exp]
      have hc : runS (fun p1 => if symB tk p1 [41] = true then (.ok ([], p1) : Rs (List Ex)) else sepP tk (exprP tk n) n p1) (expS tk st [40]) = runS (fun p => .ok ([], p)) (expS tk st [40]) := by
        rw [runS_ite, hs]; simp
      rw [runS_bind (v := []) (by rw [hc]; simp), hc, stR_pure, runS_exp]
    refine ⟨[], fun H ho => ?_, by rw [hr]; simp⟩
    rw [go (fn := F125) rfl rfl rfl, hr, stR_pure]
    simp [hs] at h2 g2
    simp [F125, ho, g1, g2, g3, h1, h2, h3] <;> rfl
  | false =>
    have hf2 : fuelS tk (expS tk st [40]) 12 n := fuel_mono tk hf1 (by omega)
    obtain ⟨⟨k, j, w, op, ks⟩, hv, hval⟩ := hE _ hf2
    have hmono : ∀ p v q, exprP tk n p = .ok (v, q) → p ≤ q := fun p v q h => Nat.le_of_lt ((prog tk n).1 _ _ _ h)
    obtain ⟨m, rfl⟩ : ∃ m, n = m + 1 := ⟨n - 1, by omega⟩
    have hf3 := fuel_run tk hf2 hmono
    obtain ⟨l, hl, hlp⟩ := loop125 tk en o hL (m + 1) hE m (stR (runS (exprP tk (m + 1)) (expS tk st [40]))) (by intro p hp; have := hf3 p hp; omega) hf3
    have hr1 := sep_run tk (exprP tk (m + 1)) hval hl
    have hr : runS (argsP tk (m + 1)) st = runS (fun p => .ok (.mk k j w op ks :: l, p)) (expS tk (stR (runS (tailP tk (exprP tk (m + 1)) m) (stR (runS (exprP tk (m + 1)) (expS tk st [40]))))) [41]) := by
      unfold argsP
      rw [runS_exp]
      have hc : runS (fun p1 => if symB tk p1 [41] = true then (.ok ([], p1) : Rs (List Ex)) else sepP tk (exprP tk (m + 1)) (m + 1) p1) (expS tk st [40]) = runS (fun p => .ok (.mk k j w op ks :: l, p)) (stR (runS (tailP tk (exprP tk (m + 1)) m) (stR (runS (exprP tk (m + 1)) (expS tk st [40]))))) := by
        rw [runS_ite, hs]
        simp only [Bool.false_eq_true, if_false]
        exact hr1
      rw [runS_bind (v := .mk k j w op ks :: l) (by rw [hc]; simp), hc, stR_pure, runS_exp]
    refine ⟨.mk k j w op ks :: l, fun H ho => ?_, by rw [hr]; simp⟩
    have hv' := app hv
    rw [go (fn := F125) rfl rfl rfl, hr, stR_pure]
    simp [hs] at h2 g2
    obtain ⟨c1, J1, happ, hown⟩ := appC_ownS (n0 := H.length) (g := false) (sz := 5) (o := o) (S := rdS tk en (stR (runS (exprP tk (m + 1)) (expS tk st [40])))) (H := H) (X := []) (J := []) (xs := []) (ys := [encE (.mk k j w op ks)]) (c := .full) (Nat.le_refl _) own_full
    obtain ⟨c', J', hb⟩ := hlp [.mk k j w op ks] c1 J1 [(0, .ptr o 0), (3, .sl c1 (encEs [.mk k j w op ks]))] H ho (by simp; omega) rfl rfl (by simpa using hown)
    simp at hb happ
    simp [F125, ho, g1, g2, g3, h1, h2, h3, hv, hv', happ, hb] <;> rfl
end
end Go.Proofs.Ytkomfefpfalajaa
