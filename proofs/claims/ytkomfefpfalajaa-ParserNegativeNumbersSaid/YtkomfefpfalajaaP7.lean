/- The parser's blocks and statements together. -/
import Derived.Test.YtkomfefpfalajaaP6
namespace Go.Proofs.Ytkomfefpfalajaa
open Go Go.Proofs Ab
set_option maxRecDepth 100000
set_option linter.unusedSimpArgs false
set_option linter.unusedVariables false
@[simp] theorem encSs_size' (l : List Stm) : sizeOk 17 (encSs l) = true := encSs_size l
@[simp] theorem encSs_length' (l : List Stm) : (encSs l).length = l.length := encSs_length l
theorem while_run {α : Type} {P : Nat → Rs α} {stop : Nat → Bool} {m p : Nat} {v : α} {l : List α} (hp : stop p = false) (hval : valOk (P p) v) (hl : valOk (runS (whileP P stop m) (stR (P p))) l) :
    whileP P stop (m + 1) p = runS (fun p => .ok (v :: l, p)) (stR (runS (whileP P stop m) (stR (P p)))) := by
  rw [whileP, if_neg (by rw [hp]; decide), bind_run hval]
  exact runS_bind hl
section
variable (tk : List Tok) (en : Int) (o : Nat) (hL : tk.length < 4611686018427387904) (hT : ∀ p, (tokAt tk p).text.length ≤ 20000)
theorem stmt_mo (n : Nat) : Mo (stmtP tk n) := fun p v q h => Nat.le_of_lt (stmt_prog tk h).1
theorem room_stmt {n p m : Nat} (h : tk.length - p < m + 1) : RoomS tk (stR (stmtP tk n p)) m := by
  intro q hq
  rcases hx : stmtP tk n p with e | ⟨v, q'⟩
  · simp [hx] at hq
  · simp [hx] at hq
    have := stmt_prog tk hx
    omega
include hL
theorem loop100 (n : Nat) (hS : ∀ st, fuelS tk st 20 n → Con tk en o 59 [] encS (stmtP tk n) st) : ∀ (m : Nat) (st : St), RoomS tk st m → fuelS tk st 20 n → ∃ l, valOk (runS (whileP (stmtP tk n) (symB tk · [125]) m) st) l ∧ ∀ (acc : List Stm) (c : Cap) (J : Heap) (s : Slots) (H : Heap), o < H.length → acc.length + m ≤ 1000000 → get s 0 = .ptr o 0 → get s 3 = .sl c (encSs acc) → Own H.length J 17 c acc.length →
    ∃ c' J', blkK (some [0, 3]) 0 (runF E1 H.length false c100_9 s (H.set o (rdS tk en st) ++ J)) = some (.nrm, [(0, .ptr o 0), (3, .sl c' (encSs (acc ++ l)))], H.set o (rdS tk en (stR (runS (whileP (stmtP tk n) (symB tk · [125]) m) st))) ++ J')
  | m, .error p, hm, hf => by
    have _ := hL
    refine ⟨[], by simp, ?_⟩
    intro acc c J s H ho hb s0 s3 hown
    refine ⟨c, J, ?_⟩
    rw [q100_9]
    simp [s0, s3, ho]
  | 0, .ok p, hm, hf => by
    have := hm p rfl
    omega
  | m + 1, .ok p, hm, hf => by
    have h1 := app (is57 tk en o (.ok p) [125])
    simp at h1
    have hm' := hm p rfl
    cases hs : symB tk p [125] with
    | true =>
      have hr : runS (whileP (stmtP tk n) (symB tk · [125]) (m + 1)) (.ok p) = .ok ([], p) := by
        simp only [runS_ok]
        rw [whileP, if_pos hs]
      refine ⟨[], by rw [hr]; simp, ?_⟩
      intro acc c J s H ho hb s0 s3 hown
      refine ⟨c, J, ?_⟩
      rw [hr, q100_9]
      simp [s0, s3, ho, h1, hs]
    | false =>
      obtain ⟨⟨k, nm, to, nn, ⟨ak, an, az, ao, aks⟩, ⟨vk, vn, vs, vo, vks⟩, args, thn, els⟩, hv, hval⟩ := hS _ hf
      obtain ⟨l, hl, ih⟩ := loop100 n hS m (stR (stmtP tk n p)) (room_stmt tk hm') (fuel_run tk hf (stmt_mo tk n))
      have hr := while_run (stop := (symB tk · [125])) hs hval hl
      refine ⟨_ :: l, by simp only [runS_ok]; rw [hr]; exact valOk_pure, ?_⟩
      intro acc c J s H ho hb s0 s3 hown
      have hv' := app hv
      obtain ⟨c', J', happ, hown'⟩ := appC_ownS (n0 := H.length) (g := false) (sz := 17) (o := o) (S := rdS tk en (stR (stmtP tk n p))) (H := H) (X := []) (J := J) (xs := encSs acc) (ys := [encS (.mk k nm to nn (.mk ak an az ao aks) (.mk vk vn vs vo vks) args thn els)]) (c := c) (Nat.le_refl _) (by simpa using hown)
      simp at happ hown'
      obtain ⟨c2, J2, ih⟩ := ih (acc ++ [.mk k nm to nn (.mk ak an az ao aks) (.mk vk vn vs vo vks) args thn els]) c' J' [(0, .ptr o 0), (3, .sl c' (encSs (acc ++ [.mk k nm to nn (.mk ak an az ao aks) (.mk vk vn vs vo vks) args thn els])))] H ho (by simp; omega) rfl rfl (by simpa using hown')
      refine ⟨c2, J2, ?_⟩
      simp only [runS_ok]
      rw [hr, stR_pure, q100_9]
      have hbb : 2 * ((acc.length + 1) * 248) + 2048 * 248 ≤ 281474976710656 := by omega
      simp [s0, s3, ho, h1, hs, hv', happ, hbb]
      simpa [encSs_append] using ih
theorem block100 (n : Nat) (hn : n ≤ 900000) (hS : ∀ st, fuelS tk st 20 n → Con tk en o 59 [] encS (stmtP tk n) st) (st : St) (hf : fuelS tk st 20 n) : Con tk en o 100 [] (fun l => .sl .none (encSs l)) (blockP tk (stmtP tk n) n) st := by
  have g1 := expect25 tk en o hL st [123]
  have h1 := app g1
  simp [expS_eq] at h1 g1
  have hf1 : fuelS tk (expS tk st [123]) 20 n := fuel_mono tk (fuel_exp tk hf) (by omega)
  obtain ⟨l, hl, hlp⟩ := loop100 tk en o hL n hS n (expS tk st [123]) (room_fuel tk hL hf1 (by omega)) hf1
  have hr : runS (blockP tk (stmtP tk n) n) st = runS (fun p => .ok (l, p)) (expS tk (stR (runS (whileP (stmtP tk n) (symB tk · [125]) n) (expS tk st [123]))) [125]) := by
    unfold blockP
    rw [runS_exp, runS_bind hl, runS_exp]
  have h3 := app (expect25 tk en o hL (stR (runS (whileP (stmtP tk n) (symB tk · [125]) n) (expS tk st [123]))) [125])
  simp [expS_eq] at h3
  refine ⟨l, fun H ho => ?_, by rw [hr]; simp⟩
  rw [go (fn := F100) rfl rfl rfl, hr, stR_pure]
  obtain ⟨c', J', hb⟩ := hlp [] .full [] [(0, .ptr o 0), (3, .sl .full [])] H ho (by simp; omega) rfl rfl own_full
  simp at hb
  simp [F100, ho, g1, h1, h3, hb] <;> rfl
end
end Go.Proofs.Ytkomfefpfalajaa
