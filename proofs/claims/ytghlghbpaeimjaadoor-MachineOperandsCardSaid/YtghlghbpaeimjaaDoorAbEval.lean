/- The abstract machine without fuel: equations that a simplifier can use. -/
import Derived.Test.YtghlghbpaeimjaaDoorAbView
namespace Ab
open Go

/-- the limit of a growing family -/
noncomputable def lim {α : Type} (F : Nat → Option α) : Option α :=
  open Classical in if h : ∃ x, ∃ n, F n = some x then some h.choose else none
def Grows {α : Type} (F : Nat → Option α) : Prop := ∀ n x, F n = some x → F (n + 1) = some x
theorem Grows.le {α : Type} {F : Nat → Option α} (h : Grows F) {n m : Nat} {x : α} (hn : F n = some x) (hm : n ≤ m) : F m = some x := by
  obtain ⟨k, rfl⟩ := Nat.exists_eq_add_of_le hm
  induction k with
  | zero => exact hn
  | succ k ih => exact h _ _ (ih (by omega))
theorem lim_iff {α : Type} {F : Nat → Option α} (h : Grows F) {x : α} : lim F = some x ↔ ∃ n, F n = some x := by
  unfold lim
  constructor
  · intro hl
    split at hl
    · rename_i hx
      obtain ⟨n, hn⟩ := hx.choose_spec
      cases hl
      exact ⟨n, hn⟩
    · cases hl
  · rintro ⟨n, hn⟩
    have hx : ∃ x, ∃ n, F n = some x := ⟨x, n, hn⟩
    rw [dif_pos hx]
    obtain ⟨m, hm⟩ := hx.choose_spec
    have h1 := h.le hn (Nat.le_max_left n m)
    have h2 := h.le hm (Nat.le_max_right n m)
    rw [h1] at h2
    exact h2.symm

/-- cf' has, from some place of the family on, what cf has -/
def Tends (cf : CallF) (cfs : Nat → CallF) : Prop := ∀ f as h r, cf f as h = some r → ∃ N, ∀ m, N ≤ m → cfs m f as h = some r

section
variable {E : Env} {n0 base : Nat} {g : Bool} {cf : CallF} {cfs : Nat → CallF}

theorem stepOp_tends (ht : Tends cf cfs) {s : Slots} {h : Heap} {op : AOp} {r : AV × Heap} (hs : stepOp E cf n0 g base s h op = some r) : ∃ N, ∀ m, N ≤ m → stepOp E (cfs m) n0 g base s h op = some r := by
  unfold stepOp at hs ⊢
  split at hs
  · rename_i hc
    simp only [hc, if_true]
    split at hs
    · rename_i f as hcal
      split at hs
      · rename_i v h1 hcf
        obtain ⟨N, hN⟩ := ht f as h _ hcf
        refine ⟨N, fun m hm => ?_⟩
        simp only [hN m hm]
        exact hs
      · cases hs
    · cases hs
  · rename_i hc
    simp only [hc]
    exact ⟨0, fun m _ => hs⟩

theorem opsRun_tends (ht : Tends cf cfs) : ∀ (aos : List AOper) (s : Slots) (h : Heap) (r : Slots × Heap), opsRun E cf n0 g base aos s h = some r →
    ∃ N, ∀ m, N ≤ m → opsRun E (cfs m) n0 g base aos s h = some r ∧ opsTrace E (cfs m) n0 g base aos s h = opsTrace E cf n0 g base aos s h
  | [], s, h, r, hr => ⟨0, fun m _ => ⟨hr, rfl⟩⟩
  | o :: aos, s, h, r, hr => by
    simp only [opsRun] at hr
    simp only [opsRun, opsTrace]
    split at hr
    · rename_i hw
      split at hr
      · rename_i v h1 hst
        obtain ⟨N1, hN1⟩ := stepOp_tends ht hst
        obtain ⟨N2, hN2⟩ := opsRun_tends ht aos _ _ r hr
        refine ⟨max N1 N2, fun m hm => ?_⟩
        rw [hw]
        simp only [hN1 m (by omega), hst]
        obtain ⟨h1, h2⟩ := hN2 m (by omega)
        exact ⟨h1, by rw [h2]⟩
      · cases hr
    · rename_i hw
      obtain ⟨N2, hN2⟩ := opsRun_tends ht aos _ _ r hr
      refine ⟨N2, fun m hm => ?_⟩
      rw [hw]
      obtain ⟨h1, h2⟩ := hN2 m hm
      exact ⟨h1, by simp only [h2]⟩
    · cases hr

theorem run_tends (ht : Tends cf cfs) : ∀ (n : Nat) (c : AC) (s : Slots) (h : Heap) (r : Ext × Slots × Heap), run E n0 g cf n c s h = some r → ∃ N, ∀ m n', N ≤ m → n ≤ n' → run E n0 g (cfs m) n' c s h = some r
  | 0, c, s, h, r, hr => by simp only [run] at hr; cases hr
  | n + 1, c, s, h, r, hr => by
    have ih := run_tends ht n
    have conv : ∀ N, (∀ m n', N ≤ m → n ≤ n' → run E n0 g (cfs m) (n' + 1) c s h = some r) → ∃ N, ∀ m n', N ≤ m → n + 1 ≤ n' → run E n0 g (cfs m) n' c s h = some r := by
      intro N hN
      refine ⟨N, fun m n' hm hn => ?_⟩
      obtain ⟨k, rfl⟩ : ∃ k, n' = k + 1 := ⟨n' - 1, by omega⟩
      exact hN m k hm (by omega)
    cases c with
    | skip => exact conv 0 fun m n' _ _ => hr
    | exit id => exact conv 0 fun m n' _ _ => hr
    | ret => exact conv 0 fun m n' _ _ => hr
    | reg L pre ops dr =>
      simp only [run] at hr
      split at hr
      · cases hr
      · rename_i s1 h1 hor
        obtain ⟨N, hN⟩ := opsRun_tends ht ops _ _ _ hor
        refine conv N fun m n' hm _ => ?_
        obtain ⟨e1, e2⟩ := hN m hm
        simp only [run, e1, e2]
        exact hr
    | seq a b =>
      simp only [run] at hr
      split at hr
      · rename_i s1 h1 ha
        obtain ⟨N1, hN1⟩ := ih a s h _ ha
        obtain ⟨N2, hN2⟩ := ih b s1 h1 _ hr
        refine conv (max N1 N2) fun m n' hm hn => ?_
        simp only [run, hN1 m n' (by omega) hn, hN2 m n' (by omega) hn]
      · rename_i hne
        obtain ⟨N1, hN1⟩ := ih a s h _ hr
        refine conv N1 fun m n' hm hn => ?_
        simp only [run, hN1 m n' hm hn]
        split
        · rename_i s1 h1 he
          cases he
          exact absurd hr (hne s1 h1)
        · rfl
    | cond x a b =>
      simp only [run] at hr
      split at hr
      · rename_i hv
        obtain ⟨N1, hN1⟩ := ih a s h _ hr
        refine conv N1 fun m n' hm hn => ?_
        simp only [run, hv, hN1 m n' hm hn]
      · rename_i hv
        obtain ⟨N1, hN1⟩ := ih b s h _ hr
        refine conv N1 fun m n' hm hn => ?_
        simp only [run, hv, hN1 m n' hm hn]
      · cases hr
    | block L id b =>
      simp only [run] at hr
      have : ∃ x, run E n0 g cf n b s h = some x := by
        cases hx : run E n0 g cf n b s h with
        | none => rw [hx] at hr; cases hr
        | some x => exact ⟨x, rfl⟩
      obtain ⟨x, hx⟩ := this
      obtain ⟨N1, hN1⟩ := ih b s h _ hx
      refine conv N1 fun m n' hm hn => ?_
      simp only [run, hN1 m n' hm hn]
      rw [hx] at hr
      exact hr
    | loop L b =>
      simp only [run] at hr
      split at hr
      · rename_i s1 h1 ha
        obtain ⟨N1, hN1⟩ := ih b _ h _ ha
        obtain ⟨N2, hN2⟩ := ih (.loop L b) s1 h1 _ hr
        refine conv (max N1 N2) fun m n' hm hn => ?_
        simp only [run, hN1 m n' (by omega) hn, hN2 m n' (by omega) hn]
      · rename_i hne
        obtain ⟨N1, hN1⟩ := ih b _ h _ hr
        refine conv N1 fun m n' hm hn => ?_
        simp only [run, hN1 m n' hm hn]
        split
        · rename_i s1 h1 he
          cases he
          exact absurd hr (hne s1 h1)
        · rfl
end

theorem tends_const (cf : CallF) : Tends cf fun _ => cf := fun _ _ _ _ h => ⟨0, fun _ _ => h⟩

theorem call_succ (E : Env) (n f : Nat) (as : List AV) (h : Heap) : call E (n + 1) f as h = match E.sp f with
    | some sp => sp as h
    | none => match E.fn f with
      | none => none
      | some fn => if as.length = fn.np then
          match run E h.length fn.grow (call E n) n fn.code (params 0 as) h with
          | some (.exit _, _, _) => none
          | some (_, s, h') => match resOf s h' fn.res with
            | some vs => finish fn.grow h.length vs h'
            | none => none
          | none => none
        else none := rfl
theorem call_grows (E : Env) : ∀ n f as h r, call E n f as h = some r → call E (n + 1) f as h = some r
  | 0, f, as, h, r, hc => by simp only [call] at hc; cases hc
  | n + 1, f, as, h, r, hc => by
    have ih := call_grows E n
    rw [call_succ] at hc ⊢
    split at hc
    · exact hc
    split at hc
    · cases hc
    · rename_i fn hfn
      split at hc
      · rename_i hl
        rw [if_pos hl]
        have ht : Tends (call E n) fun _ => call E (n + 1) := fun f as h r hh => ⟨0, fun _ _ => ih f as h r hh⟩
        cases hr : run E h.length fn.grow (call E n) n fn.code (params 0 as) h with
        | none => rw [hr] at hc; cases hc
        | some x =>
          obtain ⟨N, hN⟩ := run_tends ht n _ _ _ _ hr
          rw [hN N (n + 1) (Nat.le_refl _) (by omega)]
          rw [hr] at hc
          exact hc
      · cases hc

noncomputable def callF (E : Env) : CallF := fun f as h => lim fun n => call E n f as h
noncomputable def runF (E : Env) (n0 : Nat) (g : Bool) (c : AC) (s : Slots) (h : Heap) : Option (Ext × Slots × Heap) := lim fun n => run E n0 g (callF E) n c s h

section
variable {E : Env} {n0 : Nat} {g : Bool}
theorem callF_iff {f : Nat} {as : List AV} {h : Heap} {r : AV × Heap} : callF E f as h = some r ↔ ∃ n, call E n f as h = some r := lim_iff fun n x hx => call_grows E n f as h x hx
theorem runF_iff {c : AC} {s : Slots} {h : Heap} {r : Ext × Slots × Heap} : runF E n0 g c s h = some r ↔ ∃ n, run E n0 g (callF E) n c s h = some r :=
  lim_iff fun n x hx => by
    obtain ⟨N, hN⟩ := run_tends (tends_const (callF E)) n _ _ _ _ hx
    exact hN N (n + 1) (Nat.le_refl _) (by omega)
theorem run_le {c : AC} {s : Slots} {h : Heap} {r : Ext × Slots × Heap} {n m : Nat} (hr : run E n0 g (callF E) n c s h = some r) (hm : n ≤ m) : run E n0 g (callF E) m c s h = some r := by
  obtain ⟨N, hN⟩ := run_tends (tends_const (callF E)) n _ _ _ _ hr
  exact hN N m (Nat.le_refl _) hm
theorem callF_tends : Tends (callF E) (call E) := fun f as h r hr => by
  obtain ⟨n, hn⟩ := callF_iff.1 hr
  exact ⟨n, fun m hm => Grows.le (F := fun n => call E n f as h) (fun n x hx => call_grows E n f as h x hx) hn hm⟩
theorem call_of_callF : Tends (callF E) fun m => call E m := callF_tends

theorem optext {α : Type} {a b : Option α} (h : ∀ x, a = some x ↔ b = some x) : a = b := by
  cases a with
  | none => cases b with
    | none => rfl
    | some y => exact absurd ((h y).2 rfl) (by simp)
  | some x => exact ((h x).1 rfl).symm

/-- ONE CALL. -/
theorem callF_sp {f : Nat} {sp : List AV → List Ob → Option (AV × List Ob)} {as : List AV} {h : Heap} (hs : E.sp f = some sp) : callF E f as h = sp as h := by
  refine optext fun x => ?_
  rw [callF_iff]
  constructor
  · rintro ⟨n, hn⟩
    cases n with
    | zero => simp only [call] at hn; cases hn
    | succ n => simpa only [call_succ, hs] using hn
  · intro hx
    exact ⟨1, by simpa only [call_succ, hs] using hx⟩
theorem callF_eq {f : Nat} {fn : AFn} {as : List AV} {h : Heap} (hs : E.sp f = none) (hf : E.fn f = some fn) (hl : as.length = fn.np) :
    callF E f as h = match runF E h.length fn.grow fn.code (params 0 as) h with
      | some (.exit _, _, _) => none
      | some (_, s, h') => match resOf s h' fn.res with
        | some vs => finish fn.grow h.length vs h'
        | none => none
      | none => none := by
  refine optext fun x => ?_
  rw [callF_iff]
  constructor
  · rintro ⟨n, hn⟩
    cases n with
    | zero => simp only [call] at hn; cases hn
    | succ n =>
      simp only [call_succ, hs, hf, if_pos hl] at hn
      cases hr : run E h.length fn.grow (call E n) n fn.code (params 0 as) h with
      | none => rw [hr] at hn; cases hn
      | some y =>
        have ht : Tends (call E n) fun _ => callF E := fun f as h r hh => ⟨0, fun _ _ => callF_iff.2 ⟨n, hh⟩⟩
        obtain ⟨N, hN⟩ := run_tends ht n _ _ _ _ hr
        rw [runF_iff.2 ⟨n, hN N n (Nat.le_refl _) (Nat.le_refl _)⟩]
        rw [hr] at hn
        exact hn
  · intro hx
    cases hr : runF E h.length fn.grow fn.code (params 0 as) h with
    | none => rw [hr] at hx; cases hx
    | some y =>
      obtain ⟨n, hn⟩ := runF_iff.1 hr
      obtain ⟨N, hN⟩ := run_tends callF_tends n _ _ _ _ hn
      refine ⟨max N n + 1, ?_⟩
      simp only [call_succ, hs, hf, if_pos hl]
      rw [hN (max N n) (max N n) (by omega) (by omega)]
      rw [hr] at hx
      exact hx

theorem runF_skip {s : Slots} {h : Heap} : runF E n0 g .skip s h = some (.nrm, s, h) := runF_iff.2 ⟨1, rfl⟩
theorem runF_exit {id : Nat} {s : Slots} {h : Heap} : runF E n0 g (.exit id) s h = some (.exit id, s, h) := runF_iff.2 ⟨1, rfl⟩
theorem runF_ret {s : Slots} {h : Heap} : runF E n0 g .ret s h = some (.ret, s, h) := runF_iff.2 ⟨1, rfl⟩
theorem runF_reg {L : Option (List Nat)} {pre : List Ob} {ops : List AOper} {s : Slots} {h : Heap} : runF E n0 g (.reg L pre ops none) s h = match opsRun E (callF E) n0 g h.length ops s (h ++ pre) with
    | none => none
    | some (s', h') => some (.nrm, clearO L s', h') := by
  refine optext fun x => ?_
  rw [runF_iff]
  constructor
  · rintro ⟨n, hn⟩
    cases n with
    | zero => rw [run] at hn; cases hn
    | succ n =>
      simp only [run] at hn
      cases ho : opsRun E (callF E) n0 g h.length ops s (h ++ pre) with
      | none => rw [ho] at hn; cases hn
      | some y => rw [ho] at hn; exact hn
  · intro hx
    refine ⟨1, ?_⟩
    simp only [run]
    cases ho : opsRun E (callF E) n0 g h.length ops s (h ++ pre) with
    | none => rw [ho] at hx; cases hx
    | some y => rw [ho] at hx; exact hx
theorem runF_regd {L : Option (List Nat)} {pre : List Ob} {ops : List AOper} {d : List (Nat × List Nat)} {s : Slots} {h : Heap} : runF E n0 g (.reg L pre ops (some d)) s h = match opsRun E (callF E) n0 g h.length ops s (h ++ pre) with
    | none => none
    | some (s', h') => if drawOk (opsTrace E (callF E) n0 g h.length ops s (h ++ pre)) d = true then some (.nrm, clearO L s', h') else none := by
  refine optext fun x => ?_
  rw [runF_iff]
  constructor
  · rintro ⟨n, hn⟩
    cases n with
    | zero => rw [run] at hn; cases hn
    | succ n =>
      simp only [run] at hn
      cases ho : opsRun E (callF E) n0 g h.length ops s (h ++ pre) with
      | none => rw [ho] at hn; cases hn
      | some y => rw [ho] at hn; exact hn
  · intro hx
    refine ⟨1, ?_⟩
    simp only [run]
    cases ho : opsRun E (callF E) n0 g h.length ops s (h ++ pre) with
    | none => rw [ho] at hx; cases hx
    | some y => rw [ho] at hx; exact hx
theorem runF_seq {a b : AC} {s : Slots} {h : Heap} : runF E n0 g (.seq a b) s h = match runF E n0 g a s h with
    | some (.nrm, s', h') => runF E n0 g b s' h'
    | r => r := by
  refine optext fun x => ?_
  rw [runF_iff]
  constructor
  · rintro ⟨n, hn⟩
    cases n with
    | zero => rw [run] at hn; cases hn
    | succ n =>
      simp only [run] at hn
      split at hn
      · rename_i s1 h1 ha
        rw [runF_iff.2 ⟨n, ha⟩]
        exact runF_iff.2 ⟨n, hn⟩
      · rename_i hne
        rw [runF_iff.2 ⟨n, hn⟩]
        split
        · rename_i s1 h1 he
          cases he
          exact absurd hn (hne s1 h1)
        · rfl
  · intro hx
    split at hx
    · rename_i s1 h1 ha
      obtain ⟨n, hn⟩ := runF_iff.1 ha
      obtain ⟨m, hm⟩ := runF_iff.1 hx
      exact ⟨max n m + 1, by simp only [run, run_le hn (Nat.le_max_left n m), run_le hm (Nat.le_max_right n m)]⟩
    · rename_i hne
      obtain ⟨n, hn⟩ := runF_iff.1 hx
      refine ⟨n + 1, ?_⟩
      simp only [run, hn]
      split
      · rename_i s1 h1 he
        cases he
        exact absurd hx (hne s1 h1)
      · rfl
theorem runF_cond {c : Opd} {a b : AC} {s : Slots} {h : Heap} : runF E n0 g (.cond c a b) s h = match val E s c with
    | .bool true => runF E n0 g a s h
    | .bool false => runF E n0 g b s h
    | _ => none := by
  refine optext fun x => ?_
  rw [runF_iff]
  constructor
  · rintro ⟨n, hn⟩
    cases n with
    | zero => rw [run] at hn; cases hn
    | succ n =>
      simp only [run] at hn
      split at hn
      · rename_i hv; simp only [hv]; exact runF_iff.2 ⟨n, hn⟩
      · rename_i hv; simp only [hv]; exact runF_iff.2 ⟨n, hn⟩
      · cases hn
  · intro hx
    split at hx
    · rename_i hv
      obtain ⟨n, hn⟩ := runF_iff.1 hx
      exact ⟨n + 1, by simp only [run, hv, hn]⟩
    · rename_i hv
      obtain ⟨n, hn⟩ := runF_iff.1 hx
      exact ⟨n + 1, by simp only [run, hv, hn]⟩
    · cases hx
theorem runF_block {L : Option (List Nat)} {id : Nat} {b : AC} {s : Slots} {h : Heap} : runF E n0 g (.block L id b) s h = match runF E n0 g b s h with
    | some (.nrm, s', h') => some (.nrm, clearO L s', h')
    | some (.exit j, s', h') => if j = id then some (.nrm, clearO L s', h') else some (.exit j, s', h')
    | r => r := by
  refine optext fun x => ?_
  rw [runF_iff]
  constructor
  · rintro ⟨n, hn⟩
    cases n with
    | zero => rw [run] at hn; cases hn
    | succ n =>
      simp only [run] at hn
      cases hb : run E n0 g (callF E) n b s h with
      | none => rw [hb] at hn; cases hn
      | some y =>
        rw [runF_iff.2 ⟨n, hb⟩]
        rw [hb] at hn
        exact hn
  · intro hx
    cases hb : runF E n0 g b s h with
    | none => rw [hb] at hx; cases hx
    | some y =>
      obtain ⟨n, hn⟩ := runF_iff.1 hb
      refine ⟨n + 1, ?_⟩
      simp only [run, hn]
      rw [hb] at hx
      exact hx
theorem runF_loop {L : Option (List Nat)} {b : AC} {s : Slots} {h : Heap} : runF E n0 g (.loop L b) s h = match runF E n0 g b (clearO L s) h with
    | some (.nrm, s', h') => runF E n0 g (.loop L b) s' h'
    | r => r := by
  refine optext fun x => ?_
  rw [runF_iff]
  constructor
  · rintro ⟨n, hn⟩
    cases n with
    | zero => rw [run] at hn; cases hn
    | succ n =>
      simp only [run] at hn
      split at hn
      · rename_i s1 h1 ha
        rw [runF_iff.2 ⟨n, ha⟩]
        exact runF_iff.2 ⟨n, hn⟩
      · rename_i hne
        rw [runF_iff.2 ⟨n, hn⟩]
        split
        · rename_i s1 h1 he
          cases he
          exact absurd hn (hne s1 h1)
        · rfl
  · intro hx
    split at hx
    · rename_i s1 h1 ha
      obtain ⟨n, hn⟩ := runF_iff.1 ha
      obtain ⟨m, hm⟩ := runF_iff.1 hx
      exact ⟨max n m + 1, by simp only [run, run_le hn (Nat.le_max_left n m), run_le hm (Nat.le_max_right n m)]⟩
    · rename_i hne
      obtain ⟨n, hn⟩ := runF_iff.1 hx
      refine ⟨n + 1, ?_⟩
      simp only [run, hn]
      split
      · rename_i s1 h1 he
        cases he
        exact absurd hx (hne s1 h1)
      · rfl
theorem callF_of {n f : Nat} {as : List AV} {h : Heap} {r : AV × Heap} (hc : call E n f as h = some r) : callF E f as h = some r := callF_iff.2 ⟨n, hc⟩
end
end Ab
