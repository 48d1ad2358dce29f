/- A region whose operations stand in the order of the text. -/
import Derived.Test.YtghlghbpaeimjaaDoorAbStepOk
import Derived.Orders
namespace Ab
open Go

/-- A frame under way: the abstract state and the model's. S0: where the function began. -/
structure Sim (E : Env) (n0 : Nat) (g : Bool) (nt : Nat) (S0 S : St) (s : Slots) (h : Heap) (a : Act) : Prop where
  heap : S.H = h
  good : Good S
  glob : GlobOk E S
  slots : SlotsOk S s a
  size : a.tmps.size = nt
  defers : a.defers = []
  low : n0 ≤ h.length
  step : Step n0 g S0 S

theorem SlotsOk.step {k : Nat} {g : Bool} {S S' : St} {s : Slots} {a : Act} (h : SlotsOk S s a) (e : Step k g S S') : SlotsOk S' s a := fun t => (h t).step e
theorem SlotsOk.put {S : St} {s : Slots} {a : Act} (h : SlotsOk S s a) {dst : Option Nat} (hd : ∀ d, dst = some d → d < a.tmps.size) {v : AV} {u : Value} (hv : RV S v u) : SlotsOk S (put s dst v) (a.put dst u) := by
  cases dst with
  | none => exact h
  | some d =>
    intro t
    show RV S (if t = d then v else get s t) ((a.tmps.setIfInBounds d u).getD t undef)
    by_cases ht : t = d
    · subst ht
      rw [if_pos rfl]
      have := hd t rfl
      simpa [Array.getD, this] using hv
    · rw [if_neg ht]
      have h1 := h t
      have : (a.tmps.setIfInBounds d u).getD t undef = a.tmps.getD t undef := by
        simp only [Array.getD_eq_getD_getElem?, Array.getElem?_setIfInBounds_ne (Ne.symm ht)]
      rw [this]; exact h1
theorem put_size (a : Act) (dst : Option Nat) (u : Value) : (a.put dst u).tmps.size = a.tmps.size := by cases dst <;> simp [Act.put]
theorem put_defers (a : Act) (dst : Option Nat) (u : Value) : (a.put dst u).defers = a.defers := by cases dst <;> rfl

theorem Sim.next {E : Env} {n0 nt : Nat} {g : Bool} {S0 S S' : St} {s : Slots} {h h' : Heap} {a : Act} (m : Sim E n0 g nt S0 S s h a) (hH : S'.H = h') (e : Step n0 g S S') (hG : Good S') {dst : Option Nat} (hd : ∀ d, dst = some d → d < nt)
    {v : AV} {u : Value} (hv : RV S' v u) : Sim E n0 g nt S0 S' (put s dst v) h' (a.put dst u) where
  heap := hH
  good := hG
  glob := m.glob.step e
  slots := (m.slots.step e).put (fun d hdd => by rw [m.size]; exact hd d hdd) hv
  size := by rw [put_size, m.size]
  defers := by rw [put_defers, m.defers]
  low := by have := e.len; rw [m.heap, hH] at this; exact Nat.le_trans m.low this
  step := m.step.trans e

section
variable {P : Program} {E : Env} {cf : CallF} {Q : Exit → Act → World → Prop}

theorem wants_ok {ops : Array Oper} {o : Oper} {s : Slots} {S : St} {a : Act} {gd : Option (Nat × Bool)} {w : Bool} (hg : oguard ops o = some gd) (hs : ∀ x b, gd = some (x, b) → RV S (get s x) (a.tmps.getD x undef)) (hw : wants s gd = some w) :
    Region.wanted o (yielded ops a.tmps) = w := by
  unfold oguard at hg
  unfold Region.wanted
  cases hgu : o.guard with
  | none =>
    rw [hgu] at hg
    cases hg
    simpa [wants] using hw
  | some p =>
    obtain ⟨j, b⟩ := p
    rw [hgu] at hg
    simp only at hg
    split at hg
    · rename_i x hx
      cases hg
      simp only [wants] at hw
      split at hw
      · rename_i c hc
        have hr := hs x b rfl
        have hu := rv_bool hc hr
        have : a.tmps[x]? = some (.bool c) := by
          rw [Array.getD_eq_getD_getElem?] at hu
          cases hx' : a.tmps[x]? with
          | none => rw [hx'] at hu; simp [undef] at hu
          | some y => rw [hx'] at hu; simpa using hu
        have hw' : (c == b) = w := by simpa using hw
        simp only [yielded, hx, Option.bind_some, this]
        rw [← hw']
        cases c <;> cases b <;> rfl
      · rename_i hc
        have hr := hs x b rfl
        obtain ⟨us, hu, hl⟩ := rv_tup hc hr
        have hw' : false = w := by simpa using hw
        cases hx' : a.tmps[x]? with
        | none => simp only [yielded, hx, Option.bind_some, hx', ← hw']; rfl
        | some y =>
          have : y = .tuple us := by rw [Array.getD_eq_getD_getElem?, hx'] at hu; exact hu
          subst this
          simp only [yielded, hx, Option.bind_some, hx', ← hw']
          rfl
      · cases hw
    · cases hg

/-- the places that the operations to come have kept -/
def Kept (S : St) (n0 base r : Nat) (aos : List AOper) : Prop :=
  ∀ q ob, (aos.filterMap fun o => resv o.op)[q]? = some ob → n0 ≤ base + (r + q) ∧ base + (r + q) < S.H.length ∧ S.m (base + (r + q)) = .non ∧ S.H[base + (r + q)]? = some ob

theorem rkOf_opS {r : Nat} {mt : Bool} {op : Op} {ao : AOp} (h : opS P r mt op = some ao) : rkOf ao = if (resv ao).isSome then some r else none := by
  unfold opS at h
  (repeat' split at h) <;> first | (cases h; done) | (cases h; rfl)

theorem Kept.tail {S S' : St} {n0 base r : Nat} {o : AOper} {aos : List AOper} (hk : Kept S n0 base r (o :: aos)) (hl : S.H.length ≤ S'.H.length)
    (hp : ∀ p, p < S.H.length → S.m p = .non → (∀ r', (if (resv o.op).isSome then some r else none) = some r' → p ≠ base + r') → S'.m p = .non ∧ S'.H[p]? = S.H[p]?) :
    Kept S' n0 base (if (resv o.op).isSome then r + 1 else r) aos := by
  intro q ob hq
  cases hr : resv o.op with
  | none =>
    simp only [hr, Option.isSome_none, Bool.false_eq_true, if_false] at hp ⊢
    obtain ⟨h1, h2, h3, h4⟩ := hk q ob (by simpa [List.filterMap_cons, hr] using hq)
    obtain ⟨h5, h6⟩ := hp _ h2 h3 (fun r' h => by cases h)
    exact ⟨h1, by omega, h5, h6.trans h4⟩
  | some ob0 =>
    simp only [hr, Option.isSome_some, if_true] at hp ⊢
    obtain ⟨h1, h2, h3, h4⟩ := hk (q + 1) ob (by simpa [List.filterMap_cons, hr] using hq)
    have e1 : r + 1 + q = r + (q + 1) := by omega
    rw [e1]
    obtain ⟨h5, h6⟩ := hp _ h2 h3 (fun r' h => by cases h; omega)
    exact ⟨h1, by omega, h5, h6.trans h4⟩

theorem ops_wp (hcf : CfOk P E cf) {ops : Array Oper} {mt : Nat → Bool} {n0 nt base : Nat} {g : Bool} {S0 : St} (hops : ∀ o ∈ ops.toList, ∀ d, o.dst = some d → d < nt) :
    ∀ (rest : List Oper) (i r : Nat) (aos : List AOper) (s s' : Slots) (h h' : Heap) (S : St) (a : Act), (∀ j, rest[j]? = ops[i + j]?) → opsS P mt ops i r rest = some aos → opsRun E cf n0 g base aos s h = some (s', h') →
      Sim E n0 g nt S0 S s h a → Kept S n0 base r aos → (∀ S' a', Sim E n0 g nt S0 S' s' h' a' → Q .normal a' S'.w) → wpOps P ops Q (List.range' i rest.length) a S.w
  | [], i, r, aos, s, s', h, h', S, a, _, hS, hrun, hsim, _, hQ => by
    cases hS
    simp only [opsRun, Option.some.injEq, Prod.mk.injEq] at hrun
    obtain ⟨rfl, rfl⟩ := hrun
    exact hQ S a hsim
  | o :: rest, i, r, aos, s, s', h, h', S, a, hi, hS, hrun, hsim, hkept, hQ => by
    have ho : ops[i]? = some o := by have := hi 0; simpa using this.symm
    have hmem : o ∈ ops.toList := by rw [Array.mem_toList_iff]; exact Array.mem_of_getElem? ho
    simp only [opsS] at hS
    split at hS
    · rename_i ao gd hao hgd
      split at hS
      · rename_i aos' haos
        cases hS
        have hi' : ∀ j, rest[j]? = ops[i + 1 + j]? := fun j => by have := hi (j + 1); rw [show i + 1 + j = i + (j + 1) by omega]; simpa using this
        have hrk := rkOf_opS hao
        rw [List.length_cons, List.range'_succ, wpOps_cons, wpOp, ho]
        show (if Region.wanted o (yielded ops a.tmps) = true then o.wp P a S.w _ Q ∨ (o.asks P a S.w ∧ LetsOut Q) else _)
        simp only [opsRun] at hrun
        have hslot : ∀ x b, gd = some (x, b) → RV S (get s x) (a.tmps.getD x undef) := fun x _ _ => hsim.slots x
        split at hrun
        · rename_i hw
          rw [if_pos (wants_ok hgd hslot hw)]
          left
          split at hrun
          · rename_i v h1 hst
            refine step_wp hcf hao hst hsim.heap hsim.good hsim.glob (fun x _ => opd_fixed hsim.glob x fun t _ => hsim.slots t) hsim.low (fun ob hob => ?_) (fun S' u hS' e hG' hrv hpend => ?_)
            · obtain ⟨h1, _, h3, h4⟩ := hkept 0 ob (by simp [List.filterMap_cons, hob])
              exact ⟨h1, h3, h4⟩
            · rw [hrk] at hpend
              exact ops_wp hcf hops rest (i + 1) _ aos' _ s' h1 h' S' _ hi' haos hrun (hsim.next hS' e hG' (fun d hd => hops o hmem d hd) hrv)
                (hkept.tail e.len fun p hp => hpend p (by rw [← hsim.heap]; exact hp)) hQ
          · cases hrun
        · rename_i hw
          have hwf : ¬ Region.wanted o (yielded ops a.tmps) = true := by rw [wants_ok hgd hslot hw]; simp
          rw [if_neg hwf]
          exact ops_wp hcf hops rest (i + 1) _ aos' _ s' h h' S _ hi' haos hrun (hsim.next hsim.heap (.refl _ _ _) hsim.good (fun d hd => hops o hmem d hd) ⟨#[], rfl, .nil⟩) (hkept.tail (Nat.le_refl _) (fun p _ hm _ => ⟨hm, rfl⟩)) hQ
        · cases hrun
      · cases hS
    · cases hS
end
end Ab
