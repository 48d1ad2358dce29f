/- The framework, part 3: StepOk, Region, Drawn, Drawn2, AnyOrder. -/
import Derived.Test.YtkomfefpfalajaaAb2
import Derived.Orders
/- One operation of a frame, calls among them, in the model's weakest-precondition form. -/
namespace Ab
open Go

def GlobOk (E : Env) (S : St) : Prop := ∀ k xs, E.gl k = some xs → ∃ vs, RPs S.w S.M xs vs ∧ Imm S.w S.M k 0 vs
theorem GlobOk.step {E : Env} {k : Nat} {g : Bool} {S S' : St} (h : GlobOk E S) (e : Step k g S S') : GlobOk E S' := fun i xs hx => by
  obtain ⟨vs, h1, h2⟩ := h i xs hx
  exact ⟨vs, h1.mono e.wext, h2.mono e.wext⟩

/-- the values of the operands that are no slots -/
theorem opd_fixed {E : Env} {S : St} {s : Slots} {a : Act} (hg : GlobOk E S) (x : Operand) (hx : ∀ t, x = .tmp t → RV S (get s t) (a.tmps.getD t undef)) : RV S (val E s (opd x)) (a.eval x) := by
  cases x with
  | tmp t => exact hx t rfl
  | const v =>
    show RV S ((cv v).getD .no) v
    cases h : cv v with
    | none => trivial
    | some x => exact (cv_ok h).1
  | global k =>
    show RV S (match E.gl k with | some xs => .eptr xs | none => .no) _
    cases h : E.gl k with
    | none => trivial
    | some xs =>
      obtain ⟨vs, h1, h2⟩ := hg k xs h
      exact ⟨k, 0, vs, rfl, h1, h2⟩
  | func f => exact ⟨#[], rfl, .nil, rfl⟩

def SlotsOk (S : St) (s : Slots) (a : Act) : Prop := ∀ t, RV S (get s t) (a.tmps.getD t undef)

/-- What is known of calls. -/
def Cok (P : Program) (E : Env) (f : Nat) (as : List AV) (h : Heap) (v : AV) (h' : Heap) : Prop := ∃ fn, E.fn f = some fn ∧ (∀ args w, (callFunc f args).run P w = .ok (.enter f args) w) ∧
    ∀ S args, S.H = h → Good S → GlobOk E S → All2 (RC S) as args.toList →
      Calls P f args S.w fun e w' => ∃ S' u, e = .returned u ∧ S'.w = w' ∧ S'.H = h' ∧ Step h.length fn.grow S S' ∧ Good S' ∧ RV S' v u
def CfOk (P : Program) (E : Env) (cf : CallF) : Prop := ∀ f as h v h', cf f as h = some (v, h') → Cok P E f as h v h'

theorem argL_ok {S : St} {x : AV} {u : Value} (h : RL S x u) : RL S (argL x) u := by
  cases x with
  | sl c xs => exact ⟨(show RK S (.sl c xs) u from h).1, trivial⟩
  | _ => exact h
theorem argLs_ok {S : St} : ∀ {xs : List AV} {us : List Value}, All2 (RL S) xs us → All2 (RL S) (xs.map argL) us
  | _, _, .nil => .nil
  | _, _, .cons h hs => .cons (argL_ok h) (argLs_ok hs)
theorem arg_ok {S : St} {x : AV} {u : Value} (h : RV S x u) (hn : ∀ xs, x ≠ .tup xs) : RC S (arg x) u := by
  cases x with
  | agg xs =>
    obtain ⟨us, hu, hs, hl⟩ := rv_agg rfl h
    refine ⟨us, hu, argLs_ok hs, ?_⟩
    rw [List.all_map]
    refine List.all_eq_true.2 fun x hx => ?_
    have := List.all_eq_true.1 hl x hx
    cases x <;> first | exact this | rfl
  | tup xs => exact absurd rfl (hn xs)
  | sl c xs => exact ⟨(show RK S (.sl c xs) u from h).1, trivial⟩
  | _ => exact h
theorem argsOf_ok {S : St} {vf : Opd → AV} {ρ : Operand → Value} : ∀ {xs : List Operand} {as : List AV}, argsOf vf (xs.map opd) = some as → (∀ x ∈ xs, RV S (vf (opd x)) (ρ x)) → All2 (RC S) as (xs.map ρ)
  | [], as, h, _ => by cases h; exact .nil
  | x :: xs, as, h, hv => by
    simp only [List.map_cons, argsOf] at h
    split at h
    · cases h
    · rename_i hnt
      split at h
      · rename_i vs hvs
        cases h
        exact .cons (arg_ok (hv x (by simp)) fun ys hy => hnt ys hy) (argsOf_ok hvs fun y hy => hv y (by simp [hy]))
      · cases h
theorem RC.of_RK {S : St} {x : AV} {u : Value} (h : RK S x u) (hc : isCap x = true) : RC S x u := by
  cases x <;> first | exact h | cases hc

theorem RCs.of_RKs {S : St} : ∀ {xs : List AV} {us : List Value}, All2 (RK S) xs us → xs.all isCap = true → All2 (RC S) xs us
  | _, _, .nil, _ => .nil
  | _, _, .cons h hs, hc => by
    simp only [List.all_cons, Bool.and_eq_true] at hc
    exact .cons (.of_RK h hc.1) (RCs.of_RKs hs hc.2)

theorem opS_call {P : Program} {r : Nat} {mt : Bool} {op : Op} {ao : AOp} (h : opS P r mt op = some ao) (hc : ao.isCall = true) :
    ∃ c, op = .call c ∧ ((∃ f, c.callee = .value (.func f) ∧ ao = .call f (c.args.toList.map opd)) ∨ ∃ t, c.callee = .value (.tmp t) ∧ ao = .callv (.t t) (c.args.toList.map opd)) := by
  unfold opS at h
  (repeat' split at h) <;> first | (cases h; done) | (cases h; cases hc; done) | (cases h; exact ⟨_, rfl, .inl ⟨_, by assumption, rfl⟩⟩) | (cases h; exact ⟨_, rfl, .inr ⟨_, by assumption, rfl⟩⟩)

section
variable {P : Program} {E : Env} {cf : CallF} {Q : Exit → Act → World → Prop}

theorem call_wp {S : St} {o : Oper} {f : Nat} {args : Array Value} {a : Act} {K : Act → World → Prop} {R : Ending → World → Prop}
    (hrun : (execOp a.eval o).run P S.w = .ok (.enter f args) S.w) (hc : Calls P f args S.w R) (hK : ∀ e w', R e w' → ∃ u, e = .returned u ∧ K (a.put o.dst u) w') : o.wp P a S.w K Q := by
  unfold Oper.wp
  rw [hrun, Oper.upon_enter]
  refine hc.mono fun e w' hr => ?_
  obtain ⟨u, rfl, hk⟩ := hK e w' hr
  exact hk

/-- ONE OPERATION. -/
theorem step_wp (hcf : CfOk P E cf) {S : St} {o : Oper} {ao : AOp} {n0 base r : Nat} {g : Bool} {mt : Bool} {s : Slots} {v : AV} {h h' : Heap} {a : Act} {K : Act → World → Prop} (hs : opS P r mt o.op = some ao)
    (hst : stepOp E cf n0 g base s h ao = some (v, h')) (hH : S.H = h) (hG : Good S) (hgl : GlobOk E S) (hv : ∀ x ∈ o.op.operands.toList, RV S (val E s (opd x)) (a.eval x)) (hn0 : n0 ≤ h.length)
    (hr : ∀ ob, resv ao = some ob → n0 ≤ base + r ∧ S.m (base + r) = .non ∧ S.H[base + r]? = some ob)
    (hK : ∀ S' u, S'.H = h' → Step n0 g S S' → Good S' → RV S' v u → (∀ p, p < h.length → S.m p = .non → (∀ r', rkOf ao = some r' → p ≠ base + r') → S'.m p = .non ∧ S'.H[p]? = S.H[p]?) → K (a.put o.dst u) S'.w) :
    o.wp P a S.w K Q := by
  subst hH
  unfold stepOp at hst
  split at hst
  · rename_i hcall
    split at hst
    · rename_i f as hcal
      split at hst
      · rename_i v1 h1 hcf1
        split at hst
        · rename_i fn hfn
          obtain ⟨fn', hfn', hcfun, hcalls⟩ := hcf f as S.H v1 h1 hcf1
          rw [hfn] at hfn'
          cases hfn'
          -- the caller's step out of the callee's
          have hfin : v1 = v ∧ h1 = h' ∧ (g = false → fn.grow = true → h1.take n0 = S.H.take n0) := by
            split at hst
            · rename_i hgg
              split at hst
              · rename_i ht; cases hst; exact ⟨rfl, rfl, fun _ _ => ht⟩
              · cases hst
            · rename_i hgg
              cases hst
              exact ⟨rfl, rfl, fun h1 h2 => absurd ⟨h1, h2⟩ hgg⟩
          obtain ⟨rfl, rfl, htake⟩ := hfin
          have hstep : ∀ S', S'.H = h1 → Step S.H.length fn.grow S S' → Step n0 g S S' := by
            intro S' hS' e
            refine { e with pend := fun p hp => e.pend p (by omega), low := fun hg p hp ys hy x hx => ?_ }
            cases hgr : fn.grow with
            | false => exact e.low hgr p (by omega) ys hy x hx
            | true =>
              have ht := htake hg hgr
              right
              refine ⟨ys, ?_, hx⟩
              have h1 : (h1.take n0)[p]? = h1[p]? := by rw [List.getElem?_take, if_pos hp]
              have h2 : (S.H.take n0)[p]? = S.H[p]? := by rw [List.getElem?_take, if_pos hp]
              rw [← h2, ← ht, h1, ← hS']
              exact hy
          have main : ∀ args, (execOp a.eval o).run P S.w = .ok (.enter f args) S.w → All2 (RC S) as args.toList → o.wp P a S.w K Q := by
            intro args hrun ha
            refine call_wp hrun (hcalls S args rfl hG hgl ha) fun e w' hR => ?_
            obtain ⟨S', u, rfl, rfl, hS', e, hG', hrv⟩ := hR
            exact ⟨u, rfl, hK S' u hS' (hstep S' hS' e) hG' hrv fun p hp hm _ => e.pend p hp hm⟩
          obtain ⟨c, hop, ⟨f', hc, rfl⟩ | ⟨t, hc, rfl⟩⟩ := opS_call hs hcall
          · have hmem : ∀ x ∈ c.args.toList, RV S (val E s (opd x)) (a.eval x) := fun x hx => hv x (by rw [hop]; simp only [Op.operands, Call.operands, hc]; simp; exact .inr (by simpa using hx))
            simp only [callee] at hcal
            split at hcal
            · rename_i as' has
              cases hcal
              refine main (c.args.map a.eval) ?_ ?_
              · simp [execOp, hop, resolve, hc, Deferred.ofValue, Act.eval, invoke, hcfun]
              · rw [Array.toList_map]
                exact argsOf_ok has hmem
            · cases hcal
          · have hmem : ∀ x ∈ c.args.toList, RV S (val E s (opd x)) (a.eval x) := fun x hx => hv x (by rw [hop]; simp only [Op.operands, Call.operands, hc]; simp; exact .inr (by simpa using hx))
            simp only [callee] at hcal
            split at hcal
            · rename_i f' ys hf
              split at hcal
              · rename_i as' has
                cases hcal
                have ht := hv (.tmp t) (by rw [hop]; simp only [Op.operands, Call.operands, hc]; simp)
                obtain ⟨vs, hu, hvs, hcap⟩ := rv_fn (show val E s (opd (.tmp t)) = .fn f ys from hf) ht
                refine main (c.args.map a.eval ++ vs) ?_ ?_
                · simp [execOp, hop, resolve, hc, hu, Deferred.ofValue, invoke, hcfun]
                · rw [Array.toList_append, Array.toList_map]
                  exact (argsOf_ok has hmem).append (RCs.of_RKs hvs hcap)
              · cases hcal
            · cases hcal
        · cases hst
      · cases hst
    · cases hst
  · rename_i hcall
    have hcall' : ao.isCall = false := by simpa using hcall
    obtain ⟨S', n, hrun, hS', e, hG', hres, hpend⟩ := op_does (ρ := a.eval) hs hcall' hst hG hv hr
    unfold Oper.wp
    rw [hrun]
    rcases hres with ⟨u, rfl, hrv⟩ | ⟨rfl, rfl⟩
    · rw [Oper.upon_value]
      exact hK S' u hS' e hG' hrv fun p _ hm hne => hpend p hm hne
    · rw [Oper.upon_skip]
      exact hK S' undef hS' e hG' trivial fun p _ hm hne => hpend p hm hne
end
end Ab
/- A region whose operations stand in the order of the text. -/
namespace Ab
open Go

/-- A frame under way: the abstract state and the model's. S0: where the function began. -/
structure Sim (E : Env) (n0 : Nat) (g : Bool) (nt : Nat) (S0 S : St) (s : Slots) (h : Heap) (a : Act) : Prop where
  heap : S.H = h
  good : Good S
  glob : GlobOk E S
  slots : SlotsOk S s a
  size : a.tmps.size = nt
  defers : a.defers = []
  low : n0 ≤ h.length
  step : Step n0 g S0 S

theorem SlotsOk.step {k : Nat} {g : Bool} {S S' : St} {s : Slots} {a : Act} (h : SlotsOk S s a) (e : Step k g S S') : SlotsOk S' s a := fun t => (h t).step e
theorem SlotsOk.put {S : St} {s : Slots} {a : Act} (h : SlotsOk S s a) {dst : Option Nat} (hd : ∀ d, dst = some d → d < a.tmps.size) {v : AV} {u : Value} (hv : RV S v u) : SlotsOk S (put s dst v) (a.put dst u) := by
  cases dst with
  | none => exact h
  | some d =>
    intro t
    show RV S (if t = d then v else get s t) ((a.tmps.setIfInBounds d u).getD t undef)
    by_cases ht : t = d
    · subst ht
      rw [if_pos rfl]
      have := hd t rfl
      simpa [Array.getD, this] using hv
    · rw [if_neg ht]
      have h1 := h t
      have : (a.tmps.setIfInBounds d u).getD t undef = a.tmps.getD t undef := by
        simp only [Array.getD_eq_getD_getElem?, Array.getElem?_setIfInBounds_ne (Ne.symm ht)]
      rw [this]; exact h1
theorem put_size (a : Act) (dst : Option Nat) (u : Value) : (a.put dst u).tmps.size = a.tmps.size := by cases dst <;> simp [Act.put]
theorem put_defers (a : Act) (dst : Option Nat) (u : Value) : (a.put dst u).defers = a.defers := by cases dst <;> rfl

theorem Sim.next {E : Env} {n0 nt : Nat} {g : Bool} {S0 S S' : St} {s : Slots} {h h' : Heap} {a : Act} (m : Sim E n0 g nt S0 S s h a) (hH : S'.H = h') (e : Step n0 g S S') (hG : Good S') {dst : Option Nat} (hd : ∀ d, dst = some d → d < nt)
    {v : AV} {u : Value} (hv : RV S' v u) : Sim E n0 g nt S0 S' (put s dst v) h' (a.put dst u) where
  heap := hH
  good := hG
  glob := m.glob.step e
  slots := (m.slots.step e).put (fun d hdd => by rw [m.size]; exact hd d hdd) hv
  size := by rw [put_size, m.size]
  defers := by rw [put_defers, m.defers]
  low := by have := e.len; rw [m.heap, hH] at this; exact Nat.le_trans m.low this
  step := m.step.trans e

section
variable {P : Program} {E : Env} {cf : CallF} {Q : Exit → Act → World → Prop}

theorem wants_ok {ops : Array Oper} {o : Oper} {s : Slots} {S : St} {a : Act} {gd : Option (Nat × Bool)} {w : Bool} (hg : oguard ops o = some gd) (hs : ∀ x b, gd = some (x, b) → RV S (get s x) (a.tmps.getD x undef)) (hw : wants s gd = some w) :
    Region.wanted o (yielded ops a.tmps) = w := by
  unfold oguard at hg
  unfold Region.wanted
  cases hgu : o.guard with
  | none =>
    rw [hgu] at hg
    cases hg
    simpa [wants] using hw
  | some p =>
    obtain ⟨j, b⟩ := p
    rw [hgu] at hg
    simp only at hg
    split at hg
    · rename_i x hx
      cases hg
      simp only [wants] at hw
      split at hw
      · rename_i c hc
        have hr := hs x b rfl
        have hu := rv_bool hc hr
        have : a.tmps[x]? = some (.bool c) := by
          rw [Array.getD_eq_getD_getElem?] at hu
          cases hx' : a.tmps[x]? with
          | none => rw [hx'] at hu; simp [undef] at hu
          | some y => rw [hx'] at hu; simpa using hu
        have hw' : (c == b) = w := by simpa using hw
        simp only [yielded, hx, Option.bind_some, this]
        rw [← hw']
        cases c <;> cases b <;> rfl
      · rename_i hc
        have hr := hs x b rfl
        obtain ⟨us, hu, hl⟩ := rv_tup hc hr
        have hw' : false = w := by simpa using hw
        cases hx' : a.tmps[x]? with
        | none => simp only [yielded, hx, Option.bind_some, hx', ← hw']; rfl
        | some y =>
          have : y = .tuple us := by rw [Array.getD_eq_getD_getElem?, hx'] at hu; exact hu
          subst this
          simp only [yielded, hx, Option.bind_some, hx', ← hw']
          rfl
      · cases hw
    · cases hg

/-- the places that the operations to come have kept -/
def Kept (S : St) (n0 base r : Nat) (aos : List AOper) : Prop :=
  ∀ q ob, (aos.filterMap fun o => resv o.op)[q]? = some ob → n0 ≤ base + (r + q) ∧ base + (r + q) < S.H.length ∧ S.m (base + (r + q)) = .non ∧ S.H[base + (r + q)]? = some ob

theorem rkOf_opS {r : Nat} {mt : Bool} {op : Op} {ao : AOp} (h : opS P r mt op = some ao) : rkOf ao = if (resv ao).isSome then some r else none := by
  unfold opS at h
  (repeat' split at h) <;> first | (cases h; done) | (cases h; rfl)

theorem Kept.tail {S S' : St} {n0 base r : Nat} {o : AOper} {aos : List AOper} (hk : Kept S n0 base r (o :: aos)) (hl : S.H.length ≤ S'.H.length)
    (hp : ∀ p, p < S.H.length → S.m p = .non → (∀ r', (if (resv o.op).isSome then some r else none) = some r' → p ≠ base + r') → S'.m p = .non ∧ S'.H[p]? = S.H[p]?) :
    Kept S' n0 base (if (resv o.op).isSome then r + 1 else r) aos := by
  intro q ob hq
  cases hr : resv o.op with
  | none =>
    simp only [hr, Option.isSome_none, Bool.false_eq_true, if_false] at hp ⊢
    obtain ⟨h1, h2, h3, h4⟩ := hk q ob (by simpa [List.filterMap_cons, hr] using hq)
    obtain ⟨h5, h6⟩ := hp _ h2 h3 (fun r' h => by cases h)
    exact ⟨h1, by omega, h5, h6.trans h4⟩
  | some ob0 =>
    simp only [hr, Option.isSome_some, if_true] at hp ⊢
    obtain ⟨h1, h2, h3, h4⟩ := hk (q + 1) ob (by simpa [List.filterMap_cons, hr] using hq)
    have e1 : r + 1 + q = r + (q + 1) := by omega
    rw [e1]
    obtain ⟨h5, h6⟩ := hp _ h2 h3 (fun r' h => by cases h; omega)
    exact ⟨h1, by omega, h5, h6.trans h4⟩

theorem ops_wp (hcf : CfOk P E cf) {ops : Array Oper} {mt : Nat → Bool} {n0 nt base : Nat} {g : Bool} {S0 : St} (hops : ∀ o ∈ ops.toList, ∀ d, o.dst = some d → d < nt) :
    ∀ (rest : List Oper) (i r : Nat) (aos : List AOper) (s s' : Slots) (h h' : Heap) (S : St) (a : Act), (∀ j, rest[j]? = ops[i + j]?) → opsS P mt ops i r rest = some aos → opsRun E cf n0 g base aos s h = some (s', h') →
      Sim E n0 g nt S0 S s h a → Kept S n0 base r aos → (∀ S' a', Sim E n0 g nt S0 S' s' h' a' → Q .normal a' S'.w) → wpOps P ops Q (List.range' i rest.length) a S.w
  | [], i, r, aos, s, s', h, h', S, a, _, hS, hrun, hsim, _, hQ => by
    cases hS
    simp only [opsRun, Option.some.injEq, Prod.mk.injEq] at hrun
    obtain ⟨rfl, rfl⟩ := hrun
    exact hQ S a hsim
  | o :: rest, i, r, aos, s, s', h, h', S, a, hi, hS, hrun, hsim, hkept, hQ => by
    have ho : ops[i]? = some o := by have := hi 0; simpa using this.symm
    have hmem : o ∈ ops.toList := by rw [Array.mem_toList_iff]; exact Array.mem_of_getElem? ho
    simp only [opsS] at hS
    split at hS
    · rename_i ao gd hao hgd
      split at hS
      · rename_i aos' haos
        cases hS
        have hi' : ∀ j, rest[j]? = ops[i + 1 + j]? := fun j => by have := hi (j + 1); rw [show i + 1 + j = i + (j + 1) by omega]; simpa using this
        have hrk := rkOf_opS hao
        rw [List.length_cons, List.range'_succ, wpOps_cons, wpOp, ho]
        show (if Region.wanted o (yielded ops a.tmps) = true then o.wp P a S.w _ Q ∨ (o.asks P a S.w ∧ LetsOut Q) else _)
        simp only [opsRun] at hrun
        have hslot : ∀ x b, gd = some (x, b) → RV S (get s x) (a.tmps.getD x undef) := fun x _ _ => hsim.slots x
        split at hrun
        · rename_i hw
          rw [if_pos (wants_ok hgd hslot hw)]
          left
          split at hrun
          · rename_i v h1 hst
            refine step_wp hcf hao hst hsim.heap hsim.good hsim.glob (fun x _ => opd_fixed hsim.glob x fun t _ => hsim.slots t) hsim.low (fun ob hob => ?_) (fun S' u hS' e hG' hrv hpend => ?_)
            · obtain ⟨h1, _, h3, h4⟩ := hkept 0 ob (by simp [List.filterMap_cons, hob])
              exact ⟨h1, h3, h4⟩
            · rw [hrk] at hpend
              exact ops_wp hcf hops rest (i + 1) _ aos' _ s' h1 h' S' _ hi' haos hrun (hsim.next hS' e hG' (fun d hd => hops o hmem d hd) hrv)
                (hkept.tail e.len fun p hp => hpend p (by rw [← hsim.heap]; exact hp)) hQ
          · cases hrun
        · rename_i hw
          have hwf : ¬ Region.wanted o (yielded ops a.tmps) = true := by rw [wants_ok hgd hslot hw]; simp
          rw [if_neg hwf]
          exact ops_wp hcf hops rest (i + 1) _ aos' _ s' h h' S _ hi' haos hrun (hsim.next hsim.heap (.refl _ _ _) hsim.good (fun d hd => hops o hmem d hd) ⟨#[], rfl, .nil⟩) (hkept.tail (Nat.le_refl _) (fun p _ hm _ => ⟨hm, rfl⟩)) hQ
        · cases hrun
      · cases hS
    · cases hS
end
end Ab
/- A region whose operations Go may carry out in more than one order: every order comes to what the text's order comes to. -/
namespace Ab
open Go

/-! ### the text's order, step by step -/
structure Trace (E : Env) (cf : CallF) (n0 : Nat) (g : Bool) (base : Nat) (aos : List AOper) (σ : Nat → Slots) (η : Nat → Heap) (ν : Nat → AV) : Prop where
  op : ∀ k ao, aos[k]? = some ao → ((wants (σ k) ao.guard = some true ∧ stepOp E cf n0 g base (σ k) (η k) ao.op = some (ν k, η (k + 1))) ∨ (wants (σ k) ao.guard = some false ∧ ν k = .tup [] ∧ η (k + 1) = η k)) ∧ σ (k + 1) = put (σ k) ao.dst (ν k)

theorem opsRun_trace {E : Env} {cf : CallF} {n0 base : Nat} {g : Bool} : ∀ (aos : List AOper) (s s' : Slots) (h h' : Heap), opsRun E cf n0 g base aos s h = some (s', h') →
    ∃ σ η ν, Trace E cf n0 g base aos σ η ν ∧ σ 0 = s ∧ η 0 = h ∧ σ aos.length = s' ∧ η aos.length = h' ∧
      ∀ k, k ≤ aos.length → (opsTrace E cf n0 g base aos s h)[k]? = some (η k, match aos[k]? with | some ao => looks E (σ k) ao | none => none)
  | [], s, s', h, h', hr => by
    simp only [opsRun, Option.some.injEq, Prod.mk.injEq] at hr
    obtain ⟨rfl, rfl⟩ := hr
    refine ⟨fun _ => s, fun _ => h, fun _ => .no, ⟨fun k ao hk => by simp at hk⟩, rfl, rfl, rfl, rfl, fun k hk => ?_⟩
    have hk0 : k = 0 := by simpa using hk
    subst hk0
    rfl
  | o :: aos, s, s', h, h', hr => by
    simp only [opsRun] at hr
    have build : ∀ (v : AV) (h1 : Heap), ((wants s o.guard = some true ∧ stepOp E cf n0 g base s h o.op = some (v, h1)) ∨ (wants s o.guard = some false ∧ v = .tup [] ∧ h1 = h)) → opsRun E cf n0 g base aos (put s o.dst v) h1 = some (s', h') →
        opsTrace E cf n0 g base (o :: aos) s h = (h, looks E s o) :: opsTrace E cf n0 g base aos (put s o.dst v) h1 →
        ∃ σ η ν, Trace E cf n0 g base (o :: aos) σ η ν ∧ σ 0 = s ∧ η 0 = h ∧ σ (o :: aos).length = s' ∧ η (o :: aos).length = h' ∧
          ∀ k, k ≤ (o :: aos).length → (opsTrace E cf n0 g base (o :: aos) s h)[k]? = some (η k, match (o :: aos)[k]? with | some ao => looks E (σ k) ao | none => none) := by
      intro v h1 hop hr1 htr
      obtain ⟨σ, η, ν, ht, h0, h00, h2, h3, h4⟩ := opsRun_trace aos _ s' h1 h' hr1
      refine ⟨fun k => match k with | 0 => s | k + 1 => σ k, fun k => match k with | 0 => h | k + 1 => η k, fun k => match k with | 0 => v | k + 1 => ν k, ⟨fun k ao hk => ?_⟩, rfl, rfl, h2, h3, fun k hk => ?_⟩
      · cases k with
        | zero =>
          obtain rfl : o = ao := by simpa using hk
          simp only [h0, h00]
          exact ⟨hop, trivial⟩
        | succ k => exact ht.op k ao (by simpa using hk)
      · rw [htr]
        cases k with
        | zero => rfl
        | succ k =>
          have := h4 k (by simpa using hk)
          simpa using this
    split at hr
    · rename_i hw
      split at hr
      · rename_i v h1 hst
        exact build v h1 (.inl ⟨hw, hst⟩) hr (by simp only [opsTrace, hw, hst])
      · cases hr
    · rename_i hw
      exact build (.tup []) h (.inr ⟨hw, rfl, rfl⟩) hr (by simp only [opsTrace, hw])
    · cases hr

/-! ### what an operation that writes nothing reads -/
def looksV (vf : Opd → AV) : AOp → Option Nat
  | .ld _ _ x => match vf x with | .ptr p _ => some p | _ => none
  | .b2s x => match vf x with | .arr p _ _ => some p | _ => none
  | _ => none

theorem nonwriter {n0 base : Nat} {g : Bool} {vf : Opd → AV} {h h' : Heap} {ao : AOp} {v : AV} (hw : ao.writes = false) (hh : heapOp n0 g base vf h ao = some (v, h')) :
    h' = h ∧ ∀ h2, (∀ o, looksV vf ao = some o → h2[o]? = h[o]?) → heapOp n0 g base vf h2 ao = some (v, h2) := by
  cases ao <;> simp only [AOp.writes, Bool.true_eq_false] at hw
  case ld agg n x =>
    simp only [heapOp] at hh ⊢
    split at hh
    · rename_i o off hx
      split at hh
      · rename_i xs hxs
        split at hh
        · rename_i hl
          split at hh
          · rename_i v' hv
            cases hh
            refine ⟨rfl, fun h2 hl2 => ?_⟩
            have := hl2 o (by simp [looksV, hx])
            rw [this, hxs]
            simp only [hl, if_true, hv]
          · cases hh
        · cases hh
      · cases hh
    · rename_i xs hx
      split at hh
      · rename_i hl
        split at hh
        · rename_i v' hv
          cases hh
          exact ⟨rfl, fun h2 _ => by simp only [hl, if_true, hv]⟩
        · cases hh
      · cases hh
    · cases hh
  case b2s x =>
    simp only [heapOp] at hh ⊢
    split at hh
    · cases hh
    · rename_i hns
      split at hh
      · rename_i xs hxs
        split at hh
        · rename_i b hb
          cases hh
          refine ⟨rfl, fun h2 hl2 => ?_⟩
          have he : elemsOf h2 1 (vf x) = some xs := by
            cases hx : vf x with
            | arr o off len =>
              have := hl2 o (by simp [looksV, hx])
              rw [hx] at hxs
              simp only [elemsOf] at hxs ⊢
              rw [this]; exact hxs
            | _ => rw [hx] at hxs; exact hxs
          cases hx : vf x with
          | str b' => exact absurd hx (hns b')
          | _ => rw [hx] at he; simp only [he, hb]
        · cases hh
      · cases hh
  case al r z =>
    simp only [heapOp, Option.some.injEq, Prod.mk.injEq] at hh ⊢
    exact ⟨hh.2.symm, fun h2 _ => ⟨hh.1, trivial⟩⟩
  case sla n sz x lo hi =>
    simp only [heapOp] at hh ⊢
    split at hh
    · split at hh
      · rename_i hb
        cases hh
        exact ⟨rfl, fun h2 _ => by simp only [hb]⟩
      · cases hh
    · cases hh
  case sll sz x lo hi =>
    simp only [heapOp] at hh ⊢
    split at hh
    · split at hh
      · rename_i hb
        cases hh
        exact ⟨rfl, fun h2 _ => by simp only [hb]⟩
      · cases hh
    · rename_i hna
      split at hh
      · rename_i v' hv
        cases hh
        refine ⟨rfl, fun h2 _ => ?_⟩
        rfl
      · cases hh
  all_goals
    simp only [heapOp] at hh ⊢
    split at hh
    · rename_i v' hv
      cases hh
      exact ⟨rfl, fun h2 _ => by simp only [hv]⟩
    · cases hh
end Ab
/- Every order that the edges allow comes to what the text's order comes to. -/
namespace Ab
open Go

/-! ### ancestors by the edges -/
def ancRow (o : Oper) (acc : List (List Nat)) : List Nat := o.after.toList.flatMap fun e => if Region.binds .any e then e.on :: acc.getD e.on [] else []
theorem ancs_eq (o : Oper) (r : List Oper) (acc : List (List Nat)) : ancs (o :: r) acc = ancs r (acc ++ [ancRow o acc]) := rfl
theorem ancs_len : ∀ (l : List Oper) (acc : List (List Nat)), (ancs l acc).length = acc.length + l.length
  | [], acc => by simp [ancs]
  | o :: r, acc => by rw [ancs_eq, ancs_len r]; simp; omega
theorem ancs_pre : ∀ (l : List Oper) (acc : List (List Nat)) (j : Nat), j < acc.length → (ancs l acc)[j]? = acc[j]?
  | [], acc, j, _ => rfl
  | o :: r, acc, j, hj => by rw [ancs_eq, ancs_pre r _ j (by simp; omega), List.getElem?_append_left hj]
theorem ancs_at : ∀ (l : List Oper) (acc : List (List Nat)) (j : Nat) (o : Oper), l[j]? = some o → (ancs l acc)[acc.length + j]? = some (ancRow o ((ancs l acc).take (acc.length + j)))
  | [], acc, j, o, h => by simp at h
  | p :: r, acc, 0, o, h => by
    obtain rfl : p = o := by simpa using h
    rw [ancs_eq, ancs_pre r _ _ (by simp)]
    simp only [Nat.add_zero, List.getElem?_concat_length, Option.some.injEq]
    congr 1
    apply List.ext_getElem?
    intro i
    rw [List.getElem?_take]
    split
    · rename_i hi; rw [ancs_pre r _ i (by simp; omega), List.getElem?_append_left hi]
    · rename_i hi; rw [List.getElem?_eq_none (by omega)]
  | p :: r, acc, j + 1, o, h => by
    have := ancs_at r (acc ++ [ancRow p acc]) j o (by simpa using h)
    rw [ancs_eq]
    simp only [List.length_append, List.length_cons, List.length_nil] at this
    rw [show acc.length + (j + 1) = acc.length + (0 + 1) + j by omega]
    exact this

theorem anc_mem {l : List Oper} {j p : Nat} {o : Oper} (h : l[j]? = some o) (hp : p ∈ (ancs l []).getD j []) :
    ∃ e ∈ o.after.toList, Region.binds .any e = true ∧ (p = e.on ∨ (e.on < j ∧ p ∈ (ancs l []).getD e.on [])) := by
  have h1 := ancs_at l [] j o h
  simp only [List.length_nil, Nat.zero_add] at h1
  rw [List.getD_eq_getElem?_getD, h1] at hp
  simp only [Option.getD_some, ancRow, List.mem_flatMap] at hp
  obtain ⟨e, he, hp⟩ := hp
  split at hp
  · rename_i hb
    refine ⟨e, he, hb, ?_⟩
    rcases List.mem_cons.1 hp with h | h
    · exact .inl h
    · right
      rw [List.getD_eq_getElem?_getD, List.getElem?_take] at h
      split at h
      · rename_i hlt; exact ⟨hlt, by rw [List.getD_eq_getElem?_getD]; exact h⟩
      · simp at h
  · cases hp

/-- what is closed under the edges is closed under what they come to -/
theorem anc_closed {ops : Array Oper} {L : Nat → Prop} (hdc : ∀ j o, ops[j]? = some o → L j → ∀ e ∈ o.after.toList, Region.binds .any e = true → L e.on) :
    ∀ j o, ops[j]? = some o → L j → ∀ p ∈ (ancs ops.toList []).getD j [], L p := by
  intro j
  induction j using Nat.strongRecOn with
  | _ j ih =>
    intro o ho hL p hp
    obtain ⟨e, he, hb, h⟩ := anc_mem (by rw [Array.getElem?_toList]; exact ho) hp
    have hLe := hdc j o ho hL e he hb
    rcases h with rfl | ⟨hlt, hp'⟩
    · exact hLe
    · cases hoe : ops[e.on]? with
      | none =>
        have : (ancs ops.toList [])[e.on]? = none := by
          apply List.getElem?_eq_none
          rw [ancs_len]
          simp only [List.length_nil, Nat.zero_add, Array.length_toList]
          rcases Nat.lt_or_ge e.on ops.size with h | h
          · rw [Array.getElem?_eq_getElem h] at hoe; cases hoe
          · exact h
        rw [List.getD_eq_getElem?_getD, this] at hp'
        simp at hp'
      | some oe => exact ih e.on hlt oe hoe hLe p hp'
theorem anc_ready {ops : Array Oper} {L : Nat → Prop} (hdc : ∀ j o, ops[j]? = some o → L j → ∀ e ∈ o.after.toList, Region.binds .any e = true → L e.on) {i : Nat} {o : Oper} (ho : ops[i]? = some o)
    (hr : ∀ e ∈ o.after.toList, Region.binds .any e = true → L e.on) : ∀ p ∈ (ancs ops.toList []).getD i [], L p := by
  intro p hp
  obtain ⟨e, he, hb, h⟩ := anc_mem (by rw [Array.getElem?_toList]; exact ho) hp
  rcases h with rfl | ⟨hlt, hp'⟩
  · exact hr e he hb
  · cases hoe : ops[e.on]? with
    | none =>
      have : (ancs ops.toList [])[e.on]? = none := by
        apply List.getElem?_eq_none
        rw [ancs_len]
        simp only [List.length_nil, Nat.zero_add, Array.length_toList]
        rcases Nat.lt_or_ge e.on ops.size with h | h
        · rw [Array.getElem?_eq_getElem h] at hoe; cases hoe
        · exact h
      rw [List.getD_eq_getElem?_getD, this] at hp'
      simp at hp'
    | some oe => exact anc_closed hdc e.on oe hoe (hr e he hb) p hp'

/-! ### the operations and their places -/
def cnt (l : List AOper) : Nat := (l.filterMap fun o => resv o.op).length
theorem cnt_cons (o : AOper) (l : List AOper) : cnt (o :: l) = (if (resv o.op).isSome then 1 else 0) + cnt l := by
  unfold cnt
  cases h : resv o.op <;> simp [List.filterMap_cons, h]; omega
theorem cnt_append (l l' : List AOper) : cnt (l ++ l') = cnt l + cnt l' := by simp [cnt]
theorem filterMap_at : ∀ (aos : List AOper) (j : Nat) (ao : AOper) (ob : Ob), aos[j]? = some ao → resv ao.op = some ob → (aos.filterMap fun o => resv o.op)[cnt (aos.take j)]? = some ob
  | [], j, ao, ob, h, _ => by simp at h
  | o :: aos, 0, ao, ob, h, hr => by
    obtain rfl : o = ao := by simpa using h
    simp [cnt, List.filterMap_cons, hr]
  | o :: aos, j + 1, ao, ob, h, hr => by
    have := filterMap_at aos j ao ob (by simpa using h) hr
    rw [List.take_succ_cons, cnt_cons]
    cases ho : resv o.op with
    | none => simpa [List.filterMap_cons, ho] using this
    | some b =>
      simp only [List.filterMap_cons, ho, Option.isSome_some, if_true]
      rw [Nat.add_comm, List.getElem?_cons_succ]
      exact this
theorem cnt_lt {aos : List AOper} {i j : Nat} {ao : AOper} (hij : i < j) (h : aos[i]? = some ao) (hr : (resv ao.op).isSome = true) : cnt (aos.take i) < cnt (aos.take j) := by
  have h1 : aos.take j = aos.take i ++ (aos.take j).drop i := by
    have e := (List.take_append_drop i (aos.take j)).symm
    rw [List.take_take, Nat.min_eq_left (by omega)] at e
    exact e
  have h2 : ((aos.take j).drop i)[0]? = some ao := by rw [List.getElem?_drop, Nat.add_zero, List.getElem?_take, if_pos hij]; exact h
  rw [h1, cnt_append]
  cases hd : (aos.take j).drop i with
  | nil => rw [hd] at h2; simp at h2
  | cons x xs =>
    rw [hd] at h2
    obtain rfl : x = ao := by simpa using h2
    rw [cnt_cons, hr]
    simp only [if_true]
    omega

theorem opsS_get {P : Program} {mt : Nat → Bool} {ops : Array Oper} : ∀ (rest : List Oper) (i r : Nat) (aos : List AOper), opsS P mt ops i r rest = some aos →
    aos.length = rest.length ∧ ∀ j o, rest[j]? = some o → ∃ ao gd, aos[j]? = some ⟨o.dst, ao, gd⟩ ∧ opS P (r + cnt (aos.take j)) (mt (i + j)) o.op = some ao ∧ oguard ops o = some gd
  | [], i, r, aos, h => by cases h; exact ⟨rfl, fun j o h => by simp at h⟩
  | p :: rest, i, r, aos, h => by
    simp only [opsS] at h
    split at h
    · rename_i ao gd hao hgd
      split at h
      · rename_i aos' haos
        cases h
        obtain ⟨hl, hg⟩ := opsS_get rest (i + 1) _ aos' haos
        refine ⟨by simp [hl], fun j o hj => ?_⟩
        cases j with
        | zero =>
          obtain rfl : p = o := by simpa using hj
          exact ⟨ao, gd, rfl, by simpa [cnt] using hao, hgd⟩
        | succ j =>
          obtain ⟨ao', gd', h1, h2, h3⟩ := hg j o (by simpa using hj)
          refine ⟨ao', gd', by simpa using h1, ?_, h3⟩
          rw [List.take_succ_cons, cnt_cons, show i + (j + 1) = i + 1 + j by omega]
          have e : r + ((if (resv ao).isSome = true then 1 else 0) + cnt (aos'.take j)) = (if (resv ao).isSome = true then r + 1 else r) + cnt (aos'.take j) := by split <;> omega
          rw [e]; exact h2
      · cases h
    · cases h

/-! ### what is held once for a region -/
structure Facts (ops : Array Oper) (aos : List AOper) (d : List (Nat × List Nat)) : Prop where
  back : ∀ j o, ops[j]? = some o → ∀ e ∈ o.after.toList, Region.binds .any e = true → e.on < j
  pair : ∀ j, j < ops.size → ∀ i, i < j → i ∈ (ancs ops.toList []).getD j [] ∨
    ((∃ x y, ops[i]? = some x ∧ ops[j]? = some y ∧ slotsApart ops x y = true) ∧ ∀ a b, aos[i]? = some a → aos[j]? = some b → ¬ (a.op.writes = true ∧ b.op.writes = true))
  look : ∀ i ao, i < ops.size → aos[i]? = some ao → ao.op.reads = true → ∀ j b, j < ops.size → aos[j]? = some b → b.op.writes = true →
    ((j < i → j ∉ (ancs ops.toList []).getD i []) ∧ (¬ j < i → i ∉ (ancs ops.toList []).getD j [])) → ∃ js, (i, js) ∈ d ∧ j ∈ js

theorem facts_of {ops : Array Oper} {aos : List AOper} {d : List (Nat × List Nat)} (h : drawS ops aos = some d) : Facts ops aos d := by
  unfold drawS at h
  simp only at h
  split at h
  · rename_i hc
    cases h
    simp only [Bool.and_eq_true, List.all_eq_true, List.mem_range] at hc
    obtain ⟨h1, h2⟩ := hc
    have hsz : ∀ j o, ops[j]? = some o → j < ops.size := fun j o ho => lt_of_someA ho
    refine ⟨fun j o ho e he hb => ?_, fun j hj i hi => ?_, fun i ao hi hao hrd j b hj hb hwb hn => ?_⟩
    · have := h1 j (hsz j o ho)
      rw [ho] at this
      simp only [List.all_eq_true] at this
      have := this e he
      rw [hb] at this
      simpa using this
    · have := h2 j hj i hi
      simp only [Bool.or_eq_true, Bool.and_eq_true, Bool.not_eq_true'] at this
      rcases this with h | ⟨h, hw⟩
      · left; simpa using h
      · right
        refine ⟨?_, fun a b ha hb => ?_⟩
        · rw [Array.getElem?_eq_getElem (show i < ops.size by omega), Array.getElem?_eq_getElem hj] at h ⊢
          exact ⟨_, _, rfl, rfl, h⟩
        · rw [ha, hb] at hw
          simpa using hw
    · refine ⟨(List.range ops.size).filter fun j => (match aos[j]? with | some o => o.op.writes | none => false) && (if j < i then !((ancs ops.toList []).getD i []).contains j else !((ancs ops.toList []).getD j []).contains i), ?_, ?_⟩
      · rw [List.mem_filterMap]
        refine ⟨i, by simpa using hi, ?_⟩
        rw [hao]
        simp only [hrd, if_true]
        split
        · rename_i hemp
          exfalso
          rw [List.isEmpty_iff, List.filter_eq_nil_iff] at hemp
          have := hemp j (by simpa using hj)
          rw [hb] at this
          simp only [hwb, Bool.true_and] at this
          split at this
          · rename_i hlt; exact this (by simpa using hn.1 hlt)
          · rename_i hlt; exact this (by simpa using hn.2 hlt)
        · rfl
      · rw [List.mem_filter]
        refine ⟨by simpa using hj, ?_⟩
        rw [hb]
        simp only [hwb, Bool.true_and]
        split
        · rename_i hlt; simpa using hn.1 hlt
        · rename_i hlt; simpa using hn.2 hlt
  · cases h

theorem apart_spec {ops : Array Oper} {x y : Oper} (h : slotsApart ops x y = true) : (∀ t, x.dst = some t → t ∉ slotsOf ops y ∧ y.dst ≠ some t) ∧ (∀ t, y.dst = some t → t ∉ slotsOf ops x) := by
  unfold slotsApart at h
  simp only [Bool.and_eq_true] at h
  refine ⟨fun t ht => ?_, fun t ht => ?_⟩
  · have := h.1; rw [ht] at this; simpa using this
  · have := h.2; rw [ht] at this; simpa using this
end Ab
/- A region whose operations Go may carry out in more than one order: the theorem. -/
namespace Ab
open Go

def Lst (lst : Array Bool) (j : Nat) : Prop := lst[j]? = some true
theorem getD_false {lst : Array Bool} {j : Nat} : lst.getD j false = true ↔ Lst lst j := by
  unfold Lst
  rw [Array.getD_eq_getD_getElem?]
  cases lst[j]? <;> simp
theorem getD_true {lst : Array Bool} {j : Nat} : lst.getD j true = false ↔ lst[j]? = some false := by
  rw [Array.getD_eq_getD_getElem?]
  cases lst[j]? <;> simp
theorem mem_ready {ops : Array Oper} {lst : Array Bool} {i : Nat} : i ∈ Region.ready .any ops lst ↔
    ∃ o, ops[i]? = some o ∧ lst[i]? = some false ∧ ∀ e ∈ o.after.toList, Region.binds .any e = true → Lst lst e.on := by
  unfold Region.ready
  simp only [List.mem_filter, List.mem_range, Bool.and_eq_true, Bool.not_eq_true', getD_true]
  constructor
  · rintro ⟨hi, h1, h2⟩
    rw [Array.getElem?_eq_getElem hi] at h2 ⊢
    refine ⟨_, rfl, h1, fun e he hb => ?_⟩
    simp only [Option.map_some, Option.getD_some, ← Array.all_toList, List.all_eq_true] at h2
    have := h2 e he
    rw [hb] at this
    exact getD_false.1 (by simpa using this)
  · rintro ⟨o, ho, h1, h2⟩
    refine ⟨lt_of_someA ho, h1, ?_⟩
    rw [ho]
    simp only [Option.map_some, Option.getD_some, ← Array.all_toList, List.all_eq_true]
    intro e he
    cases hb : Region.binds .any e with
    | false => rfl
    | true => simpa using getD_false.2 (h2 e he hb)

section
variable {E : Env} {cf : CallF} {n0 base : Nat} {g : Bool} {aos : List AOper} {σ : Nat → Slots} {η : Nat → Heap} {ν : Nat → AV}

theorem Trace.eta (t : Trace E cf n0 g base aos σ η ν) (k : Nat) (ao : AOper) (h : aos[k]? = some ao) (hw : ao.op.writes = false) : η (k + 1) = η k := by
  rcases (t.op k ao h).1 with ⟨_, h1⟩ | ⟨_, _, h1⟩
  · unfold stepOp at h1
    have hc : ao.op.isCall = false := by cases hop : ao.op <;> rw [hop] at hw <;> first | rfl | cases hw
    rw [hc] at h1
    simp only [Bool.false_eq_true, if_false] at h1
    exact (nonwriter hw h1).1
  · exact h1
theorem Trace.eta_eq (t : Trace E cf n0 g base aos σ η ν) : ∀ (m k : Nat), k + m ≤ aos.length → (∀ j ao, k ≤ j → j < k + m → aos[j]? = some ao → ao.op.writes = false) → η (k + m) = η k
  | 0, _, _, _ => rfl
  | m + 1, k, hl, h => by
    have hk : k + m < aos.length := by omega
    rw [show k + (m + 1) = k + m + 1 by omega, t.eta (k + m) _ (List.getElem?_eq_getElem hk) (h (k + m) _ (by omega) (by omega) (List.getElem?_eq_getElem hk))]
    exact t.eta_eq m k (by omega) fun j ao h1 h2 => h j ao h1 (by omega)
theorem Trace.eta_same (t : Trace E cf n0 g base aos σ η ν) {k k' : Nat} (hk : k ≤ aos.length) (hk' : k' ≤ aos.length) (h : ∀ j ao, (k ≤ j ∧ j < k' ∨ k' ≤ j ∧ j < k) → aos[j]? = some ao → ao.op.writes = false) : η k = η k' := by
  rcases Nat.le_total k k' with hle | hle
  · obtain ⟨m, rfl⟩ := Nat.exists_eq_add_of_le hle
    exact (t.eta_eq m k hk' fun j ao h1 h2 => h j ao (.inl ⟨h1, h2⟩)).symm
  · obtain ⟨m, rfl⟩ := Nat.exists_eq_add_of_le hle
    exact t.eta_eq m k' hk fun j ao h1 h2 => h j ao (.inr ⟨h1, h2⟩)
/-- one object alone -/
theorem Trace.at_eq (t : Trace E cf n0 g base aos σ η ν) (o : Nat) : ∀ (m k : Nat), k + m ≤ aos.length → (∀ j ao, k ≤ j → j < k + m → aos[j]? = some ao → ao.op.writes = true → (η j)[o]? = (η (j + 1))[o]?) → (η (k + m))[o]? = (η k)[o]?
  | 0, _, _, _ => rfl
  | m + 1, k, hl, h => by
    have hk : k + m < aos.length := by omega
    have ih := t.at_eq o m k (by omega) fun j ao h1 h2 => h j ao h1 (by omega)
    rw [show k + (m + 1) = k + m + 1 by omega, ← ih]
    cases hw : (aos[k + m]).op.writes with
    | false => rw [t.eta (k + m) _ (List.getElem?_eq_getElem hk) hw]
    | true => exact (h (k + m) _ (by omega) (by omega) (List.getElem?_eq_getElem hk) hw).symm
theorem Trace.at_same (t : Trace E cf n0 g base aos σ η ν) (o : Nat) {k k' : Nat} (hk : k ≤ aos.length) (hk' : k' ≤ aos.length)
    (h : ∀ j ao, (k ≤ j ∧ j < k' ∨ k' ≤ j ∧ j < k) → aos[j]? = some ao → ao.op.writes = true → (η j)[o]? = (η (j + 1))[o]?) : (η k)[o]? = (η k')[o]? := by
  rcases Nat.le_total k k' with hle | hle
  · obtain ⟨m, rfl⟩ := Nat.exists_eq_add_of_le hle
    exact (t.at_eq o m k hk' fun j ao h1 h2 => h j ao (.inl ⟨h1, h2⟩)).symm
  · obtain ⟨m, rfl⟩ := Nat.exists_eq_add_of_le hle
    exact t.at_eq o m k' hk fun j ao h1 h2 => h j ao (.inr ⟨h1, h2⟩)
theorem get_put_ne {s : Slots} {d : Option Nat} {x : Nat} {v : AV} (h : d ≠ some x) : get (put s d v) x = get s x := by
  cases d with
  | none => rfl
  | some y =>
    show (if x = y then v else get s x) = _
    rw [if_neg fun e => h (by rw [e])]
theorem get_put_eq {s : Slots} {x : Nat} {v : AV} : get (put s (some x) v) x = v := by
  show (if x = x then v else get s x) = _
  rw [if_pos rfl]
theorem Trace.slot (t : Trace E cf n0 g base aos σ η ν) (x : Nat) : ∀ (m k : Nat), k + m ≤ aos.length → (∀ j ao, k ≤ j → j < k + m → aos[j]? = some ao → ao.dst ≠ some x) → get (σ (k + m)) x = get (σ k) x
  | 0, _, _, _ => rfl
  | m + 1, k, hl, h => by
    have hk : k + m < aos.length := by omega
    rw [show k + (m + 1) = k + m + 1 by omega, (t.op (k + m) _ (List.getElem?_eq_getElem hk)).2, get_put_ne (h (k + m) _ (by omega) (by omega) (List.getElem?_eq_getElem hk))]
    exact t.slot x m k (by omega) fun j ao h1 h2 => h j ao h1 (by omega)
end

structure Inv (E : Env) (n0 nt base : Nat) (g : Bool) (S0 : St) (ops : Array Oper) (aos : List AOper) (σ : Nat → Slots) (η : Nat → Heap) (lst : Array Bool) (S : St) (a : Act) : Prop where
  lsz : lst.size = ops.size
  dc : ∀ j o, ops[j]? = some o → Lst lst j → ∀ e ∈ o.after.toList, Region.binds .any e = true → Lst lst e.on
  slots : ∀ x k, k ≤ ops.size → (∀ (j : Nat) (ao : AOper), aos[j]? = some ao → ao.dst = some x → (Lst lst j ↔ j < k)) → RV S (get (σ k) x) (a.tmps.getD x undef)
  heap : ∃ k0, k0 ≤ ops.size ∧ (∀ (j : Nat) (ao : AOper), aos[j]? = some ao → ao.op.writes = true → (Lst lst j ↔ j < k0)) ∧ S.H = η k0
  kept : ∀ j ao ob, aos[j]? = some ao → ¬ Lst lst j → resv ao.op = some ob → n0 ≤ base + cnt (aos.take j) ∧ base + cnt (aos.take j) < S.H.length ∧ S.m (base + cnt (aos.take j)) = .non ∧ S.H[base + cnt (aos.take j)]? = some ob
  good : Good S
  glob : GlobOk E S
  size : a.tmps.size = nt
  defers : a.defers = []
  low : n0 ≤ S.H.length
  step : Step n0 g S0 S

theorem lst_set {lst : Array Bool} {i j : Nat} (hi : lst[i]? = some false) : Lst (lst.setIfInBounds i true) j ↔ j = i ∨ Lst lst j := by
  unfold Lst
  rw [Array.getElem?_setIfInBounds]
  by_cases h : i = j
  · subst h
    have := lt_of_someA hi
    simp [this]
  · simp [h, Ne.symm h, eq_comm]

theorem all_listed {ops : Array Oper} {lst : Array Bool} (hsz : lst.size = ops.size) (hb : ∀ j o, ops[j]? = some o → ∀ e ∈ o.after.toList, Region.binds .any e = true → e.on < j) (hr : Region.ready .any ops lst = []) :
    ∀ j, j < ops.size → Lst lst j := by
  intro j
  induction j using Nat.strongRecOn with
  | _ j ih =>
    intro hj
    cases hl : lst[j]? with
    | none => rw [Array.getElem?_eq_getElem (by omega)] at hl; cases hl
    | some b =>
      cases b with
      | true => exact hl
      | false =>
        exfalso
        have : j ∈ Region.ready .any ops lst := mem_ready.2 ⟨_, Array.getElem?_eq_getElem hj, hl, fun e he hbd => ih e.on (hb j _ (Array.getElem?_eq_getElem hj) e he hbd) (by have := hb j _ (Array.getElem?_eq_getElem hj) e he hbd; omega)⟩
        rw [hr] at this
        cases this

section
variable {P : Program} {E : Env} {cf : CallF} {Q : Exit → Act → World → Prop}

theorem any_wp (hcf : CfOk P E cf) {ops : Array Oper} {mt : Nat → Bool} {n0 nt base : Nat} {g : Bool} {S0 : St} {aos : List AOper} {d : List (Nat × List Nat)} {σ : Nat → Slots} {η : Nat → Heap} {ν : Nat → AV}
    (hops : ∀ o ∈ ops.toList, ∀ d, o.dst = some d → d < nt) (hS : opsS P mt ops 0 0 ops.toList = some aos) (F : Facts ops aos d) (t : Trace E cf n0 g base aos σ η ν)
    (hd : ∀ i js j ao, (i, js) ∈ d → j ∈ js → aos[i]? = some ao → ∀ o, looks E (σ i) ao = some o → (η j)[o]? = (η (j + 1))[o]?)
    (hQ : ∀ S' a', Sim E n0 g nt S0 S' (σ ops.size) (η ops.size) a' → Q .normal a' S'.w) :
    ∀ (fuel : Nat) (lst : Array Bool) (S : St) (a : Act), Inv E n0 nt base g S0 ops aos σ η lst S a → lst.toList.count false ≤ fuel → wpAny P .any ops Q fuel lst a S.w := by
  obtain ⟨hlen, hget⟩ := opsS_get _ _ _ _ hS
  simp only [Array.length_toList, Array.getElem?_toList, Nat.zero_add] at hlen hget
  have hlt : ∀ (j : Nat) (ao : AOper), aos[j]? = some ao → j < ops.size := fun j ao h => by rw [← hlen]; exact (List.getElem?_eq_some_iff.1 h).1
  have hopOf : ∀ (j : Nat) (ao : AOper), aos[j]? = some ao → ∃ o : Oper, ops[j]? = some o ∧ ao.dst = o.dst := by
    intro j ao h
    have hj := hlt j ao h
    obtain ⟨ao', gd, h1, _, _⟩ := hget j _ (Array.getElem?_eq_getElem hj)
    rw [h1] at h
    cases h
    exact ⟨_, Array.getElem?_eq_getElem hj, rfl⟩
  -- the end
  have hend : ∀ lst S a, Inv E n0 nt base g S0 ops aos σ η lst S a → (∀ j, j < ops.size → Lst lst j) → Q .normal a S.w := by
    intro lst S a I hall
    refine hQ S a ⟨?_, I.good, I.glob, fun x => ?_, I.size, I.defers, ?_, I.step⟩
    · obtain ⟨k0, hk0, hw, hH⟩ := I.heap
      rw [hH]
      refine t.eta_same (by omega) (by omega) fun j ao hj hao => ?_
      cases hwr : ao.op.writes with
      | false => rfl
      | true =>
        have h1 := (hw j ao hao hwr).1 (hall j (hlt j ao hao))
        have h2 := hlt j ao hao
        omega
    · exact I.slots x ops.size (Nat.le_refl _) fun j ao hao _ => ⟨fun _ => hlt j ao hao, fun h => hall j h⟩
    · obtain ⟨k0, hk0, hw, hH⟩ := I.heap
      have : η k0 = η ops.size := by
        refine t.eta_same (by omega) (by omega) fun j ao hj hao => ?_
        cases hwr : ao.op.writes with
        | false => rfl
        | true =>
          have h1 := (hw j ao hao hwr).1 (hall j (hlt j ao hao))
          have h2 := hlt j ao hao
          omega
      rw [← this, ← hH]
      exact I.low
  intro fuel
  induction fuel with
  | zero =>
    intro lst S a I hc
    have hall : ∀ j, j < ops.size → Lst lst j := by
      intro j hj
      have h0 : lst.toList.count false = 0 := by omega
      rw [List.count_eq_zero] at h0
      unfold Lst
      have hj' : j < lst.size := by rw [I.lsz]; exact hj
      rw [Array.getElem?_eq_getElem hj']
      cases hb : lst[j] with
      | true => rfl
      | false => exact absurd (by rw [← hb]; exact Array.mem_toList_iff.2 (Array.getElem_mem hj')) h0
    refine ⟨?_, hend lst S a I hall⟩
    rw [List.eq_nil_iff_forall_not_mem]
    intro i hi
    obtain ⟨o, ho, h1, _⟩ := mem_ready.1 hi
    have := hall i (lt_of_someA ho)
    unfold Lst at this
    rw [h1] at this
    cases this
  | succ fuel ih =>
    intro lst S a I hc
    refine ⟨fun hr => hend lst S a I (all_listed I.lsz F.back hr), fun i hi => ?_⟩
    obtain ⟨o, ho, hun, hrdy⟩ := mem_ready.1 hi
    have hi : i < ops.size := lt_of_someA ho
    have hnl : ¬ Lst lst i := by unfold Lst; rw [hun]; simp
    obtain ⟨ao, gd, hao, hop, hgd⟩ := hget i o ho
    have hc' : (lst.setIfInBounds i true).toList.count false ≤ fuel := by
      rw [Array.toList_setIfInBounds, List.count_set (by rw [Array.length_toList, I.lsz]; exact hi)]
      have : lst.toList[i]'(by rw [Array.length_toList, I.lsz]; exact hi) = false := by
        rw [← Array.getElem?_toList] at hun
        exact (List.getElem?_eq_some_iff.1 hun).2
      rw [this]
      show lst.toList.count false - 1 + 0 ≤ fuel
      omega
    have hanc : ∀ p ∈ (ancs ops.toList []).getD i [], Lst lst p := anc_ready I.dc ho hrdy
    have hncl : ∀ j, j < ops.size → i ∈ (ancs ops.toList []).getD j [] → ¬ Lst lst j := fun j hj hij hL => hnl (anc_closed I.dc j _ (Array.getElem?_eq_getElem hj) hL i hij)
    -- writers are all ordered with one another
    have hww : ao.writes = true → ∀ (j : Nat) (b : AOper), aos[j]? = some b → b.op.writes = true → (Lst lst j ↔ j < i) := by
      intro hw j b hb hbw
      have hj := hlt j b hb
      rcases Nat.lt_trichotomy j i with h | h | h
      · refine ⟨fun _ => h, fun _ => ?_⟩
        rcases F.pair i hi j h with h1 | ⟨_, h1⟩
        · exact hanc j h1
        · exact absurd ⟨hbw, hw⟩ (h1 _ _ hb hao)
      · subst h; exact ⟨fun hL => absurd hL hnl, fun h => by omega⟩
      · refine ⟨fun hL => ?_, fun h' => by omega⟩
        rcases F.pair j hj i h with h1 | ⟨_, h1⟩
        · exact absurd hL (hncl j hj h1)
        · exact absurd ⟨hw, hbw⟩ (h1 _ _ hao hb)
    -- the slots that it reads
    have hsl : ∀ x ∈ slotsOf ops o, RV S (get (σ i) x) (a.tmps.getD x undef) := by
      intro x hx
      refine I.slots x i (by omega) fun j b hb hdst => ?_
      obtain ⟨oj, hoj, hde⟩ := hopOf j b hb
      rw [hde] at hdst
      have hj := lt_of_someA hoj
      rcases Nat.lt_trichotomy j i with h | h | h
      · refine ⟨fun _ => h, fun _ => ?_⟩
        rcases F.pair i hi j h with h1 | ⟨⟨p, q, hp, hq, hap⟩, _⟩
        · exact hanc j h1
        · rw [hoj] at hp; rw [ho] at hq; cases hp; cases hq
          exact absurd hx ((apart_spec hap).1 x hdst).1
      · subst h; exact ⟨fun hL => absurd hL hnl, fun h => by omega⟩
      · refine ⟨fun hL => ?_, fun h' => by omega⟩
        rcases F.pair j hj i h with h1 | ⟨⟨p, q, hp, hq, hap⟩, _⟩
        · exact absurd hL (hncl j hj h1)
        · rw [ho] at hp; rw [hoj] at hq; cases hp; cases hq
          exact absurd hx ((apart_spec hap).2 x hdst)
    have hsl1 : ∀ x ∈ o.op.operands.toList, ∀ s, x = .tmp s → RV S (get (σ i) s) (a.tmps.getD s undef) := fun x hx s hxs => hsl s (by
      subst hxs
      unfold slotsOf
      rw [List.mem_append, List.mem_filterMap]
      exact .inl ⟨_, hx, rfl⟩)
    have hslg : ∀ x b, gd = some (x, b) → RV S (get (σ i) x) (a.tmps.getD x undef) := fun x b hg => hsl x (by
      unfold slotsOf
      rw [List.mem_append]
      right
      subst hg
      unfold oguard at hgd
      split at hgd
      · cases hgd
      · rename_i j b' hgu
        split at hgd
        · rename_i x' hx'
          cases hgd
          rw [hgu]
          simp only [hx', Option.mem_toList]
        · cases hgd)
    -- what is new in the slots
    have hslots : ∀ S' u, Step n0 g S S' → RV S' (ν i) u → ∀ x k, k ≤ ops.size → (∀ (j : Nat) (b : AOper), aos[j]? = some b → b.dst = some x → (Lst (lst.setIfInBounds i true) j ↔ j < k)) → RV S' (get (σ k) x) ((a.put o.dst u).tmps.getD x undef) := by
      intro S' u e hrv x k hk hw
      by_cases hdx : o.dst = some x
      · have hik : i < k := (hw i _ hao hdx).1 ((lst_set hun).2 (.inl rfl))
        obtain ⟨m, rfl⟩ := Nat.exists_eq_add_of_lt hik
        have hg : get (σ (i + m + 1)) x = get (σ (i + 1)) x := by
          rw [show i + m + 1 = i + 1 + m by omega]
          refine t.slot x m (i + 1) (by omega) fun j b h1 h2 hb hbd => ?_
          have hL : Lst lst j := ((lst_set hun).1 ((hw j b hb hbd).2 (by omega))).resolve_left (by omega)
          obtain ⟨oj, hoj, hde⟩ := hopOf j b hb
          have hj := lt_of_someA hoj
          rcases F.pair j hj i (by omega) with h1 | ⟨⟨p, q, hp, hq, hap⟩, _⟩
          · exact hncl j hj h1 hL
          · rw [ho] at hp; rw [hoj] at hq; cases hp; cases hq
            exact ((apart_spec hap).1 x hdx).2 (by rw [← hde, hbd])
        have hsi := (t.op i _ hao).2
        rw [hg, hsi]
        show RV S' (get (put (σ i) o.dst (ν i)) x) _
        rw [hdx, get_put_eq]
        show RV S' (ν i) ((a.tmps.setIfInBounds x u).getD x undef)
        have hxs : x < a.tmps.size := by
          rw [I.size]
          exact hops o (by rw [Array.mem_toList_iff]; exact Array.mem_of_getElem? ho) x hdx
        simpa [Array.getD, hxs] using hrv
      · have h0 := I.slots x k hk fun j b hb hbd => by
          have := hw j b hb hbd
          rw [← this, lst_set hun]
          refine ⟨.inr, fun h => h.resolve_left fun hji => ?_⟩
          subst hji
          rw [hao] at hb
          cases hb
          exact hdx hbd
        have h1 := h0.step e
        cases hdd : o.dst with
        | none => exact h1
        | some y =>
          have hne : y ≠ x := fun h => hdx (by rw [hdd, h])
          show RV S' _ ((a.tmps.setIfInBounds y u).getD x undef)
          have : (a.tmps.setIfInBounds y u).getD x undef = a.tmps.getD x undef := by
            simp only [Array.getD_eq_getD_getElem?, Array.getElem?_setIfInBounds_ne hne]
          rw [this]; exact h1
    have hdc : ∀ (j : Nat) (p : Oper), ops[j]? = some p → Lst (lst.setIfInBounds i true) j → ∀ e ∈ p.after.toList, Region.binds .any e = true → Lst (lst.setIfInBounds i true) e.on := by
      intro j p hp hL e he hb
      rw [lst_set hun] at hL ⊢
      right
      rcases hL with rfl | hL
      · rw [ho] at hp; cases hp; exact hrdy e he hb
      · exact I.dc j p hp hL e he hb
    -- how it goes on
    have next : ∀ S' u, Step n0 g S S' → Good S' → RV S' (ν i) u → (∃ k0, k0 ≤ ops.size ∧ (∀ (j : Nat) (b : AOper), aos[j]? = some b → b.op.writes = true → (Lst (lst.setIfInBounds i true) j ↔ j < k0)) ∧ S'.H = η k0) →
        (∀ p, p < S.H.length → S.m p = .non → (∀ r', rkOf ao = some r' → p ≠ base + r') → S'.m p = .non ∧ S'.H[p]? = S.H[p]?) →
        wpAny P .any ops Q fuel (lst.setIfInBounds i true) (a.put o.dst u) S'.w := by
      intro S' u e hG hrv hheap hpend
      refine ih _ S' _ ⟨by rw [Array.size_setIfInBounds, I.lsz], hdc, hslots S' u e hrv, hheap, fun j b ob hb hL hr => ?_, hG, I.glob.step e, by rw [put_size, I.size], by rw [put_defers, I.defers], Nat.le_trans I.low e.len, I.step.trans e⟩ hc'
      have hji : j ≠ i := fun h => hL ((lst_set hun).2 (.inl h))
      have hLj : ¬ Lst lst j := fun h => hL ((lst_set hun).2 (.inr h))
      obtain ⟨h1, h2, h3, h4⟩ := I.kept j b ob hb hLj hr
      obtain ⟨h5, h6⟩ := hpend _ h2 h3 fun r' hr' => by
        rw [rkOf_opS hop] at hr'
        split at hr'
        · rename_i hra
          cases hr'
          rcases Nat.lt_or_ge j i with h | h
          · have := cnt_lt h hb (by rw [hr]; rfl); omega
          · have := cnt_lt (show i < j by omega) hao hra; omega
        · cases hr'
      exact ⟨h1, by have := e.len; omega, h5, h6.trans h4⟩
    have hheapW : ao.writes = true → ∃ k0, k0 ≤ ops.size ∧ (∀ (j : Nat) (b : AOper), aos[j]? = some b → b.op.writes = true → (Lst (lst.setIfInBounds i true) j ↔ j < k0)) ∧ k0 = i + 1 := fun hw =>
      ⟨i + 1, by omega, fun j b hb hbw => by
        rw [lst_set hun, hww hw j b hb hbw]
        omega, rfl⟩
    have hHi : ao.writes = true → S.H = η i := by
      intro hw
      obtain ⟨k0, hk0, hkw, hH⟩ := I.heap
      rw [hH]
      refine t.eta_same (by omega) (by omega) fun j b hj hb => ?_
      cases hbw : b.op.writes with
      | false => rfl
      | true =>
        have h1 := hkw j b hb hbw
        have h2 := hww hw j b hb hbw
        rw [h1] at h2
        omega
    have hheapN : ao.writes = false → ∃ k0, k0 ≤ ops.size ∧ (∀ (j : Nat) (b : AOper), aos[j]? = some b → b.op.writes = true → (Lst (lst.setIfInBounds i true) j ↔ j < k0)) ∧ S.H = η k0 := by
      intro hw
      obtain ⟨k0, hk0, hkw, hH⟩ := I.heap
      refine ⟨k0, hk0, fun j b hb hbw => ?_, hH⟩
      rw [lst_set hun, ← hkw j b hb hbw]
      refine ⟨fun h => h.resolve_left fun hji => ?_, .inr⟩
      subst hji
      rw [hao] at hb
      cases hb
      rw [hw] at hbw
      cases hbw
    unfold wpOp
    rw [ho]
    show (if Region.wanted o (yielded ops a.tmps) = true then o.wp P a S.w _ Q ∨ (o.asks P a S.w ∧ LetsOut Q) else _)
    rcases (t.op i _ hao).1 with ⟨hw, hst⟩ | ⟨hw, hnu, hη⟩
    · rw [if_pos (wants_ok hgd hslg hw)]
      left
      have hvals : ∀ x ∈ o.op.operands.toList, RV S (val E (σ i) (opd x)) (a.eval x) := fun x hx => opd_fixed I.glob x (hsl1 x hx)
      have hkept : ∀ ob, resv ao = some ob → n0 ≤ base + (0 + cnt (aos.take i)) ∧ S.m (base + (0 + cnt (aos.take i))) = .non ∧ S.H[base + (0 + cnt (aos.take i))]? = some ob := by
        intro ob hob
        obtain ⟨h1, _, h3, h4⟩ := I.kept i _ ob hao hnl hob
        rw [Nat.zero_add]
        exact ⟨h1, h3, h4⟩
      cases hwr : ao.writes with
      | true =>
        obtain ⟨k0, hk0, hkw, rfl⟩ := hheapW hwr
        exact step_wp hcf hop hst (hHi hwr) I.good I.glob hvals (by rw [← hHi hwr]; exact I.low) (by simpa using hkept) fun S' u hS' e hG' hrv hpend =>
          next S' u e hG' hrv ⟨i + 1, hk0, hkw, hS'⟩ (fun p hp => hpend p (by rw [← hHi hwr]; exact hp))
      | false =>
        have hcl : ao.isCall = false := by cases hop : ao <;> rw [hop] at hwr <;> first | rfl | cases hwr
        have hst' : stepOp E cf n0 g base (σ i) S.H ao = some (ν i, S.H) := by
          unfold stepOp at hst ⊢
          rw [hcl] at hst ⊢
          simp only [Bool.false_eq_true, if_false] at hst ⊢
          refine (nonwriter hwr hst).2 S.H fun q hq => ?_
          have hlook : looks E (σ i) ⟨o.dst, ao, gd⟩ = some q := by
            unfold looks
            cases ao <;> simp only [looksV, reduceCtorEq] at hq
            · simp only [hw]; exact hq
            · simp only [hw]; exact hq
          have hrd : ao.reads = true := by
            cases ao <;> simp only [looksV, reduceCtorEq] at hq
            · rfl
            · rfl
          obtain ⟨k0, hk0, hkw, hH⟩ := I.heap
          rw [hH]
          refine t.at_same q (by omega) (by omega) fun j b hj hb hbw => ?_
          have hjl := hlt j b hb
          have hL := hkw j b hb hbw
          have hne : j ≠ i := fun h => by subst h; rw [hao] at hb; cases hb; rw [hwr] at hbw; cases hbw
          obtain ⟨js, h1, h2⟩ := F.look i _ hi hao hrd j b hjl hb hbw ⟨fun hji hin => by have := hL.1 (hanc j hin); omega, fun hji hin => hncl j hjl hin (hL.2 (by omega))⟩
          exact hd i js j _ h1 h2 hao q hlook
        exact step_wp hcf hop hst' rfl I.good I.glob hvals I.low (by simpa using hkept) fun S' u hS' e hG' hrv hpend =>
          next S' u e hG' hrv (by obtain ⟨k0, h1, h2, h3⟩ := hheapN hwr; exact ⟨k0, h1, h2, hS'.trans h3⟩) hpend
    · have hwf : ¬ Region.wanted o (yielded ops a.tmps) = true := by rw [wants_ok hgd hslg hw]; simp
      rw [if_neg hwf]
      refine next S undef (.refl _ _ _) I.good (by rw [hnu]; exact ⟨#[], rfl, .nil⟩) ?_ (fun p _ hm _ => ⟨hm, rfl⟩)
      cases hwr : ao.writes with
      | true =>
        obtain ⟨k0, hk0, hkw, rfl⟩ := hheapW hwr
        exact ⟨i + 1, hk0, hkw, by rw [hη]; exact hHi hwr⟩
      | false => exact hheapN hwr
end
end Ab
