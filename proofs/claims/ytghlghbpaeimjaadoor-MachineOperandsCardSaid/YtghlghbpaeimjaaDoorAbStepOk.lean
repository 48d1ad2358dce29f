/- One operation of a frame, calls among them, in the model's weakest-precondition form. -/
import Derived.Test.YtghlghbpaeimjaaDoorAbOpOk
namespace Ab
open Go

def GlobOk (E : Env) (S : St) : Prop := ∀ k xs, E.gl k = some xs → ∃ vs, RPs S.w S.M xs vs ∧ Imm S.w S.M k 0 vs
theorem GlobOk.step {E : Env} {k : Nat} {g : Bool} {S S' : St} (h : GlobOk E S) (e : Step k g S S') : GlobOk E S' := fun i xs hx => by
  obtain ⟨vs, h1, h2⟩ := h i xs hx
  exact ⟨vs, h1.mono e.wext, h2.mono e.wext⟩

/-- the values of the operands that are no slots -/
theorem opd_fixed {E : Env} {S : St} {s : Slots} {a : Act} (hg : GlobOk E S) (x : Operand) (hx : ∀ t, x = .tmp t → RV S (get s t) (a.tmps.getD t undef)) : RV S (val E s (opd x)) (a.eval x) := by
  cases x with
  | tmp t => exact hx t rfl
  | const v =>
    show RV S ((cv v).getD .no) v
    cases h : cv v with
    | none => trivial
    | some x => exact (cv_ok h).1
  | global k =>
    show RV S (match E.gl k with | some xs => .eptr xs | none => .no) _
    cases h : E.gl k with
    | none => trivial
    | some xs =>
      obtain ⟨vs, h1, h2⟩ := hg k xs h
      exact ⟨k, 0, vs, rfl, h1, h2⟩
  | func f => exact ⟨#[], rfl, .nil, rfl⟩

def SlotsOk (S : St) (s : Slots) (a : Act) : Prop := ∀ t, RV S (get s t) (a.tmps.getD t undef)

/-- What is known of calls. -/
def Cok (P : Program) (E : Env) (f : Nat) (as : List AV) (h : Heap) (v : AV) (h' : Heap) : Prop := ∃ fn, E.fn f = some fn ∧ (∀ args w, (callFunc f args).run P w = .ok (.enter f args) w) ∧
    ∀ S args, S.H = h → Good S → GlobOk E S → All2 (RC S) as args.toList →
      Calls P f args S.w fun e w' => ∃ S' u, e = .returned u ∧ S'.w = w' ∧ S'.H = h' ∧ Step h.length fn.grow S S' ∧ Good S' ∧ RV S' v u
def CfOk (P : Program) (E : Env) (cf : CallF) : Prop := ∀ f as h v h', cf f as h = some (v, h') → Cok P E f as h v h'

theorem argL_ok {S : St} {x : AV} {u : Value} (h : RL S x u) : RL S (argL x) u := by
  cases x with
  | sl c xs => exact ⟨(show RK S (.sl c xs) u from h).1, trivial⟩
  | _ => exact h
theorem argLs_ok {S : St} : ∀ {xs : List AV} {us : List Value}, All2 (RL S) xs us → All2 (RL S) (xs.map argL) us
  | _, _, .nil => .nil
  | _, _, .cons h hs => .cons (argL_ok h) (argLs_ok hs)
theorem arg_ok {S : St} {x : AV} {u : Value} (h : RV S x u) (hn : ∀ xs, x ≠ .tup xs) : RC S (arg x) u := by
  cases x with
  | agg xs =>
    obtain ⟨us, hu, hs, hl⟩ := rv_agg rfl h
    refine ⟨us, hu, argLs_ok hs, ?_⟩
    rw [List.all_map]
    refine List.all_eq_true.2 fun x hx => ?_
    have := List.all_eq_true.1 hl x hx
    cases x <;> first | exact this | rfl
  | tup xs => exact absurd rfl (hn xs)
  | sl c xs => exact ⟨(show RK S (.sl c xs) u from h).1, trivial⟩
  | _ => exact h
theorem argsOf_ok {S : St} {vf : Opd → AV} {ρ : Operand → Value} : ∀ {xs : List Operand} {as : List AV}, argsOf vf (xs.map opd) = some as → (∀ x ∈ xs, RV S (vf (opd x)) (ρ x)) → All2 (RC S) as (xs.map ρ)
  | [], as, h, _ => by cases h; exact .nil
  | x :: xs, as, h, hv => by
    simp only [List.map_cons, argsOf] at h
    split at h
    · cases h
    · rename_i hnt
      split at h
      · rename_i vs hvs
        cases h
        exact .cons (arg_ok (hv x (by simp)) fun ys hy => hnt ys hy) (argsOf_ok hvs fun y hy => hv y (by simp [hy]))
      · cases h
theorem RC.of_RK {S : St} {x : AV} {u : Value} (h : RK S x u) (hc : isCap x = true) : RC S x u := by
  cases x <;> first | exact h | cases hc

theorem RCs.of_RKs {S : St} : ∀ {xs : List AV} {us : List Value}, All2 (RK S) xs us → xs.all isCap = true → All2 (RC S) xs us
  | _, _, .nil, _ => .nil
  | _, _, .cons h hs, hc => by
    simp only [List.all_cons, Bool.and_eq_true] at hc
    exact .cons (.of_RK h hc.1) (RCs.of_RKs hs hc.2)

theorem opS_call {P : Program} {r : Nat} {mt : Bool} {op : Op} {ao : AOp} (h : opS P r mt op = some ao) (hc : ao.isCall = true) :
    ∃ c, op = .call c ∧ ((∃ f, c.callee = .value (.func f) ∧ ao = .call f (c.args.toList.map opd)) ∨ ∃ t, c.callee = .value (.tmp t) ∧ ao = .callv (.t t) (c.args.toList.map opd)) := by
  unfold opS at h
  (repeat' split at h) <;> first | (cases h; done) | (cases h; cases hc; done) | (cases h; exact ⟨_, rfl, .inl ⟨_, by assumption, rfl⟩⟩) | (cases h; exact ⟨_, rfl, .inr ⟨_, by assumption, rfl⟩⟩)

section
variable {P : Program} {E : Env} {cf : CallF} {Q : Exit → Act → World → Prop}

theorem call_wp {S : St} {o : Oper} {f : Nat} {args : Array Value} {a : Act} {K : Act → World → Prop} {R : Ending → World → Prop}
    (hrun : (execOp a.eval o).run P S.w = .ok (.enter f args) S.w) (hc : Calls P f args S.w R) (hK : ∀ e w', R e w' → ∃ u, e = .returned u ∧ K (a.put o.dst u) w') : o.wp P a S.w K Q := by
  unfold Oper.wp
  rw [hrun, Oper.upon_enter]
  refine hc.mono fun e w' hr => ?_
  obtain ⟨u, rfl, hk⟩ := hK e w' hr
  exact hk

/-- ONE OPERATION. -/
theorem step_wp (hcf : CfOk P E cf) {S : St} {o : Oper} {ao : AOp} {n0 base r : Nat} {g : Bool} {mt : Bool} {s : Slots} {v : AV} {h h' : Heap} {a : Act} {K : Act → World → Prop} (hs : opS P r mt o.op = some ao)
    (hst : stepOp E cf n0 g base s h ao = some (v, h')) (hH : S.H = h) (hG : Good S) (hgl : GlobOk E S) (hv : ∀ x ∈ o.op.operands.toList, RV S (val E s (opd x)) (a.eval x)) (hn0 : n0 ≤ h.length)
    (hr : ∀ ob, resv ao = some ob → n0 ≤ base + r ∧ S.m (base + r) = .non ∧ S.H[base + r]? = some ob)
    (hK : ∀ S' u, S'.H = h' → Step n0 g S S' → Good S' → RV S' v u → (∀ p, p < h.length → S.m p = .non → (∀ r', rkOf ao = some r' → p ≠ base + r') → S'.m p = .non ∧ S'.H[p]? = S.H[p]?) → K (a.put o.dst u) S'.w) :
    o.wp P a S.w K Q := by
  subst hH
  unfold stepOp at hst
  split at hst
  · rename_i hcall
    split at hst
    · rename_i f as hcal
      split at hst
      · rename_i v1 h1 hcf1
        split at hst
        · rename_i fn hfn
          obtain ⟨fn', hfn', hcfun, hcalls⟩ := hcf f as S.H v1 h1 hcf1
          rw [hfn] at hfn'
          cases hfn'
          -- the caller's step out of the callee's
          have hfin : v1 = v ∧ h1 = h' ∧ (g = false → fn.grow = true → h1.take n0 = S.H.take n0) := by
            split at hst
            · rename_i hgg
              split at hst
              · rename_i ht; cases hst; exact ⟨rfl, rfl, fun _ _ => ht⟩
              · cases hst
            · rename_i hgg
              cases hst
              exact ⟨rfl, rfl, fun h1 h2 => absurd ⟨h1, h2⟩ hgg⟩
          obtain ⟨rfl, rfl, htake⟩ := hfin
          have hstep : ∀ S', S'.H = h1 → Step S.H.length fn.grow S S' → Step n0 g S S' := by
            intro S' hS' e
            refine { e with pend := fun p hp => e.pend p (by omega), low := fun hg p hp ys hy x hx => ?_ }
            cases hgr : fn.grow with
            | false => exact e.low hgr p (by omega) ys hy x hx
            | true =>
              have ht := htake hg hgr
              right
              refine ⟨ys, ?_, hx⟩
              have h1 : (h1.take n0)[p]? = h1[p]? := by rw [List.getElem?_take, if_pos hp]
              have h2 : (S.H.take n0)[p]? = S.H[p]? := by rw [List.getElem?_take, if_pos hp]
              rw [← h2, ← ht, h1, ← hS']
              exact hy
          have main : ∀ args, (execOp a.eval o).run P S.w = .ok (.enter f args) S.w → All2 (RC S) as args.toList → o.wp P a S.w K Q := by
            intro args hrun ha
            refine call_wp hrun (hcalls S args rfl hG hgl ha) fun e w' hR => ?_
            obtain ⟨S', u, rfl, rfl, hS', e, hG', hrv⟩ := hR
            exact ⟨u, rfl, hK S' u hS' (hstep S' hS' e) hG' hrv fun p hp hm _ => e.pend p hp hm⟩
          obtain ⟨c, hop, ⟨f', hc, rfl⟩ | ⟨t, hc, rfl⟩⟩ := opS_call hs hcall
          · have hmem : ∀ x ∈ c.args.toList, RV S (val E s (opd x)) (a.eval x) := fun x hx => hv x (by rw [hop]; simp only [Op.operands, Call.operands, hc]; simp; exact .inr (by simpa using hx))
            simp only [callee] at hcal
            split at hcal
            · rename_i as' has
              cases hcal
              refine main (c.args.map a.eval) ?_ ?_
              · simp [execOp, hop, resolve, hc, Deferred.ofValue, Act.eval, invoke, hcfun]
              · rw [Array.toList_map]
                exact argsOf_ok has hmem
            · cases hcal
          · have hmem : ∀ x ∈ c.args.toList, RV S (val E s (opd x)) (a.eval x) := fun x hx => hv x (by rw [hop]; simp only [Op.operands, Call.operands, hc]; simp; exact .inr (by simpa using hx))
            simp only [callee] at hcal
            split at hcal
            · rename_i f' ys hf
              split at hcal
              · rename_i as' has
                cases hcal
                have ht := hv (.tmp t) (by rw [hop]; simp only [Op.operands, Call.operands, hc]; simp)
                obtain ⟨vs, hu, hvs, hcap⟩ := rv_fn (show val E s (opd (.tmp t)) = .fn f ys from hf) ht
                refine main (c.args.map a.eval ++ vs) ?_ ?_
                · simp [execOp, hop, resolve, hc, hu, Deferred.ofValue, invoke, hcfun]
                · rw [Array.toList_append, Array.toList_map]
                  exact (argsOf_ok has hmem).append (RCs.of_RKs hvs hcap)
              · cases hcal
            · cases hcal
        · cases hst
      · cases hst
    · cases hst
  · rename_i hcall
    have hcall' : ao.isCall = false := by simpa using hcall
    obtain ⟨S', n, hrun, hS', e, hG', hres, hpend⟩ := op_does (ρ := a.eval) hs hcall' hst hG hv hr
    unfold Oper.wp
    rw [hrun]
    rcases hres with ⟨u, rfl, hrv⟩ | ⟨rfl, rfl⟩
    · rw [Oper.upon_value]
      exact hK S' u hS' e hG' hrv fun p _ hm hne => hpend p hm hne
    · rw [Oper.upon_skip]
      exact hK S' undef hS' e hG' trivial fun p _ hm hne => hpend p hm hne
end
end Ab
