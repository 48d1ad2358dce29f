/- A contract that holds over the empty heap holds over every heap. -/
import Derived.Test.YtghlghbpaeimjaaDoorAbTop
namespace Ab
open Go

/-- a leaf that says nothing of objects -/
def clK : AV → Bool
  | .int .. | .bool _ | .str _ | .nilp | .eptr _ | .no => true
  | .sl (.tok _) _ => false
  | .sl _ _ => true
  | _ => false
def clL : AV → Bool
  | .fn _ xs => xs.all clK
  | v => clK v
def clC : AV → Bool
  | .agg xs => xs.all clL
  | v => clL v
def clV : AV → Bool
  | .tup xs => xs.all clC
  | v => clC v

theorem RK.cl {S S' : St} (hw : S'.w = S.w) (hM : S'.M = S.M) {x : AV} {u : Value} (h : RK S x u) (hc : clK x = true) : RK S' x u := by
  cases x with
  | sl c xs =>
    have h1 : RP S'.w S'.M (.sl .none xs) u := by rw [hw, hM]; exact h.1
    cases c with
    | none => exact ⟨h1, trivial⟩
    | full => exact ⟨h1, h.2⟩
    | tok o => cases hc
  | eptr xs =>
    obtain ⟨b, off, vs, h1, h2, h3⟩ := h
    exact ⟨b, off, vs, h1, by rw [hw, hM]; exact h2, by rw [hw, hM]; exact h3⟩
  | int _ _ => exact h
  | bool _ => exact h
  | str _ => exact h
  | nilp => exact h
  | no => exact h
  | _ => cases hc
theorem All2.cl {R R' : AV → Value → Prop} {p : AV → Bool} (h : ∀ x u, p x = true → R x u → R' x u) : ∀ {xs : List AV} {us : List Value}, xs.all p = true → All2 R xs us → All2 R' xs us
  | _, _, _, .nil => .nil
  | _, _, hp, .cons hx hs => by
    simp only [List.all_cons, Bool.and_eq_true] at hp
    exact .cons (h _ _ hp.1 hx) (All2.cl h hp.2 hs)
theorem RL.cl {S S' : St} (hw : S'.w = S.w) (hM : S'.M = S.M) {x : AV} {u : Value} (h : RL S x u) (hc : clL x = true) : RL S' x u := by
  cases x with
  | fn f xs =>
    obtain ⟨vs, h1, h2, h3⟩ := h
    exact ⟨vs, h1, All2.cl (R := RK S) (R' := RK S') (p := clK) (fun _ _ hp hr => RK.cl hw hM hr hp) hc h2, h3⟩
  | _ =>
    rw [RL.eq_RK (by intro _ _ h; cases h)] at h ⊢
    exact RK.cl hw hM h hc
theorem RC.cl {S S' : St} (hw : S'.w = S.w) (hM : S'.M = S.M) {x : AV} {u : Value} (h : RC S x u) (hc : clC x = true) : RC S' x u := by
  cases x with
  | agg xs =>
    obtain ⟨us, h1, h2, h3⟩ := h
    exact ⟨us, h1, All2.cl (R := RL S) (R' := RL S') (p := clL) (fun _ _ hp hr => RL.cl hw hM hr hp) hc h2, h3⟩
  | _ =>
    rw [RC.eq_RL (by intro _ h; cases h)] at h ⊢
    exact RL.cl hw hM h hc
theorem RV.cl {S S' : St} (hw : S'.w = S.w) (hM : S'.M = S.M) {x : AV} {u : Value} (h : RV S x u) (hc : clV x = true) : RV S' x u := by
  cases x with
  | tup xs =>
    obtain ⟨us, h1, h2⟩ := h
    exact ⟨us, h1, All2.cl (R := RC S) (R' := RC S') (p := clC) (fun _ _ hp hr => RC.cl hw hM hr hp) hc h2⟩
  | _ =>
    rw [RV.eq_RC (by intro _ h; cases h)] at h ⊢
    exact RC.cl hw hM h hc

/-- a state without its objects -/
def St.bare (S : St) : St := { m := fun _ => .non, H := [], M := S.M, w := S.w }
theorem own_bare (S : St) (o : Nat) : own S.bare o = none := own_non rfl
theorem good_bare (S : St) : Good S.bare where
  objs := fun o => by
    have : S.bare.H[o]? = none := rfl
    unfold ObjOk
    rw [this]
    trivial
  disj := fun o o' b h => by rw [own_bare] at h; cases h
  there := fun o b h => by rw [own_bare] at h; cases h

theorem Cok.frame {P : Program} {E : Env} {f : Nat} {as : List AV} {v : AV} (hc : Cok P E f as [] v []) (ha : as.all clC = true) (hv : clV v = true) (h : Heap) : Cok P E f as h v h := by
  obtain ⟨fn, hfn, henter, hcalls⟩ := hc
  refine ⟨fn, hfn, henter, fun S args hH hG hgl hargs => ?_⟩
  have h0 : All2 (RC S.bare) as args.toList := All2.cl (R := RC S) (R' := RC S.bare) (p := clC) (fun _ _ hp hr => RC.cl (S := S) (S' := S.bare) rfl rfl hr hp) ha hargs
  refine (hcalls S.bare args rfl (good_bare S) hgl h0).mono fun e w' hR => ?_
  obtain ⟨S0, u, rfl, rfl, hS0, hst, _, hrv⟩ := hR
  have hown0 : ∀ o b, ¬ own S.bare o = some b := fun o b h => by rw [own_bare] at h; cases h
  let S' : St := { m := S.m, H := S.H, M := S0.M, w := S0.w }
  have e : Step h.length fn.grow S S' :=
    { wext := hst.wext
      cells := fun o ys hy => ⟨fun _ => rfl, ys, hy, rfl⟩
      frs := fun o sz n hy => ⟨n, hy, Nat.le_refl _, fun _ => rfl⟩
      size := hst.size
      keep := fun b hb _ => hst.keep b hb fun o => hown0 o b
      owns := fun o b ho => .inl ⟨o, ho⟩
      os := hst.os
      froz := hst.froz
      muts := fun b off hb _ hM => hst.muts b off hb (fun o => hown0 o b) hM
      len := Nat.le_refl _
      pend := fun o _ hm => ⟨hm, rfl⟩
      low := fun _ o _ ys hy x hx => .inr ⟨ys, hy, hx⟩ }
  refine ⟨S', u, rfl, rfl, hH, e, ?_, RV.cl (S := S0) (S' := S') rfl rfl hrv hv⟩
  exact
    { objs := fun o => (hG.objs o).of_step e rfl rfl (fun b hb => hst.keep b (hG.there o b hb) fun o => hown0 o b) (fun b off hb hM => hst.muts b off (hG.there o b hb) (fun o => hown0 o b) hM)
      disj := hG.disj
      there := fun o b hb => Nat.lt_of_lt_of_le (hG.there o b hb) hst.size }

/-- what a run shows is a contract; contracts depend on the functions and the variables alone -/
theorem Cok.of_callF {P : Program} {E : Env} (hmix : P.follows .mixedOrders = true) (hE : ∀ f fn, E.fn f = some fn → FnOk P f fn) (hS : SpOk P E) {f : Nat} {as : List AV} {h h' : Heap} {v : AV} (hc : callF E f as h = some (v, h')) : Cok P E f as h v h' := by
  obtain ⟨n, hn⟩ := callF_iff.1 hc
  exact call_ok hmix hE hS n f as h v h' hn
theorem Cok.env {P : Program} {E E' : Env} (hf : E'.fn = E.fn) (hg : E'.gl = E.gl) {f : Nat} {as : List AV} {h h' : Heap} {v : AV} (hc : Cok P E f as h v h') : Cok P E' f as h v h' := by
  cases E; cases E'
  simp only at hf hg
  subst hf hg
  exact hc
end Ab
