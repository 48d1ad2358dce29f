/- The framework, part 5: Top, Frame, Trod, Law, Open. -/
import Derived.Test.YtkomfefpfalajaaAb4
import Derived.RowKit3
import Derived.ChangeArms
import Derived.WideKeyArgs
import Derived.Below
import Derived.ChangeSame
import Derived.ChangeMaps5
/- From the abstract machine back to the program. -/
namespace Ab
open Go Go.RowKit

/-- a world as a call finds it: no object of ours, nothing that changes -/
def St.at (W : World) : St := { m := fun _ => .non, H := [], M := fun _ _ => False, w := W }
theorem own_at (W : World) (o : Nat) : own (St.at W) o = none := own_non rfl
theorem good_at (W : World) : Good (St.at W) where
  objs := fun o => by
    have : (St.at W).H[o]? = none := rfl
    unfold ObjOk
    rw [this]
    trivial
  disj := fun o o' b h => by rw [own_at] at h; cases h
  there := fun o b h => by rw [own_at] at h; cases h

theorem grown_of_step {W : World} {k : Nat} {g : Bool} {S : St} (h : Step k g (St.at W) S) : Grown W S.w := by
  refine ⟨⟨h.os.1, h.os.2.1, fun i hi => ?_⟩, h.froz, h.size⟩
  have hk : S.w.heap[i]? = W.heap[i]? := h.keep i hi fun o ho => by rw [own_at] at ho; cases ho
  rw [hk]
  cases hw : W.heap[i]? with
  | none => rfl
  | some o => cases o <;> first | exact ⟨rfl, rfl, rfl, fun _ _ => rfl⟩ | exact .inr ⟨rfl, rfl⟩ | rfl

theorem calls_of {P : Program} {E : Env} (hmix : P.follows .mixedOrders = true) (hE : ∀ f fn, E.fn f = some fn → FnOk P f fn) (hS : SpOk P E) {W : World} {f : Nat} {args : Array Value} {as : List AV} {b : Bool} {h' : Heap}
    (hg : GlobOk E (St.at W)) (ha : All2 (RC (St.at W)) as args.toList) (hc : callF E f as [] = some (.bool b, h')) :
    Calls P f args W fun e w' => e = .returned (.bool b) ∧ Grown W w' := by
  obtain ⟨n, hn⟩ := callF_iff.1 hc
  obtain ⟨fn, _, _, hcalls⟩ := call_ok hmix hE hS n f as [] _ _ hn
  refine (hcalls (St.at W) args rfl (good_at W) hg ha).mono fun e w' hr => ?_
  obtain ⟨S', u, rfl, rfl, _, hst, _, hv⟩ := hr
  have hu : u = .bool b := hv
  subst hu
  exact ⟨rfl, grown_of_step hst⟩

/-! ### what a row reads -/
theorem imm_at {W : World} {b off : Nat} {vs : List Value} (h : ∀ (j : Nat) v, vs[j]? = some v → W.cell? ⟨b, off + j, none⟩ = some v) : Imm W (fun _ _ => False) b off vs := fun j v hv => ⟨h j v hv, fun h => h⟩
end Ab
/- A contract that holds over the empty heap holds over every heap. -/
namespace Ab
open Go

/-- a leaf that says nothing of objects -/
def clK : AV → Bool
  | .int .. | .bool _ | .str _ | .nilp | .eptr _ | .no => true
  | .sl (.tok _) _ => false
  | .sl _ _ => true
  | _ => false
def clL : AV → Bool
  | .fn _ xs => xs.all clK
  | v => clK v
def clC : AV → Bool
  | .agg xs => xs.all clL
  | v => clL v
def clV : AV → Bool
  | .tup xs => xs.all clC
  | v => clC v

theorem RK.cl {S S' : St} (hw : S'.w = S.w) (hM : S'.M = S.M) {x : AV} {u : Value} (h : RK S x u) (hc : clK x = true) : RK S' x u := by
  cases x with
  | sl c xs =>
    have h1 : RP S'.w S'.M (.sl .none xs) u := by rw [hw, hM]; exact h.1
    cases c with
    | none => exact ⟨h1, trivial⟩
    | full => exact ⟨h1, h.2⟩
    | tok o => cases hc
  | eptr xs =>
    obtain ⟨b, off, vs, h1, h2, h3⟩ := h
    exact ⟨b, off, vs, h1, by rw [hw, hM]; exact h2, by rw [hw, hM]; exact h3⟩
  | int _ _ => exact h
  | bool _ => exact h
  | str _ => exact h
  | nilp => exact h
  | no => exact h
  | _ => cases hc
theorem All2.cl {R R' : AV → Value → Prop} {p : AV → Bool} (h : ∀ x u, p x = true → R x u → R' x u) : ∀ {xs : List AV} {us : List Value}, xs.all p = true → All2 R xs us → All2 R' xs us
  | _, _, _, .nil => .nil
  | _, _, hp, .cons hx hs => by
    simp only [List.all_cons, Bool.and_eq_true] at hp
    exact .cons (h _ _ hp.1 hx) (All2.cl h hp.2 hs)
theorem RL.cl {S S' : St} (hw : S'.w = S.w) (hM : S'.M = S.M) {x : AV} {u : Value} (h : RL S x u) (hc : clL x = true) : RL S' x u := by
  cases x with
  | fn f xs =>
    obtain ⟨vs, h1, h2, h3⟩ := h
    exact ⟨vs, h1, All2.cl (R := RK S) (R' := RK S') (p := clK) (fun _ _ hp hr => RK.cl hw hM hr hp) hc h2, h3⟩
  | _ =>
    rw [RL.eq_RK (by intro _ _ h; cases h)] at h ⊢
    exact RK.cl hw hM h hc
theorem RC.cl {S S' : St} (hw : S'.w = S.w) (hM : S'.M = S.M) {x : AV} {u : Value} (h : RC S x u) (hc : clC x = true) : RC S' x u := by
  cases x with
  | agg xs =>
    obtain ⟨us, h1, h2, h3⟩ := h
    exact ⟨us, h1, All2.cl (R := RL S) (R' := RL S') (p := clL) (fun _ _ hp hr => RL.cl hw hM hr hp) hc h2, h3⟩
  | _ =>
    rw [RC.eq_RL (by intro _ h; cases h)] at h ⊢
    exact RL.cl hw hM h hc
theorem RV.cl {S S' : St} (hw : S'.w = S.w) (hM : S'.M = S.M) {x : AV} {u : Value} (h : RV S x u) (hc : clV x = true) : RV S' x u := by
  cases x with
  | tup xs =>
    obtain ⟨us, h1, h2⟩ := h
    exact ⟨us, h1, All2.cl (R := RC S) (R' := RC S') (p := clC) (fun _ _ hp hr => RC.cl hw hM hr hp) hc h2⟩
  | _ =>
    rw [RV.eq_RC (by intro _ h; cases h)] at h ⊢
    exact RC.cl hw hM h hc

/-- a state without its objects -/
def St.bare (S : St) : St := { m := fun _ => .non, H := [], M := S.M, w := S.w }
theorem own_bare (S : St) (o : Nat) : own S.bare o = none := own_non rfl
theorem good_bare (S : St) : Good S.bare where
  objs := fun o => by
    have : S.bare.H[o]? = none := rfl
    unfold ObjOk
    rw [this]
    trivial
  disj := fun o o' b h => by rw [own_bare] at h; cases h
  there := fun o b h => by rw [own_bare] at h; cases h

theorem Cok.frame {P : Program} {E : Env} {f : Nat} {as : List AV} {v : AV} (hc : Cok P E f as [] v []) (ha : as.all clC = true) (hv : clV v = true) (h : Heap) : Cok P E f as h v h := by
  obtain ⟨fn, hfn, henter, hcalls⟩ := hc
  refine ⟨fn, hfn, henter, fun S args hH hG hgl hargs => ?_⟩
  have h0 : All2 (RC S.bare) as args.toList := All2.cl (R := RC S) (R' := RC S.bare) (p := clC) (fun _ _ hp hr => RC.cl (S := S) (S' := S.bare) rfl rfl hr hp) ha hargs
  refine (hcalls S.bare args rfl (good_bare S) hgl h0).mono fun e w' hR => ?_
  obtain ⟨S0, u, rfl, rfl, hS0, hst, _, hrv⟩ := hR
  have hown0 : ∀ o b, ¬ own S.bare o = some b := fun o b h => by rw [own_bare] at h; cases h
  let S' : St := { m := S.m, H := S.H, M := S0.M, w := S0.w }
  have e : Step h.length fn.grow S S' :=
    { wext := hst.wext
      cells := fun o ys hy => ⟨fun _ => rfl, ys, hy, rfl⟩
      frs := fun o sz n hy => ⟨n, hy, Nat.le_refl _, fun _ => rfl⟩
      size := hst.size
      keep := fun b hb _ => hst.keep b hb fun o => hown0 o b
      owns := fun o b ho => .inl ⟨o, ho⟩
      os := hst.os
      froz := hst.froz
      muts := fun b off hb _ hM => hst.muts b off hb (fun o => hown0 o b) hM
      len := Nat.le_refl _
      pend := fun o _ hm => ⟨hm, rfl⟩
      low := fun _ o _ ys hy x hx => .inr ⟨ys, hy, hx⟩ }
  refine ⟨S', u, rfl, rfl, hH, e, ?_, RV.cl (S := S0) (S' := S') rfl rfl hrv hv⟩
  exact
    { objs := fun o => (hG.objs o).of_step e rfl rfl (fun b hb => hst.keep b (hG.there o b hb) fun o => hown0 o b) (fun b off hb hM => hst.muts b off (hG.there o b hb) (fun o => hown0 o b) hM)
      disj := hG.disj
      there := fun o b hb => Nat.lt_of_lt_of_le (hG.there o b hb) hst.size }

/-- what a run shows is a contract; contracts depend on the functions and the variables alone -/
theorem Cok.of_callF {P : Program} {E : Env} (hmix : P.follows .mixedOrders = true) (hE : ∀ f fn, E.fn f = some fn → FnOk P f fn) (hS : SpOk P E) {f : Nat} {as : List AV} {h h' : Heap} {v : AV} (hc : callF E f as h = some (v, h')) : Cok P E f as h v h' := by
  obtain ⟨n, hn⟩ := callF_iff.1 hc
  exact call_ok hmix hE hS n f as h v h' hn
theorem Cok.env {P : Program} {E E' : Env} (hf : E'.fn = E.fn) (hg : E'.gl = E.gl) {f : Nat} {as : List AV} {h h' : Heap} {v : AV} (hc : Cok P E f as h v h') : Cok P E' f as h v h' := by
  cases E; cases E'
  simp only at hf hg
  subst hf hg
  exact hc
end Ab
/- What a row's data stand for, without memory. -/
namespace Ab
open Go Go.RowKit Go.ChangeShapes

/-- the fields stand one behind the other, from off on -/
def contig (P : Program) : Nat → List Field → Option Nat
  | off, [] => some off
  | off, f :: fs => if f.offset = off then contig P (off + P.cellsOf f.type) fs else none

def elemAV (agg : Bool) (xs : List AV) : Option AV := if agg then some (.agg xs) else match xs with | [x] => some x | _ => none
def elemsAV (agg : Bool) : List (List AV) → Option (List AV)
  | [] => some []
  | xs :: r => match elemAV agg xs, elemsAV agg r with | some y, some ys => some (y :: ys) | _, _ => none
def allSome {α β : Type} (f : α → Option β) : List α → Option (List β)
  | [] => some []
  | x :: r => match f x, allSome f r with | some y, some ys => some (y :: ys) | _, _ => none
def zipSome {α γ β : Type} (f : α → γ → Option β) : List α → List γ → Option (List β)
  | [], [] => some []
  | x :: r, y :: s => match f x y, zipSome f r s with | some z, some zs => some (z :: zs) | _, _ => none
  | _, _ => none

/-- the leaves of a datum of type t -/
def dlv {H : Type} (P : Program) : Nat → TypeId → DataW H → Option (List AV)
  | 0, _, _ => none
  | n + 1, t, d => match P.underlying t, d with
    | some .bool, .lit (.bool b) => some [.bool b]
    | some (.int _), .lit (.int k m) => some [.int k m]
    | some .string, .lit (.string s) => some [.str s]
    | some (.slice _), .nil => some [.sl .none []]
    | some (.slice e), .slice es _ => match aggT P e, allSome (dlv P n e) es with
      | some agg, some xss => if P.cellsOf e = 0 then none else match elemsAV agg xss with | some ys => some [.sl .none ys] | none => none
      | _, _ => none
    | some (.struct fs), .agg ds => if contig P 0 fs.toList = some (P.cellsOf t) then match zipSome (fun (f : Field) d => dlv P n f.type d) fs.toList ds with | some xss => some xss.flatten | none => none else none
    | _, _ => none

theorem allSome_spec {α β : Type} {f : α → Option β} : ∀ {xs : List α} {ys : List β}, allSome f xs = some ys → xs.length = ys.length ∧ ∀ (i : Nat) x y, xs[i]? = some x → ys[i]? = some y → f x = some y
  | [], ys, h => by cases h; exact ⟨rfl, fun i x y h => by simp at h⟩
  | x :: xs, ys, h => by
    simp only [allSome] at h
    split at h
    · rename_i y ys' hy hys
      cases h
      obtain ⟨h1, h2⟩ := allSome_spec hys
      refine ⟨by simp [h1], fun i a b ha hb => ?_⟩
      cases i with
      | zero => simp at ha hb; subst ha hb; exact hy
      | succ i => exact h2 i a b (by simpa using ha) (by simpa using hb)
    · cases h

section
variable {H : Type} {enc : TypeId × Value → H} {P : Program} {w : World} {base : Nat} {sp : Nat → Bool} {held : Bool}

theorem cells_len {a : Addr} {n : Nat} {cs : List Value} (h : w.cells? base a n = some cs) : cs.length = n ∧ ∀ j, j < n → w.cell? (a.add j) = cs[j]? := by
  unfold World.cells? at h
  split at h
  · refine ⟨by simpa using mapM_some_length h, fun j hj => ?_⟩
    have := mapM_some_get h j j (by simp [hj])
    exact this
  · cases h

theorem elemAV_ok {agg : Bool} {xs : List AV} {y : AV} {vs : List Value} (h : elemAV agg xs = some y) (hr : RPs w (fun _ _ => False) xs vs) : nleaves y = xs.length ∧ leaves y = xs := by
  unfold elemAV at h
  split at h
  · cases h; exact ⟨rfl, rfl⟩
  · split at h
    · cases h
      cases hr with
      | cons x v _ _ hx _ => cases hx <;> exact ⟨rfl, rfl⟩
    · cases h

theorem elemsAV_ok {agg : Bool} {sz : Nat} : ∀ {xss : List (List AV)} {ys : List AV}, elemsAV agg xss = some ys → (∀ xs ∈ xss, xs.length = sz ∧ ∃ vs, RPs w (fun _ _ => False) xs vs) →
    ys.length = xss.length ∧ (∀ y ∈ ys, nleaves y = sz) ∧ ys.flatMap leaves = xss.flatten
  | [], ys, h, _ => by cases h; exact ⟨rfl, fun y hy => by simp at hy, rfl⟩
  | xs :: r, ys, h, hx => by
    simp only [elemsAV] at h
    split at h
    · rename_i y ys' hy hys
      cases h
      obtain ⟨hl, vs, hr⟩ := hx xs (by simp)
      obtain ⟨h1, h2⟩ := elemAV_ok hy hr
      obtain ⟨h3, h4, h5⟩ := elemsAV_ok hys fun xs hm => hx xs (by simp [hm])
      refine ⟨by simp [h3], fun z hz => ?_, by simp [h2, h5]⟩
      rcases List.mem_cons.1 hz with rfl | hz
      · rw [h1, hl]
      · exact h4 z hz
    · cases h

theorem RPs.flatten {M : MutP} : ∀ {xss : List (List AV)} {css : List (List Value)}, All2 (RPs w M) xss css → RPs w M xss.flatten css.flatten
  | _, _, .nil => .nil
  | _, _, .cons h hs => by simpa using h.append (RPs.flatten hs)

theorem struct_ok {n : Nat} (ih : ∀ (m : Nat) (t : TypeId) (cs : List Value) (x : DataW H × List MemPlace) (xs : List AV), DataW.trod enc P w base sp held m t cs = some x → dlv P n t x.1 = some xs → RPs w (fun _ _ => False) xs cs) {m : Nat} {cs : List Value} :
    ∀ (fs : List Field) (off end_ : Nat) (xs : List (DataW H × List MemPlace)) (xss : List (List AV)), contig P off fs = some end_ → cs.length = end_ →
      xs.length = fs.length → (∀ (i : Nat) (f : Field), fs[i]? = some f → DataW.trod enc P w base sp held m f.type ((cs.drop f.offset).take (P.cellsOf f.type)) = xs[i]?) →
      zipSome (fun (f : Field) d => dlv P n f.type d) fs (xs.map (·.1)) = some xss → RPs w (fun _ _ => False) xss.flatten (cs.drop off)
  | [], off, e, xs, xss, hc, hl, hx, _, hz => by
    cases hc
    have : xs = [] := by simpa using hx
    subst this
    cases hz
    rw [List.drop_eq_nil_of_le (by omega)]
    exact .nil
  | f :: fs, off, e, xs, xss, hc, hl, hx, ht, hz => by
    cases xs with
    | nil => simp at hx
    | cons x xs =>
      simp only [contig] at hc
      split at hc
      · rename_i hoff
        simp only [List.map_cons, zipSome] at hz
        split at hz
        · rename_i y ys hy hys
          cases hz
          have h0 := ht 0 f (by simp)
          simp only [List.getElem?_cons_zero] at h0
          have h1 := ih m f.type _ x y h0 hy
          have h2 := struct_ok ih fs (off + P.cellsOf f.type) e xs ys hc hl (by simpa using hx) (fun i g hg => by have := ht (i + 1) g (by simpa using hg); simpa using this) hys
          rw [hoff] at h1
          have hcut : cs.drop off = (cs.drop off).take (P.cellsOf f.type) ++ cs.drop (off + P.cellsOf f.type) := by
            rw [← List.drop_drop, List.take_append_drop]
          rw [hcut, List.flatten_cons]
          exact h1.append h2
        · cases hz
      · cases hc

theorem trod_rps : ∀ (n m : Nat) (t : TypeId) (cs : List Value) (x : DataW H × List MemPlace) (xs : List AV), DataW.trod enc P w base sp held m t cs = some x → dlv P n t x.1 = some xs → RPs w (fun _ _ => False) xs cs
  | 0, m, t, cs, x, xs, _, h => by cases h
  | n + 1, m, t, cs, x, xs, ht, h => by
    have ih := trod_rps n
    simp only [dlv] at h
    split at h
    · rename_i b hu hx
      obtain ⟨b', rfl, hx'⟩ := DataW.trod_bool hu ht
      subst hx'
      simp only [DataW.lit.injEq, Lit.bool.injEq] at hx
      subst hx
      cases h
      exact .cons _ _ _ _ (.bool _) .nil
    · rename_i k k' m' hu hx
      obtain ⟨n', rfl, hx', _⟩ := DataW.trod_int hu ht
      subst hx'
      simp only [DataW.lit.injEq, Lit.int.injEq] at hx
      obtain ⟨rfl, rfl⟩ := hx
      cases h
      exact .cons _ _ _ _ (.int _ _) .nil
    · rename_i s hu hx
      obtain ⟨s', rfl, hx', _⟩ := DataW.trod_string hu ht
      subst hx'
      simp only [DataW.lit.injEq, Lit.string.injEq] at hx
      subst hx
      cases h
      exact .cons _ _ _ _ (.str _) .nil
    · rename_i e hu hx
      rcases DataW.trod_slice hu ht with ⟨rfl, _⟩ | ⟨a, len, cap, elems, rest, n', _, rfl, hx', _⟩
      · cases h
        exact .cons _ _ _ _ (.sl0 _ _) .nil
      · subst hx'; cases hx
    · rename_i e es rst hu hx
      rcases DataW.trod_slice hu ht with ⟨_, hx'⟩ | ⟨a, len, cap, elems, rest, n', _, rfl, hx', hb, hl, hm, hlen, hel, _, _⟩
      · subst hx'; cases hx
      · subst hx'
        simp only [DataW.slice.injEq] at hx
        obtain ⟨rfl, _⟩ := hx
        split at h
        · rename_i agg xss hagg hxss
          split at h
          · cases h
          rename_i hsz
          split at h
          · rename_i ys hys
            cases h
            refine .cons _ _ _ _ ?_ .nil
            obtain ⟨hxl, hxg⟩ := allSome_spec hxss
            rw [List.length_map] at hxl
            have hlx : xss.length = len := by omega
            -- each element's cells
            have each : ∀ i, i < len → ∃ csi xsi, w.cells? base (a.add (i * P.cellsOf e)) (P.cellsOf e) = some csi ∧ xss[i]? = some xsi ∧ RPs w (fun _ _ => False) xsi csi ∧ csi.length = P.cellsOf e := by
              intro i hi
              have h1 := hel i hi
              have hie : i < elems.length := by omega
              rw [List.getElem?_eq_getElem hie] at h1
              simp only [Option.bind_eq_some_iff] at h1
              obtain ⟨csi, hc, htr⟩ := h1
              have hix : i < xss.length := by omega
              refine ⟨csi, xss[i], hc, List.getElem?_eq_getElem hix, ?_, (cells_len hc).1⟩
              refine ih n' e csi elems[i] xss[i] htr (hxg i elems[i].1 xss[i] ?_ (List.getElem?_eq_getElem hix))
              rw [List.getElem?_map, List.getElem?_eq_getElem hie]
              rfl
            obtain ⟨csf, hcsf⟩ : ∃ csf : Nat → List Value, ∀ i, i < len → w.cells? base (a.add (i * P.cellsOf e)) (P.cellsOf e) = some (csf i) := by
              refine ⟨fun i => (w.cells? base (a.add (i * P.cellsOf e)) (P.cellsOf e)).getD [], fun i hi => ?_⟩
              obtain ⟨csi, xsi, hc, _⟩ := each i hi
              simp only [hc, Option.getD_some]
            have hall : All2 (RPs w (fun _ _ => False)) xss ((List.range len).map csf) := by
              refine All2.of_get (by simp [hlx]) fun i x y hx hy => ?_
              have hi : i < len := by rw [← hlx]; exact lt_of_some hx
              obtain ⟨csi, xsi, hc, hxi, hr, _⟩ := each i hi
              rw [hx] at hxi; cases hxi
              rw [List.getElem?_map, List.getElem?_range hi] at hy
              cases hy
              have := hcsf i hi
              rw [hc] at this
              cases this
              exact hr
            have hlens : ∀ i, i < len → (csf i).length = P.cellsOf e := fun i hi => (cells_len (hcsf i hi)).1
            obtain ⟨hyl, hynl, hyf⟩ := elemsAV_ok (w := w) (sz := P.cellsOf e) hys fun xs hxs => by
              obtain ⟨i, hi⟩ := List.mem_iff_getElem?.1 hxs
              obtain ⟨csi, xsi, hc, hxi, hr, hcl⟩ := each i (by rw [← hlx]; exact lt_of_some hi)
              rw [hi] at hxi; cases hxi
              exact ⟨by rw [hr.length, hcl], csi, hr⟩
            by_cases hlz : len = 0
            · have : ys = [] := by
                rw [← List.length_eq_zero_iff, hyl]; omega
              subst this
              rw [hlz]
              exact .sl0 _ _
            · obtain ⟨bl, of, rfl⟩ : ∃ bl of, a = ⟨bl, of, none⟩ := by
                obtain ⟨hl0, hc0⟩ := cells_len (hcsf 0 (by omega))
                have h2 := hc0 0 (by omega)
                simp only [Nat.zero_mul, Addr.add, if_true] at h2
                have h3 : 0 < (csf 0).length := by omega
                rw [List.getElem?_eq_getElem h3] at h2
                unfold World.cell? at h2
                split at h2
                · split at h2
                  · cases h2
                  · rename_i hsp
                    cases a with
                    | mk bl of spt =>
                      cases spt with
                      | none => exact ⟨bl, of, rfl⟩
                      | some q => simp at hsp
                · cases h2
              have hyl' : ys.length = len := by omega
              rw [← hyl']
              refine .sl bl of cap (P.cellsOf e) ys ((List.range len).map csf).flatten ?_ hynl ?_ ?_ (by omega)
              · intro h0; rw [h0] at hyl'; simp at hyl'; omega
              · rw [hyf]; exact RPs.flatten hall
              · refine imm_at fun j v hv => ?_
                have key : ∀ (k : Nat) (l : List Nat) (j : Nat) (v : Value), l = List.range' k l.length → k + l.length ≤ len → (l.map csf).flatten[j]? = some v → w.cell? ⟨bl, of + k * P.cellsOf e + j, none⟩ = some v := by
                  intro k l
                  induction l generalizing k with
                  | nil => intro j v _ _ hv; simp at hv
                  | cons i l ihl =>
                    intro j v hlr hle hv
                    rw [List.length_cons, List.range'_succ] at hlr
                    simp only [List.cons.injEq] at hlr
                    obtain ⟨rfl, hlr⟩ := hlr
                    simp only [List.length_cons] at hle
                    simp only [List.map_cons, List.flatten_cons] at hv
                    have hil : i < len := by omega
                    have hcl := hlens i hil
                    by_cases hj : j < P.cellsOf e
                    · rw [List.getElem?_append_left (by omega)] at hv
                      have h4 := (cells_len (hcsf i hil)).2 j hj
                      rw [hv] at h4
                      rw [← h4]
                      rw [Addr.add_lit, Addr.add_lit]
                    · rw [List.getElem?_append_right (by omega), hcl] at hv
                      have := ihl (i + 1) (j - P.cellsOf e) v hlr (by omega) hv
                      rw [← this]
                      congr 2
                      rw [Nat.add_mul]
                      omega
                have := key 0 (List.range len) j v (by rw [List.length_range, List.range_eq_range']) (by simp) hv
                simpa using this
          · cases h
        · cases h
    · rename_i fs ds hu hx
      obtain ⟨ys, n', _, hx', hcl, hyl, hyf⟩ := DataW.trod_struct hu ht
      subst hx'
      simp only [DataW.agg.injEq] at hx
      subst hx
      split at h
      · rename_i hcont
        split at h
        · rename_i xss hxss
          cases h
          have := struct_ok (cs := cs) ih fs.toList 0 (P.cellsOf t) ys xss hcont hcl (by simpa using hyl) (fun i f hf => hyf i f (by rw [← Array.getElem?_toList]; exact hf)) hxss
          simpa using this
        · cases h
      · cases h
    · cases h
end
end Ab
/- A law's row, from what the abstract machine says. -/
namespace Ab
open Go Go.RowKit Go.ChangeShapes Go.WideShapes Go.WideElems

/-- an argument without memory -/
def dav {H : Type} (P : Program) (n : Nat) (t : TypeId) (d : DataW H) : Option AV :=
  match aggT P t, dlv P n t d with
  | some true, some xs => some (.agg xs)
  | some false, some [x] => some x
  | _, _ => none

section
variable {H : Type} {enc : TypeId × Value → H} {P : Program}

theorem cells_one {v : Value} (h : ∀ us, v ≠ .agg us) : v.cells.toList = [v] := by
  cases v <;> first | rfl | exact absurd rfl (h _)

theorem arg_rc {W : World} {sp : Nat → Bool} {held : Bool} {b b0 n : Nat} {t : TypeId} {v : Value} {d : DataW H} {p : List MemPlace} {x : AV} (hval : Value.okWide P W .any b0 t v) (htr : DataW.Trod enc P W b sp held t v d p)
    (hx : dav P n t d = some x) : RC (St.at W) x v := by
  obtain ⟨m, hm⟩ := htr
  unfold dav at hx
  split at hx
  · rename_i xs ha hl
    cases hx
    have hr := trod_rps n m t _ _ xs hm hl
    have : ∃ cs, v = .agg cs := by
      unfold aggT at ha
      split at ha
      · rename_i fs hu
        obtain ⟨cs, h, _⟩ := okWide_struct hu hval
        exact ⟨cs, h⟩
      · rename_i k e hu
        unfold Value.okWide at hval
        rw [hu] at hval
        obtain ⟨cs, h, _⟩ := hval
        exact ⟨cs, h⟩
      · cases ha
      · cases ha
    obtain ⟨cs, rfl⟩ := this
    obtain ⟨h1, h2⟩ := RLs.of_RPs (S := St.at W) hr
    exact ⟨cs, rfl, h1, h2⟩
  · rename_i y ha hl
    cases hx
    have hr := trod_rps n m t _ _ _ hm hl
    have hv : ∀ us, v ≠ .agg us := by
      rintro us rfl
      cases hu : P.underlying t with
      | none => simp [aggT, hu] at ha
      | some td =>
        cases td with
        | bool => obtain ⟨b, h⟩ := okWide_bool hu hval; cases h
        | int k => obtain ⟨b, h⟩ := okWide_int hu hval; cases h
        | string => obtain ⟨b, h⟩ := okWide_string hu hval; cases h
        | slice e => obtain ⟨_, _, _, h⟩ := okWide_slice hu hval; cases h
        | struct fs => simp [aggT, hu] at ha
        | _ => cases n <;> simp [dlv, hu] at hl
    rw [cells_one hv] at hr
    cases hr with
    | cons _ _ _ _ h _ => exact RC.of_RL (S := St.at W) (.of_RP (S := St.at W) h) (isLf_of_RP (S := St.at W) h)
  · cases hx

/-- the arguments, without memory -/
def davs {H : Type} (P : Program) (n : Nat) : List TypeId → List (DataW H) → Option (List AV)
  | [], [] => some []
  | t :: ts, d :: ds => match dav P n t d, davs P n ts ds with | some x, some xs => some (x :: xs) | _, _ => none
  | _, _ => none

theorem args_rc {W : World} {sp : Nat → Bool} {held : Bool} {b b0 n : Nat} : ∀ {ts : List TypeId} {vs : List Value} {ds : List (DataW H)} {p : List MemPlace} {xs : List AV}, (∀ (j : Nat) t v, ts[j]? = some t → vs[j]? = some v → Value.okWide P W .any b0 t v) →
    DataW.TrodAll enc P W b sp held ts vs ds p → davs P n ts ds = some xs → All2 (RC (St.at W)) xs vs
  | [], vs, ds, p, xs, _, ht, hx => by
    obtain ⟨rfl, rfl, rfl⟩ := trodAll_nil ht
    cases hx
    exact .nil
  | t :: ts, vs, ds, p, xs, hval, ht, hx => by
    obtain ⟨v, vs1, d, ds1, a, b, rfl, rfl, rfl, h1, h2⟩ := trodAll_cons ht
    simp only [davs] at hx
    split at hx
    · rename_i y ys hy hys
      cases hx
      exact .cons (arg_rc (hval 0 t v rfl rfl) h1 hy) (args_rc (fun j t v ht hv => hval (j + 1) t v (by simpa using ht) (by simpa using hv)) h2 hys)
    · cases hx

theorem stays_all (hl : laidOutB P = true) {W W' : World} {sp : Nat → Bool} (hb : Below W.heap.size W W') : ∀ {ts : List TypeId} {vs : List Value} {ds : List (DataW H)} {p : List MemPlace}, (ts.all fun t => P.readableRec t && decide (t < P.types.size)) = true →
    DataW.TrodAll enc P W 0 (fun _ => true) true ts vs ds p → (∀ x ∈ p, x.block < W.heap.size) → (∀ x ∈ p, sp x.block = true) → DataW.TrodAll enc P W' 0 sp true ts vs ds p
  | [], vs, ds, p, _, ht, _, _ => by
    obtain ⟨rfl, rfl, rfl⟩ := trodAll_nil ht
    exact trodAll_mk0
  | t :: ts, vs, ds, p, hr, ht, hlt, hsp => by
    obtain ⟨v, vs1, d, ds1, a, b, rfl, rfl, rfl, h1, h2⟩ := trodAll_cons ht
    simp only [List.all_cons, Bool.and_eq_true, decide_eq_true_eq] at hr
    exact ⟨a, b, Trod_stays hl hr.1.1 hr.1.2 h1 (fun x hx => hb.same (hlt x (by simp [hx]))) (fun x hx => hsp x (by simp [hx])),
      stays_all hl hb hr.2 h2 (fun x hx => hlt x (by simp [hx])) (fun x hx => hsp x (by simp [hx])), rfl⟩

theorem post_law {f : Func} {s : ChangeSpec} {W W' : World} {args : Array Value} {ds gs : List (DataW H)} {before : List MemPlace} {tb : TypeId} (hvars : s.vars = []) (hW : DataW.Whole enc P f.params.toList s.vars false W args.toList ds gs before)
    (hfn : s.fn H ds = { results := [.lit (.bool true)], args := ds }) (hl : laidOutB P = true) (hpar : (f.params.toList.all fun t => P.readableRec t && decide (t < P.types.size)) = true)
    (hres : f.resultTypes = #[tb]) (hb : P.underlying tb = some .bool) (hbelow : Below W.heap.size W W') (hfz : ∀ a, W'.frozen? a = W.frozen? a) : s.post enc P f false true false false W args (.bool true) W' := by
  have hlt := hW.lt
  have hW' := hW
  obtain ⟨p, q, hA, hV, rfl, _, _⟩ := hW
  rw [hvars] at hV
  obtain ⟨rfl, rfl⟩ := trodVars_none hV
  simp only [List.append_nil] at hW' hlt
  have hfn' : s.fn H (ds ++ []) = { results := [.lit (.bool true)], args := ds } := by rw [List.append_nil]; exact hfn
  refine post_of_same (pa := p) (pv := []) hW' (fun b sp hd => ?_) (fun sp hsp => ?_) (fun sp _ => ?_) (by simp) (hbelow.frame _) hfz (ok_one hres rfl (okWide_bool_mk hb _))
  · rw [hfn', hres]
    exact trodAll_mk1 (shut_bool hb _)
  · rw [hfn']
    exact stays_all hl hbelow hpar hA (fun x hx => by simpa using hlt x hx) fun x hx => hsp x (by simpa using hx)
  · rw [hfn', hvars]
    rfl
end

/-- A CALL, AS A ROW WANTS IT. -/
theorem calls_of' {P : Program} {E : Env} (hmix : P.follows .mixedOrders = true) (hE : ∀ f fn, E.fn f = some fn → FnOk P f fn) (hS : SpOk P E) {W : World} {f : Nat} {args : Array Value} {as : List AV} {b : Bool} {h' : Heap}
    (hg : GlobOk E (St.at W)) (ha : All2 (RC (St.at W)) as args.toList) (hc : callF E f as [] = some (.bool b, h')) :
    Calls P f args W fun e w' => e = .returned (.bool b) ∧ Below W.heap.size W w' ∧ ∀ a, w'.frozen? a = W.frozen? a := by
  obtain ⟨n, hn⟩ := callF_iff.1 hc
  obtain ⟨fn, _, _, hcalls⟩ := call_ok hmix hE hS n f as [] _ _ hn
  refine (hcalls (St.at W) args rfl (good_at W) hg ha).mono fun e w' hr => ?_
  obtain ⟨S', u, rfl, rfl, _, hst, _, hv⟩ := hr
  have hu : u = .bool b := hv
  subst hu
  exact ⟨rfl, ⟨hst.os.1, hst.os.2.2, hst.os.2.1, hst.size, fun k hk => hst.keep k hk fun o ho => by rw [own_at] at ho; cases ho⟩, hst.froz⟩

/-- THE CONTRACT OF A LAW. -/
theorem law_contract {P : Program} {E : Env} (hmix : P.follows .mixedOrders = true) (hE : ∀ f fn, E.fn f = some fn → FnOk P f fn) (hS : SpOk P E) (hl : laidOutB P = true) {f : Nat} {fn : Func} {s : ChangeSpec} {tb : TypeId} {n : Nat}
    (hpar : (fn.params.toList.all fun t => P.readableRec t && decide (t < P.types.size)) = true) (hres : fn.resultTypes = #[tb]) (hb : P.underlying tb = some .bool) (hvars : s.vars = [])
    {H : Type} {enc : TypeId × Value → H} {W : World} {base : Nat} {args : Array Value} {ds gs : List (DataW H)} {before : List MemPlace}
    (hval : ∀ (j : Nat) t v, fn.params[j]? = some t → args[j]? = some v → Value.okWide P W .any base t v) (hW : DataW.Whole enc P fn.params.toList s.vars false W args.toList ds gs before) (hg : GlobOk E (St.at W))
    (hfn : s.fn H ds = { results := [.lit (.bool true)], args := ds }) {xs : List AV} (hx : davs P n fn.params.toList ds = some xs) {h' : Heap} (hc : callF E f xs [] = some (.bool true, h')) :
    Calls P f args W fun e W' => ∃ v, e = .returned v ∧ s.post enc P fn false true false false W args v W' := by
  have ha : All2 (RC (St.at W)) xs args.toList := by
    obtain ⟨p, q, hA, _⟩ := hW
    exact args_rc (fun j t v ht hv => hval j t v (by rw [← Array.getElem?_toList]; exact ht) (by rw [← Array.getElem?_toList]; exact hv)) hA hx
  refine (calls_of' hmix hE hS hg ha hc).mono fun e W' ⟨he, hbel, hfz⟩ => ?_
  exact ⟨_, he, post_law hvars hW hfn hl hpar hres hb hbel hfz⟩

/-! ### package-level variables -/
theorem glob_of_laid {P : Program} {W : World} {name : String} {d : DataW Unit} {rest : List (String × DataW Unit)} {g n : Nat} {t : TypeId} {xs : List AV} (hg : P.globalNamed name = some g) (hty : (P.globals[g]?).map (·.type) = some t)
    (hd : dlv P n t d = some xs) (h : laidMet P ((name, d) :: rest) W) : ∃ vs, RPs W (fun _ _ => False) xs vs ∧ Imm W (fun _ _ => False) g 0 vs := by
  obtain ⟨ps, ⟨g', t', cs, fuel, p, q, hg', ht', hvar, htr, _, _⟩, _⟩ := h
  obtain rfl := Option.some.inj (hg.symm.trans hg')
  obtain rfl := Option.some.inj (hty.symm.trans ht')
  refine ⟨cs.toList, trod_rps n fuel t _ _ xs htr hd, imm_at fun j v hj => ?_⟩
  rw [Nat.zero_add, World.var?_cell hg hvar j, ← Array.getElem?_toList]
  exact hj
end Ab
/- A law's arguments, opened: what a datum of a plain type (numbers, strings, slices, structs) stands for. -/
namespace Ab
open Go Go.RowKit Go.ChangeShapes

inductive All2' {α β : Type} (R : α → β → Prop) : List α → List β → Prop
  | nil : All2' R [] []
  | cons {a b as bs} : R a b → All2' R as bs → All2' R (a :: as) (b :: bs)

/-- what the leaves of a datum of type t look like; n: how deep it is -/
def ShF (P : Program) : Nat → TypeId → List AV → Prop
  | 0, _, _ => False
  | n + 1, t, xs => match P.underlying t with
    | some .bool => ∃ b, xs = [.bool b]
    | some (.int k) => ∃ m, xs = [.int k m] ∧ (Lit.int k m).wf = true
    | some .string => ∃ s, xs = [.str s] ∧ s.length ≤ maxLen
    | some (.slice e) => ∃ ys agg, xs = [.sl .none ys] ∧ ys.length ≤ maxLen ∧ aggT P e = some agg ∧ ∀ y ∈ ys, ∃ zs, ShF P n e zs ∧ elemAV agg zs = some y
    | some (.struct fs) => ∃ xss, xs = xss.flatten ∧ All2' (fun (f : Field) zs => ShF P n f.type zs) fs.toList xss
    | _ => False

def oneCell (P : Program) (t : TypeId) : Bool := match P.underlying t with
  | some .bool | some (.int _) | some .string | some (.slice _) => true
  | _ => false
def compOk (P : Program) (T : List TypeId) (t : TypeId) : Bool := match P.underlying t with
  | some .bool | some (.int _) | some .string => true
  | some (.slice e) => T.contains e && (P.cellsOf e != 0) && (aggT P e == some true || (aggT P e == some false && oneCell P e))
  | some (.struct fs) => (contig P 0 fs.toList == some (P.cellsOf t)) && fs.toList.all fun f => T.contains f.type
  | _ => false
def closedT (P : Program) (T : List TypeId) : Bool := T.all (compOk P T)

section
variable {H : Type} {enc : TypeId × Value → H} {P : Program} {w : World} {base : Nat} {sp : Nat → Bool} {held : Bool}

theorem allSome_of {α β : Type} {f : α → Option β} : ∀ {xs : List α}, (∀ x ∈ xs, ∃ y, f x = some y) → ∃ ys, allSome f xs = some ys ∧ ∀ y ∈ ys, ∃ x ∈ xs, f x = some y
  | [], _ => ⟨[], rfl, fun y hy => by simp at hy⟩
  | x :: xs, h => by
    obtain ⟨y, hy⟩ := h x (by simp)
    obtain ⟨ys, hys, hb⟩ := allSome_of (f := f) (xs := xs) fun z hz => h z (by simp [hz])
    refine ⟨y :: ys, by simp only [allSome, hy, hys], fun z hz => ?_⟩
    rcases List.mem_cons.1 hz with rfl | hz
    · exact ⟨x, by simp, hy⟩
    · obtain ⟨a, ha, hf⟩ := hb z hz
      exact ⟨a, by simp [ha], hf⟩
theorem allSome_map {α γ β : Type} {g : α → Option β} {f : α → β} : ∀ {l : List (α × γ)}, (∀ p ∈ l, g p.1 = some (f p.1)) → allSome g (l.map (·.1)) = some (l.map fun p => f p.1)
  | [], _ => rfl
  | p :: l, h => by
    simp only [List.map_cons, allSome, h p (by simp), allSome_map (f := f) (l := l) fun q hq => h q (by simp [hq])]
theorem elemsAV_of {agg : Bool} : ∀ {xss : List (List AV)}, (∀ xs ∈ xss, ∃ y, elemAV agg xs = some y) → ∃ ys, elemsAV agg xss = some ys ∧ ∀ y ∈ ys, ∃ xs ∈ xss, elemAV agg xs = some y
  | [], _ => ⟨[], rfl, fun y hy => by simp at hy⟩
  | x :: xs, h => by
    obtain ⟨y, hy⟩ := h x (by simp)
    obtain ⟨ys, hys, hb⟩ := elemsAV_of (agg := agg) (xss := xs) fun z hz => h z (by simp [hz])
    refine ⟨y :: ys, by simp only [elemsAV, hy, hys], fun z hz => ?_⟩
    rcases List.mem_cons.1 hz with rfl | hz
    · exact ⟨x, by simp, hy⟩
    · obtain ⟨a, ha, hf⟩ := hb z hz
      exact ⟨a, by simp [ha], hf⟩
theorem elemsAV_len {agg : Bool} : ∀ {xss : List (List AV)} {ys : List AV}, elemsAV agg xss = some ys → ys.length = xss.length
  | [], ys, h => by cases h; rfl
  | x :: xs, ys, h => by
    simp only [elemsAV] at h
    split at h
    · rename_i h2
      cases h
      simp [elemsAV_len h2]
    · cases h

theorem oneCell_sh {n : Nat} {t : TypeId} {xs : List AV} (h : oneCell P t = true) (hs : ShF P n t xs) : ∃ x, xs = [x] := by
  cases n with
  | zero => exact hs.elim
  | succ n =>
    unfold oneCell at h
    unfold ShF at hs
    cases hu : P.underlying t with
    | none => simp [hu] at h
    | some u =>
      rw [hu] at hs h
      cases u <;> simp only [Bool.false_eq_true] at h <;> simp only at hs
      · obtain ⟨b, rfl⟩ := hs; exact ⟨_, rfl⟩
      · obtain ⟨m, rfl, _⟩ := hs; exact ⟨_, rfl⟩
      · obtain ⟨m, rfl, _⟩ := hs; exact ⟨_, rfl⟩
      · obtain ⟨ys, agg, rfl, _⟩ := hs; exact ⟨_, rfl⟩

/-- WHAT A PLAIN DATUM STANDS FOR. -/
theorem open_sh {T : List TypeId} (hT : closedT P T = true) : ∀ (m : Nat) (t : TypeId) (cs : List Value) (x : DataW H × List MemPlace), t ∈ T → DataW.trod enc P w base sp held m t cs = some x → ∃ xs, (∀ n, m ≤ n → dlv P n t x.1 = some xs) ∧ ShF P m t xs
  | 0, t, cs, x, _, ht => by simp [DataW.trod] at ht
  | m + 1, t, cs, x, hmem, ht => by
    have ih := open_sh hT m
    have hc := List.all_eq_true.1 hT t hmem
    unfold compOk at hc
    have hn : ∀ {xs : List AV}, (∀ n, m ≤ n → dlv P (n + 1) t x.1 = some xs) → ∀ n, m + 1 ≤ n → dlv P n t x.1 = some xs := by
      intro xs h n hn
      obtain ⟨k, rfl⟩ : ∃ k, n = k + 1 := ⟨n - 1, by omega⟩
      exact h k (by omega)
    cases hu : P.underlying t with
    | none => simp [hu] at hc
    | some u =>
      rw [hu] at hc
      cases u <;> simp only [Bool.false_eq_true] at hc
      · obtain ⟨b, rfl, rfl⟩ := DataW.trod_bool hu ht
        refine ⟨[.bool b], hn fun n _ => by simp only [dlv, hu], ?_⟩
        unfold ShF; rw [hu]; exact ⟨b, rfl⟩
      · rename_i kd
        obtain ⟨k, rfl, rfl, hwf⟩ := DataW.trod_int hu ht
        refine ⟨[.int kd k], hn fun n _ => by simp only [dlv, hu], ?_⟩
        unfold ShF; rw [hu]; exact ⟨k, rfl, hwf⟩
      · obtain ⟨s, rfl, rfl, hsz⟩ := DataW.trod_string hu ht
        refine ⟨[.str s.data.toList], hn fun n _ => by simp only [dlv, hu], ?_⟩
        unfold ShF; rw [hu]; exact ⟨_, rfl, by simpa using hsz⟩
      · rename_i e
        simp only [Bool.and_eq_true, bne_iff_ne, ne_eq, Bool.or_eq_true, beq_iff_eq] at hc
        obtain ⟨⟨he, hcell⟩, hagg⟩ := hc
        have heT : e ∈ T := by simpa using he
        have hav : ∃ agg, aggT P e = some agg ∧ ∀ xs, ShF P m e xs → ∃ y, elemAV agg xs = some y := by
          rcases hagg with h | ⟨h, h1⟩
          · exact ⟨true, h, fun xs _ => ⟨.agg xs, rfl⟩⟩
          · refine ⟨false, h, fun xs hs => ?_⟩
            obtain ⟨x, rfl⟩ := oneCell_sh h1 hs
            exact ⟨x, rfl⟩
        obtain ⟨agg, ha, hav⟩ := hav
        rcases DataW.trod_slice hu ht with ⟨rfl, rfl⟩ | ⟨a, len, cap, elems, rest, n', hfu, rfl, rfl, hb, hl, hm, hlen, hel, _, _⟩
        · refine ⟨[.sl .none []], hn fun n _ => by simp only [dlv, hu], ?_⟩
          unfold ShF; rw [hu]; exact ⟨[], agg, rfl, by simp, ha, fun y hy => by simp at hy⟩
        · have hn' : n' = m := by omega
          subst hn'
          have each : ∀ p ∈ elems, ∃ zs, (∀ n, n' ≤ n → dlv P n e p.1 = some zs) ∧ ShF P n' e zs := by
            intro p hp
            obtain ⟨i, hi⟩ := List.mem_iff_getElem?.1 hp
            have hlt : i < elems.length := lt_of_some hi
            have h1 := hel i (by omega)
            rw [hi] at h1
            simp only [Option.bind_eq_some_iff] at h1
            obtain ⟨csi, _, htr⟩ := h1
            exact ih e csi p heT htr
          -- one choice for every depth
          have hch : ∃ f : DataW H → List AV, ∀ p ∈ elems, (∀ n, n' ≤ n → dlv P n e p.1 = some (f p.1)) ∧ ShF P n' e (f p.1) := by
            refine ⟨fun d => (dlv P n' e d).getD [], fun p hp => ?_⟩
            obtain ⟨zs, h1, h2⟩ := each p hp
            have h3 := h1 n' (Nat.le_refl _)
            simp only [h3, Option.getD_some]
            exact ⟨h1, h2⟩
          obtain ⟨f, hf⟩ := hch
          have hall : ∀ n, n' ≤ n → allSome (dlv P n e) (elems.map (·.1)) = some (elems.map fun p => f p.1) := by
            intro n hnn
            exact allSome_map fun p hp => (hf p hp).1 n hnn
          obtain ⟨ys, hys, hyb⟩ := elemsAV_of (agg := agg) (xss := elems.map fun p => f p.1) (by
            intro xs hxs
            obtain ⟨p, hp, rfl⟩ := List.mem_map.1 hxs
            exact hav _ (hf p hp).2)
          refine ⟨[.sl .none ys], hn fun n hnn => ?_, ?_⟩
          · simp only [dlv, hu, ha, hall n hnn, hys, if_neg hcell]
          · unfold ShF; rw [hu]
            refine ⟨ys, agg, rfl, ?_, ha, fun y hy => ?_⟩
            · rw [elemsAV_len hys, List.length_map]
              omega
            · obtain ⟨xs, hxs, hxy⟩ := hyb y hy
              obtain ⟨p, hp, rfl⟩ := List.mem_map.1 hxs
              exact ⟨_, (hf p hp).2, hxy⟩
      · rename_i fs
        simp only [Bool.and_eq_true, beq_iff_eq] at hc
        obtain ⟨hcon, hall⟩ := hc
        obtain ⟨ys, n', hfu, rfl, hcl, hyl, hyf⟩ := DataW.trod_struct hu ht
        have hn' : n' = m := by omega
        subst hn'
        have key : ∀ (gs : List Field) (zs : List (DataW H × List MemPlace)), zs.length = gs.length → (∀ (i : Nat) (f : Field), gs[i]? = some f → ∃ c, DataW.trod enc P w base sp held n' f.type c = zs[i]?) → (∀ f ∈ gs, f.type ∈ T) →
            ∃ xss, (∀ n, n' ≤ n → zipSome (fun (f : Field) d => dlv P n f.type d) gs (zs.map (·.1)) = some xss) ∧ All2' (fun (f : Field) zs => ShF P n' f.type zs) gs xss := by
          intro gs
          induction gs with
          | nil =>
            intro zs hz _ _
            have : zs = [] := by simpa using hz
            subst this
            exact ⟨[], fun n _ => rfl, .nil⟩
          | cons f gs ihg =>
            intro zs hz hf hm
            cases zs with
            | nil => simp at hz
            | cons z zs =>
              obtain ⟨c, hc⟩ := hf 0 f rfl
              obtain ⟨xs, h1, h2⟩ := ih f.type c z (hm f (by simp)) hc
              obtain ⟨xss, h3, h4⟩ := ihg zs (by simpa using hz) (fun i g hg => by have := hf (i + 1) g (by simpa using hg); simpa using this) fun g hg => hm g (by simp [hg])
              exact ⟨xs :: xss, fun n hnn => by simp only [List.map_cons, zipSome, h1 n hnn, h3 n hnn], .cons h2 h4⟩
        obtain ⟨xss, h1, h2⟩ := key fs.toList ys (by simpa using hyl) (fun i f hf => ⟨_, hyf i f (by rw [← Array.getElem?_toList]; exact hf)⟩) (fun f hf => by
          have := List.all_eq_true.1 hall f hf
          simpa using this)
        refine ⟨xss.flatten, hn fun n hnn => ?_, ?_⟩
        · simp only [dlv, hu, if_pos hcon, h1 n hnn]
        · unfold ShF; rw [hu]
          exact ⟨xss, rfl, h2⟩

/-- an argument of a plain type -/
theorem open_arg {T : List TypeId} (hT : closedT P T = true) {t : TypeId} {v : Value} {d : DataW H} {p : List MemPlace} (hmem : t ∈ T) (h : DataW.Trod enc P w base sp held t v d p) : ∃ N m xs, (∀ n, N ≤ n → dlv P n t d = some xs) ∧ ShF P m t xs := by
  obtain ⟨m, hm⟩ := h
  obtain ⟨xs, h1, h2⟩ := open_sh hT m t _ _ hmem hm
  exact ⟨m, m, xs, h1, h2⟩
theorem dav_agg {t : TypeId} {d : DataW H} {n : Nat} {xs : List AV} (ha : aggT P t = some true) (h : dlv P n t d = some xs) : dav P n t d = some (.agg xs) := by
  simp only [dav, ha, h]
theorem dav_one {t : TypeId} {d : DataW H} {n : Nat} {x : AV} (ha : aggT P t = some false) (h : dlv P n t d = some [x]) : dav P n t d = some x := by
  simp only [dav, ha, h]
theorem davs_cons {t : TypeId} {ts : List TypeId} {d : DataW H} {ds : List (DataW H)} {n : Nat} {x : AV} {xs : List AV} (h : dav P n t d = some x) (hs : davs P n ts ds = some xs) : davs P n (t :: ts) (d :: ds) = some (x :: xs) := by
  simp only [davs, h, hs]
theorem dlv_str {t : TypeId} {d : DataW H} {n : Nat} {a : List UInt8} (hu : P.underlying t = some .string) (h : dlv P n t d = some [.str a]) : d = .lit (.string a) := by
  cases n with
  | zero => simp [dlv] at h
  | succ n =>
    simp only [dlv, hu] at h
    split at h <;> simp_all
theorem davs_nil {n : Nat} : davs P n [] ([] : List (DataW H)) = some [] := rfl

/-! shapes, read off -/
theorem sh_int {n : Nat} {t : TypeId} {k : IntKind} {xs : List AV} (hu : P.underlying t = some (.int k)) (h : ShF P n t xs) : ∃ m, xs = [.int k m] ∧ (Lit.int k m).wf = true := by
  cases n with
  | zero => exact h.elim
  | succ n => unfold ShF at h; rw [hu] at h; exact h
theorem sh_str {n : Nat} {t : TypeId} {xs : List AV} (hu : P.underlying t = some .string) (h : ShF P n t xs) : ∃ s, xs = [.str s] ∧ s.length ≤ maxLen := by
  cases n with
  | zero => exact h.elim
  | succ n => unfold ShF at h; rw [hu] at h; exact h
theorem sh_bool {n : Nat} {t : TypeId} {xs : List AV} (hu : P.underlying t = some .bool) (h : ShF P n t xs) : ∃ b, xs = [.bool b] := by
  cases n with
  | zero => exact h.elim
  | succ n => unfold ShF at h; rw [hu] at h; exact h
theorem sh_slice {n : Nat} {t e : TypeId} {xs : List AV} (hu : P.underlying t = some (.slice e)) (h : ShF P n t xs) : ∃ m ys agg, n = m + 1 ∧ xs = [.sl .none ys] ∧ ys.length ≤ maxLen ∧ aggT P e = some agg ∧ ∀ y ∈ ys, ∃ zs, ShF P m e zs ∧ elemAV agg zs = some y := by
  cases n with
  | zero => exact h.elim
  | succ n =>
    unfold ShF at h
    rw [hu] at h
    obtain ⟨ys, agg, h⟩ := h
    exact ⟨n, ys, agg, rfl, h⟩
theorem sh_struct {n : Nat} {t : TypeId} {fs : Array Field} {xs : List AV} (hu : P.underlying t = some (.struct fs)) (h : ShF P n t xs) : ∃ m xss, n = m + 1 ∧ xs = xss.flatten ∧ All2' (fun (f : Field) zs => ShF P m f.type zs) fs.toList xss := by
  cases n with
  | zero => exact h.elim
  | succ n =>
    unfold ShF at h
    rw [hu] at h
    obtain ⟨xss, h⟩ := h
    exact ⟨n, xss, rfl, h⟩
theorem sh_ints {n : Nat} {t e : TypeId} {k : IntKind} {xs : List AV} (hu : P.underlying t = some (.slice e)) (he : P.underlying e = some (.int k)) (ha : aggT P e = some false) (h : ShF P n t xs) : ∃ l : List Int, l.length ≤ maxLen ∧ xs = [.sl .none (l.map (AV.int k))] ∧ ∀ m ∈ l, (Lit.int k m).wf = true := by
  obtain ⟨m, ys, agg, rfl, rfl, hl, hag, hy⟩ := sh_slice hu h
  rw [ha] at hag
  cases hag
  have key : ∀ ys : List AV, (∀ y ∈ ys, ∃ zs, ShF P m e zs ∧ elemAV false zs = some y) → ∃ l : List Int, ys = l.map (AV.int k) ∧ ∀ m ∈ l, (Lit.int k m).wf = true := by
    intro ys
    induction ys with
    | nil => exact fun _ => ⟨[], rfl, by simp⟩
    | cons y ys ih =>
      intro hy
      obtain ⟨l, rfl, hw⟩ := ih fun z hz => hy z (by simp [hz])
      obtain ⟨zs, hz, hzy⟩ := hy y (by simp)
      obtain ⟨v, rfl, hv⟩ := sh_int he hz
      simp [elemAV] at hzy
      subst hzy
      refine ⟨v :: l, rfl, fun x hx => ?_⟩
      rcases List.mem_cons.1 hx with rfl | hx
      · exact hv
      · exact hw x hx
  obtain ⟨l, rfl, hw⟩ := key ys hy
  exact ⟨l, by simpa using hl, rfl, hw⟩
theorem wf_i64 {m : Int} (h : (Lit.int .i64 m).wf = true) : -9223372036854775808 ≤ m ∧ m ≤ 9223372036854775807 := by
  simp only [Lit.wf] at h
  have := h
  simp [IntKind.min, IntKind.max, IntKind.signed, IntKind.bits] at this
  omega
end
end Ab
