/- A law's row, from what the abstract machine says. -/
import Derived.Test.YtghlghbpaeimjaaDoorAbTrod
namespace Ab
open Go Go.RowKit Go.ChangeShapes Go.WideShapes Go.WideElems

/-- an argument without memory -/
def dav {H : Type} (P : Program) (n : Nat) (t : TypeId) (d : DataW H) : Option AV :=
  match aggT P t, dlv P n t d with
  | some true, some xs => some (.agg xs)
  | some false, some [x] => some x
  | _, _ => none

section
variable {H : Type} {enc : TypeId × Value → H} {P : Program}

theorem cells_one {v : Value} (h : ∀ us, v ≠ .agg us) : v.cells.toList = [v] := by
  cases v <;> first | rfl | exact absurd rfl (h _)

theorem arg_rc {W : World} {sp : Nat → Bool} {held : Bool} {b b0 n : Nat} {t : TypeId} {v : Value} {d : DataW H} {p : List MemPlace} {x : AV} (hval : Value.okWide P W .any b0 t v) (htr : DataW.Trod enc P W b sp held t v d p)
    (hx : dav P n t d = some x) : RC (St.at W) x v := by
  obtain ⟨m, hm⟩ := htr
  unfold dav at hx
  split at hx
  · rename_i xs ha hl
    cases hx
    have hr := trod_rps n m t _ _ xs hm hl
    have : ∃ cs, v = .agg cs := by
      unfold aggT at ha
      split at ha
      · rename_i fs hu
        obtain ⟨cs, h, _⟩ := okWide_struct hu hval
        exact ⟨cs, h⟩
      · rename_i k e hu
        unfold Value.okWide at hval
        rw [hu] at hval
        obtain ⟨cs, h, _⟩ := hval
        exact ⟨cs, h⟩
      · cases ha
      · cases ha
    obtain ⟨cs, rfl⟩ := this
    obtain ⟨h1, h2⟩ := RLs.of_RPs (S := St.at W) hr
    exact ⟨cs, rfl, h1, h2⟩
  · rename_i y ha hl
    cases hx
    have hr := trod_rps n m t _ _ _ hm hl
    have hv : ∀ us, v ≠ .agg us := by
      rintro us rfl
      cases hu : P.underlying t with
      | none => simp [aggT, hu] at ha
      | some td =>
        cases td with
        | bool => obtain ⟨b, h⟩ := okWide_bool hu hval; cases h
        | int k => obtain ⟨b, h⟩ := okWide_int hu hval; cases h
        | string => obtain ⟨b, h⟩ := okWide_string hu hval; cases h
        | slice e => obtain ⟨_, _, _, h⟩ := okWide_slice hu hval; cases h
        | struct fs => simp [aggT, hu] at ha
        | _ => cases n <;> simp [dlv, hu] at hl
    rw [cells_one hv] at hr
    cases hr with
    | cons _ _ _ _ h _ => exact RC.of_RL (S := St.at W) (.of_RP (S := St.at W) h) (isLf_of_RP (S := St.at W) h)
  · cases hx

/-- the arguments, without memory -/
def davs {H : Type} (P : Program) (n : Nat) : List TypeId → List (DataW H) → Option (List AV)
  | [], [] => some []
  | t :: ts, d :: ds => match dav P n t d, davs P n ts ds with | some x, some xs => some (x :: xs) | _, _ => none
  | _, _ => none

theorem args_rc {W : World} {sp : Nat → Bool} {held : Bool} {b b0 n : Nat} : ∀ {ts : List TypeId} {vs : List Value} {ds : List (DataW H)} {p : List MemPlace} {xs : List AV}, (∀ (j : Nat) t v, ts[j]? = some t → vs[j]? = some v → Value.okWide P W .any b0 t v) →
    DataW.TrodAll enc P W b sp held ts vs ds p → davs P n ts ds = some xs → All2 (RC (St.at W)) xs vs
  | [], vs, ds, p, xs, _, ht, hx => by
    obtain ⟨rfl, rfl, rfl⟩ := trodAll_nil ht
    cases hx
    exact .nil
  | t :: ts, vs, ds, p, xs, hval, ht, hx => by
    obtain ⟨v, vs1, d, ds1, a, b, rfl, rfl, rfl, h1, h2⟩ := trodAll_cons ht
    simp only [davs] at hx
    split at hx
    · rename_i y ys hy hys
      cases hx
      exact .cons (arg_rc (hval 0 t v rfl rfl) h1 hy) (args_rc (fun j t v ht hv => hval (j + 1) t v (by simpa using ht) (by simpa using hv)) h2 hys)
    · cases hx

theorem stays_all (hl : laidOutB P = true) {W W' : World} {sp : Nat → Bool} (hb : Below W.heap.size W W') : ∀ {ts : List TypeId} {vs : List Value} {ds : List (DataW H)} {p : List MemPlace}, (ts.all fun t => P.readableRec t && decide (t < P.types.size)) = true →
    DataW.TrodAll enc P W 0 (fun _ => true) true ts vs ds p → (∀ x ∈ p, x.block < W.heap.size) → (∀ x ∈ p, sp x.block = true) → DataW.TrodAll enc P W' 0 sp true ts vs ds p
  | [], vs, ds, p, _, ht, _, _ => by
    obtain ⟨rfl, rfl, rfl⟩ := trodAll_nil ht
    exact trodAll_mk0
  | t :: ts, vs, ds, p, hr, ht, hlt, hsp => by
    obtain ⟨v, vs1, d, ds1, a, b, rfl, rfl, rfl, h1, h2⟩ := trodAll_cons ht
    simp only [List.all_cons, Bool.and_eq_true, decide_eq_true_eq] at hr
    exact ⟨a, b, Trod_stays hl hr.1.1 hr.1.2 h1 (fun x hx => hb.same (hlt x (by simp [hx]))) (fun x hx => hsp x (by simp [hx])),
      stays_all hl hb hr.2 h2 (fun x hx => hlt x (by simp [hx])) (fun x hx => hsp x (by simp [hx])), rfl⟩

theorem post_law {f : Func} {s : ChangeSpec} {W W' : World} {args : Array Value} {ds gs : List (DataW H)} {before : List MemPlace} {tb : TypeId} (hvars : s.vars = []) (hW : DataW.Whole enc P f.params.toList s.vars false W args.toList ds gs before)
    (hfn : s.fn H ds = { results := [.lit (.bool true)], args := ds }) (hl : laidOutB P = true) (hpar : (f.params.toList.all fun t => P.readableRec t && decide (t < P.types.size)) = true)
    (hres : f.resultTypes = #[tb]) (hb : P.underlying tb = some .bool) (hbelow : Below W.heap.size W W') (hfz : ∀ a, W'.frozen? a = W.frozen? a) : s.post enc P f false true false false W args (.bool true) W' := by
  have hlt := hW.lt
  have hW' := hW
  obtain ⟨p, q, hA, hV, rfl, _, _⟩ := hW
  rw [hvars] at hV
  obtain ⟨rfl, rfl⟩ := trodVars_none hV
  simp only [List.append_nil] at hW' hlt
  have hfn' : s.fn H (ds ++ []) = { results := [.lit (.bool true)], args := ds } := by rw [List.append_nil]; exact hfn
  refine post_of_same (pa := p) (pv := []) hW' (fun b sp hd => ?_) (fun sp hsp => ?_) (fun sp _ => ?_) (by simp) (hbelow.frame _) hfz (ok_one hres rfl (okWide_bool_mk hb _))
  · rw [hfn', hres]
    exact trodAll_mk1 (shut_bool hb _)
  · rw [hfn']
    exact stays_all hl hbelow hpar hA (fun x hx => by simpa using hlt x hx) fun x hx => hsp x (by simpa using hx)
  · rw [hfn', hvars]
    rfl
end

/-- A CALL, AS A ROW WANTS IT. -/
theorem calls_of' {P : Program} {E : Env} (hmix : P.follows .mixedOrders = true) (hE : ∀ f fn, E.fn f = some fn → FnOk P f fn) (hS : SpOk P E) {W : World} {f : Nat} {args : Array Value} {as : List AV} {b : Bool} {h' : Heap}
    (hg : GlobOk E (St.at W)) (ha : All2 (RC (St.at W)) as args.toList) (hc : callF E f as [] = some (.bool b, h')) :
    Calls P f args W fun e w' => e = .returned (.bool b) ∧ Below W.heap.size W w' ∧ ∀ a, w'.frozen? a = W.frozen? a := by
  obtain ⟨n, hn⟩ := callF_iff.1 hc
  obtain ⟨fn, _, _, hcalls⟩ := call_ok hmix hE hS n f as [] _ _ hn
  refine (hcalls (St.at W) args rfl (good_at W) hg ha).mono fun e w' hr => ?_
  obtain ⟨S', u, rfl, rfl, _, hst, _, hv⟩ := hr
  have hu : u = .bool b := hv
  subst hu
  exact ⟨rfl, ⟨hst.os.1, hst.os.2.2, hst.os.2.1, hst.size, fun k hk => hst.keep k hk fun o ho => by rw [own_at] at ho; cases ho⟩, hst.froz⟩

/-- THE CONTRACT OF A LAW. -/
theorem law_contract {P : Program} {E : Env} (hmix : P.follows .mixedOrders = true) (hE : ∀ f fn, E.fn f = some fn → FnOk P f fn) (hS : SpOk P E) (hl : laidOutB P = true) {f : Nat} {fn : Func} {s : ChangeSpec} {tb : TypeId} {n : Nat}
    (hpar : (fn.params.toList.all fun t => P.readableRec t && decide (t < P.types.size)) = true) (hres : fn.resultTypes = #[tb]) (hb : P.underlying tb = some .bool) (hvars : s.vars = [])
    {H : Type} {enc : TypeId × Value → H} {W : World} {base : Nat} {args : Array Value} {ds gs : List (DataW H)} {before : List MemPlace}
    (hval : ∀ (j : Nat) t v, fn.params[j]? = some t → args[j]? = some v → Value.okWide P W .any base t v) (hW : DataW.Whole enc P fn.params.toList s.vars false W args.toList ds gs before) (hg : GlobOk E (St.at W))
    (hfn : s.fn H ds = { results := [.lit (.bool true)], args := ds }) {xs : List AV} (hx : davs P n fn.params.toList ds = some xs) {h' : Heap} (hc : callF E f xs [] = some (.bool true, h')) :
    Calls P f args W fun e W' => ∃ v, e = .returned v ∧ s.post enc P fn false true false false W args v W' := by
  have ha : All2 (RC (St.at W)) xs args.toList := by
    obtain ⟨p, q, hA, _⟩ := hW
    exact args_rc (fun j t v ht hv => hval j t v (by rw [← Array.getElem?_toList]; exact ht) (by rw [← Array.getElem?_toList]; exact hv)) hA hx
  refine (calls_of' hmix hE hS hg ha hc).mono fun e W' ⟨he, hbel, hfz⟩ => ?_
  exact ⟨_, he, post_law hvars hW hfn hl hpar hres hb hbel hfz⟩

/-! ### package-level variables -/
theorem glob_of_laid {P : Program} {W : World} {name : String} {d : DataW Unit} {rest : List (String × DataW Unit)} {g n : Nat} {t : TypeId} {xs : List AV} (hg : P.globalNamed name = some g) (hty : (P.globals[g]?).map (·.type) = some t)
    (hd : dlv P n t d = some xs) (h : laidMet P ((name, d) :: rest) W) : ∃ vs, RPs W (fun _ _ => False) xs vs ∧ Imm W (fun _ _ => False) g 0 vs := by
  obtain ⟨ps, ⟨g', t', cs, fuel, p, q, hg', ht', hvar, htr, _, _⟩, _⟩ := h
  obtain rfl := Option.some.inj (hg.symm.trans hg')
  obtain rfl := Option.some.inj (hty.symm.trans ht')
  refine ⟨cs.toList, trod_rps n fuel t _ _ xs htr hd, imm_at fun j v hj => ?_⟩
  rw [Nat.zero_add, World.var?_cell hg hvar j, ← Array.getElem?_toList]
  exact hj
end Ab
