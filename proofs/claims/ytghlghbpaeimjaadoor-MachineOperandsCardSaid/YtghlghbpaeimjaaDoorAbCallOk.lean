/- Calls. -/
import Derived.Test.YtghlghbpaeimjaaDoorAbCodeOk
namespace Ab
open Go

/-! ### what is forgotten when a function is left -/
def St.cut (S : St) (k : Nat) : St := { S with H := S.H.take k }

/-- a leaf that names objects below k alone -/
def lowK (k : Nat) : AV → Prop
  | .sl (.tok o) _ => o < k
  | .ptr o _ | .arr o _ _ => o < k
  | _ => True
def lowL (k : Nat) : AV → Prop
  | .fn _ xs => ∀ x ∈ xs, lowK k x
  | v => lowK k v

theorem cut_at {S : St} {k o : Nat} (h : o < k) : (S.cut k).H[o]? = S.H[o]? := by
  show (S.H.take k)[o]? = _
  rw [List.getElem?_take, if_pos h]
theorem cut_none {S : St} {k o : Nat} (h : k ≤ o) : (S.cut k).H[o]? = none := by
  show (S.H.take k)[o]? = _
  rw [List.getElem?_take, if_neg (by omega)]
theorem RK.low {S : St} {x : AV} {u : Value} (h : RK S x u) : lowK S.H.length x := by
  cases x with
  | sl c xs =>
    cases c with
    | tok o => obtain ⟨sz, n, ho, _⟩ := h.2; exact lt_of_some ho
    | _ => trivial
  | ptr o off => obtain ⟨⟨ys, hy⟩, _⟩ := h; exact lt_of_some hy
  | arr o off len => obtain ⟨⟨ys, hy⟩, _⟩ := h; exact lt_of_some hy
  | _ => trivial
theorem RKs.low {S : St} : ∀ {xs : List AV} {us : List Value}, All2 (RK S) xs us → ∀ x ∈ xs, lowK S.H.length x
  | _, _, .nil, x, h => by cases h
  | _, _, .cons h hs, x, hx => by
    cases hx with
    | head => exact h.low
    | tail _ hx => exact RKs.low hs x hx
theorem RL.low {S : St} {x : AV} {u : Value} (h : RL S x u) : lowL S.H.length x := by
  cases x with
  | fn f xs => obtain ⟨vs, _, hs, _⟩ := h; exact RKs.low hs
  | _ => exact RK.low (u := u) (by rw [RL.eq_RK (by intro _ _ h; cases h)] at h; exact h)
theorem below_low {k : Nat} {x : AV} (h : below k x = true) : lowL k x := by
  cases x with
  | sl c xs => cases c <;> first | trivial | (simp only [below, decide_eq_true_eq] at h; exact h)
  | ptr o off => simp only [below, decide_eq_true_eq] at h; exact h
  | arr o off len => simp only [below, decide_eq_true_eq] at h; exact h
  | fn f xs =>
    have : xs = [] := by simpa [below] using h
    subst this
    intro x hx; cases hx
  | _ => trivial
theorem free_low {k : Nat} {x : AV} (h : free x = true) : lowL k x := by
  cases x with
  | sl c xs => cases c <;> first | trivial | (simp only [free, below, decide_eq_true_eq] at h; exact absurd h (Nat.not_lt_zero _))
  | ptr o off => simp only [free, below, decide_eq_true_eq] at h; exact absurd h (Nat.not_lt_zero _)
  | arr o off len => simp only [free, below, decide_eq_true_eq] at h; exact absurd h (Nat.not_lt_zero _)
  | fn f xs =>
    have : xs = [] := by simpa [free, below] using h
    subst this
    intro x hx; cases hx
  | _ => trivial
theorem RK.cut {S : St} {k : Nat} {x : AV} {u : Value} (h : RK S x u) (hl : lowK k x) : RK (S.cut k) x u := by
  cases x with
  | sl c xs =>
    refine ⟨h.1, ?_⟩
    have h2 := h.2
    cases c with
    | none => trivial
    | full => exact h2
    | tok o =>
      obtain ⟨sz, n, ho, hr⟩ := h2
      exact ⟨sz, n, by rw [cut_at hl]; exact ho, hr⟩
  | ptr o off =>
    obtain ⟨⟨ys, hy⟩, hr⟩ := h
    exact ⟨⟨ys, by rw [cut_at hl]; exact hy⟩, hr⟩
  | arr o off len =>
    obtain ⟨⟨ys, hy⟩, hr⟩ := h
    exact ⟨⟨ys, by rw [cut_at hl]; exact hy⟩, hr⟩
  | _ => exact h
theorem RKs.cut {S : St} {k : Nat} : ∀ {xs : List AV} {us : List Value}, All2 (RK S) xs us → (∀ x ∈ xs, lowK k x) → All2 (RK (S.cut k)) xs us
  | _, _, .nil, _ => .nil
  | _, _, .cons h hs, hl => .cons (h.cut (hl _ (by simp))) (RKs.cut hs fun x hx => hl x (by simp [hx]))
theorem RL.cut {S : St} {k : Nat} {x : AV} {u : Value} (h : RL S x u) (hl : lowL k x) : RL (S.cut k) x u := by
  cases x with
  | fn f xs => obtain ⟨vs, h1, hs, h2⟩ := h; exact ⟨vs, h1, RKs.cut hs hl, h2⟩
  | _ =>
    rw [RL.eq_RK (by intro _ _ h; cases h)] at h ⊢
    exact RK.cut h hl
theorem RLs.cut {S : St} {k : Nat} : ∀ {xs : List AV} {us : List Value}, All2 (RL S) xs us → (∀ x ∈ xs, lowL k x) → All2 (RL (S.cut k)) xs us
  | _, _, .nil, _ => .nil
  | _, _, .cons h hs, hl => .cons (h.cut (hl _ (by simp))) (RLs.cut hs fun x hx => hl x (by simp [hx]))
theorem RC.cut {S : St} {k : Nat} {x : AV} {u : Value} (h : RC S x u) (hl : okRes k x = true) : RC (S.cut k) x u := by
  cases x with
  | agg xs =>
    obtain ⟨us, h1, hs, h2⟩ := h
    refine ⟨us, h1, RLs.cut hs fun x hx => ?_, h2⟩
    have : xs.all (below k) = true := hl
    exact below_low (List.all_eq_true.1 this x hx)
  | fn f xs => exact RL.cut (x := .fn f xs) h (below_low hl)
  | sl c xs => exact RK.cut (x := .sl c xs) h (below_low (x := .sl c xs) hl)
  | ptr o off => exact RK.cut (x := .ptr o off) h (below_low (x := .ptr o off) hl)
  | arr o off len => exact RK.cut (x := .arr o off len) h (below_low (x := .arr o off len) hl)
  | _ => exact h
theorem own_cut {S : St} {k o b : Nat} (h : own (S.cut k) o = some b) : own S o = some b ∧ o < k := by
  rcases Nat.lt_or_ge o k with hl | hl
  · unfold own at h ⊢
    rw [cut_at hl] at h
    exact ⟨h, hl⟩
  · unfold own at h
    rw [cut_none hl] at h
    cases h
theorem own_cut_of {S : St} {k o b : Nat} (h : own S o = some b) (hl : o < k) : own (S.cut k) o = some b := by
  unfold own at h ⊢
  rw [cut_at hl]
  exact h
theorem step_cut {k : Nat} {g : Bool} {S S' : St} (e : Step k g S S') (hk : S.H.length = k) : Step k g S (S'.cut k) where
  wext := e.wext
  cells := fun o ys h => by rw [cut_at (by rw [← hk]; exact lt_of_some h)]; exact e.cells o ys h
  frs := fun o sz n h => by rw [cut_at (by rw [← hk]; exact lt_of_some h)]; exact e.frs o sz n h
  size := e.size
  keep := e.keep
  owns := fun o b h => e.owns o b (own_cut h).1
  os := e.os
  froz := e.froz
  muts := e.muts
  len := by
    have := e.len
    show S.H.length ≤ (S'.H.take k).length
    rw [List.length_take]; omega
  pend := fun o ho hm => by rw [cut_at ho]; exact e.pend o ho hm
  low := fun hg o ho ys h => e.low hg o ho ys (by rw [← cut_at ho]; exact h)
theorem good_cut {k : Nat} {S S' : St} (e : Step k false S S') (hk : S.H.length = k) (hG : Good S) (hG' : Good S') : Good (S'.cut k) where
  objs := fun o => by
    rcases Nat.lt_or_ge o k with hl | hl
    · have h := hG'.objs o
      unfold ObjOk at h ⊢
      rw [cut_at hl]
      show (match S'.H[o]?, S'.m o with
        | some (.cells xs), .blk b => ∃ (vs : Array Value) (t : TypeId), S'.w.heap[b]? = some (.cells vs t (0, 0)) ∧ All2 (RL (S'.cut k)) xs vs.toList ∧ xs.all isLf = true ∧ ∀ off, off < vs.size → S'.M b off
        | some (.fr sz n), .hdr a cap => 0 < sz ∧ n ≤ cap ∧ (n < cap → ∃ b off, a = some ⟨b, off, none⟩ ∧ ∃ (vs : Array Value) (t : TypeId), S'.w.heap[b]? = some (.cells vs t (0, 0)) ∧
            off + cap * sz ≤ vs.size ∧ ∀ j, n * sz ≤ j → j < cap * sz → S'.M b (off + j))
        | some (.fr _ _), _ => False
        | some (.cells _), .hdr _ _ => False
        | some (.mp _), _ => False
        | _, _ => True)
      cases hob : S'.H[o]? with
      | none => trivial
      | some ob =>
        rw [hob] at h
        cases ob with
        | dead => trivial
        | mp es => exact h
        | fr sz n => cases hm : S'.m o with
          | hdr a cap => rw [hm] at h; exact h
          | _ => rw [hm] at h; exact h
        | cells xs =>
          cases hm : S'.m o with
          | non => trivial
          | hdr a cap => rw [hm] at h; exact h.elim
          | blk b =>
            rw [hm] at h
            obtain ⟨vs, t, hb, hs, hlf, hM⟩ := h
            refine ⟨vs, t, hb, RLs.cut hs fun x hx => ?_, hlf, hM⟩
            rcases e.low rfl o hl xs hob x hx with hf | ⟨ys, hys, hx'⟩
            · exact free_low hf
            · have h0 := hG.objs o
              unfold ObjOk at h0
              rw [hys] at h0
              cases hm0 : S.m o with
              | non =>
                have := (e.pend o hl hm0).1
                rw [hm] at this; cases this
              | hdr a cap => rw [hm0] at h0; exact h0.elim
              | blk b0 =>
                rw [hm0] at h0
                obtain ⟨vs0, t0, _, hs0, _, _⟩ := h0
                obtain ⟨i, hi⟩ := List.mem_iff_getElem?.1 hx'
                obtain ⟨u, _, hu⟩ := hs0.get i x hi
                rw [← hk]
                exact hu.low
    · unfold ObjOk
      rw [cut_none hl]
      trivial
  disj := fun o o' b h1 h2 => hG'.disj o o' b (own_cut h1).1 (own_cut h2).1
  there := fun o b h1 => hG'.there o b (own_cut h1).1

/-! ### results -/
section
variable {P : Program}

theorem ld_cell {S : St} {t : TypeId} {agg : Bool} {n : Nat} (ha : aggT P t = some agg) (hn : agg = true → szOf P t = some n) (hG : Good S) {o off : Nat} {u : Value} {xs : List AV} {v : AV}
    (hx : RV S (.ptr o off) u) (hy : S.H[o]? = some (.cells xs)) (hlen : ((xs.drop off).take n).length = n) (hv : mkAgg agg ((xs.drop off).take n) = some v) :
    ∃ u', (do loadVar t (← asAddr u) : Sem Value).run P S.w = .ok u' S.w ∧ RV S v u' := by
  obtain ⟨⟨ys, _⟩, b, hm, rfl⟩ := rv_ptr rfl hx
  have hobj := hG.objs o
  unfold ObjOk at hobj
  rw [hy, hm] at hobj
  obtain ⟨vs, t', hb, hs, hl, _⟩ := hobj
  have hs' := (hs.drop off).take n
  have hl' := hs'.length
  have hcs : ∀ (j : Nat) v, ((vs.toList.drop off).take n)[j]? = some v → S.w.cell? ⟨b, off + j, none⟩ = some v := by
    intro j v hj
    rw [cell_of_heap hb]
    rw [List.getElem?_take] at hj
    split at hj
    · rw [List.getElem?_drop, Array.getElem?_toList] at hj; exact hj
    · cases hj
  have hr := run_loadVar_cells (P := P) (w := S.w) ha (fun h => by rw [← hl', hlen]; exact hn h) hcs
  rcases mkAgg_ok hv hs' (all_take (all_drop hl _) _) with ⟨rfl, hrv⟩ | ⟨rfl, u, hu1, hrv⟩
  · exact ⟨_, by simp [asAddr, hr.1 rfl], hrv⟩
  · exact ⟨u, by simp [asAddr, hr.2 u rfl hu1], hrv⟩

def resM (tmps : Array Value) : ResultVar → Sem Value
  | .tmp t => pure (tmps.getD t undef)
  | .cell a t => do loadVar t (← asAddr (tmps.getD a undef))

theorem RC.of_RV {S : St} {x : AV} {u : Value} (h : RV S x u) (hn : ∀ xs, x ≠ .tup xs) : RC S x u := by
  rwa [RV.eq_RC hn] at h
theorem mkAgg_tup {agg : Bool} {xs : List AV} {v : AV} (h : mkAgg agg xs = some v) (hl : xs.all isLf = true) : ∀ ys, v ≠ .tup ys := by
  intro ys hv
  subst hv
  unfold mkAgg at h
  split at h
  · cases h
  · split at h
    · cases h; simp [isLf] at hl
    · cases h

theorem res_ok {S : St} {s : Slots} {a : Act} (hG : Good S) (hs : SlotsOk S s a) : ∀ (rs : List ResultVar) (ars : List AR) (vs : List AV), resS P rs = some ars → resOf s S.H ars = some vs →
    ∃ us, (rs.mapM (resM a.tmps)).run P S.w = .ok us S.w ∧ All2 (RC S) vs us
  | [], ars, vs, h1, h2 => by
    cases h1; cases h2
    exact ⟨[], by simp, .nil⟩
  | .tmp t :: rs, ars, vs, h1, h2 => by
    simp only [resS] at h1
    split at h1
    · rename_i ars' h1'
      cases h1
      simp only [resOf] at h2
      split at h2
      · cases h2
      · rename_i hnt
        split at h2
        · rename_i vs' h2'
          cases h2
          obtain ⟨us, hr, hall⟩ := res_ok hG hs rs ars' vs' h1' h2'
          refine ⟨a.tmps.getD t undef :: us, ?_, .cons (.of_RV (hs t) fun xs hx => hnt xs hx) hall⟩
          rw [List.mapM_cons]
          simp [resM, hr]
        · cases h2
    · cases h1
  | .cell n t :: rs, ars, vs, h1, h2 => by
    have main : ∀ agg k ars', aggT P t = some agg → (agg = true → szOf P t = some k) → resS P rs = some ars' → resOf s S.H (.cell n agg k :: ars') = some vs →
        ∃ us, ((ResultVar.cell n t :: rs).mapM (resM a.tmps)).run P S.w = .ok us S.w ∧ All2 (RC S) vs us := by
      intro agg k ars' ha hk h1' h2
      simp only [resOf] at h2
      split at h2
      · rename_i o off vs' hp h2'
        split at h2
        · rename_i xs hxs
          split at h2
          · rename_i hlen
            split at h2
            · rename_i v hv
              cases h2
              obtain ⟨us, hr, hall⟩ := res_ok hG hs rs ars' vs' h1' h2'
              have hsn := hs n
              rw [hp] at hsn
              obtain ⟨u', hu', hrv⟩ := ld_cell ha hk hG hsn hxs hlen hv
              refine ⟨u' :: us, ?_, .cons (.of_RV hrv (mkAgg_tup hv ?_)) hall⟩
              · rw [List.mapM_cons]
                have : (resM a.tmps (.cell n t)).run P S.w = .ok u' S.w := hu'
                simp [this, hr]
              · obtain ⟨_, b, hm, _⟩ := rv_ptr rfl hsn
                have hobj := hG.objs o
                unfold ObjOk at hobj
                rw [hxs, hm] at hobj
                obtain ⟨_, _, _, _, hl, _⟩ := hobj
                exact all_take (all_drop hl _) _
            · cases h2
          · cases h2
        · cases h2
      · cases h2
    simp only [resS] at h1
    split at h1
    · rename_i n' rs' ha hk h1'
      cases h1
      exact main true n' rs' ha (fun _ => hk) h1' h2
    · rename_i rs' ha h1'
      cases h1
      exact main false 1 rs' ha (fun h => by cases h) h1' h2
    · cases h1

theorem one_ok {S : St} {vs : List AV} {us : List Value} (h : All2 (RC S) vs us) : RV S (one vs) (if h : us.toArray.size = 1 then us.toArray[0] else .tuple us.toArray) := by
  cases h with
  | nil => exact ⟨#[], rfl, .nil⟩
  | cons h hs =>
    cases hs with
    | nil => exact RV.of_RC h
    | cons h' hs' => exact ⟨_, rfl, .cons h (.cons h' hs')⟩

theorem results_ok {S : St} {s : Slots} {a : Act} (hG : Good S) (hs : SlotsOk S s a) {fn : Func} {ars : List AR} {vs : List AV} (h1 : resS P fn.results.toList = some ars) (h2 : resOf s S.H ars = some vs) :
    ∃ us, All2 (RC S) vs us ∧ (results fn a.tmps).run P S.w = .ok (if h : us.toArray.size = 1 then us.toArray[0] else .tuple us.toArray) S.w := by
  obtain ⟨us, hr, hall⟩ := res_ok (P := P) hG hs fn.results.toList ars vs h1 h2
  refine ⟨us, hall, ?_⟩
  have : (fn.results.mapM (resM a.tmps)).run P S.w = .ok us.toArray S.w := by
    rw [Array.mapM_eq_mapM_toList]
    simp [hr]
  unfold results
  show ((fn.results.mapM (resM a.tmps)) >>= fun vs => pure (if h : vs.size = 1 then vs[0] else .tuple vs) : Sem Value).run P S.w = _
  simp only [Sem.run_bind, this]
  rfl

/-! ### a function -/
structure FnOk (P : Program) (f : Nat) (fn : AFn) : Prop where
  pf : ∃ (pf : Func) (cc : Code) (mt : Nat → Nat → Bool), P.funcs[f]? = some pf ∧ pf.body = some cc ∧ (pf.name == "runtime.NumGoroutine") = false ∧ codeS P mt cc = some (erase fn.code) ∧ dstsBelow pf.ntmps cc = true ∧
    fn.np ≤ pf.ntmps ∧ resS P pf.results.toList = some fn.res

theorem get_params : ∀ (as : List AV) (i t : Nat), get (params i as) t = if i ≤ t then (as[t - i]?).getD .no else .no
  | [], i, t => by simp [params, get]
  | v :: as, i, t => by
    show (if t = i then v else get (params (i + 1) as) t) = _
    rw [get_params as (i + 1) t]
    by_cases h : t = i
    · subst h; simp
    · rw [if_neg h]
      by_cases h1 : i ≤ t
      · rw [if_pos (by omega), if_pos h1, show t - i = (t - (i + 1)) + 1 by omega, List.getElem?_cons_succ]
      · rw [if_neg (by omega), if_neg h1]

theorem params_ok {S : St} {as : List AV} {args : Array Value} {n : Nat} (h : All2 (RC S) as args.toList) : SlotsOk S (params 0 as) { tmps := args ++ Array.replicate (n - args.size) undef, defers := [] } := by
  intro t
  rw [get_params, if_pos (Nat.zero_le _), Nat.sub_zero]
  cases ht : as[t]? with
  | none => trivial
  | some x =>
    obtain ⟨u, hu, hr⟩ := h.get t x ht
    rw [Array.getElem?_toList] at hu
    have hlt := lt_of_someA hu
    have : (args ++ Array.replicate (n - args.size) undef).getD t undef = u := by
      rw [Array.getD_eq_getD_getElem?, Array.getElem?_append_left hlt, hu]
      rfl
    show RV S x ((args ++ Array.replicate (n - args.size) undef).getD t undef)
    rw [this]
    exact RV.of_RC hr

theorem arg_tup {v : AV} (h : ∀ xs, v ≠ .tup xs) : ∀ xs, arg v ≠ .tup xs := by
  intro xs
  cases v <;> simp [arg, argL]
  exact absurd rfl (h _)
theorem args_ok {S : St} : ∀ {vs : List AV} {us : List Value}, All2 (RC S) vs us → All2 (RC S) (vs.map arg) us
  | _, _, .nil => .nil
  | _, _, .cons h hs => .cons (by
      rename_i x _ _ _
      cases x with
      | tup xs => exact absurd h (fun h => h.elim)
      | _ => exact arg_ok (RV.of_RC h) (fun _ => by simp)) (args_ok hs)
theorem RCs.cut {S : St} {k : Nat} : ∀ {vs : List AV} {us : List Value}, All2 (RC S) vs us → vs.all (okRes k) = true → All2 (RC (S.cut k)) vs us
  | _, _, .nil, _ => .nil
  | _, _, .cons h hs, hl => by
    simp only [List.all_cons, Bool.and_eq_true] at hl
    exact .cons (h.cut hl.1) (RCs.cut hs hl.2)

/-- the contracts that an environment holds -/
def SpOk (P : Program) (E : Env) : Prop := ∀ f sp, E.sp f = some sp → ∀ as h v h', sp as h = some (v, h') → Cok P E f as h v h'
theorem call_ok (hmix : P.follows .mixedOrders = true) {E : Env} (hE : ∀ f fn, E.fn f = some fn → FnOk P f fn) (hS : SpOk P E) : ∀ n, CfOk P E (call E n)
  | 0 => fun f as h v h' hc => by simp only [call] at hc; cases hc
  | n + 1 => fun f as h v h' hc => by
    have ih := call_ok hmix hE hS n
    simp only [call] at hc
    split at hc
    · rename_i sp hsp
      exact hS f sp hsp as h v h' hc
    rename_i hsp
    split at hc
    · cases hc
    · rename_i fn hfn
      obtain ⟨pf, cc, mt, hpf, hbody, hname, hcode, hdst, hnp, hres⟩ := (hE f fn hfn).pf
      refine ⟨fn, hfn, fun args w => ?_, fun S args hH hG hgl hargs => ?_⟩
      · have h1 : pf.name ≠ "runtime.NumGoroutine" := by simpa using hname
        simp [callFunc, hpf, h1, hbody]
      · split at hc
        · rename_i hlen
          split at hc
          · cases hc
          · rename_i e s h1 hne hrun
            split at hc
            · rename_i vs hvs
              have hsz : args.size = fn.np := by rw [← hlen]; have := hargs.length; simpa using this.symm
              refine calls_of_wp hpf hbody ?_
              have hsim : Sim E h.length fn.grow pf.ntmps S S (params 0 as) h { tmps := args ++ Array.replicate (pf.ntmps - args.size) undef, defers := [] } :=
                ⟨hH, hG, hgl, params_ok hargs, by simp; omega, rfl, Nat.le_refl _, .refl _ _ _⟩
              refine (code_wp hmix ih n).1 fn.code cc _ _ s h h1 S _ e hcode hdst hrun hsim fun S' a' m => ?_
              have hend : a'.defers = [] ∧ ∃ v', (results pf a'.tmps).run P S'.w = .ok v' S'.w ∧ ∃ S'' u, Ending.returned v' = .returned u ∧ S''.w = S'.w ∧ S''.H = h' ∧ Step h.length fn.grow S S'' ∧ Good S'' ∧ RV S'' v u := by
                refine ⟨m.defers, ?_⟩
                have hH' := m.heap
                subst hH'
                obtain ⟨us, hall, hr⟩ := results_ok (P := P) m.good m.slots hres hvs
                refine ⟨_, hr, ?_⟩
                unfold finish at hc
                split at hc
                · rename_i hg
                  cases hc
                  exact ⟨S', _, rfl, rfl, rfl, m.step, m.good, one_ok hall⟩
                · rename_i hg
                  simp only at hc
                  split at hc
                  · rename_i hok
                    cases hc
                    have hg' : fn.grow = false := by simpa using hg
                    have hst := m.step
                    rw [hg'] at hst
                    subst hH
                    refine ⟨S'.cut S.H.length, _, rfl, rfl, rfl, step_cut m.step rfl, good_cut hst rfl hG m.good, one_ok (RCs.cut (args_ok hall) hok)⟩
                  · cases hc
              cases e with
              | exit id => exact absurd rfl (hne id)
              | nrm => exact hend
              | ret => exact hend
            · cases hc
          · cases hc
        · cases hc
end
end Ab
