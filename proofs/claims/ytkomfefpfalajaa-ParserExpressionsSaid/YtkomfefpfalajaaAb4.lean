/- The framework, part 4: CodeOk, CallOk, View, Eval, Cut. -/
import Derived.Test.YtkomfefpfalajaaAb3
import Derived.LoopN
/- Code, in the model's weakest-precondition form. -/
namespace Ab
open Go

theorem regS_inv {P : Program} {mt : Nat → Bool} {ops : Array Oper} {draw : Bool} {x : AC} (h : regS P mt ops draw = some x) :
    ∃ aos dr, opsS P mt ops 0 0 ops.toList = some aos ∧ x = .reg none (aos.filterMap fun o => resv o.op) aos dr ∧ ((draw = false ∧ dr = none) ∨ ∃ d, draw = true ∧ dr = some d ∧ drawS ops aos = some d) := by
  unfold regS at h
  split at h
  · cases h
  · rename_i aos haos
    split at h
    · rename_i hd
      split at h
      · rename_i d hdd
        cases h
        exact ⟨aos, some d, haos, rfl, .inr ⟨d, hd, rfl, hdd⟩⟩
      · cases h
    · rename_i hd
      cases h
      exact ⟨aos, none, haos, rfl, .inl ⟨by simpa using hd, rfl⟩⟩

def CodeInv (P : Program) (mt : Nat → Nat → Bool) (cc : Code) : AC → Prop
  | .skip => cc = .skip
  | .reg L pre ops dr => ∃ id os draw, cc = .region id os draw ∧ regS P (mt id) os draw = some (.reg L pre ops dr)
  | .seq a b => ∃ x y, cc = .seq x y ∧ codeS P mt x = some a ∧ codeS P mt y = some b
  | .cond c a b => ∃ c' x y, cc = .cond c' x y ∧ c = opd c' ∧ codeS P mt x = some a ∧ codeS P mt y = some b
  | .block L id b => ∃ y, cc = .block id y ∧ L = none ∧ codeS P mt y = some b
  | .loop L b => ∃ y, cc = .loop y ∧ L = none ∧ codeS P mt y = some b
  | .exit id => cc = .exit id
  | .ret => cc = .ret

theorem codeS_inv {P : Program} {mt : Nat → Nat → Bool} {cc : Code} {x : AC} (h : codeS P mt cc = some x) : CodeInv P mt cc x := by
  cases cc <;> simp only [codeS] at h
  case region id ops draw =>
    obtain ⟨aos, dr, h1, rfl, h2⟩ := regS_inv h
    exact ⟨_, _, _, rfl, h⟩
  case skip => cases h; rfl
  case exit => cases h; rfl
  case ret => cases h; rfl
  case seq a b =>
    split at h
    · rename_i x y hx hy; cases h; exact ⟨_, _, rfl, hx, hy⟩
    · cases h
  case cond c a b =>
    split at h
    · rename_i x y hx hy; cases h; exact ⟨_, _, _, rfl, rfl, hx, hy⟩
    · cases h
  case block id b =>
    split at h
    · rename_i x hx; cases h; exact ⟨_, rfl, rfl, hx⟩
    · cases h
  case loop b =>
    split at h
    · rename_i x hx; cases h; exact ⟨_, rfl, rfl, hx⟩
    · cases h
  all_goals cases h

theorem get_map (s : Slots) (x : Nat) : ∀ L : List Nat, get (L.map fun t => (t, get s t)) x = if x ∈ L then get s x else .no
  | [] => rfl
  | y :: L => by
    show (if x = y then get s y else get (L.map fun t => (t, get s t)) x) = _
    rw [get_map s x L]
    by_cases h : x = y
    · subst h; simp
    · simp [h]
theorem SlotsOk.clear {S : St} {s : Slots} {a : Act} (h : SlotsOk S s a) (L : Option (List Nat)) : SlotsOk S (clearO L s) a := by
  cases L with
  | none => exact h
  | some L =>
    intro t
    show RV S (get (L.map fun t => (t, get s t)) t) _
    rw [get_map]
    split
    · exact h t
    · trivial
theorem Sim.clear {E : Env} {n0 nt : Nat} {g : Bool} {S0 S : St} {s : Slots} {h : Heap} {a : Act} (m : Sim E n0 g nt S0 S s h a) (L : Option (List Nat)) : Sim E n0 g nt S0 S (clearO L s) h a :=
  { m with slots := m.slots.clear L }

/-- where a region begins: places for its own objects -/
def St.room (S : St) (pre : List Ob) : St := { S with H := S.H ++ pre, m := fun p => if p < S.H.length then S.m p else .non }
theorem room_at {S : St} {pre : List Ob} {o : Nat} (h : o < S.H.length) : (S.room pre).H[o]? = S.H[o]? ∧ (S.room pre).m o = S.m o := by
  refine ⟨?_, ?_⟩
  · show (S.H ++ pre)[o]? = _
    rw [List.getElem?_append_left h]
  · show (if o < S.H.length then S.m o else .non) = _
    rw [if_pos h]
theorem room_m {S : St} {pre : List Ob} {o : Nat} (h : S.H.length ≤ o) : (S.room pre).m o = .non := by
  show (if o < S.H.length then S.m o else .non) = _
  rw [if_neg (by omega)]
theorem own_room {S : St} {pre : List Ob} {o b : Nat} (h : own (S.room pre) o = some b) : own S o = some b ∧ o < S.H.length := by
  rcases Nat.lt_or_ge o S.H.length with hl | hl
  · unfold own at h ⊢
    rw [(room_at hl).1, (room_at hl).2] at h
    exact ⟨h, hl⟩
  · rw [own_non (room_m hl)] at h
    cases h
theorem step_room (n0 : Nat) (g : Bool) {S : St} {pre : List Ob} (hn : n0 ≤ S.H.length) : Step n0 g S (S.room pre) where
  wext := .refl _ _
  cells := fun o ys h => by
    have hl := lt_of_some h
    rw [(room_at hl).1, (room_at hl).2]
    exact ⟨fun _ => rfl, ys, h, rfl⟩
  frs := fun o sz n h => by
    have hl := lt_of_some h
    rw [(room_at hl).1, (room_at hl).2]
    exact ⟨n, h, Nat.le_refl _, fun _ => rfl⟩
  size := Nat.le_refl _
  keep := fun _ _ _ => rfl
  owns := fun o b h => .inl ⟨o, (own_room h).1⟩
  os := ⟨rfl, rfl, rfl⟩
  froz := fun _ => rfl
  muts := fun _ _ _ _ h => h
  len := by show S.H.length ≤ (S.H ++ pre).length; simp
  pend := fun o ho hm => by
    have hl : o < S.H.length := by omega
    rw [(room_at hl).1, (room_at hl).2]
    exact ⟨hm, rfl⟩
  low := fun _ o ho ys h x hx => .inr ⟨ys, by rw [← (room_at (show o < S.H.length by omega)).1]; exact h, hx⟩
theorem good_room {S : St} (h : Good S) {pre : List Ob} (hp : ∀ ob ∈ pre, ob = .dead ∨ ∃ xs, ob = .cells xs) : Good (S.room pre) where
  objs := fun o => by
    rcases Nat.lt_or_ge o S.H.length with hl | hl
    · exact (h.objs o).of_step (step_room 0 true (Nat.zero_le _)) (room_at hl).1 (room_at hl).2 (fun _ _ => rfl) fun _ _ _ h => h
    · unfold ObjOk
      rw [room_m hl]
      cases ho : (S.room pre).H[o]? with
      | none => trivial
      | some ob =>
        have : ob ∈ pre := by
          have : (S.H ++ pre)[o]? = some ob := ho
          rw [List.getElem?_append_right hl] at this
          exact List.mem_of_getElem? this
        rcases hp ob this with rfl | ⟨xs, rfl⟩ <;> trivial
  disj := fun o o' b h1 h2 => h.disj o o' b (own_room h1).1 (own_room h2).1
  there := fun o b h1 => h.there o b (own_room h1).1
theorem resv_kind {ao : AOp} {ob : Ob} (h : resv ao = some ob) : ob = .dead ∨ ∃ xs, ob = .cells xs := by
  cases ao <;> simp only [resv, reduceCtorEq, Option.some.injEq] at h <;> first | exact .inl h.symm | exact .inr ⟨_, h.symm⟩

def Ext.toExit : Ext → Exit
  | .nrm => .normal
  | .exit id => .exit id
  | .ret => .ret

section
variable {P : Program} {E : Env} {cf : CallF}

theorem opsTrace_len {n0 base : Nat} {g : Bool} : ∀ (aos : List AOper) (s : Slots) (h : Heap), (opsTrace E cf n0 g base aos s h).length ≤ aos.length + 1
  | [], _, _ => by simp [opsTrace]
  | o :: aos, s, h => by
    simp only [opsTrace, List.length_cons]
    split
    · split
      · rename_i v h' _
        have := opsTrace_len (n0 := n0) (base := base) (g := g) aos (put s o.dst v) h'
        omega
      · simp
    · have := opsTrace_len (n0 := n0) (base := base) (g := g) aos (put s o.dst (.tup [])) h
      omega
theorem not_lst0 {n j : Nat} : ¬ Lst (Array.replicate n false) j := by
  unfold Lst
  rw [Array.getElem?_replicate]
  split <;> simp

theorem reg_wp (hmix : P.follows .mixedOrders = true) (hcf : CfOk P E cf) {n0 nt : Nat} {g : Bool} {S0 S : St} {Q : Exit → Act → World → Prop} {mt : Nat → Nat → Bool} {id : Nat} {ops : Array Oper} {draw : Bool} {aos : List AOper} {L : Option (List Nat)} {dr : Option (List (Nat × List Nat))} {s s' : Slots} {h h' : Heap} {a : Act} {n : Nat} {r : Ext}
    (hops : dstsBelow nt (.region id ops draw) = true) (haos : opsS P (mt id) ops 0 0 ops.toList = some aos) (hdr : (draw = false ∧ dr = none) ∨ ∃ d, draw = true ∧ dr = some d ∧ drawS ops aos = some d)
    (hrun : run E n0 g cf (n + 1) (.reg L (aos.filterMap fun o => resv o.op) aos dr) s h = some (r, s', h')) (hsim : Sim E n0 g nt S0 S s h a) (hQ : ∀ S' a', Sim E n0 g nt S0 S' s' h' a' → Q r.toExit a' S'.w) :
    (Code.region id ops draw).wp P Q a S.w := by
  have hops' : ∀ o ∈ ops.toList, ∀ d, o.dst = some d → d < nt := by
    intro o ho d hd
    simp only [dstsBelow, List.all_eq_true] at hops
    have := hops o ho
    rw [hd] at this
    simpa using this
  have hpre : ∀ ob ∈ (aos.filterMap fun o => resv o.op), ob = .dead ∨ ∃ xs, ob = .cells xs := by
    intro ob hob
    obtain ⟨o, _, ho⟩ := List.mem_filterMap.1 hob
    exact resv_kind ho
  have hlow := hsim.low
  have hH := hsim.heap
  subst hH
  let S1 := S.room (aos.filterMap fun o => resv o.op)
  have hst : Step n0 g S S1 := step_room n0 g hlow
  have hG1 : Good S1 := good_room hsim.good hpre
  simp only [run] at hrun
  split at hrun
  · cases hrun
  · rename_i s1 h1 hor
    have hfin : r = .nrm ∧ s' = clearO L s1 ∧ h' = h1 ∧ (∀ d, dr = some d → drawOk (opsTrace E cf n0 g S.H.length aos s (S.H ++ aos.filterMap fun o => resv o.op)) d = true) := by
      split at hrun
      · cases hrun; exact ⟨rfl, rfl, rfl, fun d h => by cases h⟩
      · split at hrun
        · rename_i hk; cases hrun; exact ⟨rfl, rfl, rfl, fun d h => by cases h; exact hk⟩
        · cases hrun
    obtain ⟨rfl, rfl, rfl, hdok⟩ := hfin
    have hkept0 : ∀ q ob, (aos.filterMap fun o => resv o.op)[q]? = some ob → n0 ≤ S.H.length + q ∧ S.H.length + q < S1.H.length ∧ S1.m (S.H.length + q) = .non ∧ S1.H[S.H.length + q]? = some ob := by
      intro q ob hq
      refine ⟨by omega, ?_, room_m (by omega), ?_⟩
      · show _ < (S.H ++ _).length
        rw [List.length_append]
        have := lt_of_some hq
        omega
      · show (S.H ++ _)[_]? = _
        rw [List.getElem?_append_right (by omega)]
        simpa using hq
    rcases hdr with ⟨rfl, rfl⟩ | ⟨d, rfl, rfl, hds⟩
    · refine wp_region ?_
      rw [List.range_eq_range']
      have : ops.size = ops.toList.length := by simp
      rw [this]
      refine ops_wp (S := S1) (S0 := S0) (nt := nt) (n0 := n0) (g := g) (base := S.H.length) hcf hops' ops.toList 0 0 aos s s1 _ h' a (fun j => by simp) haos hor ?_ (fun q ob hq => ?_) fun S' a' m => hQ S' a' (m.clear L)
      · exact ⟨rfl, hG1, hsim.glob.step hst, hsim.slots.step hst, hsim.size, hsim.defers, Nat.le_trans hlow hst.len, hsim.step.trans hst⟩
      · have := hkept0 q ob hq
        simpa using this
    · refine wp_region_any hmix ?_
      obtain ⟨σ, η, ν, ht, h0, h00, h2, h3, h4⟩ := opsRun_trace aos s s1 _ h' hor
      have hlen : aos.length = ops.size := by have := (opsS_get _ _ _ _ haos).1; simpa using this
      have hstd : Step n0 g S1 S1.drew := step_drew _ _ _
      have hd : ∀ i js j ao, (i, js) ∈ d → j ∈ js → aos[i]? = some ao → ∀ o, looks E (σ i) ao = some o → (η j)[o]? = (η (j + 1))[o]? := by
        intro i js j ao hi hj hao o hlo
        have hok := hdok d rfl
        unfold drawOk at hok
        rw [List.all_eq_true] at hok
        have h5 := hok (i, js) hi
        simp only [List.all_eq_true] at h5
        have h6 := h5 j hj
        unfold sameAt at h6
        have hil : i < aos.length := lt_of_some hao
        have h7 := h4 i (by omega)
        rw [hao] at h7
        simp only [hlo] at h7
        rw [h7] at h6
        simp only at h6
        split at h6
        · rename_i a0 _ b0 _ ha0 hb0
          have hlt : ∀ k x, (opsTrace E cf n0 g S.H.length aos s (S.H ++ aos.filterMap fun o => resv o.op))[k]? = some x → k ≤ aos.length → x.1 = η k := by
            intro k x hk hkl
            rw [h4 k hkl] at hk
            cases hk
            rfl
          have hbl : ∀ k x, (opsTrace E cf n0 g S.H.length aos s (S.H ++ aos.filterMap fun o => resv o.op))[k]? = some x → k ≤ aos.length := by
            intro k x hk
            rcases Nat.lt_or_ge aos.length k with h8 | h8
            · have := opsTrace_len (E := E) (cf := cf) (n0 := n0) (g := g) (base := S.H.length) aos s (S.H ++ aos.filterMap fun o => resv o.op)
              have := lt_of_some hk
              omega
            · exact h8
          have e1 := hlt j _ ha0 (hbl j _ ha0)
          have e2 := hlt (j + 1) _ hb0 (hbl _ _ hb0)
          simp only at e1 e2
          rw [← e1, ← e2]
          simpa using h6
        · cases h6
      have key := any_wp (S0 := S0) (nt := nt) (Q := Q) hcf hops' haos (facts_of hds) ht hd (fun S' a' m => hQ S' a' (by rw [← hlen, h2, h3] at m; exact m.clear L)) ops.size (Array.replicate ops.size false) S1.drew a
        { lsz := by simp
          dc := fun j o _ hL => absurd hL not_lst0
          slots := fun x k hk hw => ?_
          heap := ⟨0, Nat.zero_le _, fun j b hb _ => ⟨fun hL => absurd hL not_lst0, fun h => absurd h (Nat.not_lt_zero _)⟩, h00.symm⟩
          kept := fun j ao ob hj _ hr => by
            have := filterMap_at aos j ao ob hj hr
            exact hkept0 _ ob this
          good := good_drew hG1
          glob := (hsim.glob.step hst).step hstd
          size := hsim.size
          defers := hsim.defers
          low := Nat.le_trans hlow hst.len
          step := (hsim.step.trans hst).trans hstd } (by simp)
      · exact key
      · have : get (σ k) x = get (σ 0) x := by
          have := ht.slot x k 0 (by omega) fun j b _ hj hb hbd => by
            have hL := (hw j b hb hbd).2 (by omega)
            exact not_lst0 hL
          rwa [Nat.zero_add] at this
        rw [this, h0]
        exact ((hsim.slots.step hst).step hstd) x

theorem code_wp (hmix : P.follows .mixedOrders = true) (hcf : CfOk P E cf) {n0 nt : Nat} {g : Bool} {S0 : St} {mt : Nat → Nat → Bool} : ∀ n : Nat,
    (∀ (c : AC) (cc : Code) (Q : Exit → Act → World → Prop) (s s' : Slots) (h h' : Heap) (S : St) (a : Act) (r : Ext), codeS P mt cc = some (erase c) → dstsBelow nt cc = true → run E n0 g cf n c s h = some (r, s', h') → Sim E n0 g nt S0 S s h a →
      (∀ S' a', Sim E n0 g nt S0 S' s' h' a' → Q r.toExit a' S'.w) → cc.wp P Q a S.w) ∧
    (∀ (L : Option (List Nat)) (b : AC) (cc : Code) (Q : Exit → Act → World → Prop) (s s' : Slots) (h h' : Heap) (S : St) (a : Act) (r : Ext), codeS P mt cc = some (erase b) → dstsBelow nt cc = true → run E n0 g cf n (.loop L b) s h = some (r, s', h') → Sim E n0 g nt S0 S s h a →
      (∀ S' a', Sim E n0 g nt S0 S' s' h' a' → Q r.toExit a' S'.w) → Code.rounds P cc Q n a S.w) := by
  intro n
  induction n with
  | zero =>
    refine ⟨fun c cc Q s s' h h' S a r _ _ hrun => ?_, fun L b cc Q s s' h h' S a r _ _ hrun => ?_⟩
    · simp only [run] at hrun; cases hrun
    · simp only [run] at hrun; cases hrun
  | succ n ih =>
    obtain ⟨ihA, ihB⟩ := ih
    have hB : ∀ (L : Option (List Nat)) (b : AC) (cc : Code) (Q : Exit → Act → World → Prop) (s s' : Slots) (h h' : Heap) (S : St) (a : Act) (r : Ext), codeS P mt cc = some (erase b) → dstsBelow nt cc = true → run E n0 g cf (n + 1) (.loop L b) s h = some (r, s', h') → Sim E n0 g nt S0 S s h a →
        (∀ S' a', Sim E n0 g nt S0 S' s' h' a' → Q r.toExit a' S'.w) → Code.rounds P cc Q (n + 1) a S.w := by
      intro L b cc Q s s' h h' S a r hcc hdst hrun hsim hQ
      rw [rounds_succ]
      simp only [run] at hrun
      split at hrun
      · rename_i s1 h1 hb
        exact ihA b cc _ _ s1 h h1 S a .nrm hcc hdst hb (hsim.clear L) fun S' a' m => ihB L b cc Q s1 s' h1 h' S' a' r hcc hdst hrun m hQ
      · rename_i hne
        exact ihA b cc _ _ s' h h' S a r hcc hdst hrun (hsim.clear L) fun S' a' m => by
          have := hQ S' a' m
          cases r with
          | nrm => exact absurd hrun (hne s' h')
          | exit id => exact this
          | ret => exact this
    refine ⟨?_, hB⟩
    intro c cc Q s s' h h' S a r hcc hdst hrun hsim hQ
    have hi := codeS_inv hcc
    cases c with
    | skip =>
      obtain rfl : cc = .skip := hi
      simp only [run] at hrun
      cases hrun
      exact wp_skip (hQ S a hsim)
    | exit id =>
      obtain rfl : cc = .exit id := hi
      simp only [run] at hrun
      cases hrun
      exact wp_exit (hQ S a hsim)
    | ret =>
      obtain rfl : cc = .ret := hi
      simp only [run] at hrun
      cases hrun
      exact wp_ret (hQ S a hsim)
    | seq x y =>
      obtain ⟨cx, cy, rfl, hx, hy⟩ := hi
      simp only [dstsBelow, Bool.and_eq_true] at hdst
      refine wp_seq ?_
      simp only [run] at hrun
      split at hrun
      · rename_i s1 h1 hb
        exact ihA x cx _ s s1 h h1 S a .nrm hx hdst.1 hb hsim fun S' a' m => ihA y cy Q s1 s' h1 h' S' a' r hy hdst.2 hrun m hQ
      · rename_i hne
        exact ihA x cx _ s s' h h' S a r hx hdst.1 hrun hsim fun S' a' m => by
          have := hQ S' a' m
          cases r with
          | nrm => exact absurd hrun (hne s' h')
          | exit id => exact this
          | ret => exact this
    | cond o x y =>
      obtain ⟨c', cx, cy, rfl, rfl, hx, hy⟩ := hi
      simp only [dstsBelow, Bool.and_eq_true] at hdst
      have hv := opd_fixed (a := a) hsim.glob c' fun t _ => hsim.slots t
      simp only [run] at hrun
      split at hrun
      · rename_i hb
        exact wp_cond_true (rv_bool hb hv) (ihA x cx Q s s' h h' S a r hx hdst.1 hrun hsim hQ)
      · rename_i hb
        exact wp_cond_false (rv_bool hb hv) (ihA y cy Q s s' h h' S a r hy hdst.2 hrun hsim hQ)
      · cases hrun
    | block L id b =>
      obtain ⟨y, rfl, _, hy⟩ := hi
      simp only [dstsBelow] at hdst
      refine wp_block ?_
      simp only [run] at hrun
      split at hrun
      · rename_i s1 h1 hb
        cases hrun
        exact ihA b y _ s s1 h h' S a .nrm hy hdst hb hsim fun S' a' m => hQ S' a' (m.clear L)
      · rename_i j s1 h1 hb
        split at hrun
        · rename_i hj
          cases hrun
          exact ihA b y _ s s1 h h' S a (.exit j) hy hdst hb hsim fun S' a' m => by
            show (if j = id then Q .normal a' S'.w else _)
            rw [if_pos hj]
            exact hQ S' a' (m.clear L)
        · rename_i hj
          cases hrun
          exact ihA b y _ s s' h h' S a (.exit j) hy hdst hb hsim fun S' a' m => by
            show (if j = id then Q .normal a' S'.w else Q (.exit j) a' S'.w)
            rw [if_neg hj]
            exact hQ S' a' m
      · rename_i hn1 hn2
        refine ihA b y _ s s' h h' S a r hy hdst hrun hsim fun S' a' m => ?_
        have := hQ S' a' m
        cases r with
        | nrm => exact absurd hrun (hn1 s' h')
        | exit j => exact absurd hrun (hn2 j s' h')
        | ret => exact this
    | loop L b =>
      obtain ⟨y, rfl, _, hy⟩ := hi
      simp only [dstsBelow] at hdst
      exact wp_loop_rounds (n + 1) (hB L b y Q s s' h h' S a r hy hdst hrun hsim hQ)
    | reg L pre ops dr =>
      obtain ⟨id, os, draw, rfl, hr⟩ := hi
      obtain ⟨aos, dr', haos, he, hdr⟩ := regS_inv hr
      simp only [AC.reg.injEq] at he
      obtain ⟨_, rfl, rfl, rfl⟩ := he
      exact reg_wp hmix hcf hdst haos hdr hrun hsim hQ
end
end Ab
/- Calls. -/
namespace Ab
open Go

/-! ### what is forgotten when a function is left -/
def St.cut (S : St) (k : Nat) : St := { S with H := S.H.take k }

/-- a leaf that names objects below k alone -/
def lowK (k : Nat) : AV → Prop
  | .sl (.tok o) _ => o < k
  | .ptr o _ | .arr o _ _ => o < k
  | _ => True
def lowL (k : Nat) : AV → Prop
  | .fn _ xs => ∀ x ∈ xs, lowK k x
  | v => lowK k v

theorem cut_at {S : St} {k o : Nat} (h : o < k) : (S.cut k).H[o]? = S.H[o]? := by
  show (S.H.take k)[o]? = _
  rw [List.getElem?_take, if_pos h]
theorem cut_none {S : St} {k o : Nat} (h : k ≤ o) : (S.cut k).H[o]? = none := by
  show (S.H.take k)[o]? = _
  rw [List.getElem?_take, if_neg (by omega)]
theorem RK.low {S : St} {x : AV} {u : Value} (h : RK S x u) : lowK S.H.length x := by
  cases x with
  | sl c xs =>
    cases c with
    | tok o => obtain ⟨sz, n, ho, _⟩ := h.2; exact lt_of_some ho
    | _ => trivial
  | ptr o off => obtain ⟨⟨ys, hy⟩, _⟩ := h; exact lt_of_some hy
  | arr o off len => obtain ⟨⟨ys, hy⟩, _⟩ := h; exact lt_of_some hy
  | _ => trivial
theorem RKs.low {S : St} : ∀ {xs : List AV} {us : List Value}, All2 (RK S) xs us → ∀ x ∈ xs, lowK S.H.length x
  | _, _, .nil, x, h => by cases h
  | _, _, .cons h hs, x, hx => by
    cases hx with
    | head => exact h.low
    | tail _ hx => exact RKs.low hs x hx
theorem RL.low {S : St} {x : AV} {u : Value} (h : RL S x u) : lowL S.H.length x := by
  cases x with
  | fn f xs => obtain ⟨vs, _, hs, _⟩ := h; exact RKs.low hs
  | _ => exact RK.low (u := u) (by rw [RL.eq_RK (by intro _ _ h; cases h)] at h; exact h)
theorem below_low {k : Nat} {x : AV} (h : below k x = true) : lowL k x := by
  cases x with
  | sl c xs => cases c <;> first | trivial | (simp only [below, decide_eq_true_eq] at h; exact h)
  | ptr o off => simp only [below, decide_eq_true_eq] at h; exact h
  | arr o off len => simp only [below, decide_eq_true_eq] at h; exact h
  | fn f xs =>
    have : xs = [] := by simpa [below] using h
    subst this
    intro x hx; cases hx
  | _ => trivial
theorem free_low {k : Nat} {x : AV} (h : free x = true) : lowL k x := by
  cases x with
  | sl c xs => cases c <;> first | trivial | (simp only [free, below, decide_eq_true_eq] at h; exact absurd h (Nat.not_lt_zero _))
  | ptr o off => simp only [free, below, decide_eq_true_eq] at h; exact absurd h (Nat.not_lt_zero _)
  | arr o off len => simp only [free, below, decide_eq_true_eq] at h; exact absurd h (Nat.not_lt_zero _)
  | fn f xs =>
    have : xs = [] := by simpa [free, below] using h
    subst this
    intro x hx; cases hx
  | _ => trivial
theorem RK.cut {S : St} {k : Nat} {x : AV} {u : Value} (h : RK S x u) (hl : lowK k x) : RK (S.cut k) x u := by
  cases x with
  | sl c xs =>
    refine ⟨h.1, ?_⟩
    have h2 := h.2
    cases c with
    | none => trivial
    | full => exact h2
    | tok o =>
      obtain ⟨sz, n, ho, hr⟩ := h2
      exact ⟨sz, n, by rw [cut_at hl]; exact ho, hr⟩
  | ptr o off =>
    obtain ⟨⟨ys, hy⟩, hr⟩ := h
    exact ⟨⟨ys, by rw [cut_at hl]; exact hy⟩, hr⟩
  | arr o off len =>
    obtain ⟨⟨ys, hy⟩, hr⟩ := h
    exact ⟨⟨ys, by rw [cut_at hl]; exact hy⟩, hr⟩
  | _ => exact h
theorem RKs.cut {S : St} {k : Nat} : ∀ {xs : List AV} {us : List Value}, All2 (RK S) xs us → (∀ x ∈ xs, lowK k x) → All2 (RK (S.cut k)) xs us
  | _, _, .nil, _ => .nil
  | _, _, .cons h hs, hl => .cons (h.cut (hl _ (by simp))) (RKs.cut hs fun x hx => hl x (by simp [hx]))
theorem RL.cut {S : St} {k : Nat} {x : AV} {u : Value} (h : RL S x u) (hl : lowL k x) : RL (S.cut k) x u := by
  cases x with
  | fn f xs => obtain ⟨vs, h1, hs, h2⟩ := h; exact ⟨vs, h1, RKs.cut hs hl, h2⟩
  | _ =>
    rw [RL.eq_RK (by intro _ _ h; cases h)] at h ⊢
    exact RK.cut h hl
theorem RLs.cut {S : St} {k : Nat} : ∀ {xs : List AV} {us : List Value}, All2 (RL S) xs us → (∀ x ∈ xs, lowL k x) → All2 (RL (S.cut k)) xs us
  | _, _, .nil, _ => .nil
  | _, _, .cons h hs, hl => .cons (h.cut (hl _ (by simp))) (RLs.cut hs fun x hx => hl x (by simp [hx]))
theorem RC.cut {S : St} {k : Nat} {x : AV} {u : Value} (h : RC S x u) (hl : okRes k x = true) : RC (S.cut k) x u := by
  cases x with
  | agg xs =>
    obtain ⟨us, h1, hs, h2⟩ := h
    refine ⟨us, h1, RLs.cut hs fun x hx => ?_, h2⟩
    have : xs.all (below k) = true := hl
    exact below_low (List.all_eq_true.1 this x hx)
  | fn f xs => exact RL.cut (x := .fn f xs) h (below_low hl)
  | sl c xs => exact RK.cut (x := .sl c xs) h (below_low (x := .sl c xs) hl)
  | ptr o off => exact RK.cut (x := .ptr o off) h (below_low (x := .ptr o off) hl)
  | arr o off len => exact RK.cut (x := .arr o off len) h (below_low (x := .arr o off len) hl)
  | _ => exact h
theorem own_cut {S : St} {k o b : Nat} (h : own (S.cut k) o = some b) : own S o = some b ∧ o < k := by
  rcases Nat.lt_or_ge o k with hl | hl
  · unfold own at h ⊢
    rw [cut_at hl] at h
    exact ⟨h, hl⟩
  · unfold own at h
    rw [cut_none hl] at h
    cases h
theorem own_cut_of {S : St} {k o b : Nat} (h : own S o = some b) (hl : o < k) : own (S.cut k) o = some b := by
  unfold own at h ⊢
  rw [cut_at hl]
  exact h
theorem step_cut {k : Nat} {g : Bool} {S S' : St} (e : Step k g S S') (hk : S.H.length = k) : Step k g S (S'.cut k) where
  wext := e.wext
  cells := fun o ys h => by rw [cut_at (by rw [← hk]; exact lt_of_some h)]; exact e.cells o ys h
  frs := fun o sz n h => by rw [cut_at (by rw [← hk]; exact lt_of_some h)]; exact e.frs o sz n h
  size := e.size
  keep := e.keep
  owns := fun o b h => e.owns o b (own_cut h).1
  os := e.os
  froz := e.froz
  muts := e.muts
  len := by
    have := e.len
    show S.H.length ≤ (S'.H.take k).length
    rw [List.length_take]; omega
  pend := fun o ho hm => by rw [cut_at ho]; exact e.pend o ho hm
  low := fun hg o ho ys h => e.low hg o ho ys (by rw [← cut_at ho]; exact h)
theorem good_cut {k : Nat} {S S' : St} (e : Step k false S S') (hk : S.H.length = k) (hG : Good S) (hG' : Good S') : Good (S'.cut k) where
  objs := fun o => by
    rcases Nat.lt_or_ge o k with hl | hl
    · have h := hG'.objs o
      unfold ObjOk at h ⊢
      rw [cut_at hl]
      show (match S'.H[o]?, S'.m o with
        | some (.cells xs), .blk b => ∃ (vs : Array Value) (t : TypeId), S'.w.heap[b]? = some (.cells vs t (0, 0)) ∧ All2 (RL (S'.cut k)) xs vs.toList ∧ xs.all isLf = true ∧ ∀ off, off < vs.size → S'.M b off
        | some (.fr sz n), .hdr a cap => 0 < sz ∧ n ≤ cap ∧ (n < cap → ∃ b off, a = some ⟨b, off, none⟩ ∧ ∃ (vs : Array Value) (t : TypeId), S'.w.heap[b]? = some (.cells vs t (0, 0)) ∧
            off + cap * sz ≤ vs.size ∧ ∀ j, n * sz ≤ j → j < cap * sz → S'.M b (off + j))
        | some (.fr _ _), _ => False
        | some (.cells _), .hdr _ _ => False
        | some (.mp _), _ => False
        | _, _ => True)
      cases hob : S'.H[o]? with
      | none => trivial
      | some ob =>
        rw [hob] at h
        cases ob with
        | dead => trivial
        | mp es => exact h
        | fr sz n => cases hm : S'.m o with
          | hdr a cap => rw [hm] at h; exact h
          | _ => rw [hm] at h; exact h
        | cells xs =>
          cases hm : S'.m o with
          | non => trivial
          | hdr a cap => rw [hm] at h; exact h.elim
          | blk b =>
            rw [hm] at h
            obtain ⟨vs, t, hb, hs, hlf, hM⟩ := h
            refine ⟨vs, t, hb, RLs.cut hs fun x hx => ?_, hlf, hM⟩
            rcases e.low rfl o hl xs hob x hx with hf | ⟨ys, hys, hx'⟩
            · exact free_low hf
            · have h0 := hG.objs o
              unfold ObjOk at h0
              rw [hys] at h0
              cases hm0 : S.m o with
              | non =>
                have := (e.pend o hl hm0).1
                rw [hm] at this; cases this
              | hdr a cap => rw [hm0] at h0; exact h0.elim
              | blk b0 =>
                rw [hm0] at h0
                obtain ⟨vs0, t0, _, hs0, _, _⟩ := h0
                obtain ⟨i, hi⟩ := List.mem_iff_getElem?.1 hx'
                obtain ⟨u, _, hu⟩ := hs0.get i x hi
                rw [← hk]
                exact hu.low
    · unfold ObjOk
      rw [cut_none hl]
      trivial
  disj := fun o o' b h1 h2 => hG'.disj o o' b (own_cut h1).1 (own_cut h2).1
  there := fun o b h1 => hG'.there o b (own_cut h1).1

/-! ### results -/
section
variable {P : Program}

theorem ld_cell {S : St} {t : TypeId} {agg : Bool} {n : Nat} (ha : aggT P t = some agg) (hn : agg = true → szOf P t = some n) (hG : Good S) {o off : Nat} {u : Value} {xs : List AV} {v : AV}
    (hx : RV S (.ptr o off) u) (hy : S.H[o]? = some (.cells xs)) (hlen : ((xs.drop off).take n).length = n) (hv : mkAgg agg ((xs.drop off).take n) = some v) :
    ∃ u', (do loadVar t (← asAddr u) : Sem Value).run P S.w = .ok u' S.w ∧ RV S v u' := by
  obtain ⟨⟨ys, _⟩, b, hm, rfl⟩ := rv_ptr rfl hx
  have hobj := hG.objs o
  unfold ObjOk at hobj
  rw [hy, hm] at hobj
  obtain ⟨vs, t', hb, hs, hl, _⟩ := hobj
  have hs' := (hs.drop off).take n
  have hl' := hs'.length
  have hcs : ∀ (j : Nat) v, ((vs.toList.drop off).take n)[j]? = some v → S.w.cell? ⟨b, off + j, none⟩ = some v := by
    intro j v hj
    rw [cell_of_heap hb]
    rw [List.getElem?_take] at hj
    split at hj
    · rw [List.getElem?_drop, Array.getElem?_toList] at hj; exact hj
    · cases hj
  have hr := run_loadVar_cells (P := P) (w := S.w) ha (fun h => by rw [← hl', hlen]; exact hn h) hcs
  rcases mkAgg_ok hv hs' (all_take (all_drop hl _) _) with ⟨rfl, hrv⟩ | ⟨rfl, u, hu1, hrv⟩
  · exact ⟨_, by simp [asAddr, hr.1 rfl], hrv⟩
  · exact ⟨u, by simp [asAddr, hr.2 u rfl hu1], hrv⟩

def resM (tmps : Array Value) : ResultVar → Sem Value
  | .tmp t => pure (tmps.getD t undef)
  | .cell a t => do loadVar t (← asAddr (tmps.getD a undef))

theorem RC.of_RV {S : St} {x : AV} {u : Value} (h : RV S x u) (hn : ∀ xs, x ≠ .tup xs) : RC S x u := by
  rwa [RV.eq_RC hn] at h
theorem mkAgg_tup {agg : Bool} {xs : List AV} {v : AV} (h : mkAgg agg xs = some v) (hl : xs.all isLf = true) : ∀ ys, v ≠ .tup ys := by
  intro ys hv
  subst hv
  unfold mkAgg at h
  split at h
  · cases h
  · split at h
    · cases h; simp [isLf] at hl
    · cases h

theorem res_ok {S : St} {s : Slots} {a : Act} (hG : Good S) (hs : SlotsOk S s a) : ∀ (rs : List ResultVar) (ars : List AR) (vs : List AV), resS P rs = some ars → resOf s S.H ars = some vs →
    ∃ us, (rs.mapM (resM a.tmps)).run P S.w = .ok us S.w ∧ All2 (RC S) vs us
  | [], ars, vs, h1, h2 => by
    cases h1; cases h2
    exact ⟨[], by simp, .nil⟩
  | .tmp t :: rs, ars, vs, h1, h2 => by
    simp only [resS] at h1
    split at h1
    · rename_i ars' h1'
      cases h1
      simp only [resOf] at h2
      split at h2
      · cases h2
      · rename_i hnt
        split at h2
        · rename_i vs' h2'
          cases h2
          obtain ⟨us, hr, hall⟩ := res_ok hG hs rs ars' vs' h1' h2'
          refine ⟨a.tmps.getD t undef :: us, ?_, .cons (.of_RV (hs t) fun xs hx => hnt xs hx) hall⟩
          rw [List.mapM_cons]
          simp [resM, hr]
        · cases h2
    · cases h1
  | .cell n t :: rs, ars, vs, h1, h2 => by
    have main : ∀ agg k ars', aggT P t = some agg → (agg = true → szOf P t = some k) → resS P rs = some ars' → resOf s S.H (.cell n agg k :: ars') = some vs →
        ∃ us, ((ResultVar.cell n t :: rs).mapM (resM a.tmps)).run P S.w = .ok us S.w ∧ All2 (RC S) vs us := by
      intro agg k ars' ha hk h1' h2
      simp only [resOf] at h2
      split at h2
      · rename_i o off vs' hp h2'
        split at h2
        · rename_i xs hxs
          split at h2
          · rename_i hlen
            split at h2
            · rename_i v hv
              cases h2
              obtain ⟨us, hr, hall⟩ := res_ok hG hs rs ars' vs' h1' h2'
              have hsn := hs n
              rw [hp] at hsn
              obtain ⟨u', hu', hrv⟩ := ld_cell ha hk hG hsn hxs hlen hv
              refine ⟨u' :: us, ?_, .cons (.of_RV hrv (mkAgg_tup hv ?_)) hall⟩
              · rw [List.mapM_cons]
                have : (resM a.tmps (.cell n t)).run P S.w = .ok u' S.w := hu'
                simp [this, hr]
              · obtain ⟨_, b, hm, _⟩ := rv_ptr rfl hsn
                have hobj := hG.objs o
                unfold ObjOk at hobj
                rw [hxs, hm] at hobj
                obtain ⟨_, _, _, _, hl, _⟩ := hobj
                exact all_take (all_drop hl _) _
            · cases h2
          · cases h2
        · cases h2
      · cases h2
    simp only [resS] at h1
    split at h1
    · rename_i n' rs' ha hk h1'
      cases h1
      exact main true n' rs' ha (fun _ => hk) h1' h2
    · rename_i rs' ha h1'
      cases h1
      exact main false 1 rs' ha (fun h => by cases h) h1' h2
    · cases h1

theorem one_ok {S : St} {vs : List AV} {us : List Value} (h : All2 (RC S) vs us) : RV S (one vs) (if h : us.toArray.size = 1 then us.toArray[0] else .tuple us.toArray) := by
  cases h with
  | nil => exact ⟨#[], rfl, .nil⟩
  | cons h hs =>
    cases hs with
    | nil => exact RV.of_RC h
    | cons h' hs' => exact ⟨_, rfl, .cons h (.cons h' hs')⟩

theorem results_ok {S : St} {s : Slots} {a : Act} (hG : Good S) (hs : SlotsOk S s a) {fn : Func} {ars : List AR} {vs : List AV} (h1 : resS P fn.results.toList = some ars) (h2 : resOf s S.H ars = some vs) :
    ∃ us, All2 (RC S) vs us ∧ (results fn a.tmps).run P S.w = .ok (if h : us.toArray.size = 1 then us.toArray[0] else .tuple us.toArray) S.w := by
  obtain ⟨us, hr, hall⟩ := res_ok (P := P) hG hs fn.results.toList ars vs h1 h2
  refine ⟨us, hall, ?_⟩
  have : (fn.results.mapM (resM a.tmps)).run P S.w = .ok us.toArray S.w := by
    rw [Array.mapM_eq_mapM_toList]
    simp [hr]
  unfold results
  show ((fn.results.mapM (resM a.tmps)) >>= fun vs => pure (if h : vs.size = 1 then vs[0] else .tuple vs) : Sem Value).run P S.w = _
  simp only [Sem.run_bind, this]
  rfl

/-! ### a function -/
structure FnOk (P : Program) (f : Nat) (fn : AFn) : Prop where
  pf : ∃ (pf : Func) (cc : Code) (mt : Nat → Nat → Bool), P.funcs[f]? = some pf ∧ pf.body = some cc ∧ (pf.name == "runtime.NumGoroutine") = false ∧ codeS P mt cc = some (erase fn.code) ∧ dstsBelow pf.ntmps cc = true ∧
    fn.np ≤ pf.ntmps ∧ resS P pf.results.toList = some fn.res

theorem get_params : ∀ (as : List AV) (i t : Nat), get (params i as) t = if i ≤ t then (as[t - i]?).getD .no else .no
  | [], i, t => by simp [params, get]
  | v :: as, i, t => by
    show (if t = i then v else get (params (i + 1) as) t) = _
    rw [get_params as (i + 1) t]
    by_cases h : t = i
    · subst h; simp
    · rw [if_neg h]
      by_cases h1 : i ≤ t
      · rw [if_pos (by omega), if_pos h1, show t - i = (t - (i + 1)) + 1 by omega, List.getElem?_cons_succ]
      · rw [if_neg (by omega), if_neg h1]

theorem params_ok {S : St} {as : List AV} {args : Array Value} {n : Nat} (h : All2 (RC S) as args.toList) : SlotsOk S (params 0 as) { tmps := args ++ Array.replicate (n - args.size) undef, defers := [] } := by
  intro t
  rw [get_params, if_pos (Nat.zero_le _), Nat.sub_zero]
  cases ht : as[t]? with
  | none => trivial
  | some x =>
    obtain ⟨u, hu, hr⟩ := h.get t x ht
    rw [Array.getElem?_toList] at hu
    have hlt := lt_of_someA hu
    have : (args ++ Array.replicate (n - args.size) undef).getD t undef = u := by
      rw [Array.getD_eq_getD_getElem?, Array.getElem?_append_left hlt, hu]
      rfl
    show RV S x ((args ++ Array.replicate (n - args.size) undef).getD t undef)
    rw [this]
    exact RV.of_RC hr

theorem arg_tup {v : AV} (h : ∀ xs, v ≠ .tup xs) : ∀ xs, arg v ≠ .tup xs := by
  intro xs
  cases v <;> simp [arg, argL]
  exact absurd rfl (h _)
theorem args_ok {S : St} : ∀ {vs : List AV} {us : List Value}, All2 (RC S) vs us → All2 (RC S) (vs.map arg) us
  | _, _, .nil => .nil
  | _, _, .cons h hs => .cons (by
      rename_i x _ _ _
      cases x with
      | tup xs => exact absurd h (fun h => h.elim)
      | _ => exact arg_ok (RV.of_RC h) (fun _ => by simp)) (args_ok hs)
theorem RCs.cut {S : St} {k : Nat} : ∀ {vs : List AV} {us : List Value}, All2 (RC S) vs us → vs.all (okRes k) = true → All2 (RC (S.cut k)) vs us
  | _, _, .nil, _ => .nil
  | _, _, .cons h hs, hl => by
    simp only [List.all_cons, Bool.and_eq_true] at hl
    exact .cons (h.cut hl.1) (RCs.cut hs hl.2)

/-- the contracts that an environment holds -/
def SpOk (P : Program) (E : Env) : Prop := ∀ f sp, E.sp f = some sp → ∀ as h v h', sp as h = some (v, h') → Cok P E f as h v h'
theorem call_ok (hmix : P.follows .mixedOrders = true) {E : Env} (hE : ∀ f fn, E.fn f = some fn → FnOk P f fn) (hS : SpOk P E) : ∀ n, CfOk P E (call E n)
  | 0 => fun f as h v h' hc => by simp only [call] at hc; cases hc
  | n + 1 => fun f as h v h' hc => by
    have ih := call_ok hmix hE hS n
    simp only [call] at hc
    split at hc
    · rename_i sp hsp
      exact hS f sp hsp as h v h' hc
    rename_i hsp
    split at hc
    · cases hc
    · rename_i fn hfn
      obtain ⟨pf, cc, mt, hpf, hbody, hname, hcode, hdst, hnp, hres⟩ := (hE f fn hfn).pf
      refine ⟨fn, hfn, fun args w => ?_, fun S args hH hG hgl hargs => ?_⟩
      · have h1 : pf.name ≠ "runtime.NumGoroutine" := by simpa using hname
        simp [callFunc, hpf, h1, hbody]
      · split at hc
        · rename_i hlen
          split at hc
          · cases hc
          · rename_i e s h1 hne hrun
            split at hc
            · rename_i vs hvs
              have hsz : args.size = fn.np := by rw [← hlen]; have := hargs.length; simpa using this.symm
              refine calls_of_wp hpf hbody ?_
              have hsim : Sim E h.length fn.grow pf.ntmps S S (params 0 as) h { tmps := args ++ Array.replicate (pf.ntmps - args.size) undef, defers := [] } :=
                ⟨hH, hG, hgl, params_ok hargs, by simp; omega, rfl, Nat.le_refl _, .refl _ _ _⟩
              refine (code_wp hmix ih n).1 fn.code cc _ _ s h h1 S _ e hcode hdst hrun hsim fun S' a' m => ?_
              have hend : a'.defers = [] ∧ ∃ v', (results pf a'.tmps).run P S'.w = .ok v' S'.w ∧ ∃ S'' u, Ending.returned v' = .returned u ∧ S''.w = S'.w ∧ S''.H = h' ∧ Step h.length fn.grow S S'' ∧ Good S'' ∧ RV S'' v u := by
                refine ⟨m.defers, ?_⟩
                have hH' := m.heap
                subst hH'
                obtain ⟨us, hall, hr⟩ := results_ok (P := P) m.good m.slots hres hvs
                refine ⟨_, hr, ?_⟩
                unfold finish at hc
                split at hc
                · rename_i hg
                  cases hc
                  exact ⟨S', _, rfl, rfl, rfl, m.step, m.good, one_ok hall⟩
                · rename_i hg
                  simp only at hc
                  split at hc
                  · rename_i hok
                    cases hc
                    have hg' : fn.grow = false := by simpa using hg
                    have hst := m.step
                    rw [hg'] at hst
                    subst hH
                    refine ⟨S'.cut S.H.length, _, rfl, rfl, rfl, step_cut m.step rfl, good_cut hst rfl hG m.good, one_ok (RCs.cut (args_ok hall) hok)⟩
                  · cases hc
              cases e with
              | exit id => exact absurd rfl (hne id)
              | nrm => exact hend
              | ret => exact hend
            · cases hc
          · cases hc
        · cases hc
end
end Ab
/- A function of the program, seen as compact code. -/
namespace Ab
open Go
def fnView (P : Program) (mt : Nat → Nat → Bool) (pf : Func) : Option (AC × List AR × Nat × Bool × Bool) :=
  match pf.body with
  | none => none
  | some cc => match codeS P mt cc, resS P pf.results.toList with
    | some c, some r => some (c, r, pf.ntmps, dstsBelow pf.ntmps cc, pf.name == "runtime.NumGoroutine")
    | _, _ => none
theorem FnOk.of_view {P : Program} {f : Nat} {pf : Func} {mt : Nat → Nat → Bool} {fn : AFn} {n : Nat} (hf : P.funcs[f]? = some pf) (hv : fnView P mt pf = some (erase fn.code, fn.res, n, true, false)) (hn : fn.np ≤ n) : FnOk P f fn := by
  unfold fnView at hv
  split at hv
  · cases hv
  · rename_i cc hcc
    split at hv
    · rename_i c r hc hr
      simp only [Option.some.injEq, Prod.mk.injEq] at hv
      obtain ⟨rfl, rfl, rfl, hd, hname⟩ := hv
      exact ⟨pf, cc, mt, hf, hcc, hname, hc, hd, hn, hr⟩
    · cases hv
end Ab
/- The abstract machine without fuel: equations that a simplifier can use. -/
namespace Ab
open Go

/-- the limit of a growing family -/
noncomputable def lim {α : Type} (F : Nat → Option α) : Option α :=
  open Classical in if h : ∃ x, ∃ n, F n = some x then some h.choose else none
def Grows {α : Type} (F : Nat → Option α) : Prop := ∀ n x, F n = some x → F (n + 1) = some x
theorem Grows.le {α : Type} {F : Nat → Option α} (h : Grows F) {n m : Nat} {x : α} (hn : F n = some x) (hm : n ≤ m) : F m = some x := by
  obtain ⟨k, rfl⟩ := Nat.exists_eq_add_of_le hm
  induction k with
  | zero => exact hn
  | succ k ih => exact h _ _ (ih (by omega))
theorem lim_iff {α : Type} {F : Nat → Option α} (h : Grows F) {x : α} : lim F = some x ↔ ∃ n, F n = some x := by
  unfold lim
  constructor
  · intro hl
    split at hl
    · rename_i hx
      obtain ⟨n, hn⟩ := hx.choose_spec
      cases hl
      exact ⟨n, hn⟩
    · cases hl
  · rintro ⟨n, hn⟩
    have hx : ∃ x, ∃ n, F n = some x := ⟨x, n, hn⟩
    rw [dif_pos hx]
    obtain ⟨m, hm⟩ := hx.choose_spec
    have h1 := h.le hn (Nat.le_max_left n m)
    have h2 := h.le hm (Nat.le_max_right n m)
    rw [h1] at h2
    exact h2.symm

/-- cf' has, from some place of the family on, what cf has -/
def Tends (cf : CallF) (cfs : Nat → CallF) : Prop := ∀ f as h r, cf f as h = some r → ∃ N, ∀ m, N ≤ m → cfs m f as h = some r

section
variable {E : Env} {n0 base : Nat} {g : Bool} {cf : CallF} {cfs : Nat → CallF}

theorem stepOp_tends (ht : Tends cf cfs) {s : Slots} {h : Heap} {op : AOp} {r : AV × Heap} (hs : stepOp E cf n0 g base s h op = some r) : ∃ N, ∀ m, N ≤ m → stepOp E (cfs m) n0 g base s h op = some r := by
  unfold stepOp at hs ⊢
  split at hs
  · rename_i hc
    simp only [hc, if_true]
    split at hs
    · rename_i f as hcal
      split at hs
      · rename_i v h1 hcf
        obtain ⟨N, hN⟩ := ht f as h _ hcf
        refine ⟨N, fun m hm => ?_⟩
        simp only [hN m hm]
        exact hs
      · cases hs
    · cases hs
  · rename_i hc
    simp only [hc]
    exact ⟨0, fun m _ => hs⟩

theorem opsRun_tends (ht : Tends cf cfs) : ∀ (aos : List AOper) (s : Slots) (h : Heap) (r : Slots × Heap), opsRun E cf n0 g base aos s h = some r →
    ∃ N, ∀ m, N ≤ m → opsRun E (cfs m) n0 g base aos s h = some r ∧ opsTrace E (cfs m) n0 g base aos s h = opsTrace E cf n0 g base aos s h
  | [], s, h, r, hr => ⟨0, fun m _ => ⟨hr, rfl⟩⟩
  | o :: aos, s, h, r, hr => by
    simp only [opsRun] at hr
    simp only [opsRun, opsTrace]
    split at hr
    · rename_i hw
      split at hr
      · rename_i v h1 hst
        obtain ⟨N1, hN1⟩ := stepOp_tends ht hst
        obtain ⟨N2, hN2⟩ := opsRun_tends ht aos _ _ r hr
        refine ⟨max N1 N2, fun m hm => ?_⟩
        rw [hw]
        simp only [hN1 m (by omega), hst]
        obtain ⟨h1, h2⟩ := hN2 m (by omega)
        exact ⟨h1, by rw [h2]⟩
      · cases hr
    · rename_i hw
      obtain ⟨N2, hN2⟩ := opsRun_tends ht aos _ _ r hr
      refine ⟨N2, fun m hm => ?_⟩
      rw [hw]
      obtain ⟨h1, h2⟩ := hN2 m hm
      exact ⟨h1, by simp only [h2]⟩
    · cases hr

theorem run_tends (ht : Tends cf cfs) : ∀ (n : Nat) (c : AC) (s : Slots) (h : Heap) (r : Ext × Slots × Heap), run E n0 g cf n c s h = some r → ∃ N, ∀ m n', N ≤ m → n ≤ n' → run E n0 g (cfs m) n' c s h = some r
  | 0, c, s, h, r, hr => by simp only [run] at hr; cases hr
  | n + 1, c, s, h, r, hr => by
    have ih := run_tends ht n
    have conv : ∀ N, (∀ m n', N ≤ m → n ≤ n' → run E n0 g (cfs m) (n' + 1) c s h = some r) → ∃ N, ∀ m n', N ≤ m → n + 1 ≤ n' → run E n0 g (cfs m) n' c s h = some r := by
      intro N hN
      refine ⟨N, fun m n' hm hn => ?_⟩
      obtain ⟨k, rfl⟩ : ∃ k, n' = k + 1 := ⟨n' - 1, by omega⟩
      exact hN m k hm (by omega)
    cases c with
    | skip => exact conv 0 fun m n' _ _ => hr
    | exit id => exact conv 0 fun m n' _ _ => hr
    | ret => exact conv 0 fun m n' _ _ => hr
    | reg L pre ops dr =>
      simp only [run] at hr
      split at hr
      · cases hr
      · rename_i s1 h1 hor
        obtain ⟨N, hN⟩ := opsRun_tends ht ops _ _ _ hor
        refine conv N fun m n' hm _ => ?_
        obtain ⟨e1, e2⟩ := hN m hm
        simp only [run, e1, e2]
        exact hr
    | seq a b =>
      simp only [run] at hr
      split at hr
      · rename_i s1 h1 ha
        obtain ⟨N1, hN1⟩ := ih a s h _ ha
        obtain ⟨N2, hN2⟩ := ih b s1 h1 _ hr
        refine conv (max N1 N2) fun m n' hm hn => ?_
        simp only [run, hN1 m n' (by omega) hn, hN2 m n' (by omega) hn]
      · rename_i hne
        obtain ⟨N1, hN1⟩ := ih a s h _ hr
        refine conv N1 fun m n' hm hn => ?_
        simp only [run, hN1 m n' hm hn]
        split
        · rename_i s1 h1 he
          cases he
          exact absurd hr (hne s1 h1)
        · rfl
    | cond x a b =>
      simp only [run] at hr
      split at hr
      · rename_i hv
        obtain ⟨N1, hN1⟩ := ih a s h _ hr
        refine conv N1 fun m n' hm hn => ?_
        simp only [run, hv, hN1 m n' hm hn]
      · rename_i hv
        obtain ⟨N1, hN1⟩ := ih b s h _ hr
        refine conv N1 fun m n' hm hn => ?_
        simp only [run, hv, hN1 m n' hm hn]
      · cases hr
    | block L id b =>
      simp only [run] at hr
      have : ∃ x, run E n0 g cf n b s h = some x := by
        cases hx : run E n0 g cf n b s h with
        | none => rw [hx] at hr; cases hr
        | some x => exact ⟨x, rfl⟩
      obtain ⟨x, hx⟩ := this
      obtain ⟨N1, hN1⟩ := ih b s h _ hx
      refine conv N1 fun m n' hm hn => ?_
      simp only [run, hN1 m n' hm hn]
      rw [hx] at hr
      exact hr
    | loop L b =>
      simp only [run] at hr
      split at hr
      · rename_i s1 h1 ha
        obtain ⟨N1, hN1⟩ := ih b _ h _ ha
        obtain ⟨N2, hN2⟩ := ih (.loop L b) s1 h1 _ hr
        refine conv (max N1 N2) fun m n' hm hn => ?_
        simp only [run, hN1 m n' (by omega) hn, hN2 m n' (by omega) hn]
      · rename_i hne
        obtain ⟨N1, hN1⟩ := ih b _ h _ hr
        refine conv N1 fun m n' hm hn => ?_
        simp only [run, hN1 m n' hm hn]
        split
        · rename_i s1 h1 he
          cases he
          exact absurd hr (hne s1 h1)
        · rfl
end

theorem tends_const (cf : CallF) : Tends cf fun _ => cf := fun _ _ _ _ h => ⟨0, fun _ _ => h⟩

theorem call_succ (E : Env) (n f : Nat) (as : List AV) (h : Heap) : call E (n + 1) f as h = match E.sp f with
    | some sp => sp as h
    | none => match E.fn f with
      | none => none
      | some fn => if as.length = fn.np then
          match run E h.length fn.grow (call E n) n fn.code (params 0 as) h with
          | some (.exit _, _, _) => none
          | some (_, s, h') => match resOf s h' fn.res with
            | some vs => finish fn.grow h.length vs h'
            | none => none
          | none => none
        else none := rfl
theorem call_grows (E : Env) : ∀ n f as h r, call E n f as h = some r → call E (n + 1) f as h = some r
  | 0, f, as, h, r, hc => by simp only [call] at hc; cases hc
  | n + 1, f, as, h, r, hc => by
    have ih := call_grows E n
    rw [call_succ] at hc ⊢
    split at hc
    · exact hc
    split at hc
    · cases hc
    · rename_i fn hfn
      split at hc
      · rename_i hl
        rw [if_pos hl]
        have ht : Tends (call E n) fun _ => call E (n + 1) := fun f as h r hh => ⟨0, fun _ _ => ih f as h r hh⟩
        cases hr : run E h.length fn.grow (call E n) n fn.code (params 0 as) h with
        | none => rw [hr] at hc; cases hc
        | some x =>
          obtain ⟨N, hN⟩ := run_tends ht n _ _ _ _ hr
          rw [hN N (n + 1) (Nat.le_refl _) (by omega)]
          rw [hr] at hc
          exact hc
      · cases hc

noncomputable def callF (E : Env) : CallF := fun f as h => lim fun n => call E n f as h
noncomputable def runF (E : Env) (n0 : Nat) (g : Bool) (c : AC) (s : Slots) (h : Heap) : Option (Ext × Slots × Heap) := lim fun n => run E n0 g (callF E) n c s h

section
variable {E : Env} {n0 : Nat} {g : Bool}
theorem callF_iff {f : Nat} {as : List AV} {h : Heap} {r : AV × Heap} : callF E f as h = some r ↔ ∃ n, call E n f as h = some r := lim_iff fun n x hx => call_grows E n f as h x hx
theorem runF_iff {c : AC} {s : Slots} {h : Heap} {r : Ext × Slots × Heap} : runF E n0 g c s h = some r ↔ ∃ n, run E n0 g (callF E) n c s h = some r :=
  lim_iff fun n x hx => by
    obtain ⟨N, hN⟩ := run_tends (tends_const (callF E)) n _ _ _ _ hx
    exact hN N (n + 1) (Nat.le_refl _) (by omega)
theorem run_le {c : AC} {s : Slots} {h : Heap} {r : Ext × Slots × Heap} {n m : Nat} (hr : run E n0 g (callF E) n c s h = some r) (hm : n ≤ m) : run E n0 g (callF E) m c s h = some r := by
  obtain ⟨N, hN⟩ := run_tends (tends_const (callF E)) n _ _ _ _ hr
  exact hN N m (Nat.le_refl _) hm
theorem callF_tends : Tends (callF E) (call E) := fun f as h r hr => by
  obtain ⟨n, hn⟩ := callF_iff.1 hr
  exact ⟨n, fun m hm => Grows.le (F := fun n => call E n f as h) (fun n x hx => call_grows E n f as h x hx) hn hm⟩
theorem call_of_callF : Tends (callF E) fun m => call E m := callF_tends

theorem optext {α : Type} {a b : Option α} (h : ∀ x, a = some x ↔ b = some x) : a = b := by
  cases a with
  | none => cases b with
    | none => rfl
    | some y => exact absurd ((h y).2 rfl) (by simp)
  | some x => exact ((h x).1 rfl).symm

/-- ONE CALL. -/
theorem callF_sp {f : Nat} {sp : List AV → List Ob → Option (AV × List Ob)} {as : List AV} {h : Heap} (hs : E.sp f = some sp) : callF E f as h = sp as h := by
  refine optext fun x => ?_
  rw [callF_iff]
  constructor
  · rintro ⟨n, hn⟩
    cases n with
    | zero => simp only [call] at hn; cases hn
    | succ n => simpa only [call_succ, hs] using hn
  · intro hx
    exact ⟨1, by simpa only [call_succ, hs] using hx⟩
theorem callF_eq {f : Nat} {fn : AFn} {as : List AV} {h : Heap} (hs : E.sp f = none) (hf : E.fn f = some fn) (hl : as.length = fn.np) :
    callF E f as h = match runF E h.length fn.grow fn.code (params 0 as) h with
      | some (.exit _, _, _) => none
      | some (_, s, h') => match resOf s h' fn.res with
        | some vs => finish fn.grow h.length vs h'
        | none => none
      | none => none := by
  refine optext fun x => ?_
  rw [callF_iff]
  constructor
  · rintro ⟨n, hn⟩
    cases n with
    | zero => simp only [call] at hn; cases hn
    | succ n =>
      simp only [call_succ, hs, hf, if_pos hl] at hn
      cases hr : run E h.length fn.grow (call E n) n fn.code (params 0 as) h with
      | none => rw [hr] at hn; cases hn
      | some y =>
        have ht : Tends (call E n) fun _ => callF E := fun f as h r hh => ⟨0, fun _ _ => callF_iff.2 ⟨n, hh⟩⟩
        obtain ⟨N, hN⟩ := run_tends ht n _ _ _ _ hr
        rw [runF_iff.2 ⟨n, hN N n (Nat.le_refl _) (Nat.le_refl _)⟩]
        rw [hr] at hn
        exact hn
  · intro hx
    cases hr : runF E h.length fn.grow fn.code (params 0 as) h with
    | none => rw [hr] at hx; cases hx
    | some y =>
      obtain ⟨n, hn⟩ := runF_iff.1 hr
      obtain ⟨N, hN⟩ := run_tends callF_tends n _ _ _ _ hn
      refine ⟨max N n + 1, ?_⟩
      simp only [call_succ, hs, hf, if_pos hl]
      rw [hN (max N n) (max N n) (by omega) (by omega)]
      rw [hr] at hx
      exact hx

theorem runF_skip {s : Slots} {h : Heap} : runF E n0 g .skip s h = some (.nrm, s, h) := runF_iff.2 ⟨1, rfl⟩
theorem runF_exit {id : Nat} {s : Slots} {h : Heap} : runF E n0 g (.exit id) s h = some (.exit id, s, h) := runF_iff.2 ⟨1, rfl⟩
theorem runF_ret {s : Slots} {h : Heap} : runF E n0 g .ret s h = some (.ret, s, h) := runF_iff.2 ⟨1, rfl⟩
theorem runF_reg {L : Option (List Nat)} {pre : List Ob} {ops : List AOper} {s : Slots} {h : Heap} : runF E n0 g (.reg L pre ops none) s h = match opsRun E (callF E) n0 g h.length ops s (h ++ pre) with
    | none => none
    | some (s', h') => some (.nrm, clearO L s', h') := by
  refine optext fun x => ?_
  rw [runF_iff]
  constructor
  · rintro ⟨n, hn⟩
    cases n with
    | zero => rw [run] at hn; cases hn
    | succ n =>
      simp only [run] at hn
      cases ho : opsRun E (callF E) n0 g h.length ops s (h ++ pre) with
      | none => rw [ho] at hn; cases hn
      | some y => rw [ho] at hn; exact hn
  · intro hx
    refine ⟨1, ?_⟩
    simp only [run]
    cases ho : opsRun E (callF E) n0 g h.length ops s (h ++ pre) with
    | none => rw [ho] at hx; cases hx
    | some y => rw [ho] at hx; exact hx
theorem runF_regd {L : Option (List Nat)} {pre : List Ob} {ops : List AOper} {d : List (Nat × List Nat)} {s : Slots} {h : Heap} : runF E n0 g (.reg L pre ops (some d)) s h = match opsRun E (callF E) n0 g h.length ops s (h ++ pre) with
    | none => none
    | some (s', h') => if drawOk (opsTrace E (callF E) n0 g h.length ops s (h ++ pre)) d = true then some (.nrm, clearO L s', h') else none := by
  refine optext fun x => ?_
  rw [runF_iff]
  constructor
  · rintro ⟨n, hn⟩
    cases n with
    | zero => rw [run] at hn; cases hn
    | succ n =>
      simp only [run] at hn
      cases ho : opsRun E (callF E) n0 g h.length ops s (h ++ pre) with
      | none => rw [ho] at hn; cases hn
      | some y => rw [ho] at hn; exact hn
  · intro hx
    refine ⟨1, ?_⟩
    simp only [run]
    cases ho : opsRun E (callF E) n0 g h.length ops s (h ++ pre) with
    | none => rw [ho] at hx; cases hx
    | some y => rw [ho] at hx; exact hx
theorem runF_seq {a b : AC} {s : Slots} {h : Heap} : runF E n0 g (.seq a b) s h = match runF E n0 g a s h with
    | some (.nrm, s', h') => runF E n0 g b s' h'
    | r => r := by
  refine optext fun x => ?_
  rw [runF_iff]
  constructor
  · rintro ⟨n, hn⟩
    cases n with
    | zero => rw [run] at hn; cases hn
    | succ n =>
      simp only [run] at hn
      split at hn
      · rename_i s1 h1 ha
        rw [runF_iff.2 ⟨n, ha⟩]
        exact runF_iff.2 ⟨n, hn⟩
      · rename_i hne
        rw [runF_iff.2 ⟨n, hn⟩]
        split
        · rename_i s1 h1 he
          cases he
          exact absurd hn (hne s1 h1)
        · rfl
  · intro hx
    split at hx
    · rename_i s1 h1 ha
      obtain ⟨n, hn⟩ := runF_iff.1 ha
      obtain ⟨m, hm⟩ := runF_iff.1 hx
      exact ⟨max n m + 1, by simp only [run, run_le hn (Nat.le_max_left n m), run_le hm (Nat.le_max_right n m)]⟩
    · rename_i hne
      obtain ⟨n, hn⟩ := runF_iff.1 hx
      refine ⟨n + 1, ?_⟩
      simp only [run, hn]
      split
      · rename_i s1 h1 he
        cases he
        exact absurd hx (hne s1 h1)
      · rfl
theorem runF_cond {c : Opd} {a b : AC} {s : Slots} {h : Heap} : runF E n0 g (.cond c a b) s h = match val E s c with
    | .bool true => runF E n0 g a s h
    | .bool false => runF E n0 g b s h
    | _ => none := by
  refine optext fun x => ?_
  rw [runF_iff]
  constructor
  · rintro ⟨n, hn⟩
    cases n with
    | zero => rw [run] at hn; cases hn
    | succ n =>
      simp only [run] at hn
      split at hn
      · rename_i hv; simp only [hv]; exact runF_iff.2 ⟨n, hn⟩
      · rename_i hv; simp only [hv]; exact runF_iff.2 ⟨n, hn⟩
      · cases hn
  · intro hx
    split at hx
    · rename_i hv
      obtain ⟨n, hn⟩ := runF_iff.1 hx
      exact ⟨n + 1, by simp only [run, hv, hn]⟩
    · rename_i hv
      obtain ⟨n, hn⟩ := runF_iff.1 hx
      exact ⟨n + 1, by simp only [run, hv, hn]⟩
    · cases hx
theorem runF_block {L : Option (List Nat)} {id : Nat} {b : AC} {s : Slots} {h : Heap} : runF E n0 g (.block L id b) s h = match runF E n0 g b s h with
    | some (.nrm, s', h') => some (.nrm, clearO L s', h')
    | some (.exit j, s', h') => if j = id then some (.nrm, clearO L s', h') else some (.exit j, s', h')
    | r => r := by
  refine optext fun x => ?_
  rw [runF_iff]
  constructor
  · rintro ⟨n, hn⟩
    cases n with
    | zero => rw [run] at hn; cases hn
    | succ n =>
      simp only [run] at hn
      cases hb : run E n0 g (callF E) n b s h with
      | none => rw [hb] at hn; cases hn
      | some y =>
        rw [runF_iff.2 ⟨n, hb⟩]
        rw [hb] at hn
        exact hn
  · intro hx
    cases hb : runF E n0 g b s h with
    | none => rw [hb] at hx; cases hx
    | some y =>
      obtain ⟨n, hn⟩ := runF_iff.1 hb
      refine ⟨n + 1, ?_⟩
      simp only [run, hn]
      rw [hb] at hx
      exact hx
theorem runF_loop {L : Option (List Nat)} {b : AC} {s : Slots} {h : Heap} : runF E n0 g (.loop L b) s h = match runF E n0 g b (clearO L s) h with
    | some (.nrm, s', h') => runF E n0 g (.loop L b) s' h'
    | r => r := by
  refine optext fun x => ?_
  rw [runF_iff]
  constructor
  · rintro ⟨n, hn⟩
    cases n with
    | zero => rw [run] at hn; cases hn
    | succ n =>
      simp only [run] at hn
      split at hn
      · rename_i s1 h1 ha
        rw [runF_iff.2 ⟨n, ha⟩]
        exact runF_iff.2 ⟨n, hn⟩
      · rename_i hne
        rw [runF_iff.2 ⟨n, hn⟩]
        split
        · rename_i s1 h1 he
          cases he
          exact absurd hn (hne s1 h1)
        · rfl
  · intro hx
    split at hx
    · rename_i s1 h1 ha
      obtain ⟨n, hn⟩ := runF_iff.1 ha
      obtain ⟨m, hm⟩ := runF_iff.1 hx
      exact ⟨max n m + 1, by simp only [run, run_le hn (Nat.le_max_left n m), run_le hm (Nat.le_max_right n m)]⟩
    · rename_i hne
      obtain ⟨n, hn⟩ := runF_iff.1 hx
      refine ⟨n + 1, ?_⟩
      simp only [run, hn]
      split
      · rename_i s1 h1 he
        cases he
        exact absurd hx (hne s1 h1)
      · rfl
theorem callF_of {n f : Nat} {as : List AV} {h : Heap} {r : AV × Heap} (hc : call E n f as h = some r) : callF E f as h = some r := callF_iff.2 ⟨n, hc⟩
end
end Ab
/- Closed stretches of code, by the fueled machine. -/
namespace Ab
open Go
section
variable {E : Env} {n0 : Nat} {g : Bool}
/-- a chain of seqs without what follows its k-th part; what follows it -/
def chop : Nat → AC → AC
  | 0, _ => .skip
  | k + 1, .seq a b => .seq a (chop k b)
  | _ + 1, c => c
def tailAt : Nat → AC → AC
  | 0, c => c
  | k + 1, .seq _ b => tailAt k b
  | _ + 1, _ => .skip
theorem runF_of {n m : Nat} {c : AC} {s : Slots} {h : Heap} {r : Ext × Slots × Heap} (hr : run E n0 g (call E m) n c s h = some r) : runF E n0 g c s h = some r := by
  have ht : Tends (call E m) fun _ => callF E := fun f as h r hh => ⟨0, fun _ _ => callF_iff.2 ⟨m, hh⟩⟩
  obtain ⟨N, hN⟩ := run_tends ht n _ _ _ _ hr
  exact runF_iff.2 ⟨n, hN N n (Nat.le_refl _) (Nat.le_refl _)⟩
theorem runF_chop : ∀ (k : Nat) (c : AC) (s s' : Slots) (h h' : Heap), runF E n0 g (chop k c) s h = some (.nrm, s', h') → runF E n0 g c s h = runF E n0 g (tailAt k c) s' h'
  | 0, c, s, s', h, h', hr => by
    rw [show chop 0 c = .skip by cases c <;> rfl, runF_skip] at hr
    cases hr
    cases c <;> rfl
  | k + 1, .seq a b, s, s', h, h', hr => by
    rw [show chop (k + 1) (.seq a b) = .seq a (chop k b) from rfl, runF_seq] at hr
    rw [runF_seq, show tailAt (k + 1) (.seq a b) = tailAt k b from rfl]
    cases ha : runF E n0 g a s h with
    | none => rw [ha] at hr; cases hr
    | some x =>
      obtain ⟨e, s1, h1⟩ := x
      rw [ha] at hr
      cases e with
      | nrm => exact runF_chop k b s1 s' h1 h' hr
      | exit id => cases hr
      | ret => cases hr
  | k + 1, .skip, s, s', h, h', hr => by rw [show chop (k + 1) AC.skip = .skip from rfl] at hr; rw [hr]; exact runF_skip.symm
  | k + 1, .reg L pre ops dr, s, s', h, h', hr => by rw [show chop (k + 1) (AC.reg L pre ops dr) = .reg L pre ops dr from rfl] at hr; rw [hr]; exact runF_skip.symm
  | k + 1, .cond c a b, s, s', h, h', hr => by rw [show chop (k + 1) (AC.cond c a b) = .cond c a b from rfl] at hr; rw [hr]; exact runF_skip.symm
  | k + 1, .block L id b, s, s', h, h', hr => by rw [show chop (k + 1) (AC.block L id b) = .block L id b from rfl] at hr; rw [hr]; exact runF_skip.symm
  | k + 1, .loop L b, s, s', h, h', hr => by rw [show chop (k + 1) (AC.loop L b) = .loop L b from rfl] at hr; rw [hr]; exact runF_skip.symm
  | k + 1, .exit id, s, s', h, h', hr => by rw [show chop (k + 1) (AC.exit id) = .exit id from rfl] at hr; rw [hr]; exact runF_skip.symm
  | k + 1, .ret, s, s', h, h', hr => by rw [show chop (k + 1) AC.ret = .ret from rfl] at hr; rw [hr]; exact runF_skip.symm
/-- a closed stretch goes on behind itself -/
def goesOn (x : Option (Ext × Slots × Heap)) : Bool := match x with | some (.nrm, _, _) => true | _ => false
theorem chop_goes {k n m : Nat} {c : AC} {s : Slots} {h : Heap} (hr : goesOn (run E n0 g (call E m) n (chop k c) s h) = true) : ∃ s' h', runF E n0 g c s h = runF E n0 g (tailAt k c) s' h' := by
  cases hx : run E n0 g (call E m) n (chop k c) s h with
  | none => rw [hx] at hr; cases hr
  | some x =>
    obtain ⟨e, s1, h1⟩ := x
    rw [hx] at hr
    cases e with
    | nrm => exact ⟨s1, h1, runF_chop k c s s1 h h1 (runF_of hx)⟩
    | exit id => cases hr
    | ret => cases hr
end
end Ab
