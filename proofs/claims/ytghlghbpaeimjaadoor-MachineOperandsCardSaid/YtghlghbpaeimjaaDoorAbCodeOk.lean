/- Code, in the model's weakest-precondition form. -/
import Derived.Test.YtghlghbpaeimjaaDoorAbAnyOrder
import Derived.LoopN
namespace Ab
open Go

theorem regS_inv {P : Program} {mt : Nat → Bool} {ops : Array Oper} {draw : Bool} {x : AC} (h : regS P mt ops draw = some x) :
    ∃ aos dr, opsS P mt ops 0 0 ops.toList = some aos ∧ x = .reg none (aos.filterMap fun o => resv o.op) aos dr ∧ ((draw = false ∧ dr = none) ∨ ∃ d, draw = true ∧ dr = some d ∧ drawS ops aos = some d) := by
  unfold regS at h
  split at h
  · cases h
  · rename_i aos haos
    split at h
    · rename_i hd
      split at h
      · rename_i d hdd
        cases h
        exact ⟨aos, some d, haos, rfl, .inr ⟨d, hd, rfl, hdd⟩⟩
      · cases h
    · rename_i hd
      cases h
      exact ⟨aos, none, haos, rfl, .inl ⟨by simpa using hd, rfl⟩⟩

def CodeInv (P : Program) (mt : Nat → Nat → Bool) (cc : Code) : AC → Prop
  | .skip => cc = .skip
  | .reg L pre ops dr => ∃ id os draw, cc = .region id os draw ∧ regS P (mt id) os draw = some (.reg L pre ops dr)
  | .seq a b => ∃ x y, cc = .seq x y ∧ codeS P mt x = some a ∧ codeS P mt y = some b
  | .cond c a b => ∃ c' x y, cc = .cond c' x y ∧ c = opd c' ∧ codeS P mt x = some a ∧ codeS P mt y = some b
  | .block L id b => ∃ y, cc = .block id y ∧ L = none ∧ codeS P mt y = some b
  | .loop L b => ∃ y, cc = .loop y ∧ L = none ∧ codeS P mt y = some b
  | .exit id => cc = .exit id
  | .ret => cc = .ret

theorem codeS_inv {P : Program} {mt : Nat → Nat → Bool} {cc : Code} {x : AC} (h : codeS P mt cc = some x) : CodeInv P mt cc x := by
  cases cc <;> simp only [codeS] at h
  case region id ops draw =>
    obtain ⟨aos, dr, h1, rfl, h2⟩ := regS_inv h
    exact ⟨_, _, _, rfl, h⟩
  case skip => cases h; rfl
  case exit => cases h; rfl
  case ret => cases h; rfl
  case seq a b =>
    split at h
    · rename_i x y hx hy; cases h; exact ⟨_, _, rfl, hx, hy⟩
    · cases h
  case cond c a b =>
    split at h
    · rename_i x y hx hy; cases h; exact ⟨_, _, _, rfl, rfl, hx, hy⟩
    · cases h
  case block id b =>
    split at h
    · rename_i x hx; cases h; exact ⟨_, rfl, rfl, hx⟩
    · cases h
  case loop b =>
    split at h
    · rename_i x hx; cases h; exact ⟨_, rfl, rfl, hx⟩
    · cases h
  all_goals cases h

theorem get_map (s : Slots) (x : Nat) : ∀ L : List Nat, get (L.map fun t => (t, get s t)) x = if x ∈ L then get s x else .no
  | [] => rfl
  | y :: L => by
    show (if x = y then get s y else get (L.map fun t => (t, get s t)) x) = _
    rw [get_map s x L]
    by_cases h : x = y
    · subst h; simp
    · simp [h]
theorem SlotsOk.clear {S : St} {s : Slots} {a : Act} (h : SlotsOk S s a) (L : Option (List Nat)) : SlotsOk S (clearO L s) a := by
  cases L with
  | none => exact h
  | some L =>
    intro t
    show RV S (get (L.map fun t => (t, get s t)) t) _
    rw [get_map]
    split
    · exact h t
    · trivial
theorem Sim.clear {E : Env} {n0 nt : Nat} {g : Bool} {S0 S : St} {s : Slots} {h : Heap} {a : Act} (m : Sim E n0 g nt S0 S s h a) (L : Option (List Nat)) : Sim E n0 g nt S0 S (clearO L s) h a :=
  { m with slots := m.slots.clear L }

/-- where a region begins: places for its own objects -/
def St.room (S : St) (pre : List Ob) : St := { S with H := S.H ++ pre, m := fun p => if p < S.H.length then S.m p else .non }
theorem room_at {S : St} {pre : List Ob} {o : Nat} (h : o < S.H.length) : (S.room pre).H[o]? = S.H[o]? ∧ (S.room pre).m o = S.m o := by
  refine ⟨?_, ?_⟩
  · show (S.H ++ pre)[o]? = _
    rw [List.getElem?_append_left h]
  · show (if o < S.H.length then S.m o else .non) = _
    rw [if_pos h]
theorem room_m {S : St} {pre : List Ob} {o : Nat} (h : S.H.length ≤ o) : (S.room pre).m o = .non := by
  show (if o < S.H.length then S.m o else .non) = _
  rw [if_neg (by omega)]
theorem own_room {S : St} {pre : List Ob} {o b : Nat} (h : own (S.room pre) o = some b) : own S o = some b ∧ o < S.H.length := by
  rcases Nat.lt_or_ge o S.H.length with hl | hl
  · unfold own at h ⊢
    rw [(room_at hl).1, (room_at hl).2] at h
    exact ⟨h, hl⟩
  · rw [own_non (room_m hl)] at h
    cases h
theorem step_room (n0 : Nat) (g : Bool) {S : St} {pre : List Ob} (hn : n0 ≤ S.H.length) : Step n0 g S (S.room pre) where
  wext := .refl _ _
  cells := fun o ys h => by
    have hl := lt_of_some h
    rw [(room_at hl).1, (room_at hl).2]
    exact ⟨fun _ => rfl, ys, h, rfl⟩
  frs := fun o sz n h => by
    have hl := lt_of_some h
    rw [(room_at hl).1, (room_at hl).2]
    exact ⟨n, h, Nat.le_refl _, fun _ => rfl⟩
  size := Nat.le_refl _
  keep := fun _ _ _ => rfl
  owns := fun o b h => .inl ⟨o, (own_room h).1⟩
  os := ⟨rfl, rfl, rfl⟩
  froz := fun _ => rfl
  muts := fun _ _ _ _ h => h
  len := by show S.H.length ≤ (S.H ++ pre).length; simp
  pend := fun o ho hm => by
    have hl : o < S.H.length := by omega
    rw [(room_at hl).1, (room_at hl).2]
    exact ⟨hm, rfl⟩
  low := fun _ o ho ys h x hx => .inr ⟨ys, by rw [← (room_at (show o < S.H.length by omega)).1]; exact h, hx⟩
theorem good_room {S : St} (h : Good S) {pre : List Ob} (hp : ∀ ob ∈ pre, ob = .dead ∨ ∃ xs, ob = .cells xs) : Good (S.room pre) where
  objs := fun o => by
    rcases Nat.lt_or_ge o S.H.length with hl | hl
    · exact (h.objs o).of_step (step_room 0 true (Nat.zero_le _)) (room_at hl).1 (room_at hl).2 (fun _ _ => rfl) fun _ _ _ h => h
    · unfold ObjOk
      rw [room_m hl]
      cases ho : (S.room pre).H[o]? with
      | none => trivial
      | some ob =>
        have : ob ∈ pre := by
          have : (S.H ++ pre)[o]? = some ob := ho
          rw [List.getElem?_append_right hl] at this
          exact List.mem_of_getElem? this
        rcases hp ob this with rfl | ⟨xs, rfl⟩ <;> trivial
  disj := fun o o' b h1 h2 => h.disj o o' b (own_room h1).1 (own_room h2).1
  there := fun o b h1 => h.there o b (own_room h1).1
theorem resv_kind {ao : AOp} {ob : Ob} (h : resv ao = some ob) : ob = .dead ∨ ∃ xs, ob = .cells xs := by
  cases ao <;> simp only [resv, reduceCtorEq, Option.some.injEq] at h <;> first | exact .inl h.symm | exact .inr ⟨_, h.symm⟩

def Ext.toExit : Ext → Exit
  | .nrm => .normal
  | .exit id => .exit id
  | .ret => .ret

section
variable {P : Program} {E : Env} {cf : CallF}

theorem opsTrace_len {n0 base : Nat} {g : Bool} : ∀ (aos : List AOper) (s : Slots) (h : Heap), (opsTrace E cf n0 g base aos s h).length ≤ aos.length + 1
  | [], _, _ => by simp [opsTrace]
  | o :: aos, s, h => by
    simp only [opsTrace, List.length_cons]
    split
    · split
      · rename_i v h' _
        have := opsTrace_len (n0 := n0) (base := base) (g := g) aos (put s o.dst v) h'
        omega
      · simp
    · have := opsTrace_len (n0 := n0) (base := base) (g := g) aos (put s o.dst (.tup [])) h
      omega
theorem not_lst0 {n j : Nat} : ¬ Lst (Array.replicate n false) j := by
  unfold Lst
  rw [Array.getElem?_replicate]
  split <;> simp

theorem reg_wp (hmix : P.follows .mixedOrders = true) (hcf : CfOk P E cf) {n0 nt : Nat} {g : Bool} {S0 S : St} {Q : Exit → Act → World → Prop} {mt : Nat → Nat → Bool} {id : Nat} {ops : Array Oper} {draw : Bool} {aos : List AOper} {L : Option (List Nat)} {dr : Option (List (Nat × List Nat))} {s s' : Slots} {h h' : Heap} {a : Act} {n : Nat} {r : Ext}
    (hops : dstsBelow nt (.region id ops draw) = true) (haos : opsS P (mt id) ops 0 0 ops.toList = some aos) (hdr : (draw = false ∧ dr = none) ∨ ∃ d, draw = true ∧ dr = some d ∧ drawS ops aos = some d)
    (hrun : run E n0 g cf (n + 1) (.reg L (aos.filterMap fun o => resv o.op) aos dr) s h = some (r, s', h')) (hsim : Sim E n0 g nt S0 S s h a) (hQ : ∀ S' a', Sim E n0 g nt S0 S' s' h' a' → Q r.toExit a' S'.w) :
    (Code.region id ops draw).wp P Q a S.w := by
  have hops' : ∀ o ∈ ops.toList, ∀ d, o.dst = some d → d < nt := by
    intro o ho d hd
    simp only [dstsBelow, List.all_eq_true] at hops
    have := hops o ho
    rw [hd] at this
    simpa using this
  have hpre : ∀ ob ∈ (aos.filterMap fun o => resv o.op), ob = .dead ∨ ∃ xs, ob = .cells xs := by
    intro ob hob
    obtain ⟨o, _, ho⟩ := List.mem_filterMap.1 hob
    exact resv_kind ho
  have hlow := hsim.low
  have hH := hsim.heap
  subst hH
  let S1 := S.room (aos.filterMap fun o => resv o.op)
  have hst : Step n0 g S S1 := step_room n0 g hlow
  have hG1 : Good S1 := good_room hsim.good hpre
  simp only [run] at hrun
  split at hrun
  · cases hrun
  · rename_i s1 h1 hor
    have hfin : r = .nrm ∧ s' = clearO L s1 ∧ h' = h1 ∧ (∀ d, dr = some d → drawOk (opsTrace E cf n0 g S.H.length aos s (S.H ++ aos.filterMap fun o => resv o.op)) d = true) := by
      split at hrun
      · cases hrun; exact ⟨rfl, rfl, rfl, fun d h => by cases h⟩
      · split at hrun
        · rename_i hk; cases hrun; exact ⟨rfl, rfl, rfl, fun d h => by cases h; exact hk⟩
        · cases hrun
    obtain ⟨rfl, rfl, rfl, hdok⟩ := hfin
    have hkept0 : ∀ q ob, (aos.filterMap fun o => resv o.op)[q]? = some ob → n0 ≤ S.H.length + q ∧ S.H.length + q < S1.H.length ∧ S1.m (S.H.length + q) = .non ∧ S1.H[S.H.length + q]? = some ob := by
      intro q ob hq
      refine ⟨by omega, ?_, room_m (by omega), ?_⟩
      · show _ < (S.H ++ _).length
        rw [List.length_append]
        have := lt_of_some hq
        omega
      · show (S.H ++ _)[_]? = _
        rw [List.getElem?_append_right (by omega)]
        simpa using hq
    rcases hdr with ⟨rfl, rfl⟩ | ⟨d, rfl, rfl, hds⟩
    · refine wp_region ?_
      rw [List.range_eq_range']
      have : ops.size = ops.toList.length := by simp
      rw [this]
      refine ops_wp (S := S1) (S0 := S0) (nt := nt) (n0 := n0) (g := g) (base := S.H.length) hcf hops' ops.toList 0 0 aos s s1 _ h' a (fun j => by simp) haos hor ?_ (fun q ob hq => ?_) fun S' a' m => hQ S' a' (m.clear L)
      · exact ⟨rfl, hG1, hsim.glob.step hst, hsim.slots.step hst, hsim.size, hsim.defers, Nat.le_trans hlow hst.len, hsim.step.trans hst⟩
      · have := hkept0 q ob hq
        simpa using this
    · refine wp_region_any hmix ?_
      obtain ⟨σ, η, ν, ht, h0, h00, h2, h3, h4⟩ := opsRun_trace aos s s1 _ h' hor
      have hlen : aos.length = ops.size := by have := (opsS_get _ _ _ _ haos).1; simpa using this
      have hstd : Step n0 g S1 S1.drew := step_drew _ _ _
      have hd : ∀ i js j ao, (i, js) ∈ d → j ∈ js → aos[i]? = some ao → ∀ o, looks E (σ i) ao = some o → (η j)[o]? = (η (j + 1))[o]? := by
        intro i js j ao hi hj hao o hlo
        have hok := hdok d rfl
        unfold drawOk at hok
        rw [List.all_eq_true] at hok
        have h5 := hok (i, js) hi
        simp only [List.all_eq_true] at h5
        have h6 := h5 j hj
        unfold sameAt at h6
        have hil : i < aos.length := lt_of_some hao
        have h7 := h4 i (by omega)
        rw [hao] at h7
        simp only [hlo] at h7
        rw [h7] at h6
        simp only at h6
        split at h6
        · rename_i a0 _ b0 _ ha0 hb0
          have hlt : ∀ k x, (opsTrace E cf n0 g S.H.length aos s (S.H ++ aos.filterMap fun o => resv o.op))[k]? = some x → k ≤ aos.length → x.1 = η k := by
            intro k x hk hkl
            rw [h4 k hkl] at hk
            cases hk
            rfl
          have hbl : ∀ k x, (opsTrace E cf n0 g S.H.length aos s (S.H ++ aos.filterMap fun o => resv o.op))[k]? = some x → k ≤ aos.length := by
            intro k x hk
            rcases Nat.lt_or_ge aos.length k with h8 | h8
            · have := opsTrace_len (E := E) (cf := cf) (n0 := n0) (g := g) (base := S.H.length) aos s (S.H ++ aos.filterMap fun o => resv o.op)
              have := lt_of_some hk
              omega
            · exact h8
          have e1 := hlt j _ ha0 (hbl j _ ha0)
          have e2 := hlt (j + 1) _ hb0 (hbl _ _ hb0)
          simp only at e1 e2
          rw [← e1, ← e2]
          simpa using h6
        · cases h6
      have key := any_wp (S0 := S0) (nt := nt) (Q := Q) hcf hops' haos (facts_of hds) ht hd (fun S' a' m => hQ S' a' (by rw [← hlen, h2, h3] at m; exact m.clear L)) ops.size (Array.replicate ops.size false) S1.drew a
        { lsz := by simp
          dc := fun j o _ hL => absurd hL not_lst0
          slots := fun x k hk hw => ?_
          heap := ⟨0, Nat.zero_le _, fun j b hb _ => ⟨fun hL => absurd hL not_lst0, fun h => absurd h (Nat.not_lt_zero _)⟩, h00.symm⟩
          kept := fun j ao ob hj _ hr => by
            have := filterMap_at aos j ao ob hj hr
            exact hkept0 _ ob this
          good := good_drew hG1
          glob := (hsim.glob.step hst).step hstd
          size := hsim.size
          defers := hsim.defers
          low := Nat.le_trans hlow hst.len
          step := (hsim.step.trans hst).trans hstd } (by simp)
      · exact key
      · have : get (σ k) x = get (σ 0) x := by
          have := ht.slot x k 0 (by omega) fun j b _ hj hb hbd => by
            have hL := (hw j b hb hbd).2 (by omega)
            exact not_lst0 hL
          rwa [Nat.zero_add] at this
        rw [this, h0]
        exact ((hsim.slots.step hst).step hstd) x

theorem code_wp (hmix : P.follows .mixedOrders = true) (hcf : CfOk P E cf) {n0 nt : Nat} {g : Bool} {S0 : St} {mt : Nat → Nat → Bool} : ∀ n : Nat,
    (∀ (c : AC) (cc : Code) (Q : Exit → Act → World → Prop) (s s' : Slots) (h h' : Heap) (S : St) (a : Act) (r : Ext), codeS P mt cc = some (erase c) → dstsBelow nt cc = true → run E n0 g cf n c s h = some (r, s', h') → Sim E n0 g nt S0 S s h a →
      (∀ S' a', Sim E n0 g nt S0 S' s' h' a' → Q r.toExit a' S'.w) → cc.wp P Q a S.w) ∧
    (∀ (L : Option (List Nat)) (b : AC) (cc : Code) (Q : Exit → Act → World → Prop) (s s' : Slots) (h h' : Heap) (S : St) (a : Act) (r : Ext), codeS P mt cc = some (erase b) → dstsBelow nt cc = true → run E n0 g cf n (.loop L b) s h = some (r, s', h') → Sim E n0 g nt S0 S s h a →
      (∀ S' a', Sim E n0 g nt S0 S' s' h' a' → Q r.toExit a' S'.w) → Code.rounds P cc Q n a S.w) := by
  intro n
  induction n with
  | zero =>
    refine ⟨fun c cc Q s s' h h' S a r _ _ hrun => ?_, fun L b cc Q s s' h h' S a r _ _ hrun => ?_⟩
    · simp only [run] at hrun; cases hrun
    · simp only [run] at hrun; cases hrun
  | succ n ih =>
    obtain ⟨ihA, ihB⟩ := ih
    have hB : ∀ (L : Option (List Nat)) (b : AC) (cc : Code) (Q : Exit → Act → World → Prop) (s s' : Slots) (h h' : Heap) (S : St) (a : Act) (r : Ext), codeS P mt cc = some (erase b) → dstsBelow nt cc = true → run E n0 g cf (n + 1) (.loop L b) s h = some (r, s', h') → Sim E n0 g nt S0 S s h a →
        (∀ S' a', Sim E n0 g nt S0 S' s' h' a' → Q r.toExit a' S'.w) → Code.rounds P cc Q (n + 1) a S.w := by
      intro L b cc Q s s' h h' S a r hcc hdst hrun hsim hQ
      rw [rounds_succ]
      simp only [run] at hrun
      split at hrun
      · rename_i s1 h1 hb
        exact ihA b cc _ _ s1 h h1 S a .nrm hcc hdst hb (hsim.clear L) fun S' a' m => ihB L b cc Q s1 s' h1 h' S' a' r hcc hdst hrun m hQ
      · rename_i hne
        exact ihA b cc _ _ s' h h' S a r hcc hdst hrun (hsim.clear L) fun S' a' m => by
          have := hQ S' a' m
          cases r with
          | nrm => exact absurd hrun (hne s' h')
          | exit id => exact this
          | ret => exact this
    refine ⟨?_, hB⟩
    intro c cc Q s s' h h' S a r hcc hdst hrun hsim hQ
    have hi := codeS_inv hcc
    cases c with
    | skip =>
      obtain rfl : cc = .skip := hi
      simp only [run] at hrun
      cases hrun
      exact wp_skip (hQ S a hsim)
    | exit id =>
      obtain rfl : cc = .exit id := hi
      simp only [run] at hrun
      cases hrun
      exact wp_exit (hQ S a hsim)
    | ret =>
      obtain rfl : cc = .ret := hi
      simp only [run] at hrun
      cases hrun
      exact wp_ret (hQ S a hsim)
    | seq x y =>
      obtain ⟨cx, cy, rfl, hx, hy⟩ := hi
      simp only [dstsBelow, Bool.and_eq_true] at hdst
      refine wp_seq ?_
      simp only [run] at hrun
      split at hrun
      · rename_i s1 h1 hb
        exact ihA x cx _ s s1 h h1 S a .nrm hx hdst.1 hb hsim fun S' a' m => ihA y cy Q s1 s' h1 h' S' a' r hy hdst.2 hrun m hQ
      · rename_i hne
        exact ihA x cx _ s s' h h' S a r hx hdst.1 hrun hsim fun S' a' m => by
          have := hQ S' a' m
          cases r with
          | nrm => exact absurd hrun (hne s' h')
          | exit id => exact this
          | ret => exact this
    | cond o x y =>
      obtain ⟨c', cx, cy, rfl, rfl, hx, hy⟩ := hi
      simp only [dstsBelow, Bool.and_eq_true] at hdst
      have hv := opd_fixed (a := a) hsim.glob c' fun t _ => hsim.slots t
      simp only [run] at hrun
      split at hrun
      · rename_i hb
        exact wp_cond_true (rv_bool hb hv) (ihA x cx Q s s' h h' S a r hx hdst.1 hrun hsim hQ)
      · rename_i hb
        exact wp_cond_false (rv_bool hb hv) (ihA y cy Q s s' h h' S a r hy hdst.2 hrun hsim hQ)
      · cases hrun
    | block L id b =>
      obtain ⟨y, rfl, _, hy⟩ := hi
      simp only [dstsBelow] at hdst
      refine wp_block ?_
      simp only [run] at hrun
      split at hrun
      · rename_i s1 h1 hb
        cases hrun
        exact ihA b y _ s s1 h h' S a .nrm hy hdst hb hsim fun S' a' m => hQ S' a' (m.clear L)
      · rename_i j s1 h1 hb
        split at hrun
        · rename_i hj
          cases hrun
          exact ihA b y _ s s1 h h' S a (.exit j) hy hdst hb hsim fun S' a' m => by
            show (if j = id then Q .normal a' S'.w else _)
            rw [if_pos hj]
            exact hQ S' a' (m.clear L)
        · rename_i hj
          cases hrun
          exact ihA b y _ s s' h h' S a (.exit j) hy hdst hb hsim fun S' a' m => by
            show (if j = id then Q .normal a' S'.w else Q (.exit j) a' S'.w)
            rw [if_neg hj]
            exact hQ S' a' m
      · rename_i hn1 hn2
        refine ihA b y _ s s' h h' S a r hy hdst hrun hsim fun S' a' m => ?_
        have := hQ S' a' m
        cases r with
        | nrm => exact absurd hrun (hn1 s' h')
        | exit j => exact absurd hrun (hn2 j s' h')
        | ret => exact this
    | loop L b =>
      obtain ⟨y, rfl, _, hy⟩ := hi
      simp only [dstsBelow] at hdst
      exact wp_loop_rounds (n + 1) (hB L b y Q s s' h h' S a r hy hdst hrun hsim hQ)
    | reg L pre ops dr =>
      obtain ⟨id, os, draw, rfl, hr⟩ := hi
      obtain ⟨aos, dr', haos, he, hdr⟩ := regS_inv hr
      simp only [AC.reg.injEq] at he
      obtain ⟨_, rfl, rfl, rfl⟩ := he
      exact reg_wp hmix hcf hdst haos hdr hrun hsim hQ
end
end Ab
