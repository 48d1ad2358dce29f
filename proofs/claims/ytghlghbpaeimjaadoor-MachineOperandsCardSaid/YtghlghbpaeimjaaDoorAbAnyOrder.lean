/- A region whose operations Go may carry out in more than one order: the theorem. -/
import Derived.Test.YtghlghbpaeimjaaDoorAbDrawn2
namespace Ab
open Go

def Lst (lst : Array Bool) (j : Nat) : Prop := lst[j]? = some true
theorem getD_false {lst : Array Bool} {j : Nat} : lst.getD j false = true ↔ Lst lst j := by
  unfold Lst
  rw [Array.getD_eq_getD_getElem?]
  cases lst[j]? <;> simp
theorem getD_true {lst : Array Bool} {j : Nat} : lst.getD j true = false ↔ lst[j]? = some false := by
  rw [Array.getD_eq_getD_getElem?]
  cases lst[j]? <;> simp
theorem mem_ready {ops : Array Oper} {lst : Array Bool} {i : Nat} : i ∈ Region.ready .any ops lst ↔
    ∃ o, ops[i]? = some o ∧ lst[i]? = some false ∧ ∀ e ∈ o.after.toList, Region.binds .any e = true → Lst lst e.on := by
  unfold Region.ready
  simp only [List.mem_filter, List.mem_range, Bool.and_eq_true, Bool.not_eq_true', getD_true]
  constructor
  · rintro ⟨hi, h1, h2⟩
    rw [Array.getElem?_eq_getElem hi] at h2 ⊢
    refine ⟨_, rfl, h1, fun e he hb => ?_⟩
    simp only [Option.map_some, Option.getD_some, ← Array.all_toList, List.all_eq_true] at h2
    have := h2 e he
    rw [hb] at this
    exact getD_false.1 (by simpa using this)
  · rintro ⟨o, ho, h1, h2⟩
    refine ⟨lt_of_someA ho, h1, ?_⟩
    rw [ho]
    simp only [Option.map_some, Option.getD_some, ← Array.all_toList, List.all_eq_true]
    intro e he
    cases hb : Region.binds .any e with
    | false => rfl
    | true => simpa using getD_false.2 (h2 e he hb)

section
variable {E : Env} {cf : CallF} {n0 base : Nat} {g : Bool} {aos : List AOper} {σ : Nat → Slots} {η : Nat → Heap} {ν : Nat → AV}

theorem Trace.eta (t : Trace E cf n0 g base aos σ η ν) (k : Nat) (ao : AOper) (h : aos[k]? = some ao) (hw : ao.op.writes = false) : η (k + 1) = η k := by
  rcases (t.op k ao h).1 with ⟨_, h1⟩ | ⟨_, _, h1⟩
  · unfold stepOp at h1
    have hc : ao.op.isCall = false := by cases hop : ao.op <;> rw [hop] at hw <;> first | rfl | cases hw
    rw [hc] at h1
    simp only [Bool.false_eq_true, if_false] at h1
    exact (nonwriter hw h1).1
  · exact h1
theorem Trace.eta_eq (t : Trace E cf n0 g base aos σ η ν) : ∀ (m k : Nat), k + m ≤ aos.length → (∀ j ao, k ≤ j → j < k + m → aos[j]? = some ao → ao.op.writes = false) → η (k + m) = η k
  | 0, _, _, _ => rfl
  | m + 1, k, hl, h => by
    have hk : k + m < aos.length := by omega
    rw [show k + (m + 1) = k + m + 1 by omega, t.eta (k + m) _ (List.getElem?_eq_getElem hk) (h (k + m) _ (by omega) (by omega) (List.getElem?_eq_getElem hk))]
    exact t.eta_eq m k (by omega) fun j ao h1 h2 => h j ao h1 (by omega)
theorem Trace.eta_same (t : Trace E cf n0 g base aos σ η ν) {k k' : Nat} (hk : k ≤ aos.length) (hk' : k' ≤ aos.length) (h : ∀ j ao, (k ≤ j ∧ j < k' ∨ k' ≤ j ∧ j < k) → aos[j]? = some ao → ao.op.writes = false) : η k = η k' := by
  rcases Nat.le_total k k' with hle | hle
  · obtain ⟨m, rfl⟩ := Nat.exists_eq_add_of_le hle
    exact (t.eta_eq m k hk' fun j ao h1 h2 => h j ao (.inl ⟨h1, h2⟩)).symm
  · obtain ⟨m, rfl⟩ := Nat.exists_eq_add_of_le hle
    exact t.eta_eq m k' hk fun j ao h1 h2 => h j ao (.inr ⟨h1, h2⟩)
/-- one object alone -/
theorem Trace.at_eq (t : Trace E cf n0 g base aos σ η ν) (o : Nat) : ∀ (m k : Nat), k + m ≤ aos.length → (∀ j ao, k ≤ j → j < k + m → aos[j]? = some ao → ao.op.writes = true → (η j)[o]? = (η (j + 1))[o]?) → (η (k + m))[o]? = (η k)[o]?
  | 0, _, _, _ => rfl
  | m + 1, k, hl, h => by
    have hk : k + m < aos.length := by omega
    have ih := t.at_eq o m k (by omega) fun j ao h1 h2 => h j ao h1 (by omega)
    rw [show k + (m + 1) = k + m + 1 by omega, ← ih]
    cases hw : (aos[k + m]).op.writes with
    | false => rw [t.eta (k + m) _ (List.getElem?_eq_getElem hk) hw]
    | true => exact (h (k + m) _ (by omega) (by omega) (List.getElem?_eq_getElem hk) hw).symm
theorem Trace.at_same (t : Trace E cf n0 g base aos σ η ν) (o : Nat) {k k' : Nat} (hk : k ≤ aos.length) (hk' : k' ≤ aos.length)
    (h : ∀ j ao, (k ≤ j ∧ j < k' ∨ k' ≤ j ∧ j < k) → aos[j]? = some ao → ao.op.writes = true → (η j)[o]? = (η (j + 1))[o]?) : (η k)[o]? = (η k')[o]? := by
  rcases Nat.le_total k k' with hle | hle
  · obtain ⟨m, rfl⟩ := Nat.exists_eq_add_of_le hle
    exact (t.at_eq o m k hk' fun j ao h1 h2 => h j ao (.inl ⟨h1, h2⟩)).symm
  · obtain ⟨m, rfl⟩ := Nat.exists_eq_add_of_le hle
    exact t.at_eq o m k' hk fun j ao h1 h2 => h j ao (.inr ⟨h1, h2⟩)
theorem get_put_ne {s : Slots} {d : Option Nat} {x : Nat} {v : AV} (h : d ≠ some x) : get (put s d v) x = get s x := by
  cases d with
  | none => rfl
  | some y =>
    show (if x = y then v else get s x) = _
    rw [if_neg fun e => h (by rw [e])]
theorem get_put_eq {s : Slots} {x : Nat} {v : AV} : get (put s (some x) v) x = v := by
  show (if x = x then v else get s x) = _
  rw [if_pos rfl]
theorem Trace.slot (t : Trace E cf n0 g base aos σ η ν) (x : Nat) : ∀ (m k : Nat), k + m ≤ aos.length → (∀ j ao, k ≤ j → j < k + m → aos[j]? = some ao → ao.dst ≠ some x) → get (σ (k + m)) x = get (σ k) x
  | 0, _, _, _ => rfl
  | m + 1, k, hl, h => by
    have hk : k + m < aos.length := by omega
    rw [show k + (m + 1) = k + m + 1 by omega, (t.op (k + m) _ (List.getElem?_eq_getElem hk)).2, get_put_ne (h (k + m) _ (by omega) (by omega) (List.getElem?_eq_getElem hk))]
    exact t.slot x m k (by omega) fun j ao h1 h2 => h j ao h1 (by omega)
end

structure Inv (E : Env) (n0 nt base : Nat) (g : Bool) (S0 : St) (ops : Array Oper) (aos : List AOper) (σ : Nat → Slots) (η : Nat → Heap) (lst : Array Bool) (S : St) (a : Act) : Prop where
  lsz : lst.size = ops.size
  dc : ∀ j o, ops[j]? = some o → Lst lst j → ∀ e ∈ o.after.toList, Region.binds .any e = true → Lst lst e.on
  slots : ∀ x k, k ≤ ops.size → (∀ (j : Nat) (ao : AOper), aos[j]? = some ao → ao.dst = some x → (Lst lst j ↔ j < k)) → RV S (get (σ k) x) (a.tmps.getD x undef)
  heap : ∃ k0, k0 ≤ ops.size ∧ (∀ (j : Nat) (ao : AOper), aos[j]? = some ao → ao.op.writes = true → (Lst lst j ↔ j < k0)) ∧ S.H = η k0
  kept : ∀ j ao ob, aos[j]? = some ao → ¬ Lst lst j → resv ao.op = some ob → n0 ≤ base + cnt (aos.take j) ∧ base + cnt (aos.take j) < S.H.length ∧ S.m (base + cnt (aos.take j)) = .non ∧ S.H[base + cnt (aos.take j)]? = some ob
  good : Good S
  glob : GlobOk E S
  size : a.tmps.size = nt
  defers : a.defers = []
  low : n0 ≤ S.H.length
  step : Step n0 g S0 S

theorem lst_set {lst : Array Bool} {i j : Nat} (hi : lst[i]? = some false) : Lst (lst.setIfInBounds i true) j ↔ j = i ∨ Lst lst j := by
  unfold Lst
  rw [Array.getElem?_setIfInBounds]
  by_cases h : i = j
  · subst h
    have := lt_of_someA hi
    simp [this]
  · simp [h, Ne.symm h, eq_comm]

theorem all_listed {ops : Array Oper} {lst : Array Bool} (hsz : lst.size = ops.size) (hb : ∀ j o, ops[j]? = some o → ∀ e ∈ o.after.toList, Region.binds .any e = true → e.on < j) (hr : Region.ready .any ops lst = []) :
    ∀ j, j < ops.size → Lst lst j := by
  intro j
  induction j using Nat.strongRecOn with
  | _ j ih =>
    intro hj
    cases hl : lst[j]? with
    | none => rw [Array.getElem?_eq_getElem (by omega)] at hl; cases hl
    | some b =>
      cases b with
      | true => exact hl
      | false =>
        exfalso
        have : j ∈ Region.ready .any ops lst := mem_ready.2 ⟨_, Array.getElem?_eq_getElem hj, hl, fun e he hbd => ih e.on (hb j _ (Array.getElem?_eq_getElem hj) e he hbd) (by have := hb j _ (Array.getElem?_eq_getElem hj) e he hbd; omega)⟩
        rw [hr] at this
        cases this

section
variable {P : Program} {E : Env} {cf : CallF} {Q : Exit → Act → World → Prop}

theorem any_wp (hcf : CfOk P E cf) {ops : Array Oper} {mt : Nat → Bool} {n0 nt base : Nat} {g : Bool} {S0 : St} {aos : List AOper} {d : List (Nat × List Nat)} {σ : Nat → Slots} {η : Nat → Heap} {ν : Nat → AV}
    (hops : ∀ o ∈ ops.toList, ∀ d, o.dst = some d → d < nt) (hS : opsS P mt ops 0 0 ops.toList = some aos) (F : Facts ops aos d) (t : Trace E cf n0 g base aos σ η ν)
    (hd : ∀ i js j ao, (i, js) ∈ d → j ∈ js → aos[i]? = some ao → ∀ o, looks E (σ i) ao = some o → (η j)[o]? = (η (j + 1))[o]?)
    (hQ : ∀ S' a', Sim E n0 g nt S0 S' (σ ops.size) (η ops.size) a' → Q .normal a' S'.w) :
    ∀ (fuel : Nat) (lst : Array Bool) (S : St) (a : Act), Inv E n0 nt base g S0 ops aos σ η lst S a → lst.toList.count false ≤ fuel → wpAny P .any ops Q fuel lst a S.w := by
  obtain ⟨hlen, hget⟩ := opsS_get _ _ _ _ hS
  simp only [Array.length_toList, Array.getElem?_toList, Nat.zero_add] at hlen hget
  have hlt : ∀ (j : Nat) (ao : AOper), aos[j]? = some ao → j < ops.size := fun j ao h => by rw [← hlen]; exact (List.getElem?_eq_some_iff.1 h).1
  have hopOf : ∀ (j : Nat) (ao : AOper), aos[j]? = some ao → ∃ o : Oper, ops[j]? = some o ∧ ao.dst = o.dst := by
    intro j ao h
    have hj := hlt j ao h
    obtain ⟨ao', gd, h1, _, _⟩ := hget j _ (Array.getElem?_eq_getElem hj)
    rw [h1] at h
    cases h
    exact ⟨_, Array.getElem?_eq_getElem hj, rfl⟩
  -- the end
  have hend : ∀ lst S a, Inv E n0 nt base g S0 ops aos σ η lst S a → (∀ j, j < ops.size → Lst lst j) → Q .normal a S.w := by
    intro lst S a I hall
    refine hQ S a ⟨?_, I.good, I.glob, fun x => ?_, I.size, I.defers, ?_, I.step⟩
    · obtain ⟨k0, hk0, hw, hH⟩ := I.heap
      rw [hH]
      refine t.eta_same (by omega) (by omega) fun j ao hj hao => ?_
      cases hwr : ao.op.writes with
      | false => rfl
      | true =>
        have h1 := (hw j ao hao hwr).1 (hall j (hlt j ao hao))
        have h2 := hlt j ao hao
        omega
    · exact I.slots x ops.size (Nat.le_refl _) fun j ao hao _ => ⟨fun _ => hlt j ao hao, fun h => hall j h⟩
    · obtain ⟨k0, hk0, hw, hH⟩ := I.heap
      have : η k0 = η ops.size := by
        refine t.eta_same (by omega) (by omega) fun j ao hj hao => ?_
        cases hwr : ao.op.writes with
        | false => rfl
        | true =>
          have h1 := (hw j ao hao hwr).1 (hall j (hlt j ao hao))
          have h2 := hlt j ao hao
          omega
      rw [← this, ← hH]
      exact I.low
  intro fuel
  induction fuel with
  | zero =>
    intro lst S a I hc
    have hall : ∀ j, j < ops.size → Lst lst j := by
      intro j hj
      have h0 : lst.toList.count false = 0 := by omega
      rw [List.count_eq_zero] at h0
      unfold Lst
      have hj' : j < lst.size := by rw [I.lsz]; exact hj
      rw [Array.getElem?_eq_getElem hj']
      cases hb : lst[j] with
      | true => rfl
      | false => exact absurd (by rw [← hb]; exact Array.mem_toList_iff.2 (Array.getElem_mem hj')) h0
    refine ⟨?_, hend lst S a I hall⟩
    rw [List.eq_nil_iff_forall_not_mem]
    intro i hi
    obtain ⟨o, ho, h1, _⟩ := mem_ready.1 hi
    have := hall i (lt_of_someA ho)
    unfold Lst at this
    rw [h1] at this
    cases this
  | succ fuel ih =>
    intro lst S a I hc
    refine ⟨fun hr => hend lst S a I (all_listed I.lsz F.back hr), fun i hi => ?_⟩
    obtain ⟨o, ho, hun, hrdy⟩ := mem_ready.1 hi
    have hi : i < ops.size := lt_of_someA ho
    have hnl : ¬ Lst lst i := by unfold Lst; rw [hun]; simp
    obtain ⟨ao, gd, hao, hop, hgd⟩ := hget i o ho
    have hc' : (lst.setIfInBounds i true).toList.count false ≤ fuel := by
      rw [Array.toList_setIfInBounds, List.count_set (by rw [Array.length_toList, I.lsz]; exact hi)]
      have : lst.toList[i]'(by rw [Array.length_toList, I.lsz]; exact hi) = false := by
        rw [← Array.getElem?_toList] at hun
        exact (List.getElem?_eq_some_iff.1 hun).2
      rw [this]
      show lst.toList.count false - 1 + 0 ≤ fuel
      omega
    have hanc : ∀ p ∈ (ancs ops.toList []).getD i [], Lst lst p := anc_ready I.dc ho hrdy
    have hncl : ∀ j, j < ops.size → i ∈ (ancs ops.toList []).getD j [] → ¬ Lst lst j := fun j hj hij hL => hnl (anc_closed I.dc j _ (Array.getElem?_eq_getElem hj) hL i hij)
    -- writers are all ordered with one another
    have hww : ao.writes = true → ∀ (j : Nat) (b : AOper), aos[j]? = some b → b.op.writes = true → (Lst lst j ↔ j < i) := by
      intro hw j b hb hbw
      have hj := hlt j b hb
      rcases Nat.lt_trichotomy j i with h | h | h
      · refine ⟨fun _ => h, fun _ => ?_⟩
        rcases F.pair i hi j h with h1 | ⟨_, h1⟩
        · exact hanc j h1
        · exact absurd ⟨hbw, hw⟩ (h1 _ _ hb hao)
      · subst h; exact ⟨fun hL => absurd hL hnl, fun h => by omega⟩
      · refine ⟨fun hL => ?_, fun h' => by omega⟩
        rcases F.pair j hj i h with h1 | ⟨_, h1⟩
        · exact absurd hL (hncl j hj h1)
        · exact absurd ⟨hw, hbw⟩ (h1 _ _ hao hb)
    -- the slots that it reads
    have hsl : ∀ x ∈ slotsOf ops o, RV S (get (σ i) x) (a.tmps.getD x undef) := by
      intro x hx
      refine I.slots x i (by omega) fun j b hb hdst => ?_
      obtain ⟨oj, hoj, hde⟩ := hopOf j b hb
      rw [hde] at hdst
      have hj := lt_of_someA hoj
      rcases Nat.lt_trichotomy j i with h | h | h
      · refine ⟨fun _ => h, fun _ => ?_⟩
        rcases F.pair i hi j h with h1 | ⟨⟨p, q, hp, hq, hap⟩, _⟩
        · exact hanc j h1
        · rw [hoj] at hp; rw [ho] at hq; cases hp; cases hq
          exact absurd hx ((apart_spec hap).1 x hdst).1
      · subst h; exact ⟨fun hL => absurd hL hnl, fun h => by omega⟩
      · refine ⟨fun hL => ?_, fun h' => by omega⟩
        rcases F.pair j hj i h with h1 | ⟨⟨p, q, hp, hq, hap⟩, _⟩
        · exact absurd hL (hncl j hj h1)
        · rw [ho] at hp; rw [hoj] at hq; cases hp; cases hq
          exact absurd hx ((apart_spec hap).2 x hdst)
    have hsl1 : ∀ x ∈ o.op.operands.toList, ∀ s, x = .tmp s → RV S (get (σ i) s) (a.tmps.getD s undef) := fun x hx s hxs => hsl s (by
      subst hxs
      unfold slotsOf
      rw [List.mem_append, List.mem_filterMap]
      exact .inl ⟨_, hx, rfl⟩)
    have hslg : ∀ x b, gd = some (x, b) → RV S (get (σ i) x) (a.tmps.getD x undef) := fun x b hg => hsl x (by
      unfold slotsOf
      rw [List.mem_append]
      right
      subst hg
      unfold oguard at hgd
      split at hgd
      · cases hgd
      · rename_i j b' hgu
        split at hgd
        · rename_i x' hx'
          cases hgd
          rw [hgu]
          simp only [hx', Option.mem_toList]
        · cases hgd)
    -- what is new in the slots
    have hslots : ∀ S' u, Step n0 g S S' → RV S' (ν i) u → ∀ x k, k ≤ ops.size → (∀ (j : Nat) (b : AOper), aos[j]? = some b → b.dst = some x → (Lst (lst.setIfInBounds i true) j ↔ j < k)) → RV S' (get (σ k) x) ((a.put o.dst u).tmps.getD x undef) := by
      intro S' u e hrv x k hk hw
      by_cases hdx : o.dst = some x
      · have hik : i < k := (hw i _ hao hdx).1 ((lst_set hun).2 (.inl rfl))
        obtain ⟨m, rfl⟩ := Nat.exists_eq_add_of_lt hik
        have hg : get (σ (i + m + 1)) x = get (σ (i + 1)) x := by
          rw [show i + m + 1 = i + 1 + m by omega]
          refine t.slot x m (i + 1) (by omega) fun j b h1 h2 hb hbd => ?_
          have hL : Lst lst j := ((lst_set hun).1 ((hw j b hb hbd).2 (by omega))).resolve_left (by omega)
          obtain ⟨oj, hoj, hde⟩ := hopOf j b hb
          have hj := lt_of_someA hoj
          rcases F.pair j hj i (by omega) with h1 | ⟨⟨p, q, hp, hq, hap⟩, _⟩
          · exact hncl j hj h1 hL
          · rw [ho] at hp; rw [hoj] at hq; cases hp; cases hq
            exact ((apart_spec hap).1 x hdx).2 (by rw [← hde, hbd])
        have hsi := (t.op i _ hao).2
        rw [hg, hsi]
        show RV S' (get (put (σ i) o.dst (ν i)) x) _
        rw [hdx, get_put_eq]
        show RV S' (ν i) ((a.tmps.setIfInBounds x u).getD x undef)
        have hxs : x < a.tmps.size := by
          rw [I.size]
          exact hops o (by rw [Array.mem_toList_iff]; exact Array.mem_of_getElem? ho) x hdx
        simpa [Array.getD, hxs] using hrv
      · have h0 := I.slots x k hk fun j b hb hbd => by
          have := hw j b hb hbd
          rw [← this, lst_set hun]
          refine ⟨.inr, fun h => h.resolve_left fun hji => ?_⟩
          subst hji
          rw [hao] at hb
          cases hb
          exact hdx hbd
        have h1 := h0.step e
        cases hdd : o.dst with
        | none => exact h1
        | some y =>
          have hne : y ≠ x := fun h => hdx (by rw [hdd, h])
          show RV S' _ ((a.tmps.setIfInBounds y u).getD x undef)
          have : (a.tmps.setIfInBounds y u).getD x undef = a.tmps.getD x undef := by
            simp only [Array.getD_eq_getD_getElem?, Array.getElem?_setIfInBounds_ne hne]
          rw [this]; exact h1
    have hdc : ∀ (j : Nat) (p : Oper), ops[j]? = some p → Lst (lst.setIfInBounds i true) j → ∀ e ∈ p.after.toList, Region.binds .any e = true → Lst (lst.setIfInBounds i true) e.on := by
      intro j p hp hL e he hb
      rw [lst_set hun] at hL ⊢
      right
      rcases hL with rfl | hL
      · rw [ho] at hp; cases hp; exact hrdy e he hb
      · exact I.dc j p hp hL e he hb
    -- how it goes on
    have next : ∀ S' u, Step n0 g S S' → Good S' → RV S' (ν i) u → (∃ k0, k0 ≤ ops.size ∧ (∀ (j : Nat) (b : AOper), aos[j]? = some b → b.op.writes = true → (Lst (lst.setIfInBounds i true) j ↔ j < k0)) ∧ S'.H = η k0) →
        (∀ p, p < S.H.length → S.m p = .non → (∀ r', rkOf ao = some r' → p ≠ base + r') → S'.m p = .non ∧ S'.H[p]? = S.H[p]?) →
        wpAny P .any ops Q fuel (lst.setIfInBounds i true) (a.put o.dst u) S'.w := by
      intro S' u e hG hrv hheap hpend
      refine ih _ S' _ ⟨by rw [Array.size_setIfInBounds, I.lsz], hdc, hslots S' u e hrv, hheap, fun j b ob hb hL hr => ?_, hG, I.glob.step e, by rw [put_size, I.size], by rw [put_defers, I.defers], Nat.le_trans I.low e.len, I.step.trans e⟩ hc'
      have hji : j ≠ i := fun h => hL ((lst_set hun).2 (.inl h))
      have hLj : ¬ Lst lst j := fun h => hL ((lst_set hun).2 (.inr h))
      obtain ⟨h1, h2, h3, h4⟩ := I.kept j b ob hb hLj hr
      obtain ⟨h5, h6⟩ := hpend _ h2 h3 fun r' hr' => by
        rw [rkOf_opS hop] at hr'
        split at hr'
        · rename_i hra
          cases hr'
          rcases Nat.lt_or_ge j i with h | h
          · have := cnt_lt h hb (by rw [hr]; rfl); omega
          · have := cnt_lt (show i < j by omega) hao hra; omega
        · cases hr'
      exact ⟨h1, by have := e.len; omega, h5, h6.trans h4⟩
    have hheapW : ao.writes = true → ∃ k0, k0 ≤ ops.size ∧ (∀ (j : Nat) (b : AOper), aos[j]? = some b → b.op.writes = true → (Lst (lst.setIfInBounds i true) j ↔ j < k0)) ∧ k0 = i + 1 := fun hw =>
      ⟨i + 1, by omega, fun j b hb hbw => by
        rw [lst_set hun, hww hw j b hb hbw]
        omega, rfl⟩
    have hHi : ao.writes = true → S.H = η i := by
      intro hw
      obtain ⟨k0, hk0, hkw, hH⟩ := I.heap
      rw [hH]
      refine t.eta_same (by omega) (by omega) fun j b hj hb => ?_
      cases hbw : b.op.writes with
      | false => rfl
      | true =>
        have h1 := hkw j b hb hbw
        have h2 := hww hw j b hb hbw
        rw [h1] at h2
        omega
    have hheapN : ao.writes = false → ∃ k0, k0 ≤ ops.size ∧ (∀ (j : Nat) (b : AOper), aos[j]? = some b → b.op.writes = true → (Lst (lst.setIfInBounds i true) j ↔ j < k0)) ∧ S.H = η k0 := by
      intro hw
      obtain ⟨k0, hk0, hkw, hH⟩ := I.heap
      refine ⟨k0, hk0, fun j b hb hbw => ?_, hH⟩
      rw [lst_set hun, ← hkw j b hb hbw]
      refine ⟨fun h => h.resolve_left fun hji => ?_, .inr⟩
      subst hji
      rw [hao] at hb
      cases hb
      rw [hw] at hbw
      cases hbw
    unfold wpOp
    rw [ho]
    show (if Region.wanted o (yielded ops a.tmps) = true then o.wp P a S.w _ Q ∨ (o.asks P a S.w ∧ LetsOut Q) else _)
    rcases (t.op i _ hao).1 with ⟨hw, hst⟩ | ⟨hw, hnu, hη⟩
    · rw [if_pos (wants_ok hgd hslg hw)]
      left
      have hvals : ∀ x ∈ o.op.operands.toList, RV S (val E (σ i) (opd x)) (a.eval x) := fun x hx => opd_fixed I.glob x (hsl1 x hx)
      have hkept : ∀ ob, resv ao = some ob → n0 ≤ base + (0 + cnt (aos.take i)) ∧ S.m (base + (0 + cnt (aos.take i))) = .non ∧ S.H[base + (0 + cnt (aos.take i))]? = some ob := by
        intro ob hob
        obtain ⟨h1, _, h3, h4⟩ := I.kept i _ ob hao hnl hob
        rw [Nat.zero_add]
        exact ⟨h1, h3, h4⟩
      cases hwr : ao.writes with
      | true =>
        obtain ⟨k0, hk0, hkw, rfl⟩ := hheapW hwr
        exact step_wp hcf hop hst (hHi hwr) I.good I.glob hvals (by rw [← hHi hwr]; exact I.low) (by simpa using hkept) fun S' u hS' e hG' hrv hpend =>
          next S' u e hG' hrv ⟨i + 1, hk0, hkw, hS'⟩ (fun p hp => hpend p (by rw [← hHi hwr]; exact hp))
      | false =>
        have hcl : ao.isCall = false := by cases hop : ao <;> rw [hop] at hwr <;> first | rfl | cases hwr
        have hst' : stepOp E cf n0 g base (σ i) S.H ao = some (ν i, S.H) := by
          unfold stepOp at hst ⊢
          rw [hcl] at hst ⊢
          simp only [Bool.false_eq_true, if_false] at hst ⊢
          refine (nonwriter hwr hst).2 S.H fun q hq => ?_
          have hlook : looks E (σ i) ⟨o.dst, ao, gd⟩ = some q := by
            unfold looks
            cases ao <;> simp only [looksV, reduceCtorEq] at hq
            · simp only [hw]; exact hq
            · simp only [hw]; exact hq
          have hrd : ao.reads = true := by
            cases ao <;> simp only [looksV, reduceCtorEq] at hq
            · rfl
            · rfl
          obtain ⟨k0, hk0, hkw, hH⟩ := I.heap
          rw [hH]
          refine t.at_same q (by omega) (by omega) fun j b hj hb hbw => ?_
          have hjl := hlt j b hb
          have hL := hkw j b hb hbw
          have hne : j ≠ i := fun h => by subst h; rw [hao] at hb; cases hb; rw [hwr] at hbw; cases hbw
          obtain ⟨js, h1, h2⟩ := F.look i _ hi hao hrd j b hjl hb hbw ⟨fun hji hin => by have := hL.1 (hanc j hin); omega, fun hji hin => hncl j hjl hin (hL.2 (by omega))⟩
          exact hd i js j _ h1 h2 hao q hlook
        exact step_wp hcf hop hst' rfl I.good I.glob hvals I.low (by simpa using hkept) fun S' u hS' e hG' hrv hpend =>
          next S' u e hG' hrv (by obtain ⟨k0, h1, h2, h3⟩ := hheapN hwr; exact ⟨k0, h1, h2, hS'.trans h3⟩) hpend
    · have hwf : ¬ Region.wanted o (yielded ops a.tmps) = true := by rw [wants_ok hgd hslg hw]; simp
      rw [if_neg hwf]
      refine next S undef (.refl _ _ _) I.good (by rw [hnu]; exact ⟨#[], rfl, .nil⟩) ?_ (fun p _ hm _ => ⟨hm, rfl⟩)
      cases hwr : ao.writes with
      | true =>
        obtain ⟨k0, hk0, hkw, rfl⟩ := hheapW hwr
        exact ⟨i + 1, hk0, hkw, by rw [hη]; exact hHi hwr⟩
      | false => exact hheapN hwr
end
end Ab
