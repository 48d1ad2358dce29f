/- Every order that the edges allow comes to what the text's order comes to. -/
import Derived.Test.YtghlghbpaeimjaaDoorAbDrawn
namespace Ab
open Go

/-! ### ancestors by the edges -/
def ancRow (o : Oper) (acc : List (List Nat)) : List Nat := o.after.toList.flatMap fun e => if Region.binds .any e then e.on :: acc.getD e.on [] else []
theorem ancs_eq (o : Oper) (r : List Oper) (acc : List (List Nat)) : ancs (o :: r) acc = ancs r (acc ++ [ancRow o acc]) := rfl
theorem ancs_len : ∀ (l : List Oper) (acc : List (List Nat)), (ancs l acc).length = acc.length + l.length
  | [], acc => by simp [ancs]
  | o :: r, acc => by rw [ancs_eq, ancs_len r]; simp; omega
theorem ancs_pre : ∀ (l : List Oper) (acc : List (List Nat)) (j : Nat), j < acc.length → (ancs l acc)[j]? = acc[j]?
  | [], acc, j, _ => rfl
  | o :: r, acc, j, hj => by rw [ancs_eq, ancs_pre r _ j (by simp; omega), List.getElem?_append_left hj]
theorem ancs_at : ∀ (l : List Oper) (acc : List (List Nat)) (j : Nat) (o : Oper), l[j]? = some o → (ancs l acc)[acc.length + j]? = some (ancRow o ((ancs l acc).take (acc.length + j)))
  | [], acc, j, o, h => by simp at h
  | p :: r, acc, 0, o, h => by
    obtain rfl : p = o := by simpa using h
    rw [ancs_eq, ancs_pre r _ _ (by simp)]
    simp only [Nat.add_zero, List.getElem?_concat_length, Option.some.injEq]
    congr 1
    apply List.ext_getElem?
    intro i
    rw [List.getElem?_take]
    split
    · rename_i hi; rw [ancs_pre r _ i (by simp; omega), List.getElem?_append_left hi]
    · rename_i hi; rw [List.getElem?_eq_none (by omega)]
  | p :: r, acc, j + 1, o, h => by
    have := ancs_at r (acc ++ [ancRow p acc]) j o (by simpa using h)
    rw [ancs_eq]
    simp only [List.length_append, List.length_cons, List.length_nil] at this
    rw [show acc.length + (j + 1) = acc.length + (0 + 1) + j by omega]
    exact this

theorem anc_mem {l : List Oper} {j p : Nat} {o : Oper} (h : l[j]? = some o) (hp : p ∈ (ancs l []).getD j []) :
    ∃ e ∈ o.after.toList, Region.binds .any e = true ∧ (p = e.on ∨ (e.on < j ∧ p ∈ (ancs l []).getD e.on [])) := by
  have h1 := ancs_at l [] j o h
  simp only [List.length_nil, Nat.zero_add] at h1
  rw [List.getD_eq_getElem?_getD, h1] at hp
  simp only [Option.getD_some, ancRow, List.mem_flatMap] at hp
  obtain ⟨e, he, hp⟩ := hp
  split at hp
  · rename_i hb
    refine ⟨e, he, hb, ?_⟩
    rcases List.mem_cons.1 hp with h | h
    · exact .inl h
    · right
      rw [List.getD_eq_getElem?_getD, List.getElem?_take] at h
      split at h
      · rename_i hlt; exact ⟨hlt, by rw [List.getD_eq_getElem?_getD]; exact h⟩
      · simp at h
  · cases hp

/-- what is closed under the edges is closed under what they come to -/
theorem anc_closed {ops : Array Oper} {L : Nat → Prop} (hdc : ∀ j o, ops[j]? = some o → L j → ∀ e ∈ o.after.toList, Region.binds .any e = true → L e.on) :
    ∀ j o, ops[j]? = some o → L j → ∀ p ∈ (ancs ops.toList []).getD j [], L p := by
  intro j
  induction j using Nat.strongRecOn with
  | _ j ih =>
    intro o ho hL p hp
    obtain ⟨e, he, hb, h⟩ := anc_mem (by rw [Array.getElem?_toList]; exact ho) hp
    have hLe := hdc j o ho hL e he hb
    rcases h with rfl | ⟨hlt, hp'⟩
    · exact hLe
    · cases hoe : ops[e.on]? with
      | none =>
        have : (ancs ops.toList [])[e.on]? = none := by
          apply List.getElem?_eq_none
          rw [ancs_len]
          simp only [List.length_nil, Nat.zero_add, Array.length_toList]
          rcases Nat.lt_or_ge e.on ops.size with h | h
          · rw [Array.getElem?_eq_getElem h] at hoe; cases hoe
          · exact h
        rw [List.getD_eq_getElem?_getD, this] at hp'
        simp at hp'
      | some oe => exact ih e.on hlt oe hoe hLe p hp'
theorem anc_ready {ops : Array Oper} {L : Nat → Prop} (hdc : ∀ j o, ops[j]? = some o → L j → ∀ e ∈ o.after.toList, Region.binds .any e = true → L e.on) {i : Nat} {o : Oper} (ho : ops[i]? = some o)
    (hr : ∀ e ∈ o.after.toList, Region.binds .any e = true → L e.on) : ∀ p ∈ (ancs ops.toList []).getD i [], L p := by
  intro p hp
  obtain ⟨e, he, hb, h⟩ := anc_mem (by rw [Array.getElem?_toList]; exact ho) hp
  rcases h with rfl | ⟨hlt, hp'⟩
  · exact hr e he hb
  · cases hoe : ops[e.on]? with
    | none =>
      have : (ancs ops.toList [])[e.on]? = none := by
        apply List.getElem?_eq_none
        rw [ancs_len]
        simp only [List.length_nil, Nat.zero_add, Array.length_toList]
        rcases Nat.lt_or_ge e.on ops.size with h | h
        · rw [Array.getElem?_eq_getElem h] at hoe; cases hoe
        · exact h
      rw [List.getD_eq_getElem?_getD, this] at hp'
      simp at hp'
    | some oe => exact anc_closed hdc e.on oe hoe (hr e he hb) p hp'

/-! ### the operations and their places -/
def cnt (l : List AOper) : Nat := (l.filterMap fun o => resv o.op).length
theorem cnt_cons (o : AOper) (l : List AOper) : cnt (o :: l) = (if (resv o.op).isSome then 1 else 0) + cnt l := by
  unfold cnt
  cases h : resv o.op <;> simp [List.filterMap_cons, h]; omega
theorem cnt_append (l l' : List AOper) : cnt (l ++ l') = cnt l + cnt l' := by simp [cnt]
theorem filterMap_at : ∀ (aos : List AOper) (j : Nat) (ao : AOper) (ob : Ob), aos[j]? = some ao → resv ao.op = some ob → (aos.filterMap fun o => resv o.op)[cnt (aos.take j)]? = some ob
  | [], j, ao, ob, h, _ => by simp at h
  | o :: aos, 0, ao, ob, h, hr => by
    obtain rfl : o = ao := by simpa using h
    simp [cnt, List.filterMap_cons, hr]
  | o :: aos, j + 1, ao, ob, h, hr => by
    have := filterMap_at aos j ao ob (by simpa using h) hr
    rw [List.take_succ_cons, cnt_cons]
    cases ho : resv o.op with
    | none => simpa [List.filterMap_cons, ho] using this
    | some b =>
      simp only [List.filterMap_cons, ho, Option.isSome_some, if_true]
      rw [Nat.add_comm, List.getElem?_cons_succ]
      exact this
theorem cnt_lt {aos : List AOper} {i j : Nat} {ao : AOper} (hij : i < j) (h : aos[i]? = some ao) (hr : (resv ao.op).isSome = true) : cnt (aos.take i) < cnt (aos.take j) := by
  have h1 : aos.take j = aos.take i ++ (aos.take j).drop i := by
    have e := (List.take_append_drop i (aos.take j)).symm
    rw [List.take_take, Nat.min_eq_left (by omega)] at e
    exact e
  have h2 : ((aos.take j).drop i)[0]? = some ao := by rw [List.getElem?_drop, Nat.add_zero, List.getElem?_take, if_pos hij]; exact h
  rw [h1, cnt_append]
  cases hd : (aos.take j).drop i with
  | nil => rw [hd] at h2; simp at h2
  | cons x xs =>
    rw [hd] at h2
    obtain rfl : x = ao := by simpa using h2
    rw [cnt_cons, hr]
    simp only [if_true]
    omega

theorem opsS_get {P : Program} {mt : Nat → Bool} {ops : Array Oper} : ∀ (rest : List Oper) (i r : Nat) (aos : List AOper), opsS P mt ops i r rest = some aos →
    aos.length = rest.length ∧ ∀ j o, rest[j]? = some o → ∃ ao gd, aos[j]? = some ⟨o.dst, ao, gd⟩ ∧ opS P (r + cnt (aos.take j)) (mt (i + j)) o.op = some ao ∧ oguard ops o = some gd
  | [], i, r, aos, h => by cases h; exact ⟨rfl, fun j o h => by simp at h⟩
  | p :: rest, i, r, aos, h => by
    simp only [opsS] at h
    split at h
    · rename_i ao gd hao hgd
      split at h
      · rename_i aos' haos
        cases h
        obtain ⟨hl, hg⟩ := opsS_get rest (i + 1) _ aos' haos
        refine ⟨by simp [hl], fun j o hj => ?_⟩
        cases j with
        | zero =>
          obtain rfl : p = o := by simpa using hj
          exact ⟨ao, gd, rfl, by simpa [cnt] using hao, hgd⟩
        | succ j =>
          obtain ⟨ao', gd', h1, h2, h3⟩ := hg j o (by simpa using hj)
          refine ⟨ao', gd', by simpa using h1, ?_, h3⟩
          rw [List.take_succ_cons, cnt_cons, show i + (j + 1) = i + 1 + j by omega]
          have e : r + ((if (resv ao).isSome = true then 1 else 0) + cnt (aos'.take j)) = (if (resv ao).isSome = true then r + 1 else r) + cnt (aos'.take j) := by split <;> omega
          rw [e]; exact h2
      · cases h
    · cases h

/-! ### what is held once for a region -/
structure Facts (ops : Array Oper) (aos : List AOper) (d : List (Nat × List Nat)) : Prop where
  back : ∀ j o, ops[j]? = some o → ∀ e ∈ o.after.toList, Region.binds .any e = true → e.on < j
  pair : ∀ j, j < ops.size → ∀ i, i < j → i ∈ (ancs ops.toList []).getD j [] ∨
    ((∃ x y, ops[i]? = some x ∧ ops[j]? = some y ∧ slotsApart ops x y = true) ∧ ∀ a b, aos[i]? = some a → aos[j]? = some b → ¬ (a.op.writes = true ∧ b.op.writes = true))
  look : ∀ i ao, i < ops.size → aos[i]? = some ao → ao.op.reads = true → ∀ j b, j < ops.size → aos[j]? = some b → b.op.writes = true →
    ((j < i → j ∉ (ancs ops.toList []).getD i []) ∧ (¬ j < i → i ∉ (ancs ops.toList []).getD j [])) → ∃ js, (i, js) ∈ d ∧ j ∈ js

theorem facts_of {ops : Array Oper} {aos : List AOper} {d : List (Nat × List Nat)} (h : drawS ops aos = some d) : Facts ops aos d := by
  unfold drawS at h
  simp only at h
  split at h
  · rename_i hc
    cases h
    simp only [Bool.and_eq_true, List.all_eq_true, List.mem_range] at hc
    obtain ⟨h1, h2⟩ := hc
    have hsz : ∀ j o, ops[j]? = some o → j < ops.size := fun j o ho => lt_of_someA ho
    refine ⟨fun j o ho e he hb => ?_, fun j hj i hi => ?_, fun i ao hi hao hrd j b hj hb hwb hn => ?_⟩
    · have := h1 j (hsz j o ho)
      rw [ho] at this
      simp only [List.all_eq_true] at this
      have := this e he
      rw [hb] at this
      simpa using this
    · have := h2 j hj i hi
      simp only [Bool.or_eq_true, Bool.and_eq_true, Bool.not_eq_true'] at this
      rcases this with h | ⟨h, hw⟩
      · left; simpa using h
      · right
        refine ⟨?_, fun a b ha hb => ?_⟩
        · rw [Array.getElem?_eq_getElem (show i < ops.size by omega), Array.getElem?_eq_getElem hj] at h ⊢
          exact ⟨_, _, rfl, rfl, h⟩
        · rw [ha, hb] at hw
          simpa using hw
    · refine ⟨(List.range ops.size).filter fun j => (match aos[j]? with | some o => o.op.writes | none => false) && (if j < i then !((ancs ops.toList []).getD i []).contains j else !((ancs ops.toList []).getD j []).contains i), ?_, ?_⟩
      · rw [List.mem_filterMap]
        refine ⟨i, by simpa using hi, ?_⟩
        rw [hao]
        simp only [hrd, if_true]
        split
        · rename_i hemp
          exfalso
          rw [List.isEmpty_iff, List.filter_eq_nil_iff] at hemp
          have := hemp j (by simpa using hj)
          rw [hb] at this
          simp only [hwb, Bool.true_and] at this
          split at this
          · rename_i hlt; exact this (by simpa using hn.1 hlt)
          · rename_i hlt; exact this (by simpa using hn.2 hlt)
        · rfl
      · rw [List.mem_filter]
        refine ⟨by simpa using hj, ?_⟩
        rw [hb]
        simp only [hwb, Bool.true_and]
        split
        · rename_i hlt; simpa using hn.1 hlt
        · rename_i hlt; simpa using hn.2 hlt
  · cases h

theorem apart_spec {ops : Array Oper} {x y : Oper} (h : slotsApart ops x y = true) : (∀ t, x.dst = some t → t ∉ slotsOf ops y ∧ y.dst ≠ some t) ∧ (∀ t, y.dst = some t → t ∉ slotsOf ops x) := by
  unfold slotsApart at h
  simp only [Bool.and_eq_true] at h
  refine ⟨fun t ht => ?_, fun t ht => ?_⟩
  · have := h.1; rw [ht] at this; simpa using this
  · have := h.2; rw [ht] at this; simpa using this
end Ab
