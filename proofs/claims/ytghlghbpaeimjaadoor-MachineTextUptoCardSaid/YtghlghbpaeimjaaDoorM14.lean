/- Parse answers the instruction whose text it is handed, and nothing for any other text; both Parses alike. -/
import Derived.Test.YtghlghbpaeimjaaDoorM13
namespace Go.Proofs.YtghlghbpaeimjaaDoor
open Go Go.Proofs Ab
set_option maxRecDepth 100000
set_option linter.unusedSimpArgs false
theorem splitC_ne {c : UInt8} (hc : c ≠ 44) (cur t : List UInt8) : splitC cur (c :: t) = splitC (cur ++ [c]) t := by
  cases t with
  | nil => simp [splitC]
  | cons d r => rw [splitC, if_neg (fun h => hc h.1)]
theorem splitC_all : ∀ (x cur t : List UInt8), (∀ c ∈ x, c ≠ 44) → splitC cur (x ++ t) = splitC (cur ++ x) t
  | [], cur, t, _ => by simp
  | c :: x, cur, t, h => by
    rw [List.cons_append, splitC_ne (h c (by simp)), splitC_all x (cur ++ [c]) t fun d hd => h d (by simp [hd])]
    simp
theorem splitC_join : ∀ (r : List (List UInt8)) (cur x : List UInt8), (∀ c ∈ x, c ≠ 44) → (∀ y ∈ r, ∀ c ∈ y, c ≠ 44) → splitC cur (x ++ r.flatMap fun y => 44 :: 32 :: y) = (cur ++ x) :: r
  | [], cur, x, hx, _ => by
    rw [splitC_all x cur _ hx]
    simp [splitC]
  | y :: r, cur, x, hx, hr => by
    rw [splitC_all x cur _ hx, List.flatMap_cons, List.cons_append, List.cons_append, splitC, if_pos ⟨rfl, rfl⟩, splitC_join r [] y (hr y (by simp)) fun z hz => hr z (by simp [hz])]
    simp
theorem fmtI_chars {n : Int} {c : UInt8} (h : c ∈ fmtI n) : isDec c = true ∨ c = 45 := by
  unfold fmtI at h
  split at h
  · rcases List.mem_cons.1 h with h | h
    · exact .inr h
    · exact .inl (digs_all _ c h)
  · exact .inl (digs_all _ c h)
theorem fmtI_no44 {n : Int} {c : UInt8} (h : c ∈ fmtI n) : c ≠ 44 := by
  rcases fmtI_chars h with h | h
  · intro e; rw [e] at h; exact absurd h (by decide)
  · rw [h]; decide
theorem opsL_no44 {op a b c n : Int} {x : List UInt8} (hx : x ∈ opsL op a b c n) : ∀ d ∈ x, d ≠ 44 := by
  intro d hd
  unfold opsL at hx
  have key : ∀ m, x = fmtI m ∨ x = 114 :: fmtI m → d ≠ 44 := by
    intro m hm
    rcases hm with hm | hm
    · rw [hm] at hd; exact fmtI_no44 hd
    · rw [hm] at hd
      rcases List.mem_cons.1 hd with h | h
      · rw [h]; decide
      · exact fmtI_no44 h
  simp only [List.mem_append] at hx
  rcases hx with ((hx | hx) | hx) | hx
  · split at hx
    · simp at hx; exact key a (.inl hx)
    · split at hx
      · simp at hx; exact key a (.inr hx)
      · simp at hx
  · split at hx
    · simp at hx; exact key b (.inr hx)
    · simp at hx
  · split at hx
    · simp at hx; exact key c (.inr hx)
    · simp at hx
  · split at hx
    · simp at hx; exact key n (.inl hx)
    · simp at hx
theorem iName_nosp (op : Int) (h : 1 ≤ op ∧ op ≤ 37) : ∀ c ∈ iName op, notSp c = true := by
  have := op_all (p := fun op => (iName op).all notSp = true) (by decide +kernel) op h.1 h.2
  exact List.all_eq_true.1 this
theorem iName_look (op : Int) (h : 1 ≤ op ∧ op ≤ 37) : lookIx table 0 (iName op) = some (op - 1).toNat := by
  exact op_all (p := fun op => lookIx table 0 (iName op) = some (op - 1).toNat) (by decide +kernel) op h.1 h.2
theorem takeWhile_all {p : UInt8 → Bool} : ∀ {a b : List UInt8}, (∀ c ∈ a, p c = true) → (b.head?.all fun c => !p c) = true → (a ++ b).takeWhile p = a ∧ (a ++ b).dropWhile p = b
  | [], [], _, _ => ⟨rfl, rfl⟩
  | [], d :: b, _, hb => by
    simp at hb
    simp [hb]
  | c :: a, b, ha, hb => by
    have h1 := ha c (by simp)
    obtain ⟨h2, h3⟩ := takeWhile_all (p := p) (a := a) (b := b) (fun d hd => ha d (by simp [hd])) hb
    simp [h1, h2, h3]
theorem name_fmt {op a b c n : Int} (h : validP op a b c n) : nameP (fmtV op a b c n) = iName op ∧ opsP (fmtV op a b c n) = opsL op a b c n := by
  have hop : 1 ≤ op ∧ op ≤ 37 := by unfold validP at h; exact h.1
  unfold fmtV
  rw [if_pos h]
  cases hl : opsL op a b c n with
  | nil =>
    have := takeWhile_all (p := notSp) (a := iName op) (b := []) (iName_nosp op hop) rfl
    simp only [joinL]
    refine ⟨this.1, ?_⟩
    unfold opsP
    rw [this.2]
  | cons x r =>
    have := takeWhile_all (p := notSp) (a := iName op) (b := joinL (x :: r)) (iName_nosp op hop) rfl
    refine ⟨this.1, ?_⟩
    unfold opsP
    rw [this.2]
    simp only [joinL]
    rw [splitC_join r [] x (opsL_no44 (by rw [hl]; simp)) fun y hy => opsL_no44 (by rw [hl]; simp [hy])]
    rfl
theorem regV_fmt {a : Int} (h1 : 0 ≤ a) (h2 : a < 8) : regV (114 :: fmtI a) = a := by
  unfold fmtI
  rw [if_neg (by omega), digs_lt (by omega)]
  unfold regV
  simp only
  rw [dig_toNat (by omega), if_pos ⟨trivial, by omega, by omega⟩]
  omega
theorem cand10_fmt {op a b c n : Int} (h : validP op a b c n) : cand10 op (opsL op a b c n) = some (a, b, c, n) := by
  have hR := valid_R h
  have pa := parseW_fmt hR.1
  have pn := parseW_fmt hR.2.2.2
  have h' := h
  unfold validP at h
  have hf1 := (form_ok op).2 h.1
  have hf2 := form_rng op
  by_cases o6 : op = 6
  · subst o6
    have hb : b = 0 := by rw [form6] at h; omega
    have hc : c = 0 := by rw [form6] at h; omega
    have ha : 0 ≤ a ∧ a ≤ 6 := by omega
    simp [cand10, opsL, form6, pa, pn, ha, hb, hc]
  · have ra := fun h1 h2 => regV_fmt (a := a) h1 h2
    have hf : formR op = 1 ∨ formR op = 2 ∨ formR op = 3 ∨ formR op = 4 ∨ formR op = 5 ∨ formR op = 6 ∨ formR op = 7 ∨ formR op = 8 := by omega
    have ea : 0 ≤ a ∧ a < 8 := by omega
    have eb : 0 ≤ b ∧ b < 8 := by omega
    have ec : 0 ≤ c ∧ c < 8 := by omega
    have qa := regV_fmt ea.1 ea.2
    have qb := regV_fmt eb.1 eb.2
    have qc := regV_fmt ec.1 ec.2
    rcases hf with hf | hf | hf | hf | hf | hf | hf | hf <;> rw [hf] at h <;> simp only [cand10, opsL, o6, hf] <;> simp [pa, pn, qa, qb, qc] <;> omega
theorem unR_r {a : Int} : unR (114 :: fmtI a) = fmtI a := by
  unfold unR
  rw [if_pos]
  · rfl
  · refine ⟨?_, rfl⟩
    have : 0 < (fmtI a).length := by
      unfold fmtI
      split
      · simp
      · exact digs_pos _
    simp
    omega
theorem unR_n {n : Int} : unR (fmtI n) = fmtI n := by
  unfold unR
  rw [if_neg]
  rintro ⟨_, h⟩
  cases hf : fmtI n with
  | nil => rw [hf] at h; simp at h
  | cons c r =>
    rw [hf] at h
    simp at h
    have := fmtI_chars (n := n) (c := c) (by rw [hf]; simp)
    rw [h] at this
    rcases this with h2 | h2
    · exact absurd h2 (by decide)
    · exact absurd h2 (by decide)
theorem numZ_fmt {op v : Int} (hv : InR v) (h : op = 14 ∨ (-4611686018427387904 ≤ v ∧ v ≤ 4611686018427387904)) : numZ op (fmtI v) = some v := by
  unfold numZ
  rw [parseW_fmt hv]
  simp only
  rw [if_neg]
  omega
theorem cand22_fmt {op a b c n : Int} (h : validP op a b c n) : cand22 op (opsL op a b c n) = some (a, b, c, n) := by
  obtain ⟨Ra, Rb, Rc, Rn⟩ := valid_R h
  have h' := h
  unfold validP at h
  have hf1 := (form_ok op).2 h.1
  have hf2 := form_rng op
  have za : numR op (114 :: fmtI a) = some a := by unfold numR; rw [unR_r]; exact numZ_fmt Ra (by omega)
  have zb : numR op (114 :: fmtI b) = some b := by unfold numR; rw [unR_r]; exact numZ_fmt Rb (by omega)
  have zc : numR op (114 :: fmtI c) = some c := by unfold numR; rw [unR_r]; exact numZ_fmt Rc (by omega)
  have za' : numR op (fmtI a) = some a := by unfold numR; rw [unR_n]; exact numZ_fmt Ra (by omega)
  have zn : numR op (fmtI n) = some n := by
    unfold numR; rw [unR_n]
    apply numZ_fmt Rn
    by_cases o14 : op = 14
    · exact .inl o14
    · right
      by_cases hN : 5 ≤ formR op ∧ formR op ≤ 8
      · have h1 := h.2.2.2.2.2.2.2.2 hN
        have h2 : -4611686018427387904 ≤ loI op := by unfold loI; repeat' split <;> omega
        have h3 : hiI op ≤ 4611686018427387904 := by unfold hiI; repeat' split <;> omega
        omega
      · omega
  by_cases o6 : op = 6
  · subst o6
    have hb : b = 0 := by rw [form6] at h; omega
    have hc : c = 0 := by rw [form6] at h; omega
    simp [cand22, opsL, form6, nums, za', zn, pickF, padTo, hb, hc]
  · have hf : formR op = 1 ∨ formR op = 2 ∨ formR op = 3 ∨ formR op = 4 ∨ formR op = 5 ∨ formR op = 6 ∨ formR op = 7 ∨ formR op = 8 := by omega
    rcases hf with hf | hf | hf | hf | hf | hf | hf | hf <;> rw [hf] at h <;> simp only [cand22, opsL, o6, hf, nums, za, zb, zc, zn, pickF, padTo] <;> simp [nums, za, zb, zc, zn] <;> omega
theorem res10_fmt {op a b c n : Int} (h : validP op a b c n) : res10 (fmtV op a b c n) = .tup [instrV op a b c n, .bool true] := by
  have hop : 1 ≤ op ∧ op ≤ 37 := by unfold validP at h; exact h.1
  obtain ⟨h1, h2⟩ := name_fmt h
  unfold res10
  rw [h1, iName_look op hop, h2]
  simp only
  rw [show (1 + ((op - 1).toNat : Int)) = op by omega, cand10_fmt h]
  simp only [resV]
  rw [if_pos ⟨h, trivial⟩]
theorem res22_fmt {op a b c n : Int} (h : validP op a b c n) : res22 (fmtV op a b c n) = .tup [instrV op a b c n, .bool true] := by
  have hop : 1 ≤ op ∧ op ≤ 37 := by unfold validP at h; exact h.1
  obtain ⟨h1, h2⟩ := name_fmt h
  unfold res22
  rw [h1, iName_look op hop, h2]
  simp only
  rw [show (1 + ((op - 1).toNat : Int)) = op by omega, cand22_fmt h]
  simp only [resV]
  rw [if_pos ⟨h, trivial⟩]
theorem resV_or (op : Int) (s : List UInt8) (x : Option (Int × Int × Int × Int)) : resV op s x = noInstr ∨ ∃ a b c n, validP op a b c n ∧ fmtV op a b c n = s := by
  match x with
  | none => exact .inl rfl
  | some (a, b, c, n) =>
    simp only [resV]
    split
    · rename_i h; exact .inr ⟨a, b, c, n, h⟩
    · exact .inl rfl
theorem res10_or (s : List UInt8) : res10 s = noInstr ∨ ∃ op a b c n, validP op a b c n ∧ fmtV op a b c n = s := by
  unfold res10
  split
  · rename_i m _
    rcases resV_or (1 + (m : Int)) s (cand10 (1 + (m : Int)) (opsP s)) with h | ⟨a, b, c, n, h⟩
    · exact .inl h
    · exact .inr ⟨_, a, b, c, n, h⟩
  · exact .inl rfl
theorem res22_or (s : List UInt8) : res22 s = noInstr ∨ ∃ op a b c n, validP op a b c n ∧ fmtV op a b c n = s := by
  unfold res22
  split
  · rename_i m _
    rcases resV_or (1 + (m : Int)) s (cand22 (1 + (m : Int)) (opsP s)) with h | ⟨a, b, c, n, h⟩
    · exact .inl h
    · exact .inr ⟨_, a, b, c, n, h⟩
  · exact .inl rfl
theorem res_eq (s : List UInt8) : res10 s = res22 s := by
  rcases res10_or s with h | ⟨op, a, b, c, n, hv, hs⟩
  · rcases res22_or s with h2 | ⟨op, a, b, c, n, hv, hs⟩
    · rw [h, h2]
    · rw [← hs, res10_fmt hv, res22_fmt hv]
  · rw [← hs, res10_fmt hv, res22_fmt hv]
theorem fmtV_inj {op a b c n op' a' b' c' n' : Int} (h : validP op a b c n) (h' : validP op' a' b' c' n') (e : fmtV op a b c n = fmtV op' a' b' c' n') : op = op' ∧ a = a' ∧ b = b' ∧ c = c' ∧ n = n' := by
  have h1 := res10_fmt h
  rw [e, res10_fmt h'] at h1
  simp at h1
  obtain ⟨h1, h2, h3, h4, h5⟩ := h1
  exact ⟨h1.symm, h2.symm, h3.symm, h4.symm, h5.symm⟩
end Go.Proofs.YtghlghbpaeimjaaDoor
