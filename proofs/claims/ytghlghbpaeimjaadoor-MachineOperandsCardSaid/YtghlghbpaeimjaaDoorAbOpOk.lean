/- Every operation that is no call: what the abstract machine says of it, the model does. -/
import Derived.Test.YtghlghbpaeimjaaDoorAbAppOp
namespace Ab
open Go

section
variable {P : Program} {vf : Opd → AV} {ρ : Operand → Value}

theorem pure_heap {k : Nat} {g : Bool} {base : Nat} {H : Heap} {ao : AOp} {v : AV} {H' : Heap} (h : (match pureOp vf ao with | some v => some (v, H) | none => none) = some (v, H')) : pureOp vf ao = some v ∧ H' = H ∧ k = k ∧ g = g ∧ base = base := by
  split at h
  · rename_i v' hv; cases h; exact ⟨hv, rfl, rfl, rfl, rfl⟩
  · cases h

theorem op_does {S : St} {o : Oper} {ao : AOp} {k base r : Nat} {g : Bool} {mt : Bool} {v : AV} {H' : Heap} (hs : opS P r mt o.op = some ao) (hcall : ao.isCall = false) (hh : heapOp k g base vf S.H ao = some (v, H')) (hG : Good S)
    (hv : ∀ x ∈ o.op.operands.toList, RV S (vf (opd x)) (ρ x)) (hr : ∀ ob, resv ao = some ob → k ≤ base + r ∧ S.m (base + r) = .non ∧ S.H[base + r]? = some ob) : Does P k g base S ρ o (rkOf ao) v H' := by
  generalize hop : o.op = op at hs hv
  cases op with
  | move x =>
    simp only [opS, Option.some.injEq] at hs; subst hs
    simp only [heapOp] at hh
    obtain ⟨hp, rfl, -, -, -⟩ := pure_heap (k := k) (g := g) (base := base) (vf := vf) (ao := .mv (opd x)) (v := v) (H := S.H) hh
    simp only [pureOp, Option.some.injEq] at hp; subst hp
    exact (says_mv (.inl hop) (hv x (by simp [Op.operands]))).does hG _
  | assign x =>
    simp only [opS, Option.some.injEq] at hs; subst hs
    simp only [heapOp] at hh
    obtain ⟨hp, rfl, -, -, -⟩ := pure_heap (k := k) (g := g) (base := base) (vf := vf) (ao := .mv (opd x)) (v := v) (H := S.H) hh
    simp only [pureOp, Option.some.injEq] at hp; subst hp
    exact (says_mv (.inr hop) (hv x (by simp [Op.operands]))).does hG _
  | pick c a b =>
    simp only [opS, Option.some.injEq] at hs; subst hs
    simp only [heapOp] at hh
    obtain ⟨hp, rfl, -, -, -⟩ := pure_heap (k := k) (g := g) (base := base) hh
    exact (says_pick hop (hv c (by simp [Op.operands])) (hv a (by simp [Op.operands])) (hv b (by simp [Op.operands])) hp).does hG _
  | alloc t =>
    simp only [opS] at hs
    split at hs
    · rename_i z hz
      cases hs
      simp only [heapOp, Option.some.injEq, Prod.mk.injEq] at hh
      obtain ⟨rfl, rfl⟩ := hh
      obtain ⟨h1, h2, h3⟩ := hr _ rfl
      exact does_al hop hz hG h1 h2 h3
    · cases hs
  | box t x =>
    simp only [opS, Option.some.injEq] at hs; subst hs
    obtain ⟨h1, h2, h3⟩ := hr _ rfl
    exact does_bx hop hG h1 h2 h3 (hv x (by simp [Op.operands])) hh
  | build t parts =>
    simp only [opS] at hs
    have hv' : ∀ p ∈ parts.toList, RV S (vf (opd p.2)) (ρ p.2) := fun p hp => hv p.2 (by simp only [Op.operands, List.mem_map]; exact ⟨p, hp, rfl⟩)
    split at hs
    · rename_i fields z hu hz
      split at hs
      · rename_i pl hpl
        split at hs
        · rename_i ps hps
          cases hs
          simp only [heapOp] at hh
          obtain ⟨hp, rfl, -, -, -⟩ := pure_heap (k := k) (g := g) (base := base) hh
          exact (says_bld hop hz hv' (.inl ⟨fields, pl, hu, hpl, hps⟩) hp).does hG _
        · cases hs
      · cases hs
    · rename_i n e z hu hz
      split at hs
      · rename_i n' hn
        split at hs
        · rename_i ps hps
          cases hs
          simp only [heapOp] at hh
          obtain ⟨hp, rfl, -, -, -⟩ := pure_heap (k := k) (g := g) (base := base) hh
          exact (says_bld hop hz hv' (.inr ⟨n, e, n', hu, hn, hps⟩) hp).does hG _
        · cases hs
      · cases hs
    · cases hs
  | buildSlice t len parts =>
    simp only [opS] at hs
    have hv' : ∀ p ∈ parts.toList, RV S (vf (opd p.2)) (ρ p.2) := fun p hp => hv p.2 (by simp only [Op.operands, List.mem_map]; exact ⟨p, hp, rfl⟩)
    split at hs
    · rename_i e hu
      split at hs
      · rename_i sz z agg hsz hz hag
        split at hs
        · cases hs
        · rename_i hc
          split at hs
          · split at hs
            · rename_i ps hps
              cases hs
              obtain ⟨h1, h2, h3⟩ := hr _ rfl
              exact does_bsr hop hu hsz hz hc hps hG h1 h2 h3 hv' hh
            · cases hs
          · split at hs
            · rename_i z' hz'
              split at hs
              · cases hs
                simp only [heapOp] at hh
                obtain ⟨hp, rfl, -, -, -⟩ := pure_heap (k := k) (g := g) (base := base) hh
                exact does_bsl (agg := true) hop hu hsz hz hz' rfl hc hG hv' hp rfl
              · split at hs
                · rename_i x
                  cases hs
                  simp only [heapOp] at hh
                  obtain ⟨hp, rfl, -, -, -⟩ := pure_heap (k := k) (g := g) (base := base) hh
                  have hl : leaves x = [x] := pubLs_leaf hz' x (by simp)
                  exact does_bsl (agg := true) hop hu hsz hz hz' hl hc hG hv' hp rfl
                · cases hs
            · cases hs
      · cases hs
    · cases hs
  | load t x =>
    simp only [opS] at hs
    have hx := hv x (by simp [Op.operands])
    split at hs
    · rename_i n ha hn
      cases hs
      obtain ⟨rfl, hsay⟩ := says_ld hop ha (fun _ => hn) (fun h => by cases h) hG hx hh
      exact hsay.does hG _
    · rename_i ha
      cases hs
      obtain ⟨rfl, hsay⟩ := says_ld hop ha (fun h => by cases h) (fun _ => rfl) hG hx hh
      exact hsay.does hG _
    · cases hs
  | store t a x =>
    simp only [opS] at hs
    split at hs
    · rename_i n hn
      cases hs
      exact does_st hop hn hG (hv a (by simp [Op.operands])) (hv x (by simp [Op.operands])) hh
    · cases hs
  | nilCheck x =>
    simp only [opS, Option.some.injEq] at hs; subst hs
    simp only [heapOp] at hh
    obtain ⟨hp, rfl, -, -, -⟩ := pure_heap (k := k) (g := g) (base := base) hh
    exact (says_nilc hop (hv x (by simp [Op.operands])) hp).does hG _
  | binOp op t x y yt =>
    simp only [opS] at hs
    have hx := hv x (by simp [Op.operands])
    have hy := hv y (by simp [Op.operands])
    split at hs
    · cases hs
      simp only [heapOp] at hh
      obtain ⟨hp, rfl, -, -, -⟩ := pure_heap (k := k) (g := g) (base := base) hh
      exact (says_bin hop hx hy hp).does hG _
    · cases hs
      simp only [heapOp] at hh
      obtain ⟨hp, rfl, -, -, -⟩ := pure_heap (k := k) (g := g) (base := base) hh
      exact (says_bin hop hx hy hp).does hG _
    · rename_i hu
      split at hs
      · cases hs
        simp only [heapOp] at hh
        obtain ⟨hp, rfl, -, -, -⟩ := pure_heap (k := k) (g := g) (base := base) hh
        exact (says_beq hop hu rfl hx hy hp).does hG _
      · cases hs
        simp only [heapOp] at hh
        obtain ⟨hp, rfl, -, -, -⟩ := pure_heap (k := k) (g := g) (base := base) hh
        exact (says_beq hop hu rfl hx hy hp).does hG _
      · cases hs
    · split at hs
      · rename_i ks hk
        split at hs
        · cases hs
          simp only [heapOp] at hh
          obtain ⟨hp, rfl, -, -, -⟩ := pure_heap (k := k) (g := g) (base := base) hh
          exact (says_eqs hop hk rfl hx hy hp).does hG _
        · cases hs
          simp only [heapOp] at hh
          obtain ⟨hp, rfl, -, -, -⟩ := pure_heap (k := k) (g := g) (base := base) hh
          exact (says_eqs hop hk rfl hx hy hp).does hG _
        · cases hs
      · cases hs
    · cases hs
  | unOp op t x =>
    simp only [opS, Option.some.injEq] at hs; subst hs
    simp only [heapOp] at hh
    obtain ⟨hp, rfl, -, -, -⟩ := pure_heap (k := k) (g := g) (base := base) hh
    exact (says_un hop (hv x (by simp [Op.operands])) hp).does hG _
  | convert s d x =>
    simp only [opS] at hs
    have hx := hv x (by simp [Op.operands])
    split at hs
    · rename_i k1 k2 h1 h2
      cases hs
      simp only [heapOp] at hh
      obtain ⟨hp, rfl, -, -, -⟩ := pure_heap (k := k) (g := g) (base := base) hh
      exact (says_conv hop h1 h2 hx hp).does hG _
    · rename_i e h1 h3
      split at hs
      · rename_i h2
        cases hs
        obtain ⟨rfl, hsay⟩ := says_b2s hop h1 h2 h3 hG hx hh
        exact hsay.does hG _
      · cases hs
    · cases hs
  | makeFunc fn first captured =>
    cases fn <;> simp only [opS, reduceCtorEq] at hs
    split at hs
    · rename_i hf
      cases hs
      simp only [heapOp] at hh
      obtain ⟨hp, rfl, -, -, -⟩ := pure_heap (k := k) (g := g) (base := base) hh
      exact (says_mkf hop hf (fun x hx => hv x (by simp [Op.operands]; exact .inr (by simpa using hx))) hp).does hG _
    · cases hs
  | makeSlice t l c =>
    simp only [opS] at hs
    split at hs
    · rename_i e hu
      split at hs
      · rename_i sz z i hsz hz hi
        cases hs
        obtain ⟨h1, h2, h3⟩ := hr _ rfl
        exact does_mks hop hu hsz hz hi hG h1 h2 h3 (hv l (by simp [Op.operands])) (hv c (by simp [Op.operands])) hh
      · cases hs
    · cases hs
  | slice t x lo hi mx =>
    cases mx with
    | some m => simp only [opS, reduceCtorEq] at hs
    | none =>
      have hx := hv x (by simp [Op.operands])
      have hlo : ∀ y, lo = some y → RV S (vf (opd y)) (ρ y) := fun y hy => hv y (by simp [Op.operands, hy])
      have hhi : ∀ y, hi = some y → RV S (vf (opd y)) (ρ y) := fun y hy => hv y (by simp [Op.operands, hy])
      simp only [opS] at hs
      split at hs
      · rename_i hu
        cases hs
        simp only [heapOp] at hh
        obtain ⟨hp, rfl, -, -, -⟩ := pure_heap (k := k) (g := g) (base := base) hh
        exact (says_sls hop hu hx hlo hhi hp).does hG _
      · rename_i e hu
        split at hs
        · rename_i sz hsz
          cases hs
          simp only [heapOp] at hh
          split at hh
          · rename_i p off len ht
            split at hh
            · rename_i l h hb
              simp only [Option.some.injEq, Prod.mk.injEq] at hh
              obtain ⟨rfl, rfl⟩ := hh
              exact (says_arrcut hop hu hsz ht hx hlo hhi hb).does hG _
            · cases hh
          · obtain ⟨hp, rfl, -, -, -⟩ := pure_heap (k := k) (g := g) (base := base) hh
            simp only [pureOp] at hp
            split at hp
            · rename_i c xs ht
              split at hp
              · rename_i hok
                split at hp
                · rename_i l h hb
                  cases hp
                  exact (says_sll hop hu hsz ht hok hx hlo hhi hb).does hG _
                · cases hp
              · cases hp
            · cases hp
        · cases hs
      · rename_i n e hu
        split at hs
        · rename_i sz hsz
          cases hs
          simp only [heapOp] at hh
          split at hh
          · rename_i p off ht
            split at hh
            · rename_i l h hb
              simp only [Option.some.injEq, Prod.mk.injEq] at hh
              obtain ⟨rfl, rfl⟩ := hh
              exact (says_sla hop hu hsz ht hx hlo hhi hb).does hG _
            · cases hh
          · cases hh
        · cases hs
      · cases hs
  | fieldAddr t x i =>
    simp only [opS] at hs
    split at hs
    · rename_i fields hu
      split at hs
      · rename_i f hf
        split at hs
        · rename_i n hn
          split at hs
          · cases hs
          · rename_i hn0
            cases hs
            simp only [heapOp] at hh
            obtain ⟨hp, rfl, -, -, -⟩ := pure_heap (k := k) (g := g) (base := base) hh
            exact (says_fa hop hu hf hn hn0 (hv x (by simp [Op.operands])) hp).does hG _
        · cases hs
      · cases hs
    · cases hs
  | field t x i =>
    simp only [opS] at hs
    split at hs
    · rename_i fields hu
      split at hs
      · rename_i f hf
        split at hs
        · rename_i n ha hn
          cases hs
          simp only [heapOp] at hh
          obtain ⟨hp, rfl, -, -, -⟩ := pure_heap (k := k) (g := g) (base := base) hh
          exact (says_fld hop hu hf ha (fun _ => hn) (fun h => by cases h) (hv x (by simp [Op.operands])) hp).does hG _
        · rename_i ha
          cases hs
          simp only [heapOp] at hh
          obtain ⟨hp, rfl, -, -, -⟩ := pure_heap (k := k) (g := g) (base := base) hh
          exact (says_fld hop hu hf ha (fun h => by cases h) (fun _ => rfl) (hv x (by simp [Op.operands])) hp).does hG _
        · cases hs
      · cases hs
    · cases hs
  | indexAddr t x i =>
    simp only [opS] at hs
    have hx := hv x (by simp [Op.operands])
    have hi := hv i (by simp [Op.operands])
    split at hs
    · rename_i e hu
      split at hs
      · rename_i sz hsz
        cases hs
        simp only [heapOp] at hh
        obtain ⟨hp, rfl, -, -, -⟩ := pure_heap (k := k) (g := g) (base := base) hh
        exact (says_ia hop hu hsz hx hi hp).does hG _
      · cases hs
    · rename_i n e hu
      split at hs
      · rename_i sz hsz
        cases hs
        simp only [heapOp] at hh
        obtain ⟨hp, rfl, -, -, -⟩ := pure_heap (k := k) (g := g) (base := base) hh
        exact (says_iaa hop hu hsz hx hi hp).does hG _
      · cases hs
    · cases hs
  | index t x i =>
    simp only [opS] at hs
    have hx := hv x (by simp [Op.operands])
    have hi := hv i (by simp [Op.operands])
    split at hs
    · rename_i hu
      cases hs
      simp only [heapOp] at hh
      obtain ⟨hp, rfl, -, -, -⟩ := pure_heap (k := k) (g := g) (base := base) hh
      exact (says_ixs hop hu hx hi hp).does hG _
    · rename_i n e hu
      split at hs
      · rename_i agg sz ha hsz
        split at hs
        · rename_i hc
          cases hs
          simp only [heapOp] at hh
          obtain ⟨hp, rfl, -, -, -⟩ := pure_heap (k := k) (g := g) (base := base) hh
          exact (says_ixa hop hu ha hsz hc hx hi hp).does hG _
        · cases hs
      · cases hs
    · cases hs
  | extract x i =>
    simp only [opS, Option.some.injEq] at hs; subst hs
    simp only [heapOp] at hh
    obtain ⟨hp, rfl, -, -, -⟩ := pure_heap (k := k) (g := g) (base := base) hh
    exact (says_ext hop (hv x (by simp [Op.operands])) hp).does hG _
  | call c =>
    simp only [opS] at hs
    split at hs
    · cases hs; cases hcall
    · cases hs; cases hcall
    · rename_i hc
      split at hs
      · rename_i t x ht ha
        have hx := hv x (by simp only [Op.operands, Call.operands, hc]; simp [ha])
        split at hs
        · rename_i hu
          cases hs
          simp only [heapOp] at hh
          obtain ⟨hp, rfl, -, -, -⟩ := pure_heap (k := k) (g := g) (base := base) hh
          exact (says_lens hop hc ha ht hu hx hp).does hG _
        · rename_i e hu
          cases hs
          simp only [heapOp] at hh
          obtain ⟨hp, rfl, -, -, -⟩ := pure_heap (k := k) (g := g) (base := base) hh
          exact (says_len hop hc ha ht hu hx hp).does hG _
        · rename_i n e hu
          cases hs
          simp only [heapOp] at hh
          obtain ⟨hp, rfl, -, -, -⟩ := pure_heap (k := k) (g := g) (base := base) (vf := vf) (ao := .lenc n) (v := v) (H := S.H) hh
          simp only [pureOp, Option.some.injEq] at hp; subst hp
          exact (says_lenc hop hc ha ht hu).does hG _
        · cases hs
      · cases hs
    · rename_i hc
      split at hs
      · rename_i t u x y hat ha
        have hx := hv x (by simp only [Op.operands, Call.operands, hc]; simp [ha])
        have hy := hv y (by simp only [Op.operands, Call.operands, hc]; simp [ha])
        split at hs
        · rename_i e e' h0 h1
          split at hs
          · rename_i i z hi hz
            split at hs
            · cases hs
            · rename_i hcond
              simp only [not_or, Decidable.not_not] at hcond
              cases hs
              obtain ⟨h1', h2, h3⟩ := hr _ rfl
              exact does_app hop hc hat ha h0 (.inl ⟨_, h1⟩) hi hz hcond.1 hcond.2.1 hcond.2.2 hG h1' h2 h3 hx hy hh
          · cases hs
        · rename_i e h0 h1
          split at hs
          · rename_i i z hi hz
            split at hs
            · cases hs
            · rename_i hcond
              simp only [not_or, Decidable.not_not] at hcond
              cases hs
              obtain ⟨h1', h2, h3⟩ := hr _ rfl
              exact does_app hop hc hat ha h0 (.inr h1) hi hz hcond.1 hcond.2.1 hcond.2.2 hG h1' h2 h3 hx hy hh
          · cases hs
        · cases hs
      · cases hs
    · rename_i hc
      split at hs
      · rename_i x y ha
        cases hs
        simp only [heapOp] at hh
        obtain ⟨hp, rfl, -, -, -⟩ := pure_heap (k := k) (g := g) (base := base) hh
        exact (says_mm (mx := true) hop hc ha (hv x (by simp only [Op.operands, Call.operands, hc]; simp [ha])) (hv y (by simp only [Op.operands, Call.operands, hc]; simp [ha])) hp).does hG _
      · cases hs
    · rename_i hc
      split at hs
      · rename_i x y ha
        cases hs
        simp only [heapOp] at hh
        obtain ⟨hp, rfl, -, -, -⟩ := pure_heap (k := k) (g := g) (base := base) hh
        exact (says_mm (mx := false) hop hc ha (hv x (by simp only [Op.operands, Call.operands, hc]; simp [ha])) (hv y (by simp only [Op.operands, Call.operands, hc]; simp [ha])) hp).does hG _
      · cases hs
    · cases hs
  | _ => simp only [opS, reduceCtorEq] at hs
end
end Ab
