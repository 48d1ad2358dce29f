/- The operations on objects: what the model's operation does, and how the state goes on. -/
import Derived.Test.YtghlghbpaeimjaaDoorAbPure
namespace Ab
open Go

def rkOf : AOp → Option Nat
  | .al r _ => some r
  | .bx r _ => some r
  | .bsr r _ _ _ => some r
  | .app r _ _ _ _ => some r
  | .mks r _ _ _ _ _ => some r
  | _ => none

section
variable {P : Program} {vf : Opd → AV} {ρ : Operand → Value}

/-- An operation that does what the abstract one does. -/
def Does (P : Program) (k : Nat) (g : Bool) (base : Nat) (S : St) (ρ : Operand → Value) (o : Oper) (rk : Option Nat) (v : AV) (H' : Heap) : Prop :=
  ∃ S' n, (execOp ρ o).run P S.w = .ok n S'.w ∧ S'.H = H' ∧ Step k g S S' ∧ Good S' ∧ ((∃ u, n = .value u ∧ RV S' v u) ∨ (n = .skip ∧ v = .no)) ∧
    ∀ p, S.m p = .non → (∀ r, rk = some r → p ≠ base + r) → S'.m p = .non ∧ S'.H[p]? = S.H[p]?

theorem Says.does {k : Nat} {g : Bool} {base : Nat} {S : St} {o : Oper} {v : AV} (h : Says P S ρ o v) (hG : Good S) (rk : Option Nat) : Does P k g base S ρ o rk v S.H := by
  obtain ⟨u, hr, hv⟩ := h
  exact ⟨S, .value u, hr, rfl, .refl _ _ _, hG, .inl ⟨u, rfl, hv⟩, fun p hp _ => ⟨hp, rfl⟩⟩

theorem run_loadVar_cells {w : World} {t : TypeId} {agg : Bool} {b off : Nat} {cs : List Value} (ha : aggT P t = some agg) (hn : agg = true → szOf P t = some cs.length)
    (hc : ∀ (j : Nat) v, cs[j]? = some v → w.cell? ⟨b, off + j, none⟩ = some v) :
    (agg = true → (loadVar t ⟨b, off, none⟩).run P w = .ok (.agg cs.toArray) w) ∧ (∀ u, agg = false → cs = [u] → (loadVar t ⟨b, off, none⟩).run P w = .ok u w) := by
  refine ⟨fun hag => ?_, fun u hag hcs => ?_⟩
  · subst hag
    have h1 := run_loadCells_list (P := P) w ⟨b, off, none⟩ cs (fun j v hj => by rw [Addr.add_lit]; exact hc j v hj)
    simp [loadVar, run_aggT ha, run_szOf (hn rfl), h1]
  · subst hag hcs
    have := hc 0 u rfl
    simp only [Nat.add_zero] at this
    simp [loadVar, run_aggT ha, this]

theorem says_ld {S : St} {o : Oper} {t : TypeId} {x : Operand} {agg : Bool} {n : Nat} (ho : o.op = .load t x) (ha : aggT P t = some agg) (hn : agg = true → szOf P t = some n) (hn1 : agg = false → n = 1) (hG : Good S)
    {k base : Nat} {g : Bool} {v : AV} {H' : Heap} (hx : RV S (vf (opd x)) (ρ x)) (hp : heapOp k g base vf S.H (.ld agg n (opd x)) = some (v, H')) : H' = S.H ∧ Says P S ρ o v := by
  simp only [heapOp] at hp
  split at hp
  · rename_i p off ht
    obtain ⟨⟨ys, hy⟩, b, hm, hu⟩ := rv_ptr ht hx
    rw [hy] at hp
    have hobj := hG.objs p
    unfold ObjOk at hobj
    rw [hy, hm] at hobj
    obtain ⟨vs, t', hb, hs, hl, _⟩ := hobj
    simp only at hp
    split at hp
    · rename_i hlen
      split at hp
      · rename_i v' hv'
        simp only [Option.some.injEq, Prod.mk.injEq] at hp
        obtain ⟨rfl, rfl⟩ := hp
        refine ⟨rfl, ?_⟩
        have hs' := (hs.drop off).take n
        have hl' := hs'.length
        have hcs : ∀ (j : Nat) v, ((vs.toList.drop off).take n)[j]? = some v → S.w.cell? ⟨b, off + j, none⟩ = some v := by
          intro j v hj
          rw [cell_of_heap hb]
          rw [List.getElem?_take] at hj
          split at hj
          · rw [List.getElem?_drop, Array.getElem?_toList] at hj; exact hj
          · cases hj
        have hr := run_loadVar_cells (P := P) (w := S.w) ha (fun h => by rw [← hl', hlen]; exact hn h) hcs
        rcases mkAgg_ok hv' hs' (all_take (all_drop hl _) _) with ⟨rfl, hrv⟩ | ⟨rfl, u, hu1, hrv⟩
        · exact ⟨_, by simp [execOp, ho, hu, Instr.loadAt, Instr.sureAddr, hr.1 rfl], hrv⟩
        · exact ⟨u, by simp [execOp, ho, hu, Instr.loadAt, Instr.sureAddr, hr.2 u rfl hu1], hrv⟩
      · cases hp
    · cases hp
  · rename_i xs ht
    obtain ⟨b, off, vs, hu, hs0, him⟩ := rv_eptr ht hx
    split at hp
    · rename_i hlen
      split at hp
      · rename_i v' hv'
        simp only [Option.some.injEq, Prod.mk.injEq] at hp
        obtain ⟨rfl, rfl⟩ := hp
        refine ⟨rfl, ?_⟩
        obtain ⟨hs, hl⟩ := RLs.of_RPs hs0
        have hs' := hs.take n
        have hl' := hs'.length
        have hcs : ∀ (j : Nat) v, (vs.take n)[j]? = some v → S.w.cell? ⟨b, off + j, none⟩ = some v := fun j v hj => (him.take n j v hj).1
        have hr := run_loadVar_cells (P := P) (w := S.w) ha (fun h => by rw [← hl', hlen]; exact hn h) hcs
        rcases mkAgg_ok hv' hs' (all_take hl _) with ⟨rfl, hrv⟩ | ⟨rfl, u, hu1, hrv⟩
        · exact ⟨_, by simp [execOp, ho, hu, Instr.loadAt, Instr.sureAddr, hr.1 rfl], hrv⟩
        · exact ⟨u, by simp [execOp, ho, hu, Instr.loadAt, Instr.sureAddr, hr.2 u rfl hu1], hrv⟩
      · cases hp
    · cases hp
  · cases hp

theorem oneCell_of_RL {S : St} {x : AV} {v : Value} (h : RL S x v) (hl : isLf x = true) : v.oneCell' = true := by
  cases x <;> first | cases hl | skip
  · obtain rfl : v = _ := h; rfl
  · obtain rfl : v = _ := h; rfl
  · obtain rfl : v = _ := h; rfl
  · obtain ⟨a, cap, rfl, _⟩ := (show RK S (.sl _ _) v from h).1.sl_parts; rfl
  · obtain ⟨_, b, _, rfl⟩ := (show RK S (.ptr _ _) v from h); rfl
  · obtain rfl : v = _ := h; rfl
  · obtain ⟨b, off, vs, rfl, _⟩ := (show RK S (.eptr _) v from h); rfl
  · obtain ⟨_, b, cap, _, rfl, _⟩ := (show RK S (.arr _ _ _) v from h); rfl
  · obtain ⟨vs, rfl, _⟩ := h; rfl
  · exact (show False from h).elim

theorem does_st {S : St} {o : Oper} {t : TypeId} {x y : Operand} {n : Nat} (ho : o.op = .store t x y) (hn : szOf P t = some n) (hG : Good S)
    {k base : Nat} {g : Bool} {v : AV} {H' : Heap} (hx : RV S (vf (opd x)) (ρ x)) (hy : RV S (vf (opd y)) (ρ y)) (hp : heapOp k g base vf S.H (.st n (opd x) (opd y)) = some (v, H')) :
    Does P k g base S ρ o none v H' := by
  simp only [heapOp] at hp
  split at hp
  · rename_i p off ys ht hc
    obtain ⟨⟨zs, hz⟩, b, hm, hu⟩ := rv_ptr ht hx
    rw [hz] at hp
    simp only at hp
    split at hp
    · rename_i hb
      simp only [Option.some.injEq, Prod.mk.injEq] at hp
      obtain ⟨rfl, rfl⟩ := hp
      obtain ⟨hrl, hlf⟩ := cellsOf_ok hc hy
      obtain ⟨vs, t', hheap, hfit, hst, hgo⟩ := store_ok k g hG hz hm off ys _ (by omega) hrl hlf hb.2.2
      refine ⟨_, .skip, ?_, rfl, hst, hgo, .inr ⟨rfl, rfl⟩, fun p' hp' _ => ⟨hp', ?_⟩⟩
      · have hl := hrl.length
        have h1 := run_storeCells_at P b off t' (ρ y).cells.toList 0 vs S.w hheap (by simpa using hfit) (fun u hu' => by
          obtain ⟨x', hx', hr'⟩ := hrl.cells u hu'
          exact oneCell_of_RL hr' (List.all_eq_true.1 hlf x' hx'))
        have hsz : (ρ y).cells.size = n := by rw [← Array.length_toList, ← hl]; exact hb.1
        simp only [Nat.add_zero] at h1
        simp [execOp, ho, hu, Instr.storeAt, Instr.sureAddr, storeVar, run_szOf hn, hsz, h1, St.turn]
      · exact turn_H_ne (by rintro rfl; rw [hm] at hp'; cases hp')
    · cases hp
  · cases hp

theorem does_new {S : St} {o : Oper} {k base : Nat} {g : Bool} {r : Nat} {ob0 : Ob} {xs : List AV} {vs : Array Value} {t : TypeId} {v : AV} {H' : Heap} (hG : Good S) (hk : k ≤ base + r) (hm : S.m (base + r) = .non)
    (hH : S.H[base + r]? = some ob0) (h0 : ob0 = .dead ∨ ob0 = .cells xs) (hs : All2 (RL S) xs vs.toList) (hl : xs.all isLf = true) {u : Value}
    (hrun : (execOp ρ o).run P S.w = .ok (.value u) (S.w.alloc (.cells vs t (0, 0))))
    (hv : ∀ S', IsCells S' (base + r) → S'.m (base + r) = .blk S.w.heap.size → RV S' v u) (hH' : H' = S.H.set (base + r) (.cells xs)) : Does P k g base S ρ o (some r) v H' := by
  obtain ⟨e, go⟩ := new_cells k g hG hk hm hH xs (by rcases h0 with h | h; exact .inl h; exact .inr ⟨xs, h, rfl⟩) vs t hs hl
  refine ⟨_, _, ?_, ?_, e, go, .inl ⟨u, rfl, hv _ ⟨xs, ?_⟩ give_m⟩, fun p hp hne => ?_⟩
  · exact hrun
  · rw [hH']; rfl
  · exact give_H (S := S.alloc vs t fun _ => True) hH
  · have hpr := hne r rfl
    exact ⟨(give_m_ne hpr).trans hp, give_H_ne (S := S.alloc vs t fun _ => True) hpr⟩

theorem does_al {S : St} {o : Oper} {t : TypeId} {z : List AV} {k base r : Nat} {g : Bool} (ho : o.op = .alloc t) (hz : zl P t = some z) (hG : Good S) (hk : k ≤ base + r) (hm : S.m (base + r) = .non)
    (hH : S.H[base + r]? = some (.cells z)) : Does P k g base S ρ o (some r) (.ptr (base + r) 0) S.H := by
  obtain ⟨zv, hzr, hzo⟩ := zl_ok hz
  refine does_new (u := .pointer (some ⟨S.w.heap.size, 0, none⟩)) (t := t) (vs := zv.cells) hG hk hm hH (.inr rfl) (hzo S).1 (hzo S).2 ?_ (fun S' hc hm' => ⟨hc, _, hm', rfl⟩) ?_
  · simp [execOp, ho, Instr.alloc, hzr, newVar, newRow]
  · apply List.ext_getElem?
    intro i
    by_cases hi : i = base + r
    · subst hi; rw [hH, List.getElem?_set_self (lt_of_some hH)]
    · rw [List.getElem?_set_ne (Ne.symm hi)]

theorem does_bx {S : St} {o : Oper} {t : TypeId} {x : Operand} {k base r : Nat} {g : Bool} {v : AV} {H' : Heap} (ho : o.op = .box t x) (hG : Good S) (hk : k ≤ base + r) (hm : S.m (base + r) = .non)
    (hH : S.H[base + r]? = some .dead) (hx : RV S (vf (opd x)) (ρ x)) (hp : heapOp k g base vf S.H (.bx r (opd x)) = some (v, H')) : Does P k g base S ρ o (some r) v H' := by
  simp only [heapOp] at hp
  split at hp
  · rename_i ys hc
    simp only [Option.some.injEq, Prod.mk.injEq] at hp
    obtain ⟨rfl, rfl⟩ := hp
    obtain ⟨hrl, hlf⟩ := cellsOf_ok hc hx
    refine does_new (u := .pointer (some ⟨S.w.heap.size, 0, none⟩)) (t := t) (vs := (ρ x).cells) hG hk hm hH (.inl rfl) hrl hlf ?_ (fun S' hc hm' => ⟨hc, _, hm', rfl⟩) rfl
    simp [execOp, ho, Instr.box, newVar, newRow]
  · cases hp
end
end Ab
