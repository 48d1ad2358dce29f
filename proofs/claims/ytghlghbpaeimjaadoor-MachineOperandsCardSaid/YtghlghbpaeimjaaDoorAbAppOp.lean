/- append, string(bytes), make, literals that are written: as operations of the abstract machine. -/
import Derived.Test.YtghlghbpaeimjaaDoorAbAppend
import Derived.Laws.BytesString
import Derived.Laws.BytesArg
namespace Ab
open Go

def St.drew (S : St) : St := { S with w := S.w.drew }
theorem step_drew (k : Nat) (g : Bool) (S : St) : Step k g S S.drew where
  wext := fun _ _ _ h k => ⟨h, k⟩
  cells := fun _ ys h => ⟨fun _ => rfl, ys, h, rfl⟩
  frs := fun _ _ n h => ⟨n, h, Nat.le_refl _, fun _ => rfl⟩
  size := Nat.le_refl _
  keep := fun _ _ _ => rfl
  owns := fun o _ h => .inl ⟨o, h⟩
  os := ⟨rfl, rfl, rfl⟩
  froz := fun _ => rfl
  muts := fun _ _ _ _ h => h
  len := Nat.le_refl _
  pend := fun _ _ h => ⟨h, rfl⟩
  low := fun _ _ _ ys h x hx => .inr ⟨ys, h, hx⟩
theorem good_drew {S : St} (h : Good S) : Good S.drew where
  objs := fun o => (h.objs o).of_step (step_drew 0 true S) rfl rfl (fun _ _ => rfl) fun _ _ _ h => h
  disj := h.disj
  there := h.there

section
variable {P : Program} {vf : Opd → AV} {ρ : Operand → Value}

theorem RPs.bytes {w : World} {M : MutP} : ∀ (b : List UInt8), RPs w M (b.map fun c => AV.int .u8 c.toNat) (b.map fun c => Value.int .u8 c.toNat)
  | [] => .nil
  | c :: b => .cons _ _ _ _ (.int _ _) (RPs.bytes b)

theorem pubLs_leaf : ∀ {xs ys : List AV}, pubLs xs = some ys → ∀ y ∈ ys, leaves y = [y]
  | [], ys, h => by cases h; simp
  | x :: xs, ys, h => by
    simp only [pubLs] at h
    split at h
    · rename_i y zs hy hz
      cases h
      intro y' hy'
      rcases List.mem_cons.1 hy' with rfl | h'
      · have := (pubL_lf hy).1
        cases y' <;> first | rfl | exact absurd rfl (this _)
      · exact pubLs_leaf hz y' h'
    · cases h
theorem flat_leaf : ∀ {ys : List AV}, (∀ y ∈ ys, leaves y = [y]) → ys.flatMap leaves = ys
  | [], _ => rfl
  | y :: ys, h => by rw [List.flatMap_cons, flat_leaf fun z hz => h z (by simp [hz]), h y (by simp)]; rfl

/-- what append and string(..) read -/
theorem elemsOf_ok {S : St} (hG : Good S) {sz : Nat} {v : AV} {u : Value} {ys : List AV} (h : elemsOf S.H sz v = some ys) (hr : RV S v u) :
    ∃ us, RPs S.w S.M (ys.flatMap leaves) us ∧ (∀ y ∈ ys, nleaves y = sz) ∧ (∀ w, (Builtin.lenOf u).run P w = .ok ys.length w) ∧
      (∀ w, w.heap = S.w.heap → (Builtin.firstCells sz ys.length u).run P w = .ok us.toArray w) ∧ ((∃ s, u = .string s) ∨ ∃ a cap, u = .slice a ys.length cap ∧ (ys ≠ [] → ∃ a', a = some a')) := by
  unfold elemsOf at h
  split at h
  · rename_i _ c xs
    split at h
    · rename_i hz
      cases h
      have hu := (rv_sl rfl hr).1
      obtain ⟨a, cap, rfl, hcap, hp⟩ := hu.sl_parts
      by_cases hx : ys = []
      · subst hx
        refine ⟨[], .nil, by simp, fun w => by simp [Builtin.lenOf], fun w _ => ?_, .inr ⟨a, cap, rfl, by simp⟩⟩
        cases a <;> simp [Builtin.firstCells, loadCells, loadCellsFrom]
      · obtain ⟨b, off, sz', vs, rfl, hall, hs, him⟩ := hp hx
        have : sz' = sz := by
          cases ys with
          | nil => exact absurd rfl hx
          | cons z zs => rw [← hall z (by simp)]; simpa [sizeOk] using hz
        subst this
        refine ⟨vs, hs, hall, fun w => by simp [Builtin.lenOf], fun w hw => ?_, .inr ⟨_, cap, rfl, fun _ => ⟨_, rfl⟩⟩⟩
        have hlen : vs.length = ys.length * sz' := by rw [← hs.length, flat_length hall]
        have := run_loadCells_list (P := P) w ⟨b, off, none⟩ vs (fun j v hj => by
          rw [Addr.add_lit]
          have h1 := (him j v hj).1
          unfold World.cell? at h1 ⊢
          rw [hw]; exact h1)
        simp only [Builtin.firstCells, ← hlen]
        exact this
    · cases h
  · rename_i b
    split at h
    · rename_i hz
      cases h
      subst hz
      obtain rfl := rv_str rfl hr
      refine ⟨b.map fun c => Value.int .u8 c.toNat, ?_, by simp [nleaves], fun w => by simp [Builtin.lenOf, bytes_size], fun w _ => ?_, .inl ⟨_, rfl⟩⟩
      · rw [flat_leaf (by simp [leaves])]
        exact .bytes b
      · simp [Builtin.firstCells, ByteArray.extract_mk]
    · cases h
  · rename_i o off len
    split at h
    · rename_i xs hxs
      split at h
      · rename_i hz
        subst hz
        split at h
        · rename_i ys' hy
          split at h
          · rename_i hlen
            cases h
            obtain ⟨_, b, cap, hm, rfl, hcap⟩ := rv_arr rfl hr
            have hobj := hG.objs o
            unfold ObjOk at hobj
            rw [hxs, hm] at hobj
            obtain ⟨vs, t', hb, hs, hl, _⟩ := hobj
            have hs' := (hs.drop off).take len
            have hrp := pubLs_ok hy hs'
            have hlf := pubLs_leaf hy
            have hul := hrp.length
            refine ⟨(vs.toList.drop off).take len, by rw [flat_leaf hlf]; exact hrp, fun y hy' => by rw [← leaves_length, hlf y hy']; rfl, fun w => by simp [Builtin.lenOf, hlen], fun w hw => ?_,
              .inr ⟨_, cap, by rw [hlen], fun _ => ⟨_, rfl⟩⟩⟩
            have := run_loadCells_list (P := P) w ⟨b, off, none⟩ ((vs.toList.drop off).take len) (fun j v hj => by
              rw [Addr.add_lit]
              have h1 : S.w.cell? ⟨b, off + j, none⟩ = some v := by
                rw [cell_of_heap hb]
                rw [List.getElem?_take] at hj
                split at hj
                · rw [List.getElem?_drop, Array.getElem?_toList] at hj; exact hj
                · cases hj
              unfold World.cell? at h1 ⊢
              rw [hw]; exact h1)
            rw [← hul, hlen] at this
            simp only [Builtin.firstCells, Nat.mul_one, hlen]
            exact this
          · cases h
        · cases h
      · cases h
    · cases h
  · cases h
theorem zeroCells_size (z : Array Value) (n : Nat) : (Builtin.zeroCells z n).toList.length = n * z.size := by simp [Builtin.zeroCells]

theorem does_app {S : St} {o : Oper} {c : Call} {x y : Operand} {t u e : TypeId} {i : TypeInfo} {zs : List AV} {k base r : Nat} {g : Bool} {v : AV} {H' : Heap} (ho : o.op = .call c) (hc : c.callee = .builtin .append) (hat : c.argTypes.toList = [t, u])
    (ha : c.args.toList = [x, y]) (h0 : P.underlying t = some (.slice e)) (hni : NoInt P u) (hi : P.info? e = some i) (hzl : zl P e = some zs) (hs0 : i.size ≠ 0) (hb0 : i.bytes ≠ 0) (hzs : zs.length = i.size) (hG : Good S)
    (hk : k ≤ base + r) (hm : S.m (base + r) = .non) (hH : S.H[base + r]? = some .dead) (hx : RV S (vf (opd x)) (ρ x)) (hy : RV S (vf (opd y)) (ρ y))
    (hp : heapOp k g base vf S.H (.app r i.size i.bytes (opd x) (opd y)) = some (v, H')) : Does P k g base S ρ o (some r) v H' := by
  have ha' : c.args = #[x, y] := by apply Array.ext'; simpa using ha
  have hat' : c.argTypes = #[t, u] := by apply Array.ext'; simpa using hat
  have hexec : ∀ res, (Builtin.append_ #[t, u] o.type #[ρ x, ρ y]).run P S.w = res → (execOp ρ o).run P S.w = res.andThen fun v w => .ok (.value v) w := by
    intro res hr
    simp [execOp, ho, resolve, hc, ha', hat', invoke, builtin, hr]
  obtain ⟨z, hzi, hzz⟩ : ∃ z, i.zero = some z ∧ z.cells.size = i.size := by
    unfold zl at hzl
    rw [hi] at hzl
    simp only at hzl
    split at hzl
    · rename_i z hz
      have := (cvs_ok (S := S) hzl).1.length
      exact ⟨z, hz, by rw [← hzs, this, Array.length_toList]⟩
    · cases hzl
  simp only [heapOp] at hp
  split at hp
  · rename_i ys hys
    obtain ⟨us, hus, hally, hlen, hfirst, hform⟩ := elemsOf_ok (P := P) hG hys hy
    split at hp
    · rename_i cp xs hxs
      split at hp
      · rename_i hcond
        obtain ⟨hsz, hbd⟩ := hcond
        have hr := rv_sl hxs hx
        obtain ⟨a, cap, hux, hcap, hpart⟩ := hr.1.sl_parts
        rw [hux] at hexec
        have hallx : ∀ z ∈ xs, nleaves z = i.size := by
          intro z hz
          obtain ⟨b, off, sz', vs, _, hall, _⟩ := hpart (by rintro rfl; simp at hz)
          cases xs with
          | nil => simp at hz
          | cons w ws =>
            rw [hall z hz, ← hall w (by simp)]; simpa [sizeOk] using hsz
        have hposs : 0 < i.size := by omega
        have hold : ∃ old, RPs S.w S.M (xs.flatMap leaves) old ∧ ∀ w, w.heap = S.w.heap → (Builtin.firstCells i.size xs.length (ρ x)).run P w = .ok old.toArray w := by
          obtain ⟨old, h1, _, _, h2, _⟩ := elemsOf_ok (P := P) hG (sz := i.size) (v := .sl cp xs) (ys := xs) (by simp [elemsOf, hsz]) (by rw [← hxs]; exact hx)
          exact ⟨old, h1, h2⟩
        obtain ⟨old, holdr, holdf⟩ := hold
        -- the grown way, for both caps
        have grow : ∀ (o0 : Nat), ((∃ n0, S.H[o0]? = some (.fr i.size n0) ∧ n0 = xs.length) ∨ (k ≤ o0 ∧ S.m o0 = .non ∧ S.H[o0]? = some .dead)) → (o0 ≠ base + r → S.m o0 ≠ .non) → ys ≠ [] → ¬ xs.length + ys.length ≤ cap →
            v = .sl (.tok o0) (xs ++ ys) → H' = S.H.set o0 (.fr i.size (xs.length + ys.length)) → Does P k g base S ρ o (some r) v H' := by
          intro o0 ho0 hne0 hne hcap' hv hH'
          obtain ⟨ncap, hncap, hrun⟩ := run_append_grow (P := P) (w := S.w) (base := a) (sLen := xs.length) (sCap := cap) (x := ρ y) (old := old) (new := us) (z := z) h0 hi hni o.type (hlen S.w)
            (hfirst _ rfl) (by have := holdf S.w.drew rfl; rwa [hux] at this) hzi hb0 hcap' hbd
          have hrest : (xs.length + ys.length) * i.size + (Builtin.zeroCells z.cells (ncap - (xs.length + ys.length))).toList.length = ncap * i.size := by
            rw [zeroCells_size, hzz, ← Nat.add_mul]
            congr 1; omega
          have hko : (∃ n0, S.drew.H[o0]? = some (.fr i.size n0) ∧ n0 = xs.length) ∨ (k ≤ o0 ∧ S.drew.m o0 = .non ∧ S.drew.H[o0]? = some .dead) := ho0
          obtain ⟨S', hS', hst, hgo, hrp⟩ := app_out k g (good_drew hG) hposs hko xs ys rfl old us _ hallx hally (holdr.mono (step_drew k g S).wext) (hus.mono (step_drew k g S).wext) hncap hne hrest e
          refine ⟨S', .value (.slice (some ⟨S.w.heap.size, 0, none⟩) (xs.length + ys.length) ncap), ?_, ?_, (step_drew k g S).trans hst, hgo, .inl ⟨_, rfl, ?_⟩, fun p hp hpr => ?_⟩
          · rw [hexec _ hrun, hS']; rfl
          · rw [hS', hH']; rfl
          · rw [hv]
            refine ⟨hrp, i.size, xs.length + ys.length, ?_, by simp, fun _ => ⟨_, ncap, ?_, rfl⟩⟩
            · rw [hS']
              rcases ho0 with ⟨n0, h, _⟩ | ⟨_, _, h⟩ <;> exact give_H (S := S.drew.alloc _ e _) h
            · rw [hS']; exact give_m
          · have hpo : p ≠ o0 := by
              rintro rfl
              by_cases h : p = base + r
              · exact hpr r rfl h
              · exact hne0 h hp
            rw [hS']
            exact ⟨(give_m_ne hpo).trans hp, give_H_ne (S := S.drew.alloc _ e _) hpo⟩
        cases cp with
        | none => cases hp
        | full =>
          simp only [Option.some.injEq, Prod.mk.injEq] at hp
          obtain ⟨hv, hH'⟩ := hp
          obtain ⟨a', ha'⟩ := hr.2
          rw [hux] at ha'
          simp only [Value.slice.injEq] at ha'
          obtain ⟨rfl, -, rfl⟩ := ha'
          by_cases hne : ys = []
          · subst hne
            obtain ⟨e1, g1⟩ := app_none k g hG (sz := i.size) (n := xs.length) hposs hk hm hH a
            have hnil : us = [] := by cases hus; rfl
            have hrun := run_append_fit (P := P) (w := S.w) (w' := S.w) (base := a) (sLen := xs.length) (sCap := xs.length) (n := 0) (x := ρ y) (new := []) h0 hi hni o.type (by simpa using hlen S.w)
              (by have := hfirst S.w rfl; rw [hnil] at this; simpa using this) (by omega) (by cases a <;> simp [storeCells])
            refine ⟨S.give (base + r) (.fr i.size xs.length) (.hdr a xs.length), .value (.slice a xs.length xs.length), ?_, ?_, e1, g1, .inl ⟨_, rfl, ?_⟩, fun p hp hpr => ?_⟩
            · rw [hexec _ hrun]; rfl
            · rw [← hH']; simp [St.give]
            · rw [← hv]
              refine ⟨?_, i.size, xs.length, give_H hH, by simp, fun _ => ⟨a, xs.length, give_m, rfl⟩⟩
              have := hr.1.mono e1.wext
              rw [hux] at this
              simpa using this
            · exact ⟨(give_m_ne (hpr r rfl)).trans hp, give_H_ne (hpr r rfl)⟩
          · have hyl : 0 < ys.length := List.length_pos_iff.2 hne
            exact grow (base + r) (.inr ⟨hk, hm, hH⟩) (fun h => absurd rfl h) hne (by omega) hv.symm hH'.symm
        | tok o0 =>
          simp only at hp
          split at hp
          · rename_i sz' n' hfr
            split at hp
            · rename_i hcnd
              obtain ⟨rfl, rfl, _⟩ := hcnd
              simp only [Option.some.injEq, Prod.mk.injEq] at hp
              obtain ⟨hv, hH'⟩ := hp
              obtain ⟨sz2, n2, hfr2, _, hhdr⟩ := hr.2
              rw [hfr] at hfr2
              simp only [Option.some.injEq, Ob.fr.injEq] at hfr2
              obtain ⟨-, rfl⟩ := hfr2
              obtain ⟨a', cap', hm0, hu0⟩ := hhdr rfl
              rw [hux] at hu0
              simp only [Value.slice.injEq, true_and] at hu0
              obtain ⟨rfl, rfl⟩ := hu0
              have hne0 : o0 ≠ base + r → S.m o0 ≠ .non := fun _ h => by rw [hm0] at h; cases h
              by_cases hne : ys = []
              · subst hne
                have hnil : us = [] := by cases hus; rfl
                have hrun := run_append_fit (P := P) (w := S.w) (w' := S.w) (base := a) (sLen := xs.length) (sCap := cap) (n := 0) (x := ρ y) (new := []) h0 hi hni o.type (by simpa using hlen S.w)
                  (by have := hfirst S.w rfl; rw [hnil] at this; simpa using this) (by omega) (by cases a <;> simp [storeCells])
                refine ⟨S, .value (.slice a xs.length cap), ?_, ?_, .refl _ _ _, hG, .inl ⟨_, rfl, ?_⟩, fun p hp _ => ⟨hp, rfl⟩⟩
                · rw [hexec _ hrun]; rfl
                · rw [← hH']
                  apply List.ext_getElem?
                  intro j
                  by_cases hj : j = o0
                  · subst hj; rw [List.getElem?_set_self (lt_of_some hfr), hfr]; simp
                  · rw [List.getElem?_set_ne (Ne.symm hj)]
                · rw [← hv]
                  refine ⟨?_, i.size, xs.length, hfr, by simp, fun _ => ⟨a, cap, hm0, rfl⟩⟩
                  have := hr.1
                  rw [hux] at this
                  simpa using this
              · by_cases hfit : xs.length + ys.length ≤ cap
                · have hyl : 0 < ys.length := List.length_pos_iff.2 hne
                  have hob := hG.objs o0
                  unfold ObjOk at hob
                  rw [hfr, hm0] at hob
                  obtain ⟨b, off, rfl, _⟩ := hob.2.2 (by omega)
                  obtain ⟨vs, t', hheap, hfits, S', hS', hst, hgo, hrp⟩ := app_in k g hG hfr hm0 xs ys rfl us hallx hally (by have := hr.1; rwa [hux] at this) hus hfit hne
                  have hone : ∀ v ∈ us, v.oneCell' = true := by
                    intro v hv'
                    obtain ⟨x', _, hr'⟩ := (All2.of_RPs hus).cells v hv'
                    exact oneCell_of_RL (RL.of_RP hr') (isLf_of_RP hr')
                  have hstore := run_storeCells_at P b (off + xs.length * i.size) t' us 0 vs S.w hheap (by simpa using hfits) hone
                  simp only [Nat.add_zero] at hstore
                  have hrun := run_append_fit (P := P) (w := S.w) (w' := S'.w) (base := some ⟨b, off, none⟩) (sLen := xs.length) (sCap := cap) (n := ys.length) (x := ρ y) (new := us) h0 hi hni o.type (hlen S.w)
                    (hfirst S.w rfl) hfit (by simp only [Addr.add_lit]; rw [hstore, hS']; rfl)
                  refine ⟨S', .value (.slice (some ⟨b, off, none⟩) (xs.length + ys.length) cap), ?_, ?_, hst, hgo, .inl ⟨_, rfl, ?_⟩, fun p hp _ => ?_⟩
                  · rw [hexec _ hrun]; rfl
                  · rw [← hH', hS']; rfl
                  · rw [← hv]
                    refine ⟨hrp, i.size, xs.length + ys.length, ?_, by simp, fun _ => ⟨_, cap, ?_, rfl⟩⟩
                    · rw [hS']; exact turn_H hfr
                    · rw [hS']; exact hm0
                  · have : p ≠ o0 := by rintro rfl; rw [hm0] at hp; cases hp
                    rw [hS']
                    exact ⟨hp, turn_H_ne this⟩
                · exact grow o0 (.inl ⟨_, hfr, rfl⟩) hne0 hne hfit hv.symm hH'.symm
            · cases hp
          · cases hp
      · cases hp
    · cases hp
  · cases hp

theorem bytesOf_ok {w : World} {M : MutP} : ∀ {xs : List AV} {us : List Value} {b : List UInt8}, bytesOf xs = some b → RPs w M (xs.flatMap leaves) us →
    ∃ ns : List Int, us = ns.map (Value.int .u8) ∧ b = ns.map fun n => UInt8.ofNat n.toNat
  | [], us, b, h, r => by cases h; cases r; exact ⟨[], rfl, rfl⟩
  | x :: xs, us, b, h, r => by
    unfold bytesOf at h
    split at h
    · rename_i heq; cases heq
    · rename_i n r' heq
      cases heq
      split at h
      · rename_i bs hb
        cases h
        simp only [List.flatMap_cons, leaves, List.singleton_append] at r
        cases r with
        | cons _ v _ vs hx hs =>
          cases hx
          obtain ⟨ns, rfl, rfl⟩ := bytesOf_ok hb hs
          exact ⟨n :: ns, rfl, rfl⟩
      · cases h
    · cases h

theorem push_bytes : ∀ (ns : List Int) (s : ByteArray), ns.foldl (fun r n => r.push (UInt8.ofNat n.toNat)) s = ⟨(s.data.toList ++ ns.map fun n => UInt8.ofNat n.toNat).toArray⟩
  | [], s => by simp
  | n :: ns, s => by
    rw [List.foldl_cons, push_bytes ns]
    congr 1
    simp [ByteArray.push]

theorem says_b2s {S : St} {o : Oper} {t d e : TypeId} {x : Operand} (ho : o.op = .convert t d x) (h1 : P.underlying t = some (.slice e)) (h2 : P.underlying e = some (.int .u8)) (h3 : P.underlying d = some .string) (hG : Good S)
    {k base : Nat} {g : Bool} {v : AV} {H' : Heap} (hx : RV S (vf (opd x)) (ρ x)) (hp : heapOp k g base vf S.H (.b2s (opd x)) = some (v, H')) : H' = S.H ∧ Says P S ρ o v := by
  simp only [heapOp] at hp
  split at hp
  · cases hp
  · rename_i hns
    split at hp
    · rename_i ys hys
      split at hp
      · rename_i b hb
        simp only [Option.some.injEq, Prod.mk.injEq] at hp
        obtain ⟨rfl, rfl⟩ := hp
        refine ⟨rfl, .string ⟨b.toArray⟩, ?_, rfl⟩
        obtain ⟨us, hus, hall, hlen, hfirst, hform⟩ := elemsOf_ok (P := P) hG hys hx
        obtain ⟨ns, rfl, rfl⟩ := bytesOf_ok hb hus
        rcases hform with ⟨s, hs⟩ | ⟨a, cap, hu, ha⟩
        · exfalso
          unfold elemsOf at hys
          split at hys
          · rename_i c xs heq
            rw [heq] at hx
            obtain ⟨a, cap, hu, _⟩ := (rv_sl rfl hx).1.sl_parts
            rw [hs] at hu; cases hu
          · rename_i b heq
            exact hns b heq
          · rename_i p off len heq
            rw [heq] at hx
            obtain ⟨_, b, cap, _, hu, _⟩ := rv_arr rfl hx
            rw [hs] at hu; cases hu
          · cases hys
        · have hc := run_convert_bytes_string (P := P) S.w t d e a ys.length cap h1 h2 h3
          have hr : (Conv.bytesToString (.slice a ys.length cap)).run P S.w = .ok (.string ⟨(ns.map fun n => UInt8.ofNat n.toNat).toArray⟩) S.w := by
            have hf := hfirst S.w rfl
            rw [hu] at hf
            cases a with
            | none =>
              have hye : ys = [] := by
                by_cases h : ys = []
                · exact h
                · obtain ⟨a', h'⟩ := ha h; cases h'
              subst hye
              have : ns = [] := by
                have h1 := hus.length
                simp at h1
                exact List.length_eq_zero_iff.1 h1.symm
              subst this
              simp [Conv.bytesToString]
              rfl
            | some a =>
              simp only [Builtin.firstCells, Nat.mul_one] at hf
              rw [run_bytesToString S.w a ys.length cap ns hf, push_bytes]
              rfl
          simp [execOp, ho, hu, hc, hr]
      · cases hp
    · cases hp

/-- make([]T, n) -/
theorem does_mks {S : St} {o : Oper} {t e : TypeId} {l c : Operand} {sz : Nat} {i : TypeInfo} {z : List AV} {k base r : Nat} {g : Bool} {v : AV} {H' : Heap} (ho : o.op = .makeSlice t l c) (h1 : P.underlying t = some (.slice e)) (hsz : szOf P e = some sz)
    (hz : zl P e = some z) (hi : P.info? e = some i) (hG : Good S) (hk : k ≤ base + r) (hm : S.m (base + r) = .non) (hH : S.H[base + r]? = some .dead) (hl : RV S (vf (opd l)) (ρ l)) (hc : RV S (vf (opd c)) (ρ c))
    (hp : heapOp k g base vf S.H (.mks r sz i.bytes z (opd l) (opd c)) = some (v, H')) : Does P k g base S ρ o (some r) v H' := by
  simp only [heapOp] at hp
  split at hp
  · rename_i k1 a k2 b hla hcb
    split at hp
    · rename_i hcond
      obtain ⟨rfl, h0, hb1, hb2, hs1, hs2⟩ := hcond
      simp only [Option.some.injEq, Prod.mk.injEq] at hp
      obtain ⟨rfl, rfl⟩ := hp
      have hlu := rv_int hla hl
      have hcu := rv_int hcb hc
      obtain ⟨zv, hzr, hzo⟩ := zl_ok hz
      have hzl := (hzo S).1.length
      have hzl2 : zv.cells.toList.length = zv.cells.size := Array.length_toList
      have hzsz : zv.cells.size = sz := by omega
      have hcells := range_zero_cells zv.cells a.toNat
      have hall := (hzo S).1.flatten_replicate a.toNat
      rw [← hcells] at hall
      have hlf : (List.replicate a.toNat z).flatten.all isLf = true := by
        refine List.all_eq_true.2 fun x hx => ?_
        obtain ⟨l, hl, hx⟩ := List.mem_flatten.1 hx
        rw [List.eq_of_mem_replicate hl] at hx
        exact List.all_eq_true.1 (hzo S).2 x hx
      have hw : IntKind.i64.wrap a = a := by rw [IntKind.wrap_i64]; omega
      have hti : ∀ w, (typeInfo e).run P w = .ok i w := fun w => by simp [typeInfo, hi]
      refine does_new (u := .slice (some ⟨S.w.heap.size, 0, none⟩) a.toNat a.toNat) (t := e) hG hk hm hH (.inl rfl) hall hlf ?_ (fun S' hc hm' => ⟨hc, _, _, hm', rfl, Nat.le_refl _⟩) rfl
      have e48 : (2 : Int) ^ 48 = 281474976710656 := by decide
      have hbytes : ¬ ((i.bytes : Int) * a > 281474976710656) := by rw [Int.mul_comm]; omega
      by_cases hn : a.toNat * zv.cells.size = 0
      · have ha0 : a.toNat = 0 := by
          rcases Nat.mul_eq_zero.1 hn with h | h
          · exact h
          · omega
        have ha00 : a = 0 := by omega
        subst ha00
        simp [execOp, ho, hlu, hcu, Instr.makeSlice, run_underlying h1, asInt, asIntOf, hti, hw, run_szOf hsz, newRow, Array.range_zero', e48]
      · have hlt : ¬ a < 0 := by omega
        rw [hzsz] at hn ⊢
        simp [execOp, ho, hlu, hcu, Instr.makeSlice, run_underlying h1, asInt, asIntOf, hti, hw, run_szOf hsz, newRow, hn, hzr, hlt, hbytes, e48, hzsz]
    · cases hp
  · cases hp

theorem does_bsr {S : St} {o : Oper} {t e : TypeId} {n sz : Nat} {parts : Array (Nat × Operand)} {z : List AV} {ps : List (Nat × Nat × Opd)} {k base r : Nat} {g : Bool} {v : AV} {H' : Heap} (ho : o.op = .buildSlice t n parts) (hu : P.underlying t = some (.slice e)) (hsz : szOf P e = some sz)
    (hz : zl P e = some z) (hc : ¬ (sz = 0 ∨ z.length ≠ sz ∨ n * sz > 2 ^ 24)) (hps : partsOf (fun i => some (i * sz, sz)) parts.toList = some ps) (hG : Good S) (hk : k ≤ base + r) (hm : S.m (base + r) = .non) (hH : S.H[base + r]? = some .dead)
    (hv : ∀ p ∈ parts.toList, RV S (vf (opd p.2)) (ρ p.2)) (hp : heapOp k g base vf S.H (.bsr r n (List.replicate n z).flatten ps) = some (v, H')) : Does P k g base S ρ o (some r) v H' := by
  simp only [heapOp] at hp
  split at hp
  · rename_i xs hxs
    simp only [Option.some.injEq, Prod.mk.injEq] at hp
    obtain ⟨rfl, rfl⟩ := hp
    obtain ⟨zv, hzr, hzo⟩ := zl_ok hz
    have hzl := (hzo S).1.length
    have hzl2 : zv.cells.toList.length = zv.cells.size := Array.length_toList
    have hzsz : zv.cells.size = sz := by omega
    have hcells := range_zero_cells zv.cells n
    rw [hzsz] at hcells
    have hall := (hzo S).1.flatten_replicate n
    rw [← hcells] at hall
    have hlf : (List.replicate n z).flatten.all isLf = true := by
      refine List.all_eq_true.2 fun x hx => ?_
      obtain ⟨l, hl, hx⟩ := List.mem_flatten.1 hx
      rw [List.eq_of_mem_replicate hl] at hx
      exact List.all_eq_true.1 (hzo S).2 x hx
    obtain ⟨cells', hc', h1, h2, _⟩ := fill_ok parts.toList ps _ xs _ hps hxs hv hall hlf
    refine does_new (u := .slice (some ⟨S.w.heap.size, 0, none⟩) n n) (t := e) hG hk hm hH (.inl rfl) h1 h2 ?_ (fun S' hc hm' => ⟨hc, _, _, hm', rfl, Nat.le_refl _⟩) rfl
    have hcond : ¬ (n * sz > 16777216) := fun h => hc (.inr (.inr h))
    have hrn : (Instr.buildSlice t n (parts.map fun p => (p.1, ρ p.2))).run P S.w = .ok (.slice (some ⟨S.w.heap.size, 0, none⟩) n n) (S.w.alloc (.cells cells' e (0, 0))) := by
      by_cases hn0 : n * sz = 0
      · rw [hn0] at hc'
        simp [Array.range_zero'] at hc'
        simp [Instr.buildSlice, run_underlying hu, run_szOf hsz, hn0, Array.range_zero', hc', newRow]
      · simp [Instr.buildSlice, run_underlying hu, run_szOf hsz, hn0, hcond, hzr, hc', newRow, hzsz]
    simp only [execOp, ho, Sem.run_bind]
    rw [hrn]
    rfl
  · cases hp
end
end Ab
