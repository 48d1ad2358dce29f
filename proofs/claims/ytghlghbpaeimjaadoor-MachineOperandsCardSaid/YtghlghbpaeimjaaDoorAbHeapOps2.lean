/- Slice literals, conversions of bytes, make. -/
import Derived.Test.YtghlghbpaeimjaaDoorAbHeapOps
namespace Ab
open Go

theorem All2.of_RPs {w : World} {M : MutP} : ∀ {xs : List AV} {vs : List Value}, RPs w M xs vs → All2 (RP w M) xs vs
  | _, _, .nil => .nil
  | _, _, .cons _ _ _ _ h hs => .cons h (All2.of_RPs hs)
theorem RPs.of_All2 {w : World} {M : MutP} : ∀ {xs : List AV} {vs : List Value}, All2 (RP w M) xs vs → RPs w M xs vs
  | _, _, .nil => .nil
  | _, _, .cons h hs => .cons _ _ _ _ h (RPs.of_All2 hs)

theorem range_zero_cells (z : Array Value) : ∀ n, ((Array.range (n * z.size)).map fun i => z[i % z.size]!).toList = (List.replicate n z.toList).flatten := by
  intro n
  rw [Array.toList_map, Array.toList_range]
  induction n with
  | zero => simp
  | succ n ih =>
    rw [Nat.succ_mul, List.range_add, List.map_append, ih, List.replicate_succ', List.flatten_append]
    congr 1
    rw [List.map_map]
    simp only [List.flatten_cons, List.flatten_nil, List.append_nil]
    apply List.ext_getElem?
    intro i
    rw [List.getElem?_map]
    by_cases hi : i < z.size
    · rw [List.getElem?_range hi]
      simp only [Option.map_some, Function.comp_apply]
      rw [Nat.mul_comm, Nat.mul_add_mod, Nat.mod_eq_of_lt hi]
      rw [Array.getElem?_toList, Array.getElem?_eq_getElem hi, getElem!_pos z i hi]
    · rw [List.getElem?_eq_none (by simp; omega), List.getElem?_eq_none (by simp; omega)]
      rfl

theorem All2.flatten_replicate {α β : Type} {R : α → β → Prop} {xs : List α} {ys : List β} (h : All2 R xs ys) : ∀ n, All2 R (List.replicate n xs).flatten (List.replicate n ys).flatten
  | 0 => .nil
  | n + 1 => by rw [List.replicate_succ, List.replicate_succ, List.flatten_cons, List.flatten_cons]; exact h.append (h.flatten_replicate n)

section
variable {P : Program} {vf : Opd → AV} {ρ : Operand → Value}

theorem pubL_ok {S : St} {x y : AV} {v : Value} (h : pubL x = some y) (r : RL S x v) : RP S.w S.M y v := by
  cases x <;> cases h
  · obtain rfl : v = _ := r; exact .int _ _
  · obtain rfl : v = _ := r; exact .bool _
  · obtain rfl : v = _ := r; exact .str _
  · exact (show RK S (.sl _ _) v from r).1
theorem pubLs_ok {S : St} : ∀ {xs ys : List AV} {vs : List Value}, pubLs xs = some ys → All2 (RL S) xs vs → RPs S.w S.M ys vs
  | [], ys, vs, h, r => by cases h; cases r; exact .nil
  | x :: xs, ys, vs, h, r => by
    simp only [pubLs] at h
    split at h
    · rename_i y zs hy hz
      cases h
      cases r with
      | cons hx hs => exact .cons _ _ _ _ (pubL_ok hy hx) (pubLs_ok hz hs)
    · cases h
theorem pubLs_length : ∀ {xs ys : List AV}, pubLs xs = some ys → ys.length = xs.length
  | [], ys, h => by cases h; rfl
  | x :: xs, ys, h => by
    simp only [pubLs] at h
    split at h
    · rename_i y zs hy hz; cases h; simp [pubLs_length hz]
    · cases h
theorem pubL_lf {x y : AV} (h : pubL x = some y) : (∀ xs, y ≠ .agg xs) ∧ isLf y = true := by
  cases x <;> cases h <;> exact ⟨by simp, rfl⟩
theorem pub_ok {S : St} {x y : AV} {v : Value} (h : pub x = some y) (r : RV S x v) : RPs S.w S.M (leaves y) v.cells.toList := by
  unfold pub at h
  split at h
  · rename_i xs
    split at h
    · rename_i ys hy
      cases h
      obtain ⟨us, rfl, hs, _⟩ := rv_agg rfl r
      exact pubLs_ok hy hs
    · cases h
  · obtain ⟨hna, hlf⟩ := pubL_lf h
    have hl : leaves y = [y] := by cases y <;> first | rfl | exact absurd rfl (hna _)
    have hx : isLf x = true := by cases x <;> first | rfl | cases h
    have hr := pubL_ok h (RL.of_RV r hx)
    have h1 := oneCell_of_RL (RL.of_RP hr) (isLf_of_RP hr)
    have hc : v.cells = #[v] := by cases v <;> first | rfl | cases h1
    rw [hl, hc]
    exact .cons _ _ _ _ hr .nil

theorem flatMap_set {sz : Nat} : ∀ {xs : List AV} {i : Nat} {y : AV}, (∀ x ∈ xs, nleaves x = sz) → i < xs.length → nleaves y = sz →
    (xs.set i y).flatMap leaves = (xs.flatMap leaves).take (i * sz) ++ leaves y ++ (xs.flatMap leaves).drop (i * sz + (leaves y).length)
  | [], i, y, _, hi, _ => by simp at hi
  | x :: xs, 0, y, hx, _, hy => by
    have h1 : (leaves x).length = sz := by rw [leaves_length, hx x (by simp)]
    have h2 : (leaves y).length = sz := by rw [leaves_length, hy]
    simp only [List.set_cons_zero, List.flatMap_cons, Nat.zero_mul, List.take_zero, List.nil_append, Nat.zero_add]
    rw [h2, ← h1, List.drop_left]
  | x :: xs, i + 1, y, hx, hi, hy => by
    have h1 : (leaves x).length = sz := by rw [leaves_length, hx x (by simp)]
    have ih := flatMap_set (xs := xs) (i := i) (y := y) (fun z hz => hx z (by simp [hz])) (by simpa using hi) hy
    simp only [List.set_cons_succ, List.flatMap_cons, ih]
    rw [Nat.succ_mul, List.take_append, List.drop_append, h1]
    rw [List.take_of_length_le (l := leaves x) (by omega), List.drop_of_length_le (l := leaves x) (by omega)]
    simp only [List.append_assoc, List.nil_append]
    rw [show i * sz + sz - sz = i * sz by omega, show i * sz + sz + (leaves y).length - sz = i * sz + (leaves y).length by omega]

theorem fillElems_ok {S : St} {sz : Nat} : ∀ (parts : List (Nat × Operand)) (xs ys : List AV) (cells : Array Value), fillElems vf sz (parts.map fun p => (p.1, opd p.2)) xs = some ys →
    (∀ p ∈ parts, RV S (vf (opd p.2)) (ρ p.2)) → RPs S.w S.M (xs.flatMap leaves) cells.toList → (∀ x ∈ xs, nleaves x = sz) →
    ∃ cells', Instr.fill (fun i => some (i * sz, sz)) cells (parts.map fun p => (p.1, ρ p.2)) = some cells' ∧ RPs S.w S.M (ys.flatMap leaves) cells'.toList ∧ (∀ x ∈ ys, nleaves x = sz) ∧ ys.length = xs.length
  | [], xs, ys, cells, hf, _, hr, hsz => by cases hf; exact ⟨cells, rfl, hr, hsz, rfl⟩
  | (i, x) :: r, xs, ys, cells, hf, hv, hr, hsz => by
    simp only [List.map_cons, fillElems] at hf
    split at hf
    · rename_i y hy
      split at hf
      · rename_i hb
        have hp := pub_ok hy (hv (i, x) (by simp))
        have hpl := hp.length
        have hyl : (leaves y).length = sz := by rw [leaves_length]; exact hb.1
        simp only [Array.length_toList] at hpl
        have hrl := hr.length
        rw [flat_length hsz] at hrl
        have hcl : cells.toList.length = cells.size := Array.length_toList
        have hmul : (i + 1) * sz ≤ xs.length * sz := Nat.mul_le_mul_right sz hb.2
        rw [Nat.add_mul, Nat.one_mul] at hmul
        have hfo := foldl_set (i * sz) (ρ x).cells.toList 0 cells (by simp; omega)
        have hfo' : ((ρ x).cells.zipIdx.foldl (fun (cs : Array Value) (x : Value × Nat) => cs.setIfInBounds (i * sz + x.2) x.1) cells).toList =
            cells.toList.take (i * sz) ++ (ρ x).cells.toList ++ cells.toList.drop (i * sz + (ρ x).cells.toList.length) := by
          rw [← Array.foldl_toList, Array.toList_zipIdx]
          simpa using hfo
        have hsp := (All2.of_RPs hr).splice (i * sz) (All2.of_RPs hp)
        rw [← flatMap_set hsz hb.2 hb.1, ← hfo'] at hsp
        obtain ⟨cells', hc, h1, h2, h3⟩ := fillElems_ok r (xs.set i y) ys _ hf (fun p hp => hv p (by simp [hp])) (.of_All2 hsp) (fun z hz => by
          rcases List.mem_or_eq_of_mem_set hz with h | h
          · exact hsz z h
          · rw [h]; exact hb.1)
        refine ⟨cells', ?_, h1, h2, by rw [h3]; simp⟩
        simp only [List.map_cons, Instr.fill]
        have hng : (decide ((ρ x).cells.size ≠ sz) || decide (i * sz + (ρ x).cells.size > cells.size)) = false := by
          simp; omega
        rw [hng]
        exact hc
      · cases hf
    · cases hf

theorem step_imm (k : Nat) (g : Bool) {S : St} (hG : Good S) (cells : Array Value) (t : TypeId) : Step k g S (S.alloc cells t fun _ => False) ∧ Good (S.alloc cells t fun _ => False) :=
  ⟨step_alloc k g S cells t _, good_alloc hG cells t _⟩

theorem imm_new {S : St} {cells : Array Value} {t : TypeId} : Imm (S.alloc cells t fun _ => False).w (S.alloc cells t fun _ => False).M S.w.heap.size 0 cells.toList := by
  intro j v hj
  rw [Nat.zero_add]
  refine ⟨?_, ?_⟩
  · refine (cell_of_heap (vs := cells) (t := t) (fr := (0, 0)) heap_alloc_new).trans ?_
    rwa [Array.getElem?_toList] at hj
  · show ¬ (if S.w.heap.size = S.w.heap.size then False else _)
    simp

theorem does_bsl {S : St} {o : Oper} {t e : TypeId} {n sz : Nat} {parts : Array (Nat × Operand)} {z : List AV} {ze : AV} {agg : Bool} {z' : List AV} (ho : o.op = .buildSlice t n parts) (hu : P.underlying t = some (.slice e)) (hsz : szOf P e = some sz) (hz : zl P e = some z)
    (hzp : pubLs z = some z') (hze : leaves ze = z') (hc : ¬ (sz = 0 ∨ z.length ≠ sz ∨ n * sz > 2 ^ 24)) (hG : Good S) {k base : Nat} {g : Bool} {v : AV} (hv : ∀ p ∈ parts.toList, RV S (vf (opd p.2)) (ρ p.2))
    (hp : pureOp vf (.bsl sz ze n (parts.toList.map fun (i, x) => (i, opd x))) = some v) : agg = agg → Does P k g base S ρ o none v S.H := by
  intro _
  obtain ⟨zv, hzr, hzo⟩ := zl_ok hz
  simp only [pureOp] at hp
  split at hp
  · rename_i xs hxs
    cases hp
    have hzl := (hzo S).1.length
    have hzl2 : zv.cells.toList.length = zv.cells.size := Array.length_toList
    have hzn : nleaves ze = sz := by rw [← leaves_length, hze, pubLs_length hzp]; omega
    have hr0 : RPs S.w S.M ((List.replicate n ze).flatMap leaves) ((Array.range (n * sz)).map fun i => zv.cells[i % zv.cells.size]!).toList := by
      have h1 := range_zero_cells zv.cells n
      rw [show zv.cells.size = sz by omega] at h1 ⊢
      rw [h1]
      have h2 := (All2.of_RPs (pubLs_ok hzp (hzo S).1)).flatten_replicate n
      have h3 : (List.replicate n ze).flatMap leaves = (List.replicate n z').flatten := by
        rw [List.flatMap_def, List.map_replicate, hze]
      rw [h3]
      exact .of_All2 h2
    obtain ⟨cells', hc', hr, hxz, hxl⟩ := fillElems_ok parts.toList _ xs _ hxs hv hr0 (fun x hx => by rw [List.eq_of_mem_replicate hx]; exact hzn)
    obtain ⟨e1, g1⟩ := step_imm k g hG cells' e
    have hlen : xs.length = n := by rw [hxl]; simp
    refine ⟨S.alloc cells' e fun _ => False, .value (.slice (some ⟨S.w.heap.size, 0, none⟩) n n), ?_, rfl, e1, g1, .inl ⟨.slice (some ⟨S.w.heap.size, 0, none⟩) n n, rfl, ?_, ?_⟩, fun p hp _ => ⟨hp, rfl⟩⟩
    · have hcond : ¬ (n * sz > 16777216) := fun h => hc (.inr (.inr h))
      have hrn : (Instr.buildSlice t n (parts.map fun p => (p.1, ρ p.2))).run P S.w = .ok (.slice (some ⟨S.w.heap.size, 0, none⟩) n n) (S.w.alloc (.cells cells' e (0, 0))) := by
        by_cases hn0 : n * sz = 0
        · rw [hn0] at hc'
          simp [Array.range_zero'] at hc'
          simp [Instr.buildSlice, run_underlying hu, run_szOf hsz, hn0, Array.range_zero', hc', newRow]
        · simp [Instr.buildSlice, run_underlying hu, run_szOf hsz, hn0, hcond, hzr, hc', newRow]
      simp only [execOp, ho, Sem.run_bind]
      rw [hrn]
      rfl
    · rw [← hlen]
      refine RP.sl_mk (Nat.le_refl _) fun _ => ?_
      exact ⟨_, 0, sz, cells'.toList, rfl, hxz, hr.mono e1.wext, imm_new⟩
    · exact ⟨_, by rw [hlen]⟩
  · cases hp
end
end Ab
