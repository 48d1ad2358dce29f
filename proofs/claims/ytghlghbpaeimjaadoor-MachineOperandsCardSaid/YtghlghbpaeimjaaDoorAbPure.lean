/- The operations that touch no object: what the model's operation answers. -/
import Derived.Test.YtghlghbpaeimjaaDoorAbStore
import Derived.Test.YtghlghbpaeimjaaDoorAbStrip
import Derived.Laws.Entries
import Derived.Laws.Sem
import Derived.Laws.Slices
import Derived.Laws.Build
import Derived.Laws.Strings
import Derived.Laws.Strings2
import Derived.Laws.Concat
import Derived.Laws.StructEq
import Derived.Laws.Tables
namespace Ab
open Go

section
variable {P : Program} {S : St} {vf : Opd → AV} {ρ : Operand → Value}

theorem rv_int {v : AV} {u : Value} {k : IntKind} {n : Int} (h : v = .int k n) (r : RV S v u) : u = .int k n := by subst h; exact r
theorem rv_bool {v : AV} {u : Value} {b : Bool} (h : v = .bool b) (r : RV S v u) : u = .bool b := by subst h; exact r
theorem rv_str {v : AV} {u : Value} {s : List UInt8} (h : v = .str s) (r : RV S v u) : u = .string ⟨s.toArray⟩ := by subst h; exact r
theorem rv_sl {v : AV} {u : Value} {c : Cap} {xs : List AV} (h : v = .sl c xs) (r : RV S v u) : RP S.w S.M (.sl .none xs) u ∧ CapOk S c xs.length u := by subst h; exact r
theorem rv_ptr {v : AV} {u : Value} {o off : Nat} (h : v = .ptr o off) (r : RV S v u) : IsCells S o ∧ ∃ b, S.m o = .blk b ∧ u = .pointer (some ⟨b, off, none⟩) := by subst h; exact r
theorem rv_eptr {v : AV} {u : Value} {xs : List AV} (h : v = .eptr xs) (r : RV S v u) : ∃ b off vs, u = .pointer (some ⟨b, off, none⟩) ∧ RPs S.w S.M xs vs ∧ Imm S.w S.M b off vs := by subst h; exact r
theorem rv_arr {v : AV} {u : Value} {o off len : Nat} (h : v = .arr o off len) (r : RV S v u) : IsCells S o ∧ ∃ b cap, S.m o = .blk b ∧ u = .slice (some ⟨b, off, none⟩) len cap ∧ len ≤ cap := by subst h; exact r
theorem rv_agg {v : AV} {u : Value} {xs : List AV} (h : v = .agg xs) (r : RV S v u) : ∃ us : Array Value, u = .agg us ∧ All2 (RL S) xs us.toList ∧ xs.all isLf = true := by subst h; exact r
theorem rv_tup {v : AV} {u : Value} {xs : List AV} (h : v = .tup xs) (r : RV S v u) : ∃ us : Array Value, u = .tuple us ∧ All2 (RC S) xs us.toList := by subst h; exact r
theorem rv_fn {v : AV} {u : Value} {f : Nat} {xs : List AV} (h : v = .fn f xs) (r : RV S v u) : ∃ vs : Array Value, u = .func (.func f) #[] vs ∧ All2 (RK S) xs vs.toList ∧ xs.all isCap = true := by subst h; exact r

/-- a leaf inside a slice is a leaf -/
theorem RK.of_RP {x : AV} {v : Value} (h : RP S.w S.M x v) : RK S x v := by
  cases h with
  | int k n => rfl
  | bool b => rfl
  | str s => rfl
  | sl0 a cap => exact ⟨.sl0 a cap, trivial⟩
  | sl b off cap sz xs vs ne hsz hs himm hcap => exact ⟨.sl b off cap sz xs vs ne hsz hs himm hcap, trivial⟩
theorem RL.of_RK {x : AV} {v : Value} (h : RK S x v) : RL S x v := by
  cases x <;> first | exact h | exact h.elim
theorem RL.of_RP {x : AV} {v : Value} (h : RP S.w S.M x v) : RL S x v := .of_RK (.of_RP h)
theorem isLf_of_RP {x : AV} {v : Value} (h : RP S.w S.M x v) : isLf x = true := by cases h <;> rfl
theorem RLs.of_RPs : ∀ {xs : List AV} {vs : List Value}, RPs S.w S.M xs vs → All2 (RL S) xs vs ∧ xs.all isLf = true
  | _, _, .nil => ⟨.nil, rfl⟩
  | _, _, .cons _ _ _ _ h hs => ⟨.cons (.of_RP h) (RLs.of_RPs hs).1, by simp [isLf_of_RP h, (RLs.of_RPs hs).2]⟩
theorem RC.of_RL {x : AV} {v : Value} (h : RL S x v) (hl : isLf x = true) : RC S x v := by
  cases x <;> first | exact h | cases hl
theorem RV.of_RC {x : AV} {v : Value} (h : RC S x v) : RV S x v := by
  cases x <;> first | exact h | exact (show False from h).elim
theorem RV.of_RL {x : AV} {v : Value} (h : RL S x v) (hl : isLf x = true) : RV S x v :=
  .of_RC (.of_RL h hl)

/-- the cells of a value -/
theorem cellsOf_ok {v : AV} {u : Value} {xs : List AV} (h : cellsOf v = some xs) (r : RV S v u) : All2 (RL S) xs u.cells.toList ∧ xs.all isLf = true := by
  cases v with
  | agg ys =>
    simp only [cellsOf] at h
    split at h
    · cases h
      obtain ⟨us, rfl, h1, h2⟩ := rv_agg rfl r
      exact ⟨h1, h2⟩
    · cases h
  | tup ys => cases h
  | no => cases h
  | int k n => cases h; obtain rfl := rv_int rfl r; exact ⟨.cons rfl .nil, rfl⟩
  | bool b => cases h; obtain rfl := rv_bool rfl r; exact ⟨.cons rfl .nil, rfl⟩
  | str s => cases h; obtain rfl := rv_str rfl r; exact ⟨.cons rfl .nil, rfl⟩
  | nilp => cases h; obtain rfl : u = .pointer none := r; exact ⟨.cons rfl .nil, rfl⟩
  | map o => exact (show False from r).elim
  | sl c ys =>
    cases h
    have r' := rv_sl rfl r
    obtain ⟨a, cap, rfl, _⟩ := r'.1.sl_parts
    exact ⟨.cons r' .nil, rfl⟩
  | ptr o off => cases h; have r' := rv_ptr rfl r; obtain ⟨_, b, _, rfl⟩ := r'; exact ⟨.cons r .nil, rfl⟩
  | eptr ys => cases h; obtain ⟨b, off, vs, rfl, _⟩ := rv_eptr rfl r; exact ⟨.cons r .nil, rfl⟩
  | arr o off len => cases h; obtain ⟨_, b, cap, _, rfl, _⟩ := rv_arr rfl r; exact ⟨.cons r .nil, rfl⟩
  | fn f ys => cases h; obtain ⟨vs, rfl, _⟩ := rv_fn rfl r; exact ⟨.cons r .nil, rfl⟩

/-- cells, as one value -/
theorem mkAgg_ok {agg : Bool} {xs : List AV} {vs : List Value} {v : AV} (h : mkAgg agg xs = some v) (hs : All2 (RL S) xs vs) (hl : xs.all isLf = true) :
    (agg = true ∧ RV S v (.agg vs.toArray)) ∨ (agg = false ∧ ∃ u, vs = [u] ∧ RV S v u) := by
  cases agg with
  | true =>
    simp only [mkAgg, if_true] at h
    cases h
    exact .inl ⟨rfl, vs.toArray, rfl, by simpa using hs, hl⟩
  | false =>
    simp only [mkAgg, Bool.false_eq_true, if_false] at h
    split at h
    · cases h
      cases hs with
      | cons hx hs =>
        cases hs
        refine .inr ⟨rfl, _, rfl, .of_RL hx (by simpa using hl)⟩
    · cases h

theorem all_drop {p : AV → Bool} {xs : List AV} (h : xs.all p = true) (n : Nat) : (xs.drop n).all p = true :=
  List.all_eq_true.2 fun x hx => List.all_eq_true.1 h x (List.mem_of_mem_drop hx)
theorem all_take {p : AV → Bool} {xs : List AV} (h : xs.all p = true) (n : Nat) : (xs.take n).all p = true :=
  List.all_eq_true.2 fun x hx => List.all_eq_true.1 h x (List.mem_of_mem_take hx)

theorem run_szOf {t : TypeId} {n : Nat} (h : szOf P t = some n) (w : World) : (Go.sizeOf t).run P w = .ok n w := by
  unfold szOf at h
  cases hi : P.info? t with
  | none => simp [hi] at h
  | some i => simp [hi] at h; simp [Go.sizeOf, typeInfo, hi, h]
theorem run_aggT {t : TypeId} {b : Bool} (h : aggT P t = some b) (w : World) : (isAgg t).run P w = .ok b w := by
  unfold aggT at h
  unfold isAgg
  cases hu : P.underlying t with
  | none => simp [hu] at h
  | some d =>
    rw [Sem.run_bind, run_underlying hu]
    rw [hu] at h
    cases d <;> simp_all

/-- what an operation answers that leaves the world alone -/
def Says (P : Program) (S : St) (ρ : Operand → Value) (o : Oper) (v : AV) : Prop := ∃ u, (execOp ρ o).run P S.w = .ok (.value u) S.w ∧ RV S v u

theorem says_mv {o : Oper} {x : Operand} (ho : o.op = .move x ∨ o.op = .assign x) (hv : RV S (vf (opd x)) (ρ x)) : Says P S ρ o (vf (opd x)) := by
  refine ⟨ρ x, ?_, hv⟩
  rcases ho with ho | ho <;> simp [execOp, ho]

theorem says_pick {o : Oper} {c a b : Operand} (ho : o.op = .pick c a b) {v : AV} (hc : RV S (vf (opd c)) (ρ c)) (ha : RV S (vf (opd a)) (ρ a)) (hb : RV S (vf (opd b)) (ρ b))
    (hp : pureOp vf (.pick (opd c) (opd a) (opd b)) = some v) : Says P S ρ o v := by
  simp only [pureOp] at hp
  split at hp
  · rename_i t ht
    cases hp
    refine ⟨if t then ρ a else ρ b, ?_, ?_⟩
    · simp [execOp, ho, rv_bool ht hc, asBool]
    · cases t <;> simpa
  · cases hp

theorem says_nilc {o : Oper} {x : Operand} (ho : o.op = .nilCheck x) {v : AV} (hx : RV S (vf (opd x)) (ρ x)) (hp : pureOp vf (.nilc (opd x)) = some v) : Says P S ρ o v := by
  simp only [pureOp] at hp
  split at hp
  · rename_i p k ht
    cases hp
    rw [ht] at hx
    have h := rv_ptr rfl hx
    obtain ⟨_, b, _, hu⟩ := h
    exact ⟨ρ x, by simp [execOp, ho, hu], hx⟩
  · rename_i xs ht
    cases hp
    rw [ht] at hx
    obtain ⟨b, off, vs, hu, _⟩ := rv_eptr rfl hx
    exact ⟨ρ x, by simp [execOp, ho, hu], hx⟩
  · rename_i f xs ht
    cases hp
    rw [ht] at hx
    obtain ⟨vs, hu, _⟩ := rv_fn rfl hx
    exact ⟨ρ x, by simp [execOp, ho, hu], hx⟩
  · cases hp

theorem says_un {o : Oper} {op : UnOp} {t : TypeId} {x : Operand} (ho : o.op = .unOp op t x) {v : AV} (hx : RV S (vf (opd x)) (ρ x)) (hp : un op (vf (opd x)) = some v) : Says P S ρ o v := by
  cases hvx : vf (opd x) <;> rw [hvx] at hp <;> simp only [un, reduceCtorEq] at hp
  · have hu := rv_int hvx hx
    cases op <;> simp at hp <;> subst hp
    · exact ⟨_, by simp [execOp, ho, hu, Op.unary, Op.intArith], rfl⟩
    · exact ⟨_, by simp [execOp, ho, hu, Op.unary, Op.intBits], rfl⟩
  · have hu := rv_bool hvx hx
    cases op <;> simp at hp <;> subst hp
    exact ⟨_, by simp [execOp, ho, hu, Op.unary], rfl⟩

theorem says_ext {o : Oper} {x : Operand} {i : Nat} (ho : o.op = .extract x i) {v : AV} (hx : RV S (vf (opd x)) (ρ x)) (hp : pureOp vf (.ext (opd x) i) = some v) : Says P S ρ o v := by
  simp only [pureOp] at hp
  split at hp
  · rename_i xs ht
    obtain ⟨us, hu, hs⟩ := rv_tup ht hx
    obtain ⟨u, hu', hr⟩ := hs.get i v hp
    refine ⟨u, ?_, .of_RC hr⟩
    rw [Array.getElem?_toList] at hu'
    simp [execOp, ho, hu, Instr.extract, hu']
  · cases hp

theorem says_conv {o : Oper} {s d : TypeId} {x : Operand} {k k' : IntKind} (ho : o.op = .convert s d x) (h1 : P.underlying s = some (.int k')) (h2 : P.underlying d = some (.int k)) {v : AV}
    (hx : RV S (vf (opd x)) (ρ x)) (hp : pureOp vf (.conv k (opd x)) = some v) : Says P S ρ o v := by
  simp only [pureOp] at hp
  split at hp
  · rename_i k0 n ht
    cases hp
    have hu := rv_int ht hx
    exact ⟨_, by simp [execOp, ho, hu, convert, run_underlying h1, run_underlying h2, Conv.intToInt], rfl⟩
  · cases hp

theorem says_fa {o : Oper} {t : TypeId} {x : Operand} {i n : Nat} {fields : Array Field} {f : Field} (ho : o.op = .fieldAddr t x i) (h1 : P.underlying t = some (.struct fields)) (h2 : fields[i]? = some f)
    (h3 : szOf P f.type = some n) (h4 : n ≠ 0) {v : AV} (hx : RV S (vf (opd x)) (ρ x)) (hp : pureOp vf (.fa f.offset (opd x)) = some v) : Says P S ρ o v := by
  have h3' := fun w => run_szOf (P := P) h3 w
  simp only [pureOp] at hp
  split at hp
  · rename_i p k ht
    cases hp
    obtain ⟨hc, b, hm, hu⟩ := rv_ptr ht hx
    refine ⟨.pointer (some ⟨b, k + f.offset, none⟩), ?_, hc, b, hm, rfl⟩
    simp [execOp, ho, hu, Instr.fieldAt, run_underlying h1, h2, Instr.sureAddr, fieldPlace, h3', h4, Addr.add_lit]
  · rename_i xs ht
    cases hp
    obtain ⟨b, off, vs, hu, hs, him⟩ := rv_eptr ht hx
    refine ⟨.pointer (some ⟨b, off + f.offset, none⟩), ?_, b, off + f.offset, vs.drop f.offset, rfl, hs.drop _, him.drop _⟩
    simp [execOp, ho, hu, Instr.fieldAt, run_underlying h1, h2, Instr.sureAddr, fieldPlace, h3', h4, Addr.add_lit]
  · cases hp

/-- a part of a struct or an array -/
theorem run_part {t : TypeId} {agg : Bool} {n off : Nat} {cs : Array Value} {xs : List AV} (ha : aggT P t = some agg) (hn : agg = true → szOf P t = some n) (h1 : agg = false → n = 1) (hs : All2 (RL S) xs cs.toList)
    (hl : xs.all isLf = true) {v : AV} (hlen : ((xs.drop off).take n).length = n) (hv : mkAgg agg ((xs.drop off).take n) = some v) (w : World) :
    ∃ u, (part t cs off).run P w = .ok u w ∧ RV S v u := by
  have hs' := (hs.drop off).take n
  have hl' := hs'.length
  unfold part
  rw [Sem.run_bind, run_aggT ha]
  rcases mkAgg_ok hv hs' (all_take (all_drop hl _) _) with ⟨rfl, hr⟩ | ⟨rfl, u, hu, hr⟩
  · refine ⟨_, ?_, hr⟩
    simp only [Result.andThen_ok, if_true, Sem.run_bind, run_szOf (hn rfl)]
    simp only [Sem.run_pure, Result.ok.injEq, Value.agg.injEq, and_true]
    apply Array.ext'
    rw [Array.toList_extract, List.extract_eq_take_drop]
    simp
  · refine ⟨u, ?_, hr⟩
    have hn1 : n = 1 := h1 rfl
    subst hn1
    have : cs[off]? = some u := by
      rw [← Array.getElem?_toList]
      have := congrArg (·[0]?) hu
      simpa [List.getElem?_take, List.getElem?_drop] using this
    simp [this]

theorem says_fld {o : Oper} {t : TypeId} {x : Operand} {i n : Nat} {agg : Bool} {fields : Array Field} {f : Field} (ho : o.op = .field t x i) (h1 : P.underlying t = some (.struct fields)) (h2 : fields[i]? = some f)
    (ha : aggT P f.type = some agg) (h3 : agg = true → szOf P f.type = some n) (h4 : agg = false → n = 1) {v : AV} (hx : RV S (vf (opd x)) (ρ x)) (hp : pureOp vf (.fld agg f.offset n (opd x)) = some v) : Says P S ρ o v := by
  simp only [pureOp] at hp
  split at hp
  · rename_i xs ht
    obtain ⟨us, hu, hs, hl⟩ := rv_agg ht hx
    split at hp
    · rename_i hlen
      obtain ⟨u, hrun, hr⟩ := run_part (P := P) ha h3 h4 hs hl hlen hp S.w
      exact ⟨u, by simp [execOp, ho, hu, Instr.field, run_underlying h1, h2, asAgg, hrun], hr⟩
    · cases hp
  · cases hp

theorem says_ixa {o : Oper} {t : TypeId} {x i : Operand} {len e n : Nat} {agg : Bool} (ho : o.op = .index t x i) (h1 : P.underlying t = some (.array len e))
    (ha : aggT P e = some agg) (h3 : szOf P e = some n) (h4 : agg = true ∨ n = 1) {v : AV} (hx : RV S (vf (opd x)) (ρ x)) (hi : RV S (vf (opd i)) (ρ i)) (hp : pureOp vf (.ixa agg len n (opd x) (opd i)) = some v) : Says P S ρ o v := by
  simp only [pureOp] at hp
  split at hp
  · rename_i xs k j ht hj
    obtain ⟨us, hu, hs, hl⟩ := rv_agg ht hx
    have hiu := rv_int hj hi
    split at hp
    · rename_i hb
      split at hp
      · rename_i hlen
        obtain ⟨u, hrun, hr⟩ := run_part (P := P) ha (fun _ => h3) (fun h => by rcases h4 with h' | h'; rw [h] at h'; cases h'; exact h') hs hl hlen hp S.w
        exact ⟨u, by simp [execOp, ho, hu, hiu, Instr.index, asIntOf, run_underlying h1, hb, run_szOf h3, hrun], hr⟩
      · cases hp
    · cases hp
  · cases hp

theorem says_ixs {o : Oper} {t : TypeId} {x i : Operand} (ho : o.op = .index t x i) (h1 : P.underlying t = some .string)
    {v : AV} (hx : RV S (vf (opd x)) (ρ x)) (hi : RV S (vf (opd i)) (ρ i)) (hp : pureOp vf (.ixs (opd x) (opd i)) = some v) : Says P S ρ o v := by
  simp only [pureOp] at hp
  split at hp
  · rename_i b k j ht hj
    have hu := rv_str ht hx
    have hiu := rv_int hj hi
    split at hp
    · rename_i hb
      split at hp
      · rename_i c hc
        cases hp
        refine ⟨.int .u8 c.toNat, ?_, rfl⟩
        have : (⟨b.toArray⟩ : ByteArray)[j.toNat]? = some c := by
          have hlt := lt_of_some hc
          have hs : j.toNat < (⟨b.toArray⟩ : ByteArray).size := by simpa [ByteArray.size] using hlt
          rw [getElem?_pos (⟨b.toArray⟩ : ByteArray) j.toNat hs]
          rw [List.getElem?_eq_getElem hlt] at hc
          have : (⟨b.toArray⟩ : ByteArray)[j.toNat] = b[j.toNat] := by simp [ByteArray.getElem_eq_getElem_data]
          rw [this]; exact hc
        simp [execOp, ho, hu, hiu, Instr.index, asIntOf, run_underlying h1, hb, this]
      · cases hp
    · cases hp
  · cases hp

theorem says_ia {o : Oper} {t : TypeId} {x i : Operand} {e sz : Nat} (ho : o.op = .indexAddr t x i) (h1 : P.underlying t = some (.slice e)) (h3 : szOf P e = some sz)
    {v : AV} (hx : RV S (vf (opd x)) (ρ x)) (hi : RV S (vf (opd i)) (ρ i)) (hp : pureOp vf (.ia sz (opd x) (opd i)) = some v) : Says P S ρ o v := by
  simp only [pureOp] at hp
  split at hp
  · rename_i c xs k j ht hj
    have hu := (rv_sl ht hx).1
    have hiu := rv_int hj hi
    split at hp
    · rename_i hb
      split at hp
      · rename_i y hy
        split at hp
        · rename_i hsz
          cases hp
          obtain ⟨a, cap, hux, _, hpart⟩ := hu.sl_parts
          have hlt := lt_of_some hy
          obtain ⟨b, off, sz', vs, rfl, hall, hs, him⟩ := hpart (by intro h; rw [h] at hy; simp at hy)
          have hsz' : sz' = sz := by rw [← hall y (List.mem_of_getElem? hy), hsz]
          subst hsz'
          have hjl : j < (xs.length : Int) := by omega
          refine ⟨.pointer (some ⟨b, off + j.toNat * sz', none⟩), ?_, b, off + j.toNat * sz', (vs.drop (j.toNat * sz')).take sz', rfl, ?_, (him.drop _).take _⟩
          · simp [execOp, ho, hux, hiu, Instr.indexAt, asIntOf, run_underlying h1, hb, hjl, run_szOf h3, Addr.add_lit]
          · have h1 := (hs.drop (j.toNat * sz')).take sz'
            have h2 : ((xs.flatMap leaves).drop (j.toNat * sz')).take sz' = leaves y := by
              have hsplit : xs = xs.take j.toNat ++ y :: xs.drop (j.toNat + 1) := by
                rw [List.getElem?_eq_getElem hlt] at hy
                cases hy
                rw [← List.drop_eq_getElem_cons hlt, List.take_append_drop]
              have hl1 : ((xs.take j.toNat).flatMap leaves).length = j.toNat * sz' := by
                rw [flat_length (sz := sz') fun z hz => hall z (List.mem_of_mem_take hz), List.length_take, Nat.min_eq_left (by omega)]
              rw [hsplit, List.flatMap_append, ← hl1, List.drop_left, List.flatMap_cons]
              rw [← hsz, ← leaves_length, List.take_left]
            rwa [h2] at h1
        · cases hp
      · cases hp
    · cases hp
  · rename_i p off len k j ht hj
    obtain ⟨hc, b, cap, hm, hu, _⟩ := rv_arr ht hx
    have hiu := rv_int hj hi
    split at hp
    · rename_i hb
      cases hp
      refine ⟨.pointer (some ⟨b, off + j.toNat * sz, none⟩), ?_, hc, b, hm, rfl⟩
      simp [execOp, ho, hu, hiu, Instr.indexAt, asIntOf, run_underlying h1, hb, run_szOf h3, Addr.add_lit]
    · cases hp
  · cases hp

theorem says_iaa {o : Oper} {t : TypeId} {x i : Operand} {len e sz : Nat} (ho : o.op = .indexAddr t x i) (h1 : P.underlying t = some (.array len e)) (h3 : szOf P e = some sz)
    {v : AV} (hx : RV S (vf (opd x)) (ρ x)) (hi : RV S (vf (opd i)) (ρ i)) (hp : pureOp vf (.iaa len sz (opd x) (opd i)) = some v) : Says P S ρ o v := by
  simp only [pureOp] at hp
  split at hp
  · rename_i p off k j ht hj
    obtain ⟨hc, b, hm, hu⟩ := rv_ptr ht hx
    have hiu := rv_int hj hi
    split at hp
    · rename_i hb
      cases hp
      refine ⟨.pointer (some ⟨b, off + j.toNat * sz, none⟩), ?_, hc, b, hm, rfl⟩
      simp [execOp, ho, hu, hiu, Instr.indexAt, asIntOf, run_underlying h1, hb, run_szOf h3, Addr.add_lit, Instr.sureAddr]
    · cases hp
  · rename_i xs k j ht hj
    obtain ⟨b, off, vs, hu, hs, him⟩ := rv_eptr ht hx
    have hiu := rv_int hj hi
    split at hp
    · rename_i hb
      cases hp
      refine ⟨.pointer (some ⟨b, off + j.toNat * sz, none⟩), ?_, b, off + j.toNat * sz, vs.drop (j.toNat * sz), rfl, hs.drop _, him.drop _⟩
      simp [execOp, ho, hu, hiu, Instr.indexAt, asIntOf, run_underlying h1, hb, run_szOf h3, Addr.add_lit, Instr.sureAddr]
    · cases hp
  · cases hp
theorem bytes_size (s : List UInt8) : (⟨s.toArray⟩ : ByteArray).size = s.length := by simp [ByteArray.size]

theorem says_bin {o : Oper} {op : BinOp} {t yt : TypeId} {x y : Operand} (ho : o.op = .binOp op t x y yt)
    {v : AV} (hx : RV S (vf (opd x)) (ρ x)) (hy : RV S (vf (opd y)) (ρ y)) (hp : bin op (vf (opd x)) (vf (opd y)) = some v) : Says P S ρ o v := by
  unfold bin at hp
  split at hp
  · rename_i k a k' b hxa hyb
    have hu := rv_int hxa hx
    have hv := rv_int hyb hy
    split at hp
    · rename_i hs
      unfold shI at hp
      split at hp
      · cases hp
      · rename_i hb
        rcases hs with rfl | rfl <;> (simp only at hp; cases hp)
        · exact ⟨.int k _, by simp [execOp, ho, hu, hv, binOp, eqGuard_at_int, Op.shift, hb], rfl⟩
        · exact ⟨.int k _, by simp [execOp, ho, hu, hv, binOp, eqGuard_at_int, Op.shift, hb], rfl⟩
    · rename_i hs
      simp only [not_or] at hs
      split at hp
      · rename_i hk
        subst hk
        cases op <;> simp only [binI, reduceCtorEq] at hp
        case quo =>
          split at hp
          · cases hp
          · rename_i hb; cases hp
            exact ⟨.int k _, by simp [execOp, ho, hu, hv, eqGuard_at_int, binOp, Op.intDiv, hb], rfl⟩
        case rem =>
          split at hp
          · cases hp
          · rename_i hb; cases hp
            exact ⟨.int k _, by simp [execOp, ho, hu, hv, eqGuard_at_int, binOp, Op.intDiv, hb], rfl⟩
        case add => cases hp; exact ⟨.int k _, by simp [execOp, ho, hu, hv, eqGuard_at_int, binOp, Op.intArith], rfl⟩
        case sub => cases hp; exact ⟨.int k _, by simp [execOp, ho, hu, hv, eqGuard_at_int, binOp, Op.intArith], rfl⟩
        case mul => cases hp; exact ⟨.int k _, by simp [execOp, ho, hu, hv, eqGuard_at_int, binOp, Op.intArith], rfl⟩
        case and => cases hp; exact ⟨.int k _, by simp [execOp, ho, hu, hv, eqGuard_at_int, binOp, Op.intBits], rfl⟩
        case or => cases hp; exact ⟨.int k _, by simp [execOp, ho, hu, hv, eqGuard_at_int, binOp, Op.intBits], rfl⟩
        case xor => cases hp; exact ⟨.int k _, by simp [execOp, ho, hu, hv, eqGuard_at_int, binOp, Op.intBits], rfl⟩
        case andNot => cases hp; exact ⟨.int k _, by simp [execOp, ho, hu, hv, eqGuard_at_int, binOp, Op.intBits], rfl⟩
        case eql => cases hp; exact ⟨.bool _, by simp [execOp, ho, hu, hv, eqGuard_at_int, binOp, Op.intCmp], rfl⟩
        case neq => cases hp; exact ⟨.bool _, by simp [execOp, ho, hu, hv, eqGuard_at_int, binOp, Op.intCmp], rfl⟩
        case lss => cases hp; exact ⟨.bool _, by simp [execOp, ho, hu, hv, eqGuard_at_int, binOp, Op.intCmp], rfl⟩
        case leq => cases hp; exact ⟨.bool _, by simp [execOp, ho, hu, hv, eqGuard_at_int, binOp, Op.intCmp], rfl⟩
        case gtr => cases hp; exact ⟨.bool _, by simp [execOp, ho, hu, hv, eqGuard_at_int, binOp, Op.intCmp], rfl⟩
        case geq => cases hp; exact ⟨.bool _, by simp [execOp, ho, hu, hv, eqGuard_at_int, binOp, Op.intCmp], rfl⟩
      · cases hp
  · rename_i a b hxa hyb
    have hu := rv_str hxa hx
    have hv := rv_str hyb hy
    cases op <;> simp only [binS, reduceCtorEq] at hp
    case add =>
      split at hp
      · rename_i hb
        cases hp
        have hb' : ¬ ((a.length : Int) + b.length > 9223372036854775807) := by omega
        refine ⟨.string ⟨(a ++ b).toArray⟩, ?_, rfl⟩
        simp only [execOp, ho, hu, hv, eqGuard_at_string, binOp, Op.stringOp, bytes_size, ByteArray.mk_append_mk, IntKind.max_i64, Int.natCast_add, Sem.run_bind, Sem.run_pure, Result.andThen_ok, if_neg hb']
      · cases hp
    all_goals
      cases hp
      exact ⟨.bool _, by simp [execOp, ho, hu, hv, eqGuard_at_string, binOp, Op.stringOp, ByteArray.toList_mk], rfl⟩
  · cases hp

theorem says_beq {o : Oper} {neg : Bool} {op : BinOp} {t yt : TypeId} {x y : Operand} (ho : o.op = .binOp op t x y yt) (h1 : P.underlying t = some .bool) (hop : op = if neg then .neq else .eql)
    {v : AV} (hx : RV S (vf (opd x)) (ρ x)) (hy : RV S (vf (opd y)) (ρ y)) (hp : pureOp vf (.beq neg (opd x) (opd y)) = some v) : Says P S ρ o v := by
  simp only [pureOp] at hp
  split at hp
  · rename_i a b hxa hyb
    cases hp
    have hu := rv_bool hxa hx
    have hv := rv_bool hyb hy
    have he : (Op.equal t (.bool a) (.bool b)).run P S.w = .ok (a == b) S.w := run_equalIn_bool' S.w 9999 t a b h1
    refine ⟨.bool _, ?_, rfl⟩
    cases neg <;> simp at hop <;> subst hop <;> simp [execOp, ho, hu, hv, eqGuard_at_bool, binOp, he]
  · cases hp

theorem scalar_cases {t : TypeId} {k : Nat} (h : scalarT P t = some k) : (k = 0 ∧ ∃ i, P.underlying t = some (.int i)) ∨ (k = 1 ∧ P.underlying t = some .bool) ∨ (k = 2 ∧ P.underlying t = some .string) := by
  unfold scalarT at h
  split at h
  · rename_i i hu; cases h; exact .inl ⟨rfl, i, hu⟩
  · rename_i hu; cases h; exact .inr (.inl ⟨rfl, hu⟩)
  · rename_i hu; cases h; exact .inr (.inr ⟨rfl, hu⟩)
  · cases h
theorem scalar_agg {t : TypeId} {k : Nat} (h : scalarT P t = some k) : aggT P t = some false := by
  unfold aggT
  rcases scalar_cases h with ⟨_, i, hu⟩ | ⟨_, hu⟩ | ⟨_, hu⟩ <;> rw [hu]
theorem eqGuardType_scalar {t : TypeId} {k : Nat} (h : scalarT P t = some k) : ∀ d, P.eqGuardType (d + 1) t = false := by
  intro d
  unfold Program.eqGuardType
  rcases scalar_cases h with ⟨_, i, hu⟩ | ⟨_, hu⟩ | ⟨_, hu⟩ <;> rw [hu]

theorem eqLs_ok {us vs : Array Value} (d : Nat) : ∀ (fs : List Field) (ks : List Nat) (k : Nat) (xs ys : List AV), eqFs P k fs = some ks → All2 (RL S) xs (us.toList.drop k) → All2 (RL S) ys (vs.toList.drop k) →
    ∀ b, eqLs ks xs ys = some b → (Op.eqFields (d + 1) us vs fs).run P S.w = .ok b S.w := by
  intro fs
  induction fs with
  | nil =>
    intro ks k xs ys hf hxs hys b hb
    cases hf
    cases xs <;> cases ys <;> cases hb
    rfl
  | cons f fs ih =>
    intro ks k xs ys hf hxs hys b hb
    simp only [eqFs] at hf
    split at hf
    · rename_i kd ks' hs hf'
      split at hf
      · rename_i hc
        cases hf
        obtain ⟨hn, hoff⟩ := hc
        cases xs with
        | nil => cases hb
        | cons x xs =>
          cases ys with
          | nil => cases hb
          | cons y ys =>
            simp only [eqLs] at hb
            generalize hud : us.toList.drop k = ud at hxs
            generalize hvd : vs.toList.drop k = vd at hys
            cases hxs with
            | cons hx hxs =>
              rename_i u us'
              cases hys with
              | cons hy hys =>
                rename_i v vs'
                have hu : us[k]? = some u := by
                  have := congrArg (·[0]?) hud
                  simpa [List.getElem?_drop] using this
                have hv : vs[k]? = some v := by
                  have := congrArg (·[0]?) hvd
                  simpa [List.getElem?_drop] using this
                have hus : us.toList.drop (k + 1) = us' := by rw [← List.drop_drop, hud]; rfl
                have hvs : vs.toList.drop (k + 1) = vs' := by rw [← List.drop_drop, hvd]; rfl
                have hag := scalar_agg hs
                have hpu : (part f.type us f.offset).run P S.w = .ok u S.w := by
                  unfold part; rw [Sem.run_bind, run_aggT hag]; simp [hoff, hu]
                have hpv : (part f.type vs f.offset).run P S.w = .ok v S.w := by
                  unfold part; rw [Sem.run_bind, run_aggT hag]; simp [hoff, hv]
                have key : ∀ r, eqL kd x y = some r → (Op.equalIn (d + 1) f.type u v).run P S.w = .ok r S.w := by
                  intro r hr
                  rcases scalar_cases hs with ⟨rfl, i, hty⟩ | ⟨rfl, hty⟩ | ⟨rfl, hty⟩
                  · cases x <;> cases y <;> try (exfalso; simp [eqL] at hr; done)
                    rename_i k1 a k2 b'
                    simp only [eqL] at hr
                    split at hr
                    · rename_i hk
                      cases hr
                      obtain rfl : u = .int k1 a := hx
                      obtain rfl : v = .int k2 b' := hy
                      subst hk
                      exact run_equalIn_int S.w d _ _ _ _ _ hty
                    · cases hr
                  · cases x <;> cases y <;> try (exfalso; simp [eqL] at hr; done)
                    rename_i a b'
                    simp only [eqL] at hr
                    cases hr
                    obtain rfl : u = .bool a := hx
                    obtain rfl : v = .bool b' := hy
                    exact run_equalIn_bool' S.w d _ _ _ hty
                  · cases x <;> cases y <;> try (exfalso; simp [eqL] at hr; done)
                    rename_i a b'
                    simp only [eqL] at hr
                    cases hr
                    obtain rfl : u = .string ⟨a.toArray⟩ := hx
                    obtain rfl : v = .string ⟨b'.toArray⟩ := hy
                    have := run_equalIn_string (P := P) S.w d f.type ⟨a.toArray⟩ ⟨b'.toArray⟩ hty
                    rwa [ByteArray.toList_mk, ByteArray.toList_mk] at this
                have ih' := ih ks' (k + 1) xs ys hf' (by rw [hus]; exact hxs) (by rw [hvs]; exact hys)
                simp only [Op.eqFields, hn, ne_eq, not_false_eq_true, if_true, Sem.run_bind, hpu, hpv, Result.andThen_ok]
                split at hb
                · rename_i hr
                  rw [key true hr]
                  simpa using ih' b hb
                · rename_i hr
                  cases hb
                  rw [key false hr]
                  simp
                · cases hb
      · cases hf
    · cases hf

theorem eqFs_guard : ∀ (fs : List Field) (k : Nat) (ks : List Nat), eqFs P k fs = some ks → ∀ d, (fs.any fun f => f.name != "_" && P.eqGuardType (d + 1) f.type) = false
  | [], _, _, _, _ => rfl
  | f :: fs, k, ks, h, d => by
    simp only [eqFs] at h
    split at h
    · rename_i kd ks' hs hf'
      rw [List.any_cons, eqGuardType_scalar hs d, eqFs_guard fs _ _ hf' d]
      simp
    · cases h

/-- two structs whose fields Go compares by their values -/
theorem says_eqs {o : Oper} {neg : Bool} {op : BinOp} {t yt : TypeId} {x y : Operand} {ks : List Nat} (ho : o.op = .binOp op t x y yt) (h1 : eqT P t = some ks) (hop : op = if neg then .neq else .eql)
    {v : AV} (hx : RV S (vf (opd x)) (ρ x)) (hy : RV S (vf (opd y)) (ρ y)) (hp : pureOp vf (.eqs neg ks (opd x) (opd y)) = some v) : Says P S ρ o v := by
  simp only [pureOp] at hp
  split at hp
  · rename_i xs ys hxa hyb
    split at hp
    · rename_i b hb
      cases hp
      obtain ⟨us, hu, hus, _⟩ := rv_agg hxa hx
      obtain ⟨vs, hv, hvs, _⟩ := rv_agg hyb hy
      unfold eqT at h1
      split at h1
      · rename_i fields ht
        split at h1
        · cases h1
        · rename_i hst
          have hst' : P.stoodInHeld t = false := by simpa using hst
          have hfo : P.fieldsOf t = fields := by unfold Program.fieldsOf; rw [ht]
          have hg : P.eqGuardType P.depth t = false := by
            show P.eqGuardType (2 * (P.types.size + Made.depth) + 1 + 1) t = false
            unfold Program.eqGuardType
            rw [ht]
            have := eqFs_guard (P := P) fields.toList 0 ks h1 (2 * (P.types.size + Made.depth))
            show (fields.any fun f => f.name != "_" && P.eqGuardType (2 * (P.types.size + Made.depth) + 1) f.type) = false
            rw [← Array.any_toList]
            exact this
          have he : (Op.equalIn 10000 t (.agg us) (.agg vs)).run P S.w = .ok b S.w := by
            have h2 := run_equalIn_struct (P := P) S.w 9999 t us vs (by rw [hfo]; exact ht) hst'
            rw [hfo] at h2
            exact h2.trans (eqLs_ok 9998 fields.toList ks 0 xs ys h1 (by simpa using hus) (by simpa using hvs) b hb)
          refine ⟨.bool (if neg then !b else b), ?_, rfl⟩
          have hgr := fun op w => run_eqGuard_agg (P := P) w op t x y us vs hg
          cases neg <;> simp at hop <;> subst hop
          · simp [execOp, ho, hu, hv, hgr, run_eql_struct, he]
          · simp [execOp, ho, hu, hv, hgr, run_neq_struct, he]
      · cases h1
    · cases hp
  · cases hp

theorem bounds_ok {n m : Nat} (hnm : n ≤ m) {isSlice : Bool} {lo hi : Option Operand} (hlo : ∀ x, lo = some x → RV S (vf (opd x)) (ρ x)) (hhi : ∀ x, hi = some x → RV S (vf (opd x)) (ρ x))
    {l h : Nat} (hb : bounds vf n (lo.map opd) (hi.map opd) = some (l, h)) (w : World) :
    (Instr.sliceBounds isSlice n m (lo.map ρ) (hi.map ρ) none).run P w = .ok (l, h, m) w ∧ l ≤ h ∧ h ≤ n := by
  have hint : ∀ x, RV S (vf (opd x)) (ρ x) → ∀ k i, vf (opd x) = .int k i → ∀ (y : Nat) code, 0 ≤ i ∧ i ≤ (y : Int) → (Instr.sliceBound (ρ x) y code).run P w = .ok i.toNat w := by
    intro x hx k i hi y code hb
    simp [Instr.sliceBound, rv_int hi hx, asIntOf, hb]
  cases hi with
  | none =>
    cases lo with
    | none =>
      simp only [bounds, Option.map_none, Option.some.injEq, Prod.mk.injEq] at hb
      obtain ⟨rfl, rfl⟩ := hb
      exact ⟨by simp [Instr.sliceBounds], by omega, by omega⟩
    | some x =>
      simp only [bounds, Option.map_none, Option.map_some] at hb
      split at hb
      · rename_i k i hi'
        split at hb
        · rename_i hb'
          simp only [Option.some.injEq, Prod.mk.injEq] at hb
          obtain ⟨rfl, rfl⟩ := hb
          exact ⟨by simp [Instr.sliceBounds, hint x (hlo x rfl) k i hi' _ _ hb'], by omega, by omega⟩
        · cases hb
      · cases hb
  | some z =>
    simp only [bounds, Option.map_some] at hb
    split at hb
    · cases hb
    · rename_i h1 hh1
      split at hh1
      · rename_i k j hj
        split at hh1
        · rename_i hb1
          cases hh1
          have hz := hint z (hhi z rfl) k j hj m (if isSlice then .sliceAcap else .sliceAlen) (by omega)
          cases lo with
          | none =>
            simp only [Option.map_none, Option.some.injEq, Prod.mk.injEq] at hb
            obtain ⟨rfl, rfl⟩ := hb
            exact ⟨by simp [Instr.sliceBounds, hz], by omega, by omega⟩
          | some x =>
            simp only [Option.map_some] at hb
            split at hb
            · rename_i k i hi'
              split at hb
              · rename_i hb'
                simp only [Option.some.injEq, Prod.mk.injEq] at hb
                obtain ⟨rfl, rfl⟩ := hb
                exact ⟨by simp [Instr.sliceBounds, hz, hint x (hlo x rfl) k i hi' _ _ hb'], by omega, by omega⟩
              · cases hb
            · cases hb
        · cases hh1
      · cases hh1

theorem says_sls {o : Oper} {t : TypeId} {x : Operand} {lo hi : Option Operand} (ho : o.op = .slice t x lo hi none) (h1 : P.underlying t = some .string) {v : AV} (hx : RV S (vf (opd x)) (ρ x))
    (hlo : ∀ x, lo = some x → RV S (vf (opd x)) (ρ x)) (hhi : ∀ x, hi = some x → RV S (vf (opd x)) (ρ x)) (hp : pureOp vf (.sls (opd x) (lo.map opd) (hi.map opd)) = some v) : Says P S ρ o v := by
  simp only [pureOp] at hp
  split at hp
  · rename_i b ht
    split at hp
    · rename_i l h hb
      cases hp
      have hu := rv_str ht hx
      obtain ⟨hr, hl, hh⟩ := bounds_ok (P := P) (isSlice := false) (Nat.le_refl b.length) hlo hhi hb S.w
      refine ⟨.string ⟨((b.take h).drop l).toArray⟩, ?_, rfl⟩
      simp [execOp, ho, hu, Instr.sliceAt, run_underlying h1, Instr.slice, bytes_size, hr, ByteArray.extract_mk, List.drop_take]
    · cases hp
  · cases hp
theorem RP.cut {w : World} {M : MutP} {xs : List AV} {a : Option Addr} {cap l h sz m : Nat} (hr : RP w M (.sl .none xs) (.slice a xs.length cap)) (hsz : ∀ x ∈ xs, nleaves x = sz) (hl : l ≤ h) (hh : h ≤ xs.length) (hm : h ≤ m) :
    RP w M (.sl .none ((xs.take h).drop l)) (.slice (if m = l then a else a.map (·.add (l * sz))) (h - l) (m - l)) := by
  have hlen : ((xs.take h).drop l).length = h - l := by simp; omega
  rw [← hlen]
  refine RP.sl_mk (by omega) fun hne => ?_
  have hlt : l < h := by
    rcases Nat.lt_or_ge l h with h' | h'
    · exact h'
    · exact absurd (List.length_eq_zero_iff.1 (by omega)) hne
  obtain ⟨a', cap', hu, _, hp⟩ := hr.sl_parts
  simp only [Value.slice.injEq] at hu
  obtain ⟨rfl, -, rfl⟩ := hu
  obtain ⟨b, off, sz', vs, rfl, hall, hs, him⟩ := hp (by rintro rfl; simp at hh; omega)
  obtain ⟨x, hx⟩ : ∃ x, x ∈ xs := List.exists_mem_of_length_pos (by omega)
  have : sz' = sz := by rw [← hall x hx, hsz x hx]
  subst this
  refine ⟨b, off + l * sz', sz', (vs.take (h * sz')).drop (l * sz'), ?_, fun y hy => hall y (List.mem_of_mem_take (List.mem_of_mem_drop hy)), ?_, (him.take _).drop _⟩
  · rw [if_neg (by omega)]; simp [Addr.add_lit]
  · have h1 := (hs.take (h * sz')).drop (l * sz')
    have e1 : (xs.flatMap leaves).take (h * sz') = (xs.take h).flatMap leaves := by
      have hl1 : ((xs.take h).flatMap leaves).length = h * sz' := by
        rw [flat_length (sz := sz') fun z hz => hall z (List.mem_of_mem_take hz), List.length_take, Nat.min_eq_left hh]
      conv => lhs; rw [← List.take_append_drop h xs, List.flatMap_append, ← hl1, List.take_left]
    have e2 : ((xs.take h).flatMap leaves).drop (l * sz') = ((xs.take h).drop l).flatMap leaves := by
      have hl1 : (((xs.take h).take l).flatMap leaves).length = l * sz' := by
        rw [flat_length (sz := sz') fun z hz => hall z (List.mem_of_mem_take (List.mem_of_mem_take hz)), List.length_take, List.length_take, Nat.min_eq_left hh, Nat.min_eq_left (by omega)]
      conv => lhs; rw [← List.take_append_drop l (xs.take h), List.flatMap_append, ← hl1, List.drop_left]
    rw [e1, e2] at h1
    exact h1

theorem says_sll {o : Oper} {t : TypeId} {x : Operand} {e sz : Nat} {lo hi : Option Operand} (ho : o.op = .slice t x lo hi none) (h1 : P.underlying t = some (.slice e)) (h3 : szOf P e = some sz) {c : Cap} {xs : List AV} (ht : vf (opd x) = .sl c xs)
    (hsz : sizeOk sz xs = true) (hx : RV S (vf (opd x)) (ρ x))
    (hlo : ∀ x, lo = some x → RV S (vf (opd x)) (ρ x)) (hhi : ∀ x, hi = some x → RV S (vf (opd x)) (ρ x)) {l h : Nat} (hb : bounds vf xs.length (lo.map opd) (hi.map opd) = some (l, h)) :
    Says P S ρ o (.sl .none ((xs.take h).drop l)) := by
  have hu := (rv_sl ht hx).1
  obtain ⟨a, cap, hux, hcap, hp⟩ := hu.sl_parts
  obtain ⟨hr, hl, hh⟩ := bounds_ok (P := P) (isSlice := true) hcap hlo hhi hb S.w
  refine ⟨.slice (if cap = l then a else a.map (·.add (l * sz))) (h - l) (cap - l), ?_, RP.cut (by rw [← hux]; exact hu) (fun y hy => ?_) hl hh (by omega), trivial⟩
  · simp [execOp, ho, hux, Instr.sliceAt, run_underlying h1, Instr.slice, hr, run_szOf h3]
  · obtain ⟨b, off, sz', vs, _, hall, _⟩ := hp (by rintro rfl; simp at hy)
    cases xs with
    | nil => simp at hy
    | cons z zs =>
      have : nleaves z = sz := by simpa [sizeOk] using hsz
      rw [hall y hy, ← hall z (by simp), this]

theorem says_sla {o : Oper} {t : TypeId} {x : Operand} {e n sz : Nat} {lo hi : Option Operand} (ho : o.op = .slice t x lo hi none) (h1 : P.underlying t = some (.array n e)) (h3 : szOf P e = some sz) {p off : Nat} (ht : vf (opd x) = .ptr p off)
    (hx : RV S (vf (opd x)) (ρ x)) (hlo : ∀ x, lo = some x → RV S (vf (opd x)) (ρ x)) (hhi : ∀ x, hi = some x → RV S (vf (opd x)) (ρ x)) {l h : Nat} (hb : bounds vf n (lo.map opd) (hi.map opd) = some (l, h)) :
    Says P S ρ o (if l < h then .arr p (off + l * sz) (h - l) else .sl .none []) := by
  obtain ⟨hc, b, hm, hu⟩ := rv_ptr ht hx
  obtain ⟨hr, hl, hh⟩ := bounds_ok (P := P) (isSlice := false) (Nat.le_refl n) hlo hhi hb S.w
  refine ⟨.slice (some (if n = l then ⟨b, off, none⟩ else ⟨b, off + l * sz, none⟩)) (h - l) (n - l), ?_, ?_⟩
  · simp [execOp, ho, hu, Instr.sliceAt, run_underlying h1, Instr.sureAddr, hr, run_szOf h3, Addr.add_lit]
  · split
    · rw [if_neg (by omega)]
      exact ⟨hc, b, n - l, hm, rfl, by omega⟩
    · rw [show h - l = 0 by omega]
      exact ⟨.sl0 _ _, trivial⟩

theorem says_arrcut {o : Oper} {t : TypeId} {x : Operand} {e sz : Nat} {lo hi : Option Operand} (ho : o.op = .slice t x lo hi none) (h1 : P.underlying t = some (.slice e)) (h3 : szOf P e = some sz) {p off len : Nat} (ht : vf (opd x) = .arr p off len)
    (hx : RV S (vf (opd x)) (ρ x)) (hlo : ∀ x, lo = some x → RV S (vf (opd x)) (ρ x)) (hhi : ∀ x, hi = some x → RV S (vf (opd x)) (ρ x)) {l h : Nat} (hb : bounds vf len (lo.map opd) (hi.map opd) = some (l, h)) :
    Says P S ρ o (if l < h then .arr p (off + l * sz) (h - l) else .sl .none []) := by
  obtain ⟨hc, b, cap, hm, hu, hcap⟩ := rv_arr ht hx
  obtain ⟨hr, hl, hh⟩ := bounds_ok (P := P) (isSlice := true) hcap hlo hhi hb S.w
  refine ⟨.slice (some (if cap = l then ⟨b, off, none⟩ else ⟨b, off + l * sz, none⟩)) (h - l) (cap - l), ?_, ?_⟩
  · simp only [execOp, ho, hu, Instr.sliceAt, Sem.run_bind, run_underlying h1, Instr.slice, Result.andThen_ok, Option.map_none, hr, run_szOf h3, Sem.run_pure, Option.map_some, Addr.add_lit]
    split <;> rfl
  · split
    · rw [if_neg (by omega)]
      exact ⟨hc, b, cap - l, hm, rfl, by omega⟩
    · rw [show h - l = 0 by omega]
      exact ⟨.sl0 _ _, trivial⟩

theorem says_lens {o : Oper} {c : Call} {t : TypeId} {x : Operand} (ho : o.op = .call c) (hc : c.callee = .builtin .len) (ha : c.args.toList = [x]) (ht : c.argTypes[0]? = some t)
    (h1 : P.underlying t = some .string) {v : AV} (hx : RV S (vf (opd x)) (ρ x)) (hp : pureOp vf (.lens (opd x)) = some v) : Says P S ρ o v := by
  have ha' : c.args = #[x] := by apply Array.ext'; simpa using ha
  simp only [pureOp] at hp
  split at hp
  · rename_i b hb
    cases hp
    have hu := rv_str hb hx
    refine ⟨.int .i64 b.length, ?_, rfl⟩
    simp [execOp, ho, resolve, hc, ha', hu, invoke, builtin, Builtin.len_, ht, run_underlying h1, goInt, bytes_size]
  · cases hp

theorem says_len {o : Oper} {c : Call} {t e : TypeId} {x : Operand} (ho : o.op = .call c) (hc : c.callee = .builtin .len) (ha : c.args.toList = [x]) (ht : c.argTypes[0]? = some t)
    (h1 : P.underlying t = some (.slice e)) {v : AV} (hx : RV S (vf (opd x)) (ρ x)) (hp : pureOp vf (.len (opd x)) = some v) : Says P S ρ o v := by
  have ha' : c.args = #[x] := by apply Array.ext'; simpa using ha
  simp only [pureOp] at hp
  split at hp
  · rename_i k xs hb
    cases hp
    obtain ⟨a, cap, hu, _⟩ := (rv_sl hb hx).1.sl_parts
    refine ⟨.int .i64 xs.length, ?_, rfl⟩
    simp [execOp, ho, resolve, hc, ha', hu, invoke, builtin, Builtin.len_, ht, run_underlying h1, goInt]
  · rename_i p off n hb
    cases hp
    obtain ⟨_, b, cap, _, hu, _⟩ := rv_arr hb hx
    refine ⟨.int .i64 n, ?_, rfl⟩
    simp [execOp, ho, resolve, hc, ha', hu, invoke, builtin, Builtin.len_, ht, run_underlying h1, goInt]
  · cases hp

theorem says_lenc {o : Oper} {c : Call} {t e : TypeId} {n : Nat} {x : Operand} (ho : o.op = .call c) (hc : c.callee = .builtin .len) (ha : c.args.toList = [x]) (ht : c.argTypes[0]? = some t)
    (h1 : P.underlying t = some (.array n e)) : Says P S ρ o (.int .i64 n) := by
  have ha' : c.args = #[x] := by apply Array.ext'; simpa using ha
  refine ⟨.int .i64 n, ?_, rfl⟩
  simp [execOp, ho, resolve, hc, ha', invoke, builtin, Builtin.len_, ht, run_underlying h1, goInt]

theorem RK.of_RL {x : AV} {v : Value} (h : RL S x v) (hc : isCap x = true) : RK S x v := by
  cases x <;> first | exact h | cases hc

theorem caps_ok {captured : List Operand} (hv : ∀ x ∈ captured, RV S (vf (opd x)) (ρ x)) (hc : ((captured.map opd).map vf).all isCap = true) : All2 (RK S) ((captured.map opd).map vf) (captured.map ρ) := by
  induction captured with
  | nil => exact .nil
  | cons x xs ih =>
    simp only [List.map_cons, List.all_cons, Bool.and_eq_true] at hc ⊢
    refine .cons ?_ (ih (fun y hy => hv y (by simp [hy])) hc.2)
    have h := hv x (by simp)
    generalize vf (opd x) = v at h hc
    cases v <;> first | exact h | exact absurd hc.1 (by simp [isCap])

theorem says_mkf {o : Oper} {f : Nat} {first captured : Array Operand} (ho : o.op = .makeFunc (.func f) first captured) (hf : first.isEmpty = true) {v : AV} (hv : ∀ x ∈ captured.toList, RV S (vf (opd x)) (ρ x))
    (hp : pureOp vf (.mkf f (captured.toList.map opd)) = some v) : Says P S ρ o v := by
  simp only [pureOp] at hp
  split at hp
  · rename_i hc
    cases hp
    have hf' : first = #[] := by simpa using hf
    refine ⟨.func (.func f) #[] (captured.map ρ), ?_, (captured.map ρ), rfl, ?_, hc⟩
    · simp [execOp, ho, Instr.makeFunc, hf']
    · rw [Array.toList_map]
      exact caps_ok hv hc
  · cases hp

theorem says_mm {o : Oper} {c : Call} {mx : Bool} {x y : Operand} (ho : o.op = .call c) (hc : c.callee = .builtin (if mx then .max else .min)) (ha : c.args.toList = [x, y])
    {v : AV} (hx : RV S (vf (opd x)) (ρ x)) (hy : RV S (vf (opd y)) (ρ y)) (hp : pureOp vf (.mm mx (opd x) (opd y)) = some v) : Says P S ρ o v := by
  have ha' : c.args = #[x, y] := by
    apply Array.ext'; simpa using ha
  simp only [pureOp] at hp
  split at hp
  · rename_i k a k' b hxa hyb
    split at hp
    · rename_i hk
      cases hp
      subst hk
      have hu := rv_int hxa hx
      have hv := rv_int hyb hy
      refine ⟨.int k _, ?_, rfl⟩
      cases mx
      · simp at hc
        simp [execOp, ho, resolve, hc, ha', hu, hv, invoke, builtin, Builtin.min_, Builtin.min2]
      · simp at hc
        simp [execOp, ho, resolve, hc, ha', hu, hv, invoke, builtin, Builtin.max_, Builtin.max2]
    · cases hp
  · cases hp
theorem foldl_set (off : Nat) : ∀ (l : List Value) (k : Nat) (cs : Array Value), off + k + l.length ≤ cs.size →
    ((l.zipIdx k).foldl (fun (cs : Array Value) (x : Value × Nat) => cs.setIfInBounds (off + x.2) x.1) cs).toList = cs.toList.take (off + k) ++ l ++ cs.toList.drop (off + k + l.length)
  | [], k, cs, _ => by simp
  | v :: l, k, cs, h => by
    simp only [List.length_cons] at h
    rw [List.zipIdx_cons, List.foldl_cons, foldl_set off l (k + 1) _ (by simp; omega)]
    simp only [Array.toList_setIfInBounds]
    have := list_seg_step cs.toList (off + k) v l (by simp; omega)
    rw [show off + (k + 1) = off + k + 1 by omega, this]
    simp [Nat.add_assoc]

theorem fill_ok {place : Nat → Option (Nat × Nat)} : ∀ (parts : List (Nat × Operand)) (ps : List (Nat × Nat × Opd)) (xs ys : List AV) (cells : Array Value), partsOf place parts = some ps → fillParts vf ps xs = some ys →
    (∀ p ∈ parts, RV S (vf (opd p.2)) (ρ p.2)) → All2 (RL S) xs cells.toList → xs.all isLf = true →
    ∃ cells', Instr.fill place cells (parts.map fun p => (p.1, ρ p.2)) = some cells' ∧ All2 (RL S) ys cells'.toList ∧ ys.all isLf = true ∧ ys.length = xs.length
  | [], ps, xs, ys, cells, hp, hf, _, hxs, hl => by
    cases hp; cases hf
    exact ⟨cells, rfl, hxs, hl, rfl⟩
  | (i, x) :: r, ps, xs, ys, cells, hp, hf, hv, hxs, hl => by
    simp only [partsOf] at hp
    split at hp
    · rename_i off n ps' hpl hps
      cases hp
      simp only [fillParts] at hf
      split at hf
      · rename_i zs hz
        split at hf
        · rename_i hb
          obtain ⟨hrl, hlf⟩ := cellsOf_ok hz (hv (i, x) (by simp))
          have hlen := hxs.length
          have hzl := hrl.length
          simp only [Array.length_toList] at hlen hzl
          have hsz : (ρ x).cells.size = n := by rw [← hzl]; exact hb.1
          have hfo := foldl_set off (ρ x).cells.toList 0 cells (by simp; omega)
          have hfo' : ((ρ x).cells.zipIdx.foldl (fun (cs : Array Value) (x : Value × Nat) => cs.setIfInBounds (off + x.2) x.1) cells).toList =
              cells.toList.take off ++ (ρ x).cells.toList ++ cells.toList.drop (off + (ρ x).cells.toList.length) := by
            rw [← Array.foldl_toList, Array.toList_zipIdx]
            simpa using hfo
          have hsp := hxs.splice off hrl
          rw [← hfo'] at hsp
          obtain ⟨cells', hc, h1, h2, h3⟩ := fill_ok r ps' (splice xs off zs) ys _ hps hf (fun p hp => hv p (by simp [hp])) hsp (by
            unfold splice
            simp only [List.all_append, Bool.and_eq_true]
            exact ⟨⟨all_take hl _, hlf⟩, all_drop hl _⟩)
          refine ⟨cells', ?_, h1, h2, ?_⟩
          · simp only [List.map_cons, Instr.fill, hpl]
            have hb2 := hb.2
            have hng : (decide ((ρ x).cells.size ≠ n) || decide (off + (ρ x).cells.size > cells.size)) = false := by
              rw [hsz]; simp; omega
            rw [hng]
            exact hc
          · rw [h3]; unfold splice; simp; omega
        · cases hf
      · cases hf
    · cases hp

theorem cv_ok {S : St} {v : Value} {x : AV} (h : cv v = some x) : RV S x v ∧ isLf x = true := by
  unfold cv at h
  split at h <;> cases h
  · exact ⟨rfl, rfl⟩
  · exact ⟨rfl, rfl⟩
  · rename_i s; exact ⟨by show Value.string s = _; congr 1, rfl⟩
  · exact ⟨⟨.sl0 _ _, _, rfl⟩, rfl⟩
  · exact ⟨rfl, rfl⟩
theorem RL.of_RV {S : St} {x : AV} {v : Value} (h : RV S x v) (hl : isLf x = true) : RL S x v := by
  cases x <;> first | exact h | cases hl
theorem cvs_ok {S : St} : ∀ {vs : List Value} {xs : List AV}, cvs vs = some xs → All2 (RL S) xs vs ∧ xs.all isLf = true
  | [], xs, h => by cases h; exact ⟨.nil, rfl⟩
  | v :: vs, xs, h => by
    simp only [cvs] at h
    split at h
    · rename_i x ys hx hy
      cases h
      obtain ⟨h1, h2⟩ := cv_ok (S := S) hx
      obtain ⟨h3, h4⟩ := cvs_ok (S := S) hy
      exact ⟨.cons (.of_RV h1 h2) h3, by simp [h2, h4]⟩
    · cases h
theorem zl_ok {t : TypeId} {xs : List AV} (h : zl P t = some xs) : ∃ z, (∀ w, (zeroValue t).run P w = .ok z w) ∧ ∀ S, All2 (RL S) xs z.cells.toList ∧ xs.all isLf = true := by
  unfold zl at h
  split at h
  · rename_i i hi
    split at h
    · rename_i z hz
      exact ⟨z, fun w => by simp [zeroValue, typeInfo, hi, hz], fun S => cvs_ok h⟩
    · cases h
  · cases h

theorem says_bld {o : Oper} {t : TypeId} {parts : Array (Nat × Operand)} {z : List AV} {ps : List (Nat × Nat × Opd)} (ho : o.op = .build t parts) (hz : zl P t = some z) {v : AV} (hv : ∀ p ∈ parts.toList, RV S (vf (opd p.2)) (ρ p.2))
    (h1 : (∃ fields pl, P.underlying t = some (.struct fields) ∧ placesOf P fields = some pl ∧ partsOf (pl[·]?) parts.toList = some ps) ∨
      (∃ len e n, P.underlying t = some (.array len e) ∧ szOf P e = some n ∧ partsOf (fun i => some (i * n, n)) parts.toList = some ps))
    (hp : pureOp vf (.bld z ps) = some v) : Says P S ρ o v := by
  obtain ⟨zv, hzr, hzo⟩ := zl_ok hz
  simp only [pureOp] at hp
  split at hp
  · rename_i xs hxs
    cases hp
    rcases h1 with ⟨fields, pl, hu, hpl, hps⟩ | ⟨len, e, n, hu, hn, hps⟩
    · obtain ⟨cells', hc, ha, hl, _⟩ := fill_ok parts.toList ps z xs zv.cells hps hxs hv (hzo S).1 (hzo S).2
      refine ⟨.agg cells', ?_, cells', rfl, ha, hl⟩
      have hpr := run_places (P := P) S.w fields.toList pl hpl
      simp [execOp, ho, Instr.build, hzr, run_underlying hu, Array.mapM_eq_mapM_toList, hpr, hc]
    · obtain ⟨cells', hc, ha, hl, _⟩ := fill_ok parts.toList ps z xs zv.cells hps hxs hv (hzo S).1 (hzo S).2
      refine ⟨.agg cells', ?_, cells', rfl, ha, hl⟩
      simp [execOp, ho, Instr.build, hzr, run_underlying hu, run_szOf hn, hc]
  · cases hp
end
end Ab
