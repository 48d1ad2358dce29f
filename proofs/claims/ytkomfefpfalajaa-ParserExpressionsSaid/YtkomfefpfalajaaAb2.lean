/- The framework, part 2: Pure, HeapOps, HeapOps2, Append, AppOp, OpOk. -/
import Derived.Test.YtkomfefpfalajaaAb1
import Derived.Laws.Entries
import Derived.Laws.Sem
import Derived.Laws.Slices
import Derived.Laws.Build
import Derived.Laws.Strings
import Derived.Laws.Strings2
import Derived.Laws.Concat
import Derived.Laws.StructEq
import Derived.Laws.Tables
import Derived.Laws.BytesString
import Derived.Laws.BytesArg
/- The operations that touch no object: what the model's operation answers. -/
namespace Ab
open Go

section
variable {P : Program} {S : St} {vf : Opd → AV} {ρ : Operand → Value}

theorem rv_int {v : AV} {u : Value} {k : IntKind} {n : Int} (h : v = .int k n) (r : RV S v u) : u = .int k n := by subst h; exact r
theorem rv_bool {v : AV} {u : Value} {b : Bool} (h : v = .bool b) (r : RV S v u) : u = .bool b := by subst h; exact r
theorem rv_str {v : AV} {u : Value} {s : List UInt8} (h : v = .str s) (r : RV S v u) : u = .string ⟨s.toArray⟩ := by subst h; exact r
theorem rv_sl {v : AV} {u : Value} {c : Cap} {xs : List AV} (h : v = .sl c xs) (r : RV S v u) : RP S.w S.M (.sl .none xs) u ∧ CapOk S c xs.length u := by subst h; exact r
theorem rv_ptr {v : AV} {u : Value} {o off : Nat} (h : v = .ptr o off) (r : RV S v u) : IsCells S o ∧ ∃ b, S.m o = .blk b ∧ u = .pointer (some ⟨b, off, none⟩) := by subst h; exact r
theorem rv_eptr {v : AV} {u : Value} {xs : List AV} (h : v = .eptr xs) (r : RV S v u) : ∃ b off vs, u = .pointer (some ⟨b, off, none⟩) ∧ RPs S.w S.M xs vs ∧ Imm S.w S.M b off vs := by subst h; exact r
theorem rv_arr {v : AV} {u : Value} {o off len : Nat} (h : v = .arr o off len) (r : RV S v u) : IsCells S o ∧ ∃ b cap, S.m o = .blk b ∧ u = .slice (some ⟨b, off, none⟩) len cap ∧ len ≤ cap := by subst h; exact r
theorem rv_agg {v : AV} {u : Value} {xs : List AV} (h : v = .agg xs) (r : RV S v u) : ∃ us : Array Value, u = .agg us ∧ All2 (RL S) xs us.toList ∧ xs.all isLf = true := by subst h; exact r
theorem rv_tup {v : AV} {u : Value} {xs : List AV} (h : v = .tup xs) (r : RV S v u) : ∃ us : Array Value, u = .tuple us ∧ All2 (RC S) xs us.toList := by subst h; exact r
theorem rv_fn {v : AV} {u : Value} {f : Nat} {xs : List AV} (h : v = .fn f xs) (r : RV S v u) : ∃ vs : Array Value, u = .func (.func f) #[] vs ∧ All2 (RK S) xs vs.toList ∧ xs.all isCap = true := by subst h; exact r

/-- a leaf inside a slice is a leaf -/
theorem RK.of_RP {x : AV} {v : Value} (h : RP S.w S.M x v) : RK S x v := by
  cases h with
  | int k n => rfl
  | bool b => rfl
  | str s => rfl
  | sl0 a cap => exact ⟨.sl0 a cap, trivial⟩
  | sl b off cap sz xs vs ne hsz hs himm hcap => exact ⟨.sl b off cap sz xs vs ne hsz hs himm hcap, trivial⟩
theorem RL.of_RK {x : AV} {v : Value} (h : RK S x v) : RL S x v := by
  cases x <;> first | exact h | exact h.elim
theorem RL.of_RP {x : AV} {v : Value} (h : RP S.w S.M x v) : RL S x v := .of_RK (.of_RP h)
theorem isLf_of_RP {x : AV} {v : Value} (h : RP S.w S.M x v) : isLf x = true := by cases h <;> rfl
theorem RLs.of_RPs : ∀ {xs : List AV} {vs : List Value}, RPs S.w S.M xs vs → All2 (RL S) xs vs ∧ xs.all isLf = true
  | _, _, .nil => ⟨.nil, rfl⟩
  | _, _, .cons _ _ _ _ h hs => ⟨.cons (.of_RP h) (RLs.of_RPs hs).1, by simp [isLf_of_RP h, (RLs.of_RPs hs).2]⟩
theorem RC.of_RL {x : AV} {v : Value} (h : RL S x v) (hl : isLf x = true) : RC S x v := by
  cases x <;> first | exact h | cases hl
theorem RV.of_RC {x : AV} {v : Value} (h : RC S x v) : RV S x v := by
  cases x <;> first | exact h | exact (show False from h).elim
theorem RV.of_RL {x : AV} {v : Value} (h : RL S x v) (hl : isLf x = true) : RV S x v :=
  .of_RC (.of_RL h hl)

/-- the cells of a value -/
theorem cellsOf_ok {v : AV} {u : Value} {xs : List AV} (h : cellsOf v = some xs) (r : RV S v u) : All2 (RL S) xs u.cells.toList ∧ xs.all isLf = true := by
  cases v with
  | agg ys =>
    simp only [cellsOf] at h
    split at h
    · cases h
      obtain ⟨us, rfl, h1, h2⟩ := rv_agg rfl r
      exact ⟨h1, h2⟩
    · cases h
  | tup ys => cases h
  | no => cases h
  | int k n => cases h; obtain rfl := rv_int rfl r; exact ⟨.cons rfl .nil, rfl⟩
  | bool b => cases h; obtain rfl := rv_bool rfl r; exact ⟨.cons rfl .nil, rfl⟩
  | str s => cases h; obtain rfl := rv_str rfl r; exact ⟨.cons rfl .nil, rfl⟩
  | nilp => cases h; obtain rfl : u = .pointer none := r; exact ⟨.cons rfl .nil, rfl⟩
  | map o => exact (show False from r).elim
  | sl c ys =>
    cases h
    have r' := rv_sl rfl r
    obtain ⟨a, cap, rfl, _⟩ := r'.1.sl_parts
    exact ⟨.cons r' .nil, rfl⟩
  | ptr o off => cases h; have r' := rv_ptr rfl r; obtain ⟨_, b, _, rfl⟩ := r'; exact ⟨.cons r .nil, rfl⟩
  | eptr ys => cases h; obtain ⟨b, off, vs, rfl, _⟩ := rv_eptr rfl r; exact ⟨.cons r .nil, rfl⟩
  | arr o off len => cases h; obtain ⟨_, b, cap, _, rfl, _⟩ := rv_arr rfl r; exact ⟨.cons r .nil, rfl⟩
  | fn f ys => cases h; obtain ⟨vs, rfl, _⟩ := rv_fn rfl r; exact ⟨.cons r .nil, rfl⟩

/-- cells, as one value -/
theorem mkAgg_ok {agg : Bool} {xs : List AV} {vs : List Value} {v : AV} (h : mkAgg agg xs = some v) (hs : All2 (RL S) xs vs) (hl : xs.all isLf = true) :
    (agg = true ∧ RV S v (.agg vs.toArray)) ∨ (agg = false ∧ ∃ u, vs = [u] ∧ RV S v u) := by
  cases agg with
  | true =>
    simp only [mkAgg, if_true] at h
    cases h
    exact .inl ⟨rfl, vs.toArray, rfl, by simpa using hs, hl⟩
  | false =>
    simp only [mkAgg, Bool.false_eq_true, if_false] at h
    split at h
    · cases h
      cases hs with
      | cons hx hs =>
        cases hs
        refine .inr ⟨rfl, _, rfl, .of_RL hx (by simpa using hl)⟩
    · cases h

theorem all_drop {p : AV → Bool} {xs : List AV} (h : xs.all p = true) (n : Nat) : (xs.drop n).all p = true :=
  List.all_eq_true.2 fun x hx => List.all_eq_true.1 h x (List.mem_of_mem_drop hx)
theorem all_take {p : AV → Bool} {xs : List AV} (h : xs.all p = true) (n : Nat) : (xs.take n).all p = true :=
  List.all_eq_true.2 fun x hx => List.all_eq_true.1 h x (List.mem_of_mem_take hx)

theorem run_szOf {t : TypeId} {n : Nat} (h : szOf P t = some n) (w : World) : (Go.sizeOf t).run P w = .ok n w := by
  unfold szOf at h
  cases hi : P.info? t with
  | none => simp [hi] at h
  | some i => simp [hi] at h; simp [Go.sizeOf, typeInfo, hi, h]
theorem run_aggT {t : TypeId} {b : Bool} (h : aggT P t = some b) (w : World) : (isAgg t).run P w = .ok b w := by
  unfold aggT at h
  unfold isAgg
  cases hu : P.underlying t with
  | none => simp [hu] at h
  | some d =>
    rw [Sem.run_bind, run_underlying hu]
    rw [hu] at h
    cases d <;> simp_all

/-- what an operation answers that leaves the world alone -/
def Says (P : Program) (S : St) (ρ : Operand → Value) (o : Oper) (v : AV) : Prop := ∃ u, (execOp ρ o).run P S.w = .ok (.value u) S.w ∧ RV S v u

theorem says_mv {o : Oper} {x : Operand} (ho : o.op = .move x ∨ o.op = .assign x) (hv : RV S (vf (opd x)) (ρ x)) : Says P S ρ o (vf (opd x)) := by
  refine ⟨ρ x, ?_, hv⟩
  rcases ho with ho | ho <;> simp [execOp, ho]

theorem says_pick {o : Oper} {c a b : Operand} (ho : o.op = .pick c a b) {v : AV} (hc : RV S (vf (opd c)) (ρ c)) (ha : RV S (vf (opd a)) (ρ a)) (hb : RV S (vf (opd b)) (ρ b))
    (hp : pureOp vf (.pick (opd c) (opd a) (opd b)) = some v) : Says P S ρ o v := by
  simp only [pureOp] at hp
  split at hp
  · rename_i t ht
    cases hp
    refine ⟨if t then ρ a else ρ b, ?_, ?_⟩
    · simp [execOp, ho, rv_bool ht hc, asBool]
    · cases t <;> simpa
  · cases hp

theorem says_nilc {o : Oper} {x : Operand} (ho : o.op = .nilCheck x) {v : AV} (hx : RV S (vf (opd x)) (ρ x)) (hp : pureOp vf (.nilc (opd x)) = some v) : Says P S ρ o v := by
  simp only [pureOp] at hp
  split at hp
  · rename_i p k ht
    cases hp
    rw [ht] at hx
    have h := rv_ptr rfl hx
    obtain ⟨_, b, _, hu⟩ := h
    exact ⟨ρ x, by simp [execOp, ho, hu], hx⟩
  · rename_i xs ht
    cases hp
    rw [ht] at hx
    obtain ⟨b, off, vs, hu, _⟩ := rv_eptr rfl hx
    exact ⟨ρ x, by simp [execOp, ho, hu], hx⟩
  · rename_i f xs ht
    cases hp
    rw [ht] at hx
    obtain ⟨vs, hu, _⟩ := rv_fn rfl hx
    exact ⟨ρ x, by simp [execOp, ho, hu], hx⟩
  · cases hp

theorem says_un {o : Oper} {op : UnOp} {t : TypeId} {x : Operand} (ho : o.op = .unOp op t x) {v : AV} (hx : RV S (vf (opd x)) (ρ x)) (hp : un op (vf (opd x)) = some v) : Says P S ρ o v := by
  cases hvx : vf (opd x) <;> rw [hvx] at hp <;> simp only [un, reduceCtorEq] at hp
  · have hu := rv_int hvx hx
    cases op <;> simp at hp <;> subst hp
    · exact ⟨_, by simp [execOp, ho, hu, Op.unary, Op.intArith], rfl⟩
    · exact ⟨_, by simp [execOp, ho, hu, Op.unary, Op.intBits], rfl⟩
  · have hu := rv_bool hvx hx
    cases op <;> simp at hp <;> subst hp
    exact ⟨_, by simp [execOp, ho, hu, Op.unary], rfl⟩

theorem says_ext {o : Oper} {x : Operand} {i : Nat} (ho : o.op = .extract x i) {v : AV} (hx : RV S (vf (opd x)) (ρ x)) (hp : pureOp vf (.ext (opd x) i) = some v) : Says P S ρ o v := by
  simp only [pureOp] at hp
  split at hp
  · rename_i xs ht
    obtain ⟨us, hu, hs⟩ := rv_tup ht hx
    obtain ⟨u, hu', hr⟩ := hs.get i v hp
    refine ⟨u, ?_, .of_RC hr⟩
    rw [Array.getElem?_toList] at hu'
    simp [execOp, ho, hu, Instr.extract, hu']
  · cases hp

theorem says_conv {o : Oper} {s d : TypeId} {x : Operand} {k k' : IntKind} (ho : o.op = .convert s d x) (h1 : P.underlying s = some (.int k')) (h2 : P.underlying d = some (.int k)) {v : AV}
    (hx : RV S (vf (opd x)) (ρ x)) (hp : pureOp vf (.conv k (opd x)) = some v) : Says P S ρ o v := by
  simp only [pureOp] at hp
  split at hp
  · rename_i k0 n ht
    cases hp
    have hu := rv_int ht hx
    exact ⟨_, by simp [execOp, ho, hu, convert, run_underlying h1, run_underlying h2, Conv.intToInt], rfl⟩
  · cases hp

theorem says_fa {o : Oper} {t : TypeId} {x : Operand} {i n : Nat} {fields : Array Field} {f : Field} (ho : o.op = .fieldAddr t x i) (h1 : P.underlying t = some (.struct fields)) (h2 : fields[i]? = some f)
    (h3 : szOf P f.type = some n) (h4 : n ≠ 0) {v : AV} (hx : RV S (vf (opd x)) (ρ x)) (hp : pureOp vf (.fa f.offset (opd x)) = some v) : Says P S ρ o v := by
  have h3' := fun w => run_szOf (P := P) h3 w
  simp only [pureOp] at hp
  split at hp
  · rename_i p k ht
    cases hp
    obtain ⟨hc, b, hm, hu⟩ := rv_ptr ht hx
    refine ⟨.pointer (some ⟨b, k + f.offset, none⟩), ?_, hc, b, hm, rfl⟩
    simp [execOp, ho, hu, Instr.fieldAt, run_underlying h1, h2, Instr.sureAddr, fieldPlace, h3', h4, Addr.add_lit]
  · rename_i xs ht
    cases hp
    obtain ⟨b, off, vs, hu, hs, him⟩ := rv_eptr ht hx
    refine ⟨.pointer (some ⟨b, off + f.offset, none⟩), ?_, b, off + f.offset, vs.drop f.offset, rfl, hs.drop _, him.drop _⟩
    simp [execOp, ho, hu, Instr.fieldAt, run_underlying h1, h2, Instr.sureAddr, fieldPlace, h3', h4, Addr.add_lit]
  · cases hp

/-- a part of a struct or an array -/
theorem run_part {t : TypeId} {agg : Bool} {n off : Nat} {cs : Array Value} {xs : List AV} (ha : aggT P t = some agg) (hn : agg = true → szOf P t = some n) (h1 : agg = false → n = 1) (hs : All2 (RL S) xs cs.toList)
    (hl : xs.all isLf = true) {v : AV} (hlen : ((xs.drop off).take n).length = n) (hv : mkAgg agg ((xs.drop off).take n) = some v) (w : World) :
    ∃ u, (part t cs off).run P w = .ok u w ∧ RV S v u := by
  have hs' := (hs.drop off).take n
  have hl' := hs'.length
  unfold part
  rw [Sem.run_bind, run_aggT ha]
  rcases mkAgg_ok hv hs' (all_take (all_drop hl _) _) with ⟨rfl, hr⟩ | ⟨rfl, u, hu, hr⟩
  · refine ⟨_, ?_, hr⟩
    simp only [Result.andThen_ok, if_true, Sem.run_bind, run_szOf (hn rfl)]
    simp only [Sem.run_pure, Result.ok.injEq, Value.agg.injEq, and_true]
    apply Array.ext'
    rw [Array.toList_extract, List.extract_eq_take_drop]
    simp
  · refine ⟨u, ?_, hr⟩
    have hn1 : n = 1 := h1 rfl
    subst hn1
    have : cs[off]? = some u := by
      rw [← Array.getElem?_toList]
      have := congrArg (·[0]?) hu
      simpa [List.getElem?_take, List.getElem?_drop] using this
    simp [this]

theorem says_fld {o : Oper} {t : TypeId} {x : Operand} {i n : Nat} {agg : Bool} {fields : Array Field} {f : Field} (ho : o.op = .field t x i) (h1 : P.underlying t = some (.struct fields)) (h2 : fields[i]? = some f)
    (ha : aggT P f.type = some agg) (h3 : agg = true → szOf P f.type = some n) (h4 : agg = false → n = 1) {v : AV} (hx : RV S (vf (opd x)) (ρ x)) (hp : pureOp vf (.fld agg f.offset n (opd x)) = some v) : Says P S ρ o v := by
  simp only [pureOp] at hp
  split at hp
  · rename_i xs ht
    obtain ⟨us, hu, hs, hl⟩ := rv_agg ht hx
    split at hp
    · rename_i hlen
      obtain ⟨u, hrun, hr⟩ := run_part (P := P) ha h3 h4 hs hl hlen hp S.w
      exact ⟨u, by simp [execOp, ho, hu, Instr.field, run_underlying h1, h2, asAgg, hrun], hr⟩
    · cases hp
  · cases hp

theorem says_ixa {o : Oper} {t : TypeId} {x i : Operand} {len e n : Nat} {agg : Bool} (ho : o.op = .index t x i) (h1 : P.underlying t = some (.array len e))
    (ha : aggT P e = some agg) (h3 : szOf P e = some n) (h4 : agg = true ∨ n = 1) {v : AV} (hx : RV S (vf (opd x)) (ρ x)) (hi : RV S (vf (opd i)) (ρ i)) (hp : pureOp vf (.ixa agg len n (opd x) (opd i)) = some v) : Says P S ρ o v := by
  simp only [pureOp] at hp
  split at hp
  · rename_i xs k j ht hj
    obtain ⟨us, hu, hs, hl⟩ := rv_agg ht hx
    have hiu := rv_int hj hi
    split at hp
    · rename_i hb
      split at hp
      · rename_i hlen
        obtain ⟨u, hrun, hr⟩ := run_part (P := P) ha (fun _ => h3) (fun h => by rcases h4 with h' | h'; rw [h] at h'; cases h'; exact h') hs hl hlen hp S.w
        exact ⟨u, by simp [execOp, ho, hu, hiu, Instr.index, asIntOf, run_underlying h1, hb, run_szOf h3, hrun], hr⟩
      · cases hp
    · cases hp
  · cases hp

theorem says_ixs {o : Oper} {t : TypeId} {x i : Operand} (ho : o.op = .index t x i) (h1 : P.underlying t = some .string)
    {v : AV} (hx : RV S (vf (opd x)) (ρ x)) (hi : RV S (vf (opd i)) (ρ i)) (hp : pureOp vf (.ixs (opd x) (opd i)) = some v) : Says P S ρ o v := by
  simp only [pureOp] at hp
  split at hp
  · rename_i b k j ht hj
    have hu := rv_str ht hx
    have hiu := rv_int hj hi
    split at hp
    · rename_i hb
      split at hp
      · rename_i c hc
        cases hp
        refine ⟨.int .u8 c.toNat, ?_, rfl⟩
        have : (⟨b.toArray⟩ : ByteArray)[j.toNat]? = some c := by
          have hlt := lt_of_some hc
          have hs : j.toNat < (⟨b.toArray⟩ : ByteArray).size := by simpa [ByteArray.size] using hlt
          rw [getElem?_pos (⟨b.toArray⟩ : ByteArray) j.toNat hs]
          rw [List.getElem?_eq_getElem hlt] at hc
          have : (⟨b.toArray⟩ : ByteArray)[j.toNat] = b[j.toNat] := by simp [ByteArray.getElem_eq_getElem_data]
          rw [this]; exact hc
        simp [execOp, ho, hu, hiu, Instr.index, asIntOf, run_underlying h1, hb, this]
      · cases hp
    · cases hp
  · cases hp

theorem says_ia {o : Oper} {t : TypeId} {x i : Operand} {e sz : Nat} (ho : o.op = .indexAddr t x i) (h1 : P.underlying t = some (.slice e)) (h3 : szOf P e = some sz)
    {v : AV} (hx : RV S (vf (opd x)) (ρ x)) (hi : RV S (vf (opd i)) (ρ i)) (hp : pureOp vf (.ia sz (opd x) (opd i)) = some v) : Says P S ρ o v := by
  simp only [pureOp] at hp
  split at hp
  · rename_i c xs k j ht hj
    have hu := (rv_sl ht hx).1
    have hiu := rv_int hj hi
    split at hp
    · rename_i hb
      split at hp
      · rename_i y hy
        split at hp
        · rename_i hsz
          cases hp
          obtain ⟨a, cap, hux, _, hpart⟩ := hu.sl_parts
          have hlt := lt_of_some hy
          obtain ⟨b, off, sz', vs, rfl, hall, hs, him⟩ := hpart (by intro h; rw [h] at hy; simp at hy)
          have hsz' : sz' = sz := by rw [← hall y (List.mem_of_getElem? hy), hsz]
          subst hsz'
          have hjl : j < (xs.length : Int) := by omega
          refine ⟨.pointer (some ⟨b, off + j.toNat * sz', none⟩), ?_, b, off + j.toNat * sz', (vs.drop (j.toNat * sz')).take sz', rfl, ?_, (him.drop _).take _⟩
          · simp [execOp, ho, hux, hiu, Instr.indexAt, asIntOf, run_underlying h1, hb, hjl, run_szOf h3, Addr.add_lit]
          · have h1 := (hs.drop (j.toNat * sz')).take sz'
            have h2 : ((xs.flatMap leaves).drop (j.toNat * sz')).take sz' = leaves y := by
              have hsplit : xs = xs.take j.toNat ++ y :: xs.drop (j.toNat + 1) := by
                rw [List.getElem?_eq_getElem hlt] at hy
                cases hy
                rw [← List.drop_eq_getElem_cons hlt, List.take_append_drop]
              have hl1 : ((xs.take j.toNat).flatMap leaves).length = j.toNat * sz' := by
                rw [flat_length (sz := sz') fun z hz => hall z (List.mem_of_mem_take hz), List.length_take, Nat.min_eq_left (by omega)]
              rw [hsplit, List.flatMap_append, ← hl1, List.drop_left, List.flatMap_cons]
              rw [← hsz, ← leaves_length, List.take_left]
            rwa [h2] at h1
        · cases hp
      · cases hp
    · cases hp
  · rename_i p off len k j ht hj
    obtain ⟨hc, b, cap, hm, hu, _⟩ := rv_arr ht hx
    have hiu := rv_int hj hi
    split at hp
    · rename_i hb
      cases hp
      refine ⟨.pointer (some ⟨b, off + j.toNat * sz, none⟩), ?_, hc, b, hm, rfl⟩
      simp [execOp, ho, hu, hiu, Instr.indexAt, asIntOf, run_underlying h1, hb, run_szOf h3, Addr.add_lit]
    · cases hp
  · cases hp

theorem says_iaa {o : Oper} {t : TypeId} {x i : Operand} {len e sz : Nat} (ho : o.op = .indexAddr t x i) (h1 : P.underlying t = some (.array len e)) (h3 : szOf P e = some sz)
    {v : AV} (hx : RV S (vf (opd x)) (ρ x)) (hi : RV S (vf (opd i)) (ρ i)) (hp : pureOp vf (.iaa len sz (opd x) (opd i)) = some v) : Says P S ρ o v := by
  simp only [pureOp] at hp
  split at hp
  · rename_i p off k j ht hj
    obtain ⟨hc, b, hm, hu⟩ := rv_ptr ht hx
    have hiu := rv_int hj hi
    split at hp
    · rename_i hb
      cases hp
      refine ⟨.pointer (some ⟨b, off + j.toNat * sz, none⟩), ?_, hc, b, hm, rfl⟩
      simp [execOp, ho, hu, hiu, Instr.indexAt, asIntOf, run_underlying h1, hb, run_szOf h3, Addr.add_lit, Instr.sureAddr]
    · cases hp
  · rename_i xs k j ht hj
    obtain ⟨b, off, vs, hu, hs, him⟩ := rv_eptr ht hx
    have hiu := rv_int hj hi
    split at hp
    · rename_i hb
      cases hp
      refine ⟨.pointer (some ⟨b, off + j.toNat * sz, none⟩), ?_, b, off + j.toNat * sz, vs.drop (j.toNat * sz), rfl, hs.drop _, him.drop _⟩
      simp [execOp, ho, hu, hiu, Instr.indexAt, asIntOf, run_underlying h1, hb, run_szOf h3, Addr.add_lit, Instr.sureAddr]
    · cases hp
  · cases hp
theorem bytes_size (s : List UInt8) : (⟨s.toArray⟩ : ByteArray).size = s.length := by simp [ByteArray.size]

theorem says_bin {o : Oper} {op : BinOp} {t yt : TypeId} {x y : Operand} (ho : o.op = .binOp op t x y yt)
    {v : AV} (hx : RV S (vf (opd x)) (ρ x)) (hy : RV S (vf (opd y)) (ρ y)) (hp : bin op (vf (opd x)) (vf (opd y)) = some v) : Says P S ρ o v := by
  unfold bin at hp
  split at hp
  · rename_i k a k' b hxa hyb
    have hu := rv_int hxa hx
    have hv := rv_int hyb hy
    split at hp
    · rename_i hs
      unfold shI at hp
      split at hp
      · cases hp
      · rename_i hb
        rcases hs with rfl | rfl <;> (simp only at hp; cases hp)
        · exact ⟨.int k _, by simp [execOp, ho, hu, hv, binOp, eqGuard_at_int, Op.shift, hb], rfl⟩
        · exact ⟨.int k _, by simp [execOp, ho, hu, hv, binOp, eqGuard_at_int, Op.shift, hb], rfl⟩
    · rename_i hs
      simp only [not_or] at hs
      split at hp
      · rename_i hk
        subst hk
        cases op <;> simp only [binI, reduceCtorEq] at hp
        case quo =>
          split at hp
          · cases hp
          · rename_i hb; cases hp
            exact ⟨.int k _, by simp [execOp, ho, hu, hv, eqGuard_at_int, binOp, Op.intDiv, hb], rfl⟩
        case rem =>
          split at hp
          · cases hp
          · rename_i hb; cases hp
            exact ⟨.int k _, by simp [execOp, ho, hu, hv, eqGuard_at_int, binOp, Op.intDiv, hb], rfl⟩
        case add => cases hp; exact ⟨.int k _, by simp [execOp, ho, hu, hv, eqGuard_at_int, binOp, Op.intArith], rfl⟩
        case sub => cases hp; exact ⟨.int k _, by simp [execOp, ho, hu, hv, eqGuard_at_int, binOp, Op.intArith], rfl⟩
        case mul => cases hp; exact ⟨.int k _, by simp [execOp, ho, hu, hv, eqGuard_at_int, binOp, Op.intArith], rfl⟩
        case and => cases hp; exact ⟨.int k _, by simp [execOp, ho, hu, hv, eqGuard_at_int, binOp, Op.intBits], rfl⟩
        case or => cases hp; exact ⟨.int k _, by simp [execOp, ho, hu, hv, eqGuard_at_int, binOp, Op.intBits], rfl⟩
        case xor => cases hp; exact ⟨.int k _, by simp [execOp, ho, hu, hv, eqGuard_at_int, binOp, Op.intBits], rfl⟩
        case andNot => cases hp; exact ⟨.int k _, by simp [execOp, ho, hu, hv, eqGuard_at_int, binOp, Op.intBits], rfl⟩
        case eql => cases hp; exact ⟨.bool _, by simp [execOp, ho, hu, hv, eqGuard_at_int, binOp, Op.intCmp], rfl⟩
        case neq => cases hp; exact ⟨.bool _, by simp [execOp, ho, hu, hv, eqGuard_at_int, binOp, Op.intCmp], rfl⟩
        case lss => cases hp; exact ⟨.bool _, by simp [execOp, ho, hu, hv, eqGuard_at_int, binOp, Op.intCmp], rfl⟩
        case leq => cases hp; exact ⟨.bool _, by simp [execOp, ho, hu, hv, eqGuard_at_int, binOp, Op.intCmp], rfl⟩
        case gtr => cases hp; exact ⟨.bool _, by simp [execOp, ho, hu, hv, eqGuard_at_int, binOp, Op.intCmp], rfl⟩
        case geq => cases hp; exact ⟨.bool _, by simp [execOp, ho, hu, hv, eqGuard_at_int, binOp, Op.intCmp], rfl⟩
      · cases hp
  · rename_i a b hxa hyb
    have hu := rv_str hxa hx
    have hv := rv_str hyb hy
    cases op <;> simp only [binS, reduceCtorEq] at hp
    case add =>
      split at hp
      · rename_i hb
        cases hp
        have hb' : ¬ ((a.length : Int) + b.length > 9223372036854775807) := by omega
        refine ⟨.string ⟨(a ++ b).toArray⟩, ?_, rfl⟩
        simp only [execOp, ho, hu, hv, eqGuard_at_string, binOp, Op.stringOp, bytes_size, ByteArray.mk_append_mk, IntKind.max_i64, Int.natCast_add, Sem.run_bind, Sem.run_pure, Result.andThen_ok, if_neg hb']
      · cases hp
    all_goals
      cases hp
      exact ⟨.bool _, by simp [execOp, ho, hu, hv, eqGuard_at_string, binOp, Op.stringOp, ByteArray.toList_mk], rfl⟩
  · cases hp

theorem says_beq {o : Oper} {neg : Bool} {op : BinOp} {t yt : TypeId} {x y : Operand} (ho : o.op = .binOp op t x y yt) (h1 : P.underlying t = some .bool) (hop : op = if neg then .neq else .eql)
    {v : AV} (hx : RV S (vf (opd x)) (ρ x)) (hy : RV S (vf (opd y)) (ρ y)) (hp : pureOp vf (.beq neg (opd x) (opd y)) = some v) : Says P S ρ o v := by
  simp only [pureOp] at hp
  split at hp
  · rename_i a b hxa hyb
    cases hp
    have hu := rv_bool hxa hx
    have hv := rv_bool hyb hy
    have he : (Op.equal t (.bool a) (.bool b)).run P S.w = .ok (a == b) S.w := run_equalIn_bool' S.w 9999 t a b h1
    refine ⟨.bool _, ?_, rfl⟩
    cases neg <;> simp at hop <;> subst hop <;> simp [execOp, ho, hu, hv, eqGuard_at_bool, binOp, he]
  · cases hp

theorem scalar_cases {t : TypeId} {k : Nat} (h : scalarT P t = some k) : (k = 0 ∧ ∃ i, P.underlying t = some (.int i)) ∨ (k = 1 ∧ P.underlying t = some .bool) ∨ (k = 2 ∧ P.underlying t = some .string) := by
  unfold scalarT at h
  split at h
  · rename_i i hu; cases h; exact .inl ⟨rfl, i, hu⟩
  · rename_i hu; cases h; exact .inr (.inl ⟨rfl, hu⟩)
  · rename_i hu; cases h; exact .inr (.inr ⟨rfl, hu⟩)
  · cases h
theorem scalar_agg {t : TypeId} {k : Nat} (h : scalarT P t = some k) : aggT P t = some false := by
  unfold aggT
  rcases scalar_cases h with ⟨_, i, hu⟩ | ⟨_, hu⟩ | ⟨_, hu⟩ <;> rw [hu]
theorem eqGuardType_scalar {t : TypeId} {k : Nat} (h : scalarT P t = some k) : ∀ d, P.eqGuardType (d + 1) t = false := by
  intro d
  unfold Program.eqGuardType
  rcases scalar_cases h with ⟨_, i, hu⟩ | ⟨_, hu⟩ | ⟨_, hu⟩ <;> rw [hu]

theorem eqLs_ok {us vs : Array Value} (d : Nat) : ∀ (fs : List Field) (ks : List Nat) (k : Nat) (xs ys : List AV), eqFs P k fs = some ks → All2 (RL S) xs (us.toList.drop k) → All2 (RL S) ys (vs.toList.drop k) →
    ∀ b, eqLs ks xs ys = some b → (Op.eqFields (d + 1) us vs fs).run P S.w = .ok b S.w := by
  intro fs
  induction fs with
  | nil =>
    intro ks k xs ys hf hxs hys b hb
    cases hf
    cases xs <;> cases ys <;> cases hb
    rfl
  | cons f fs ih =>
    intro ks k xs ys hf hxs hys b hb
    simp only [eqFs] at hf
    split at hf
    · rename_i kd ks' hs hf'
      split at hf
      · rename_i hc
        cases hf
        obtain ⟨hn, hoff⟩ := hc
        cases xs with
        | nil => cases hb
        | cons x xs =>
          cases ys with
          | nil => cases hb
          | cons y ys =>
            simp only [eqLs] at hb
            generalize hud : us.toList.drop k = ud at hxs
            generalize hvd : vs.toList.drop k = vd at hys
            cases hxs with
            | cons hx hxs =>
              rename_i u us'
              cases hys with
              | cons hy hys =>
                rename_i v vs'
                have hu : us[k]? = some u := by
                  have := congrArg (·[0]?) hud
                  simpa [List.getElem?_drop] using this
                have hv : vs[k]? = some v := by
                  have := congrArg (·[0]?) hvd
                  simpa [List.getElem?_drop] using this
                have hus : us.toList.drop (k + 1) = us' := by rw [← List.drop_drop, hud]; rfl
                have hvs : vs.toList.drop (k + 1) = vs' := by rw [← List.drop_drop, hvd]; rfl
                have hag := scalar_agg hs
                have hpu : (part f.type us f.offset).run P S.w = .ok u S.w := by
                  unfold part; rw [Sem.run_bind, run_aggT hag]; simp [hoff, hu]
                have hpv : (part f.type vs f.offset).run P S.w = .ok v S.w := by
                  unfold part; rw [Sem.run_bind, run_aggT hag]; simp [hoff, hv]
                have key : ∀ r, eqL kd x y = some r → (Op.equalIn (d + 1) f.type u v).run P S.w = .ok r S.w := by
                  intro r hr
                  rcases scalar_cases hs with ⟨rfl, i, hty⟩ | ⟨rfl, hty⟩ | ⟨rfl, hty⟩
                  · cases x <;> cases y <;> try (exfalso; simp [eqL] at hr; done)
                    rename_i k1 a k2 b'
                    simp only [eqL] at hr
                    split at hr
                    · rename_i hk
                      cases hr
                      obtain rfl : u = .int k1 a := hx
                      obtain rfl : v = .int k2 b' := hy
                      subst hk
                      exact run_equalIn_int S.w d _ _ _ _ _ hty
                    · cases hr
                  · cases x <;> cases y <;> try (exfalso; simp [eqL] at hr; done)
                    rename_i a b'
                    simp only [eqL] at hr
                    cases hr
                    obtain rfl : u = .bool a := hx
                    obtain rfl : v = .bool b' := hy
                    exact run_equalIn_bool' S.w d _ _ _ hty
                  · cases x <;> cases y <;> try (exfalso; simp [eqL] at hr; done)
                    rename_i a b'
                    simp only [eqL] at hr
                    cases hr
                    obtain rfl : u = .string ⟨a.toArray⟩ := hx
                    obtain rfl : v = .string ⟨b'.toArray⟩ := hy
                    have := run_equalIn_string (P := P) S.w d f.type ⟨a.toArray⟩ ⟨b'.toArray⟩ hty
                    rwa [ByteArray.toList_mk, ByteArray.toList_mk] at this
                have ih' := ih ks' (k + 1) xs ys hf' (by rw [hus]; exact hxs) (by rw [hvs]; exact hys)
                simp only [Op.eqFields, hn, ne_eq, not_false_eq_true, if_true, Sem.run_bind, hpu, hpv, Result.andThen_ok]
                split at hb
                · rename_i hr
                  rw [key true hr]
                  simpa using ih' b hb
                · rename_i hr
                  cases hb
                  rw [key false hr]
                  simp
                · cases hb
      · cases hf
    · cases hf

theorem eqFs_guard : ∀ (fs : List Field) (k : Nat) (ks : List Nat), eqFs P k fs = some ks → ∀ d, (fs.any fun f => f.name != "_" && P.eqGuardType (d + 1) f.type) = false
  | [], _, _, _, _ => rfl
  | f :: fs, k, ks, h, d => by
    simp only [eqFs] at h
    split at h
    · rename_i kd ks' hs hf'
      rw [List.any_cons, eqGuardType_scalar hs d, eqFs_guard fs _ _ hf' d]
      simp
    · cases h

/-- two structs whose fields Go compares by their values -/
theorem says_eqs {o : Oper} {neg : Bool} {op : BinOp} {t yt : TypeId} {x y : Operand} {ks : List Nat} (ho : o.op = .binOp op t x y yt) (h1 : eqT P t = some ks) (hop : op = if neg then .neq else .eql)
    {v : AV} (hx : RV S (vf (opd x)) (ρ x)) (hy : RV S (vf (opd y)) (ρ y)) (hp : pureOp vf (.eqs neg ks (opd x) (opd y)) = some v) : Says P S ρ o v := by
  simp only [pureOp] at hp
  split at hp
  · rename_i xs ys hxa hyb
    split at hp
    · rename_i b hb
      cases hp
      obtain ⟨us, hu, hus, _⟩ := rv_agg hxa hx
      obtain ⟨vs, hv, hvs, _⟩ := rv_agg hyb hy
      unfold eqT at h1
      split at h1
      · rename_i fields ht
        split at h1
        · cases h1
        · rename_i hst
          have hst' : P.stoodInHeld t = false := by simpa using hst
          have hfo : P.fieldsOf t = fields := by unfold Program.fieldsOf; rw [ht]
          have hg : P.eqGuardType P.depth t = false := by
            show P.eqGuardType (2 * (P.types.size + Made.depth) + 1 + 1) t = false
            unfold Program.eqGuardType
            rw [ht]
            have := eqFs_guard (P := P) fields.toList 0 ks h1 (2 * (P.types.size + Made.depth))
            show (fields.any fun f => f.name != "_" && P.eqGuardType (2 * (P.types.size + Made.depth) + 1) f.type) = false
            rw [← Array.any_toList]
            exact this
          have he : (Op.equalIn 10000 t (.agg us) (.agg vs)).run P S.w = .ok b S.w := by
            have h2 := run_equalIn_struct (P := P) S.w 9999 t us vs (by rw [hfo]; exact ht) hst'
            rw [hfo] at h2
            exact h2.trans (eqLs_ok 9998 fields.toList ks 0 xs ys h1 (by simpa using hus) (by simpa using hvs) b hb)
          refine ⟨.bool (if neg then !b else b), ?_, rfl⟩
          have hgr := fun op w => run_eqGuard_agg (P := P) w op t x y us vs hg
          cases neg <;> simp at hop <;> subst hop
          · simp [execOp, ho, hu, hv, hgr, run_eql_struct, he]
          · simp [execOp, ho, hu, hv, hgr, run_neq_struct, he]
      · cases h1
    · cases hp
  · cases hp

theorem bounds_ok {n m : Nat} (hnm : n ≤ m) {isSlice : Bool} {lo hi : Option Operand} (hlo : ∀ x, lo = some x → RV S (vf (opd x)) (ρ x)) (hhi : ∀ x, hi = some x → RV S (vf (opd x)) (ρ x))
    {l h : Nat} (hb : bounds vf n (lo.map opd) (hi.map opd) = some (l, h)) (w : World) :
    (Instr.sliceBounds isSlice n m (lo.map ρ) (hi.map ρ) none).run P w = .ok (l, h, m) w ∧ l ≤ h ∧ h ≤ n := by
  have hint : ∀ x, RV S (vf (opd x)) (ρ x) → ∀ k i, vf (opd x) = .int k i → ∀ (y : Nat) code, 0 ≤ i ∧ i ≤ (y : Int) → (Instr.sliceBound (ρ x) y code).run P w = .ok i.toNat w := by
    intro x hx k i hi y code hb
    simp [Instr.sliceBound, rv_int hi hx, asIntOf, hb]
  cases hi with
  | none =>
    cases lo with
    | none =>
      simp only [bounds, Option.map_none, Option.some.injEq, Prod.mk.injEq] at hb
      obtain ⟨rfl, rfl⟩ := hb
      exact ⟨by simp [Instr.sliceBounds], by omega, by omega⟩
    | some x =>
      simp only [bounds, Option.map_none, Option.map_some] at hb
      split at hb
      · rename_i k i hi'
        split at hb
        · rename_i hb'
          simp only [Option.some.injEq, Prod.mk.injEq] at hb
          obtain ⟨rfl, rfl⟩ := hb
          exact ⟨by simp [Instr.sliceBounds, hint x (hlo x rfl) k i hi' _ _ hb'], by omega, by omega⟩
        · cases hb
      · cases hb
  | some z =>
    simp only [bounds, Option.map_some] at hb
    split at hb
    · cases hb
    · rename_i h1 hh1
      split at hh1
      · rename_i k j hj
        split at hh1
        · rename_i hb1
          cases hh1
          have hz := hint z (hhi z rfl) k j hj m (if isSlice then .sliceAcap else .sliceAlen) (by omega)
          cases lo with
          | none =>
            simp only [Option.map_none, Option.some.injEq, Prod.mk.injEq] at hb
            obtain ⟨rfl, rfl⟩ := hb
            exact ⟨by simp [Instr.sliceBounds, hz], by omega, by omega⟩
          | some x =>
            simp only [Option.map_some] at hb
            split at hb
            · rename_i k i hi'
              split at hb
              · rename_i hb'
                simp only [Option.some.injEq, Prod.mk.injEq] at hb
                obtain ⟨rfl, rfl⟩ := hb
                exact ⟨by simp [Instr.sliceBounds, hz, hint x (hlo x rfl) k i hi' _ _ hb'], by omega, by omega⟩
              · cases hb
            · cases hb
        · cases hh1
      · cases hh1

theorem says_sls {o : Oper} {t : TypeId} {x : Operand} {lo hi : Option Operand} (ho : o.op = .slice t x lo hi none) (h1 : P.underlying t = some .string) {v : AV} (hx : RV S (vf (opd x)) (ρ x))
    (hlo : ∀ x, lo = some x → RV S (vf (opd x)) (ρ x)) (hhi : ∀ x, hi = some x → RV S (vf (opd x)) (ρ x)) (hp : pureOp vf (.sls (opd x) (lo.map opd) (hi.map opd)) = some v) : Says P S ρ o v := by
  simp only [pureOp] at hp
  split at hp
  · rename_i b ht
    split at hp
    · rename_i l h hb
      cases hp
      have hu := rv_str ht hx
      obtain ⟨hr, hl, hh⟩ := bounds_ok (P := P) (isSlice := false) (Nat.le_refl b.length) hlo hhi hb S.w
      refine ⟨.string ⟨((b.take h).drop l).toArray⟩, ?_, rfl⟩
      simp [execOp, ho, hu, Instr.sliceAt, run_underlying h1, Instr.slice, bytes_size, hr, ByteArray.extract_mk, List.drop_take]
    · cases hp
  · cases hp
theorem RP.cut {w : World} {M : MutP} {xs : List AV} {a : Option Addr} {cap l h sz m : Nat} (hr : RP w M (.sl .none xs) (.slice a xs.length cap)) (hsz : ∀ x ∈ xs, nleaves x = sz) (hl : l ≤ h) (hh : h ≤ xs.length) (hm : h ≤ m) :
    RP w M (.sl .none ((xs.take h).drop l)) (.slice (if m = l then a else a.map (·.add (l * sz))) (h - l) (m - l)) := by
  have hlen : ((xs.take h).drop l).length = h - l := by simp; omega
  rw [← hlen]
  refine RP.sl_mk (by omega) fun hne => ?_
  have hlt : l < h := by
    rcases Nat.lt_or_ge l h with h' | h'
    · exact h'
    · exact absurd (List.length_eq_zero_iff.1 (by omega)) hne
  obtain ⟨a', cap', hu, _, hp⟩ := hr.sl_parts
  simp only [Value.slice.injEq] at hu
  obtain ⟨rfl, -, rfl⟩ := hu
  obtain ⟨b, off, sz', vs, rfl, hall, hs, him⟩ := hp (by rintro rfl; simp at hh; omega)
  obtain ⟨x, hx⟩ : ∃ x, x ∈ xs := List.exists_mem_of_length_pos (by omega)
  have : sz' = sz := by rw [← hall x hx, hsz x hx]
  subst this
  refine ⟨b, off + l * sz', sz', (vs.take (h * sz')).drop (l * sz'), ?_, fun y hy => hall y (List.mem_of_mem_take (List.mem_of_mem_drop hy)), ?_, (him.take _).drop _⟩
  · rw [if_neg (by omega)]; simp [Addr.add_lit]
  · have h1 := (hs.take (h * sz')).drop (l * sz')
    have e1 : (xs.flatMap leaves).take (h * sz') = (xs.take h).flatMap leaves := by
      have hl1 : ((xs.take h).flatMap leaves).length = h * sz' := by
        rw [flat_length (sz := sz') fun z hz => hall z (List.mem_of_mem_take hz), List.length_take, Nat.min_eq_left hh]
      conv => lhs; rw [← List.take_append_drop h xs, List.flatMap_append, ← hl1, List.take_left]
    have e2 : ((xs.take h).flatMap leaves).drop (l * sz') = ((xs.take h).drop l).flatMap leaves := by
      have hl1 : (((xs.take h).take l).flatMap leaves).length = l * sz' := by
        rw [flat_length (sz := sz') fun z hz => hall z (List.mem_of_mem_take (List.mem_of_mem_take hz)), List.length_take, List.length_take, Nat.min_eq_left hh, Nat.min_eq_left (by omega)]
      conv => lhs; rw [← List.take_append_drop l (xs.take h), List.flatMap_append, ← hl1, List.drop_left]
    rw [e1, e2] at h1
    exact h1

theorem says_sll {o : Oper} {t : TypeId} {x : Operand} {e sz : Nat} {lo hi : Option Operand} (ho : o.op = .slice t x lo hi none) (h1 : P.underlying t = some (.slice e)) (h3 : szOf P e = some sz) {c : Cap} {xs : List AV} (ht : vf (opd x) = .sl c xs)
    (hsz : sizeOk sz xs = true) (hx : RV S (vf (opd x)) (ρ x))
    (hlo : ∀ x, lo = some x → RV S (vf (opd x)) (ρ x)) (hhi : ∀ x, hi = some x → RV S (vf (opd x)) (ρ x)) {l h : Nat} (hb : bounds vf xs.length (lo.map opd) (hi.map opd) = some (l, h)) :
    Says P S ρ o (.sl .none ((xs.take h).drop l)) := by
  have hu := (rv_sl ht hx).1
  obtain ⟨a, cap, hux, hcap, hp⟩ := hu.sl_parts
  obtain ⟨hr, hl, hh⟩ := bounds_ok (P := P) (isSlice := true) hcap hlo hhi hb S.w
  refine ⟨.slice (if cap = l then a else a.map (·.add (l * sz))) (h - l) (cap - l), ?_, RP.cut (by rw [← hux]; exact hu) (fun y hy => ?_) hl hh (by omega), trivial⟩
  · simp [execOp, ho, hux, Instr.sliceAt, run_underlying h1, Instr.slice, hr, run_szOf h3]
  · obtain ⟨b, off, sz', vs, _, hall, _⟩ := hp (by rintro rfl; simp at hy)
    cases xs with
    | nil => simp at hy
    | cons z zs =>
      have : nleaves z = sz := by simpa [sizeOk] using hsz
      rw [hall y hy, ← hall z (by simp), this]

theorem says_sla {o : Oper} {t : TypeId} {x : Operand} {e n sz : Nat} {lo hi : Option Operand} (ho : o.op = .slice t x lo hi none) (h1 : P.underlying t = some (.array n e)) (h3 : szOf P e = some sz) {p off : Nat} (ht : vf (opd x) = .ptr p off)
    (hx : RV S (vf (opd x)) (ρ x)) (hlo : ∀ x, lo = some x → RV S (vf (opd x)) (ρ x)) (hhi : ∀ x, hi = some x → RV S (vf (opd x)) (ρ x)) {l h : Nat} (hb : bounds vf n (lo.map opd) (hi.map opd) = some (l, h)) :
    Says P S ρ o (if l < h then .arr p (off + l * sz) (h - l) else .sl .none []) := by
  obtain ⟨hc, b, hm, hu⟩ := rv_ptr ht hx
  obtain ⟨hr, hl, hh⟩ := bounds_ok (P := P) (isSlice := false) (Nat.le_refl n) hlo hhi hb S.w
  refine ⟨.slice (some (if n = l then ⟨b, off, none⟩ else ⟨b, off + l * sz, none⟩)) (h - l) (n - l), ?_, ?_⟩
  · simp [execOp, ho, hu, Instr.sliceAt, run_underlying h1, Instr.sureAddr, hr, run_szOf h3, Addr.add_lit]
  · split
    · rw [if_neg (by omega)]
      exact ⟨hc, b, n - l, hm, rfl, by omega⟩
    · rw [show h - l = 0 by omega]
      exact ⟨.sl0 _ _, trivial⟩

theorem says_arrcut {o : Oper} {t : TypeId} {x : Operand} {e sz : Nat} {lo hi : Option Operand} (ho : o.op = .slice t x lo hi none) (h1 : P.underlying t = some (.slice e)) (h3 : szOf P e = some sz) {p off len : Nat} (ht : vf (opd x) = .arr p off len)
    (hx : RV S (vf (opd x)) (ρ x)) (hlo : ∀ x, lo = some x → RV S (vf (opd x)) (ρ x)) (hhi : ∀ x, hi = some x → RV S (vf (opd x)) (ρ x)) {l h : Nat} (hb : bounds vf len (lo.map opd) (hi.map opd) = some (l, h)) :
    Says P S ρ o (if l < h then .arr p (off + l * sz) (h - l) else .sl .none []) := by
  obtain ⟨hc, b, cap, hm, hu, hcap⟩ := rv_arr ht hx
  obtain ⟨hr, hl, hh⟩ := bounds_ok (P := P) (isSlice := true) hcap hlo hhi hb S.w
  refine ⟨.slice (some (if cap = l then ⟨b, off, none⟩ else ⟨b, off + l * sz, none⟩)) (h - l) (cap - l), ?_, ?_⟩
  · simp only [execOp, ho, hu, Instr.sliceAt, Sem.run_bind, run_underlying h1, Instr.slice, Result.andThen_ok, Option.map_none, hr, run_szOf h3, Sem.run_pure, Option.map_some, Addr.add_lit]
    split <;> rfl
  · split
    · rw [if_neg (by omega)]
      exact ⟨hc, b, cap - l, hm, rfl, by omega⟩
    · rw [show h - l = 0 by omega]
      exact ⟨.sl0 _ _, trivial⟩

theorem says_lens {o : Oper} {c : Call} {t : TypeId} {x : Operand} (ho : o.op = .call c) (hc : c.callee = .builtin .len) (ha : c.args.toList = [x]) (ht : c.argTypes[0]? = some t)
    (h1 : P.underlying t = some .string) {v : AV} (hx : RV S (vf (opd x)) (ρ x)) (hp : pureOp vf (.lens (opd x)) = some v) : Says P S ρ o v := by
  have ha' : c.args = #[x] := by apply Array.ext'; simpa using ha
  simp only [pureOp] at hp
  split at hp
  · rename_i b hb
    cases hp
    have hu := rv_str hb hx
    refine ⟨.int .i64 b.length, ?_, rfl⟩
    simp [execOp, ho, resolve, hc, ha', hu, invoke, builtin, Builtin.len_, ht, run_underlying h1, goInt, bytes_size]
  · cases hp

theorem says_len {o : Oper} {c : Call} {t e : TypeId} {x : Operand} (ho : o.op = .call c) (hc : c.callee = .builtin .len) (ha : c.args.toList = [x]) (ht : c.argTypes[0]? = some t)
    (h1 : P.underlying t = some (.slice e)) {v : AV} (hx : RV S (vf (opd x)) (ρ x)) (hp : pureOp vf (.len (opd x)) = some v) : Says P S ρ o v := by
  have ha' : c.args = #[x] := by apply Array.ext'; simpa using ha
  simp only [pureOp] at hp
  split at hp
  · rename_i k xs hb
    cases hp
    obtain ⟨a, cap, hu, _⟩ := (rv_sl hb hx).1.sl_parts
    refine ⟨.int .i64 xs.length, ?_, rfl⟩
    simp [execOp, ho, resolve, hc, ha', hu, invoke, builtin, Builtin.len_, ht, run_underlying h1, goInt]
  · rename_i p off n hb
    cases hp
    obtain ⟨_, b, cap, _, hu, _⟩ := rv_arr hb hx
    refine ⟨.int .i64 n, ?_, rfl⟩
    simp [execOp, ho, resolve, hc, ha', hu, invoke, builtin, Builtin.len_, ht, run_underlying h1, goInt]
  · cases hp

theorem says_lenc {o : Oper} {c : Call} {t e : TypeId} {n : Nat} {x : Operand} (ho : o.op = .call c) (hc : c.callee = .builtin .len) (ha : c.args.toList = [x]) (ht : c.argTypes[0]? = some t)
    (h1 : P.underlying t = some (.array n e)) : Says P S ρ o (.int .i64 n) := by
  have ha' : c.args = #[x] := by apply Array.ext'; simpa using ha
  refine ⟨.int .i64 n, ?_, rfl⟩
  simp [execOp, ho, resolve, hc, ha', invoke, builtin, Builtin.len_, ht, run_underlying h1, goInt]

theorem RK.of_RL {x : AV} {v : Value} (h : RL S x v) (hc : isCap x = true) : RK S x v := by
  cases x <;> first | exact h | cases hc

theorem caps_ok {captured : List Operand} (hv : ∀ x ∈ captured, RV S (vf (opd x)) (ρ x)) (hc : ((captured.map opd).map vf).all isCap = true) : All2 (RK S) ((captured.map opd).map vf) (captured.map ρ) := by
  induction captured with
  | nil => exact .nil
  | cons x xs ih =>
    simp only [List.map_cons, List.all_cons, Bool.and_eq_true] at hc ⊢
    refine .cons ?_ (ih (fun y hy => hv y (by simp [hy])) hc.2)
    have h := hv x (by simp)
    generalize vf (opd x) = v at h hc
    cases v <;> first | exact h | exact absurd hc.1 (by simp [isCap])

theorem says_mkf {o : Oper} {f : Nat} {first captured : Array Operand} (ho : o.op = .makeFunc (.func f) first captured) (hf : first.isEmpty = true) {v : AV} (hv : ∀ x ∈ captured.toList, RV S (vf (opd x)) (ρ x))
    (hp : pureOp vf (.mkf f (captured.toList.map opd)) = some v) : Says P S ρ o v := by
  simp only [pureOp] at hp
  split at hp
  · rename_i hc
    cases hp
    have hf' : first = #[] := by simpa using hf
    refine ⟨.func (.func f) #[] (captured.map ρ), ?_, (captured.map ρ), rfl, ?_, hc⟩
    · simp [execOp, ho, Instr.makeFunc, hf']
    · rw [Array.toList_map]
      exact caps_ok hv hc
  · cases hp

theorem says_mm {o : Oper} {c : Call} {mx : Bool} {x y : Operand} (ho : o.op = .call c) (hc : c.callee = .builtin (if mx then .max else .min)) (ha : c.args.toList = [x, y])
    {v : AV} (hx : RV S (vf (opd x)) (ρ x)) (hy : RV S (vf (opd y)) (ρ y)) (hp : pureOp vf (.mm mx (opd x) (opd y)) = some v) : Says P S ρ o v := by
  have ha' : c.args = #[x, y] := by
    apply Array.ext'; simpa using ha
  simp only [pureOp] at hp
  split at hp
  · rename_i k a k' b hxa hyb
    split at hp
    · rename_i hk
      cases hp
      subst hk
      have hu := rv_int hxa hx
      have hv := rv_int hyb hy
      refine ⟨.int k _, ?_, rfl⟩
      cases mx
      · simp at hc
        simp [execOp, ho, resolve, hc, ha', hu, hv, invoke, builtin, Builtin.min_, Builtin.min2]
      · simp at hc
        simp [execOp, ho, resolve, hc, ha', hu, hv, invoke, builtin, Builtin.max_, Builtin.max2]
    · cases hp
  · cases hp
theorem foldl_set (off : Nat) : ∀ (l : List Value) (k : Nat) (cs : Array Value), off + k + l.length ≤ cs.size →
    ((l.zipIdx k).foldl (fun (cs : Array Value) (x : Value × Nat) => cs.setIfInBounds (off + x.2) x.1) cs).toList = cs.toList.take (off + k) ++ l ++ cs.toList.drop (off + k + l.length)
  | [], k, cs, _ => by simp
  | v :: l, k, cs, h => by
    simp only [List.length_cons] at h
    rw [List.zipIdx_cons, List.foldl_cons, foldl_set off l (k + 1) _ (by simp; omega)]
    simp only [Array.toList_setIfInBounds]
    have := list_seg_step cs.toList (off + k) v l (by simp; omega)
    rw [show off + (k + 1) = off + k + 1 by omega, this]
    simp [Nat.add_assoc]

theorem fill_ok {place : Nat → Option (Nat × Nat)} : ∀ (parts : List (Nat × Operand)) (ps : List (Nat × Nat × Opd)) (xs ys : List AV) (cells : Array Value), partsOf place parts = some ps → fillParts vf ps xs = some ys →
    (∀ p ∈ parts, RV S (vf (opd p.2)) (ρ p.2)) → All2 (RL S) xs cells.toList → xs.all isLf = true →
    ∃ cells', Instr.fill place cells (parts.map fun p => (p.1, ρ p.2)) = some cells' ∧ All2 (RL S) ys cells'.toList ∧ ys.all isLf = true ∧ ys.length = xs.length
  | [], ps, xs, ys, cells, hp, hf, _, hxs, hl => by
    cases hp; cases hf
    exact ⟨cells, rfl, hxs, hl, rfl⟩
  | (i, x) :: r, ps, xs, ys, cells, hp, hf, hv, hxs, hl => by
    simp only [partsOf] at hp
    split at hp
    · rename_i off n ps' hpl hps
      cases hp
      simp only [fillParts] at hf
      split at hf
      · rename_i zs hz
        split at hf
        · rename_i hb
          obtain ⟨hrl, hlf⟩ := cellsOf_ok hz (hv (i, x) (by simp))
          have hlen := hxs.length
          have hzl := hrl.length
          simp only [Array.length_toList] at hlen hzl
          have hsz : (ρ x).cells.size = n := by rw [← hzl]; exact hb.1
          have hfo := foldl_set off (ρ x).cells.toList 0 cells (by simp; omega)
          have hfo' : ((ρ x).cells.zipIdx.foldl (fun (cs : Array Value) (x : Value × Nat) => cs.setIfInBounds (off + x.2) x.1) cells).toList =
              cells.toList.take off ++ (ρ x).cells.toList ++ cells.toList.drop (off + (ρ x).cells.toList.length) := by
            rw [← Array.foldl_toList, Array.toList_zipIdx]
            simpa using hfo
          have hsp := hxs.splice off hrl
          rw [← hfo'] at hsp
          obtain ⟨cells', hc, h1, h2, h3⟩ := fill_ok r ps' (splice xs off zs) ys _ hps hf (fun p hp => hv p (by simp [hp])) hsp (by
            unfold splice
            simp only [List.all_append, Bool.and_eq_true]
            exact ⟨⟨all_take hl _, hlf⟩, all_drop hl _⟩)
          refine ⟨cells', ?_, h1, h2, ?_⟩
          · simp only [List.map_cons, Instr.fill, hpl]
            have hb2 := hb.2
            have hng : (decide ((ρ x).cells.size ≠ n) || decide (off + (ρ x).cells.size > cells.size)) = false := by
              rw [hsz]; simp; omega
            rw [hng]
            exact hc
          · rw [h3]; unfold splice; simp; omega
        · cases hf
      · cases hf
    · cases hp

theorem cv_ok {S : St} {v : Value} {x : AV} (h : cv v = some x) : RV S x v ∧ isLf x = true := by
  unfold cv at h
  split at h <;> cases h
  · exact ⟨rfl, rfl⟩
  · exact ⟨rfl, rfl⟩
  · rename_i s; exact ⟨by show Value.string s = _; congr 1, rfl⟩
  · exact ⟨⟨.sl0 _ _, _, rfl⟩, rfl⟩
  · exact ⟨rfl, rfl⟩
theorem RL.of_RV {S : St} {x : AV} {v : Value} (h : RV S x v) (hl : isLf x = true) : RL S x v := by
  cases x <;> first | exact h | cases hl
theorem cvs_ok {S : St} : ∀ {vs : List Value} {xs : List AV}, cvs vs = some xs → All2 (RL S) xs vs ∧ xs.all isLf = true
  | [], xs, h => by cases h; exact ⟨.nil, rfl⟩
  | v :: vs, xs, h => by
    simp only [cvs] at h
    split at h
    · rename_i x ys hx hy
      cases h
      obtain ⟨h1, h2⟩ := cv_ok (S := S) hx
      obtain ⟨h3, h4⟩ := cvs_ok (S := S) hy
      exact ⟨.cons (.of_RV h1 h2) h3, by simp [h2, h4]⟩
    · cases h
theorem zl_ok {t : TypeId} {xs : List AV} (h : zl P t = some xs) : ∃ z, (∀ w, (zeroValue t).run P w = .ok z w) ∧ ∀ S, All2 (RL S) xs z.cells.toList ∧ xs.all isLf = true := by
  unfold zl at h
  split at h
  · rename_i i hi
    split at h
    · rename_i z hz
      exact ⟨z, fun w => by simp [zeroValue, typeInfo, hi, hz], fun S => cvs_ok h⟩
    · cases h
  · cases h

theorem says_bld {o : Oper} {t : TypeId} {parts : Array (Nat × Operand)} {z : List AV} {ps : List (Nat × Nat × Opd)} (ho : o.op = .build t parts) (hz : zl P t = some z) {v : AV} (hv : ∀ p ∈ parts.toList, RV S (vf (opd p.2)) (ρ p.2))
    (h1 : (∃ fields pl, P.underlying t = some (.struct fields) ∧ placesOf P fields = some pl ∧ partsOf (pl[·]?) parts.toList = some ps) ∨
      (∃ len e n, P.underlying t = some (.array len e) ∧ szOf P e = some n ∧ partsOf (fun i => some (i * n, n)) parts.toList = some ps))
    (hp : pureOp vf (.bld z ps) = some v) : Says P S ρ o v := by
  obtain ⟨zv, hzr, hzo⟩ := zl_ok hz
  simp only [pureOp] at hp
  split at hp
  · rename_i xs hxs
    cases hp
    rcases h1 with ⟨fields, pl, hu, hpl, hps⟩ | ⟨len, e, n, hu, hn, hps⟩
    · obtain ⟨cells', hc, ha, hl, _⟩ := fill_ok parts.toList ps z xs zv.cells hps hxs hv (hzo S).1 (hzo S).2
      refine ⟨.agg cells', ?_, cells', rfl, ha, hl⟩
      have hpr := run_places (P := P) S.w fields.toList pl hpl
      simp [execOp, ho, Instr.build, hzr, run_underlying hu, Array.mapM_eq_mapM_toList, hpr, hc]
    · obtain ⟨cells', hc, ha, hl, _⟩ := fill_ok parts.toList ps z xs zv.cells hps hxs hv (hzo S).1 (hzo S).2
      refine ⟨.agg cells', ?_, cells', rfl, ha, hl⟩
      simp [execOp, ho, Instr.build, hzr, run_underlying hu, run_szOf hn, hc]
  · cases hp
end
end Ab
/- The operations on objects: what the model's operation does, and how the state goes on. -/
namespace Ab
open Go

def rkOf : AOp → Option Nat
  | .al r _ => some r
  | .bx r _ => some r
  | .bsr r _ _ _ => some r
  | .app r _ _ _ _ => some r
  | .mks r _ _ _ _ _ => some r
  | _ => none

section
variable {P : Program} {vf : Opd → AV} {ρ : Operand → Value}

/-- An operation that does what the abstract one does. -/
def Does (P : Program) (k : Nat) (g : Bool) (base : Nat) (S : St) (ρ : Operand → Value) (o : Oper) (rk : Option Nat) (v : AV) (H' : Heap) : Prop :=
  ∃ S' n, (execOp ρ o).run P S.w = .ok n S'.w ∧ S'.H = H' ∧ Step k g S S' ∧ Good S' ∧ ((∃ u, n = .value u ∧ RV S' v u) ∨ (n = .skip ∧ v = .no)) ∧
    ∀ p, S.m p = .non → (∀ r, rk = some r → p ≠ base + r) → S'.m p = .non ∧ S'.H[p]? = S.H[p]?

theorem Says.does {k : Nat} {g : Bool} {base : Nat} {S : St} {o : Oper} {v : AV} (h : Says P S ρ o v) (hG : Good S) (rk : Option Nat) : Does P k g base S ρ o rk v S.H := by
  obtain ⟨u, hr, hv⟩ := h
  exact ⟨S, .value u, hr, rfl, .refl _ _ _, hG, .inl ⟨u, rfl, hv⟩, fun p hp _ => ⟨hp, rfl⟩⟩

theorem run_loadVar_cells {w : World} {t : TypeId} {agg : Bool} {b off : Nat} {cs : List Value} (ha : aggT P t = some agg) (hn : agg = true → szOf P t = some cs.length)
    (hc : ∀ (j : Nat) v, cs[j]? = some v → w.cell? ⟨b, off + j, none⟩ = some v) :
    (agg = true → (loadVar t ⟨b, off, none⟩).run P w = .ok (.agg cs.toArray) w) ∧ (∀ u, agg = false → cs = [u] → (loadVar t ⟨b, off, none⟩).run P w = .ok u w) := by
  refine ⟨fun hag => ?_, fun u hag hcs => ?_⟩
  · subst hag
    have h1 := run_loadCells_list (P := P) w ⟨b, off, none⟩ cs (fun j v hj => by rw [Addr.add_lit]; exact hc j v hj)
    simp [loadVar, run_aggT ha, run_szOf (hn rfl), h1]
  · subst hag hcs
    have := hc 0 u rfl
    simp only [Nat.add_zero] at this
    simp [loadVar, run_aggT ha, this]

theorem says_ld {S : St} {o : Oper} {t : TypeId} {x : Operand} {agg : Bool} {n : Nat} (ho : o.op = .load t x) (ha : aggT P t = some agg) (hn : agg = true → szOf P t = some n) (hn1 : agg = false → n = 1) (hG : Good S)
    {k base : Nat} {g : Bool} {v : AV} {H' : Heap} (hx : RV S (vf (opd x)) (ρ x)) (hp : heapOp k g base vf S.H (.ld agg n (opd x)) = some (v, H')) : H' = S.H ∧ Says P S ρ o v := by
  simp only [heapOp] at hp
  split at hp
  · rename_i p off ht
    obtain ⟨⟨ys, hy⟩, b, hm, hu⟩ := rv_ptr ht hx
    rw [hy] at hp
    have hobj := hG.objs p
    unfold ObjOk at hobj
    rw [hy, hm] at hobj
    obtain ⟨vs, t', hb, hs, hl, _⟩ := hobj
    simp only at hp
    split at hp
    · rename_i hlen
      split at hp
      · rename_i v' hv'
        simp only [Option.some.injEq, Prod.mk.injEq] at hp
        obtain ⟨rfl, rfl⟩ := hp
        refine ⟨rfl, ?_⟩
        have hs' := (hs.drop off).take n
        have hl' := hs'.length
        have hcs : ∀ (j : Nat) v, ((vs.toList.drop off).take n)[j]? = some v → S.w.cell? ⟨b, off + j, none⟩ = some v := by
          intro j v hj
          rw [cell_of_heap hb]
          rw [List.getElem?_take] at hj
          split at hj
          · rw [List.getElem?_drop, Array.getElem?_toList] at hj; exact hj
          · cases hj
        have hr := run_loadVar_cells (P := P) (w := S.w) ha (fun h => by rw [← hl', hlen]; exact hn h) hcs
        rcases mkAgg_ok hv' hs' (all_take (all_drop hl _) _) with ⟨rfl, hrv⟩ | ⟨rfl, u, hu1, hrv⟩
        · exact ⟨_, by simp [execOp, ho, hu, Instr.loadAt, Instr.sureAddr, hr.1 rfl], hrv⟩
        · exact ⟨u, by simp [execOp, ho, hu, Instr.loadAt, Instr.sureAddr, hr.2 u rfl hu1], hrv⟩
      · cases hp
    · cases hp
  · rename_i xs ht
    obtain ⟨b, off, vs, hu, hs0, him⟩ := rv_eptr ht hx
    split at hp
    · rename_i hlen
      split at hp
      · rename_i v' hv'
        simp only [Option.some.injEq, Prod.mk.injEq] at hp
        obtain ⟨rfl, rfl⟩ := hp
        refine ⟨rfl, ?_⟩
        obtain ⟨hs, hl⟩ := RLs.of_RPs hs0
        have hs' := hs.take n
        have hl' := hs'.length
        have hcs : ∀ (j : Nat) v, (vs.take n)[j]? = some v → S.w.cell? ⟨b, off + j, none⟩ = some v := fun j v hj => (him.take n j v hj).1
        have hr := run_loadVar_cells (P := P) (w := S.w) ha (fun h => by rw [← hl', hlen]; exact hn h) hcs
        rcases mkAgg_ok hv' hs' (all_take hl _) with ⟨rfl, hrv⟩ | ⟨rfl, u, hu1, hrv⟩
        · exact ⟨_, by simp [execOp, ho, hu, Instr.loadAt, Instr.sureAddr, hr.1 rfl], hrv⟩
        · exact ⟨u, by simp [execOp, ho, hu, Instr.loadAt, Instr.sureAddr, hr.2 u rfl hu1], hrv⟩
      · cases hp
    · cases hp
  · cases hp

theorem oneCell_of_RL {S : St} {x : AV} {v : Value} (h : RL S x v) (hl : isLf x = true) : v.oneCell' = true := by
  cases x <;> first | cases hl | skip
  · obtain rfl : v = _ := h; rfl
  · obtain rfl : v = _ := h; rfl
  · obtain rfl : v = _ := h; rfl
  · obtain ⟨a, cap, rfl, _⟩ := (show RK S (.sl _ _) v from h).1.sl_parts; rfl
  · obtain ⟨_, b, _, rfl⟩ := (show RK S (.ptr _ _) v from h); rfl
  · obtain rfl : v = _ := h; rfl
  · obtain ⟨b, off, vs, rfl, _⟩ := (show RK S (.eptr _) v from h); rfl
  · obtain ⟨_, b, cap, _, rfl, _⟩ := (show RK S (.arr _ _ _) v from h); rfl
  · obtain ⟨vs, rfl, _⟩ := h; rfl
  · exact (show False from h).elim

theorem does_st {S : St} {o : Oper} {t : TypeId} {x y : Operand} {n : Nat} (ho : o.op = .store t x y) (hn : szOf P t = some n) (hG : Good S)
    {k base : Nat} {g : Bool} {v : AV} {H' : Heap} (hx : RV S (vf (opd x)) (ρ x)) (hy : RV S (vf (opd y)) (ρ y)) (hp : heapOp k g base vf S.H (.st n (opd x) (opd y)) = some (v, H')) :
    Does P k g base S ρ o none v H' := by
  simp only [heapOp] at hp
  split at hp
  · rename_i p off ys ht hc
    obtain ⟨⟨zs, hz⟩, b, hm, hu⟩ := rv_ptr ht hx
    rw [hz] at hp
    simp only at hp
    split at hp
    · rename_i hb
      simp only [Option.some.injEq, Prod.mk.injEq] at hp
      obtain ⟨rfl, rfl⟩ := hp
      obtain ⟨hrl, hlf⟩ := cellsOf_ok hc hy
      obtain ⟨vs, t', hheap, hfit, hst, hgo⟩ := store_ok k g hG hz hm off ys _ (by omega) hrl hlf hb.2.2
      refine ⟨_, .skip, ?_, rfl, hst, hgo, .inr ⟨rfl, rfl⟩, fun p' hp' _ => ⟨hp', ?_⟩⟩
      · have hl := hrl.length
        have h1 := run_storeCells_at P b off t' (ρ y).cells.toList 0 vs S.w hheap (by simpa using hfit) (fun u hu' => by
          obtain ⟨x', hx', hr'⟩ := hrl.cells u hu'
          exact oneCell_of_RL hr' (List.all_eq_true.1 hlf x' hx'))
        have hsz : (ρ y).cells.size = n := by rw [← Array.length_toList, ← hl]; exact hb.1
        simp only [Nat.add_zero] at h1
        simp [execOp, ho, hu, Instr.storeAt, Instr.sureAddr, storeVar, run_szOf hn, hsz, h1, St.turn]
      · exact turn_H_ne (by rintro rfl; rw [hm] at hp'; cases hp')
    · cases hp
  · cases hp

theorem does_new {S : St} {o : Oper} {k base : Nat} {g : Bool} {r : Nat} {ob0 : Ob} {xs : List AV} {vs : Array Value} {t : TypeId} {v : AV} {H' : Heap} (hG : Good S) (hk : k ≤ base + r) (hm : S.m (base + r) = .non)
    (hH : S.H[base + r]? = some ob0) (h0 : ob0 = .dead ∨ ob0 = .cells xs) (hs : All2 (RL S) xs vs.toList) (hl : xs.all isLf = true) {u : Value}
    (hrun : (execOp ρ o).run P S.w = .ok (.value u) (S.w.alloc (.cells vs t (0, 0))))
    (hv : ∀ S', IsCells S' (base + r) → S'.m (base + r) = .blk S.w.heap.size → RV S' v u) (hH' : H' = S.H.set (base + r) (.cells xs)) : Does P k g base S ρ o (some r) v H' := by
  obtain ⟨e, go⟩ := new_cells k g hG hk hm hH xs (by rcases h0 with h | h; exact .inl h; exact .inr ⟨xs, h, rfl⟩) vs t hs hl
  refine ⟨_, _, ?_, ?_, e, go, .inl ⟨u, rfl, hv _ ⟨xs, ?_⟩ give_m⟩, fun p hp hne => ?_⟩
  · exact hrun
  · rw [hH']; rfl
  · exact give_H (S := S.alloc vs t fun _ => True) hH
  · have hpr := hne r rfl
    exact ⟨(give_m_ne hpr).trans hp, give_H_ne (S := S.alloc vs t fun _ => True) hpr⟩

theorem does_al {S : St} {o : Oper} {t : TypeId} {z : List AV} {k base r : Nat} {g : Bool} (ho : o.op = .alloc t) (hz : zl P t = some z) (hG : Good S) (hk : k ≤ base + r) (hm : S.m (base + r) = .non)
    (hH : S.H[base + r]? = some (.cells z)) : Does P k g base S ρ o (some r) (.ptr (base + r) 0) S.H := by
  obtain ⟨zv, hzr, hzo⟩ := zl_ok hz
  refine does_new (u := .pointer (some ⟨S.w.heap.size, 0, none⟩)) (t := t) (vs := zv.cells) hG hk hm hH (.inr rfl) (hzo S).1 (hzo S).2 ?_ (fun S' hc hm' => ⟨hc, _, hm', rfl⟩) ?_
  · simp [execOp, ho, Instr.alloc, hzr, newVar, newRow]
  · apply List.ext_getElem?
    intro i
    by_cases hi : i = base + r
    · subst hi; rw [hH, List.getElem?_set_self (lt_of_some hH)]
    · rw [List.getElem?_set_ne (Ne.symm hi)]

theorem does_bx {S : St} {o : Oper} {t : TypeId} {x : Operand} {k base r : Nat} {g : Bool} {v : AV} {H' : Heap} (ho : o.op = .box t x) (hG : Good S) (hk : k ≤ base + r) (hm : S.m (base + r) = .non)
    (hH : S.H[base + r]? = some .dead) (hx : RV S (vf (opd x)) (ρ x)) (hp : heapOp k g base vf S.H (.bx r (opd x)) = some (v, H')) : Does P k g base S ρ o (some r) v H' := by
  simp only [heapOp] at hp
  split at hp
  · rename_i ys hc
    simp only [Option.some.injEq, Prod.mk.injEq] at hp
    obtain ⟨rfl, rfl⟩ := hp
    obtain ⟨hrl, hlf⟩ := cellsOf_ok hc hx
    refine does_new (u := .pointer (some ⟨S.w.heap.size, 0, none⟩)) (t := t) (vs := (ρ x).cells) hG hk hm hH (.inl rfl) hrl hlf ?_ (fun S' hc hm' => ⟨hc, _, hm', rfl⟩) rfl
    simp [execOp, ho, Instr.box, newVar, newRow]
  · cases hp
end
end Ab
/- Slice literals, conversions of bytes, make. -/
namespace Ab
open Go

theorem All2.of_RPs {w : World} {M : MutP} : ∀ {xs : List AV} {vs : List Value}, RPs w M xs vs → All2 (RP w M) xs vs
  | _, _, .nil => .nil
  | _, _, .cons _ _ _ _ h hs => .cons h (All2.of_RPs hs)
theorem RPs.of_All2 {w : World} {M : MutP} : ∀ {xs : List AV} {vs : List Value}, All2 (RP w M) xs vs → RPs w M xs vs
  | _, _, .nil => .nil
  | _, _, .cons h hs => .cons _ _ _ _ h (RPs.of_All2 hs)

theorem range_zero_cells (z : Array Value) : ∀ n, ((Array.range (n * z.size)).map fun i => z[i % z.size]!).toList = (List.replicate n z.toList).flatten := by
  intro n
  rw [Array.toList_map, Array.toList_range]
  induction n with
  | zero => simp
  | succ n ih =>
    rw [Nat.succ_mul, List.range_add, List.map_append, ih, List.replicate_succ', List.flatten_append]
    congr 1
    rw [List.map_map]
    simp only [List.flatten_cons, List.flatten_nil, List.append_nil]
    apply List.ext_getElem?
    intro i
    rw [List.getElem?_map]
    by_cases hi : i < z.size
    · rw [List.getElem?_range hi]
      simp only [Option.map_some, Function.comp_apply]
      rw [Nat.mul_comm, Nat.mul_add_mod, Nat.mod_eq_of_lt hi]
      rw [Array.getElem?_toList, Array.getElem?_eq_getElem hi, getElem!_pos z i hi]
    · rw [List.getElem?_eq_none (by simp; omega), List.getElem?_eq_none (by simp; omega)]
      rfl

theorem All2.flatten_replicate {α β : Type} {R : α → β → Prop} {xs : List α} {ys : List β} (h : All2 R xs ys) : ∀ n, All2 R (List.replicate n xs).flatten (List.replicate n ys).flatten
  | 0 => .nil
  | n + 1 => by rw [List.replicate_succ, List.replicate_succ, List.flatten_cons, List.flatten_cons]; exact h.append (h.flatten_replicate n)

section
variable {P : Program} {vf : Opd → AV} {ρ : Operand → Value}

theorem pubL_ok {S : St} {x y : AV} {v : Value} (h : pubL x = some y) (r : RL S x v) : RP S.w S.M y v := by
  cases x <;> cases h
  · obtain rfl : v = _ := r; exact .int _ _
  · obtain rfl : v = _ := r; exact .bool _
  · obtain rfl : v = _ := r; exact .str _
  · exact (show RK S (.sl _ _) v from r).1
theorem pubLs_ok {S : St} : ∀ {xs ys : List AV} {vs : List Value}, pubLs xs = some ys → All2 (RL S) xs vs → RPs S.w S.M ys vs
  | [], ys, vs, h, r => by cases h; cases r; exact .nil
  | x :: xs, ys, vs, h, r => by
    simp only [pubLs] at h
    split at h
    · rename_i y zs hy hz
      cases h
      cases r with
      | cons hx hs => exact .cons _ _ _ _ (pubL_ok hy hx) (pubLs_ok hz hs)
    · cases h
theorem pubLs_length : ∀ {xs ys : List AV}, pubLs xs = some ys → ys.length = xs.length
  | [], ys, h => by cases h; rfl
  | x :: xs, ys, h => by
    simp only [pubLs] at h
    split at h
    · rename_i y zs hy hz; cases h; simp [pubLs_length hz]
    · cases h
theorem pubL_lf {x y : AV} (h : pubL x = some y) : (∀ xs, y ≠ .agg xs) ∧ isLf y = true := by
  cases x <;> cases h <;> exact ⟨by simp, rfl⟩
theorem pub_ok {S : St} {x y : AV} {v : Value} (h : pub x = some y) (r : RV S x v) : RPs S.w S.M (leaves y) v.cells.toList := by
  unfold pub at h
  split at h
  · rename_i xs
    split at h
    · rename_i ys hy
      cases h
      obtain ⟨us, rfl, hs, _⟩ := rv_agg rfl r
      exact pubLs_ok hy hs
    · cases h
  · obtain ⟨hna, hlf⟩ := pubL_lf h
    have hl : leaves y = [y] := by cases y <;> first | rfl | exact absurd rfl (hna _)
    have hx : isLf x = true := by cases x <;> first | rfl | cases h
    have hr := pubL_ok h (RL.of_RV r hx)
    have h1 := oneCell_of_RL (RL.of_RP hr) (isLf_of_RP hr)
    have hc : v.cells = #[v] := by cases v <;> first | rfl | cases h1
    rw [hl, hc]
    exact .cons _ _ _ _ hr .nil

theorem flatMap_set {sz : Nat} : ∀ {xs : List AV} {i : Nat} {y : AV}, (∀ x ∈ xs, nleaves x = sz) → i < xs.length → nleaves y = sz →
    (xs.set i y).flatMap leaves = (xs.flatMap leaves).take (i * sz) ++ leaves y ++ (xs.flatMap leaves).drop (i * sz + (leaves y).length)
  | [], i, y, _, hi, _ => by simp at hi
  | x :: xs, 0, y, hx, _, hy => by
    have h1 : (leaves x).length = sz := by rw [leaves_length, hx x (by simp)]
    have h2 : (leaves y).length = sz := by rw [leaves_length, hy]
    simp only [List.set_cons_zero, List.flatMap_cons, Nat.zero_mul, List.take_zero, List.nil_append, Nat.zero_add]
    rw [h2, ← h1, List.drop_left]
  | x :: xs, i + 1, y, hx, hi, hy => by
    have h1 : (leaves x).length = sz := by rw [leaves_length, hx x (by simp)]
    have ih := flatMap_set (xs := xs) (i := i) (y := y) (fun z hz => hx z (by simp [hz])) (by simpa using hi) hy
    simp only [List.set_cons_succ, List.flatMap_cons, ih]
    rw [Nat.succ_mul, List.take_append, List.drop_append, h1]
    rw [List.take_of_length_le (l := leaves x) (by omega), List.drop_of_length_le (l := leaves x) (by omega)]
    simp only [List.append_assoc, List.nil_append]
    rw [show i * sz + sz - sz = i * sz by omega, show i * sz + sz + (leaves y).length - sz = i * sz + (leaves y).length by omega]

theorem fillElems_ok {S : St} {sz : Nat} : ∀ (parts : List (Nat × Operand)) (xs ys : List AV) (cells : Array Value), fillElems vf sz (parts.map fun p => (p.1, opd p.2)) xs = some ys →
    (∀ p ∈ parts, RV S (vf (opd p.2)) (ρ p.2)) → RPs S.w S.M (xs.flatMap leaves) cells.toList → (∀ x ∈ xs, nleaves x = sz) →
    ∃ cells', Instr.fill (fun i => some (i * sz, sz)) cells (parts.map fun p => (p.1, ρ p.2)) = some cells' ∧ RPs S.w S.M (ys.flatMap leaves) cells'.toList ∧ (∀ x ∈ ys, nleaves x = sz) ∧ ys.length = xs.length
  | [], xs, ys, cells, hf, _, hr, hsz => by cases hf; exact ⟨cells, rfl, hr, hsz, rfl⟩
  | (i, x) :: r, xs, ys, cells, hf, hv, hr, hsz => by
    simp only [List.map_cons, fillElems] at hf
    split at hf
    · rename_i y hy
      split at hf
      · rename_i hb
        have hp := pub_ok hy (hv (i, x) (by simp))
        have hpl := hp.length
        have hyl : (leaves y).length = sz := by rw [leaves_length]; exact hb.1
        simp only [Array.length_toList] at hpl
        have hrl := hr.length
        rw [flat_length hsz] at hrl
        have hcl : cells.toList.length = cells.size := Array.length_toList
        have hmul : (i + 1) * sz ≤ xs.length * sz := Nat.mul_le_mul_right sz hb.2
        rw [Nat.add_mul, Nat.one_mul] at hmul
        have hfo := foldl_set (i * sz) (ρ x).cells.toList 0 cells (by simp; omega)
        have hfo' : ((ρ x).cells.zipIdx.foldl (fun (cs : Array Value) (x : Value × Nat) => cs.setIfInBounds (i * sz + x.2) x.1) cells).toList =
            cells.toList.take (i * sz) ++ (ρ x).cells.toList ++ cells.toList.drop (i * sz + (ρ x).cells.toList.length) := by
          rw [← Array.foldl_toList, Array.toList_zipIdx]
          simpa using hfo
        have hsp := (All2.of_RPs hr).splice (i * sz) (All2.of_RPs hp)
        rw [← flatMap_set hsz hb.2 hb.1, ← hfo'] at hsp
        obtain ⟨cells', hc, h1, h2, h3⟩ := fillElems_ok r (xs.set i y) ys _ hf (fun p hp => hv p (by simp [hp])) (.of_All2 hsp) (fun z hz => by
          rcases List.mem_or_eq_of_mem_set hz with h | h
          · exact hsz z h
          · rw [h]; exact hb.1)
        refine ⟨cells', ?_, h1, h2, by rw [h3]; simp⟩
        simp only [List.map_cons, Instr.fill]
        have hng : (decide ((ρ x).cells.size ≠ sz) || decide (i * sz + (ρ x).cells.size > cells.size)) = false := by
          simp; omega
        rw [hng]
        exact hc
      · cases hf
    · cases hf

theorem step_imm (k : Nat) (g : Bool) {S : St} (hG : Good S) (cells : Array Value) (t : TypeId) : Step k g S (S.alloc cells t fun _ => False) ∧ Good (S.alloc cells t fun _ => False) :=
  ⟨step_alloc k g S cells t _, good_alloc hG cells t _⟩

theorem imm_new {S : St} {cells : Array Value} {t : TypeId} : Imm (S.alloc cells t fun _ => False).w (S.alloc cells t fun _ => False).M S.w.heap.size 0 cells.toList := by
  intro j v hj
  rw [Nat.zero_add]
  refine ⟨?_, ?_⟩
  · refine (cell_of_heap (vs := cells) (t := t) (fr := (0, 0)) heap_alloc_new).trans ?_
    rwa [Array.getElem?_toList] at hj
  · show ¬ (if S.w.heap.size = S.w.heap.size then False else _)
    simp

theorem does_bsl {S : St} {o : Oper} {t e : TypeId} {n sz : Nat} {parts : Array (Nat × Operand)} {z : List AV} {ze : AV} {agg : Bool} {z' : List AV} (ho : o.op = .buildSlice t n parts) (hu : P.underlying t = some (.slice e)) (hsz : szOf P e = some sz) (hz : zl P e = some z)
    (hzp : pubLs z = some z') (hze : leaves ze = z') (hc : ¬ (sz = 0 ∨ z.length ≠ sz ∨ n * sz > 2 ^ 24)) (hG : Good S) {k base : Nat} {g : Bool} {v : AV} (hv : ∀ p ∈ parts.toList, RV S (vf (opd p.2)) (ρ p.2))
    (hp : pureOp vf (.bsl sz ze n (parts.toList.map fun (i, x) => (i, opd x))) = some v) : agg = agg → Does P k g base S ρ o none v S.H := by
  intro _
  obtain ⟨zv, hzr, hzo⟩ := zl_ok hz
  simp only [pureOp] at hp
  split at hp
  · rename_i xs hxs
    cases hp
    have hzl := (hzo S).1.length
    have hzl2 : zv.cells.toList.length = zv.cells.size := Array.length_toList
    have hzn : nleaves ze = sz := by rw [← leaves_length, hze, pubLs_length hzp]; omega
    have hr0 : RPs S.w S.M ((List.replicate n ze).flatMap leaves) ((Array.range (n * sz)).map fun i => zv.cells[i % zv.cells.size]!).toList := by
      have h1 := range_zero_cells zv.cells n
      rw [show zv.cells.size = sz by omega] at h1 ⊢
      rw [h1]
      have h2 := (All2.of_RPs (pubLs_ok hzp (hzo S).1)).flatten_replicate n
      have h3 : (List.replicate n ze).flatMap leaves = (List.replicate n z').flatten := by
        rw [List.flatMap_def, List.map_replicate, hze]
      rw [h3]
      exact .of_All2 h2
    obtain ⟨cells', hc', hr, hxz, hxl⟩ := fillElems_ok parts.toList _ xs _ hxs hv hr0 (fun x hx => by rw [List.eq_of_mem_replicate hx]; exact hzn)
    obtain ⟨e1, g1⟩ := step_imm k g hG cells' e
    have hlen : xs.length = n := by rw [hxl]; simp
    refine ⟨S.alloc cells' e fun _ => False, .value (.slice (some ⟨S.w.heap.size, 0, none⟩) n n), ?_, rfl, e1, g1, .inl ⟨.slice (some ⟨S.w.heap.size, 0, none⟩) n n, rfl, ?_, ?_⟩, fun p hp _ => ⟨hp, rfl⟩⟩
    · have hcond : ¬ (n * sz > 16777216) := fun h => hc (.inr (.inr h))
      have hrn : (Instr.buildSlice t n (parts.map fun p => (p.1, ρ p.2))).run P S.w = .ok (.slice (some ⟨S.w.heap.size, 0, none⟩) n n) (S.w.alloc (.cells cells' e (0, 0))) := by
        by_cases hn0 : n * sz = 0
        · rw [hn0] at hc'
          simp [Array.range_zero'] at hc'
          simp [Instr.buildSlice, run_underlying hu, run_szOf hsz, hn0, Array.range_zero', hc', newRow]
        · simp [Instr.buildSlice, run_underlying hu, run_szOf hsz, hn0, hcond, hzr, hc', newRow]
      simp only [execOp, ho, Sem.run_bind]
      rw [hrn]
      rfl
    · rw [← hlen]
      refine RP.sl_mk (Nat.le_refl _) fun _ => ?_
      exact ⟨_, 0, sz, cells'.toList, rfl, hxz, hr.mono e1.wext, imm_new⟩
    · exact ⟨_, by rw [hlen]⟩
  · cases hp
end
end Ab
/- append: what the model's operation does in each of its ways, and how the state goes on. -/
namespace Ab
open Go

theorem growBy_le (m : Nat) : ∀ r c, c < m → Builtin.growBy m r c ≤ m + (m + 768) / 4
  | 0, c, h => by simp only [Builtin.growBy]; omega
  | r + 1, c, h => by
    simp only [Builtin.growBy]
    split
    · omega
    · by_cases h2 : c + (c + 768) / 4 < m
      · exact growBy_le m r _ h2
      · cases r with
        | zero => simp only [Builtin.growBy]; omega
        | succ r => simp only [Builtin.growBy]; rw [if_pos (by omega)]; omega
theorem nextslicecap_le {m c : Nat} (h : c < m) : Builtin.nextslicecap m c ≤ 2 * m + 2048 := by
  unfold Builtin.nextslicecap
  split
  · omega
  · split
    · omega
    · have := growBy_le m 4 c h; omega

section
variable {P : Program} {vf : Opd → AV} {ρ : Operand → Value}

/-- the second operand is a slice or a string -/
def NoInt (P : Program) (t : TypeId) : Prop := (∃ e, P.underlying t = some (.slice e)) ∨ P.underlying t = some .string
theorem NoInt.run {t : TypeId} (h : NoInt P t) (w : World) : ((do pure ((← underlying t) matches .int _)) : Sem Bool).run P w = .ok false w := by
  rcases h with ⟨e, h⟩ | h <;> simp [run_underlying h]

theorem run_append_fit {w w' : World} {sT xT e : TypeId} {i : TypeInfo} {base : Option Addr} {sLen sCap n : Nat} {x : Value} {new : List Value} (h0 : P.underlying sT = some (.slice e)) (hi : P.info? e = some i) (hx : NoInt P xT) (ty : TypeId) (hl : (Builtin.lenOf x).run P w = .ok n w)
    (hf : (Builtin.firstCells i.size n x).run P w = .ok new.toArray w) (hc : sLen + n ≤ sCap)
    (hst : match base with | some a => (storeCells (a.add (sLen * i.size)) new).run P w = .ok () w' | none => w' = w) :
    (Builtin.append_ #[sT, xT] ty #[.slice base sLen sCap, x]).run P w = .ok (.slice base (sLen + n) sCap) w' := by
  have hsz : (Go.sizeOf e).run P w = .ok i.size w := by simp [Go.sizeOf, typeInfo, hi]
  have hz := hx.run w
  simp only [Builtin.append_]
  simp only [List.getElem?_toArray, List.getElem?_cons_zero, List.getElem?_cons_succ, Sem.run_bind, run_underlying h0, Result.andThen_ok, hsz]
  rcases hx with ⟨e', hx⟩ | hx
  all_goals
    simp only [run_underlying hx, Result.andThen_ok, Sem.run_pure, Bool.false_eq_true, if_false, hl, hc, if_true, Sem.run_bind, Bool.not_false, hf]
    cases base with
    | none => simp only at hst; subst hst; simp
    | some a => simp only at hst; simp [hst]

theorem run_append_grow {w : World} {sT xT e : TypeId} {i : TypeInfo} {base : Option Addr} {sLen sCap n : Nat} {x : Value} {old new : List Value} {z : Value} (h0 : P.underlying sT = some (.slice e)) (hi : P.info? e = some i) (hx : NoInt P xT) (ty : TypeId) (hl : (Builtin.lenOf x).run P w = .ok n w)
    (hf : (Builtin.firstCells i.size n x).run P w.drew = .ok new.toArray w.drew) (ho : (Builtin.firstCells i.size sLen (.slice base sLen sCap)).run P w.drew = .ok old.toArray w.drew) (hz : i.zero = some z) (hb : i.bytes ≠ 0) (hc : ¬ sLen + n ≤ sCap)
    (hbd : 2 * ((sLen + n) * i.bytes) + 2048 * i.bytes ≤ 281474976710656) :
    ∃ cap, sLen + n ≤ cap ∧ (Builtin.append_ #[sT, xT] ty #[.slice base sLen sCap, x]).run P w =
      .ok (.slice (some ⟨w.heap.size, 0, none⟩) (sLen + n) cap) (w.drew.alloc (.cells (old ++ new ++ (Builtin.zeroCells z.cells (cap - (sLen + n))).toList).toArray e (0, 0))) := by
  have hsz : ∀ w, (Go.sizeOf e).run P w = .ok i.size w := fun w => by simp [Go.sizeOf, typeInfo, hi]
  have hti : ∀ w, (typeInfo e).run P w = .ok i w := fun w => by simp [typeInfo, hi]
  have hze : ∀ w, (zeroValue e).run P w = .ok z w := fun w => by simp [zeroValue, typeInfo, hi, hz]
  have hcap : ¬ (Builtin.nextslicecap (sLen + n) sCap * i.bytes > 281474976710656) := by
    have h1 := nextslicecap_le (m := sLen + n) (c := sCap) (by omega)
    have h2 := Nat.mul_le_mul_right i.bytes h1
    have h3 : (2 * (sLen + n) + 2048) * i.bytes = 2 * ((sLen + n) * i.bytes) + 2048 * i.bytes := by rw [Nat.add_mul, Nat.mul_assoc]
    omega
  refine ⟨sLen + n + w.tape w.drawn (.appendCap (sLen + n) sCap e) % (2 ^ 63 - (sLen + n)), by omega, ?_⟩
  simp only [Builtin.append_]
  simp only [List.getElem?_toArray, List.getElem?_cons_zero, List.getElem?_cons_succ, Sem.run_bind, run_underlying h0, Result.andThen_ok, hsz]
  rcases hx with ⟨e', hx⟩ | hx
  all_goals
    simp only [run_underlying hx, Result.andThen_ok, Sem.run_pure, Bool.false_eq_true, if_false, hl, hc, Sem.run_bind, Bool.not_false, if_true, hti, hb, or_self, and_false, Sem.run_ite]
    have e48 : (2 : Nat) ^ 48 = 281474976710656 := by decide
    simp only [e48, hcap, if_false, Sem.run_bind, run_choose, Question.forced, Bool.false_eq_true, Question.cut, Result.andThen_ok, World.drew_eq, hti, run_askRoom, ho, hf, hze, Builtin.zeroCells, newRow, run_newObj, World.alloc_eq, Sem.run_pure]
    congr 3
    simp
end
end Ab
/- append, string(bytes), make, literals that are written: as operations of the abstract machine. -/
namespace Ab
open Go

def St.drew (S : St) : St := { S with w := S.w.drew }
theorem step_drew (k : Nat) (g : Bool) (S : St) : Step k g S S.drew where
  wext := fun _ _ _ h k => ⟨h, k⟩
  cells := fun _ ys h => ⟨fun _ => rfl, ys, h, rfl⟩
  frs := fun _ _ n h => ⟨n, h, Nat.le_refl _, fun _ => rfl⟩
  size := Nat.le_refl _
  keep := fun _ _ _ => rfl
  owns := fun o _ h => .inl ⟨o, h⟩
  os := ⟨rfl, rfl, rfl⟩
  froz := fun _ => rfl
  muts := fun _ _ _ _ h => h
  len := Nat.le_refl _
  pend := fun _ _ h => ⟨h, rfl⟩
  low := fun _ _ _ ys h x hx => .inr ⟨ys, h, hx⟩
theorem good_drew {S : St} (h : Good S) : Good S.drew where
  objs := fun o => (h.objs o).of_step (step_drew 0 true S) rfl rfl (fun _ _ => rfl) fun _ _ _ h => h
  disj := h.disj
  there := h.there

section
variable {P : Program} {vf : Opd → AV} {ρ : Operand → Value}

theorem RPs.bytes {w : World} {M : MutP} : ∀ (b : List UInt8), RPs w M (b.map fun c => AV.int .u8 c.toNat) (b.map fun c => Value.int .u8 c.toNat)
  | [] => .nil
  | c :: b => .cons _ _ _ _ (.int _ _) (RPs.bytes b)

theorem pubLs_leaf : ∀ {xs ys : List AV}, pubLs xs = some ys → ∀ y ∈ ys, leaves y = [y]
  | [], ys, h => by cases h; simp
  | x :: xs, ys, h => by
    simp only [pubLs] at h
    split at h
    · rename_i y zs hy hz
      cases h
      intro y' hy'
      rcases List.mem_cons.1 hy' with rfl | h'
      · have := (pubL_lf hy).1
        cases y' <;> first | rfl | exact absurd rfl (this _)
      · exact pubLs_leaf hz y' h'
    · cases h
theorem flat_leaf : ∀ {ys : List AV}, (∀ y ∈ ys, leaves y = [y]) → ys.flatMap leaves = ys
  | [], _ => rfl
  | y :: ys, h => by rw [List.flatMap_cons, flat_leaf fun z hz => h z (by simp [hz]), h y (by simp)]; rfl

/-- what append and string(..) read -/
theorem elemsOf_ok {S : St} (hG : Good S) {sz : Nat} {v : AV} {u : Value} {ys : List AV} (h : elemsOf S.H sz v = some ys) (hr : RV S v u) :
    ∃ us, RPs S.w S.M (ys.flatMap leaves) us ∧ (∀ y ∈ ys, nleaves y = sz) ∧ (∀ w, (Builtin.lenOf u).run P w = .ok ys.length w) ∧
      (∀ w, w.heap = S.w.heap → (Builtin.firstCells sz ys.length u).run P w = .ok us.toArray w) ∧ ((∃ s, u = .string s) ∨ ∃ a cap, u = .slice a ys.length cap ∧ (ys ≠ [] → ∃ a', a = some a')) := by
  unfold elemsOf at h
  split at h
  · rename_i _ c xs
    split at h
    · rename_i hz
      cases h
      have hu := (rv_sl rfl hr).1
      obtain ⟨a, cap, rfl, hcap, hp⟩ := hu.sl_parts
      by_cases hx : ys = []
      · subst hx
        refine ⟨[], .nil, by simp, fun w => by simp [Builtin.lenOf], fun w _ => ?_, .inr ⟨a, cap, rfl, by simp⟩⟩
        cases a <;> simp [Builtin.firstCells, loadCells, loadCellsFrom]
      · obtain ⟨b, off, sz', vs, rfl, hall, hs, him⟩ := hp hx
        have : sz' = sz := by
          cases ys with
          | nil => exact absurd rfl hx
          | cons z zs => rw [← hall z (by simp)]; simpa [sizeOk] using hz
        subst this
        refine ⟨vs, hs, hall, fun w => by simp [Builtin.lenOf], fun w hw => ?_, .inr ⟨_, cap, rfl, fun _ => ⟨_, rfl⟩⟩⟩
        have hlen : vs.length = ys.length * sz' := by rw [← hs.length, flat_length hall]
        have := run_loadCells_list (P := P) w ⟨b, off, none⟩ vs (fun j v hj => by
          rw [Addr.add_lit]
          have h1 := (him j v hj).1
          unfold World.cell? at h1 ⊢
          rw [hw]; exact h1)
        simp only [Builtin.firstCells, ← hlen]
        exact this
    · cases h
  · rename_i b
    split at h
    · rename_i hz
      cases h
      subst hz
      obtain rfl := rv_str rfl hr
      refine ⟨b.map fun c => Value.int .u8 c.toNat, ?_, by simp [nleaves], fun w => by simp [Builtin.lenOf, bytes_size], fun w _ => ?_, .inl ⟨_, rfl⟩⟩
      · rw [flat_leaf (by simp [leaves])]
        exact .bytes b
      · simp [Builtin.firstCells, ByteArray.extract_mk]
    · cases h
  · rename_i o off len
    split at h
    · rename_i xs hxs
      split at h
      · rename_i hz
        subst hz
        split at h
        · rename_i ys' hy
          split at h
          · rename_i hlen
            cases h
            obtain ⟨_, b, cap, hm, rfl, hcap⟩ := rv_arr rfl hr
            have hobj := hG.objs o
            unfold ObjOk at hobj
            rw [hxs, hm] at hobj
            obtain ⟨vs, t', hb, hs, hl, _⟩ := hobj
            have hs' := (hs.drop off).take len
            have hrp := pubLs_ok hy hs'
            have hlf := pubLs_leaf hy
            have hul := hrp.length
            refine ⟨(vs.toList.drop off).take len, by rw [flat_leaf hlf]; exact hrp, fun y hy' => by rw [← leaves_length, hlf y hy']; rfl, fun w => by simp [Builtin.lenOf, hlen], fun w hw => ?_,
              .inr ⟨_, cap, by rw [hlen], fun _ => ⟨_, rfl⟩⟩⟩
            have := run_loadCells_list (P := P) w ⟨b, off, none⟩ ((vs.toList.drop off).take len) (fun j v hj => by
              rw [Addr.add_lit]
              have h1 : S.w.cell? ⟨b, off + j, none⟩ = some v := by
                rw [cell_of_heap hb]
                rw [List.getElem?_take] at hj
                split at hj
                · rw [List.getElem?_drop, Array.getElem?_toList] at hj; exact hj
                · cases hj
              unfold World.cell? at h1 ⊢
              rw [hw]; exact h1)
            rw [← hul, hlen] at this
            simp only [Builtin.firstCells, Nat.mul_one, hlen]
            exact this
          · cases h
        · cases h
      · cases h
    · cases h
  · cases h
theorem zeroCells_size (z : Array Value) (n : Nat) : (Builtin.zeroCells z n).toList.length = n * z.size := by simp [Builtin.zeroCells]

theorem does_app {S : St} {o : Oper} {c : Call} {x y : Operand} {t u e : TypeId} {i : TypeInfo} {zs : List AV} {k base r : Nat} {g : Bool} {v : AV} {H' : Heap} (ho : o.op = .call c) (hc : c.callee = .builtin .append) (hat : c.argTypes.toList = [t, u])
    (ha : c.args.toList = [x, y]) (h0 : P.underlying t = some (.slice e)) (hni : NoInt P u) (hi : P.info? e = some i) (hzl : zl P e = some zs) (hs0 : i.size ≠ 0) (hb0 : i.bytes ≠ 0) (hzs : zs.length = i.size) (hG : Good S)
    (hk : k ≤ base + r) (hm : S.m (base + r) = .non) (hH : S.H[base + r]? = some .dead) (hx : RV S (vf (opd x)) (ρ x)) (hy : RV S (vf (opd y)) (ρ y))
    (hp : heapOp k g base vf S.H (.app r i.size i.bytes (opd x) (opd y)) = some (v, H')) : Does P k g base S ρ o (some r) v H' := by
  have ha' : c.args = #[x, y] := by apply Array.ext'; simpa using ha
  have hat' : c.argTypes = #[t, u] := by apply Array.ext'; simpa using hat
  have hexec : ∀ res, (Builtin.append_ #[t, u] o.type #[ρ x, ρ y]).run P S.w = res → (execOp ρ o).run P S.w = res.andThen fun v w => .ok (.value v) w := by
    intro res hr
    simp [execOp, ho, resolve, hc, ha', hat', invoke, builtin, hr]
  obtain ⟨z, hzi, hzz⟩ : ∃ z, i.zero = some z ∧ z.cells.size = i.size := by
    unfold zl at hzl
    rw [hi] at hzl
    simp only at hzl
    split at hzl
    · rename_i z hz
      have := (cvs_ok (S := S) hzl).1.length
      exact ⟨z, hz, by rw [← hzs, this, Array.length_toList]⟩
    · cases hzl
  simp only [heapOp] at hp
  split at hp
  · rename_i ys hys
    obtain ⟨us, hus, hally, hlen, hfirst, hform⟩ := elemsOf_ok (P := P) hG hys hy
    split at hp
    · rename_i cp xs hxs
      split at hp
      · rename_i hcond
        obtain ⟨hsz, hbd⟩ := hcond
        have hr := rv_sl hxs hx
        obtain ⟨a, cap, hux, hcap, hpart⟩ := hr.1.sl_parts
        rw [hux] at hexec
        have hallx : ∀ z ∈ xs, nleaves z = i.size := by
          intro z hz
          obtain ⟨b, off, sz', vs, _, hall, _⟩ := hpart (by rintro rfl; simp at hz)
          cases xs with
          | nil => simp at hz
          | cons w ws =>
            rw [hall z hz, ← hall w (by simp)]; simpa [sizeOk] using hsz
        have hposs : 0 < i.size := by omega
        have hold : ∃ old, RPs S.w S.M (xs.flatMap leaves) old ∧ ∀ w, w.heap = S.w.heap → (Builtin.firstCells i.size xs.length (ρ x)).run P w = .ok old.toArray w := by
          obtain ⟨old, h1, _, _, h2, _⟩ := elemsOf_ok (P := P) hG (sz := i.size) (v := .sl cp xs) (ys := xs) (by simp [elemsOf, hsz]) (by rw [← hxs]; exact hx)
          exact ⟨old, h1, h2⟩
        obtain ⟨old, holdr, holdf⟩ := hold
        -- the grown way, for both caps
        have grow : ∀ (o0 : Nat), ((∃ n0, S.H[o0]? = some (.fr i.size n0) ∧ n0 = xs.length) ∨ (k ≤ o0 ∧ S.m o0 = .non ∧ S.H[o0]? = some .dead)) → (o0 ≠ base + r → S.m o0 ≠ .non) → ys ≠ [] → ¬ xs.length + ys.length ≤ cap →
            v = .sl (.tok o0) (xs ++ ys) → H' = S.H.set o0 (.fr i.size (xs.length + ys.length)) → Does P k g base S ρ o (some r) v H' := by
          intro o0 ho0 hne0 hne hcap' hv hH'
          obtain ⟨ncap, hncap, hrun⟩ := run_append_grow (P := P) (w := S.w) (base := a) (sLen := xs.length) (sCap := cap) (x := ρ y) (old := old) (new := us) (z := z) h0 hi hni o.type (hlen S.w)
            (hfirst _ rfl) (by have := holdf S.w.drew rfl; rwa [hux] at this) hzi hb0 hcap' hbd
          have hrest : (xs.length + ys.length) * i.size + (Builtin.zeroCells z.cells (ncap - (xs.length + ys.length))).toList.length = ncap * i.size := by
            rw [zeroCells_size, hzz, ← Nat.add_mul]
            congr 1; omega
          have hko : (∃ n0, S.drew.H[o0]? = some (.fr i.size n0) ∧ n0 = xs.length) ∨ (k ≤ o0 ∧ S.drew.m o0 = .non ∧ S.drew.H[o0]? = some .dead) := ho0
          obtain ⟨S', hS', hst, hgo, hrp⟩ := app_out k g (good_drew hG) hposs hko xs ys rfl old us _ hallx hally (holdr.mono (step_drew k g S).wext) (hus.mono (step_drew k g S).wext) hncap hne hrest e
          refine ⟨S', .value (.slice (some ⟨S.w.heap.size, 0, none⟩) (xs.length + ys.length) ncap), ?_, ?_, (step_drew k g S).trans hst, hgo, .inl ⟨_, rfl, ?_⟩, fun p hp hpr => ?_⟩
          · rw [hexec _ hrun, hS']; rfl
          · rw [hS', hH']; rfl
          · rw [hv]
            refine ⟨hrp, i.size, xs.length + ys.length, ?_, by simp, fun _ => ⟨_, ncap, ?_, rfl⟩⟩
            · rw [hS']
              rcases ho0 with ⟨n0, h, _⟩ | ⟨_, _, h⟩ <;> exact give_H (S := S.drew.alloc _ e _) h
            · rw [hS']; exact give_m
          · have hpo : p ≠ o0 := by
              rintro rfl
              by_cases h : p = base + r
              · exact hpr r rfl h
              · exact hne0 h hp
            rw [hS']
            exact ⟨(give_m_ne hpo).trans hp, give_H_ne (S := S.drew.alloc _ e _) hpo⟩
        cases cp with
        | none => cases hp
        | full =>
          simp only [Option.some.injEq, Prod.mk.injEq] at hp
          obtain ⟨hv, hH'⟩ := hp
          obtain ⟨a', ha'⟩ := hr.2
          rw [hux] at ha'
          simp only [Value.slice.injEq] at ha'
          obtain ⟨rfl, -, rfl⟩ := ha'
          by_cases hne : ys = []
          · subst hne
            obtain ⟨e1, g1⟩ := app_none k g hG (sz := i.size) (n := xs.length) hposs hk hm hH a
            have hnil : us = [] := by cases hus; rfl
            have hrun := run_append_fit (P := P) (w := S.w) (w' := S.w) (base := a) (sLen := xs.length) (sCap := xs.length) (n := 0) (x := ρ y) (new := []) h0 hi hni o.type (by simpa using hlen S.w)
              (by have := hfirst S.w rfl; rw [hnil] at this; simpa using this) (by omega) (by cases a <;> simp [storeCells])
            refine ⟨S.give (base + r) (.fr i.size xs.length) (.hdr a xs.length), .value (.slice a xs.length xs.length), ?_, ?_, e1, g1, .inl ⟨_, rfl, ?_⟩, fun p hp hpr => ?_⟩
            · rw [hexec _ hrun]; rfl
            · rw [← hH']; simp [St.give]
            · rw [← hv]
              refine ⟨?_, i.size, xs.length, give_H hH, by simp, fun _ => ⟨a, xs.length, give_m, rfl⟩⟩
              have := hr.1.mono e1.wext
              rw [hux] at this
              simpa using this
            · exact ⟨(give_m_ne (hpr r rfl)).trans hp, give_H_ne (hpr r rfl)⟩
          · have hyl : 0 < ys.length := List.length_pos_iff.2 hne
            exact grow (base + r) (.inr ⟨hk, hm, hH⟩) (fun h => absurd rfl h) hne (by omega) hv.symm hH'.symm
        | tok o0 =>
          simp only at hp
          split at hp
          · rename_i sz' n' hfr
            split at hp
            · rename_i hcnd
              obtain ⟨rfl, rfl, _⟩ := hcnd
              simp only [Option.some.injEq, Prod.mk.injEq] at hp
              obtain ⟨hv, hH'⟩ := hp
              obtain ⟨sz2, n2, hfr2, _, hhdr⟩ := hr.2
              rw [hfr] at hfr2
              simp only [Option.some.injEq, Ob.fr.injEq] at hfr2
              obtain ⟨-, rfl⟩ := hfr2
              obtain ⟨a', cap', hm0, hu0⟩ := hhdr rfl
              rw [hux] at hu0
              simp only [Value.slice.injEq, true_and] at hu0
              obtain ⟨rfl, rfl⟩ := hu0
              have hne0 : o0 ≠ base + r → S.m o0 ≠ .non := fun _ h => by rw [hm0] at h; cases h
              by_cases hne : ys = []
              · subst hne
                have hnil : us = [] := by cases hus; rfl
                have hrun := run_append_fit (P := P) (w := S.w) (w' := S.w) (base := a) (sLen := xs.length) (sCap := cap) (n := 0) (x := ρ y) (new := []) h0 hi hni o.type (by simpa using hlen S.w)
                  (by have := hfirst S.w rfl; rw [hnil] at this; simpa using this) (by omega) (by cases a <;> simp [storeCells])
                refine ⟨S, .value (.slice a xs.length cap), ?_, ?_, .refl _ _ _, hG, .inl ⟨_, rfl, ?_⟩, fun p hp _ => ⟨hp, rfl⟩⟩
                · rw [hexec _ hrun]; rfl
                · rw [← hH']
                  apply List.ext_getElem?
                  intro j
                  by_cases hj : j = o0
                  · subst hj; rw [List.getElem?_set_self (lt_of_some hfr), hfr]; simp
                  · rw [List.getElem?_set_ne (Ne.symm hj)]
                · rw [← hv]
                  refine ⟨?_, i.size, xs.length, hfr, by simp, fun _ => ⟨a, cap, hm0, rfl⟩⟩
                  have := hr.1
                  rw [hux] at this
                  simpa using this
              · by_cases hfit : xs.length + ys.length ≤ cap
                · have hyl : 0 < ys.length := List.length_pos_iff.2 hne
                  have hob := hG.objs o0
                  unfold ObjOk at hob
                  rw [hfr, hm0] at hob
                  obtain ⟨b, off, rfl, _⟩ := hob.2.2 (by omega)
                  obtain ⟨vs, t', hheap, hfits, S', hS', hst, hgo, hrp⟩ := app_in k g hG hfr hm0 xs ys rfl us hallx hally (by have := hr.1; rwa [hux] at this) hus hfit hne
                  have hone : ∀ v ∈ us, v.oneCell' = true := by
                    intro v hv'
                    obtain ⟨x', _, hr'⟩ := (All2.of_RPs hus).cells v hv'
                    exact oneCell_of_RL (RL.of_RP hr') (isLf_of_RP hr')
                  have hstore := run_storeCells_at P b (off + xs.length * i.size) t' us 0 vs S.w hheap (by simpa using hfits) hone
                  simp only [Nat.add_zero] at hstore
                  have hrun := run_append_fit (P := P) (w := S.w) (w' := S'.w) (base := some ⟨b, off, none⟩) (sLen := xs.length) (sCap := cap) (n := ys.length) (x := ρ y) (new := us) h0 hi hni o.type (hlen S.w)
                    (hfirst S.w rfl) hfit (by simp only [Addr.add_lit]; rw [hstore, hS']; rfl)
                  refine ⟨S', .value (.slice (some ⟨b, off, none⟩) (xs.length + ys.length) cap), ?_, ?_, hst, hgo, .inl ⟨_, rfl, ?_⟩, fun p hp _ => ?_⟩
                  · rw [hexec _ hrun]; rfl
                  · rw [← hH', hS']; rfl
                  · rw [← hv]
                    refine ⟨hrp, i.size, xs.length + ys.length, ?_, by simp, fun _ => ⟨_, cap, ?_, rfl⟩⟩
                    · rw [hS']; exact turn_H hfr
                    · rw [hS']; exact hm0
                  · have : p ≠ o0 := by rintro rfl; rw [hm0] at hp; cases hp
                    rw [hS']
                    exact ⟨hp, turn_H_ne this⟩
                · exact grow o0 (.inl ⟨_, hfr, rfl⟩) hne0 hne hfit hv.symm hH'.symm
            · cases hp
          · cases hp
      · cases hp
    · cases hp
  · cases hp

theorem bytesOf_ok {w : World} {M : MutP} : ∀ {xs : List AV} {us : List Value} {b : List UInt8}, bytesOf xs = some b → RPs w M (xs.flatMap leaves) us →
    ∃ ns : List Int, us = ns.map (Value.int .u8) ∧ b = ns.map fun n => UInt8.ofNat n.toNat
  | [], us, b, h, r => by cases h; cases r; exact ⟨[], rfl, rfl⟩
  | x :: xs, us, b, h, r => by
    unfold bytesOf at h
    split at h
    · rename_i heq; cases heq
    · rename_i n r' heq
      cases heq
      split at h
      · rename_i bs hb
        cases h
        simp only [List.flatMap_cons, leaves, List.singleton_append] at r
        cases r with
        | cons _ v _ vs hx hs =>
          cases hx
          obtain ⟨ns, rfl, rfl⟩ := bytesOf_ok hb hs
          exact ⟨n :: ns, rfl, rfl⟩
      · cases h
    · cases h

theorem push_bytes : ∀ (ns : List Int) (s : ByteArray), ns.foldl (fun r n => r.push (UInt8.ofNat n.toNat)) s = ⟨(s.data.toList ++ ns.map fun n => UInt8.ofNat n.toNat).toArray⟩
  | [], s => by simp
  | n :: ns, s => by
    rw [List.foldl_cons, push_bytes ns]
    congr 1
    simp [ByteArray.push]

theorem says_b2s {S : St} {o : Oper} {t d e : TypeId} {x : Operand} (ho : o.op = .convert t d x) (h1 : P.underlying t = some (.slice e)) (h2 : P.underlying e = some (.int .u8)) (h3 : P.underlying d = some .string) (hG : Good S)
    {k base : Nat} {g : Bool} {v : AV} {H' : Heap} (hx : RV S (vf (opd x)) (ρ x)) (hp : heapOp k g base vf S.H (.b2s (opd x)) = some (v, H')) : H' = S.H ∧ Says P S ρ o v := by
  simp only [heapOp] at hp
  split at hp
  · cases hp
  · rename_i hns
    split at hp
    · rename_i ys hys
      split at hp
      · rename_i b hb
        simp only [Option.some.injEq, Prod.mk.injEq] at hp
        obtain ⟨rfl, rfl⟩ := hp
        refine ⟨rfl, .string ⟨b.toArray⟩, ?_, rfl⟩
        obtain ⟨us, hus, hall, hlen, hfirst, hform⟩ := elemsOf_ok (P := P) hG hys hx
        obtain ⟨ns, rfl, rfl⟩ := bytesOf_ok hb hus
        rcases hform with ⟨s, hs⟩ | ⟨a, cap, hu, ha⟩
        · exfalso
          unfold elemsOf at hys
          split at hys
          · rename_i c xs heq
            rw [heq] at hx
            obtain ⟨a, cap, hu, _⟩ := (rv_sl rfl hx).1.sl_parts
            rw [hs] at hu; cases hu
          · rename_i b heq
            exact hns b heq
          · rename_i p off len heq
            rw [heq] at hx
            obtain ⟨_, b, cap, _, hu, _⟩ := rv_arr rfl hx
            rw [hs] at hu; cases hu
          · cases hys
        · have hc := run_convert_bytes_string (P := P) S.w t d e a ys.length cap h1 h2 h3
          have hr : (Conv.bytesToString (.slice a ys.length cap)).run P S.w = .ok (.string ⟨(ns.map fun n => UInt8.ofNat n.toNat).toArray⟩) S.w := by
            have hf := hfirst S.w rfl
            rw [hu] at hf
            cases a with
            | none =>
              have hye : ys = [] := by
                by_cases h : ys = []
                · exact h
                · obtain ⟨a', h'⟩ := ha h; cases h'
              subst hye
              have : ns = [] := by
                have h1 := hus.length
                simp at h1
                exact List.length_eq_zero_iff.1 h1.symm
              subst this
              simp [Conv.bytesToString]
              rfl
            | some a =>
              simp only [Builtin.firstCells, Nat.mul_one] at hf
              rw [run_bytesToString S.w a ys.length cap ns hf, push_bytes]
              rfl
          simp [execOp, ho, hu, hc, hr]
      · cases hp
    · cases hp

/-- make([]T, n) -/
theorem does_mks {S : St} {o : Oper} {t e : TypeId} {l c : Operand} {sz : Nat} {i : TypeInfo} {z : List AV} {k base r : Nat} {g : Bool} {v : AV} {H' : Heap} (ho : o.op = .makeSlice t l c) (h1 : P.underlying t = some (.slice e)) (hsz : szOf P e = some sz)
    (hz : zl P e = some z) (hi : P.info? e = some i) (hG : Good S) (hk : k ≤ base + r) (hm : S.m (base + r) = .non) (hH : S.H[base + r]? = some .dead) (hl : RV S (vf (opd l)) (ρ l)) (hc : RV S (vf (opd c)) (ρ c))
    (hp : heapOp k g base vf S.H (.mks r sz i.bytes z (opd l) (opd c)) = some (v, H')) : Does P k g base S ρ o (some r) v H' := by
  simp only [heapOp] at hp
  split at hp
  · rename_i k1 a k2 b hla hcb
    split at hp
    · rename_i hcond
      obtain ⟨rfl, h0, hb1, hb2, hs1, hs2⟩ := hcond
      simp only [Option.some.injEq, Prod.mk.injEq] at hp
      obtain ⟨rfl, rfl⟩ := hp
      have hlu := rv_int hla hl
      have hcu := rv_int hcb hc
      obtain ⟨zv, hzr, hzo⟩ := zl_ok hz
      have hzl := (hzo S).1.length
      have hzl2 : zv.cells.toList.length = zv.cells.size := Array.length_toList
      have hzsz : zv.cells.size = sz := by omega
      have hcells := range_zero_cells zv.cells a.toNat
      have hall := (hzo S).1.flatten_replicate a.toNat
      rw [← hcells] at hall
      have hlf : (List.replicate a.toNat z).flatten.all isLf = true := by
        refine List.all_eq_true.2 fun x hx => ?_
        obtain ⟨l, hl, hx⟩ := List.mem_flatten.1 hx
        rw [List.eq_of_mem_replicate hl] at hx
        exact List.all_eq_true.1 (hzo S).2 x hx
      have hw : IntKind.i64.wrap a = a := by rw [IntKind.wrap_i64]; omega
      have hti : ∀ w, (typeInfo e).run P w = .ok i w := fun w => by simp [typeInfo, hi]
      refine does_new (u := .slice (some ⟨S.w.heap.size, 0, none⟩) a.toNat a.toNat) (t := e) hG hk hm hH (.inl rfl) hall hlf ?_ (fun S' hc hm' => ⟨hc, _, _, hm', rfl, Nat.le_refl _⟩) rfl
      have e48 : (2 : Int) ^ 48 = 281474976710656 := by decide
      have hbytes : ¬ ((i.bytes : Int) * a > 281474976710656) := by rw [Int.mul_comm]; omega
      by_cases hn : a.toNat * zv.cells.size = 0
      · have ha0 : a.toNat = 0 := by
          rcases Nat.mul_eq_zero.1 hn with h | h
          · exact h
          · omega
        have ha00 : a = 0 := by omega
        subst ha00
        simp [execOp, ho, hlu, hcu, Instr.makeSlice, run_underlying h1, asInt, asIntOf, hti, hw, run_szOf hsz, newRow, Array.range_zero', e48]
      · have hlt : ¬ a < 0 := by omega
        rw [hzsz] at hn ⊢
        simp [execOp, ho, hlu, hcu, Instr.makeSlice, run_underlying h1, asInt, asIntOf, hti, hw, run_szOf hsz, newRow, hn, hzr, hlt, hbytes, e48, hzsz]
    · cases hp
  · cases hp

theorem does_bsr {S : St} {o : Oper} {t e : TypeId} {n sz : Nat} {parts : Array (Nat × Operand)} {z : List AV} {ps : List (Nat × Nat × Opd)} {k base r : Nat} {g : Bool} {v : AV} {H' : Heap} (ho : o.op = .buildSlice t n parts) (hu : P.underlying t = some (.slice e)) (hsz : szOf P e = some sz)
    (hz : zl P e = some z) (hc : ¬ (sz = 0 ∨ z.length ≠ sz ∨ n * sz > 2 ^ 24)) (hps : partsOf (fun i => some (i * sz, sz)) parts.toList = some ps) (hG : Good S) (hk : k ≤ base + r) (hm : S.m (base + r) = .non) (hH : S.H[base + r]? = some .dead)
    (hv : ∀ p ∈ parts.toList, RV S (vf (opd p.2)) (ρ p.2)) (hp : heapOp k g base vf S.H (.bsr r n (List.replicate n z).flatten ps) = some (v, H')) : Does P k g base S ρ o (some r) v H' := by
  simp only [heapOp] at hp
  split at hp
  · rename_i xs hxs
    simp only [Option.some.injEq, Prod.mk.injEq] at hp
    obtain ⟨rfl, rfl⟩ := hp
    obtain ⟨zv, hzr, hzo⟩ := zl_ok hz
    have hzl := (hzo S).1.length
    have hzl2 : zv.cells.toList.length = zv.cells.size := Array.length_toList
    have hzsz : zv.cells.size = sz := by omega
    have hcells := range_zero_cells zv.cells n
    rw [hzsz] at hcells
    have hall := (hzo S).1.flatten_replicate n
    rw [← hcells] at hall
    have hlf : (List.replicate n z).flatten.all isLf = true := by
      refine List.all_eq_true.2 fun x hx => ?_
      obtain ⟨l, hl, hx⟩ := List.mem_flatten.1 hx
      rw [List.eq_of_mem_replicate hl] at hx
      exact List.all_eq_true.1 (hzo S).2 x hx
    obtain ⟨cells', hc', h1, h2, _⟩ := fill_ok parts.toList ps _ xs _ hps hxs hv hall hlf
    refine does_new (u := .slice (some ⟨S.w.heap.size, 0, none⟩) n n) (t := e) hG hk hm hH (.inl rfl) h1 h2 ?_ (fun S' hc hm' => ⟨hc, _, _, hm', rfl, Nat.le_refl _⟩) rfl
    have hcond : ¬ (n * sz > 16777216) := fun h => hc (.inr (.inr h))
    have hrn : (Instr.buildSlice t n (parts.map fun p => (p.1, ρ p.2))).run P S.w = .ok (.slice (some ⟨S.w.heap.size, 0, none⟩) n n) (S.w.alloc (.cells cells' e (0, 0))) := by
      by_cases hn0 : n * sz = 0
      · rw [hn0] at hc'
        simp [Array.range_zero'] at hc'
        simp [Instr.buildSlice, run_underlying hu, run_szOf hsz, hn0, Array.range_zero', hc', newRow]
      · simp [Instr.buildSlice, run_underlying hu, run_szOf hsz, hn0, hcond, hzr, hc', newRow, hzsz]
    simp only [execOp, ho, Sem.run_bind]
    rw [hrn]
    rfl
  · cases hp
end
end Ab
/- Every operation that is no call: what the abstract machine says of it, the model does. -/
namespace Ab
open Go

section
variable {P : Program} {vf : Opd → AV} {ρ : Operand → Value}

theorem pure_heap {k : Nat} {g : Bool} {base : Nat} {H : Heap} {ao : AOp} {v : AV} {H' : Heap} (h : (match pureOp vf ao with | some v => some (v, H) | none => none) = some (v, H')) : pureOp vf ao = some v ∧ H' = H ∧ k = k ∧ g = g ∧ base = base := by
  split at h
  · rename_i v' hv; cases h; exact ⟨hv, rfl, rfl, rfl, rfl⟩
  · cases h

theorem op_does {S : St} {o : Oper} {ao : AOp} {k base r : Nat} {g : Bool} {mt : Bool} {v : AV} {H' : Heap} (hs : opS P r mt o.op = some ao) (hcall : ao.isCall = false) (hh : heapOp k g base vf S.H ao = some (v, H')) (hG : Good S)
    (hv : ∀ x ∈ o.op.operands.toList, RV S (vf (opd x)) (ρ x)) (hr : ∀ ob, resv ao = some ob → k ≤ base + r ∧ S.m (base + r) = .non ∧ S.H[base + r]? = some ob) : Does P k g base S ρ o (rkOf ao) v H' := by
  generalize hop : o.op = op at hs hv
  cases op with
  | move x =>
    simp only [opS, Option.some.injEq] at hs; subst hs
    simp only [heapOp] at hh
    obtain ⟨hp, rfl, -, -, -⟩ := pure_heap (k := k) (g := g) (base := base) (vf := vf) (ao := .mv (opd x)) (v := v) (H := S.H) hh
    simp only [pureOp, Option.some.injEq] at hp; subst hp
    exact (says_mv (.inl hop) (hv x (by simp [Op.operands]))).does hG _
  | assign x =>
    simp only [opS, Option.some.injEq] at hs; subst hs
    simp only [heapOp] at hh
    obtain ⟨hp, rfl, -, -, -⟩ := pure_heap (k := k) (g := g) (base := base) (vf := vf) (ao := .mv (opd x)) (v := v) (H := S.H) hh
    simp only [pureOp, Option.some.injEq] at hp; subst hp
    exact (says_mv (.inr hop) (hv x (by simp [Op.operands]))).does hG _
  | pick c a b =>
    simp only [opS, Option.some.injEq] at hs; subst hs
    simp only [heapOp] at hh
    obtain ⟨hp, rfl, -, -, -⟩ := pure_heap (k := k) (g := g) (base := base) hh
    exact (says_pick hop (hv c (by simp [Op.operands])) (hv a (by simp [Op.operands])) (hv b (by simp [Op.operands])) hp).does hG _
  | alloc t =>
    simp only [opS] at hs
    split at hs
    · rename_i z hz
      cases hs
      simp only [heapOp, Option.some.injEq, Prod.mk.injEq] at hh
      obtain ⟨rfl, rfl⟩ := hh
      obtain ⟨h1, h2, h3⟩ := hr _ rfl
      exact does_al hop hz hG h1 h2 h3
    · cases hs
  | box t x =>
    simp only [opS, Option.some.injEq] at hs; subst hs
    obtain ⟨h1, h2, h3⟩ := hr _ rfl
    exact does_bx hop hG h1 h2 h3 (hv x (by simp [Op.operands])) hh
  | build t parts =>
    simp only [opS] at hs
    have hv' : ∀ p ∈ parts.toList, RV S (vf (opd p.2)) (ρ p.2) := fun p hp => hv p.2 (by simp only [Op.operands, List.mem_map]; exact ⟨p, hp, rfl⟩)
    split at hs
    · rename_i fields z hu hz
      split at hs
      · rename_i pl hpl
        split at hs
        · rename_i ps hps
          cases hs
          simp only [heapOp] at hh
          obtain ⟨hp, rfl, -, -, -⟩ := pure_heap (k := k) (g := g) (base := base) hh
          exact (says_bld hop hz hv' (.inl ⟨fields, pl, hu, hpl, hps⟩) hp).does hG _
        · cases hs
      · cases hs
    · rename_i n e z hu hz
      split at hs
      · rename_i n' hn
        split at hs
        · rename_i ps hps
          cases hs
          simp only [heapOp] at hh
          obtain ⟨hp, rfl, -, -, -⟩ := pure_heap (k := k) (g := g) (base := base) hh
          exact (says_bld hop hz hv' (.inr ⟨n, e, n', hu, hn, hps⟩) hp).does hG _
        · cases hs
      · cases hs
    · cases hs
  | buildSlice t len parts =>
    simp only [opS] at hs
    have hv' : ∀ p ∈ parts.toList, RV S (vf (opd p.2)) (ρ p.2) := fun p hp => hv p.2 (by simp only [Op.operands, List.mem_map]; exact ⟨p, hp, rfl⟩)
    split at hs
    · rename_i e hu
      split at hs
      · rename_i sz z agg hsz hz hag
        split at hs
        · cases hs
        · rename_i hc
          split at hs
          · split at hs
            · rename_i ps hps
              cases hs
              obtain ⟨h1, h2, h3⟩ := hr _ rfl
              exact does_bsr hop hu hsz hz hc hps hG h1 h2 h3 hv' hh
            · cases hs
          · split at hs
            · rename_i z' hz'
              split at hs
              · cases hs
                simp only [heapOp] at hh
                obtain ⟨hp, rfl, -, -, -⟩ := pure_heap (k := k) (g := g) (base := base) hh
                exact does_bsl (agg := true) hop hu hsz hz hz' rfl hc hG hv' hp rfl
              · split at hs
                · rename_i x
                  cases hs
                  simp only [heapOp] at hh
                  obtain ⟨hp, rfl, -, -, -⟩ := pure_heap (k := k) (g := g) (base := base) hh
                  have hl : leaves x = [x] := pubLs_leaf hz' x (by simp)
                  exact does_bsl (agg := true) hop hu hsz hz hz' hl hc hG hv' hp rfl
                · cases hs
            · cases hs
      · cases hs
    · cases hs
  | load t x =>
    simp only [opS] at hs
    have hx := hv x (by simp [Op.operands])
    split at hs
    · rename_i n ha hn
      cases hs
      obtain ⟨rfl, hsay⟩ := says_ld hop ha (fun _ => hn) (fun h => by cases h) hG hx hh
      exact hsay.does hG _
    · rename_i ha
      cases hs
      obtain ⟨rfl, hsay⟩ := says_ld hop ha (fun h => by cases h) (fun _ => rfl) hG hx hh
      exact hsay.does hG _
    · cases hs
  | store t a x =>
    simp only [opS] at hs
    split at hs
    · rename_i n hn
      cases hs
      exact does_st hop hn hG (hv a (by simp [Op.operands])) (hv x (by simp [Op.operands])) hh
    · cases hs
  | nilCheck x =>
    simp only [opS, Option.some.injEq] at hs; subst hs
    simp only [heapOp] at hh
    obtain ⟨hp, rfl, -, -, -⟩ := pure_heap (k := k) (g := g) (base := base) hh
    exact (says_nilc hop (hv x (by simp [Op.operands])) hp).does hG _
  | binOp op t x y yt =>
    simp only [opS] at hs
    have hx := hv x (by simp [Op.operands])
    have hy := hv y (by simp [Op.operands])
    split at hs
    · cases hs
      simp only [heapOp] at hh
      obtain ⟨hp, rfl, -, -, -⟩ := pure_heap (k := k) (g := g) (base := base) hh
      exact (says_bin hop hx hy hp).does hG _
    · cases hs
      simp only [heapOp] at hh
      obtain ⟨hp, rfl, -, -, -⟩ := pure_heap (k := k) (g := g) (base := base) hh
      exact (says_bin hop hx hy hp).does hG _
    · rename_i hu
      split at hs
      · cases hs
        simp only [heapOp] at hh
        obtain ⟨hp, rfl, -, -, -⟩ := pure_heap (k := k) (g := g) (base := base) hh
        exact (says_beq hop hu rfl hx hy hp).does hG _
      · cases hs
        simp only [heapOp] at hh
        obtain ⟨hp, rfl, -, -, -⟩ := pure_heap (k := k) (g := g) (base := base) hh
        exact (says_beq hop hu rfl hx hy hp).does hG _
      · cases hs
    · split at hs
      · rename_i ks hk
        split at hs
        · cases hs
          simp only [heapOp] at hh
          obtain ⟨hp, rfl, -, -, -⟩ := pure_heap (k := k) (g := g) (base := base) hh
          exact (says_eqs hop hk rfl hx hy hp).does hG _
        · cases hs
          simp only [heapOp] at hh
          obtain ⟨hp, rfl, -, -, -⟩ := pure_heap (k := k) (g := g) (base := base) hh
          exact (says_eqs hop hk rfl hx hy hp).does hG _
        · cases hs
      · cases hs
    · cases hs
  | unOp op t x =>
    simp only [opS, Option.some.injEq] at hs; subst hs
    simp only [heapOp] at hh
    obtain ⟨hp, rfl, -, -, -⟩ := pure_heap (k := k) (g := g) (base := base) hh
    exact (says_un hop (hv x (by simp [Op.operands])) hp).does hG _
  | convert s d x =>
    simp only [opS] at hs
    have hx := hv x (by simp [Op.operands])
    split at hs
    · rename_i k1 k2 h1 h2
      cases hs
      simp only [heapOp] at hh
      obtain ⟨hp, rfl, -, -, -⟩ := pure_heap (k := k) (g := g) (base := base) hh
      exact (says_conv hop h1 h2 hx hp).does hG _
    · rename_i e h1 h3
      split at hs
      · rename_i h2
        cases hs
        obtain ⟨rfl, hsay⟩ := says_b2s hop h1 h2 h3 hG hx hh
        exact hsay.does hG _
      · cases hs
    · cases hs
  | makeFunc fn first captured =>
    cases fn <;> simp only [opS, reduceCtorEq] at hs
    split at hs
    · rename_i hf
      cases hs
      simp only [heapOp] at hh
      obtain ⟨hp, rfl, -, -, -⟩ := pure_heap (k := k) (g := g) (base := base) hh
      exact (says_mkf hop hf (fun x hx => hv x (by simp [Op.operands]; exact .inr (by simpa using hx))) hp).does hG _
    · cases hs
  | makeSlice t l c =>
    simp only [opS] at hs
    split at hs
    · rename_i e hu
      split at hs
      · rename_i sz z i hsz hz hi
        cases hs
        obtain ⟨h1, h2, h3⟩ := hr _ rfl
        exact does_mks hop hu hsz hz hi hG h1 h2 h3 (hv l (by simp [Op.operands])) (hv c (by simp [Op.operands])) hh
      · cases hs
    · cases hs
  | slice t x lo hi mx =>
    cases mx with
    | some m => simp only [opS, reduceCtorEq] at hs
    | none =>
      have hx := hv x (by simp [Op.operands])
      have hlo : ∀ y, lo = some y → RV S (vf (opd y)) (ρ y) := fun y hy => hv y (by simp [Op.operands, hy])
      have hhi : ∀ y, hi = some y → RV S (vf (opd y)) (ρ y) := fun y hy => hv y (by simp [Op.operands, hy])
      simp only [opS] at hs
      split at hs
      · rename_i hu
        cases hs
        simp only [heapOp] at hh
        obtain ⟨hp, rfl, -, -, -⟩ := pure_heap (k := k) (g := g) (base := base) hh
        exact (says_sls hop hu hx hlo hhi hp).does hG _
      · rename_i e hu
        split at hs
        · rename_i sz hsz
          cases hs
          simp only [heapOp] at hh
          split at hh
          · rename_i p off len ht
            split at hh
            · rename_i l h hb
              simp only [Option.some.injEq, Prod.mk.injEq] at hh
              obtain ⟨rfl, rfl⟩ := hh
              exact (says_arrcut hop hu hsz ht hx hlo hhi hb).does hG _
            · cases hh
          · obtain ⟨hp, rfl, -, -, -⟩ := pure_heap (k := k) (g := g) (base := base) hh
            simp only [pureOp] at hp
            split at hp
            · rename_i c xs ht
              split at hp
              · rename_i hok
                split at hp
                · rename_i l h hb
                  cases hp
                  exact (says_sll hop hu hsz ht hok hx hlo hhi hb).does hG _
                · cases hp
              · cases hp
            · cases hp
        · cases hs
      · rename_i n e hu
        split at hs
        · rename_i sz hsz
          cases hs
          simp only [heapOp] at hh
          split at hh
          · rename_i p off ht
            split at hh
            · rename_i l h hb
              simp only [Option.some.injEq, Prod.mk.injEq] at hh
              obtain ⟨rfl, rfl⟩ := hh
              exact (says_sla hop hu hsz ht hx hlo hhi hb).does hG _
            · cases hh
          · cases hh
        · cases hs
      · cases hs
  | fieldAddr t x i =>
    simp only [opS] at hs
    split at hs
    · rename_i fields hu
      split at hs
      · rename_i f hf
        split at hs
        · rename_i n hn
          split at hs
          · cases hs
          · rename_i hn0
            cases hs
            simp only [heapOp] at hh
            obtain ⟨hp, rfl, -, -, -⟩ := pure_heap (k := k) (g := g) (base := base) hh
            exact (says_fa hop hu hf hn hn0 (hv x (by simp [Op.operands])) hp).does hG _
        · cases hs
      · cases hs
    · cases hs
  | field t x i =>
    simp only [opS] at hs
    split at hs
    · rename_i fields hu
      split at hs
      · rename_i f hf
        split at hs
        · rename_i n ha hn
          cases hs
          simp only [heapOp] at hh
          obtain ⟨hp, rfl, -, -, -⟩ := pure_heap (k := k) (g := g) (base := base) hh
          exact (says_fld hop hu hf ha (fun _ => hn) (fun h => by cases h) (hv x (by simp [Op.operands])) hp).does hG _
        · rename_i ha
          cases hs
          simp only [heapOp] at hh
          obtain ⟨hp, rfl, -, -, -⟩ := pure_heap (k := k) (g := g) (base := base) hh
          exact (says_fld hop hu hf ha (fun h => by cases h) (fun _ => rfl) (hv x (by simp [Op.operands])) hp).does hG _
        · cases hs
      · cases hs
    · cases hs
  | indexAddr t x i =>
    simp only [opS] at hs
    have hx := hv x (by simp [Op.operands])
    have hi := hv i (by simp [Op.operands])
    split at hs
    · rename_i e hu
      split at hs
      · rename_i sz hsz
        cases hs
        simp only [heapOp] at hh
        obtain ⟨hp, rfl, -, -, -⟩ := pure_heap (k := k) (g := g) (base := base) hh
        exact (says_ia hop hu hsz hx hi hp).does hG _
      · cases hs
    · rename_i n e hu
      split at hs
      · rename_i sz hsz
        cases hs
        simp only [heapOp] at hh
        obtain ⟨hp, rfl, -, -, -⟩ := pure_heap (k := k) (g := g) (base := base) hh
        exact (says_iaa hop hu hsz hx hi hp).does hG _
      · cases hs
    · cases hs
  | index t x i =>
    simp only [opS] at hs
    have hx := hv x (by simp [Op.operands])
    have hi := hv i (by simp [Op.operands])
    split at hs
    · rename_i hu
      cases hs
      simp only [heapOp] at hh
      obtain ⟨hp, rfl, -, -, -⟩ := pure_heap (k := k) (g := g) (base := base) hh
      exact (says_ixs hop hu hx hi hp).does hG _
    · rename_i n e hu
      split at hs
      · rename_i agg sz ha hsz
        split at hs
        · rename_i hc
          cases hs
          simp only [heapOp] at hh
          obtain ⟨hp, rfl, -, -, -⟩ := pure_heap (k := k) (g := g) (base := base) hh
          exact (says_ixa hop hu ha hsz hc hx hi hp).does hG _
        · cases hs
      · cases hs
    · cases hs
  | extract x i =>
    simp only [opS, Option.some.injEq] at hs; subst hs
    simp only [heapOp] at hh
    obtain ⟨hp, rfl, -, -, -⟩ := pure_heap (k := k) (g := g) (base := base) hh
    exact (says_ext hop (hv x (by simp [Op.operands])) hp).does hG _
  | call c =>
    simp only [opS] at hs
    split at hs
    · cases hs; cases hcall
    · cases hs; cases hcall
    · rename_i hc
      split at hs
      · rename_i t x ht ha
        have hx := hv x (by simp only [Op.operands, Call.operands, hc]; simp [ha])
        split at hs
        · rename_i hu
          cases hs
          simp only [heapOp] at hh
          obtain ⟨hp, rfl, -, -, -⟩ := pure_heap (k := k) (g := g) (base := base) hh
          exact (says_lens hop hc ha ht hu hx hp).does hG _
        · rename_i e hu
          cases hs
          simp only [heapOp] at hh
          obtain ⟨hp, rfl, -, -, -⟩ := pure_heap (k := k) (g := g) (base := base) hh
          exact (says_len hop hc ha ht hu hx hp).does hG _
        · rename_i n e hu
          cases hs
          simp only [heapOp] at hh
          obtain ⟨hp, rfl, -, -, -⟩ := pure_heap (k := k) (g := g) (base := base) (vf := vf) (ao := .lenc n) (v := v) (H := S.H) hh
          simp only [pureOp, Option.some.injEq] at hp; subst hp
          exact (says_lenc hop hc ha ht hu).does hG _
        · cases hs
      · cases hs
    · rename_i hc
      split at hs
      · rename_i t u x y hat ha
        have hx := hv x (by simp only [Op.operands, Call.operands, hc]; simp [ha])
        have hy := hv y (by simp only [Op.operands, Call.operands, hc]; simp [ha])
        split at hs
        · rename_i e e' h0 h1
          split at hs
          · rename_i i z hi hz
            split at hs
            · cases hs
            · rename_i hcond
              simp only [not_or, Decidable.not_not] at hcond
              cases hs
              obtain ⟨h1', h2, h3⟩ := hr _ rfl
              exact does_app hop hc hat ha h0 (.inl ⟨_, h1⟩) hi hz hcond.1 hcond.2.1 hcond.2.2 hG h1' h2 h3 hx hy hh
          · cases hs
        · rename_i e h0 h1
          split at hs
          · rename_i i z hi hz
            split at hs
            · cases hs
            · rename_i hcond
              simp only [not_or, Decidable.not_not] at hcond
              cases hs
              obtain ⟨h1', h2, h3⟩ := hr _ rfl
              exact does_app hop hc hat ha h0 (.inr h1) hi hz hcond.1 hcond.2.1 hcond.2.2 hG h1' h2 h3 hx hy hh
          · cases hs
        · cases hs
      · cases hs
    · rename_i hc
      split at hs
      · rename_i x y ha
        cases hs
        simp only [heapOp] at hh
        obtain ⟨hp, rfl, -, -, -⟩ := pure_heap (k := k) (g := g) (base := base) hh
        exact (says_mm (mx := true) hop hc ha (hv x (by simp only [Op.operands, Call.operands, hc]; simp [ha])) (hv y (by simp only [Op.operands, Call.operands, hc]; simp [ha])) hp).does hG _
      · cases hs
    · rename_i hc
      split at hs
      · rename_i x y ha
        cases hs
        simp only [heapOp] at hh
        obtain ⟨hp, rfl, -, -, -⟩ := pure_heap (k := k) (g := g) (base := base) hh
        exact (says_mm (mx := false) hop hc ha (hv x (by simp only [Op.operands, Call.operands, hc]; simp [ha])) (hv y (by simp only [Op.operands, Call.operands, hc]; simp [ha])) hp).does hG _
      · cases hs
    · cases hs
  | _ => simp only [opS, reduceCtorEq] at hs
end
end Ab
