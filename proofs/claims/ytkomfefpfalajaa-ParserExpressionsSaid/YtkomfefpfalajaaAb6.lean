/- The framework, part 6: Sim, Digits. -/
import Derived.Test.YtkomfefpfalajaaAb5
import Derived.Test.YtkomfefpfalajaaAb4
/- Equations of the abstract machine for the simplifier: what is still to be run stands as data, so that nothing is simplified ahead of its time. -/
namespace Ab
open Go
noncomputable section
variable {E : Env} {n0 base : Nat} {g : Bool} {s : Slots} {h : Heap} {d : Option Nat} {r : List AOper}

def runO (E : Env) (n0 : Nat) (g : Bool) (base : Nat) (ops : List AOper) (s : Slots) (h : Heap) : Option (Slots × Heap) := opsRun E (callF E) n0 g base ops s h
def stepK (E : Env) (n0 : Nat) (g : Bool) (base : Nat) (r : List AOper) (s : Slots) (d : Option Nat) : Option (AV × Heap) → Option (Slots × Heap)
  | some (v, h) => runO E n0 g base r (put s d v) h
  | none => none
def valK (E : Env) (n0 : Nat) (g : Bool) (base : Nat) (r : List AOper) (s : Slots) (d : Option Nat) (h : Heap) : Option AV → Option (Slots × Heap)
  | some v => runO E n0 g base r (put s d v) h
  | none => none
@[simp] theorem stepK_some {v : AV} : stepK E n0 g base r s d (some (v, h)) = runO E n0 g base r (put s d v) h := rfl
@[simp] theorem stepK_none : stepK E n0 g base r s d none = none := rfl
@[simp] theorem stepK_ite {c : Prop} [Decidable c] {x y : Option (AV × Heap)} : stepK E n0 g base r s d (if c then x else y) = if c then stepK E n0 g base r s d x else stepK E n0 g base r s d y := by split <;> rfl
@[simp] theorem valK_some {v : AV} : valK E n0 g base r s d h (some v) = runO E n0 g base r (put s d v) h := rfl
@[simp] theorem valK_none : valK E n0 g base r s d h none = none := rfl
@[simp] theorem valK_ite {c : Prop} [Decidable c] {x y : Option AV} : valK E n0 g base r s d h (if c then x else y) = if c then valK E n0 g base r s d h x else valK E n0 g base r s d h y := by split <;> rfl

theorem runO_eq {ops : List AOper} : runO E n0 g base ops s h = opsRun E (callF E) n0 g base ops s h := rfl
@[simp] theorem runO_nil : runO E n0 g base [] s h = some (s, h) := rfl
theorem o_step {op : AOp} : runO E n0 g base (⟨d, op, none⟩ :: r) s h = stepK E n0 g base r s d (stepOp E (callF E) n0 g base s h op) := by
  simp only [runO_eq, opsRun, wants]
  cases stepOp E (callF E) n0 g base s h op with
  | none => rfl
  | some x => rfl
theorem o_heap {op : AOp} (hc : op.isCall = false) : runO E n0 g base (⟨d, op, none⟩ :: r) s h = stepK E n0 g base r s d (heapOp n0 g base (val E s) h op) := by
  rw [o_step, stepOp, if_neg (by simp [hc])]
theorem o_pure {op : AOp} {x : Option AV} (hc : op.isCall = false) (hp : heapOp n0 g base (val E s) h op = match x with | some v => some (v, h) | none => none) : runO E n0 g base (⟨d, op, none⟩ :: r) s h = valK E n0 g base r s d h x := by
  rw [o_heap hc, hp]
  cases x <;> rfl

@[simp] theorem o_mv {x : Opd} : runO E n0 g base (⟨d, .mv x, none⟩ :: r) s h = runO E n0 g base r (put s d (val E s x)) h := o_pure (x := some (val E s x)) rfl rfl
def pickV (c a b : AV) : Option AV := match c with | .bool t => some (if t then a else b) | _ => none
@[simp] theorem pickV_bool {t : Bool} {a b : AV} : pickV (.bool t) a b = some (if t then a else b) := rfl
@[simp] theorem o_pick {c a b : Opd} : runO E n0 g base (⟨d, .pick c a b, none⟩ :: r) s h = valK E n0 g base r s d h (pickV (val E s c) (val E s a) (val E s b)) := o_pure rfl rfl
@[simp] theorem o_bld {z : List AV} {ps : List (Nat × Nat × Opd)} : runO E n0 g base (⟨d, .bld z ps, none⟩ :: r) s h = valK E n0 g base r s d h ((fillParts (val E s) ps z).map AV.agg) := o_pure rfl (by
  simp only [heapOp, pureOp]; cases fillParts (val E s) ps z <;> rfl)
@[simp] theorem o_bsl {sz : Nat} {z : AV} {n : Nat} {ps : List (Nat × Opd)} : runO E n0 g base (⟨d, .bsl sz z n ps, none⟩ :: r) s h = valK E n0 g base r s d h ((fillElems (val E s) sz ps (List.replicate n z)).map (AV.sl .full)) := o_pure rfl (by
  simp only [heapOp, pureOp]; cases fillElems (val E s) sz ps (List.replicate n z) <;> rfl)
def nilcV : AV → Option AV
  | .ptr o k => some (.ptr o k)
  | .eptr xs => some (.eptr xs)
  | .fn f xs => some (.fn f xs)
  | _ => none
@[simp] theorem nilcV_ptr {o k : Nat} : nilcV (.ptr o k) = some (.ptr o k) := rfl
@[simp] theorem nilcV_eptr {xs : List AV} : nilcV (.eptr xs) = some (.eptr xs) := rfl
@[simp] theorem o_nilc {x : Opd} : runO E n0 g base (⟨d, .nilc x, none⟩ :: r) s h = valK E n0 g base r s d h (nilcV (val E s x)) := o_pure rfl rfl
@[simp] theorem o_bin {op : BinOp} {x y : Opd} : runO E n0 g base (⟨d, .bin op x y, none⟩ :: r) s h = valK E n0 g base r s d h (bin op (val E s x) (val E s y)) := o_pure rfl rfl
def beqV (neg : Bool) : AV → AV → Option AV
  | .bool a, .bool b => some (.bool (if neg then !(a == b) else (a == b)))
  | _, _ => none
@[simp] theorem beqV_bool {a b : Bool} : beqV false (.bool a) (.bool b) = some (.bool (a == b)) := rfl
@[simp] theorem bneV_bool {a b : Bool} : beqV true (.bool a) (.bool b) = some (.bool (!(a == b))) := rfl
@[simp] theorem o_beq {neg : Bool} {x y : Opd} : runO E n0 g base (⟨d, .beq neg x y, none⟩ :: r) s h = valK E n0 g base r s d h (beqV neg (val E s x) (val E s y)) := o_pure rfl (by
  simp only [heapOp, pureOp]; rfl)
def eqsV (neg : Bool) (ks : List Nat) : AV → AV → Option AV
  | .agg xs, .agg ys => match eqLs ks xs ys with | some b => some (.bool (if neg then !b else b)) | none => none
  | _, _ => none
@[simp] theorem eqsV_agg {neg : Bool} {ks : List Nat} {xs ys : List AV} : eqsV neg ks (.agg xs) (.agg ys) = (eqLs ks xs ys).map fun b => .bool (if neg then !b else b) := by
  simp only [eqsV]; cases eqLs ks xs ys <;> rfl
@[simp] theorem o_eqs {neg : Bool} {ks : List Nat} {x y : Opd} : runO E n0 g base (⟨d, .eqs neg ks x y, none⟩ :: r) s h = valK E n0 g base r s d h (eqsV neg ks (val E s x) (val E s y)) := o_pure rfl (by
  simp only [heapOp, pureOp]; rfl)
@[simp] theorem o_un {op : UnOp} {x : Opd} : runO E n0 g base (⟨d, .un op x, none⟩ :: r) s h = valK E n0 g base r s d h (un op (val E s x)) := o_pure rfl rfl
def convV (k : IntKind) : AV → Option AV
  | .int _ n => some (.int k (k.wrap n))
  | _ => none
@[simp] theorem convV_int {k k' : IntKind} {n : Int} : convV k (.int k' n) = some (.int k (k.wrap n)) := rfl
@[simp] theorem o_conv {k : IntKind} {x : Opd} : runO E n0 g base (⟨d, .conv k x, none⟩ :: r) s h = valK E n0 g base r s d h (convV k (val E s x)) := o_pure rfl rfl
def slsV (f : Opd → AV) (lo hi : Option Opd) : AV → Option AV
  | .str b => match bounds f b.length lo hi with | some (l, k) => some (.str ((b.take k).drop l)) | none => none
  | _ => none
@[simp] theorem slsV_str {f : Opd → AV} {lo hi : Option Opd} {b : List UInt8} : slsV f lo hi (.str b) = (bounds f b.length lo hi).map fun p => .str ((b.take p.2).drop p.1) := by
  simp only [slsV]; cases bounds f b.length lo hi <;> rfl
@[simp] theorem o_sls {x : Opd} {lo hi : Option Opd} : runO E n0 g base (⟨d, .sls x lo hi, none⟩ :: r) s h = valK E n0 g base r s d h (slsV (val E s) lo hi (val E s x)) := o_pure rfl (by
  simp only [heapOp, pureOp]; rfl)
def sllV (f : Opd → AV) (sz : Nat) (lo hi : Option Opd) : AV → Option AV
  | .sl _ xs => if sizeOk sz xs then (match bounds f xs.length lo hi with | some (l, k) => some (.sl .none ((xs.take k).drop l)) | none => none) else none
  | .arr o off len => match bounds f len lo hi with | some (l, k) => some (if l < k then .arr o (off + l * sz) (k - l) else .sl .none []) | none => none
  | _ => none
@[simp] theorem sllV_sl {f : Opd → AV} {sz : Nat} {lo hi : Option Opd} {c : Cap} {xs : List AV} : sllV f sz lo hi (.sl c xs) = if sizeOk sz xs then (bounds f xs.length lo hi).map (fun p => .sl .none ((xs.take p.2).drop p.1)) else none := by
  simp only [sllV]; cases bounds f xs.length lo hi <;> rfl
@[simp] theorem o_sll {sz : Nat} {x : Opd} {lo hi : Option Opd} : runO E n0 g base (⟨d, .sll sz x lo hi, none⟩ :: r) s h = valK E n0 g base r s d h (sllV (val E s) sz lo hi (val E s x)) := o_pure rfl (by
  simp only [heapOp, pureOp, sllV]
  cases val E s x with
  | arr o off len => simp only; cases bounds (val E s) len lo hi <;> rfl
  | _ => rfl)
def faV (off : Nat) : AV → Option AV
  | .ptr o k => some (.ptr o (k + off))
  | .eptr xs => some (.eptr (xs.drop off))
  | _ => none
@[simp] theorem faV_ptr {off o k : Nat} : faV off (.ptr o k) = some (.ptr o (k + off)) := rfl
@[simp] theorem faV_eptr {off : Nat} {xs : List AV} : faV off (.eptr xs) = some (.eptr (xs.drop off)) := rfl
@[simp] theorem o_fa {off : Nat} {x : Opd} : runO E n0 g base (⟨d, .fa off x, none⟩ :: r) s h = valK E n0 g base r s d h (faV off (val E s x)) := o_pure rfl rfl
def cutV (agg : Bool) (n : Nat) (ys : List AV) : Option AV := if ys.length = n then mkAgg agg ys else none
def fldV (agg : Bool) (off n : Nat) : AV → Option AV
  | .agg xs => cutV agg n ((xs.drop off).take n)
  | _ => none
@[simp] theorem fldV_agg {agg : Bool} {off n : Nat} {xs : List AV} : fldV agg off n (.agg xs) = cutV agg n ((xs.drop off).take n) := rfl
@[simp] theorem o_fld {agg : Bool} {off n : Nat} {x : Opd} : runO E n0 g base (⟨d, .fld agg off n x, none⟩ :: r) s h = valK E n0 g base r s d h (fldV agg off n (val E s x)) := o_pure rfl rfl
def iaE (sz : Nat) : Option AV → Option AV
  | some y => if nleaves y = sz then some (.eptr (leaves y)) else none
  | none => none
@[simp] theorem iaE_some {sz : Nat} {y : AV} : iaE sz (some y) = if nleaves y = sz then some (.eptr (leaves y)) else none := rfl
@[simp] theorem iaE_none {sz : Nat} : iaE sz none = none := rfl
def iaV (sz : Nat) : AV → AV → Option AV
  | .sl _ xs, .int _ i => if 0 ≤ i then iaE sz xs[i.toNat]? else none
  | .arr o off len, .int _ i => if 0 ≤ i ∧ i < (len : Int) then some (.ptr o (off + i.toNat * sz)) else none
  | _, _ => none
@[simp] theorem iaV_sl {sz : Nat} {c : Cap} {xs : List AV} {k : IntKind} {i : Int} : iaV sz (.sl c xs) (.int k i) = if 0 ≤ i then iaE sz xs[i.toNat]? else none := rfl
@[simp] theorem iaV_arr {sz o off len : Nat} {k : IntKind} {i : Int} : iaV sz (.arr o off len) (.int k i) = if 0 ≤ i ∧ i < (len : Int) then some (.ptr o (off + i.toNat * sz)) else none := rfl
@[simp] theorem o_ia {sz : Nat} {x i : Opd} : runO E n0 g base (⟨d, .ia sz x i, none⟩ :: r) s h = valK E n0 g base r s d h (iaV sz (val E s x) (val E s i)) := o_pure rfl (by
  simp only [heapOp, pureOp, iaV, iaE]; rfl)
def iaaV (len sz : Nat) : AV → AV → Option AV
  | .ptr o off, .int _ i => if 0 ≤ i ∧ i < (len : Int) then some (.ptr o (off + i.toNat * sz)) else none
  | .eptr xs, .int _ i => if 0 ≤ i ∧ i < (len : Int) then some (.eptr (xs.drop (i.toNat * sz))) else none
  | _, _ => none
@[simp] theorem iaaV_ptr {len sz o off : Nat} {k : IntKind} {i : Int} : iaaV len sz (.ptr o off) (.int k i) = if 0 ≤ i ∧ i < (len : Int) then some (.ptr o (off + i.toNat * sz)) else none := rfl
@[simp] theorem o_iaa {len sz : Nat} {x i : Opd} : runO E n0 g base (⟨d, .iaa len sz x i, none⟩ :: r) s h = valK E n0 g base r s d h (iaaV len sz (val E s x) (val E s i)) := o_pure rfl (by
  simp only [heapOp, pureOp]; rfl)
def ixsE : Option UInt8 → Option AV
  | some c => some (.int .u8 c.toNat)
  | none => none
@[simp] theorem ixsE_some {c : UInt8} : ixsE (some c) = some (.int .u8 c.toNat) := rfl
@[simp] theorem ixsE_none : ixsE none = none := rfl
def ixsV : AV → AV → Option AV
  | .str b, .int _ i => if 0 ≤ i then ixsE b[i.toNat]? else none
  | _, _ => none
@[simp] theorem ixsV_str {b : List UInt8} {k : IntKind} {i : Int} : ixsV (.str b) (.int k i) = if 0 ≤ i then ixsE b[i.toNat]? else none := rfl
@[simp] theorem o_ixs {x i : Opd} : runO E n0 g base (⟨d, .ixs x i, none⟩ :: r) s h = valK E n0 g base r s d h (ixsV (val E s x) (val E s i)) := o_pure rfl (by
  simp only [heapOp, pureOp, ixsV, ixsE]; rfl)
def ixaV (agg : Bool) (len sz : Nat) : AV → AV → Option AV
  | .agg xs, .int _ i => if 0 ≤ i ∧ i < (len : Int) then cutV agg sz ((xs.drop (i.toNat * sz)).take sz) else none
  | _, _ => none
@[simp] theorem ixaV_agg {agg : Bool} {len sz : Nat} {xs : List AV} {k : IntKind} {i : Int} : ixaV agg len sz (.agg xs) (.int k i) = if 0 ≤ i ∧ i < (len : Int) then cutV agg sz ((xs.drop (i.toNat * sz)).take sz) else none := rfl
@[simp] theorem o_ixa {agg : Bool} {len sz : Nat} {x i : Opd} : runO E n0 g base (⟨d, .ixa agg len sz x i, none⟩ :: r) s h = valK E n0 g base r s d h (ixaV agg len sz (val E s x) (val E s i)) := o_pure rfl (by
  simp only [heapOp, pureOp]; rfl)
def extV (i : Nat) : AV → Option AV
  | .tup xs => xs[i]?
  | _ => none
@[simp] theorem extV_tup {i : Nat} {xs : List AV} : extV i (.tup xs) = xs[i]? := rfl
@[simp] theorem o_ext {x : Opd} {i : Nat} : runO E n0 g base (⟨d, .ext x i, none⟩ :: r) s h = valK E n0 g base r s d h (extV i (val E s x)) := o_pure rfl rfl
def lensV : AV → Option AV
  | .str b => some (.int .i64 b.length)
  | _ => none
@[simp] theorem lensV_str {b : List UInt8} : lensV (.str b) = some (.int .i64 b.length) := rfl
@[simp] theorem o_lens {x : Opd} : runO E n0 g base (⟨d, .lens x, none⟩ :: r) s h = valK E n0 g base r s d h (lensV (val E s x)) := o_pure rfl rfl
def lenV : AV → Option AV
  | .sl _ xs => some (.int .i64 xs.length)
  | .arr _ _ n => some (.int .i64 n)
  | _ => none
@[simp] theorem lenV_sl {c : Cap} {xs : List AV} : lenV (.sl c xs) = some (.int .i64 xs.length) := rfl
@[simp] theorem lenV_arr {o k n : Nat} : lenV (.arr o k n) = some (.int .i64 n) := rfl
@[simp] theorem o_len {x : Opd} : runO E n0 g base (⟨d, .len x, none⟩ :: r) s h = valK E n0 g base r s d h (lenV (val E s x)) := o_pure rfl rfl
@[simp] theorem o_lenc {n : Nat} : runO E n0 g base (⟨d, .lenc n, none⟩ :: r) s h = runO E n0 g base r (put s d (.int .i64 n)) h := o_pure (x := some (.int .i64 n)) rfl rfl
def mmV (mx : Bool) : AV → AV → Option AV
  | .int k a, .int k' b => if k = k' then some (.int k (if mx then (if b > a then b else a) else (if b < a then b else a))) else none
  | _, _ => none
@[simp] theorem mmV_max {k : IntKind} {a b : Int} : mmV true (.int k a) (.int k b) = some (.int k (if b > a then b else a)) := by simp [mmV]
@[simp] theorem mmV_min {k : IntKind} {a b : Int} : mmV false (.int k a) (.int k b) = some (.int k (if b < a then b else a)) := by simp [mmV]
@[simp] theorem o_mm {mx : Bool} {x y : Opd} : runO E n0 g base (⟨d, .mm mx x y, none⟩ :: r) s h = valK E n0 g base r s d h (mmV mx (val E s x) (val E s y)) := o_pure rfl (by
  simp only [heapOp, pureOp]; rfl)
@[simp] theorem o_mkf {f : Nat} {xs : List Opd} : runO E n0 g base (⟨d, .mkf f xs, none⟩ :: r) s h = valK E n0 g base r s d h (if (xs.map (val E s)).all isCap = true then some (.fn f (xs.map (val E s))) else none) := o_pure rfl (by
  simp only [heapOp, pureOp]; cases hx : (xs.map (val E s)).all isCap <;> simp)

/-! objects -/
def ldC (agg : Bool) (n off : Nat) : Option Ob → Option AV
  | some (.cells xs) => cutV agg n ((xs.drop off).take n)
  | _ => none
@[simp] theorem ldC_cells {agg : Bool} {n off : Nat} {xs : List AV} : ldC agg n off (some (.cells xs)) = cutV agg n ((xs.drop off).take n) := rfl
def ldV (agg : Bool) (n : Nat) (h : Heap) : AV → Option AV
  | .ptr o off => ldC agg n off h[o]?
  | .eptr xs => cutV agg n (xs.take n)
  | _ => none
@[simp] theorem ldV_ptr {agg : Bool} {n o off : Nat} : ldV agg n h (.ptr o off) = ldC agg n off h[o]? := rfl
@[simp] theorem ldV_eptr {agg : Bool} {n : Nat} {xs : List AV} : ldV agg n h (.eptr xs) = cutV agg n (xs.take n) := rfl
@[simp] theorem o_ld {agg : Bool} {n : Nat} {x : Opd} : runO E n0 g base (⟨d, .ld agg n x, none⟩ :: r) s h = valK E n0 g base r s d h (ldV agg n h (val E s x)) := o_pure rfl (by
  simp only [heapOp]
  cases val E s x with
  | ptr o off =>
    simp only [ldV]
    cases h[o]? with
    | none => rfl
    | some ob =>
      cases ob <;> first | rfl | skip
      rename_i xs
      simp only [ldC, cutV]
      split
      · cases mkAgg agg ((xs.drop off).take n) <;> rfl
      · rfl
  | eptr xs =>
    simp only [ldV, cutV]
    split
    · cases mkAgg agg (xs.take n) <;> rfl
    · rfl
  | _ => rfl)
def stC (n0 : Nat) (g : Bool) (n o off : Nat) (h : Heap) (ys : List AV) : Option Ob → Option (AV × Heap)
  | some (.cells xs) => if ys.length = n ∧ off + n ≤ xs.length ∧ (n0 ≤ o ∨ g = true ∨ ys.all free = true) then some (.no, h.set o (.cells (splice xs off ys))) else none
  | _ => none
@[simp] theorem stC_cells {n o off : Nat} {xs ys : List AV} : stC n0 g n o off h ys (some (.cells xs)) = if ys.length = n ∧ off + n ≤ xs.length ∧ (n0 ≤ o ∨ g = true ∨ ys.all free = true) then some (.no, h.set o (.cells (splice xs off ys))) else none := rfl
def stV (n0 : Nat) (g : Bool) (n : Nat) (h : Heap) : AV → Option (List AV) → Option (AV × Heap)
  | .ptr o off, some ys => stC n0 g n o off h ys h[o]?
  | _, _ => none
@[simp] theorem stV_ptr {n o off : Nat} {ys : List AV} : stV n0 g n h (.ptr o off) (some ys) = stC n0 g n o off h ys h[o]? := rfl
@[simp] theorem o_st {n : Nat} {x y : Opd} : runO E n0 g base (⟨d, .st n x y, none⟩ :: r) s h = stepK E n0 g base r s d (stV n0 g n h (val E s x) (cellsOf (val E s y))) := by
  rw [o_heap rfl]
  congr 1
@[simp] theorem o_al {k : Nat} {z : List AV} : runO E n0 g base (⟨d, .al k z, none⟩ :: r) s h = runO E n0 g base r (put s d (.ptr (base + k) 0)) h := by
  rw [o_heap rfl]; rfl
def bxV (o : Nat) (h : Heap) : Option (List AV) → Option (AV × Heap)
  | some ys => some (.ptr o 0, h.set o (.cells ys))
  | none => none
@[simp] theorem bxV_some {o : Nat} {ys : List AV} : bxV o h (some ys) = some (.ptr o 0, h.set o (.cells ys)) := rfl
@[simp] theorem o_bx {k : Nat} {x : Opd} : runO E n0 g base (⟨d, .bx k x, none⟩ :: r) s h = stepK E n0 g base r s d (bxV (base + k) h (cellsOf (val E s x))) := by
  rw [o_heap rfl]; rfl
def bsrV (o n : Nat) (h : Heap) : Option (List AV) → Option (AV × Heap)
  | some xs => some (.arr o 0 n, h.set o (.cells xs))
  | none => none
@[simp] theorem bsrV_some {o n : Nat} {ys : List AV} : bsrV o n h (some ys) = some (.arr o 0 n, h.set o (.cells ys)) := rfl
@[simp] theorem o_bsr {k n : Nat} {z : List AV} {ps : List (Nat × Nat × Opd)} : runO E n0 g base (⟨d, .bsr k n z ps, none⟩ :: r) s h = stepK E n0 g base r s d (bsrV (base + k) n h (fillParts (val E s) ps z)) := by
  rw [o_heap rfl]; rfl
def slaV (f : Opd → AV) (n sz : Nat) (lo hi : Option Opd) : AV → Option AV
  | .ptr o off => (bounds f n lo hi).map fun p => if p.1 < p.2 then .arr o (off + p.1 * sz) (p.2 - p.1) else .sl .none []
  | _ => none
@[simp] theorem slaV_ptr {f : Opd → AV} {n sz : Nat} {lo hi : Option Opd} {o off : Nat} : slaV f n sz lo hi (.ptr o off) = (bounds f n lo hi).map fun p => if p.1 < p.2 then .arr o (off + p.1 * sz) (p.2 - p.1) else .sl .none [] := rfl
@[simp] theorem o_sla {n sz : Nat} {x : Opd} {lo hi : Option Opd} : runO E n0 g base (⟨d, .sla n sz x lo hi, none⟩ :: r) s h = valK E n0 g base r s d h (slaV (val E s) n sz lo hi (val E s x)) := o_pure rfl (by
  simp only [heapOp]
  cases val E s x with
  | ptr o off => simp only [slaV]; cases bounds (val E s) n lo hi <;> rfl
  | _ => rfl)
def b2sV (h : Heap) : AV → Option AV
  | .str _ => none
  | v => match elemsOf h 1 v with
    | some xs => match bytesOf xs with | some b => some (.str b) | none => none
    | none => none
@[simp] theorem o_b2s {x : Opd} : runO E n0 g base (⟨d, .b2s x, none⟩ :: r) s h = valK E n0 g base r s d h (b2sV h (val E s x)) := o_pure rfl (by
  simp only [heapOp, b2sV]
  cases val E s x with
  | str b => rfl
  | _ =>
    simp only
    split
    · split <;> simp_all
    · simp_all)
def appC (n0 : Nat) (g : Bool) (base k sz : Nat) (h : Heap) (xs ys : List AV) : Cap → Option (AV × Heap)
  | .full => some (.sl (.tok (base + k)) (xs ++ ys), h.set (base + k) (.fr sz (xs.length + ys.length)))
  | .tok o => match h[o]? with
    | some (.fr sz' n) => if sz' = sz ∧ n = xs.length ∧ (n0 ≤ o ∨ g = true) then some (.sl (.tok o) (xs ++ ys), h.set o (.fr sz (xs.length + ys.length))) else none
    | _ => none
  | .none => none
@[simp] theorem appC_full {k sz : Nat} {xs ys : List AV} : appC n0 g base k sz h xs ys .full = some (.sl (.tok (base + k)) (xs ++ ys), h.set (base + k) (.fr sz (xs.length + ys.length))) := rfl
theorem appC_tok {k sz o : Nat} {xs ys : List AV} (hf : h[o]? = some (.fr sz xs.length)) (ho : n0 ≤ o ∨ g = true) : appC n0 g base k sz h xs ys (.tok o) = some (.sl (.tok o) (xs ++ ys), h.set o (.fr sz (xs.length + ys.length))) := by
  simp [appC, hf, ho]
def tokK (n0 : Nat) (g : Bool) (sz o : Nat) (h : Heap) (xs ys : List AV) : Option Ob → Option (AV × Heap)
  | some (.fr sz' n) => if sz' = sz ∧ n = xs.length ∧ (n0 ≤ o ∨ g = true) then some (.sl (.tok o) (xs ++ ys), h.set o (.fr sz (xs.length + ys.length))) else none
  | _ => none
@[simp] theorem tokK_fr {sz o sz' n : Nat} {xs ys : List AV} : tokK n0 g sz o h xs ys (some (.fr sz' n)) = if sz' = sz ∧ n = xs.length ∧ (n0 ≤ o ∨ g = true) then some (.sl (.tok o) (xs ++ ys), h.set o (.fr sz (xs.length + ys.length))) else none := rfl
@[simp] theorem appC_tokK {k sz o : Nat} {xs ys : List AV} : appC n0 g base k sz h xs ys (.tok o) = tokK n0 g sz o h xs ys h[o]? := rfl
def appV (n0 : Nat) (g : Bool) (base k sz bytes : Nat) (h : Heap) : AV → Option (List AV) → Option (AV × Heap)
  | .sl c xs, some ys => if sizeOk sz xs ∧ 2 * ((xs.length + ys.length) * bytes) + 2048 * bytes ≤ 281474976710656 then appC n0 g base k sz h xs ys c else none
  | _, _ => none
@[simp] theorem appV_sl {k sz bytes : Nat} {c : Cap} {xs ys : List AV} : appV n0 g base k sz bytes h (.sl c xs) (some ys) = if sizeOk sz xs ∧ 2 * ((xs.length + ys.length) * bytes) + 2048 * bytes ≤ 281474976710656 then appC n0 g base k sz h xs ys c else none := rfl
@[simp] theorem o_app {k sz bytes : Nat} {x y : Opd} : runO E n0 g base (⟨d, .app k sz bytes x y, none⟩ :: r) s h = stepK E n0 g base r s d (appV n0 g base k sz bytes h (val E s x) (elemsOf h sz (val E s y))) := by
  rw [o_heap rfl]
  congr 1
  simp only [heapOp]
  cases elemsOf h sz (val E s y) with
  | none => cases val E s x <;> rfl
  | some ys =>
    cases val E s x with
    | sl c xs => simp only [appV]; cases c <;> rfl
    | _ => rfl
@[simp] theorem o_mks {k sz bytes : Nat} {z : List AV} {l c : Opd} : runO E n0 g base (⟨d, .mks k sz bytes z l c, none⟩ :: r) s h = stepK E n0 g base r s d (heapOp n0 g base (val E s) h (.mks k sz bytes z l c)) := o_heap rfl

/-! calls -/
def growAt (E : Env) (f : Nat) : Option Bool := (E.fn f).map AFn.grow
def retK (E : Env) (n0 : Nat) (g : Bool) (base : Nat) (r : List AOper) (s : Slots) (d : Option Nat) (h : Heap) (gr : Option Bool) : Option (AV × Heap) → Option (Slots × Heap)
  | some (v, h') => match gr with
    | some b => if g = false ∧ b = true then (if h'.take n0 = h.take n0 then runO E n0 g base r (put s d v) h' else none) else runO E n0 g base r (put s d v) h'
    | none => none
  | none => none
@[simp] theorem retK_some {v : AV} {h' : Heap} : retK E n0 g base r s d h (some false) (some (v, h')) = runO E n0 g base r (put s d v) h' := by
  simp [retK]
theorem retK_grow {v : AV} {h' : Heap} (he : h'.take n0 = h.take n0) : retK E n0 g base r s d h (some true) (some (v, h')) = runO E n0 g base r (put s d v) h' := by
  simp [retK, he]
@[simp] theorem retK_growg {v : AV} {h' : Heap} : retK E n0 true base r s d h (some true) (some (v, h')) = runO E n0 true base r (put s d v) h' := by
  simp [retK]
@[simp] theorem retK_none {gr : Option Bool} : retK E n0 g base r s d h gr none = none := rfl
@[simp] theorem retK_ite {gr : Option Bool} {c : Prop} [Decidable c] {x y : Option (AV × Heap)} : retK E n0 g base r s d h gr (if c then x else y) = if c then retK E n0 g base r s d h gr x else retK E n0 g base r s d h gr y := by split <;> rfl
def callK (E : Env) (n0 : Nat) (g : Bool) (base : Nat) (r : List AOper) (s : Slots) (d : Option Nat) (h : Heap) : Option (Nat × List AV) → Option (Slots × Heap)
  | some (f, as) => retK E n0 g base r s d h (growAt E f) (callF E f as h)
  | none => none
@[simp] theorem callK_some {f : Nat} {as : List AV} : callK E n0 g base r s d h (some (f, as)) = retK E n0 g base r s d h (growAt E f) (callF E f as h) := rfl
theorem o_calls {op : AOp} (hc : op.isCall = true) : runO E n0 g base (⟨d, op, none⟩ :: r) s h = callK E n0 g base r s d h (callee (val E s) op) := by
  rw [o_step, stepOp, if_pos hc]
  cases callee (val E s) op with
  | none => rfl
  | some p =>
    obtain ⟨f, as⟩ := p
    simp only [callK, growAt]
    cases callF E f as h with
    | none => rfl
    | some q =>
      obtain ⟨v, h'⟩ := q
      cases E.fn f with
      | none => rfl
      | some fn =>
        simp only [retK, Option.map_some]
        split
        · split <;> rfl
        · rfl
@[simp] theorem o_call {f : Nat} {xs : List Opd} : runO E n0 g base (⟨d, .call f xs, none⟩ :: r) s h = callK E n0 g base r s d h ((argsOf (val E s) xs).map fun as => (f, as)) := by
  rw [o_calls rfl]
  congr 1
  simp only [callee]
  cases argsOf (val E s) xs <;> rfl
def calleeV : AV → Option (List AV) → Option (Nat × List AV)
  | .fn f ys, some as => some (f, as ++ ys)
  | _, _ => none
@[simp] theorem calleeV_fn {f : Nat} {ys as : List AV} : calleeV (.fn f ys) (some as) = some (f, as ++ ys) := rfl
@[simp] theorem o_callv {x : Opd} {xs : List Opd} : runO E n0 g base (⟨d, .callv x xs, none⟩ :: r) s h = callK E n0 g base r s d h (calleeV (val E s x) (argsOf (val E s) xs)) := by
  rw [o_calls rfl]
  congr 1
  simp only [callee]
  cases val E s x with
  | fn f ys => cases argsOf (val E s) xs <;> rfl
  | _ => rfl
def consA (x : AV) : Option (List AV) → Option (List AV)
  | some vs => some (arg x :: vs)
  | none => none
@[simp] theorem consA_some {x : AV} {vs : List AV} : consA x (some vs) = some (arg x :: vs) := rfl
def notTup : AV → Bool
  | .tup _ => false
  | _ => true
@[simp] theorem argsOf_nil {f : Opd → AV} : argsOf f [] = some [] := rfl
@[simp] theorem argsOf_cons {f : Opd → AV} {x : Opd} {r : List Opd} : argsOf f (x :: r) = if notTup (f x) = true then consA (f x) (argsOf f r) else none := by
  simp only [argsOf]
  cases f x <;> first | rfl | (simp only [notTup, consA]; rfl)

/-! guards: what the guard says is written into its slot -/
def grdK (E : Env) (n0 : Nat) (g : Bool) (base : Nat) (r : List AOper) (s : Slots) (d : Option Nat) (h : Heap) (op : AOp) (q : Nat) (b : Bool) : AV → Option (Slots × Heap)
  | .bool c => if (c == b) = true then runO E n0 g base (⟨d, op, none⟩ :: r) s h else runO E n0 g base r (put s d (.tup [])) h
  | .tup [] => runO E n0 g base r (put s d (.tup [])) h
  | _ => none
theorem runO_ext : ∀ (ops : List AOper) (s s' : Slots) (h : Heap), (∀ t, get s t = get s' t) → (runO E n0 g base ops s h).map (fun p => (fun t => get p.1 t, p.2)) = (runO E n0 g base ops s' h).map (fun p => (fun t => get p.1 t, p.2))
  | [], s, s', h, hs => by
    simp only [runO_nil, Option.map_some]
    congr 2
    exact funext hs
  | o :: r, s, s', h, hs => by
    have hv : val E s = val E s' := by
      funext x
      cases x <;> simp only [val]
      exact hs _
    have hw : ∀ q, wants s q = wants s' q := by
      intro q
      cases q with
      | none => rfl
      | some p => simp only [wants, hs]
    have hput : ∀ d v t, get (put s d v) t = get (put s' d v) t := by
      intro d v t
      cases d with
      | none => exact hs t
      | some d =>
        simp only [put, get]
        split
        · rfl
        · exact hs t
    have hst : ∀ op, stepOp E (callF E) n0 g base s h op = stepOp E (callF E) n0 g base s' h op := by
      intro op
      simp only [stepOp, hv]
    simp only [runO_eq, opsRun, hw, hst]
    cases wants s' o.guard with
    | none => rfl
    | some t =>
      cases t with
      | false => exact runO_ext r _ _ _ (hput _ _)
      | true =>
        cases stepOp E (callF E) n0 g base s' h o.op with
        | none => rfl
        | some x => exact runO_ext r _ _ _ (hput _ _)
@[simp] theorem o_guard {op : AOp} {q : Nat} {b : Bool} : runO E n0 g base (⟨d, op, some (q, b)⟩ :: r) s h = grdK E n0 g base r s d h op q b (get s q) := by
  rw [runO_eq, opsRun]
  simp only [wants]
  cases get s q with
  | bool c =>
    simp only [grdK]
    cases hb : (c == b) with
    | true =>
      simp only [if_true]
      rw [runO_eq, opsRun]
      rfl
    | false => rfl
  | tup xs => cases xs <;> rfl
  | _ => rfl
@[simp] theorem grdK_tup {op : AOp} {q : Nat} {b : Bool} : grdK E n0 g base r s d h op q b (.tup []) = runO E n0 g base r (put s d (.tup [])) h := rfl
@[simp] theorem grdK_tt {op : AOp} {q : Nat} : grdK E n0 g base r s d h op q true (.bool true) = runO E n0 g base (⟨d, op, none⟩ :: r) s h := rfl
@[simp] theorem grdK_tf {op : AOp} {q : Nat} : grdK E n0 g base r s d h op q true (.bool false) = runO E n0 g base r (put s d (.tup [])) h := rfl
@[simp] theorem grdK_ft {op : AOp} {q : Nat} : grdK E n0 g base r s d h op q false (.bool true) = runO E n0 g base r (put s d (.tup [])) h := rfl
@[simp] theorem grdK_ff {op : AOp} {q : Nat} : grdK E n0 g base r s d h op q false (.bool false) = runO E n0 g base (⟨d, op, none⟩ :: r) s h := rfl

/-! code -/
@[simp] theorem k_skip : runF E n0 g .skip s h = some (.nrm, s, h) := runF_skip
def seqK (E : Env) (n0 : Nat) (g : Bool) (b : AC) : Option (Ext × Slots × Heap) → Option (Ext × Slots × Heap)
  | some (.nrm, s, h) => runF E n0 g b s h
  | r => r
@[simp] theorem seqK_nrm {b : AC} : seqK E n0 g b (some (.nrm, s, h)) = runF E n0 g b s h := rfl
@[simp] theorem seqK_exit {b : AC} {j : Nat} : seqK E n0 g b (some (.exit j, s, h)) = some (.exit j, s, h) := rfl
@[simp] theorem seqK_ret {b : AC} : seqK E n0 g b (some (.ret, s, h)) = some (.ret, s, h) := rfl
@[simp] theorem seqK_none {b : AC} : seqK E n0 g b none = none := rfl
@[simp] theorem seqK_ite {b : AC} {c : Prop} [Decidable c] {x y : Option (Ext × Slots × Heap)} : seqK E n0 g b (if c then x else y) = if c then seqK E n0 g b x else seqK E n0 g b y := by split <;> rfl
theorem k_seq {a b : AC} : runF E n0 g (.seq a b) s h = seqK E n0 g b (runF E n0 g a s h) := by
  rw [runF_seq]
  rfl
def condK (E : Env) (n0 : Nat) (g : Bool) (a b : AC) (s : Slots) (h : Heap) : AV → Option (Ext × Slots × Heap)
  | .bool true => runF E n0 g a s h
  | .bool false => runF E n0 g b s h
  | _ => none
@[simp] theorem condK_bool {a b : AC} {c : Bool} : condK E n0 g a b s h (.bool c) = if c = true then runF E n0 g a s h else runF E n0 g b s h := by cases c <;> rfl
theorem k_cond {c : Opd} {a b : AC} : runF E n0 g (.cond c a b) s h = condK E n0 g a b s h (val E s c) := by
  rw [runF_cond]
  cases val E s c with
  | bool t => cases t <;> rfl
  | _ => rfl
theorem k_assoc {a b c : AC} : runF E n0 g (.seq (.seq a b) c) s h = seqK E n0 g (.seq b c) (runF E n0 g a s h) := by
  rw [k_seq, k_seq]
  cases runF E n0 g a s h with
  | none => rfl
  | some x =>
    obtain ⟨e, s1, h1⟩ := x
    cases e with
    | nrm => rw [seqK_nrm, seqK_nrm, k_seq]
    | _ => rfl
theorem k_or {n : Nat} {a b c : AC} : runF E n0 g (.seq (.cond (.t n) .skip a) (.cond (.t n) b c)) s h = condK E n0 g b (.seq a (.cond (.t n) b c)) s h (get s n) := by
  rw [k_seq, k_cond]
  simp only [val]
  cases hx : get s n with
  | bool t =>
    cases t with
    | true =>
      rw [condK_bool, condK_bool, if_pos rfl, if_pos rfl, k_skip, seqK_nrm, k_cond]
      simp only [val, hx]
      rfl
    | false =>
      rw [condK_bool, condK_bool, if_neg (by simp), if_neg (by simp), k_seq]
  | _ => rfl
def blkK (L : Option (List Nat)) (id : Nat) : Option (Ext × Slots × Heap) → Option (Ext × Slots × Heap)
  | some (.nrm, s, h) => some (.nrm, clearO L s, h)
  | some (.exit j, s, h) => if j = id then some (.nrm, clearO L s, h) else some (.exit j, s, h)
  | r => r
@[simp] theorem blkK_nrm {L : Option (List Nat)} {id : Nat} : blkK L id (some (.nrm, s, h)) = some (.nrm, clearO L s, h) := rfl
@[simp] theorem blkK_exit {L : Option (List Nat)} {id j : Nat} : blkK L id (some (.exit j, s, h)) = if j = id then some (.nrm, clearO L s, h) else some (.exit j, s, h) := rfl
@[simp] theorem blkK_ret {L : Option (List Nat)} {id : Nat} : blkK L id (some (.ret, s, h)) = some (.ret, s, h) := rfl
@[simp] theorem blkK_none {L : Option (List Nat)} {id : Nat} : blkK L id none = none := rfl
@[simp] theorem blkK_ite {L : Option (List Nat)} {id : Nat} {c : Prop} [Decidable c] {x y : Option (Ext × Slots × Heap)} : blkK L id (if c then x else y) = if c then blkK L id x else blkK L id y := by split <;> rfl
theorem k_block {L : Option (List Nat)} {id : Nat} {b : AC} : runF E n0 g (.block L id b) s h = blkK L id (runF E n0 g b s h) := by
  rw [runF_block]
  rfl
def regK (L : Option (List Nat)) : Option (Slots × Heap) → Option (Ext × Slots × Heap)
  | some (s, h) => some (.nrm, clearO L s, h)
  | none => none
@[simp] theorem regK_some {L : Option (List Nat)} : regK L (some (s, h)) = some (.nrm, clearO L s, h) := rfl
@[simp] theorem regK_none {L : Option (List Nat)} : regK L none = none := rfl
@[simp] theorem regK_ite {L : Option (List Nat)} {c : Prop} [Decidable c] {x y : Option (Slots × Heap)} : regK L (if c then x else y) = if c then regK L x else regK L y := by split <;> rfl
theorem regK_ext {L : List Nat} {x y : Option (Slots × Heap)} (he : x.map (fun p => (fun t => get p.1 t, p.2)) = y.map (fun p => (fun t => get p.1 t, p.2))) : regK (some L) x = regK (some L) y := by
  cases x with
  | none => cases y with
    | none => rfl
    | some b => cases he
  | some a => cases y with
    | none => cases he
    | some b =>
      obtain ⟨s1, h1⟩ := a
      obtain ⟨s2, h2⟩ := b
      simp only [Option.map_some, Option.some.injEq, Prod.mk.injEq] at he
      obtain ⟨h3, rfl⟩ := he
      simp only [regK, clearO]
      have : (fun t => (t, get s1 t)) = fun t => (t, get s2 t) := by
        funext t
        rw [show get s1 t = get s2 t from congrFun h3 t]
      rw [this]
/-- a guard that is not known: both cases, and in each it is known -/
@[simp] theorem regK_grd {L : List Nat} {op : AOp} {q : Nat} {b c : Bool} (hq : get s q = .bool c) : regK (some L) (grdK E n0 g base r s d h op q b (.bool c)) =
    if c = true then regK (some L) (grdK E n0 g base r ((q, .bool true) :: s) d h op q b (.bool true)) else regK (some L) (grdK E n0 g base r ((q, .bool false) :: s) d h op q b (.bool false)) := by
  have hx : ∀ t, get s t = get ((q, .bool c) :: s) t := by
    intro t
    simp only [get]
    split
    · rename_i e
      rw [e, hq]
    · rfl
  have hput : get (put s d (.tup [])) = get (put ((q, .bool c) :: s) d (.tup [])) := by
    funext t
    cases d with
    | none => exact hx t
    | some d =>
      simp only [put]
      rw [get, get]
      split
      · rfl
      · exact hx t
  have key : regK (some L) (grdK E n0 g base r s d h op q b (.bool c)) = regK (some L) (grdK E n0 g base r ((q, .bool c) :: s) d h op q b (.bool c)) := by
    apply regK_ext
    simp only [grdK]
    split
    · exact runO_ext _ _ _ _ hx
    · exact runO_ext _ _ _ _ (congrFun hput)
  rw [key]
  cases c <;> rfl
theorem k_reg {L : Option (List Nat)} {pre : List Ob} {ops : List AOper} : runF E n0 g (.reg L pre ops none) s h = regK L (runO E n0 g h.length ops s (h ++ pre)) := by
  rw [runF_reg]
  cases hx : opsRun E (callF E) n0 g h.length ops s (h ++ pre) with
  | none => rw [runO_eq, hx]; rfl
  | some p => rw [runO_eq, hx]; rfl
theorem k_reg0 {L : Option (List Nat)} {ops : List AOper} : runF E n0 g (.reg L [] ops none) s h = regK L (runO E n0 g h.length ops s h) := by
  rw [k_reg, List.append_nil]
/-! regions in which Go leaves an order open: the run keeps the heaps that it has passed -/
def ptrO : AV → Option Nat
  | .ptr p _ => some p
  | _ => none
def arrO : AV → Option Nat
  | .arr p _ _ => some p
  | _ => none
@[simp] theorem ptrO_ptr {o k : Nat} : ptrO (.ptr o k) = some o := rfl
@[simp] theorem ptrO_eptr {xs : List AV} : ptrO (.eptr xs) = none := rfl
@[simp] theorem arrO_arr {o k l : Nat} : arrO (.arr o k l) = some o := rfl
@[simp] theorem arrO_sl {c : Cap} {xs : List AV} : arrO (.sl c xs) = none := rfl
def lookO (E : Env) (s : Slots) : AOp → Option Nat
  | .ld _ _ x => ptrO (val E s x)
  | .b2s x => arrO (val E s x)
  | _ => none
theorem looks_none {op : AOp} : looks E s ⟨d, op, none⟩ = lookO E s op := by
  cases op <;> first | rfl | (simp only [looks, wants, lookO, ptrO, arrO]; split <;> simp_all)
abbrev Tr := List (Heap × Option Nat)
def runTr (E : Env) (n0 : Nat) (g : Bool) (base : Nat) (ops : List AOper) (s : Slots) (h : Heap) (acc : Tr) : Option (Slots × Heap × Tr) := (runO E n0 g base ops s h).map fun p => (p.1, p.2, acc ++ opsTrace E (callF E) n0 g base ops s h)
def tK (E : Env) (n0 : Nat) (g : Bool) (base : Nat) (r : List AOper) (acc : Tr) : Option (Slots × Heap) → Option (Slots × Heap × Tr)
  | some (s, h) => runTr E n0 g base r s h acc
  | none => none
@[simp] theorem tK_some {acc : Tr} : tK E n0 g base r acc (some (s, h)) = runTr E n0 g base r s h acc := rfl
@[simp] theorem tK_none {acc : Tr} : tK E n0 g base r acc none = none := rfl
@[simp] theorem tK_ite {acc : Tr} {c : Prop} [Decidable c] {x y : Option (Slots × Heap)} : tK E n0 g base r acc (if c then x else y) = if c then tK E n0 g base r acc x else tK E n0 g base r acc y := by split <;> rfl
@[simp] theorem runTr_nil {acc : Tr} : runTr E n0 g base [] s h acc = some (s, h, acc ++ [(h, none)]) := rfl
@[simp] theorem runTr_cons {op : AOp} {acc : Tr} : runTr E n0 g base (⟨d, op, none⟩ :: r) s h acc = tK E n0 g base r (acc ++ [(h, lookO E s op)]) (runO E n0 g base [⟨d, op, none⟩] s h) := by
  rw [runTr, o_step, o_step, opsTrace, looks_none]
  simp only [wants]
  cases stepOp E (callF E) n0 g base s h op with
  | none => rfl
  | some x =>
    obtain ⟨v, h1⟩ := x
    simp only [stepK_some, runO_nil, tK_some, runTr, List.append_assoc, List.cons_append, List.nil_append]
def grdT (E : Env) (n0 : Nat) (g : Bool) (base : Nat) (r : List AOper) (s : Slots) (d : Option Nat) (h : Heap) (acc : Tr) (op : AOp) (q : Nat) (b : Bool) : AV → Option (Slots × Heap × Tr)
  | .bool c => if (c == b) = true then runTr E n0 g base (⟨d, op, none⟩ :: r) s h acc else runTr E n0 g base r (put s d (.tup [])) h (acc ++ [(h, none)])
  | .tup [] => runTr E n0 g base r (put s d (.tup [])) h (acc ++ [(h, none)])
  | _ => none
theorem looks_some {op : AOp} {q : Nat} {b : Bool} : looks E s ⟨d, op, some (q, b)⟩ = if wants s (some (q, b)) = some true then lookO E s op else none := by
  cases hw : wants s (some (q, b)) with
  | none => simp only [looks, hw]; rfl
  | some t =>
    cases t with
    | false => simp only [looks, hw]; simp
    | true =>
      simp only [looks, hw, if_true]
      cases op <;> first | rfl | (simp only [lookO, ptrO, arrO]; split <;> simp_all)
@[simp] theorem runTr_guard {op : AOp} {q : Nat} {b : Bool} {acc : Tr} : runTr E n0 g base (⟨d, op, some (q, b)⟩ :: r) s h acc = grdT E n0 g base r s d h acc op q b (get s q) := by
  rw [runTr, o_guard, opsTrace, looks_some]
  cases hq : get s q with
  | bool c =>
    have hw : wants s (some (q, b)) = some (c == b) := by simp only [wants, hq]
    simp only [grdK, grdT, hw]
    cases hb : (c == b) with
    | true =>
      simp only [if_true]
      rw [runTr, opsTrace, looks_none]
      rfl
    | false =>
      simp only [Bool.false_eq_true, if_false, runTr]
      simp
  | tup xs =>
    cases xs with
    | nil =>
      have hw : wants s (some (q, b)) = some false := by simp only [wants, hq]
      simp only [grdK, grdT, hw, runTr]
      simp
    | cons x xs => rfl
  | _ => rfl
@[simp] theorem grdT_tup {op : AOp} {q : Nat} {b : Bool} {acc : Tr} : grdT E n0 g base r s d h acc op q b (.tup []) = runTr E n0 g base r (put s d (.tup [])) h (acc ++ [(h, none)]) := rfl
@[simp] theorem grdT_tt {op : AOp} {q : Nat} {acc : Tr} : grdT E n0 g base r s d h acc op q true (.bool true) = runTr E n0 g base (⟨d, op, none⟩ :: r) s h acc := rfl
@[simp] theorem grdT_tf {op : AOp} {q : Nat} {acc : Tr} : grdT E n0 g base r s d h acc op q true (.bool false) = runTr E n0 g base r (put s d (.tup [])) h (acc ++ [(h, none)]) := rfl
@[simp] theorem grdT_ft {op : AOp} {q : Nat} {acc : Tr} : grdT E n0 g base r s d h acc op q false (.bool true) = runTr E n0 g base r (put s d (.tup [])) h (acc ++ [(h, none)]) := rfl
@[simp] theorem grdT_ff {op : AOp} {q : Nat} {acc : Tr} : grdT E n0 g base r s d h acc op q false (.bool false) = runTr E n0 g base (⟨d, op, none⟩ :: r) s h acc := rfl
theorem opsTrace_ext : ∀ (ops : List AOper) (s s' : Slots) (h : Heap), (∀ t, get s t = get s' t) → opsTrace E (callF E) n0 g base ops s h = opsTrace E (callF E) n0 g base ops s' h
  | [], _, _, _, _ => rfl
  | o :: r, s, s', h, hs => by
    have hv : val E s = val E s' := by
      funext x
      cases x <;> simp only [val]
      exact hs _
    have hw : ∀ q, wants s q = wants s' q := by
      intro q
      cases q with
      | none => rfl
      | some p => simp only [wants, hs]
    have hput : ∀ d v t, get (put s d v) t = get (put s' d v) t := by
      intro d v t
      cases d with
      | none => exact hs t
      | some d =>
        simp only [put, get]
        split
        · rfl
        · exact hs t
    have hl : looks E s o = looks E s' o := by simp only [looks, hw, hv]
    have hst : stepOp E (callF E) n0 g base s h o.op = stepOp E (callF E) n0 g base s' h o.op := by simp only [stepOp, hv]
    simp only [opsTrace, hw, hst, hl]
    congr 1
    split
    · split
      · exact opsTrace_ext r _ _ _ (hput _ _)
      · rfl
    · exact opsTrace_ext r _ _ _ (hput _ _)
def regT (L : Option (List Nat)) (dr : List (Nat × List Nat)) : Option (Slots × Heap × Tr) → Option (Ext × Slots × Heap)
  | some (s, h, tr) => if drawOk tr dr = true then some (.nrm, clearO L s, h) else none
  | none => none
@[simp] theorem regT_some {L : Option (List Nat)} {dr : List (Nat × List Nat)} {tr : Tr} : regT L dr (some (s, h, tr)) = if drawOk tr dr = true then some (.nrm, clearO L s, h) else none := rfl
@[simp] theorem regT_none {L : Option (List Nat)} {dr : List (Nat × List Nat)} : regT L dr none = none := rfl
@[simp] theorem regT_ite {L : Option (List Nat)} {dr : List (Nat × List Nat)} {c : Prop} [Decidable c] {x y : Option (Slots × Heap × Tr)} : regT L dr (if c then x else y) = if c then regT L dr x else regT L dr y := by split <;> rfl
theorem regT_ext {L : List Nat} {dr : List (Nat × List Nat)} {x y : Option (Slots × Heap × Tr)} (he : x.map (fun p => (fun t => get p.1 t, p.2)) = y.map (fun p => (fun t => get p.1 t, p.2))) : regT (some L) dr x = regT (some L) dr y := by
  cases x with
  | none => cases y with
    | none => rfl
    | some b => cases he
  | some a => cases y with
    | none => cases he
    | some b =>
      obtain ⟨s1, h1, t1⟩ := a
      obtain ⟨s2, h2, t2⟩ := b
      simp only [Option.map_some, Option.some.injEq, Prod.mk.injEq] at he
      obtain ⟨h3, rfl, rfl⟩ := he
      simp only [regT, clearO]
      have : (fun t => (t, get s1 t)) = fun t => (t, get s2 t) := by
        funext t
        rw [show get s1 t = get s2 t from congrFun h3 t]
      rw [this]
theorem runTr_ext {ops : List AOper} {s s' : Slots} {acc : Tr} (hs : ∀ t, get s t = get s' t) : (runTr E n0 g base ops s h acc).map (fun p => (fun t => get p.1 t, p.2)) = (runTr E n0 g base ops s' h acc).map (fun p => (fun t => get p.1 t, p.2)) := by
  have h1 := runO_ext (E := E) (n0 := n0) (g := g) (base := base) ops s s' h hs
  simp only [runTr, opsTrace_ext ops s s' h hs]
  cases hx : runO E n0 g base ops s h with
  | none => cases hy : runO E n0 g base ops s' h with
    | none => rfl
    | some b => rw [hx, hy] at h1; cases h1
  | some a => cases hy : runO E n0 g base ops s' h with
    | none => rw [hx, hy] at h1; cases h1
    | some b =>
      rw [hx, hy] at h1
      simp only [Option.map_some, Option.some.injEq, Prod.mk.injEq] at h1 ⊢
      exact ⟨h1.1, h1.2, trivial⟩
@[simp] theorem regT_grd {L : List Nat} {dr : List (Nat × List Nat)} {op : AOp} {q : Nat} {b c : Bool} {acc : Tr} (hq : get s q = .bool c) : regT (some L) dr (grdT E n0 g base r s d h acc op q b (.bool c)) =
    if c = true then regT (some L) dr (grdT E n0 g base r ((q, .bool true) :: s) d h acc op q b (.bool true)) else regT (some L) dr (grdT E n0 g base r ((q, .bool false) :: s) d h acc op q b (.bool false)) := by
  have hx : ∀ t, get s t = get ((q, .bool c) :: s) t := by
    intro t
    simp only [get]
    split
    · rename_i e
      rw [e, hq]
    · rfl
  have hput : get (put s d (.tup [])) = get (put ((q, .bool c) :: s) d (.tup [])) := by
    funext t
    cases d with
    | none => exact hx t
    | some d =>
      simp only [put]
      rw [get, get]
      split
      · rfl
      · exact hx t
  have key : regT (some L) dr (grdT E n0 g base r s d h acc op q b (.bool c)) = regT (some L) dr (grdT E n0 g base r ((q, .bool c) :: s) d h acc op q b (.bool c)) := by
    apply regT_ext
    simp only [grdT]
    split
    · exact runTr_ext hx
    · exact runTr_ext (congrFun hput)
  rw [key]
  cases c <;> rfl
theorem k_regd {L : Option (List Nat)} {pre : List Ob} {ops : List AOper} {dr : List (Nat × List Nat)} : runF E n0 g (.reg L pre ops (some dr)) s h = regT L dr (runTr E n0 g h.length ops s (h ++ pre) []) := by
  rw [runF_regd, runTr]
  cases hx : opsRun E (callF E) n0 g h.length ops s (h ++ pre) with
  | none => rw [runO_eq, hx]; rfl
  | some p => rw [runO_eq, hx]; simp only [Option.map_some, regT_some, List.nil_append]
theorem k_regd0 {L : Option (List Nat)} {pre : List Ob} {ops : List AOper} : runF E n0 g (.reg L pre ops (some [])) s h = regK L (runO E n0 g h.length ops s (h ++ pre)) := by
  rw [k_regd, runTr]
  cases runO E n0 g h.length ops s (h ++ pre) with
  | none => rfl
  | some p => rfl
attribute [simp] drawOk sameAt lookO
def loopK (E : Env) (n0 : Nat) (g : Bool) (L : Option (List Nat)) (b : AC) : Option (Ext × Slots × Heap) → Option (Ext × Slots × Heap)
  | some (.nrm, s, h) => runF E n0 g (.loop L b) s h
  | r => r
@[simp] theorem loopK_nrm {L : Option (List Nat)} {b : AC} : loopK E n0 g L b (some (.nrm, s, h)) = runF E n0 g (.loop L b) s h := rfl
@[simp] theorem loopK_exit {L : Option (List Nat)} {b : AC} {j : Nat} : loopK E n0 g L b (some (.exit j, s, h)) = some (.exit j, s, h) := rfl
@[simp] theorem loopK_ret {L : Option (List Nat)} {b : AC} : loopK E n0 g L b (some (.ret, s, h)) = some (.ret, s, h) := rfl
@[simp] theorem loopK_none {L : Option (List Nat)} {b : AC} : loopK E n0 g L b none = none := rfl
@[simp] theorem loopK_ite {L : Option (List Nat)} {b : AC} {c : Prop} [Decidable c] {x y : Option (Ext × Slots × Heap)} : loopK E n0 g L b (if c then x else y) = if c then loopK E n0 g L b x else loopK E n0 g L b y := by split <;> rfl
theorem k_loop {L : Option (List Nat)} {b : AC} : runF E n0 g (.loop L b) s h = loopK E n0 g L b (runF E n0 g b (clearO L s) h) := by
  rw [runF_loop]
  rfl
@[simp] theorem k_exit {id : Nat} : runF E n0 g (.exit id) s h = some (.exit id, s, h) := runF_exit
@[simp] theorem k_ret : runF E n0 g .ret s h = some (.ret, s, h) := runF_ret

/-! a whole call -/
def finR (fn : AFn) (n0 : Nat) (h : Heap) : Option (List AV) → Option (AV × Heap)
  | some vs => finish fn.grow n0 vs h
  | none => none
@[simp] theorem finR_some {fn : AFn} {vs : List AV} : finR fn n0 h (some vs) = finish fn.grow n0 vs h := rfl
def finK (fn : AFn) (n0 : Nat) : Option (Ext × Slots × Heap) → Option (AV × Heap)
  | some (.exit _, _, _) => none
  | some (_, s, h') => finR fn n0 h' (resOf s h' fn.res)
  | none => none
@[simp] theorem finK_ret {fn : AFn} : finK fn n0 (some (.ret, s, h)) = finR fn n0 h (resOf s h fn.res) := rfl
@[simp] theorem finK_nrm {fn : AFn} : finK fn n0 (some (.nrm, s, h)) = finR fn n0 h (resOf s h fn.res) := rfl
@[simp] theorem finK_none {fn : AFn} : finK fn n0 none = none := rfl
@[simp] theorem finK_ite {fn : AFn} {c : Prop} [Decidable c] {x y : Option (Ext × Slots × Heap)} : finK fn n0 (if c then x else y) = if c then finK fn n0 x else finK fn n0 y := by split <;> rfl
theorem go {f : Nat} {fn : AFn} {as : List AV} (hs : E.sp f = none) (hf : E.fn f = some fn) (hl : as.length = fn.np) : callF E f as h = finK fn h.length (runF E h.length fn.grow fn.code (params 0 as) h) := by
  rw [callF_eq hs hf hl]
  cases runF E h.length fn.grow fn.code (params 0 as) h with
  | none => rfl
  | some x =>
    obtain ⟨e, s, h'⟩ := x
    cases e with
    | exit _ => rfl
    | nrm =>
      simp only [finK]
      cases resOf s h' fn.res <;> rfl
    | ret =>
      simp only [finK]
      cases resOf s h' fn.res <;> rfl
end

theorem ite_same_then {α : Sort _} {p : Prop} [Decidable p] {a b c : α} : (if p then (if p then a else b) else c) = if p then a else c := by by_cases h : p <;> simp [h]
theorem ite_same_else {α : Sort _} {p : Prop} [Decidable p] {a b c : α} : (if p then a else (if p then b else c)) = if p then a else c := by by_cases h : p <;> simp [h]
attribute [simp] ite_same_then ite_same_else
@[simp] theorem ite_and_merge {α : Sort _} {p q : Prop} [Decidable p] [Decidable q] {a c : α} : (if p then (if q then a else c) else c) = if p ∧ q then a else c := by by_cases h : p <;> simp [h]
@[simp] theorem ite_or_merge {α : Sort _} {p q : Prop} [Decidable p] [Decidable q] {a c : α} : (if p then a else (if q then a else c)) = if p ∨ q then a else c := by by_cases h : p <;> simp [h]
theorem fin_bool {x y : Bool} {H : Heap} (h : x = true ↔ y = true) : some (AV.bool x, H) = some (AV.bool y, H) := by rw [Bool.eq_iff_iff.2 h]
theorem fin_bool2 {x y x' y' : Bool} {H : Heap} (h : x = true ↔ y = true) (h' : x' = true ↔ y' = true) : some (AV.tup [AV.bool x, AV.bool x'], H) = some (AV.tup [AV.bool y, AV.bool y'], H) := by rw [Bool.eq_iff_iff.2 h, Bool.eq_iff_iff.2 h']
theorem ifE {α : Sort _} {c : Prop} [Decidable c] {x y z : α} (h1 : c → x = z) (h2 : ¬ c → y = z) : (if c then x else y) = z := by
  by_cases h : c
  · rw [if_pos h]; exact h1 h
  · rw [if_neg h]; exact h2 h
/-! values -/
@[simp] theorem val_t {E : Env} {s : Slots} {n : Nat} : val E s (.t n) = get s n := rfl
@[simp] theorem val_c {E : Env} {s : Slots} {v : AV} : val E s (.c v) = v := rfl
@[simp] theorem val_f {E : Env} {s : Slots} {k : Nat} : val E s (.f k) = .fn k [] := rfl
@[simp] theorem put_some {s : Slots} {d : Nat} {v : AV} : put s (some d) v = (d, v) :: s := rfl
@[simp] theorem put_none {s : Slots} {v : AV} : put s none v = s := rfl
attribute [simp] Ab.get clearO bin binS un resOf finish arg argL okRes below free one params fillParts fillElems splice cellsOf isLf isCap mkAgg pub pubL pubLs eqLs eqL notTup cutV
def hiK (n : Nat) : AV → Option Nat
  | .int _ i => if 0 ≤ i ∧ i ≤ (n : Int) then some i.toNat else none
  | _ => none
@[simp] theorem hiK_int {n : Nat} {k : IntKind} {i : Int} : hiK n (.int k i) = if 0 ≤ i ∧ i ≤ (n : Int) then some i.toNat else none := rfl
def loK (h : Nat) : AV → Option (Nat × Nat)
  | .int _ i => if 0 ≤ i ∧ i ≤ (h : Int) then some (i.toNat, h) else none
  | _ => none
@[simp] theorem loK_int {n : Nat} {k : IntKind} {i : Int} : loK n (.int k i) = if 0 ≤ i ∧ i ≤ (n : Int) then some (i.toNat, n) else none := rfl
def loB (v : AV) : Option Nat → Option (Nat × Nat)
  | some h => loK h v
  | none => none
@[simp] theorem loB_some {v : AV} {h : Nat} : loB v (some h) = loK h v := rfl
@[simp] theorem loB_none {v : AV} : loB v none = none := rfl
@[simp] theorem loB_ite {v : AV} {c : Prop} [Decidable c] {x y : Option Nat} : loB v (if c then x else y) = if c then loB v x else loB v y := by split <;> rfl
@[simp] theorem bounds_nn {f : Opd → AV} {n : Nat} : bounds f n none none = some (0, n) := rfl
@[simp] theorem bounds_nh {f : Opd → AV} {n : Nat} {x : Opd} : bounds f n none (some x) = (hiK n (f x)).map fun h => (0, h) := by
  simp only [bounds, hiK]
  cases f x <;> first | rfl | skip
  rename_i i
  by_cases hc : 0 ≤ i ∧ i ≤ (n : Int) <;> simp [hc]
@[simp] theorem bounds_ln {f : Opd → AV} {n : Nat} {x : Opd} : bounds f n (some x) none = loK n (f x) := by
  simp only [bounds, loK]
  cases f x <;> rfl
@[simp] theorem bounds_lh {f : Opd → AV} {n : Nat} {x y : Opd} : bounds f n (some x) (some y) = loB (f x) (hiK n (f y)) := by
  simp only [bounds, hiK, loB, loK]
  cases f y <;> first | rfl | skip
  rename_i i
  by_cases hc : 0 ≤ i ∧ i ≤ (n : Int)
  · simp only [hc]
    cases f x <;> rfl
  · simp [hc]
@[simp] theorem nleaves_agg {xs : List AV} : nleaves (.agg xs) = xs.length := rfl
@[simp] theorem nleaves_int {k : IntKind} {n : Int} : nleaves (.int k n) = 1 := rfl
@[simp] theorem nleaves_bool {b : Bool} : nleaves (.bool b) = 1 := rfl
@[simp] theorem nleaves_str {b : List UInt8} : nleaves (.str b) = 1 := rfl
@[simp] theorem nleaves_sl {c : Cap} {xs : List AV} : nleaves (.sl c xs) = 1 := rfl
@[simp] theorem nleaves_ptr {o k : Nat} : nleaves (.ptr o k) = 1 := rfl
@[simp] theorem nleaves_fn {f : Nat} {xs : List AV} : nleaves (.fn f xs) = 1 := rfl
@[simp] theorem leaves_agg {xs : List AV} : leaves (.agg xs) = xs := rfl
@[simp] theorem leaves_int {k : IntKind} {n : Int} : leaves (.int k n) = [.int k n] := rfl
@[simp] theorem leaves_bool {b : Bool} : leaves (.bool b) = [.bool b] := rfl
@[simp] theorem leaves_str {b : List UInt8} : leaves (.str b) = [.str b] := rfl
@[simp] theorem leaves_sl {c : Cap} {xs : List AV} : leaves (.sl c xs) = [.sl c xs] := rfl
@[simp] theorem leaves_ptr {o k : Nat} : leaves (.ptr o k) = [.ptr o k] := rfl
@[simp] theorem leaves_fn {f : Nat} {xs : List AV} : leaves (.fn f xs) = [.fn f xs] := rfl
@[simp] theorem sizeOk_nil {sz : Nat} : sizeOk sz [] = true := rfl
@[simp] theorem sizeOk_cons {sz : Nat} {x : AV} {xs : List AV} : sizeOk sz (x :: xs) = (nleaves x == sz) := rfl
theorem sizeOk_all {sz : Nat} {xs : List AV} (h : ∀ x ∈ xs, nleaves x = sz) : sizeOk sz xs = true := by
  cases xs with
  | nil => rfl
  | cons x xs => simp [h x (by simp)]
@[simp] theorem sizeOk_append {sz : Nat} {xs ys : List AV} (hx : sizeOk sz xs = true) (hy : sizeOk sz ys = true) : sizeOk sz (xs ++ ys) = true := by
  cases xs with
  | nil => exact hy
  | cons x xs => exact hx
@[simp] theorem elemsOf_sl {h : Heap} {sz : Nat} {c : Cap} {xs : List AV} : elemsOf h sz (.sl c xs) = if sizeOk sz xs then some xs else none := rfl
@[simp] theorem elemsOf_str {h : Heap} {b : List UInt8} : elemsOf h 1 (.str b) = some (b.map fun c => .int .u8 c.toNat) := rfl
@[simp] theorem optmap_ite {α β : Type} {f : α → β} {c : Prop} [Decidable c] {x y : Option α} : (if c then x else y).map f = if c then x.map f else y.map f := by split <;> rfl
@[simp] theorem binI_add {k : IntKind} {a b : Int} : binI .add k a b = some (.int k (k.wrap (a + b))) := rfl
@[simp] theorem binI_sub {k : IntKind} {a b : Int} : binI .sub k a b = some (.int k (k.wrap (a - b))) := rfl
@[simp] theorem binI_mul {k : IntKind} {a b : Int} : binI .mul k a b = some (.int k (k.wrap (a * b))) := rfl
@[simp] theorem binI_quo {k : IntKind} {a b : Int} : binI .quo k a b = if b = 0 then none else some (.int k (k.wrap (a.tdiv b))) := rfl
@[simp] theorem binI_rem {k : IntKind} {a b : Int} : binI .rem k a b = if b = 0 then none else some (.int k (a.tmod b)) := rfl
@[simp] theorem binI_eql {k : IntKind} {a b : Int} : binI .eql k a b = some (.bool (decide (a = b))) := by
  simp only [binI]
  congr
@[simp] theorem binI_neq {k : IntKind} {a b : Int} : binI .neq k a b = some (.bool (!decide (a = b))) := by
  simp only [binI]
  congr
@[simp] theorem binI_lss {k : IntKind} {a b : Int} : binI .lss k a b = some (.bool (decide (a < b))) := rfl
@[simp] theorem binI_leq {k : IntKind} {a b : Int} : binI .leq k a b = some (.bool (decide (a ≤ b))) := rfl
@[simp] theorem binI_gtr {k : IntKind} {a b : Int} : binI .gtr k a b = some (.bool (decide (b < a))) := rfl
@[simp] theorem binI_geq {k : IntKind} {a b : Int} : binI .geq k a b = some (.bool (decide (b ≤ a))) := rfl

/-! appending: the room is nobody's, or it is the run's own (its frontier lies in the part J of the heap) -/
def Own (k : Nat) (J : Heap) (sz : Nat) (c : Cap) (n : Nat) : Prop := c = .full ∨ ∃ o, c = .tok (k + o) ∧ J[o]? = some (.fr sz n)
theorem own_full {k n sz : Nat} {J : Heap} : Own k J sz .full n := .inl rfl
theorem Own.more {k sz n : Nat} {J J' : Heap} {c : Cap} (h : Own k J sz c n) : Own k (J ++ J') sz c n := by
  rcases h with h | ⟨o, h1, h2⟩
  · exact .inl h
  · exact .inr ⟨o, h1, by rw [List.getElem?_append_left (by rw [List.getElem?_eq_some_iff] at h2; exact h2.1)]; exact h2⟩
theorem appC_own {n0 : Nat} {g : Bool} {sz : Nat} {H1 J : Heap} {xs ys : List AV} {c : Cap} (h0 : n0 ≤ H1.length) (ho : Own H1.length J sz c xs.length) :
    ∃ c' J', appC n0 g (H1.length + J.length) 0 sz (H1 ++ (J ++ [.dead])) xs ys c = some (.sl c' (xs ++ ys), H1 ++ J') ∧ Own H1.length J' sz c' (xs ++ ys).length := by
  rcases ho with rfl | ⟨o, rfl, h2⟩
  · refine ⟨.tok (H1.length + J.length), J ++ [.fr sz (xs.length + ys.length)], ?_, .inr ⟨J.length, rfl, ?_⟩⟩
    · rw [appC_full, Nat.add_zero, List.set_append_right _ _ (by omega), Nat.add_sub_cancel_left, List.set_append_right _ _ (Nat.le_refl _), Nat.sub_self]
      rfl
    · rw [List.getElem?_append_right (Nat.le_refl _), Nat.sub_self, List.length_append]
      rfl
  · have hlt : o < J.length := by rw [List.getElem?_eq_some_iff] at h2; exact h2.1
    refine ⟨.tok (H1.length + o), (J ++ [Ob.dead]).set o (.fr sz (xs.length + ys.length)), ?_, .inr ⟨o, rfl, ?_⟩⟩
    · rw [appC_tok (by rw [List.getElem?_append_right (by omega), Nat.add_sub_cancel_left, List.getElem?_append_left hlt]; exact h2) (.inl (by omega)), List.set_append_right _ _ (by omega), Nat.add_sub_cancel_left]
    · rw [List.getElem?_set_self (by simp; omega), List.length_append]

/-! heaps -/
section
variable {H xs : List Ob} {v : Ob} {k : Nat}
@[simp] theorem hget0 : (H ++ xs)[H.length]? = xs[0]? := by rw [List.getElem?_append_right (Nat.le_refl _), Nat.sub_self]
@[simp] theorem hgetk : (H ++ xs)[H.length + k]? = xs[k]? := by rw [List.getElem?_append_right (Nat.le_add_right _ _), Nat.add_sub_cancel_left]
@[simp] theorem hset0 : (H ++ xs).set H.length v = H ++ xs.set 0 v := by rw [List.set_append_right _ _ (Nat.le_refl _), Nat.sub_self]
@[simp] theorem hsetk : (H ++ xs).set (H.length + k) v = H ++ xs.set k v := by rw [List.set_append_right _ _ (Nat.le_add_right _ _), Nat.add_sub_cancel_left]
@[simp] theorem htake_set {o : Nat} : (H.set o v).take H.length = H.set o v := List.take_of_length_le (by simp)
@[simp] theorem htake : (H ++ xs).take H.length = H := by simp
end
end Ab
/- Decimal numerals, as lists of bytes: plain facts. -/
namespace Ab
open Go
def dig (n : Nat) : UInt8 := UInt8.ofNat (48 + n)
def digs (n : Nat) : List UInt8 := if n < 10 then [dig n] else digs (n / 10) ++ [dig (n % 10)]
termination_by n
decreasing_by omega
theorem digs_lt {n : Nat} (h : n < 10) : digs n = [dig n] := by rw [digs, if_pos h]
theorem digs_ge {n : Nat} (h : ¬ n < 10) : digs n = digs (n / 10) ++ [dig (n % 10)] := by rw [digs, if_neg h]
theorem dig_toNat {n : Nat} (h : n < 10) : (dig n).toNat = 48 + n := by
  unfold dig
  rw [UInt8.toNat_ofNat']
  omega
theorem digs_pos (n : Nat) : 0 < (digs n).length := by
  by_cases h : n < 10
  · rw [digs_lt h]; simp
  · rw [digs_ge h]; simp
theorem digs_length : ∀ (k n : Nat), n < 10 ^ (k + 1) → (digs n).length ≤ k + 1
  | 0, n, h => by rw [digs_lt (by simpa using h)]; simp
  | k + 1, n, h => by
    by_cases h10 : n < 10
    · rw [digs_lt h10]; simp
    · rw [digs_ge h10, List.length_append]
      have := digs_length k (n / 10) (by rw [Nat.div_lt_iff_lt_mul (by omega), ← Nat.pow_succ]; exact h)
      simp
      omega
def isDec (c : UInt8) : Bool := 48 ≤ c.toNat && c.toNat ≤ 57
theorem isDec_dig {n : Nat} (h : n < 10) : isDec (dig n) = true := by
  unfold isDec
  rw [dig_toNat h, Bool.and_eq_true, decide_eq_true_eq, decide_eq_true_eq]
  omega
theorem digs_all (n : Nat) : ∀ c ∈ digs n, isDec c = true := by
  induction n using Nat.strongRecOn with
  | _ n ih =>
    intro c hc
    by_cases h : n < 10
    · rw [digs_lt h] at hc
      simp at hc
      rw [hc]
      exact isDec_dig h
    · rw [digs_ge h] at hc
      rcases List.mem_append.1 hc with hc | hc
      · exact ih (n / 10) (by omega) c hc
      · simp at hc
        rw [hc]
        exact isDec_dig (by omega)
/-- the number that a list of digits says, behind v -/
def nstep (v : Nat) (c : UInt8) : Nat := 10 * v + (c.toNat - 48)
def numOf (v : Nat) (s : List UInt8) : Nat := s.foldl nstep v
theorem numOf_nil (v : Nat) : numOf v [] = v := rfl
theorem numOf_cons (v : Nat) (c : UInt8) (r : List UInt8) : numOf v (c :: r) = numOf (10 * v + (c.toNat - 48)) r := by
  show numOf (nstep v c) r = _
  rw [nstep]
theorem numOf_append (v : Nat) (a b : List UInt8) : numOf v (a ++ b) = numOf (numOf v a) b := List.foldl_append ..
theorem isDec_iff {c : UInt8} : isDec c = true ↔ 48 ≤ c.toNat ∧ c.toNat ≤ 57 := by
  unfold isDec
  rw [Bool.and_eq_true, decide_eq_true_eq, decide_eq_true_eq]
theorem numOf_digs (n : Nat) : numOf 0 (digs n) = n := by
  induction n using Nat.strongRecOn with
  | _ n ih =>
    by_cases h : n < 10
    · rw [digs_lt h]
      rw [numOf_cons, numOf_nil, dig_toNat h]
      omega
    · rw [digs_ge h, numOf_append, ih (n / 10) (by omega)]
      rw [numOf_cons, numOf_nil, dig_toNat (show n % 10 < 10 by omega)]
      omega
theorem numOf_ge : ∀ (v : Nat) (s : List UInt8), v ≤ numOf v s
  | _, [] => Nat.le_refl _
  | v, c :: s => by
    rw [numOf_cons]
    exact Nat.le_trans (by omega) (numOf_ge _ s)
theorem numOf_lt : ∀ (v : Nat) (s : List UInt8), (∀ c ∈ s, isDec c = true) → numOf v s < (v + 1) * 10 ^ s.length
  | v, [], _ => by rw [numOf_nil]; simp
  | v, c :: s, h => by
    have hc := isDec_iff.1 (h c (by simp))
    have := numOf_lt (10 * v + (c.toNat - 48)) s fun d hd => h d (by simp [hd])
    rw [numOf_cons, List.length_cons, Nat.pow_succ]
    refine Nat.lt_of_lt_of_le this ?_
    rw [Nat.mul_comm (10 ^ s.length) 10, ← Nat.mul_assoc]
    exact Nat.mul_le_mul_right _ (by omega)
theorem dig_of {c : UInt8} (h : isDec c = true) : dig (c.toNat - 48) = c := by
  have h := isDec_iff.1 h
  apply UInt8.toNat_inj.1
  rw [dig_toNat (by omega)]
  omega
/-- what has no needless zero is the numeral of what it says -/
theorem digs_numOf : ∀ (n : Nat) (s : List UInt8), s.length = n → s ≠ [] → (∀ c ∈ s, isDec c = true) → (s.head? ≠ some 48 ∨ s.length = 1) → digs (numOf 0 s) = s
  | 0, s, hl, hn, _, _ => absurd (List.length_eq_zero_iff.1 hl) hn
  | 1, s, hl, hn, hd, _ => by
    match s, hl with
    | [c], _ =>
      have hc := hd c (by simp)
      have h2 := isDec_iff.1 hc
      rw [numOf_cons, numOf_nil, digs_lt (by omega), Nat.mul_zero, Nat.zero_add, dig_of hc]
  | n + 2, s, hl, hn, hd, h0 => by
    have hs : s = s.dropLast ++ [s.getLast hn] := (List.dropLast_concat_getLast hn).symm
    obtain ⟨a, c, rfl⟩ : ∃ a c, s = a ++ [c] := ⟨_, _, hs⟩
    have hla : a.length = n + 1 := by rw [List.length_append] at hl; simp only [List.length_cons, List.length_nil] at hl; omega
    have hna : a ≠ [] := by intro h; rw [h] at hla; simp at hla
    have hca := hd c (by simp)
    have h2 := isDec_iff.1 hca
    have hh : a.head? ≠ some 48 := by
      rcases h0 with h | h
      · intro e
        apply h
        cases a with
        | nil => exact absurd rfl hna
        | cons x a => simpa using e
      · rw [List.length_append] at h
        simp only [List.length_cons, List.length_nil] at h
        omega
    have ih := digs_numOf (n + 1) a hla hna (fun d hd' => hd d (by simp [hd'])) (.inl hh)
    have hpos : 1 ≤ numOf 0 a := by
      cases a with
      | nil => exact absurd rfl hna
      | cons x a =>
        have hx := isDec_iff.1 (hd x (by simp))
        have hx48 : x.toNat ≠ 48 := by
          intro e
          apply hh
          simp only [List.head?_cons, Option.some.injEq]
          apply UInt8.toNat_inj.1
          rw [e]
          rfl
        rw [numOf_cons]
        exact Nat.le_trans (by omega) (numOf_ge _ a)
    rw [numOf_append, numOf_cons, numOf_nil]
    rw [digs_ge (by omega)]
    have e1 : (10 * numOf 0 a + (c.toNat - 48)) / 10 = numOf 0 a := by omega
    have e2 : (10 * numOf 0 a + (c.toNat - 48)) % 10 = c.toNat - 48 := by omega
    rw [e1, e2, ih, dig_of hca]
theorem digs_head (n : Nat) : (digs n).head? ≠ some 48 ∨ (digs n).length = 1 := by
  induction n using Nat.strongRecOn with
  | _ n ih =>
    by_cases h : n < 10
    · rw [digs_lt h]
      exact .inr rfl
    · rw [digs_ge h]
      left
      have hne : digs (n / 10) ≠ [] := by
        intro e
        have := digs_pos (n / 10)
        rw [e] at this
        simp at this
      have hhead : (digs (n / 10) ++ [dig (n % 10)]).head? = (digs (n / 10)).head? := by
        cases hd : digs (n / 10) with
        | nil => exact absurd hd hne
        | cons x r => rfl
      rw [hhead]
      rcases ih (n / 10) (by omega) with h1 | h1
      · exact h1
      · intro e
        have h3 : n / 10 < 10 := by
          by_cases h4 : n / 10 < 10
          · exact h4
          · rw [digs_ge h4, List.length_append] at h1
            have := digs_pos (n / 10 / 10)
            simp at h1
            rw [h1] at this
            simp at this
        rw [digs_lt h3] at e
        simp only [List.head?_cons, Option.some.injEq] at e
        have := congrArg UInt8.toNat e
        rw [dig_toNat h3] at this
        have h5 : (48 : UInt8).toNat = 48 := rfl
        omega
/-- a number in decimal -/
def fmtI (n : Int) : List UInt8 := if n < 0 then 45 :: digs (-n).toNat else digs n.toNat
theorem fmtI_inj {a b : Int} (h : fmtI a = fmtI b) : a = b := by
  have hne : ∀ n (r : List UInt8), digs n ≠ 45 :: r := by
    intro n r e
    have := digs_all n 45 (by rw [e]; simp)
    exact absurd this (by decide)
  unfold fmtI at h
  split at h <;> split at h
  · have h1 : digs (-a).toNat = digs (-b).toNat := by simpa using h
    have := congrArg (numOf 0) h1
    rw [numOf_digs, numOf_digs] at this
    omega
  · exact absurd h.symm (hne _ _)
  · exact absurd h (hne _ _)
  · have := congrArg (numOf 0) h
    rw [numOf_digs, numOf_digs] at this
    omega
/-- the number that a text says, if it is the numeral of a word -/
def parseW (s : List UInt8) : Option Int :=
  if s.head? = some 45 then
    (if s.tail.all isDec = true ∧ s.tail ≠ [] ∧ s.tail.length ≤ 19 ∧ s.tail.head? ≠ some 48 ∧ numOf 0 s.tail ≤ 9223372036854775808 then some (-(numOf 0 s.tail : Int)) else none)
  else (if s.all isDec = true ∧ s ≠ [] ∧ s.length ≤ 19 ∧ (s.head? ≠ some 48 ∨ s.length = 1) ∧ numOf 0 s ≤ 9223372036854775807 then some (numOf 0 s : Int) else none)
theorem digs_ne (n : Nat) : digs n ≠ [] := by
  intro e
  have := digs_pos n
  rw [e] at this
  simp at this
theorem digs_ne45 (n : Nat) : (digs n).head? ≠ some 45 := by
  intro e
  cases hd : digs n with
  | nil => exact digs_ne n hd
  | cons c r =>
    rw [hd] at e
    simp only [List.head?_cons, Option.some.injEq] at e
    have := digs_all n c (by rw [hd]; simp)
    rw [e] at this
    exact absurd this (by decide)
theorem parseW_fmt {v : Int} (h : -9223372036854775808 ≤ v ∧ v ≤ 9223372036854775807) : parseW (fmtI v) = some v := by
  unfold fmtI
  by_cases hv : v < 0
  · rw [if_pos hv]
    have h1 := digs_length 18 (-v).toNat (by omega)
    have h2 : (digs (-v).toNat).all isDec = true := List.all_eq_true.2 (digs_all _)
    have h3 : (digs (-v).toNat).head? ≠ some 48 := by
      rcases digs_head (-v).toNat with h | h
      · exact h
      · intro e
        have h4 : (-v).toNat < 10 := by
          by_cases h5 : (-v).toNat < 10
          · exact h5
          · rw [digs_ge h5, List.length_append] at h
            have := digs_pos ((-v).toNat / 10)
            simp only [List.length_cons, List.length_nil] at h
            omega
        rw [digs_lt h4] at e
        simp only [List.head?_cons, Option.some.injEq] at e
        have h6 := congrArg UInt8.toNat e
        rw [dig_toNat h4] at h6
        have h7 : (48 : UInt8).toNat = 48 := rfl
        omega
    unfold parseW
    rw [List.head?_cons, if_pos rfl, List.tail_cons, if_pos ⟨h2, digs_ne _, h1, h3, by rw [numOf_digs]; omega⟩, numOf_digs]
    congr 1
    omega
  · rw [if_neg hv]
    have h1 := digs_length 18 v.toNat (by omega)
    have h2 : (digs v.toNat).all isDec = true := List.all_eq_true.2 (digs_all _)
    unfold parseW
    rw [if_neg (digs_ne45 _), if_pos ⟨h2, digs_ne _, h1, digs_head _, by rw [numOf_digs]; omega⟩, numOf_digs]
    congr 1
    omega
theorem parseW_some {s : List UInt8} {v : Int} (h : parseW s = some v) : (-9223372036854775808 ≤ v ∧ v ≤ 9223372036854775807) ∧ fmtI v = s := by
  unfold parseW at h
  split at h
  · rename_i h45
    split at h
    · rename_i hc
      obtain ⟨h1, h2, h3, h4, h5⟩ := hc
      cases h
      have hs : s = 45 :: s.tail := by
        cases s with
        | nil => simp at h45
        | cons c r => simp only [List.head?_cons, Option.some.injEq] at h45; rw [h45]; rfl
      have hd := digs_numOf _ s.tail rfl h2 (List.all_eq_true.1 h1) (.inl h4)
      have hpos : 0 < numOf 0 s.tail := by
        rcases Nat.eq_zero_or_pos (numOf 0 s.tail) with h | h
        · exfalso
          rw [h, digs_lt (by omega)] at hd
          apply h4
          rw [← hd]
          rfl
        · exact h
      refine ⟨by omega, ?_⟩
      unfold fmtI
      rw [if_pos (by omega), show (-(-(numOf 0 s.tail : Int))).toNat = numOf 0 s.tail by omega, hd]
      exact hs.symm
    · cases h
  · split at h
    · rename_i hc
      obtain ⟨h1, h2, h3, h4, h5⟩ := hc
      cases h
      refine ⟨by omega, ?_⟩
      unfold fmtI
      rw [if_neg (by omega), Int.toNat_natCast]
      exact digs_numOf _ s rfl h2 (List.all_eq_true.1 h1) h4
    · cases h
end Ab
