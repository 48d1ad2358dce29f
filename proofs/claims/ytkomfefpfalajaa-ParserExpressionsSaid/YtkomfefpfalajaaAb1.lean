/- The framework, part 1: Core, Rel, Strip, Alloc, Store. -/
import Derived.Calls
import Derived.Laws.World
import Derived.Laws.CopyRow
import Derived.Laws.Cells
/- The abstract machine: values without memory, a compact code, and its run (a function with fuel). -/
namespace Ab
open Go (IntKind BinOp UnOp)

inductive Cap where
  | none | full | tok (o : Nat)
  deriving DecidableEq

/-- Values without memory. sl: a slice, its elements in order (leaves or agg of leaves). agg: a struct or an array, its cells in order. ptr o off: cell off of object o.
eptr: a place of memory that never changes again, what it holds from there on. arr o off len: a slice over object o, from cell off on, len elements. -/
inductive AV where
  | int (k : IntKind) (n : Int)
  | bool (b : Bool)
  | str (s : List UInt8)
  | sl (c : Cap) (xs : List AV)
  | agg (xs : List AV)
  | tup (xs : List AV)
  | ptr (o off : Nat)
  | nilp
  | eptr (xs : List AV)
  | arr (o off len : Nat)
  | fn (f : Nat) (xs : List AV)
  | map (o : Nat)
  | no

mutual
def AV.beq : AV → AV → Bool
  | .int k n, .int k' n' => k == k' && n == n'
  | .bool a, .bool b => a == b
  | .str s, .str t => s == t
  | .sl c xs, .sl d ys => c == d && beqs xs ys
  | .agg xs, .agg ys => beqs xs ys
  | .tup xs, .tup ys => beqs xs ys
  | .ptr o k, .ptr p l => o == p && k == l
  | .nilp, .nilp => true
  | .eptr xs, .eptr ys => beqs xs ys
  | .arr o k n, .arr p l m => o == p && k == l && n == m
  | .fn f xs, .fn g ys => f == g && beqs xs ys
  | .map o, .map p => o == p
  | .no, .no => true
  | _, _ => false
def beqs : List AV → List AV → Bool
  | [], [] => true
  | x :: xs, y :: ys => AV.beq x y && beqs xs ys
  | _, _ => false
end

mutual
theorem AV.beq_refl : ∀ x : AV, AV.beq x x = true
  | .int .. | .bool _ | .str _ | .ptr .. | .nilp | .arr .. | .map _ | .no => by simp [AV.beq]
  | .sl _ xs | .agg xs | .tup xs | .eptr xs | .fn _ xs => by simp [AV.beq, beqs_refl xs]
theorem beqs_refl : ∀ xs : List AV, beqs xs xs = true
  | [] => rfl
  | x :: xs => by simp [beqs, AV.beq_refl x, beqs_refl xs]
end
mutual
theorem AV.beq_eq : ∀ x y : AV, AV.beq x y = true → x = y
  | .int .., y, h => by cases y <;> simp_all [AV.beq]
  | .bool _, y, h => by cases y <;> simp_all [AV.beq]
  | .str _, y, h => by cases y <;> simp_all [AV.beq]
  | .ptr .., y, h => by cases y <;> simp_all [AV.beq]
  | .nilp, y, h => by cases y <;> simp_all [AV.beq]
  | .arr .., y, h => by cases y <;> simp_all [AV.beq]
  | .map _, y, h => by cases y <;> simp_all [AV.beq]
  | .no, y, h => by cases y <;> simp_all [AV.beq]
  | .sl _ xs, y, h => by
    cases y <;> simp only [AV.beq, Bool.and_eq_true, beq_iff_eq, Bool.false_eq_true] at h
    rw [h.1, beqs_eq xs _ h.2]
  | .agg xs, y, h => by
    cases y <;> simp only [AV.beq, Bool.false_eq_true] at h
    rw [beqs_eq xs _ h]
  | .tup xs, y, h => by
    cases y <;> simp only [AV.beq, Bool.false_eq_true] at h
    rw [beqs_eq xs _ h]
  | .eptr xs, y, h => by
    cases y <;> simp only [AV.beq, Bool.false_eq_true] at h
    rw [beqs_eq xs _ h]
  | .fn _ xs, y, h => by
    cases y <;> simp only [AV.beq, Bool.and_eq_true, beq_iff_eq, Bool.false_eq_true] at h
    rw [h.1, beqs_eq xs _ h.2]
theorem beqs_eq : ∀ xs ys : List AV, beqs xs ys = true → xs = ys
  | [], ys, h => by cases ys <;> simp_all [beqs]
  | x :: xs, ys, h => by
    cases ys with
    | nil => simp [beqs] at h
    | cons y ys =>
      simp only [beqs, Bool.and_eq_true] at h
      rw [AV.beq_eq x y h.1, beqs_eq xs ys h.2]
end
instance : DecidableEq AV := fun x y => if h : AV.beq x y = true then isTrue (AV.beq_eq x y h) else isFalse fun e => h (e ▸ AV.beq_refl x)

/-- Objects: a variable or an array in memory (its cells), a frontier (n elements of sz cells: who may append), a map. -/
inductive Ob where
  | dead
  | cells (xs : List AV)
  | fr (sz n : Nat)
  | mp (es : List (AV × AV))
  deriving DecidableEq

abbrev Heap := List Ob
abbrev Slots := List (Nat × AV)

def get : Slots → Nat → AV
  | [], _ => .no
  | (k, v) :: r, t => if t = k then v else get r t

inductive Opd where
  | t (n : Nat)
  | c (v : AV)
  | f (k : Nat)
  | g (k : Nat)

inductive AOp where
  | mv (x : Opd)
  | pick (c a b : Opd)
  | bld (zero : List AV) (parts : List (Nat × Nat × Opd))
  | bsl (sz : Nat) (zero : AV) (n : Nat) (parts : List (Nat × Opd))
  | bsr (r n : Nat) (zero : List AV) (parts : List (Nat × Nat × Opd))
  | ld (agg : Bool) (n : Nat) (x : Opd)
  | st (n : Nat) (x y : Opd)
  | al (r : Nat) (zero : List AV)
  | bx (r : Nat) (x : Opd)
  | nilc (x : Opd)
  | bin (op : BinOp) (x y : Opd)
  | beq (neg : Bool) (x y : Opd)
  | eqs (neg : Bool) (ks : List Nat) (x y : Opd)
  | un (op : UnOp) (x : Opd)
  | conv (k : IntKind) (x : Opd)
  | b2s (x : Opd)
  | sls (x : Opd) (lo hi : Option Opd)
  | sll (sz : Nat) (x : Opd) (lo hi : Option Opd)
  | sla (n sz : Nat) (x : Opd) (lo hi : Option Opd)
  | fa (off : Nat) (x : Opd)
  | fld (agg : Bool) (off n : Nat) (x : Opd)
  | ia (sz : Nat) (x i : Opd)
  | iaa (len sz : Nat) (x i : Opd)
  | ixs (x i : Opd)
  | ixa (agg : Bool) (len sz : Nat) (x i : Opd)
  | ext (x : Opd) (i : Nat)
  | lens (x : Opd)
  | len (x : Opd)
  | lenc (n : Nat)
  | mm (max : Bool) (x y : Opd)
  | app (r sz bytes : Nat) (x y : Opd)
  | mks (r sz bytes : Nat) (zero : List AV) (l c : Opd)
  | mkf (f : Nat) (xs : List Opd)
  | call (f : Nat) (xs : List Opd)
  | callv (x : Opd) (xs : List Opd)

structure AOper where
  dst : Option Nat
  op : AOp
  guard : Option (Nat × Bool)

/-- Code. L: the slots that are kept (behind a region, behind a block, at a loop's head); what the others hold is forgotten. -/
inductive AC where
  | skip
  | reg (L : Option (List Nat)) (pre : List Ob) (ops : List AOper) (dr : Option (List (Nat × List Nat)))
  | seq (a b : AC)
  | cond (c : Opd) (a b : AC)
  | block (L : Option (List Nat)) (id : Nat) (b : AC)
  | loop (L : Option (List Nat)) (b : AC)
  | exit (id : Nat)
  | ret

inductive AR where
  | t (n : Nat)
  | cell (n : Nat) (agg : Bool) (k : Nat)

structure AFn where
  code : AC
  np : Nat
  res : List AR
  grow : Bool

structure Env where
  fn : Nat → Option AFn
  gl : Nat → Option (List AV)
  /-- contracts, in the place of bodies -/
  sp : Nat → Option (List AV → List Ob → Option (AV × List Ob)) := fun _ => none

def val (E : Env) (s : Slots) : Opd → AV
  | .t n => get s n
  | .c v => v
  | .f k => .fn k []
  | .g k => match E.gl k with | some xs => .eptr xs | none => .no

/-- A leaf: the value of one cell. -/
def isLf : AV → Bool
  | .agg _ | .tup _ | .no => false
  | _ => true
/-- a leaf that a function value may carry -/
def isCap : AV → Bool
  | .agg _ | .tup _ | .no | .fn .. => false
  | _ => true
/-- the cells of a value that is stored -/
def cellsOf : AV → Option (List AV)
  | .agg xs => if xs.all isLf then some xs else none
  | .tup _ | .no => none
  | v => some [v]
/-- how many cells an element has -/
def nleaves : AV → Nat
  | .agg xs => xs.length
  | _ => 1
def leaves : AV → List AV
  | .agg xs => xs
  | v => [v]
def mkAgg (agg : Bool) (xs : List AV) : Option AV := if agg then some (.agg xs) else match xs with | [x] => some x | _ => none

/-- a leaf that says nothing of objects, as it lies inside a slice -/
def pubL : AV → Option AV
  | .int k n => some (.int k n)
  | .bool b => some (.bool b)
  | .str s => some (.str s)
  | .sl _ xs => some (.sl .none xs)
  | _ => none
def pubLs : List AV → Option (List AV)
  | [] => some []
  | x :: xs => match pubL x, pubLs xs with | some y, some ys => some (y :: ys) | _, _ => none
def pub : AV → Option AV
  | .agg xs => match pubLs xs with | some ys => some (.agg ys) | none => none
  | v => pubL v

/-- the room for appending is not handed on -/
def argL : AV → AV
  | .sl _ xs => .sl .none xs
  | v => v
def arg : AV → AV
  | .agg xs => .agg (xs.map argL)
  | v => argL v

/-- may this leaf be handed back (or be stored) by who may name the objects below n0 alone? -/
def below (n0 : Nat) : AV → Bool
  | .int .. | .bool _ | .str _ | .nilp | .eptr _ | .no => true
  | .sl (.tok o) _ => o < n0
  | .sl _ _ => true
  | .ptr o _ | .arr o _ _ | .map o => o < n0
  | .agg _ | .tup _ => false
  | .fn _ xs => xs.isEmpty
def free (v : AV) : Bool := below 0 v

def intOf : AV → Option Int
  | .int _ n => some n
  | _ => none

def binI (op : BinOp) (k : IntKind) (a b : Int) : Option AV :=
  match op with
  | .add => some (.int k (k.wrap (a + b)))
  | .sub => some (.int k (k.wrap (a - b)))
  | .mul => some (.int k (k.wrap (a * b)))
  | .quo => if b = 0 then none else some (.int k (k.wrap (a.tdiv b)))
  | .rem => if b = 0 then none else some (.int k (a.tmod b))
  | .and => some (.int k (k.wrap ((BitVec.ofInt k.bits a &&& BitVec.ofInt k.bits b).toNat)))
  | .or => some (.int k (k.wrap ((BitVec.ofInt k.bits a ||| BitVec.ofInt k.bits b).toNat)))
  | .xor => some (.int k (k.wrap ((BitVec.ofInt k.bits a ^^^ BitVec.ofInt k.bits b).toNat)))
  | .andNot => some (.int k (k.wrap ((BitVec.ofInt k.bits a &&& ~~~ BitVec.ofInt k.bits b).toNat)))
  | .shl | .shr => none
  | .eql => some (.bool (a == b))
  | .neq => some (.bool (a != b))
  | .lss => some (.bool (decide (a < b)))
  | .leq => some (.bool (decide (a ≤ b)))
  | .gtr => some (.bool (decide (a > b)))
  | .geq => some (.bool (decide (a ≥ b)))

def shI (op : BinOp) (k : IntKind) (a b : Int) : Option AV :=
  if b < 0 then none else
  match op with
  | .shl => some (.int k (k.wrap (a * 2 ^ (min b.toNat k.bits))))
  | .shr => some (.int k (a.fdiv (2 ^ (min b.toNat k.bits))))
  | _ => none

def binS (op : BinOp) (x y : List UInt8) : Option AV :=
  match op with
  | .add => if x.length + y.length ≤ 9223372036854775807 then some (.str (x ++ y)) else none
  | .eql => some (.bool (x == y))
  | .neq => some (.bool (!(x == y)))
  | .lss => some (.bool (Go.Op.bytesLess x y))
  | .leq => some (.bool (Go.Op.bytesLess x y || x == y))
  | .gtr => some (.bool (!(Go.Op.bytesLess x y || x == y)))
  | .geq => some (.bool (!(Go.Op.bytesLess x y)))
  | _ => none

def bin (op : BinOp) : AV → AV → Option AV
  | .int k a, .int k' b => if op = .shl ∨ op = .shr then shI op k a b else if k = k' then binI op k a b else none
  | .str x, .str y => binS op x y
  | _, _ => none

def un (op : UnOp) : AV → Option AV
  | .int k n => match op with
    | .neg => some (.int k (k.wrap (0 - n)))
    | .xor => some (.int k (k.wrap ((BitVec.ofInt k.bits (if k.signed then -1 else k.max) ^^^ BitVec.ofInt k.bits n).toNat)))
    | _ => none
  | .bool b => match op with | .not => some (.bool !b) | _ => none
  | _ => none

/-- leaves that Go compares by their values; ks: 0 a number, 1 a bool, 2 a string -/
def eqL : Nat → AV → AV → Option Bool
  | 0, .int k a, .int k' b => if k = k' then some (a == b) else none
  | 1, .bool a, .bool b => some (a == b)
  | 2, .str a, .str b => some (a == b)
  | _, _, _ => none
def eqLs : List Nat → List AV → List AV → Option Bool
  | [], [], [] => some true
  | k :: ks, x :: xs, y :: ys => match eqL k x y with
    | some true => eqLs ks xs ys
    | some false => some false
    | none => none
  | _, _, _ => none

/-- the bounds of x[lo:hi] -/
def bounds (s : Opd → AV) (n : Nat) (lo hi : Option Opd) : Option (Nat × Nat) :=
  let h : Option Nat := match hi with
    | none => some n
    | some x => match s x with | .int _ i => if 0 ≤ i ∧ i ≤ (n : Int) then some i.toNat else none | _ => none
  match h with
  | none => none
  | some h => match lo with
    | none => some (0, h)
    | some x => match s x with | .int _ i => if 0 ≤ i ∧ i ≤ (h : Int) then some (i.toNat, h) else none | _ => none

def splice (xs : List AV) (off : Nat) (ys : List AV) : List AV := xs.take off ++ ys ++ xs.drop (off + ys.length)

def fillParts (s : Opd → AV) : List (Nat × Nat × Opd) → List AV → Option (List AV)
  | [], xs => some xs
  | (off, n, x) :: r, xs => match cellsOf (s x) with
    | some ys => if ys.length = n ∧ off + n ≤ xs.length then fillParts s r (splice xs off ys) else none
    | none => none
def fillElems (s : Opd → AV) (sz : Nat) : List (Nat × Opd) → List AV → Option (List AV)
  | [], xs => some xs
  | (i, x) :: r, xs => match pub (s x) with
    | some y => if nleaves y = sz ∧ i < xs.length then fillElems s sz r (xs.set i y) else none
    | none => none

def sizeOk (sz : Nat) : List AV → Bool
  | [] => true
  | x :: _ => nleaves x == sz

/-- Operations that neither read nor write an object. -/
def pureOp (s : Opd → AV) : AOp → Option AV
  | .mv x => some (s x)
  | .pick c a b => match s c with | .bool t => some (if t then s a else s b) | _ => none
  | .bld zero parts => match fillParts s parts zero with | some xs => some (.agg xs) | none => none
  | .bsl sz zero n parts => match fillElems s sz parts (List.replicate n zero) with | some xs => some (.sl .full xs) | none => none
  | .nilc x => match s x with | .ptr o k => some (.ptr o k) | .eptr xs => some (.eptr xs) | .fn f xs => some (.fn f xs) | _ => none
  | .bin op x y => bin op (s x) (s y)
  | .beq neg x y => match s x, s y with | .bool a, .bool b => some (.bool (if neg then !(a == b) else (a == b))) | _, _ => none
  | .eqs neg ks x y => match s x, s y with
    | .agg xs, .agg ys => match eqLs ks xs ys with | some b => some (.bool (if neg then !b else b)) | none => none
    | _, _ => none
  | .un op x => un op (s x)
  | .conv k x => match s x with | .int _ n => some (.int k (k.wrap n)) | _ => none
  | .sls x lo hi => match s x with
    | .str b => match bounds s b.length lo hi with | some (l, h) => some (.str ((b.take h).drop l)) | none => none
    | _ => none
  | .sll sz x lo hi => match s x with
    | .sl _ xs => if sizeOk sz xs then (match bounds s xs.length lo hi with | some (l, h) => some (.sl .none ((xs.take h).drop l)) | none => none) else none
    | _ => none
  | .fa off x => match s x with
    | .ptr o k => some (.ptr o (k + off))
    | .eptr xs => some (.eptr (xs.drop off))
    | _ => none
  | .fld agg off n x => match s x with
    | .agg xs => let ys := (xs.drop off).take n; if ys.length = n then mkAgg agg ys else none
    | _ => none
  | .ia sz x i => match s x, s i with
    | .sl _ xs, .int _ i => if 0 ≤ i then match xs[i.toNat]? with | some y => if nleaves y = sz then some (.eptr (leaves y)) else none | none => none else none
    | .arr o off len, .int _ i => if 0 ≤ i ∧ i < (len : Int) then some (.ptr o (off + i.toNat * sz)) else none
    | _, _ => none
  | .iaa len sz x i => match s x, s i with
    | .ptr o off, .int _ i => if 0 ≤ i ∧ i < (len : Int) then some (.ptr o (off + i.toNat * sz)) else none
    | .eptr xs, .int _ i => if 0 ≤ i ∧ i < (len : Int) then some (.eptr (xs.drop (i.toNat * sz))) else none
    | _, _ => none
  | .ixs x i => match s x, s i with
    | .str b, .int _ i => if 0 ≤ i then match b[i.toNat]? with | some c => some (.int .u8 c.toNat) | none => none else none
    | _, _ => none
  | .ixa agg len sz x i => match s x, s i with
    | .agg xs, .int _ i => if 0 ≤ i ∧ i < (len : Int) then let ys := (xs.drop (i.toNat * sz)).take sz; if ys.length = sz then mkAgg agg ys else none else none
    | _, _ => none
  | .ext x i => match s x with | .tup xs => xs[i]? | _ => none
  | .lens x => match s x with
    | .str b => some (.int .i64 b.length)
    | _ => none
  | .len x => match s x with
    | .sl _ xs => some (.int .i64 xs.length)
    | .arr _ _ n => some (.int .i64 n)
    | _ => none
  | .lenc n => some (.int .i64 n)
  | .mm max x y => match s x, s y with
    | .int k a, .int k' b => if k = k' then some (.int k (if max then (if b > a then b else a) else (if b < a then b else a))) else none
    | _, _ => none
  | .mkf f xs => if (xs.map s).all isCap then some (.fn f (xs.map s)) else none
  | _ => none

/-- the elements that an append or a conversion reads -/
def elemsOf (h : Heap) (sz : Nat) : AV → Option (List AV)
  | .sl _ xs => if sizeOk sz xs then some xs else none
  | .str b => if sz = 1 then some (b.map fun c => .int .u8 c.toNat) else none
  | .arr o off len => match h[o]? with
    | some (.cells xs) => if sz = 1 then match pubLs ((xs.drop off).take len) with
        | some ys => if ys.length = len then some ys else none
        | none => none
      else none
    | _ => none
  | _ => none
def bytesOf : List AV → Option (List UInt8)
  | [] => some []
  | .int .u8 n :: r => match bytesOf r with | some bs => some (UInt8.ofNat n.toNat :: bs) | none => none
  | _ => none

/-- Operations on objects. n0: the objects below it are the callers'; base: where this region's own objects begin. -/
def heapOp (n0 : Nat) (grow : Bool) (base : Nat) (s : Opd → AV) (h : Heap) : AOp → Option (AV × Heap)
  | .ld agg n x => match s x with
    | .ptr o off => match h[o]? with
      | some (.cells xs) => let ys := (xs.drop off).take n; if ys.length = n then (match mkAgg agg ys with | some v => some (v, h) | none => none) else none
      | _ => none
    | .eptr xs => let ys := xs.take n; if ys.length = n then (match mkAgg agg ys with | some v => some (v, h) | none => none) else none
    | _ => none
  | .st n x y => match s x, cellsOf (s y) with
    | .ptr o off, some ys => match h[o]? with
      | some (.cells xs) => if ys.length = n ∧ off + n ≤ xs.length ∧ (n0 ≤ o ∨ grow = true ∨ ys.all free = true) then some (.no, h.set o (.cells (splice xs off ys))) else none
      | _ => none
    | _, _ => none
  | .al r _ => some (.ptr (base + r) 0, h)
  | .bx r x => match cellsOf (s x) with | some ys => some (.ptr (base + r) 0, h.set (base + r) (.cells ys)) | none => none
  | .bsr r n zero parts => match fillParts s parts zero with
    | some xs => some (.arr (base + r) 0 n, h.set (base + r) (.cells xs))
    | none => none
  | .sla n sz x lo hi => match s x with
    | .ptr o off => match bounds s n lo hi with | some (l, k) => some (if l < k then .arr o (off + l * sz) (k - l) else .sl .none [], h) | none => none
    | _ => none
  | .sll sz x lo hi => match s x with
    | .arr o off len => match bounds s len lo hi with | some (l, k) => some (if l < k then .arr o (off + l * sz) (k - l) else .sl .none [], h) | none => none
    | _ => match pureOp s (.sll sz x lo hi) with | some v => some (v, h) | none => none
  | .b2s x => match s x with
    | .str _ => none
    | v => match elemsOf h 1 v with
      | some xs => match bytesOf xs with | some b => some (.str b, h) | none => none
      | none => none
  | .app r sz bytes x y => match elemsOf h sz (s y) with
    | some ys => match s x with
      | .sl c xs =>
        if sizeOk sz xs ∧ 2 * ((xs.length + ys.length) * bytes) + 2048 * bytes ≤ 281474976710656 then
          match c with
          | .full => some (.sl (.tok (base + r)) (xs ++ ys), h.set (base + r) (.fr sz (xs.length + ys.length)))
          | .tok o => match h[o]? with
            | some (.fr sz' n) => if sz' = sz ∧ n = xs.length ∧ (n0 ≤ o ∨ grow = true) then some (.sl (.tok o) (xs ++ ys), h.set o (.fr sz (xs.length + ys.length))) else none
            | _ => none
          | .none => none
        else none
      | _ => none
    | none => none
  | .mks r sz bytes zero l c => match s l, s c with
    | .int _ a, .int _ b => if a = b ∧ 0 ≤ a ∧ a * bytes ≤ 281474976710656 ∧ a ≤ 9223372036854775807 ∧ sz = zero.length ∧ 0 < sz then some (.arr (base + r) 0 a.toNat, h.set (base + r) (.cells (List.replicate a.toNat zero).flatten)) else none
    | _, _ => none
  | op => match pureOp s op with | some v => some (v, h) | none => none

def put (s : Slots) (d : Option Nat) (v : AV) : Slots := match d with | some d => (d, v) :: s | none => s

/-- the arguments of a call -/
def argsOf (s : Opd → AV) : List Opd → Option (List AV)
  | [] => some []
  | x :: r => match s x with
    | .tup _ => none
    | v => match argsOf s r with | some vs => some (arg v :: vs) | none => none
/-- a call: its callee, its arguments -/
def callee (s : Opd → AV) : AOp → Option (Nat × List AV)
  | .call f xs => match argsOf s xs with | some as => some (f, as) | none => none
  | .callv x xs => match s x with
    | .fn f ys => match argsOf s xs with | some as => some (f, as ++ ys) | none => none
    | _ => none
  | _ => none
def AOp.isCall : AOp → Bool
  | .call .. | .callv .. => true
  | _ => false

abbrev CallF := Nat → List AV → Heap → Option (AV × Heap)

def stepOp (E : Env) (cf : CallF) (n0 : Nat) (grow : Bool) (base : Nat) (s : Slots) (h : Heap) (o : AOp) : Option (AV × Heap) :=
  if o.isCall then
    match callee (val E s) o with
    | some (f, as) => match cf f as h with
      | some (v, h') => match E.fn f with
        | some fn => if grow = false ∧ fn.grow = true then (if h'.take n0 = h.take n0 then some (v, h') else none) else some (v, h')
        | none => none
      | none => none
    | none => none
  else heapOp n0 grow base (val E s) h o

/-- is an operation carried out? -/
def wants (s : Slots) : Option (Nat × Bool) → Option Bool
  | none => some true
  | some (g, b) => match get s g with | .bool c => some (c == b) | .tup [] => some false | _ => none

def opsRun (E : Env) (cf : CallF) (n0 : Nat) (grow : Bool) (base : Nat) : List AOper → Slots → Heap → Option (Slots × Heap)
  | [], s, h => some (s, h)
  | o :: r, s, h => match wants s o.guard with
    | some true => match stepOp E cf n0 grow base s h o.op with
      | some (v, h') => opsRun E cf n0 grow base r (put s o.dst v) h'
      | none => none
    | some false => opsRun E cf n0 grow base r (put s o.dst (.tup [])) h
    | none => none

/-- which object does an operation read? -/
def looks (E : Env) (s : Slots) (o : AOper) : Option Nat :=
  match wants s o.guard, o.op with
  | some true, .ld _ _ x => match val E s x with | .ptr p _ => some p | _ => none
  | some true, .b2s x => match val E s x with | .arr p _ _ => some p | _ => none
  | _, _ => none
/-- the heaps ahead of each operation of a region, and behind the last; the objects that the operations read -/
def opsTrace (E : Env) (cf : CallF) (n0 : Nat) (grow : Bool) (base : Nat) : List AOper → Slots → Heap → List (Heap × Option Nat)
  | [], _, h => [(h, none)]
  | o :: r, s, h => (h, looks E s o) :: match wants s o.guard with
    | some true => match stepOp E cf n0 grow base s h o.op with
      | some (v, h') => opsTrace E cf n0 grow base r (put s o.dst v) h'
      | none => []
    | _ => opsTrace E cf n0 grow base r (put s o.dst (.tup [])) h
/-- what an unordered reader reads is the same ahead of the writer and behind it -/
def sameAt (tr : List (Heap × Option Nat)) (i j : Nat) : Bool :=
  match tr[i]? with
  | some (_, some o) => match tr[j]?, tr[j + 1]? with
    | some (a, _), some (b, _) => decide (a[o]? = b[o]?)
    | _, _ => false
  | some (_, none) => true
  | none => false
def drawOk (tr : List (Heap × Option Nat)) (dr : List (Nat × List Nat)) : Bool := dr.all fun (i, js) => js.all fun j => sameAt tr i j

inductive Ext where
  | nrm | exit (id : Nat) | ret
  deriving DecidableEq

def resOf (s : Slots) (h : Heap) : List AR → Option (List AV)
  | [] => some []
  | .t n :: r => match get s n with
    | .tup _ => none
    | v => match resOf s h r with | some vs => some (v :: vs) | none => none
  | .cell n agg k :: r => match get s n, resOf s h r with
    | .ptr o off, some vs => match h[o]? with
      | some (.cells xs) => let ys := (xs.drop off).take k; if ys.length = k then (match mkAgg agg ys with | some v => some (v :: vs) | none => none) else none
      | _ => none
    | _, _ => none
def okRes (n0 : Nat) : AV → Bool
  | .agg xs => xs.all (below n0)
  | v => below n0 v
def one : List AV → AV
  | [v] => v
  | vs => .tup vs
/-- what a call hands back: of a function that does not grow the heap, nothing that names its own objects -/
def finish (grow : Bool) (n0 : Nat) (vs : List AV) (h : Heap) : Option (AV × Heap) :=
  if grow then some (one vs, h)
  else let ws := vs.map arg; if ws.all (okRes n0) then some (one ws, h.take n0) else none

def clearO : Option (List Nat) → Slots → Slots
  | none, s => s
  | some L, s => L.map fun t => (t, get s t)

def run (E : Env) (n0 : Nat) (grow : Bool) (cf : CallF) : Nat → AC → Slots → Heap → Option (Ext × Slots × Heap)
  | 0, _, _, _ => none
  | n + 1, c, s, h =>
    match c with
    | .skip => some (.nrm, s, h)
    | .reg L pre ops dr =>
      match opsRun E cf n0 grow h.length ops s (h ++ pre) with
      | none => none
      | some (s', h') => match dr with
        | none => some (.nrm, clearO L s', h')
        | some d => if drawOk (opsTrace E cf n0 grow h.length ops s (h ++ pre)) d = true then some (.nrm, clearO L s', h') else none
    | .seq a b => match run E n0 grow cf n a s h with
      | some (.nrm, s', h') => run E n0 grow cf n b s' h'
      | r => r
    | .cond x a b => match val E s x with
      | .bool true => run E n0 grow cf n a s h
      | .bool false => run E n0 grow cf n b s h
      | _ => none
    | .block L id b => match run E n0 grow cf n b s h with
      | some (.nrm, s', h') => some (.nrm, clearO L s', h')
      | some (.exit j, s', h') => if j = id then some (.nrm, clearO L s', h') else some (.exit j, s', h')
      | r => r
    | .loop L b => match run E n0 grow cf n b (clearO L s) h with
      | some (.nrm, s', h') => run E n0 grow cf n (.loop L b) s' h'
      | r => r
    | .exit id => some (.exit id, s, h)
    | .ret => some (.ret, s, h)

def params : Nat → List AV → Slots
  | _, [] => []
  | i, v :: r => (i, v) :: params (i + 1) r

def call (E : Env) : Nat → CallF
  | 0 => fun _ _ _ => none
  | n + 1 => fun f as h => match E.sp f with
    | some sp => sp as h
    | none => match E.fn f with
      | none => none
      | some fn => if as.length = fn.np then
          match run E h.length fn.grow (call E n) n fn.code (params 0 as) h with
          | some (.exit _, _, _) => none
          | some (_, s, h') => match resOf s h' fn.res with
            | some vs => finish fn.grow h.length vs h'
            | none => none
          | none => none
        else none

end Ab
/- What a value without memory stands for in a world; how worlds go on. -/
namespace Ab
open Go

abbrev MutP := Nat → Nat → Prop

/-- From cell off of block b on: vs, for ever. -/
def Imm (w : World) (M : MutP) (b off : Nat) (vs : List Value) : Prop :=
  ∀ j v, vs[j]? = some v → w.cell? ⟨b, off + j, none⟩ = some v ∧ ¬ M b (off + j)

mutual
inductive RP (w : World) (M : MutP) : AV → Value → Prop
  | int (k : IntKind) (n : Int) : RP w M (.int k n) (.int k n)
  | bool (b : Bool) : RP w M (.bool b) (.bool b)
  | str (s : List UInt8) : RP w M (.str s) (.string ⟨s.toArray⟩)
  | sl0 (a : Option Addr) (cap : Nat) : RP w M (.sl .none []) (.slice a 0 cap)
  | sl (b off cap sz : Nat) (xs : List AV) (vs : List Value) (ne : xs ≠ []) (hsz : ∀ x ∈ xs, nleaves x = sz) (hs : RPs w M (xs.flatMap leaves) vs)
      (himm : Imm w M b off vs) (hcap : xs.length ≤ cap) : RP w M (.sl .none xs) (.slice (some ⟨b, off, none⟩) xs.length cap)
inductive RPs (w : World) (M : MutP) : List AV → List Value → Prop
  | nil : RPs w M [] []
  | cons (x : AV) (v : Value) (xs : List AV) (vs : List Value) (h : RP w M x v) (hs : RPs w M xs vs) : RPs w M (x :: xs) (v :: vs)
end

/-- What never changes again stays, and stays so. -/
def WExt (w : World) (M : MutP) (w' : World) (M' : MutP) : Prop :=
  ∀ b off v, w.cell? ⟨b, off, none⟩ = some v → ¬ M b off → w'.cell? ⟨b, off, none⟩ = some v ∧ ¬ M' b off

theorem WExt.refl (w : World) (M : MutP) : WExt w M w M := fun _ _ _ h k => ⟨h, k⟩
theorem WExt.trans {w w' w'' : World} {M M' M'' : MutP} (h : WExt w M w' M') (h' : WExt w' M' w'' M'') : WExt w M w'' M'' :=
  fun b off v c k => let ⟨c', k'⟩ := h b off v c k; h' b off v c' k'
theorem Imm.mono {w w' : World} {M M' : MutP} {b off : Nat} {vs : List Value} (h : Imm w M b off vs) (e : WExt w M w' M') : Imm w' M' b off vs :=
  fun j v hv => let ⟨c, k⟩ := h j v hv; e _ _ _ c k
theorem Imm.drop {w : World} {M : MutP} {b off : Nat} {vs : List Value} (h : Imm w M b off vs) (n : Nat) : Imm w M b (off + n) (vs.drop n) := by
  intro j v hv
  rw [List.getElem?_drop] at hv
  have := h _ _ hv
  rwa [← Nat.add_assoc] at this
theorem Imm.take {w : World} {M : MutP} {b off : Nat} {vs : List Value} (h : Imm w M b off vs) (n : Nat) : Imm w M b off (vs.take n) := by
  intro j v hv
  rw [List.getElem?_take] at hv
  split at hv
  · exact h _ _ hv
  · cases hv
theorem Imm.nil {w : World} {M : MutP} {b off : Nat} : Imm w M b off [] := fun _ _ h => by simp at h

mutual
theorem RP.mono {w w' : World} {M M' : MutP} (e : WExt w M w' M') : ∀ {x : AV} {v : Value}, RP w M x v → RP w' M' x v
  | _, _, .int k n => .int k n
  | _, _, .bool b => .bool b
  | _, _, .str s => .str s
  | _, _, .sl0 a cap => .sl0 a cap
  | _, _, .sl b off cap sz xs vs ne hsz hs himm hcap => .sl b off cap sz xs vs ne hsz (RPs.mono e hs) (himm.mono e) hcap
theorem RPs.mono {w w' : World} {M M' : MutP} (e : WExt w M w' M') : ∀ {xs : List AV} {vs : List Value}, RPs w M xs vs → RPs w' M' xs vs
  | _, _, .nil => .nil
  | _, _, .cons x v xs vs h hs => .cons x v xs vs (RP.mono e h) (RPs.mono e hs)
end

theorem RPs.length {w : World} {M : MutP} {xs : List AV} {vs : List Value} : RPs w M xs vs → xs.length = vs.length
  | .nil => rfl
  | .cons _ _ _ _ _ hs => by simp [hs.length]
theorem RPs.append {w : World} {M : MutP} {xs ys : List AV} {us vs : List Value} (h : RPs w M xs us) (h' : RPs w M ys vs) : RPs w M (xs ++ ys) (us ++ vs) := by
  induction xs generalizing us with
  | nil => cases h; exact h'
  | cons x xs ih => cases h with | cons _ u _ us hx hs => exact .cons _ _ _ _ hx (ih hs)
theorem RPs.drop {w : World} {M : MutP} (n : Nat) : ∀ {xs : List AV} {vs : List Value}, RPs w M xs vs → RPs w M (xs.drop n) (vs.drop n) := by
  induction n with
  | zero => intro xs vs h; simpa using h
  | succ n ih =>
    intro xs vs h
    cases h with
    | nil => simpa using RPs.nil
    | cons x v xs vs _ hs => simpa using ih hs
theorem RPs.take {w : World} {M : MutP} (n : Nat) : ∀ {xs : List AV} {vs : List Value}, RPs w M xs vs → RPs w M (xs.take n) (vs.take n) := by
  induction n with
  | zero => intro xs vs h; simpa using RPs.nil
  | succ n ih =>
    intro xs vs h
    cases h with
    | nil => simpa using RPs.nil
    | cons x v xs vs hx hs => simpa using RPs.cons _ _ _ _ hx (ih hs)
theorem RPs.split {w : World} {M : MutP} : ∀ {xs ys : List AV} {vs : List Value}, RPs w M (xs ++ ys) vs → ∃ us ws, vs = us ++ ws ∧ RPs w M xs us ∧ RPs w M ys ws
  | [], ys, vs, h => ⟨[], vs, rfl, .nil, h⟩
  | x :: xs, ys, _, .cons _ v _ vs hx hs => by
    obtain ⟨us, ws, rfl, h1, h2⟩ := RPs.split hs
    exact ⟨v :: us, ws, rfl, .cons _ _ _ _ hx h1, h2⟩

/-- What stands for an object: a block, a slice's head, nothing (yet). -/
inductive GO where
  | non
  | blk (b : Nat)
  | hdr (a : Option Addr) (cap : Nat)

structure St where
  m : Nat → GO
  H : Heap
  M : MutP
  w : World

def CapOk (S : St) (c : Cap) (len : Nat) (u : Value) : Prop :=
  match c with
  | .none => True
  | .full => ∃ a, u = .slice a len len
  | .tok o => ∃ sz n, S.H[o]? = some (.fr sz n) ∧ len ≤ n ∧ (len = n → ∃ a cap, S.m o = .hdr a cap ∧ u = .slice a n cap)

def IsCells (S : St) (o : Nat) : Prop := ∃ ys, S.H[o]? = some (.cells ys)

/-- A leaf that is no function. -/
def RK (S : St) : AV → Value → Prop
  | .sl c xs, u => RP S.w S.M (.sl .none xs) u ∧ CapOk S c xs.length u
  | .ptr o off, u => IsCells S o ∧ ∃ b, S.m o = .blk b ∧ u = .pointer (some ⟨b, off, none⟩)
  | .nilp, u => u = .pointer none
  | .eptr xs, u => ∃ b off vs, u = .pointer (some ⟨b, off, none⟩) ∧ RPs S.w S.M xs vs ∧ Imm S.w S.M b off vs
  | .arr o off len, u => IsCells S o ∧ ∃ b cap, S.m o = .blk b ∧ u = .slice (some ⟨b, off, none⟩) len cap ∧ len ≤ cap
  | .int k n, u => u = .int k n
  | .bool b, u => u = .bool b
  | .str s, u => u = .string ⟨s.toArray⟩
  | .no, _ => True
  | _, _ => False

inductive All2 {α β : Type} (R : α → β → Prop) : List α → List β → Prop
  | nil : All2 R [] []
  | cons {x : α} {y : β} {xs : List α} {ys : List β} (h : R x y) (hs : All2 R xs ys) : All2 R (x :: xs) (y :: ys)

def RL (S : St) : AV → Value → Prop
  | .fn f xs, u => ∃ vs : Array Value, u = .func (.func f) #[] vs ∧ All2 (RK S) xs vs.toList ∧ xs.all isCap = true
  | v, u => RK S v u
def RC (S : St) : AV → Value → Prop
  | .agg xs, u => ∃ us : Array Value, u = .agg us ∧ All2 (RL S) xs us.toList ∧ xs.all isLf = true
  | v, u => RL S v u
def RV (S : St) : AV → Value → Prop
  | .tup xs, u => ∃ us : Array Value, u = .tuple us ∧ All2 (RC S) xs us.toList
  | v, u => RC S v u

theorem RL.eq_RK {S : St} {v : AV} {u : Value} (hv : ∀ f xs, v ≠ .fn f xs) : RL S v u = RK S v u := by
  cases v <;> first | rfl | exact absurd rfl (hv _ _)
theorem RC.eq_RL {S : St} {v : AV} {u : Value} (hv : ∀ xs, v ≠ .agg xs) : RC S v u = RL S v u := by
  cases v <;> first | rfl | exact absurd rfl (hv _)
theorem RV.eq_RC {S : St} {v : AV} {u : Value} (hv : ∀ xs, v ≠ .tup xs) : RV S v u = RC S v u := by
  cases v <;> first | rfl | exact absurd rfl (hv _)

section All2
variable {α β : Type} {R R' : α → β → Prop}
theorem All2.mono (h : ∀ x y, R x y → R' x y) : ∀ {xs : List α} {ys : List β}, All2 R xs ys → All2 R' xs ys
  | _, _, .nil => .nil
  | _, _, .cons hx hs => .cons (h _ _ hx) (hs.mono h)
theorem All2.length : ∀ {xs : List α} {ys : List β}, All2 R xs ys → xs.length = ys.length
  | _, _, .nil => rfl
  | _, _, .cons _ hs => by simp [hs.length]
theorem All2.append : ∀ {xs xs' : List α} {ys ys' : List β}, All2 R xs ys → All2 R xs' ys' → All2 R (xs ++ xs') (ys ++ ys')
  | _, _, _, _, .nil, h => h
  | _, _, _, _, .cons hx hs, h => .cons hx (hs.append h)
theorem All2.drop (n : Nat) : ∀ {xs : List α} {ys : List β}, All2 R xs ys → All2 R (xs.drop n) (ys.drop n) := by
  induction n with
  | zero => intro xs ys h; simpa using h
  | succ n ih => intro xs ys h; cases h with | nil => simpa using All2.nil | cons _ hs => simpa using ih hs
theorem All2.take (n : Nat) : ∀ {xs : List α} {ys : List β}, All2 R xs ys → All2 R (xs.take n) (ys.take n) := by
  induction n with
  | zero => intro xs ys h; simpa using All2.nil
  | succ n ih => intro xs ys h; cases h with | nil => simpa using All2.nil | cons hx hs => simpa using All2.cons hx (ih hs)
theorem All2.get : ∀ {xs : List α} {ys : List β}, All2 R xs ys → ∀ (i : Nat) (x : α), xs[i]? = some x → ∃ y, ys[i]? = some y ∧ R x y
  | _, _, .cons hx hs, 0, x, h => by simp at h; subst h; exact ⟨_, by simp, hx⟩
  | _, _, .cons _ hs, i + 1, x, h => by
    obtain ⟨y, hy, hr⟩ := hs.get i x (by simpa using h)
    exact ⟨y, by simpa using hy, hr⟩
  | _, _, .nil, i, x, h => by simp at h
theorem All2.of_get : ∀ {xs : List α} {ys : List β}, xs.length = ys.length → (∀ (i : Nat) (x : α) (y : β), xs[i]? = some x → ys[i]? = some y → R x y) → All2 R xs ys
  | [], [], _, _ => .nil
  | x :: xs, y :: ys, hl, h => .cons (h 0 x y (by simp) (by simp)) (All2.of_get (by simpa using hl) fun i a b ha hb => h (i + 1) a b (by simpa using ha) (by simpa using hb))
  | [], _ :: _, hl, _ => by simp at hl
  | _ :: _, [], hl, _ => by simp at hl
theorem All2.map_left {γ : Type} (f : γ → α) : ∀ {xs : List γ} {ys : List β}, All2 (fun x y => R (f x) y) xs ys → All2 R (xs.map f) ys
  | _, _, .nil => .nil
  | _, _, .cons hx hs => .cons hx (hs.map_left f)
theorem All2.cells : ∀ {xs : List α} {ys : List β}, All2 R xs ys → ∀ y ∈ ys, ∃ x ∈ xs, R x y
  | _, _, .cons hx hs, y, h => by
    cases h with
    | head => exact ⟨_, by simp, hx⟩
    | tail _ h => obtain ⟨x, hm, hr⟩ := hs.cells y h; exact ⟨x, by simp [hm], hr⟩
  | _, _, .nil, y, h => by cases h
end All2

/-- the block that an object holds -/
def own (S : St) (o : Nat) : Option Nat :=
  match S.H[o]?, S.m o with
  | some (.cells _), .blk b => some b
  | some (.fr _ n), .hdr (some a) cap => if n < cap then some a.block else none
  | some (.mp _), .blk b => some b
  | _, _ => none

def ObjOk (S : St) (o : Nat) : Prop :=
  match S.H[o]?, S.m o with
  | some (.cells xs), .blk b => ∃ (vs : Array Value) (t : TypeId), S.w.heap[b]? = some (.cells vs t (0, 0)) ∧ All2 (RL S) xs vs.toList ∧ xs.all isLf = true ∧ ∀ off, off < vs.size → S.M b off
  | some (.fr sz n), .hdr a cap => 0 < sz ∧ n ≤ cap ∧ (n < cap → ∃ b off, a = some ⟨b, off, none⟩ ∧ ∃ (vs : Array Value) (t : TypeId), S.w.heap[b]? = some (.cells vs t (0, 0)) ∧
      off + cap * sz ≤ vs.size ∧ ∀ j, n * sz ≤ j → j < cap * sz → S.M b (off + j))
  | some (.fr _ _), _ => False
  | some (.cells _), .hdr _ _ => False
  | some (.mp _), _ => False
  | _, _ => True

structure Good (S : St) : Prop where
  objs : ∀ o, ObjOk S o
  disj : ∀ o o' b, own S o = some b → own S o' = some b → o = o'
  there : ∀ o b, own S o = some b → b < S.w.heap.size

/-- How states go on. k: the objects below it are the callers'; g: may such an object be given what names a new one? -/
structure Step (k : Nat) (g : Bool) (S S' : St) : Prop where
  wext : WExt S.w S.M S'.w S'.M
  cells : ∀ o ys, S.H[o]? = some (.cells ys) → (S.m o ≠ .non → S'.m o = S.m o) ∧ ∃ ys', S'.H[o]? = some (.cells ys') ∧ ys'.length = ys.length
  frs : ∀ o sz n, S.H[o]? = some (.fr sz n) → ∃ n', S'.H[o]? = some (.fr sz n') ∧ n ≤ n' ∧ (n' = n → S'.m o = S.m o)
  size : S.w.heap.size ≤ S'.w.heap.size
  keep : ∀ b, b < S.w.heap.size → (∀ o, own S o ≠ some b) → S'.w.heap[b]? = S.w.heap[b]?
  owns : ∀ o b, own S' o = some b → (∃ o', own S o' = some b) ∨ S.w.heap.size ≤ b
  os : S'.w.os = S.w.os ∧ S'.w.output = S.w.output ∧ S'.w.tape = S.w.tape
  froz : ∀ a, S'.w.frozen? a = S.w.frozen? a
  muts : ∀ b off, b < S.w.heap.size → (∀ o, own S o ≠ some b) → S.M b off → S'.M b off
  len : S.H.length ≤ S'.H.length
  pend : ∀ o, o < k → S.m o = .non → S'.m o = .non ∧ S'.H[o]? = S.H[o]?
  low : g = false → ∀ o, o < k → ∀ ys', S'.H[o]? = some (.cells ys') → ∀ x ∈ ys', free x = true ∨ ∃ ys, S.H[o]? = some (.cells ys) ∧ x ∈ ys

theorem Step.refl (k : Nat) (g : Bool) (S : St) : Step k g S S where
  wext := .refl _ _
  cells := fun _ ys h => ⟨fun _ => rfl, ys, h, rfl⟩
  frs := fun _ _ n h => ⟨n, h, Nat.le_refl _, fun _ => rfl⟩
  size := Nat.le_refl _
  keep := fun _ _ _ => rfl
  owns := fun o _ h => .inl ⟨o, h⟩
  os := ⟨rfl, rfl, rfl⟩
  froz := fun _ => rfl
  muts := fun _ _ _ _ h => h
  len := Nat.le_refl _
  pend := fun _ _ h => ⟨h, rfl⟩
  low := fun _ _ _ ys h x hx => .inr ⟨ys, h, hx⟩

theorem Step.trans {k : Nat} {g : Bool} {S S' S'' : St} (h : Step k g S S') (h' : Step k g S' S'') : Step k g S S'' where
  wext := h.wext.trans h'.wext
  cells := fun o ys hy => by
    obtain ⟨hm, ys', hy', hl⟩ := h.cells o ys hy
    obtain ⟨hm', ys'', hy'', hl'⟩ := h'.cells o ys' hy'
    exact ⟨fun hn => by rw [hm' (by rw [hm hn]; exact hn), hm hn], ys'', hy'', hl'.trans hl⟩
  frs := fun o sz n hy => by
    obtain ⟨n', hy', hl, hm⟩ := h.frs o sz n hy
    obtain ⟨n'', hy'', hl', hm'⟩ := h'.frs o sz n' hy'
    exact ⟨n'', hy'', Nat.le_trans hl hl', fun e => by rw [hm' (by omega), hm (by omega)]⟩
  size := Nat.le_trans h.size h'.size
  keep := fun b hb hn => by
    rw [h'.keep b (Nat.lt_of_lt_of_le hb h.size) fun o ho => ?_, h.keep b hb hn]
    rcases h.owns o b ho with ⟨o', ho'⟩ | hge
    · exact hn o' ho'
    · omega
  owns := fun o b ho => by
    rcases h'.owns o b ho with ⟨o', ho'⟩ | hge
    · exact h.owns o' b ho'
    · exact .inr (Nat.le_trans h.size hge)
  os := ⟨h'.os.1.trans h.os.1, h'.os.2.1.trans h.os.2.1, h'.os.2.2.trans h.os.2.2⟩
  froz := fun a => (h'.froz a).trans (h.froz a)
  muts := fun b off hb hn hM => h'.muts b off (Nat.lt_of_lt_of_le hb h.size) (fun o ho => by
    rcases h.owns o b ho with ⟨o', ho'⟩ | hge
    · exact hn o' ho'
    · omega) (h.muts b off hb hn hM)
  len := Nat.le_trans h.len h'.len
  pend := fun o ho hm => by
    obtain ⟨a, b⟩ := h.pend o ho hm
    obtain ⟨c, d⟩ := h'.pend o ho a
    exact ⟨c, d.trans b⟩
  low := fun hg o ho ys'' hy x hx => by
    rcases h'.low hg o ho ys'' hy x hx with hf | ⟨ys', hy', hx'⟩
    · exact .inl hf
    · exact h.low hg o ho ys' hy' x hx'

theorem Step.weaken {k k' : Nat} {g : Bool} {S S' : St} (h : Step k g S S') (hk : k' ≤ k) : Step k' g S S' :=
  { h with pend := fun o ho => h.pend o (Nat.lt_of_lt_of_le ho hk), low := fun hg o ho => h.low hg o (Nat.lt_of_lt_of_le ho hk) }

section mono
variable {k : Nat} {g : Bool} {S S' : St}
theorem IsCells.step {o : Nat} (h : IsCells S o) (e : Step k g S S') : IsCells S' o := by
  obtain ⟨ys, hy⟩ := h
  obtain ⟨_, ys', hy', _⟩ := e.cells o ys hy
  exact ⟨ys', hy'⟩
theorem RK.step (e : Step k g S S') {v : AV} {u : Value} (h : RK S v u) : RK S' v u := by
  cases v with
  | sl c xs =>
    refine ⟨h.1.mono e.wext, ?_⟩
    have h2 := h.2
    cases c with
    | none => trivial
    | full => exact h2
    | tok o =>
      obtain ⟨sz, n, ho, hl, hn⟩ := h2
      obtain ⟨n', ho', hl', hm⟩ := e.frs o sz n ho
      refine ⟨sz, n', ho', by omega, fun he => ?_⟩
      have e1 : n' = n := by omega
      subst e1
      rw [hm rfl]
      exact hn he
  | ptr o off =>
    obtain ⟨hc, b, hm, hu⟩ := h
    obtain ⟨ys, hy⟩ := hc
    obtain ⟨hm', ys', hy', _⟩ := e.cells o ys hy
    exact ⟨⟨ys', hy'⟩, b, by rw [hm' (by rw [hm]; exact GO.noConfusion), hm], hu⟩
  | arr o off len =>
    obtain ⟨hc, b, cap, hm, hu, hl⟩ := h
    obtain ⟨ys, hy⟩ := hc
    obtain ⟨hm', ys', hy', _⟩ := e.cells o ys hy
    exact ⟨⟨ys', hy'⟩, b, cap, by rw [hm' (by rw [hm]; exact GO.noConfusion), hm], hu, hl⟩
  | eptr xs =>
    obtain ⟨b, off, vs, hu, hs, hi⟩ := h
    exact ⟨b, off, vs, hu, hs.mono e.wext, hi.mono e.wext⟩
  | _ => exact h
theorem RL.step (e : Step k g S S') {v : AV} {u : Value} (h : RL S v u) : RL S' v u := by
  cases v with
  | fn f xs => obtain ⟨vs, hu, hs, ha⟩ := h; exact ⟨vs, hu, hs.mono fun _ _ h => h.step e, ha⟩
  | _ => rw [RL.eq_RK (by simp)] at h ⊢; exact RK.step e h
theorem RC.step (e : Step k g S S') {v : AV} {u : Value} (h : RC S v u) : RC S' v u := by
  cases v with
  | agg xs => obtain ⟨vs, hu, hs, ha⟩ := h; exact ⟨vs, hu, hs.mono fun _ _ h => h.step e, ha⟩
  | _ => rw [RC.eq_RL (by simp)] at h ⊢; exact RL.step e h
theorem RV.step (e : Step k g S S') {v : AV} {u : Value} (h : RV S v u) : RV S' v u := by
  cases v with
  | tup xs => obtain ⟨vs, hu, hs⟩ := h; exact ⟨vs, hu, hs.mono fun _ _ h => h.step e⟩
  | _ => rw [RV.eq_RC (by simp)] at h ⊢; exact RC.step e h
end mono

end Ab
/- The compact code of a function, reckoned out of the model's own code. -/
namespace Ab
open Go

def cv : Value → Option AV
  | .int k n => some (.int k n)
  | .bool b => some (.bool b)
  | .string s => some (.str s.data.toList)
  | .slice none 0 0 => some (.sl .full [])
  | .pointer none => some .nilp
  | _ => none
def cvs : List Value → Option (List AV)
  | [] => some []
  | v :: vs => match cv v, cvs vs with | some x, some xs => some (x :: xs) | _, _ => none
def opd : Operand → Opd
  | .tmp t => .t t
  | .const v => .c ((cv v).getD .no)
  | .global g => .g g
  | .func f => .f f

section
variable (P : Program)
def szOf (t : TypeId) : Option Nat := (P.info? t).map (·.size)
def aggT (t : TypeId) : Option Bool := match P.underlying t with
  | some (.struct _) | some (.array _ _) => some true
  | some _ => some false
  | none => none
/-- the zero value's cells -/
def zl (t : TypeId) : Option (List AV) := match P.info? t with
  | some i => match i.zero with | some z => cvs z.cells.toList | none => none
  | none => none

def placesOf (fields : Array Field) : Option (List (Nat × Nat)) := fields.toList.mapM fun f => (P.info? f.type).map fun i => (f.offset, i.size)
def partsOf (places : Nat → Option (Nat × Nat)) : List (Nat × Operand) → Option (List (Nat × Nat × Opd))
  | [] => some []
  | (i, x) :: r => match places i, partsOf places r with
    | some (off, n), some ps => some ((off, n, opd x) :: ps)
    | _, _ => none
/-- what Go compares by its value: 0 a number, 1 a bool, 2 a string -/
def scalarT (t : TypeId) : Option Nat := match P.underlying t with
  | some (.int _) => some 0
  | some .bool => some 1
  | some .string => some 2
  | _ => none
def eqFs : Nat → List Field → Option (List Nat)
  | _, [] => some []
  | i, f :: fs => match scalarT P f.type, eqFs (i + 1) fs with
    | some k, some ks => if f.name ≠ "_" ∧ f.offset = i then some (k :: ks) else none
    | _, _ => none
/-- a struct that Go compares cell by cell -/
def eqT (t : TypeId) : Option (List Nat) := match P.underlying t with
  | some (.struct fields) => if P.stoodInHeld t then none else eqFs P 0 fields.toList
  | _ => none

def opS (r : Nat) (mut_ : Bool) : Op → Option AOp
  | .move x | .assign x => some (.mv (opd x))
  | .pick c a b => some (.pick (opd c) (opd a) (opd b))
  | .alloc t => match zl P t with | some z => some (.al r z) | none => none
  | .box _ x => some (.bx r (opd x))
  | .build t parts => match P.underlying t, zl P t with
    | some (.struct fields), some z => match placesOf P fields with
      | some pl => match partsOf (pl[·]?) parts.toList with | some ps => some (.bld z ps) | none => none
      | none => none
    | some (.array _ e), some z => match szOf P e with
      | some n => match partsOf (fun i => some (i * n, n)) parts.toList with | some ps => some (.bld z ps) | none => none
      | none => none
    | _, _ => none
  | .buildSlice t len parts => match P.underlying t with
    | some (.slice e) => match szOf P e, zl P e, aggT P e with
      | some sz, some z, some agg =>
        if sz = 0 ∨ z.length ≠ sz ∨ len * sz > 2 ^ 24 then none
        else if mut_ then (match partsOf (fun i => some (i * sz, sz)) parts.toList with | some ps => some (.bsr r len ((List.replicate len z).flatten) ps) | none => none)
        else match pubLs z with
          | some z => if agg then some (.bsl sz (.agg z) len (parts.toList.map fun (i, x) => (i, opd x)))
            else (match z with | [v] => some (.bsl sz v len (parts.toList.map fun (i, x) => (i, opd x))) | _ => none)
          | none => none
      | _, _, _ => none
    | _ => none
  | .load t x => match aggT P t, szOf P t with
    | some true, some n => some (.ld true n (opd x))
    | some false, _ => some (.ld false 1 (opd x))
    | _, _ => none
  | .store t a x => match szOf P t with | some n => some (.st n (opd a) (opd x)) | none => none
  | .nilCheck x => some (.nilc (opd x))
  | .binOp op t x y _ => match P.underlying t with
    | some (.int _) | some .string => some (.bin op (opd x) (opd y))
    | some .bool => match op with | .eql => some (.beq false (opd x) (opd y)) | .neq => some (.beq true (opd x) (opd y)) | _ => none
    | some (.struct _) => match eqT P t with | some ks => (match op with | .eql => some (.eqs false ks (opd x) (opd y)) | .neq => some (.eqs true ks (opd x) (opd y)) | _ => none) | none => none
    | _ => none
  | .unOp op _ x => some (.un op (opd x))
  | .convert s d x => match P.underlying s, P.underlying d with
    | some (.int _), some (.int k) => some (.conv k (opd x))
    | some (.slice e), some .string => match P.underlying e with | some (.int .u8) => some (.b2s (opd x)) | _ => none
    | _, _ => none
  | .makeFunc (.func f) first captured => if first.isEmpty then some (.mkf f (captured.toList.map opd)) else none
  | .makeSlice t l c => match P.underlying t with
    | some (.slice e) => match szOf P e, zl P e, P.info? e with
      | some sz, some z, some i => some (.mks r sz i.bytes z (opd l) (opd c))
      | _, _, _ => none
    | _ => none
  | .slice t x lo hi none => match P.underlying t with
    | some .string => some (.sls (opd x) (lo.map opd) (hi.map opd))
    | some (.slice e) => match szOf P e with | some sz => some (.sll sz (opd x) (lo.map opd) (hi.map opd)) | none => none
    | some (.array n e) => match szOf P e with | some sz => some (.sla n sz (opd x) (lo.map opd) (hi.map opd)) | none => none
    | _ => none
  | .fieldAddr t x i => match P.underlying t with
    | some (.struct fields) => match fields[i]? with
      | some f => match szOf P f.type with | some n => if n = 0 then none else some (.fa f.offset (opd x)) | none => none
      | none => none
    | _ => none
  | .field t x i => match P.underlying t with
    | some (.struct fields) => match fields[i]? with
      | some f => match aggT P f.type, szOf P f.type with
        | some true, some n => some (.fld true f.offset n (opd x))
        | some false, _ => some (.fld false f.offset 1 (opd x))
        | _, _ => none
      | none => none
    | _ => none
  | .indexAddr t x i => match P.underlying t with
    | some (.slice e) => match szOf P e with | some sz => some (.ia sz (opd x) (opd i)) | none => none
    | some (.array n e) => match szOf P e with | some sz => some (.iaa n sz (opd x) (opd i)) | none => none
    | _ => none
  | .index t x i => match P.underlying t with
    | some .string => some (.ixs (opd x) (opd i))
    | some (.array n e) => match aggT P e, szOf P e with
      | some agg, some sz => if agg = true ∨ sz = 1 then some (.ixa agg n sz (opd x) (opd i)) else none
      | _, _ => none
    | _ => none
  | .extract x i => some (.ext (opd x) i)
  | .call c => match c.callee with
    | .value (.func f) => some (.call f (c.args.toList.map opd))
    | .value (.tmp t) => some (.callv (.t t) (c.args.toList.map opd))
    | .builtin .len => match c.argTypes[0]?, c.args.toList with
      | some t, [x] => match P.underlying t with
        | some .string => some (.lens (opd x))
        | some (.slice _) => some (.len (opd x))
        | some (.array n _) => some (.lenc n)
        | _ => none
      | _, _ => none
    | .builtin .append => match c.argTypes.toList, c.args.toList with
      | [t, u], [x, y] => match P.underlying t, P.underlying u with
        | some (.slice e), some (.slice _) | some (.slice e), some .string => match P.info? e, zl P e with
          | some i, some z => if i.size = 0 ∨ i.bytes = 0 ∨ z.length ≠ i.size then none else some (.app r i.size i.bytes (opd x) (opd y))
          | _, _ => none
        | _, _ => none
      | _, _ => none
    | .builtin .max => match c.args.toList with | [x, y] => some (.mm true (opd x) (opd y)) | _ => none
    | .builtin .min => match c.args.toList with | [x, y] => some (.mm false (opd x) (opd y)) | _ => none
    | _ => none
  | _ => none
end

/-- the object that an operation lays aside for itself -/
def resv : AOp → Option Ob
  | .al _ z => some (.cells z)
  | .bx .. | .bsr .. | .app .. | .mks .. => some .dead
  | _ => none

/-- an operation that writes an object, or may -/
def AOp.writes : AOp → Bool
  | .st .. | .bx .. | .bsr .. | .app .. | .mks .. | .call .. | .callv .. => true
  | _ => false
/-- an operation that reads an object -/
def AOp.reads : AOp → Bool
  | .ld .. | .b2s .. => true
  | _ => false

/-- the operations ahead of which each one stands, by its edges -/
def ancs : List Oper → List (List Nat) → List (List Nat)
  | [], acc => acc
  | o :: r, acc => ancs r (acc ++ [o.after.toList.flatMap fun e => if Region.binds .any e then e.on :: acc.getD e.on [] else []])

def oguard (ops : Array Oper) (o : Oper) : Option (Option (Nat × Bool)) := match o.guard with
  | none => some none
  | some (j, b) => match (ops[j]?).bind (·.dst) with | some g => some (some (g, b)) | none => none

/-- the slots that an operation reads -/
def slotsOf (ops : Array Oper) (o : Oper) : List Nat :=
  (o.op.operands.toList.filterMap fun | .tmp t => some t | _ => none) ++ (match o.guard with | some (j, _) => ((ops[j]?).bind (·.dst)).toList | none => [])

section
variable (P : Program)
def opsS (mt : Nat → Bool) (ops : Array Oper) : Nat → Nat → List Oper → Option (List AOper)
  | _, _, [] => some []
  | i, r, o :: rest => match opS P r (mt i) o.op, oguard ops o with
    | some ao, some g => match opsS mt ops (i + 1) (if (resv ao).isSome then r + 1 else r) rest with
      | some aos => some (⟨o.dst, ao, g⟩ :: aos)
      | none => none
    | _, _ => none

/-- unordered pairs may not meet in a slot; whatever writes stands in one row; each reader with the writers that it isn't ordered with -/
def slotsApart (ops : Array Oper) (x y : Oper) : Bool :=
  (match x.dst with | some d => !(slotsOf ops y).contains d && y.dst != some d | none => true) && (match y.dst with | some d => !(slotsOf ops x).contains d | none => true)
def drawS (ops : Array Oper) (aos : List AOper) : Option (List (Nat × List Nat)) :=
  let an := ancs ops.toList []
  let n := ops.size
  let ord (i j : Nat) : Bool := (an.getD j []).contains i
  let w (i : Nat) : Bool := match aos[i]? with | some o => o.op.writes | none => false
  if ((List.range n).all fun j => match ops[j]? with | some o => o.after.toList.all fun e => !Region.binds .any e || decide (e.on < j) | none => false) && (List.range n).all fun j => (List.range j).all fun i => ord i j || ((match ops[i]?, ops[j]? with | some x, some y => slotsApart ops x y | _, _ => false) && !(w i && w j)) then
    some ((List.range n).filterMap fun i => match aos[i]? with
      | some o => if o.op.reads then
          let js := (List.range n).filter fun j => w j && (if j < i then !(ord j i) else !(ord i j))
          if js.isEmpty then none else some (i, js)
        else none
      | none => none)
  else none

def regS (mt : Nat → Bool) (ops : Array Oper) (draw : Bool) : Option AC :=
  match opsS P mt ops 0 0 ops.toList with
  | none => none
  | some aos =>
    if draw then match drawS ops aos with
      | some d => some (.reg none (aos.filterMap fun o => resv o.op) aos (some d))
      | none => none
    else some (.reg none (aos.filterMap fun o => resv o.op) aos none)

def codeS (mt : Nat → Nat → Bool) : Code → Option AC
  | .skip => some .skip
  | .region id ops draw => regS P (mt id) ops draw
  | .seq a b => match codeS mt a, codeS mt b with | some x, some y => some (.seq x y) | _, _ => none
  | .cond c a b => match codeS mt a, codeS mt b with | some x, some y => some (.cond (opd c) x y) | _, _ => none
  | .block id b => match codeS mt b with | some x => some (.block none id x) | none => none
  | .loop b => match codeS mt b with | some x => some (.loop none x) | none => none
  | .exit id => some (.exit id)
  | .ret => some .ret
  | _ => none

def resS : List ResultVar → Option (List AR)
  | [] => some []
  | .tmp t :: r => match resS r with | some rs => some (.t t :: rs) | none => none
  | .cell a t :: r => match aggT P t, szOf P t, resS r with
    | some true, some n, some rs => some (.cell a true n :: rs)
    | some false, _, some rs => some (.cell a false 1 :: rs)
    | _, _, _ => none
end

def erase : AC → AC
  | .reg _ pre ops dr => .reg none pre ops dr
  | .seq a b => .seq (erase a) (erase b)
  | .cond c a b => .cond c (erase a) (erase b)
  | .block _ id b => .block none id (erase b)
  | .loop _ b => .loop none (erase b)
  | c => c

/-- the greatest slot that the code writes, and one more -/
def dstsBelow (n : Nat) : Code → Bool
  | .region _ ops _ => ops.toList.all fun o => match o.dst with | some d => decide (d < n) | none => true
  | .seq a b => dstsBelow n a && dstsBelow n b
  | .cond _ a b => dstsBelow n a && dstsBelow n b
  | .block _ b => dstsBelow n b
  | .loop b => dstsBelow n b
  | _ => true

end Ab
/- New blocks, new objects, stores: how a state goes on. -/
namespace Ab
open Go

def St.alloc (S : St) (c : Array Value) (t : TypeId) (μ : Nat → Prop) : St :=
  { S with w := S.w.alloc (.cells c t (0, 0)), M := fun b off => if b = S.w.heap.size then μ off else S.M b off }

theorem heap_alloc_old {w : World} {o : Obj} {b : Nat} (h : b < w.heap.size) : (w.alloc o).heap[b]? = w.heap[b]? := by
  show (w.heap.push o)[b]? = _
  rw [Array.getElem?_push, if_neg (Nat.ne_of_lt h)]
theorem heap_alloc_new {w : World} {o : Obj} : (w.alloc o).heap[w.heap.size]? = some o := by
  show (w.heap.push o)[w.heap.size]? = _
  rw [Array.getElem?_push, if_pos rfl]

theorem own_alloc (S : St) (c : Array Value) (t : TypeId) (μ : Nat → Prop) (o : Nat) : own (S.alloc c t μ) o = own S o := rfl

theorem wext_alloc (S : St) (c : Array Value) (t : TypeId) (μ : Nat → Prop) : WExt S.w S.M (S.alloc c t μ).w (S.alloc c t μ).M := by
  intro b off v hc hm
  have hb : b < S.w.heap.size := World.block_lt_of_cell? S.w _ hc
  refine ⟨(World.cell?_alloc_lt (w := S.w) (a := ⟨b, off, none⟩) (o := .cells c t (0, 0)) hb).trans hc, ?_⟩
  show ¬ (if b = S.w.heap.size then μ off else S.M b off)
  rw [if_neg (by omega)]
  exact hm

theorem froz_alloc (w : World) (c : Array Value) (t : TypeId) (a : Addr) : (w.alloc (.cells c t (0, 0))).frozen? a = w.frozen? a := by
  by_cases h : a.block = w.heap.size
  · have e1 : (w.alloc (.cells c t (0, 0))).heap[a.block]? = some (.cells c t (0, 0)) := by rw [h]; exact heap_alloc_new
    have e2 : w.heap[a.block]? = none := by rw [h]; simp
    simp [World.frozen?, e1, e2]
  · unfold World.frozen?
    have : (w.alloc (.cells c t (0, 0))).heap[a.block]? = w.heap[a.block]? := by
      show (w.heap.push _)[a.block]? = _
      rw [Array.getElem?_push, if_neg h]
    rw [this]
theorem step_alloc (k : Nat) (g : Bool) (S : St) (c : Array Value) (t : TypeId) (μ : Nat → Prop) : Step k g S (S.alloc c t μ) where
  wext := wext_alloc S c t μ
  cells := fun _ ys h => ⟨fun _ => rfl, ys, h, rfl⟩
  frs := fun _ _ n h => ⟨n, h, Nat.le_refl _, fun _ => rfl⟩
  size := by simp [St.alloc]
  keep := fun b hb _ => heap_alloc_old hb
  owns := fun o b h => .inl ⟨o, h⟩
  os := ⟨rfl, rfl, rfl⟩
  froz := fun a => froz_alloc S.w c t a
  muts := fun b off hb _ hM => by
    show (if b = S.w.heap.size then μ off else S.M b off)
    rw [if_neg (by omega)]; exact hM
  len := Nat.le_refl _
  pend := fun _ _ h => ⟨h, rfl⟩
  low := fun _ _ _ ys h x hx => .inr ⟨ys, h, hx⟩

theorem ObjOk.of_step {k : Nat} {g : Bool} {S S' : St} {o : Nat} (h : ObjOk S o) (e : Step k g S S') (hH : S'.H[o]? = S.H[o]?) (hm : S'.m o = S.m o)
    (hw : ∀ b, own S o = some b → S'.w.heap[b]? = S.w.heap[b]?) (hM : ∀ b off, own S o = some b → S.M b off → S'.M b off) : ObjOk S' o := by
  unfold ObjOk own at *
  rw [hH, hm]
  revert h hw hM
  cases S.H[o]? with
  | none => intros; trivial
  | some ob =>
    cases ob with
    | dead => intros; trivial
    | mp es => cases S.m o <;> exact fun h _ _ => h
    | cells xs =>
      cases S.m o with
      | non => intros; trivial
      | hdr a cap => exact fun h _ _ => h
      | blk b =>
        rintro ⟨vs, t, hb, hs, hl, hM0⟩ hw hM
        exact ⟨vs, t, by rw [hw b rfl]; exact hb, hs.mono fun _ _ h => h.step e, hl, fun off ho => hM b off rfl (hM0 off ho)⟩
    | fr sz n =>
      cases S.m o with
      | non => exact fun h _ _ => h
      | blk b => exact fun h _ _ => h
      | hdr a cap =>
        rintro ⟨hz, hn, hc⟩ hw hM
        refine ⟨hz, hn, fun hlt => ?_⟩
        obtain ⟨b, off, rfl, vs, t, hb, hsz, hM0⟩ := hc hlt
        simp only [hlt, if_true] at hw hM
        exact ⟨b, off, rfl, vs, t, by rw [hw b rfl]; exact hb, hsz, fun j h1 h2 => hM b _ rfl (hM0 j h1 h2)⟩

theorem good_alloc {S : St} (h : Good S) (c : Array Value) (t : TypeId) (μ : Nat → Prop) : Good (S.alloc c t μ) where
  objs := fun o => (h.objs o).of_step (step_alloc 0 true S c t μ) rfl rfl (fun b hb => heap_alloc_old (h.there o b hb)) fun b off hb hm => by
    have := h.there o b hb
    simp only [St.alloc]
    rw [if_neg (by omega)]
    exact hm
  disj := h.disj
  there := fun o b hb => by have := h.there o b hb; simp [St.alloc]; omega

/-- A new object at a place that was kept for it. -/
def St.give (S : St) (o : Nat) (ob : Ob) (go : GO) : St := { S with H := S.H.set o ob, m := fun p => if p = o then go else S.m p }

theorem give_H_ne {S : St} {o p : Nat} {ob : Ob} {go : GO} (h : p ≠ o) : (S.give o ob go).H[p]? = S.H[p]? := by
  simp [St.give, Ne.symm h]
theorem give_m_ne {S : St} {o p : Nat} {ob : Ob} {go : GO} (h : p ≠ o) : (S.give o ob go).m p = S.m p := by simp [St.give, h]
theorem give_H {S : St} {o : Nat} {ob ob0 : Ob} {go : GO} (h : S.H[o]? = some ob0) : (S.give o ob go).H[o]? = some ob := by
  have : o < S.H.length := by
    rcases Nat.lt_or_ge o S.H.length with h' | h'
    · exact h'
    · rw [List.getElem?_eq_none h'] at h; cases h
  simp [St.give, this]
theorem give_m {S : St} {o : Nat} {ob : Ob} {go : GO} : (S.give o ob go).m o = go := by simp [St.give]

theorem own_non {S : St} {o : Nat} (hm : S.m o = .non) : own S o = none := by
  unfold own; rw [hm]; cases S.H[o]? with | none => rfl | some ob => cases ob <;> rfl

theorem own_give_ne {S : St} {o p : Nat} {ob : Ob} {go : GO} (h : p ≠ o) : own (S.give o ob go) p = own S p := by
  unfold own; rw [give_H_ne h, give_m_ne h]

/-- The place was pending or dead; it becomes an object that holds block b (b is new, or it holds none). -/
theorem step_give {k : Nat} {g : Bool} {S0 S : St} (e : Step k g S0 S) {o : Nat} {ob ob0 : Ob} {go : GO} (hk : k ≤ o) (hm : S.m o = .non) (hm0 : S0.m o = .non) (hH0 : S0.H[o]? = some ob0)
    (h0 : ob0 = .dead ∨ ∃ xs xs', ob0 = .cells xs ∧ ob = .cells xs' ∧ xs'.length = xs.length)
    (hown : ∀ b, own (S.give o ob go) o = some b → (∃ o', own S0 o' = some b) ∨ S0.w.heap.size ≤ b) (hH : ∃ ob1, S.H[o]? = some ob1) : Step k g S0 (S.give o ob go) where
  wext := e.wext
  cells := fun p ys h => by
    by_cases hp : p = o
    · subst hp
      refine ⟨fun hn => absurd hm0 hn, ?_⟩
      rcases h0 with rfl | ⟨xs, xs', rfl, rfl, hl⟩
      · rw [h] at hH0; cases hH0
      · rw [h] at hH0; cases hH0
        obtain ⟨ob1, h1⟩ := hH
        exact ⟨xs', give_H h1, hl⟩
    · rw [give_H_ne hp, give_m_ne hp]; exact e.cells p ys h
  frs := fun p sz n h => by
    by_cases hp : p = o
    · subst hp
      rcases h0 with rfl | ⟨xs, xs', rfl, rfl, hl⟩ <;> (rw [h] at hH0; cases hH0)
    · rw [give_H_ne hp, give_m_ne hp]; exact e.frs p sz n h
  size := e.size
  keep := e.keep
  owns := fun p b h => by
    by_cases hp : p = o
    · subst hp; exact hown b h
    · rw [own_give_ne hp] at h; exact e.owns p b h
  os := e.os
  froz := e.froz
  muts := e.muts
  len := by simpa [St.give] using e.len
  pend := fun p hp h => by
    have : p ≠ o := by omega
    rw [give_H_ne this, give_m_ne this]; exact e.pend p hp h
  low := fun hg p hp ys h x hx => e.low hg p hp ys (by rwa [give_H_ne (by omega)] at h) x hx

theorem own_congr {S S' : St} {o : Nat} (hH : S'.H[o]? = S.H[o]?) (hm : S'.m o = S.m o) : own S' o = own S o := by
  unfold own; rw [hH, hm]

/-- One object turned, the others left alone. -/
theorem good_of_step {k : Nat} {g : Bool} {S S' : St} (h : Good S) (e : Step k g S S') (o : Nat) (hobj : ObjOk S' o) (hH : ∀ p, p ≠ o → S'.H[p]? = S.H[p]?)
    (hm : ∀ p, p ≠ o → S'.m p = S.m p) (hw : ∀ p b, p ≠ o → own S p = some b → S'.w.heap[b]? = S.w.heap[b]? ∧ ∀ off, S.M b off → S'.M b off)
    (hth : ∀ b, own S' o = some b → b < S'.w.heap.size) (hnew : ∀ b, own S' o = some b → ∀ p, p ≠ o → own S p ≠ some b) : Good S' where
  objs := fun p => by
    by_cases hp : p = o
    · subst hp; exact hobj
    · exact (h.objs p).of_step e (hH p hp) (hm p hp) (fun b hb => (hw p b hp hb).1) fun b off hb => (hw p b hp hb).2 off
  disj := fun p q b hp hq => by
    by_cases h1 : p = o
    · by_cases h2 : q = o
      · rw [h1, h2]
      · subst h1; rw [own_congr (hH q h2) (hm q h2)] at hq; exact absurd hq (hnew b hp q h2)
    · by_cases h2 : q = o
      · subst h2; rw [own_congr (hH p h1) (hm p h1)] at hp; exact absurd hp (hnew b hq p h1)
      · rw [own_congr (hH p h1) (hm p h1)] at hp; rw [own_congr (hH q h2) (hm q h2)] at hq; exact h.disj p q b hp hq
  there := fun p b hp => by
    by_cases h1 : p = o
    · subst h1; exact hth b hp
    · rw [own_congr (hH p h1) (hm p h1)] at hp; exact Nat.lt_of_lt_of_le (h.there p b hp) e.size

/-- A new variable or array: a new block, its object at the place that was kept for it. -/
theorem new_cells (k : Nat) (g : Bool) {S : St} (hG : Good S) {o : Nat} {ob0 : Ob} (hk : k ≤ o) (hm : S.m o = .non) (hH : S.H[o]? = some ob0) (xs : List AV)
    (h0 : ob0 = .dead ∨ ∃ ys, ob0 = .cells ys ∧ xs.length = ys.length) (vs : Array Value) (t : TypeId) (hs : All2 (RL S) xs vs.toList) (hl : xs.all isLf = true) :
    Step k g S ((S.alloc vs t fun _ => True).give o (.cells xs) (.blk S.w.heap.size)) ∧ Good ((S.alloc vs t fun _ => True).give o (.cells xs) (.blk S.w.heap.size)) := by
  have e1 := step_alloc k g S vs t (fun _ => True)
  have g1 := good_alloc hG vs t (fun _ => True)
  have hown : ∀ b, own ((S.alloc vs t fun _ => True).give o (.cells xs) (.blk S.w.heap.size)) o = some b → b = S.w.heap.size := by
    intro b hb
    unfold own at hb
    rw [give_H (S := S.alloc vs t fun _ => True) hH, give_m] at hb
    exact (Option.some.inj hb).symm
  have e2 : Step k g S ((S.alloc vs t fun _ => True).give o (.cells xs) (.blk S.w.heap.size)) := by
    refine step_give e1 hk hm hm hH ?_ (fun b hb => .inr (by rw [hown b hb]; exact Nat.le_refl _)) ⟨_, hH⟩
    rcases h0 with h | ⟨ys, h, hl⟩
    · exact .inl h
    · exact .inr ⟨ys, xs, h, rfl, hl⟩
  refine ⟨e2, good_of_step hG e2 o ?_ (fun p hp => give_H_ne hp) (fun p hp => give_m_ne hp) (fun p b hp hb => ?_) (fun b hb => ?_) (fun b hb p hp hq => ?_)⟩
  · unfold ObjOk
    rw [give_H (S := S.alloc vs t fun _ => True) hH, give_m]
    exact ⟨vs, t, heap_alloc_new, hs.mono fun _ _ h => h.step e2, hl, fun off _ => by simp [St.give, St.alloc]⟩
  · have hlt := hG.there p b hb
    refine ⟨heap_alloc_old hlt, fun off hM => ?_⟩
    show (if b = S.w.heap.size then True else S.M b off)
    rw [if_neg (by omega)]; exact hM
  · rw [hown b hb]; simp [St.give, St.alloc]
  · rw [hown b hb] at hq
    have := hG.there p _ hq
    omega
end Ab
/- Stores into a variable, and what append does, as steps of states. -/
namespace Ab
open Go

theorem cell_of_heap {w : World} {b off : Nat} {vs : Array Value} {t : TypeId} {fr : Nat × Nat} (h : w.heap[b]? = some (.cells vs t fr)) : w.cell? ⟨b, off, none⟩ = vs[off]? := by
  simp [World.cell?, h]
theorem cell_setRow_ne {w : World} {g b off : Nat} {cs : Array Value} (h : b ≠ g) : (w.setRow g cs).cell? ⟨b, off, none⟩ = w.cell? ⟨b, off, none⟩ := by
  unfold World.cell?; rw [setRow_other w g b cs h]
theorem lt_of_some {α : Type} {l : List α} {i : Nat} {x : α} (h : l[i]? = some x) : i < l.length := by
  rcases Nat.lt_or_ge i l.length with h' | h'
  · exact h'
  · rw [List.getElem?_eq_none h'] at h; cases h
theorem lt_of_someA {α : Type} {l : Array α} {i : Nat} {x : α} (h : l[i]? = some x) : i < l.size := by
  rcases Nat.lt_or_ge i l.size with h' | h'
  · exact h'
  · rw [Array.getElem?_eq_none h'] at h; cases h

theorem All2.splice {α β : Type} {R : α → β → Prop} {xs ys : List α} {us vs : List β} (h : All2 R xs us) (off : Nat) (h' : All2 R ys vs) :
    All2 R (xs.take off ++ ys ++ xs.drop (off + ys.length)) (us.take off ++ vs ++ us.drop (off + vs.length)) := by
  rw [h'.length]
  exact ((h.take off).append h').append (h.drop _)

theorem froz_setRow (w : World) (b : Nat) (cs : Array Value) (a : Addr) : (w.setRow b cs).frozen? a = w.frozen? a := by
  unfold World.frozen? World.setRow
  simp only [Array.getElem?_modify]
  by_cases h : b = a.block
  · rw [if_pos h]
    cases w.heap[a.block]? with
    | none => rfl
    | some o => cases o <;> rfl
  · rw [if_neg h]
/-- An object turned, a block written. -/
def St.turn (S : St) (o : Nat) (ob : Ob) (M' : MutP) (b : Nat) (cs : Array Value) : St := { S with H := S.H.set o ob, M := M', w := S.w.setRow b cs }
theorem turn_H_ne {S : St} {o p : Nat} {ob : Ob} {M' : MutP} {b : Nat} {cs : Array Value} (h : p ≠ o) : (S.turn o ob M' b cs).H[p]? = S.H[p]? := by
  simp [St.turn, Ne.symm h]
theorem turn_H {S : St} {o : Nat} {ob ob0 : Ob} {M' : MutP} {b : Nat} {cs : Array Value} (h : S.H[o]? = some ob0) : (S.turn o ob M' b cs).H[o]? = some ob := by
  simp [St.turn, lt_of_some h]

/-- A store into an object's cells. -/
theorem store_ok (k : Nat) (g : Bool) {S : St} (hG : Good S) {o b : Nat} {xs : List AV} (hH : S.H[o]? = some (.cells xs)) (hm : S.m o = .blk b)
    (off : Nat) (ys : List AV) (us : List Value) (hfit : off + ys.length ≤ xs.length) (hs : All2 (RL S) ys us) (hl : ys.all isLf = true)
    (hlow : k ≤ o ∨ g = true ∨ ys.all free = true) :
    ∃ (vs : Array Value) (t : TypeId), S.w.heap[b]? = some (.cells vs t (0, 0)) ∧ off + us.length ≤ vs.size ∧
      Step k g S (S.turn o (.cells (splice xs off ys)) S.M b (vs.toList.take off ++ us ++ vs.toList.drop (off + us.length)).toArray) ∧
      Good (S.turn o (.cells (splice xs off ys)) S.M b (vs.toList.take off ++ us ++ vs.toList.drop (off + us.length)).toArray) := by
  have ho := hG.objs o
  unfold ObjOk at ho
  rw [hH, hm] at ho
  obtain ⟨vs, t, hb, hvs, hxl, hM⟩ := ho
  have hlen := hvs.length
  have hul := hs.length
  have hsz : vs.toList.length = vs.size := by simp
  have hown : own S o = some b := by unfold own; rw [hH, hm]
  refine ⟨vs, t, hb, by omega, ?_⟩
  generalize hcs : (vs.toList.take off ++ us ++ vs.toList.drop (off + us.length)).toArray = cs
  have hcs' : cs.toList = vs.toList.take off ++ us ++ vs.toList.drop (off + us.length) := by rw [← hcs]
  have hcl : cs.size = vs.size := by
    rw [← Array.length_toList, hcs']; simp; omega
  have hown' : own (S.turn o (.cells (splice xs off ys)) S.M b cs) o = some b := by
    unfold own; rw [turn_H hH]; simp only [St.turn, hm]
  have e : Step k g S (S.turn o (.cells (splice xs off ys)) S.M b cs) := by
    refine { wext := ?_, cells := ?_, frs := ?_, size := by simp [St.turn], keep := ?_, owns := ?_, os := ⟨rfl, rfl, rfl⟩, froz := fun a => froz_setRow _ _ _ a, muts := fun _ _ _ _ h => h, len := by simp [St.turn], pend := ?_, low := ?_ }
    · intro b' off' v hc hM'
      by_cases hbb : b' = b
      · subst hbb
        rw [cell_of_heap hb] at hc
        exact absurd (hM off' (lt_of_someA hc)) hM'
      · exact ⟨(cell_setRow_ne hbb).trans hc, hM'⟩
    · intro p ys' hp
      by_cases hpo : p = o
      · subst hpo
        rw [hH] at hp; cases hp
        refine ⟨fun _ => rfl, splice xs off ys, turn_H hH, by simp [splice]; omega⟩
      · exact ⟨fun _ => rfl, ys', (turn_H_ne hpo).trans hp, rfl⟩
    · intro p sz n hp
      have hpo : p ≠ o := by rintro rfl; rw [hH] at hp; cases hp
      exact ⟨n, (turn_H_ne hpo).trans hp, Nat.le_refl _, fun _ => rfl⟩
    · intro b' _ hn
      have : b' ≠ b := fun e => hn o (e ▸ hown)
      exact setRow_other _ _ _ _ this
    · intro p b' hp
      by_cases hpo : p = o
      · subst hpo
        rw [hown'] at hp; cases hp
        exact .inl ⟨p, hown⟩
      · exact .inl ⟨p, by rwa [own_congr (S := S) (turn_H_ne hpo) rfl] at hp⟩
    · intro p _ hp
      have : p ≠ o := by rintro rfl; rw [hm] at hp; cases hp
      exact ⟨hp, turn_H_ne this⟩
    · intro hg p hp ys' hy x hx
      by_cases hpo : p = o
      · subst hpo
        rw [turn_H hH] at hy; cases hy
        unfold splice at hx
        rcases List.mem_append.1 hx with hx | hx
        · rcases List.mem_append.1 hx with hx | hx
          · exact .inr ⟨xs, hH, List.mem_of_mem_take hx⟩
          · rcases hlow with h | h | h
            · omega
            · rw [hg] at h; cases h
            · exact .inl (List.all_eq_true.1 h x hx)
        · exact .inr ⟨xs, hH, List.mem_of_mem_drop hx⟩
      · exact .inr ⟨ys', by rwa [turn_H_ne hpo] at hy, hx⟩
  refine ⟨e, good_of_step hG e o ?_ (fun p hp => turn_H_ne hp) (fun p hp => rfl) (fun p b' hp hb' => ?_) (fun b' hb' => ?_) (fun b' hb' p hp hq => ?_)⟩
  · unfold ObjOk
    rw [turn_H hH]
    simp only [St.turn, hm]
    refine ⟨cs, t, setRow_heap _ _ _ _ _ _ hb, ?_, ?_, fun off ho => hM off (by omega)⟩
    · rw [hcs']
      exact ((hvs.splice off hs).mono fun _ _ h => h.step e)
    · unfold splice
      simp only [List.all_append, Bool.and_eq_true]
      refine ⟨⟨?_, hl⟩, ?_⟩
      · exact List.all_eq_true.2 fun x hx => List.all_eq_true.1 hxl x (List.mem_of_mem_take hx)
      · exact List.all_eq_true.2 fun x hx => List.all_eq_true.1 hxl x (List.mem_of_mem_drop hx)
  · have : b' ≠ b := by
      rintro rfl
      exact hp (hG.disj p o b' hb' hown)
    exact ⟨setRow_other _ _ _ _ this, fun off h => h⟩
  · rw [hown'] at hb'; cases hb'
    have := hG.there o b hown
    simpa [St.turn] using this
  · rw [hown'] at hb'; cases hb'
    exact hp (hG.disj p o b hq hown)

theorem leaves_length (x : AV) : (leaves x).length = nleaves x := by cases x <;> rfl
theorem flat_length {sz : Nat} : ∀ {xs : List AV}, (∀ x ∈ xs, nleaves x = sz) → (xs.flatMap leaves).length = xs.length * sz
  | [], _ => by simp
  | x :: xs, h => by
    rw [List.flatMap_cons, List.length_append, flat_length (xs := xs) fun y hy => h y (by simp [hy]), leaves_length, h x (by simp), List.length_cons, Nat.succ_mul, Nat.add_comm]

/-- what a slice's reading says of its cells, the empty one too -/
theorem RP.sl_parts {w : World} {M : MutP} {xs : List AV} {u : Value} (h : RP w M (.sl .none xs) u) :
    ∃ a cap, u = .slice a xs.length cap ∧ xs.length ≤ cap ∧ (xs ≠ [] → ∃ b off sz vs, a = some ⟨b, off, none⟩ ∧ (∀ x ∈ xs, nleaves x = sz) ∧ RPs w M (xs.flatMap leaves) vs ∧ Imm w M b off vs) := by
  cases h with
  | sl0 a cap => exact ⟨a, cap, rfl, by simp, fun h => absurd rfl h⟩
  | sl b off cap sz xs vs ne hsz hs himm hcap => exact ⟨_, cap, rfl, hcap, fun _ => ⟨b, off, sz, vs, rfl, hsz, hs, himm⟩⟩
theorem RP.sl_mk {w : World} {M : MutP} {xs : List AV} {a : Option Addr} {cap : Nat} (hcap : xs.length ≤ cap)
    (h : xs ≠ [] → ∃ b off sz vs, a = some ⟨b, off, none⟩ ∧ (∀ x ∈ xs, nleaves x = sz) ∧ RPs w M (xs.flatMap leaves) vs ∧ Imm w M b off vs) :
    RP w M (.sl .none xs) (.slice a xs.length cap) := by
  by_cases hx : xs = []
  · subst hx; exact .sl0 a cap
  · obtain ⟨b, off, sz, vs, rfl, hsz, hs, hi⟩ := h hx
    exact .sl b off cap sz xs vs hx hsz hs hi hcap

theorem getElem?_splice {α : Type} (l us : List α) (p j : Nat) (hfit : p + us.length ≤ l.length) :
    (l.take p ++ us ++ l.drop (p + us.length))[j]? = if p ≤ j ∧ j < p + us.length then us[j - p]? else l[j]? := by
  have hp : min p l.length = p := by omega
  rw [List.append_assoc]
  by_cases h1 : j < p
  · rw [List.getElem?_append_left (by simp; omega), List.getElem?_take, if_pos h1, if_neg (by omega)]
  · by_cases h2 : j < p + us.length
    · rw [List.getElem?_append_right (by simp; omega), List.getElem?_append_left (by simp; omega), if_pos ⟨by omega, h2⟩]
      simp [hp]
    · rw [List.getElem?_append_right (by simp; omega), List.getElem?_append_right (by simp; omega), if_neg (by omega), List.getElem?_drop]
      congr 1
      simp [hp]
      omega

/-- APPEND WITHIN THE ROOM. -/
theorem app_in (k : Nat) (g : Bool) {S : St} (hG : Good S) {o sz n b off cap : Nat} (hH : S.H[o]? = some (.fr sz n)) (hm : S.m o = .hdr (some ⟨b, off, none⟩) cap)
    (xs ys : List AV) (hn : n = xs.length) (us : List Value) (hx : ∀ x ∈ xs, nleaves x = sz) (hy : ∀ x ∈ ys, nleaves x = sz) (hxr : RP S.w S.M (.sl .none xs) (.slice (some ⟨b, off, none⟩) n cap))
    (hyr : RPs S.w S.M (ys.flatMap leaves) us) (hfit : n + ys.length ≤ cap) (hne : ys ≠ []) :
    ∃ (vs : Array Value) (t : TypeId), S.w.heap[b]? = some (.cells vs t (0, 0)) ∧ off + n * sz + us.length ≤ vs.size ∧
      ∃ S', S' = S.turn o (.fr sz (n + ys.length)) (fun b' j => S.M b' j ∧ ¬ (b' = b ∧ off + n * sz ≤ j ∧ j < off + n * sz + us.length)) b
          (vs.toList.take (off + n * sz) ++ us ++ vs.toList.drop (off + n * sz + us.length)).toArray ∧ Step k g S S' ∧ Good S' ∧
        RP S'.w S'.M (.sl .none (xs ++ ys)) (.slice (some ⟨b, off, none⟩) (n + ys.length) cap) := by
  have hyl : 0 < ys.length := List.length_pos_iff.2 hne
  have ho := hG.objs o
  unfold ObjOk at ho
  rw [hH, hm] at ho
  obtain ⟨hz, hnc, hblk⟩ := ho
  obtain ⟨b0, off0, hbo, vs, t, hb, hsz, hM⟩ := hblk (by omega)
  obtain ⟨rfl, rfl⟩ : b = b0 ∧ off = off0 := by simpa using hbo
  have hul : us.length = ys.length * sz := by rw [← hyr.length, flat_length hy]
  have hcapsz : (n + ys.length) * sz ≤ cap * sz := Nat.mul_le_mul_right sz hfit
  rw [Nat.add_mul] at hcapsz
  have hfits : off + n * sz + us.length ≤ vs.size := by omega
  refine ⟨vs, t, hb, hfits, _, rfl, ?_⟩
  have hown : own S o = some b := by unfold own; rw [hH, hm]; simp [show n < cap by omega]
  generalize hcs : (vs.toList.take (off + n * sz) ++ us ++ vs.toList.drop (off + n * sz + us.length)).toArray = cs
  have hcs' : cs.toList = vs.toList.take (off + n * sz) ++ us ++ vs.toList.drop (off + n * sz + us.length) := by rw [← hcs]
  have hcg : ∀ j, cs[j]? = if off + n * sz ≤ j ∧ j < off + n * sz + us.length then us[j - (off + n * sz)]? else vs[j]? := by
    intro j
    rw [← Array.getElem?_toList, hcs', getElem?_splice _ _ _ _ (by simpa using hfits)]
    simp
  have hcl : cs.size = vs.size := by
    rw [← Array.length_toList, hcs']; simp; omega
  generalize hM' : (fun b' j => S.M b' j ∧ ¬ (b' = b ∧ off + n * sz ≤ j ∧ j < off + n * sz + us.length)) = M'
  have hMe : ∀ b' j, M' b' j ↔ S.M b' j ∧ ¬ (b' = b ∧ off + n * sz ≤ j ∧ j < off + n * sz + us.length) := fun b' j => by rw [← hM']
  have hHo : (S.turn o (.fr sz (n + ys.length)) M' b cs).H[o]? = some (.fr sz (n + ys.length)) := turn_H hH
  have hheap : (S.turn o (.fr sz (n + ys.length)) M' b cs).w.heap[b]? = some (.cells cs t (0, 0)) := setRow_heap _ _ _ _ _ _ hb
  have hown' : ∀ b', own (S.turn o (.fr sz (n + ys.length)) M' b cs) o = some b' → b' = b := by
    intro b' h
    unfold own at h
    rw [hHo] at h
    simp only [St.turn, hm] at h
    split at h
    · exact (Option.some.inj h).symm
    · cases h
  have hw : WExt S.w S.M (S.turn o (.fr sz (n + ys.length)) M' b cs).w (S.turn o (.fr sz (n + ys.length)) M' b cs).M := by
    intro b' off' v hc hm'
    refine ⟨?_, fun h => hm' ((hMe _ _).1 h).1⟩
    by_cases hbb : b' = b
    · subst hbb
      rw [cell_of_heap hb] at hc
      rw [cell_of_heap hheap, hcg, if_neg ?_]
      · exact hc
      · rintro ⟨h1, h2⟩
        refine hm' ?_
        have := hM (off' - off) (by omega) (by omega)
        rwa [show off + (off' - off) = off' by omega] at this
    · exact (cell_setRow_ne hbb).trans hc
  have e : Step k g S (S.turn o (.fr sz (n + ys.length)) M' b cs) := by
    refine { wext := hw, cells := ?_, frs := ?_, size := by simp [St.turn], keep := ?_, owns := ?_, os := ⟨rfl, rfl, rfl⟩, froz := fun a => froz_setRow _ _ _ a, muts := fun b' off' _ hn' h => (hMe b' off').2 ⟨h, fun e1 => hn' o (e1.1 ▸ hown)⟩, len := by simp [St.turn], pend := ?_, low := ?_ }
    · intro p ys' hp
      have hpo : p ≠ o := by rintro rfl; rw [hH] at hp; cases hp
      exact ⟨fun _ => rfl, ys', (turn_H_ne hpo).trans hp, rfl⟩
    · intro p sz' n' hp
      by_cases hpo : p = o
      · subst hpo
        rw [hH] at hp; cases hp
        exact ⟨_, hHo, by omega, fun h => by omega⟩
      · exact ⟨n', (turn_H_ne hpo).trans hp, Nat.le_refl _, fun _ => rfl⟩
    · intro b' _ hn'
      have : b' ≠ b := fun e => hn' o (e ▸ hown)
      exact setRow_other _ _ _ _ this
    · intro p b' hp
      by_cases hpo : p = o
      · subst hpo; rw [hown' b' hp]; exact .inl ⟨p, hown⟩
      · exact .inl ⟨p, by rwa [own_congr (S := S) (turn_H_ne hpo) rfl] at hp⟩
    · intro p _ hp
      have : p ≠ o := by rintro rfl; rw [hm] at hp; cases hp
      exact ⟨hp, turn_H_ne this⟩
    · intro _ p _ ys' hy' x hx'
      have hpo : p ≠ o := by rintro rfl; rw [hHo] at hy'; cases hy'
      exact .inr ⟨ys', by rwa [turn_H_ne hpo] at hy', hx'⟩
  refine ⟨e, good_of_step hG e o ?_ (fun p hp => turn_H_ne hp) (fun p hp => rfl) (fun p b' hp hb' => ?_) (fun b' hb' => ?_) (fun b' hb' p hp hq => ?_), ?_⟩
  · unfold ObjOk
    rw [hHo]
    simp only [St.turn, hm]
    refine ⟨hz, hfit, fun _ => ⟨b, off, rfl, cs, t, hheap, by omega, fun j h1 h2 => (hMe _ _).2 ⟨hM j ?_ h2, ?_⟩⟩⟩
    · rw [Nat.add_mul] at h1; omega
    · rw [Nat.add_mul] at h1; omega
  · have hbb : b' ≠ b := by
      rintro rfl
      exact hp (hG.disj p o b' hb' hown)
    exact ⟨setRow_other _ _ _ _ hbb, fun off h => (hMe _ _).2 ⟨h, fun h' => hbb h'.1⟩⟩
  · rw [hown' b' hb']
    have := hG.there o b hown
    simpa [St.turn] using this
  · rw [hown' b' hb'] at hq
    exact hp (hG.disj p o b hq hown)
  · have hlen : n + ys.length = (xs ++ ys).length := by simp [hn]
    suffices key : RP (S.turn o (.fr sz (n + ys.length)) M' b cs).w (S.turn o (.fr sz (n + ys.length)) M' b cs).M (.sl .none (xs ++ ys)) (.slice (some ⟨b, off, none⟩) (xs ++ ys).length cap) by
      rwa [← hlen] at key
    refine RP.sl_mk (by rw [← hlen]; exact hfit) fun _ => ?_
    have hold : ∃ vx, RPs (S.turn o (.fr sz (n + ys.length)) M' b cs).w (S.turn o (.fr sz (n + ys.length)) M' b cs).M (xs.flatMap leaves) vx ∧ Imm (S.turn o (.fr sz (n + ys.length)) M' b cs).w (S.turn o (.fr sz (n + ys.length)) M' b cs).M b off vx := by
      obtain ⟨a, cap', hu, _, hq⟩ := hxr.sl_parts
      by_cases hxe : xs = []
      · subst hxe; exact ⟨[], .nil, .nil⟩
      · obtain ⟨b1, off1, sz1, vx, ha, _, hs1, hi1⟩ := hq hxe
        simp only [Value.slice.injEq] at hu
        obtain ⟨rfl, -, rfl⟩ := hu
        obtain ⟨rfl, rfl⟩ : b = b1 ∧ off = off1 := by simpa using ha
        exact ⟨vx, hs1.mono hw, hi1.mono hw⟩
    obtain ⟨vx, hs1, hi1⟩ := hold
    have hvx : vx.length = n * sz := by rw [← hs1.length, flat_length hx, hn]
    refine ⟨b, off, sz, vx ++ us, rfl, fun x hm => ?_, ?_, fun j v hj => ?_⟩
    · rcases List.mem_append.1 hm with h | h
      · exact hx x h
      · exact hy x h
    · rw [List.flatMap_append]
      exact hs1.append (hyr.mono hw)
    · by_cases hjn : j < vx.length
      · rw [List.getElem?_append_left hjn] at hj
        exact hi1 j v hj
      · rw [List.getElem?_append_right (by omega)] at hj
        have hju := lt_of_some hj
        refine ⟨?_, fun h => ((hMe _ _).1 h).2 ⟨rfl, by omega, by omega⟩⟩
        rw [cell_of_heap hheap, hcg, if_pos ⟨by omega, by omega⟩, ← hj]
        congr 1
        omega

/-- APPEND BEYOND THE ROOM: a new block. The frontier's object is o: an old one (its block is let go), or a place kept for it. -/
theorem app_out (k : Nat) (g : Bool) {S : St} (hG : Good S) {o sz n cap : Nat} (hz : 0 < sz) (hko : (∃ n0, S.H[o]? = some (.fr sz n0) ∧ n0 = n) ∨ (k ≤ o ∧ S.m o = .non ∧ S.H[o]? = some .dead))
    (xs ys : List AV) (hn : n = xs.length) (vx us rest : List Value) (hx : ∀ x ∈ xs, nleaves x = sz) (hy : ∀ x ∈ ys, nleaves x = sz) (hxr : RPs S.w S.M (xs.flatMap leaves) vx)
    (hyr : RPs S.w S.M (ys.flatMap leaves) us) (hfit : n + ys.length ≤ cap) (hne : ys ≠ []) (hrest : (n + ys.length) * sz + rest.length = cap * sz) (t : TypeId) :
    ∃ S', S' = (S.alloc (vx ++ us ++ rest).toArray t fun off => (n + ys.length) * sz ≤ off).give o (.fr sz (n + ys.length)) (.hdr (some ⟨S.w.heap.size, 0, none⟩) cap) ∧ Step k g S S' ∧ Good S' ∧
        RP S'.w S'.M (.sl .none (xs ++ ys)) (.slice (some ⟨S.w.heap.size, 0, none⟩) (n + ys.length) cap) := by
  refine ⟨_, rfl, ?_⟩
  have hyl : 0 < ys.length := List.length_pos_iff.2 hne
  have e1 := step_alloc k g S (vx ++ us ++ rest).toArray t (fun off => (n + ys.length) * sz ≤ off)
  have g1 := good_alloc hG (vx ++ us ++ rest).toArray t (fun off => (n + ys.length) * sz ≤ off)
  generalize hS1 : S.alloc (vx ++ us ++ rest).toArray t (fun off => (n + ys.length) * sz ≤ off) = S1 at e1 g1 ⊢
  have hH1 : S1.H = S.H := by rw [← hS1]; rfl
  have hm1 : S1.m = S.m := by rw [← hS1]; rfl
  have hw1 : S1.w.heap[S.w.heap.size]? = some (.cells (vx ++ us ++ rest).toArray t (0, 0)) := by rw [← hS1]; exact heap_alloc_new
  have hM1 : ∀ off, S1.M S.w.heap.size off ↔ (n + ys.length) * sz ≤ off := fun off => by rw [← hS1]; simp [St.alloc]
  have hob : ∃ ob, S1.H[o]? = some ob := by
    rw [hH1]
    rcases hko with ⟨n0, h, _⟩ | ⟨_, _, h⟩ <;> exact ⟨_, h⟩
  obtain ⟨ob, hob⟩ := hob
  have hHo : (S1.give o (.fr sz (n + ys.length)) (.hdr (some ⟨S.w.heap.size, 0, none⟩) cap)).H[o]? = some (.fr sz (n + ys.length)) := give_H hob
  have hown' : ∀ b, own (S1.give o (.fr sz (n + ys.length)) (.hdr (some ⟨S.w.heap.size, 0, none⟩) cap)) o = some b → b = S.w.heap.size := by
    intro b h
    unfold own at h
    rw [hHo, give_m] at h
    simp only at h
    split at h
    · exact (Option.some.inj h).symm
    · cases h
  have e : Step k g S (S1.give o (.fr sz (n + ys.length)) (.hdr (some ⟨S.w.heap.size, 0, none⟩) cap)) := by
    refine { wext := e1.wext, cells := ?_, frs := ?_, size := e1.size, keep := e1.keep, owns := ?_, os := e1.os, froz := e1.froz, muts := e1.muts, len := by simp [St.give, hH1], pend := ?_, low := ?_ }
    · intro p ys' hp
      have hpo : p ≠ o := by
        rintro rfl
        rcases hko with ⟨n0, h, _⟩ | ⟨_, _, h⟩ <;> (rw [h] at hp; cases hp)
      rw [give_H_ne hpo, give_m_ne hpo]
      exact e1.cells p ys' hp
    · intro p sz' n' hp
      by_cases hpo : p = o
      · subst hpo
        rcases hko with ⟨n0, h, rfl⟩ | ⟨_, _, h⟩
        · rw [h] at hp; cases hp
          exact ⟨_, hHo, by omega, fun h => by omega⟩
        · rw [h] at hp; cases hp
      · rw [give_H_ne hpo, give_m_ne hpo]
        exact e1.frs p sz' n' hp
    · intro p b hp
      by_cases hpo : p = o
      · subst hpo; rw [hown' b hp]; exact .inr (Nat.le_refl _)
      · rw [own_give_ne hpo] at hp; exact e1.owns p b hp
    · intro p hpk hp
      have hpo : p ≠ o := by
        rintro rfl
        rcases hko with ⟨n0, h, _⟩ | ⟨h, _, _⟩
        · have := hG.objs p
          unfold ObjOk at this
          rw [h, hp] at this
          exact this
        · omega
      rw [give_H_ne hpo, give_m_ne hpo]
      exact e1.pend p hpk hp
    · intro hg p hpk ys' hy' x hx'
      have hpo : p ≠ o := by rintro rfl; rw [hHo] at hy'; cases hy'
      exact e1.low hg p hpk ys' (by rwa [give_H_ne hpo] at hy') x hx'
  have hvx : vx.length = n * sz := by rw [← hxr.length, flat_length hx, hn]
  have hul : us.length = ys.length * sz := by rw [← hyr.length, flat_length hy]
  have hsum : (n + ys.length) * sz = n * sz + ys.length * sz := Nat.add_mul ..
  refine ⟨e, good_of_step hG e o ?_ (fun p hp => by rw [give_H_ne hp, hH1]) (fun p hp => by rw [give_m_ne hp, hm1]) (fun p b hp hb => ?_) (fun b hb => ?_) (fun b hb p hp hq => ?_), ?_⟩
  · unfold ObjOk
    rw [hHo, give_m]
    refine ⟨hz, hfit, fun _ => ⟨_, _, rfl, _, t, hw1, ?_, fun j h1 _ => ?_⟩⟩
    · simp; omega
    · show S1.M _ _
      rw [hM1]; omega
  · have hlt := hG.there p b hb
    refine ⟨by rw [← hS1]; exact heap_alloc_old hlt, fun off hM => ?_⟩
    show S1.M b off
    rw [← hS1]
    show (if b = S.w.heap.size then _ else S.M b off)
    rw [if_neg (by omega)]; exact hM
  · rw [hown' b hb]; show _ < S1.w.heap.size; rw [← hS1]; simp [St.alloc]
  · rw [hown' b hb] at hq
    have := hG.there p _ hq
    omega
  · have hlen : n + ys.length = (xs ++ ys).length := by simp [hn]
    suffices key : RP S1.w S1.M (.sl .none (xs ++ ys)) (.slice (some ⟨S.w.heap.size, 0, none⟩) (xs ++ ys).length cap) by
      rw [← hlen] at key
      exact key
    refine RP.sl_mk (by rw [← hlen]; exact hfit) fun _ => ?_
    refine ⟨S.w.heap.size, 0, sz, vx ++ us, rfl, fun x hm => ?_, ?_, fun j v hj => ?_⟩
    · rcases List.mem_append.1 hm with h | h
      · exact hx x h
      · exact hy x h
    · rw [List.flatMap_append]
      exact (hxr.mono e1.wext).append (hyr.mono e1.wext)
    · have hjl := lt_of_some hj
      rw [List.length_append] at hjl
      rw [cell_of_heap hw1, hM1]
      refine ⟨?_, by omega⟩
      rw [Nat.zero_add]
      simp only [List.getElem?_toArray]
      rw [List.getElem?_append_left (by rw [List.length_append]; omega)]
      exact hj

/-- APPEND OF NOTHING to what has no room to spare: a frontier without room. -/
theorem app_none (k : Nat) (g : Bool) {S : St} (hG : Good S) {o sz n : Nat} (hz : 0 < sz) (hk : k ≤ o) (hm : S.m o = .non) (hH : S.H[o]? = some .dead) (a : Option Addr) :
    Step k g S (S.give o (.fr sz n) (.hdr a n)) ∧ Good (S.give o (.fr sz n) (.hdr a n)) := by
  have hown : ∀ b, own (S.give o (.fr sz n) (.hdr a n)) o = some b → False := by
    intro b h
    unfold own at h
    rw [give_H hH, give_m] at h
    cases a with
    | none => cases h
    | some a => simp at h
  have e : Step k g S (S.give o (.fr sz n) (.hdr a n)) := step_give (.refl _ _ _) hk hm hm hH (.inl rfl) (fun b h => (hown b h).elim) ⟨_, hH⟩
  refine ⟨e, good_of_step hG e o ?_ (fun p hp => give_H_ne hp) (fun p hp => give_m_ne hp) (fun p b hp hb => ⟨rfl, fun _ h => h⟩) (fun b hb => (hown b hb).elim) (fun b hb => (hown b hb).elim)⟩
  unfold ObjOk
  rw [give_H hH, give_m]
  exact ⟨hz, Nat.le_refl _, fun h => absurd h (Nat.lt_irrefl _)⟩

end Ab
