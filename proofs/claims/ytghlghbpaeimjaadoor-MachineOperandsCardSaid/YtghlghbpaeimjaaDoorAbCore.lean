/- The abstract machine: values without memory, a compact code, and its run (a function with fuel). -/
import Derived.Calls
namespace Ab
open Go (IntKind BinOp UnOp)

inductive Cap where
  | none | full | tok (o : Nat)
  deriving DecidableEq

/-- Values without memory. sl: a slice, its elements in order (leaves or agg of leaves). agg: a struct or an array, its cells in order. ptr o off: cell off of object o.
eptr: a place of memory that never changes again, what it holds from there on. arr o off len: a slice over object o, from cell off on, len elements. -/
inductive AV where
  | int (k : IntKind) (n : Int)
  | bool (b : Bool)
  | str (s : List UInt8)
  | sl (c : Cap) (xs : List AV)
  | agg (xs : List AV)
  | tup (xs : List AV)
  | ptr (o off : Nat)
  | nilp
  | eptr (xs : List AV)
  | arr (o off len : Nat)
  | fn (f : Nat) (xs : List AV)
  | map (o : Nat)
  | no

mutual
def AV.beq : AV → AV → Bool
  | .int k n, .int k' n' => k == k' && n == n'
  | .bool a, .bool b => a == b
  | .str s, .str t => s == t
  | .sl c xs, .sl d ys => c == d && beqs xs ys
  | .agg xs, .agg ys => beqs xs ys
  | .tup xs, .tup ys => beqs xs ys
  | .ptr o k, .ptr p l => o == p && k == l
  | .nilp, .nilp => true
  | .eptr xs, .eptr ys => beqs xs ys
  | .arr o k n, .arr p l m => o == p && k == l && n == m
  | .fn f xs, .fn g ys => f == g && beqs xs ys
  | .map o, .map p => o == p
  | .no, .no => true
  | _, _ => false
def beqs : List AV → List AV → Bool
  | [], [] => true
  | x :: xs, y :: ys => AV.beq x y && beqs xs ys
  | _, _ => false
end

mutual
theorem AV.beq_refl : ∀ x : AV, AV.beq x x = true
  | .int .. | .bool _ | .str _ | .ptr .. | .nilp | .arr .. | .map _ | .no => by simp [AV.beq]
  | .sl _ xs | .agg xs | .tup xs | .eptr xs | .fn _ xs => by simp [AV.beq, beqs_refl xs]
theorem beqs_refl : ∀ xs : List AV, beqs xs xs = true
  | [] => rfl
  | x :: xs => by simp [beqs, AV.beq_refl x, beqs_refl xs]
end
mutual
theorem AV.beq_eq : ∀ x y : AV, AV.beq x y = true → x = y
  | .int .., y, h => by cases y <;> simp_all [AV.beq]
  | .bool _, y, h => by cases y <;> simp_all [AV.beq]
  | .str _, y, h => by cases y <;> simp_all [AV.beq]
  | .ptr .., y, h => by cases y <;> simp_all [AV.beq]
  | .nilp, y, h => by cases y <;> simp_all [AV.beq]
  | .arr .., y, h => by cases y <;> simp_all [AV.beq]
  | .map _, y, h => by cases y <;> simp_all [AV.beq]
  | .no, y, h => by cases y <;> simp_all [AV.beq]
  | .sl _ xs, y, h => by
    cases y <;> simp only [AV.beq, Bool.and_eq_true, beq_iff_eq, Bool.false_eq_true] at h
    rw [h.1, beqs_eq xs _ h.2]
  | .agg xs, y, h => by
    cases y <;> simp only [AV.beq, Bool.false_eq_true] at h
    rw [beqs_eq xs _ h]
  | .tup xs, y, h => by
    cases y <;> simp only [AV.beq, Bool.false_eq_true] at h
    rw [beqs_eq xs _ h]
  | .eptr xs, y, h => by
    cases y <;> simp only [AV.beq, Bool.false_eq_true] at h
    rw [beqs_eq xs _ h]
  | .fn _ xs, y, h => by
    cases y <;> simp only [AV.beq, Bool.and_eq_true, beq_iff_eq, Bool.false_eq_true] at h
    rw [h.1, beqs_eq xs _ h.2]
theorem beqs_eq : ∀ xs ys : List AV, beqs xs ys = true → xs = ys
  | [], ys, h => by cases ys <;> simp_all [beqs]
  | x :: xs, ys, h => by
    cases ys with
    | nil => simp [beqs] at h
    | cons y ys =>
      simp only [beqs, Bool.and_eq_true] at h
      rw [AV.beq_eq x y h.1, beqs_eq xs ys h.2]
end
instance : DecidableEq AV := fun x y => if h : AV.beq x y = true then isTrue (AV.beq_eq x y h) else isFalse fun e => h (e ▸ AV.beq_refl x)

/-- Objects: a variable or an array in memory (its cells), a frontier (n elements of sz cells: who may append), a map. -/
inductive Ob where
  | dead
  | cells (xs : List AV)
  | fr (sz n : Nat)
  | mp (es : List (AV × AV))
  deriving DecidableEq

abbrev Heap := List Ob
abbrev Slots := List (Nat × AV)

def get : Slots → Nat → AV
  | [], _ => .no
  | (k, v) :: r, t => if t = k then v else get r t

inductive Opd where
  | t (n : Nat)
  | c (v : AV)
  | f (k : Nat)
  | g (k : Nat)

inductive AOp where
  | mv (x : Opd)
  | pick (c a b : Opd)
  | bld (zero : List AV) (parts : List (Nat × Nat × Opd))
  | bsl (sz : Nat) (zero : AV) (n : Nat) (parts : List (Nat × Opd))
  | bsr (r n : Nat) (zero : List AV) (parts : List (Nat × Nat × Opd))
  | ld (agg : Bool) (n : Nat) (x : Opd)
  | st (n : Nat) (x y : Opd)
  | al (r : Nat) (zero : List AV)
  | bx (r : Nat) (x : Opd)
  | nilc (x : Opd)
  | bin (op : BinOp) (x y : Opd)
  | beq (neg : Bool) (x y : Opd)
  | eqs (neg : Bool) (ks : List Nat) (x y : Opd)
  | un (op : UnOp) (x : Opd)
  | conv (k : IntKind) (x : Opd)
  | b2s (x : Opd)
  | sls (x : Opd) (lo hi : Option Opd)
  | sll (sz : Nat) (x : Opd) (lo hi : Option Opd)
  | sla (n sz : Nat) (x : Opd) (lo hi : Option Opd)
  | fa (off : Nat) (x : Opd)
  | fld (agg : Bool) (off n : Nat) (x : Opd)
  | ia (sz : Nat) (x i : Opd)
  | iaa (len sz : Nat) (x i : Opd)
  | ixs (x i : Opd)
  | ixa (agg : Bool) (len sz : Nat) (x i : Opd)
  | ext (x : Opd) (i : Nat)
  | lens (x : Opd)
  | len (x : Opd)
  | lenc (n : Nat)
  | mm (max : Bool) (x y : Opd)
  | app (r sz bytes : Nat) (x y : Opd)
  | mks (r sz bytes : Nat) (zero : List AV) (l c : Opd)
  | mkf (f : Nat) (xs : List Opd)
  | call (f : Nat) (xs : List Opd)
  | callv (x : Opd) (xs : List Opd)

structure AOper where
  dst : Option Nat
  op : AOp
  guard : Option (Nat × Bool)

/-- Code. L: the slots that are kept (behind a region, behind a block, at a loop's head); what the others hold is forgotten. -/
inductive AC where
  | skip
  | reg (L : Option (List Nat)) (pre : List Ob) (ops : List AOper) (dr : Option (List (Nat × List Nat)))
  | seq (a b : AC)
  | cond (c : Opd) (a b : AC)
  | block (L : Option (List Nat)) (id : Nat) (b : AC)
  | loop (L : Option (List Nat)) (b : AC)
  | exit (id : Nat)
  | ret

inductive AR where
  | t (n : Nat)
  | cell (n : Nat) (agg : Bool) (k : Nat)

structure AFn where
  code : AC
  np : Nat
  res : List AR
  grow : Bool

structure Env where
  fn : Nat → Option AFn
  gl : Nat → Option (List AV)
  /-- contracts, in the place of bodies -/
  sp : Nat → Option (List AV → List Ob → Option (AV × List Ob)) := fun _ => none

def val (E : Env) (s : Slots) : Opd → AV
  | .t n => get s n
  | .c v => v
  | .f k => .fn k []
  | .g k => match E.gl k with | some xs => .eptr xs | none => .no

/-- A leaf: the value of one cell. -/
def isLf : AV → Bool
  | .agg _ | .tup _ | .no => false
  | _ => true
/-- a leaf that a function value may carry -/
def isCap : AV → Bool
  | .agg _ | .tup _ | .no | .fn .. => false
  | _ => true
/-- the cells of a value that is stored -/
def cellsOf : AV → Option (List AV)
  | .agg xs => if xs.all isLf then some xs else none
  | .tup _ | .no => none
  | v => some [v]
/-- how many cells an element has -/
def nleaves : AV → Nat
  | .agg xs => xs.length
  | _ => 1
def leaves : AV → List AV
  | .agg xs => xs
  | v => [v]
def mkAgg (agg : Bool) (xs : List AV) : Option AV := if agg then some (.agg xs) else match xs with | [x] => some x | _ => none

/-- a leaf that says nothing of objects, as it lies inside a slice -/
def pubL : AV → Option AV
  | .int k n => some (.int k n)
  | .bool b => some (.bool b)
  | .str s => some (.str s)
  | .sl _ xs => some (.sl .none xs)
  | _ => none
def pubLs : List AV → Option (List AV)
  | [] => some []
  | x :: xs => match pubL x, pubLs xs with | some y, some ys => some (y :: ys) | _, _ => none
def pub : AV → Option AV
  | .agg xs => match pubLs xs with | some ys => some (.agg ys) | none => none
  | v => pubL v

/-- the room for appending is not handed on -/
def argL : AV → AV
  | .sl _ xs => .sl .none xs
  | v => v
def arg : AV → AV
  | .agg xs => .agg (xs.map argL)
  | v => argL v

/-- may this leaf be handed back (or be stored) by who may name the objects below n0 alone? -/
def below (n0 : Nat) : AV → Bool
  | .int .. | .bool _ | .str _ | .nilp | .eptr _ | .no => true
  | .sl (.tok o) _ => o < n0
  | .sl _ _ => true
  | .ptr o _ | .arr o _ _ | .map o => o < n0
  | .agg _ | .tup _ => false
  | .fn _ xs => xs.isEmpty
def free (v : AV) : Bool := below 0 v

def intOf : AV → Option Int
  | .int _ n => some n
  | _ => none

def binI (op : BinOp) (k : IntKind) (a b : Int) : Option AV :=
  match op with
  | .add => some (.int k (k.wrap (a + b)))
  | .sub => some (.int k (k.wrap (a - b)))
  | .mul => some (.int k (k.wrap (a * b)))
  | .quo => if b = 0 then none else some (.int k (k.wrap (a.tdiv b)))
  | .rem => if b = 0 then none else some (.int k (a.tmod b))
  | .and => some (.int k (k.wrap ((BitVec.ofInt k.bits a &&& BitVec.ofInt k.bits b).toNat)))
  | .or => some (.int k (k.wrap ((BitVec.ofInt k.bits a ||| BitVec.ofInt k.bits b).toNat)))
  | .xor => some (.int k (k.wrap ((BitVec.ofInt k.bits a ^^^ BitVec.ofInt k.bits b).toNat)))
  | .andNot => some (.int k (k.wrap ((BitVec.ofInt k.bits a &&& ~~~ BitVec.ofInt k.bits b).toNat)))
  | .shl | .shr => none
  | .eql => some (.bool (a == b))
  | .neq => some (.bool (a != b))
  | .lss => some (.bool (decide (a < b)))
  | .leq => some (.bool (decide (a ≤ b)))
  | .gtr => some (.bool (decide (a > b)))
  | .geq => some (.bool (decide (a ≥ b)))

def shI (op : BinOp) (k : IntKind) (a b : Int) : Option AV :=
  if b < 0 then none else
  match op with
  | .shl => some (.int k (k.wrap (a * 2 ^ (min b.toNat k.bits))))
  | .shr => some (.int k (a.fdiv (2 ^ (min b.toNat k.bits))))
  | _ => none

def binS (op : BinOp) (x y : List UInt8) : Option AV :=
  match op with
  | .add => if x.length + y.length ≤ 9223372036854775807 then some (.str (x ++ y)) else none
  | .eql => some (.bool (x == y))
  | .neq => some (.bool (!(x == y)))
  | .lss => some (.bool (Go.Op.bytesLess x y))
  | .leq => some (.bool (Go.Op.bytesLess x y || x == y))
  | .gtr => some (.bool (!(Go.Op.bytesLess x y || x == y)))
  | .geq => some (.bool (!(Go.Op.bytesLess x y)))
  | _ => none

def bin (op : BinOp) : AV → AV → Option AV
  | .int k a, .int k' b => if op = .shl ∨ op = .shr then shI op k a b else if k = k' then binI op k a b else none
  | .str x, .str y => binS op x y
  | _, _ => none

def un (op : UnOp) : AV → Option AV
  | .int k n => match op with
    | .neg => some (.int k (k.wrap (0 - n)))
    | .xor => some (.int k (k.wrap ((BitVec.ofInt k.bits (if k.signed then -1 else k.max) ^^^ BitVec.ofInt k.bits n).toNat)))
    | _ => none
  | .bool b => match op with | .not => some (.bool !b) | _ => none
  | _ => none

/-- leaves that Go compares by their values; ks: 0 a number, 1 a bool, 2 a string -/
def eqL : Nat → AV → AV → Option Bool
  | 0, .int k a, .int k' b => if k = k' then some (a == b) else none
  | 1, .bool a, .bool b => some (a == b)
  | 2, .str a, .str b => some (a == b)
  | _, _, _ => none
def eqLs : List Nat → List AV → List AV → Option Bool
  | [], [], [] => some true
  | k :: ks, x :: xs, y :: ys => match eqL k x y with
    | some true => eqLs ks xs ys
    | some false => some false
    | none => none
  | _, _, _ => none

/-- the bounds of x[lo:hi] -/
def bounds (s : Opd → AV) (n : Nat) (lo hi : Option Opd) : Option (Nat × Nat) :=
  let h : Option Nat := match hi with
    | none => some n
    | some x => match s x with | .int _ i => if 0 ≤ i ∧ i ≤ (n : Int) then some i.toNat else none | _ => none
  match h with
  | none => none
  | some h => match lo with
    | none => some (0, h)
    | some x => match s x with | .int _ i => if 0 ≤ i ∧ i ≤ (h : Int) then some (i.toNat, h) else none | _ => none

def splice (xs : List AV) (off : Nat) (ys : List AV) : List AV := xs.take off ++ ys ++ xs.drop (off + ys.length)

def fillParts (s : Opd → AV) : List (Nat × Nat × Opd) → List AV → Option (List AV)
  | [], xs => some xs
  | (off, n, x) :: r, xs => match cellsOf (s x) with
    | some ys => if ys.length = n ∧ off + n ≤ xs.length then fillParts s r (splice xs off ys) else none
    | none => none
def fillElems (s : Opd → AV) (sz : Nat) : List (Nat × Opd) → List AV → Option (List AV)
  | [], xs => some xs
  | (i, x) :: r, xs => match pub (s x) with
    | some y => if nleaves y = sz ∧ i < xs.length then fillElems s sz r (xs.set i y) else none
    | none => none

def sizeOk (sz : Nat) : List AV → Bool
  | [] => true
  | x :: _ => nleaves x == sz

/-- Operations that neither read nor write an object. -/
def pureOp (s : Opd → AV) : AOp → Option AV
  | .mv x => some (s x)
  | .pick c a b => match s c with | .bool t => some (if t then s a else s b) | _ => none
  | .bld zero parts => match fillParts s parts zero with | some xs => some (.agg xs) | none => none
  | .bsl sz zero n parts => match fillElems s sz parts (List.replicate n zero) with | some xs => some (.sl .full xs) | none => none
  | .nilc x => match s x with | .ptr o k => some (.ptr o k) | .eptr xs => some (.eptr xs) | .fn f xs => some (.fn f xs) | _ => none
  | .bin op x y => bin op (s x) (s y)
  | .beq neg x y => match s x, s y with | .bool a, .bool b => some (.bool (if neg then !(a == b) else (a == b))) | _, _ => none
  | .eqs neg ks x y => match s x, s y with
    | .agg xs, .agg ys => match eqLs ks xs ys with | some b => some (.bool (if neg then !b else b)) | none => none
    | _, _ => none
  | .un op x => un op (s x)
  | .conv k x => match s x with | .int _ n => some (.int k (k.wrap n)) | _ => none
  | .sls x lo hi => match s x with
    | .str b => match bounds s b.length lo hi with | some (l, h) => some (.str ((b.take h).drop l)) | none => none
    | _ => none
  | .sll sz x lo hi => match s x with
    | .sl _ xs => if sizeOk sz xs then (match bounds s xs.length lo hi with | some (l, h) => some (.sl .none ((xs.take h).drop l)) | none => none) else none
    | _ => none
  | .fa off x => match s x with
    | .ptr o k => some (.ptr o (k + off))
    | .eptr xs => some (.eptr (xs.drop off))
    | _ => none
  | .fld agg off n x => match s x with
    | .agg xs => let ys := (xs.drop off).take n; if ys.length = n then mkAgg agg ys else none
    | _ => none
  | .ia sz x i => match s x, s i with
    | .sl _ xs, .int _ i => if 0 ≤ i then match xs[i.toNat]? with | some y => if nleaves y = sz then some (.eptr (leaves y)) else none | none => none else none
    | .arr o off len, .int _ i => if 0 ≤ i ∧ i < (len : Int) then some (.ptr o (off + i.toNat * sz)) else none
    | _, _ => none
  | .iaa len sz x i => match s x, s i with
    | .ptr o off, .int _ i => if 0 ≤ i ∧ i < (len : Int) then some (.ptr o (off + i.toNat * sz)) else none
    | .eptr xs, .int _ i => if 0 ≤ i ∧ i < (len : Int) then some (.eptr (xs.drop (i.toNat * sz))) else none
    | _, _ => none
  | .ixs x i => match s x, s i with
    | .str b, .int _ i => if 0 ≤ i then match b[i.toNat]? with | some c => some (.int .u8 c.toNat) | none => none else none
    | _, _ => none
  | .ixa agg len sz x i => match s x, s i with
    | .agg xs, .int _ i => if 0 ≤ i ∧ i < (len : Int) then let ys := (xs.drop (i.toNat * sz)).take sz; if ys.length = sz then mkAgg agg ys else none else none
    | _, _ => none
  | .ext x i => match s x with | .tup xs => xs[i]? | _ => none
  | .lens x => match s x with
    | .str b => some (.int .i64 b.length)
    | _ => none
  | .len x => match s x with
    | .sl _ xs => some (.int .i64 xs.length)
    | .arr _ _ n => some (.int .i64 n)
    | _ => none
  | .lenc n => some (.int .i64 n)
  | .mm max x y => match s x, s y with
    | .int k a, .int k' b => if k = k' then some (.int k (if max then (if b > a then b else a) else (if b < a then b else a))) else none
    | _, _ => none
  | .mkf f xs => if (xs.map s).all isCap then some (.fn f (xs.map s)) else none
  | _ => none

/-- the elements that an append or a conversion reads -/
def elemsOf (h : Heap) (sz : Nat) : AV → Option (List AV)
  | .sl _ xs => if sizeOk sz xs then some xs else none
  | .str b => if sz = 1 then some (b.map fun c => .int .u8 c.toNat) else none
  | .arr o off len => match h[o]? with
    | some (.cells xs) => if sz = 1 then match pubLs ((xs.drop off).take len) with
        | some ys => if ys.length = len then some ys else none
        | none => none
      else none
    | _ => none
  | _ => none
def bytesOf : List AV → Option (List UInt8)
  | [] => some []
  | .int .u8 n :: r => match bytesOf r with | some bs => some (UInt8.ofNat n.toNat :: bs) | none => none
  | _ => none

/-- Operations on objects. n0: the objects below it are the callers'; base: where this region's own objects begin. -/
def heapOp (n0 : Nat) (grow : Bool) (base : Nat) (s : Opd → AV) (h : Heap) : AOp → Option (AV × Heap)
  | .ld agg n x => match s x with
    | .ptr o off => match h[o]? with
      | some (.cells xs) => let ys := (xs.drop off).take n; if ys.length = n then (match mkAgg agg ys with | some v => some (v, h) | none => none) else none
      | _ => none
    | .eptr xs => let ys := xs.take n; if ys.length = n then (match mkAgg agg ys with | some v => some (v, h) | none => none) else none
    | _ => none
  | .st n x y => match s x, cellsOf (s y) with
    | .ptr o off, some ys => match h[o]? with
      | some (.cells xs) => if ys.length = n ∧ off + n ≤ xs.length ∧ (n0 ≤ o ∨ grow = true ∨ ys.all free = true) then some (.no, h.set o (.cells (splice xs off ys))) else none
      | _ => none
    | _, _ => none
  | .al r _ => some (.ptr (base + r) 0, h)
  | .bx r x => match cellsOf (s x) with | some ys => some (.ptr (base + r) 0, h.set (base + r) (.cells ys)) | none => none
  | .bsr r n zero parts => match fillParts s parts zero with
    | some xs => some (.arr (base + r) 0 n, h.set (base + r) (.cells xs))
    | none => none
  | .sla n sz x lo hi => match s x with
    | .ptr o off => match bounds s n lo hi with | some (l, k) => some (if l < k then .arr o (off + l * sz) (k - l) else .sl .none [], h) | none => none
    | _ => none
  | .sll sz x lo hi => match s x with
    | .arr o off len => match bounds s len lo hi with | some (l, k) => some (if l < k then .arr o (off + l * sz) (k - l) else .sl .none [], h) | none => none
    | _ => match pureOp s (.sll sz x lo hi) with | some v => some (v, h) | none => none
  | .b2s x => match s x with
    | .str _ => none
    | v => match elemsOf h 1 v with
      | some xs => match bytesOf xs with | some b => some (.str b, h) | none => none
      | none => none
  | .app r sz bytes x y => match elemsOf h sz (s y) with
    | some ys => match s x with
      | .sl c xs =>
        if sizeOk sz xs ∧ 2 * ((xs.length + ys.length) * bytes) + 2048 * bytes ≤ 281474976710656 then
          match c with
          | .full => some (.sl (.tok (base + r)) (xs ++ ys), h.set (base + r) (.fr sz (xs.length + ys.length)))
          | .tok o => match h[o]? with
            | some (.fr sz' n) => if sz' = sz ∧ n = xs.length ∧ (n0 ≤ o ∨ grow = true) then some (.sl (.tok o) (xs ++ ys), h.set o (.fr sz (xs.length + ys.length))) else none
            | _ => none
          | .none => none
        else none
      | _ => none
    | none => none
  | .mks r sz bytes zero l c => match s l, s c with
    | .int _ a, .int _ b => if a = b ∧ 0 ≤ a ∧ a * bytes ≤ 281474976710656 ∧ a ≤ 9223372036854775807 ∧ sz = zero.length ∧ 0 < sz then some (.arr (base + r) 0 a.toNat, h.set (base + r) (.cells (List.replicate a.toNat zero).flatten)) else none
    | _, _ => none
  | op => match pureOp s op with | some v => some (v, h) | none => none

def put (s : Slots) (d : Option Nat) (v : AV) : Slots := match d with | some d => (d, v) :: s | none => s

/-- the arguments of a call -/
def argsOf (s : Opd → AV) : List Opd → Option (List AV)
  | [] => some []
  | x :: r => match s x with
    | .tup _ => none
    | v => match argsOf s r with | some vs => some (arg v :: vs) | none => none
/-- a call: its callee, its arguments -/
def callee (s : Opd → AV) : AOp → Option (Nat × List AV)
  | .call f xs => match argsOf s xs with | some as => some (f, as) | none => none
  | .callv x xs => match s x with
    | .fn f ys => match argsOf s xs with | some as => some (f, as ++ ys) | none => none
    | _ => none
  | _ => none
def AOp.isCall : AOp → Bool
  | .call .. | .callv .. => true
  | _ => false

abbrev CallF := Nat → List AV → Heap → Option (AV × Heap)

def stepOp (E : Env) (cf : CallF) (n0 : Nat) (grow : Bool) (base : Nat) (s : Slots) (h : Heap) (o : AOp) : Option (AV × Heap) :=
  if o.isCall then
    match callee (val E s) o with
    | some (f, as) => match cf f as h with
      | some (v, h') => match E.fn f with
        | some fn => if grow = false ∧ fn.grow = true then (if h'.take n0 = h.take n0 then some (v, h') else none) else some (v, h')
        | none => none
      | none => none
    | none => none
  else heapOp n0 grow base (val E s) h o

/-- is an operation carried out? -/
def wants (s : Slots) : Option (Nat × Bool) → Option Bool
  | none => some true
  | some (g, b) => match get s g with | .bool c => some (c == b) | .tup [] => some false | _ => none

def opsRun (E : Env) (cf : CallF) (n0 : Nat) (grow : Bool) (base : Nat) : List AOper → Slots → Heap → Option (Slots × Heap)
  | [], s, h => some (s, h)
  | o :: r, s, h => match wants s o.guard with
    | some true => match stepOp E cf n0 grow base s h o.op with
      | some (v, h') => opsRun E cf n0 grow base r (put s o.dst v) h'
      | none => none
    | some false => opsRun E cf n0 grow base r (put s o.dst (.tup [])) h
    | none => none

/-- which object does an operation read? -/
def looks (E : Env) (s : Slots) (o : AOper) : Option Nat :=
  match wants s o.guard, o.op with
  | some true, .ld _ _ x => match val E s x with | .ptr p _ => some p | _ => none
  | some true, .b2s x => match val E s x with | .arr p _ _ => some p | _ => none
  | _, _ => none
/-- the heaps ahead of each operation of a region, and behind the last; the objects that the operations read -/
def opsTrace (E : Env) (cf : CallF) (n0 : Nat) (grow : Bool) (base : Nat) : List AOper → Slots → Heap → List (Heap × Option Nat)
  | [], _, h => [(h, none)]
  | o :: r, s, h => (h, looks E s o) :: match wants s o.guard with
    | some true => match stepOp E cf n0 grow base s h o.op with
      | some (v, h') => opsTrace E cf n0 grow base r (put s o.dst v) h'
      | none => []
    | _ => opsTrace E cf n0 grow base r (put s o.dst (.tup [])) h
/-- what an unordered reader reads is the same ahead of the writer and behind it -/
def sameAt (tr : List (Heap × Option Nat)) (i j : Nat) : Bool :=
  match tr[i]? with
  | some (_, some o) => match tr[j]?, tr[j + 1]? with
    | some (a, _), some (b, _) => decide (a[o]? = b[o]?)
    | _, _ => false
  | some (_, none) => true
  | none => false
def drawOk (tr : List (Heap × Option Nat)) (dr : List (Nat × List Nat)) : Bool := dr.all fun (i, js) => js.all fun j => sameAt tr i j

inductive Ext where
  | nrm | exit (id : Nat) | ret
  deriving DecidableEq

def resOf (s : Slots) (h : Heap) : List AR → Option (List AV)
  | [] => some []
  | .t n :: r => match get s n with
    | .tup _ => none
    | v => match resOf s h r with | some vs => some (v :: vs) | none => none
  | .cell n agg k :: r => match get s n, resOf s h r with
    | .ptr o off, some vs => match h[o]? with
      | some (.cells xs) => let ys := (xs.drop off).take k; if ys.length = k then (match mkAgg agg ys with | some v => some (v :: vs) | none => none) else none
      | _ => none
    | _, _ => none
def okRes (n0 : Nat) : AV → Bool
  | .agg xs => xs.all (below n0)
  | v => below n0 v
def one : List AV → AV
  | [v] => v
  | vs => .tup vs
/-- what a call hands back: of a function that does not grow the heap, nothing that names its own objects -/
def finish (grow : Bool) (n0 : Nat) (vs : List AV) (h : Heap) : Option (AV × Heap) :=
  if grow then some (one vs, h)
  else let ws := vs.map arg; if ws.all (okRes n0) then some (one ws, h.take n0) else none

def clearO : Option (List Nat) → Slots → Slots
  | none, s => s
  | some L, s => L.map fun t => (t, get s t)

def run (E : Env) (n0 : Nat) (grow : Bool) (cf : CallF) : Nat → AC → Slots → Heap → Option (Ext × Slots × Heap)
  | 0, _, _, _ => none
  | n + 1, c, s, h =>
    match c with
    | .skip => some (.nrm, s, h)
    | .reg L pre ops dr =>
      match opsRun E cf n0 grow h.length ops s (h ++ pre) with
      | none => none
      | some (s', h') => match dr with
        | none => some (.nrm, clearO L s', h')
        | some d => if drawOk (opsTrace E cf n0 grow h.length ops s (h ++ pre)) d = true then some (.nrm, clearO L s', h') else none
    | .seq a b => match run E n0 grow cf n a s h with
      | some (.nrm, s', h') => run E n0 grow cf n b s' h'
      | r => r
    | .cond x a b => match val E s x with
      | .bool true => run E n0 grow cf n a s h
      | .bool false => run E n0 grow cf n b s h
      | _ => none
    | .block L id b => match run E n0 grow cf n b s h with
      | some (.nrm, s', h') => some (.nrm, clearO L s', h')
      | some (.exit j, s', h') => if j = id then some (.nrm, clearO L s', h') else some (.exit j, s', h')
      | r => r
    | .loop L b => match run E n0 grow cf n b (clearO L s) h with
      | some (.nrm, s', h') => run E n0 grow cf n (.loop L b) s' h'
      | r => r
    | .exit id => some (.exit id, s, h)
    | .ret => some (.ret, s, h)

def params : Nat → List AV → Slots
  | _, [] => []
  | i, v :: r => (i, v) :: params (i + 1) r

def call (E : Env) : Nat → CallF
  | 0 => fun _ _ _ => none
  | n + 1 => fun f as h => match E.sp f with
    | some sp => sp as h
    | none => match E.fn f with
      | none => none
      | some fn => if as.length = fn.np then
          match run E h.length fn.grow (call E n) n fn.code (params 0 as) h with
          | some (.exit _, _, _) => none
          | some (_, s, h') => match resOf s h' fn.res with
            | some vs => finish fn.grow h.length vs h'
            | none => none
          | none => none
        else none

end Ab
