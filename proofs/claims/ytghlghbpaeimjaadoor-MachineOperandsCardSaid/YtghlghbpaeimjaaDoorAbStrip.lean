/- The compact code of a function, reckoned out of the model's own code. -/
import Derived.Test.YtghlghbpaeimjaaDoorAbCore
namespace Ab
open Go

def cv : Value → Option AV
  | .int k n => some (.int k n)
  | .bool b => some (.bool b)
  | .string s => some (.str s.data.toList)
  | .slice none 0 0 => some (.sl .full [])
  | .pointer none => some .nilp
  | _ => none
def cvs : List Value → Option (List AV)
  | [] => some []
  | v :: vs => match cv v, cvs vs with | some x, some xs => some (x :: xs) | _, _ => none
def opd : Operand → Opd
  | .tmp t => .t t
  | .const v => .c ((cv v).getD .no)
  | .global g => .g g
  | .func f => .f f

section
variable (P : Program)
def szOf (t : TypeId) : Option Nat := (P.info? t).map (·.size)
def aggT (t : TypeId) : Option Bool := match P.underlying t with
  | some (.struct _) | some (.array _ _) => some true
  | some _ => some false
  | none => none
/-- the zero value's cells -/
def zl (t : TypeId) : Option (List AV) := match P.info? t with
  | some i => match i.zero with | some z => cvs z.cells.toList | none => none
  | none => none

def placesOf (fields : Array Field) : Option (List (Nat × Nat)) := fields.toList.mapM fun f => (P.info? f.type).map fun i => (f.offset, i.size)
def partsOf (places : Nat → Option (Nat × Nat)) : List (Nat × Operand) → Option (List (Nat × Nat × Opd))
  | [] => some []
  | (i, x) :: r => match places i, partsOf places r with
    | some (off, n), some ps => some ((off, n, opd x) :: ps)
    | _, _ => none
/-- what Go compares by its value: 0 a number, 1 a bool, 2 a string -/
def scalarT (t : TypeId) : Option Nat := match P.underlying t with
  | some (.int _) => some 0
  | some .bool => some 1
  | some .string => some 2
  | _ => none
def eqFs : Nat → List Field → Option (List Nat)
  | _, [] => some []
  | i, f :: fs => match scalarT P f.type, eqFs (i + 1) fs with
    | some k, some ks => if f.name ≠ "_" ∧ f.offset = i then some (k :: ks) else none
    | _, _ => none
/-- a struct that Go compares cell by cell -/
def eqT (t : TypeId) : Option (List Nat) := match P.underlying t with
  | some (.struct fields) => if P.stoodInHeld t then none else eqFs P 0 fields.toList
  | _ => none

def opS (r : Nat) (mut_ : Bool) : Op → Option AOp
  | .move x | .assign x => some (.mv (opd x))
  | .pick c a b => some (.pick (opd c) (opd a) (opd b))
  | .alloc t => match zl P t with | some z => some (.al r z) | none => none
  | .box _ x => some (.bx r (opd x))
  | .build t parts => match P.underlying t, zl P t with
    | some (.struct fields), some z => match placesOf P fields with
      | some pl => match partsOf (pl[·]?) parts.toList with | some ps => some (.bld z ps) | none => none
      | none => none
    | some (.array _ e), some z => match szOf P e with
      | some n => match partsOf (fun i => some (i * n, n)) parts.toList with | some ps => some (.bld z ps) | none => none
      | none => none
    | _, _ => none
  | .buildSlice t len parts => match P.underlying t with
    | some (.slice e) => match szOf P e, zl P e, aggT P e with
      | some sz, some z, some agg =>
        if sz = 0 ∨ z.length ≠ sz ∨ len * sz > 2 ^ 24 then none
        else if mut_ then (match partsOf (fun i => some (i * sz, sz)) parts.toList with | some ps => some (.bsr r len ((List.replicate len z).flatten) ps) | none => none)
        else match pubLs z with
          | some z => if agg then some (.bsl sz (.agg z) len (parts.toList.map fun (i, x) => (i, opd x)))
            else (match z with | [v] => some (.bsl sz v len (parts.toList.map fun (i, x) => (i, opd x))) | _ => none)
          | none => none
      | _, _, _ => none
    | _ => none
  | .load t x => match aggT P t, szOf P t with
    | some true, some n => some (.ld true n (opd x))
    | some false, _ => some (.ld false 1 (opd x))
    | _, _ => none
  | .store t a x => match szOf P t with | some n => some (.st n (opd a) (opd x)) | none => none
  | .nilCheck x => some (.nilc (opd x))
  | .binOp op t x y _ => match P.underlying t with
    | some (.int _) | some .string => some (.bin op (opd x) (opd y))
    | some .bool => match op with | .eql => some (.beq false (opd x) (opd y)) | .neq => some (.beq true (opd x) (opd y)) | _ => none
    | some (.struct _) => match eqT P t with | some ks => (match op with | .eql => some (.eqs false ks (opd x) (opd y)) | .neq => some (.eqs true ks (opd x) (opd y)) | _ => none) | none => none
    | _ => none
  | .unOp op _ x => some (.un op (opd x))
  | .convert s d x => match P.underlying s, P.underlying d with
    | some (.int _), some (.int k) => some (.conv k (opd x))
    | some (.slice e), some .string => match P.underlying e with | some (.int .u8) => some (.b2s (opd x)) | _ => none
    | _, _ => none
  | .makeFunc (.func f) first captured => if first.isEmpty then some (.mkf f (captured.toList.map opd)) else none
  | .makeSlice t l c => match P.underlying t with
    | some (.slice e) => match szOf P e, zl P e, P.info? e with
      | some sz, some z, some i => some (.mks r sz i.bytes z (opd l) (opd c))
      | _, _, _ => none
    | _ => none
  | .slice t x lo hi none => match P.underlying t with
    | some .string => some (.sls (opd x) (lo.map opd) (hi.map opd))
    | some (.slice e) => match szOf P e with | some sz => some (.sll sz (opd x) (lo.map opd) (hi.map opd)) | none => none
    | some (.array n e) => match szOf P e with | some sz => some (.sla n sz (opd x) (lo.map opd) (hi.map opd)) | none => none
    | _ => none
  | .fieldAddr t x i => match P.underlying t with
    | some (.struct fields) => match fields[i]? with
      | some f => match szOf P f.type with | some n => if n = 0 then none else some (.fa f.offset (opd x)) | none => none
      | none => none
    | _ => none
  | .field t x i => match P.underlying t with
    | some (.struct fields) => match fields[i]? with
      | some f => match aggT P f.type, szOf P f.type with
        | some true, some n => some (.fld true f.offset n (opd x))
        | some false, _ => some (.fld false f.offset 1 (opd x))
        | _, _ => none
      | none => none
    | _ => none
  | .indexAddr t x i => match P.underlying t with
    | some (.slice e) => match szOf P e with | some sz => some (.ia sz (opd x) (opd i)) | none => none
    | some (.array n e) => match szOf P e with | some sz => some (.iaa n sz (opd x) (opd i)) | none => none
    | _ => none
  | .index t x i => match P.underlying t with
    | some .string => some (.ixs (opd x) (opd i))
    | some (.array n e) => match aggT P e, szOf P e with
      | some agg, some sz => if agg = true ∨ sz = 1 then some (.ixa agg n sz (opd x) (opd i)) else none
      | _, _ => none
    | _ => none
  | .extract x i => some (.ext (opd x) i)
  | .call c => match c.callee with
    | .value (.func f) => some (.call f (c.args.toList.map opd))
    | .value (.tmp t) => some (.callv (.t t) (c.args.toList.map opd))
    | .builtin .len => match c.argTypes[0]?, c.args.toList with
      | some t, [x] => match P.underlying t with
        | some .string => some (.lens (opd x))
        | some (.slice _) => some (.len (opd x))
        | some (.array n _) => some (.lenc n)
        | _ => none
      | _, _ => none
    | .builtin .append => match c.argTypes.toList, c.args.toList with
      | [t, u], [x, y] => match P.underlying t, P.underlying u with
        | some (.slice e), some (.slice _) | some (.slice e), some .string => match P.info? e, zl P e with
          | some i, some z => if i.size = 0 ∨ i.bytes = 0 ∨ z.length ≠ i.size then none else some (.app r i.size i.bytes (opd x) (opd y))
          | _, _ => none
        | _, _ => none
      | _, _ => none
    | .builtin .max => match c.args.toList with | [x, y] => some (.mm true (opd x) (opd y)) | _ => none
    | .builtin .min => match c.args.toList with | [x, y] => some (.mm false (opd x) (opd y)) | _ => none
    | _ => none
  | _ => none
end

/-- the object that an operation lays aside for itself -/
def resv : AOp → Option Ob
  | .al _ z => some (.cells z)
  | .bx .. | .bsr .. | .app .. | .mks .. => some .dead
  | _ => none

/-- an operation that writes an object, or may -/
def AOp.writes : AOp → Bool
  | .st .. | .bx .. | .bsr .. | .app .. | .mks .. | .call .. | .callv .. => true
  | _ => false
/-- an operation that reads an object -/
def AOp.reads : AOp → Bool
  | .ld .. | .b2s .. => true
  | _ => false

/-- the operations ahead of which each one stands, by its edges -/
def ancs : List Oper → List (List Nat) → List (List Nat)
  | [], acc => acc
  | o :: r, acc => ancs r (acc ++ [o.after.toList.flatMap fun e => if Region.binds .any e then e.on :: acc.getD e.on [] else []])

def oguard (ops : Array Oper) (o : Oper) : Option (Option (Nat × Bool)) := match o.guard with
  | none => some none
  | some (j, b) => match (ops[j]?).bind (·.dst) with | some g => some (some (g, b)) | none => none

/-- the slots that an operation reads -/
def slotsOf (ops : Array Oper) (o : Oper) : List Nat :=
  (o.op.operands.toList.filterMap fun | .tmp t => some t | _ => none) ++ (match o.guard with | some (j, _) => ((ops[j]?).bind (·.dst)).toList | none => [])

section
variable (P : Program)
def opsS (mt : Nat → Bool) (ops : Array Oper) : Nat → Nat → List Oper → Option (List AOper)
  | _, _, [] => some []
  | i, r, o :: rest => match opS P r (mt i) o.op, oguard ops o with
    | some ao, some g => match opsS mt ops (i + 1) (if (resv ao).isSome then r + 1 else r) rest with
      | some aos => some (⟨o.dst, ao, g⟩ :: aos)
      | none => none
    | _, _ => none

/-- unordered pairs may not meet in a slot; whatever writes stands in one row; each reader with the writers that it isn't ordered with -/
def slotsApart (ops : Array Oper) (x y : Oper) : Bool :=
  (match x.dst with | some d => !(slotsOf ops y).contains d && y.dst != some d | none => true) && (match y.dst with | some d => !(slotsOf ops x).contains d | none => true)
def drawS (ops : Array Oper) (aos : List AOper) : Option (List (Nat × List Nat)) :=
  let an := ancs ops.toList []
  let n := ops.size
  let ord (i j : Nat) : Bool := (an.getD j []).contains i
  let w (i : Nat) : Bool := match aos[i]? with | some o => o.op.writes | none => false
  if ((List.range n).all fun j => match ops[j]? with | some o => o.after.toList.all fun e => !Region.binds .any e || decide (e.on < j) | none => false) && (List.range n).all fun j => (List.range j).all fun i => ord i j || ((match ops[i]?, ops[j]? with | some x, some y => slotsApart ops x y | _, _ => false) && !(w i && w j)) then
    some ((List.range n).filterMap fun i => match aos[i]? with
      | some o => if o.op.reads then
          let js := (List.range n).filter fun j => w j && (if j < i then !(ord j i) else !(ord i j))
          if js.isEmpty then none else some (i, js)
        else none
      | none => none)
  else none

def regS (mt : Nat → Bool) (ops : Array Oper) (draw : Bool) : Option AC :=
  match opsS P mt ops 0 0 ops.toList with
  | none => none
  | some aos =>
    if draw then match drawS ops aos with
      | some d => some (.reg none (aos.filterMap fun o => resv o.op) aos (some d))
      | none => none
    else some (.reg none (aos.filterMap fun o => resv o.op) aos none)

def codeS (mt : Nat → Nat → Bool) : Code → Option AC
  | .skip => some .skip
  | .region id ops draw => regS P (mt id) ops draw
  | .seq a b => match codeS mt a, codeS mt b with | some x, some y => some (.seq x y) | _, _ => none
  | .cond c a b => match codeS mt a, codeS mt b with | some x, some y => some (.cond (opd c) x y) | _, _ => none
  | .block id b => match codeS mt b with | some x => some (.block none id x) | none => none
  | .loop b => match codeS mt b with | some x => some (.loop none x) | none => none
  | .exit id => some (.exit id)
  | .ret => some .ret
  | _ => none

def resS : List ResultVar → Option (List AR)
  | [] => some []
  | .tmp t :: r => match resS r with | some rs => some (.t t :: rs) | none => none
  | .cell a t :: r => match aggT P t, szOf P t, resS r with
    | some true, some n, some rs => some (.cell a true n :: rs)
    | some false, _, some rs => some (.cell a false 1 :: rs)
    | _, _, _ => none
end

def erase : AC → AC
  | .reg _ pre ops dr => .reg none pre ops dr
  | .seq a b => .seq (erase a) (erase b)
  | .cond c a b => .cond c (erase a) (erase b)
  | .block _ id b => .block none id (erase b)
  | .loop _ b => .loop none (erase b)
  | c => c

/-- the greatest slot that the code writes, and one more -/
def dstsBelow (n : Nat) : Code → Bool
  | .region _ ops _ => ops.toList.all fun o => match o.dst with | some d => decide (d < n) | none => true
  | .seq a b => dstsBelow n a && dstsBelow n b
  | .cond _ a b => dstsBelow n a && dstsBelow n b
  | .block _ b => dstsBelow n b
  | .loop b => dstsBelow n b
  | _ => true

end Ab
