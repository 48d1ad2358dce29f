/- The framework, part 7: Sim2, Num, Syn, Syn2. -/
import Derived.Test.YtkomfefpfalajaaAb6
/- A heap in which one object of the callers' changes; positions as opaque numbers. -/
namespace Ab
open Go
section
variable {H X Y : Heap} {o k : Nat} {S T : Ob}
@[simp] theorem olt_add {n : Nat} (h : o < n) : (o < n + k) = True := by simp; omega
@[simp] theorem hs_getr (h : o < H.length) : (H.set o S)[o]? = some S := by rw [List.getElem?_set_self h]
@[simp] theorem hs_getr2 (h : o < H.length) : (H.set o S ++ X)[o]? = some S := by
  rw [List.getElem?_append_left (by simpa using h), List.getElem?_set_self h]
@[simp] theorem hs_get : (H.set o S ++ X)[H.length + k]? = X[k]? := by
  rw [List.getElem?_append_right (by simp)]
  simp
@[simp] theorem hs_get0 : (H.set o S ++ X)[H.length]? = X[0]? := by
  rw [List.getElem?_append_right (by simp)]
  simp
@[simp] theorem hs_set : (H.set o S ++ X).set (H.length + k) T = H.set o S ++ X.set k T := by
  rw [List.set_append_right _ _ (by simp)]
  simp
@[simp] theorem hs_set0 : (H.set o S ++ X).set H.length T = H.set o S ++ X.set 0 T := by
  rw [List.set_append_right _ _ (by simp)]
  simp
@[simp] theorem hs_take : (H.set o S ++ X).take H.length = H.set o S := by
  rw [List.take_append_of_le_length (by simp), List.take_of_length_le (by simp)]
@[simp] theorem hs_setr (h : o < H.length) : (H.set o S ++ X).set o T = H.set o T ++ X := by
  rw [List.set_append_left _ _ (by simpa using h), List.set_set]
/-- a contract over one object, under whatever the caller has of its own -/
theorem app {E : Env} {f : Nat} {as : List AV} {v : AV} (h : ∀ H : Heap, o < H.length → callF E f as (H.set o S) = some (v, H.set o T)) : ∀ H X : Heap, o < H.length → callF E f as (H.set o S ++ X) = some (v, H.set o T ++ X) := by
  intro H X ho
  have := h (H ++ X) (by simp; omega)
  rw [List.set_append_left _ _ ho, List.set_append_left _ _ ho] at this
  exact this
end

/-- a position: kept opaque for the simplifier -/
def ic (n : Nat) : Int := n
theorem ic_eq (n : Nat) : ic n = (n : Int) := rfl
@[simp] theorem ic_toNat (n : Nat) : (ic n).toNat = n := rfl
@[simp] theorem ic_nonneg (n : Nat) : (0 ≤ ic n) = True := by simp [ic]
@[simp] theorem ic_lt (n m : Nat) : (ic n < ic m) = (n < m) := by simp [ic]
@[simp] theorem ic_le (n m : Nat) : (ic n ≤ ic m) = (n ≤ m) := by simp [ic]
@[simp] theorem ic_inj (n m : Nat) : (ic n = ic m) = (n = m) := by simp only [ic, Int.ofNat_inj]
@[simp] theorem ic_lt_cast (n m : Nat) : (ic n < (m : Int)) = (n < m) := by simp [ic]
@[simp] theorem ic_le_cast (n m : Nat) : ((m : Int) ≤ ic n) = (m ≤ n) := by simp [ic]
theorem wrap_ic {n : Nat} (h : n < 4611686018427387904) : IntKind.i64.wrap (ic n + 1) = ic (n + 1) := by
  simp only [IntKind.wrap, IntKind.signed, IntKind.bits, ic]
  simp
  omega
theorem wrap_ic1 {n : Nat} (h : n < 4611686018427387904) : IntKind.i64.wrap (ic (n + 1) - 1) = ic n := by
  simp only [IntKind.wrap, IntKind.signed, IntKind.bits, ic]
  simp
  omega
end Ab
/- Numbers of Go's kinds, bytes: plain facts for any program. -/
namespace Ab
open Go
def InR (n : Int) : Prop := -9223372036854775808 ≤ n ∧ n ≤ 9223372036854775807
theorem wrapR {n : Int} (h : InR n) : IntKind.i64.wrap n = n := by
  obtain ⟨h1, h2⟩ := h
  simp only [IntKind.wrap, IntKind.signed, IntKind.bits]
  simp
  omega
theorem tmod_fix (n m : Int) (hm : 0 < m) : (if n.tmod m < 0 then n.tmod m + m else n.tmod m) = n % m := by
  have h1 := Int.emod_nonneg n (by omega : m ≠ 0)
  have h2 := Int.emod_lt_of_pos n hm
  have h3 : n.tmod m = if 0 ≤ n ∨ m ∣ n then n % m else n % m - m := by
    rw [Int.tmod_eq_emod]
    split
    · simp
    · rw [Int.natAbs_of_nonneg (by omega)]
  rw [h3]
  by_cases h : 0 ≤ n ∨ m ∣ n
  · rw [if_pos h, if_neg (by omega)]
  · rw [if_neg h, if_pos (by omega)]
    omega
theorem inR_wrap (n : Int) : InR (IntKind.i64.wrap n) := by
  unfold InR
  simp only [IntKind.wrap, IntKind.signed, IntKind.bits]
  simp
  split <;> omega
def byts (s : List UInt8) : List AV := s.map fun c => AV.int .u8 c.toNat
@[simp] theorem byts_length (s : List UInt8) : (byts s).length = s.length := by simp [byts]
theorem bytesOf_byts (s : List UInt8) : bytesOf (byts s) = some s := by
  induction s with
  | nil => rfl
  | cons c s ih =>
    show (match bytesOf (byts s) with | some bs => some (UInt8.ofNat (c.toNat : Int).toNat :: bs) | none => none) = _
    rw [ih, Int.toNat_natCast]
    simp
theorem pubLs_byts (s : List UInt8) : pubLs (byts s) = some (byts s) := by
  induction s with
  | nil => rfl
  | cons c s ih =>
    show (match pubL (.int .u8 c.toNat), pubLs (byts s) with | some y, some ys => some (y :: ys) | _, _ => none) = _
    rw [ih]
    rfl
theorem b2sV_arr {h : Heap} {o off len : Nat} {xs : List AV} {s : List UInt8} (ho : h[o]? = some (.cells xs)) (hx : (xs.drop off).take len = byts s) (hl : s.length = len) : b2sV h (.arr o off len) = some (.str s) := by
  simp only [b2sV, elemsOf, ho, hx, pubLs_byts, if_true, byts_length, hl, bytesOf_byts]
theorem b2sV_sl {h : Heap} {c : Cap} {s : List UInt8} : b2sV h (.sl c (byts s)) = some (.str s) := by
  have hz : sizeOk 1 (byts s) = true := sizeOk_all (by simp [byts])
  simp only [b2sV, elemsOf, hz, if_true, bytesOf_byts]
theorem u64_mod (m : Nat) : (m : Int).tmod 10 = (m : Int) % 10 := (Int.ofNat_tmod m 10).symm
theorem u64_div (m : Nat) : (m : Int).tdiv 10 = (m : Int) / 10 := (Int.ofNat_tdiv m 10).symm
theorem wrapU {n : Int} (h0 : 0 ≤ n) (h1 : n < 18446744073709551616) : IntKind.u64.wrap n = n := by
  simp only [IntKind.wrap, IntKind.signed, IntKind.bits]
  simp
  omega
theorem wrap8 {n : Int} (h0 : 0 ≤ n) (h1 : n < 256) : IntKind.u8.wrap n = n := by
  simp only [IntKind.wrap, IntKind.signed, IntKind.bits]
  simp
  omega
theorem u8_eq {c d : UInt8} : ((c.toNat : Int) = d.toNat) ↔ c = d := by
  rw [Int.ofNat_inj, UInt8.toNat_inj]
def tupW : Option Int → AV
  | some v => .tup [.int .i64 v, .bool true]
  | none => .tup [.int .i64 0, .bool false]
theorem wrapU_emod (n : Int) : IntKind.u64.wrap n = n % 18446744073709551616 := by
  simp only [IntKind.wrap, IntKind.signed, IntKind.bits]
  simp
theorem tupW_none : tupW none = .tup [.int .i64 0, .bool false] := rfl
theorem tupW_some (v : Int) : tupW (some v) = .tup [.int .i64 v, .bool true] := rfl
end Ab
/- The source language, without a program in sight: tokens, trees, and what a parser answers. -/
namespace Ab
open Go

structure Tok where
  kind : Int
  text : List UInt8
  pos : Int
def Tok.zero : Tok := ⟨0, [], 0⟩
def encT (t : Tok) : AV := .agg [.int .i64 t.kind, .str t.text, .int .i64 t.pos]
def encTs (tk : List Tok) : List AV := tk.map encT
@[simp] theorem encTs_length (tk : List Tok) : (encTs tk).length = tk.length := by simp [encTs]
@[simp] theorem encTs_get (tk : List Tok) (k : Nat) : (encTs tk)[k]? = (tk[k]?).map encT := by simp [encTs]
theorem encTs_size (tk : List Tok) : sizeOk 3 (encTs tk) = true := sizeOk_all (by simp [encTs, encT])
theorem encTs_append (a b : List Tok) : encTs (a ++ b) = encTs a ++ encTs b := by simp [encTs]

/-- expressions -/
inductive Ex where
  | mk (kind n : Int) (name : List UInt8) (op : Int) (kids : List Ex)
mutual
def encE : Ex → AV
  | .mk k n s o ks => .agg [.int .i64 k, .int .i64 n, .str s, .int .i64 o, .sl .none (encEs ks)]
def encEs : List Ex → List AV
  | [] => []
  | x :: r => encE x :: encEs r
end
theorem encE_mk (k n : Int) (s : List UInt8) (o : Int) (ks : List Ex) : encE (.mk k n s o ks) = .agg [.int .i64 k, .int .i64 n, .str s, .int .i64 o, .sl .none (encEs ks)] := by rw [encE]
theorem encEs_nil : encEs [] = [] := by rw [encEs]
theorem encEs_cons (x : Ex) (r : List Ex) : encEs (x :: r) = encE x :: encEs r := by rw [encEs]
theorem encEs_map : ∀ l : List Ex, encEs l = l.map encE
  | [] => encEs_nil
  | x :: r => by rw [encEs_cons, encEs_map r]; rfl
theorem nleaves_encE (e : Ex) : nleaves (encE e) = 5 := by cases e; rw [encE_mk]; rfl
theorem encEs_size (l : List Ex) : sizeOk 5 (encEs l) = true := sizeOk_all (by rw [encEs_map]; simp [nleaves_encE])
theorem encEs_length (l : List Ex) : (encEs l).length = l.length := by rw [encEs_map, List.length_map]
theorem encEs_append (a b : List Ex) : encEs (a ++ b) = encEs a ++ encEs b := by rw [encEs_map, encEs_map, encEs_map, List.map_append]

/-- statements -/
inductive Stm where
  | mk (kind : Int) (name to : List UInt8) (n : Int) (at' value : Ex) (args : List Ex) (thn els : List Stm)
def leavesE : Ex → List AV
  | .mk k n s o ks => [.int .i64 k, .int .i64 n, .str s, .int .i64 o, .sl .none (encEs ks)]
mutual
def encS : Stm → AV
  | .mk k nm to n a v args thn els => .agg ([.int .i64 k, .str nm, .str to, .int .i64 n] ++ leavesE a ++ leavesE v ++ [.sl .none (encEs args), .sl .none (encSs thn), .sl .none (encSs els)])
def encSs : List Stm → List AV
  | [] => []
  | x :: r => encS x :: encSs r
end
theorem encSs_nil : encSs [] = [] := by rw [encSs]
theorem encSs_cons (x : Stm) (r : List Stm) : encSs (x :: r) = encS x :: encSs r := by rw [encSs]
theorem encSs_map : ∀ l : List Stm, encSs l = l.map encS
  | [] => encSs_nil
  | x :: r => by rw [encSs_cons, encSs_map r]; rfl
theorem encS_mk (k : Int) (nm to : List UInt8) (n : Int) (ak an : Int) (as : List UInt8) (ao : Int) (aks : List Ex) (vk vn : Int) (vs : List UInt8) (vo : Int) (vks : List Ex) (args : List Ex) (thn els : List Stm) :
    encS (.mk k nm to n (.mk ak an as ao aks) (.mk vk vn vs vo vks) args thn els) = .agg [.int .i64 k, .str nm, .str to, .int .i64 n, .int .i64 ak, .int .i64 an, .str as, .int .i64 ao, .sl .none (encEs aks),
      .int .i64 vk, .int .i64 vn, .str vs, .int .i64 vo, .sl .none (encEs vks), .sl .none (encEs args), .sl .none (encSs thn), .sl .none (encSs els)] := by rw [encS]; rfl
theorem nleaves_encS (s : Stm) : nleaves (encS s) = 17 := by
  obtain ⟨k, nm, to, n, ⟨_, _, _, _, _⟩, ⟨_, _, _, _, _⟩, args, thn, els⟩ := s
  rw [encS_mk]; rfl
theorem encSs_size (l : List Stm) : sizeOk 17 (encSs l) = true := sizeOk_all (by rw [encSs_map]; simp [nleaves_encS])
theorem encSs_length (l : List Stm) : (encSs l).length = l.length := by rw [encSs_map, List.length_map]
theorem encSs_append (a b : List Stm) : encSs (a ++ b) = encSs a ++ encSs b := by rw [encSs_map, encSs_map, encSs_map, List.map_append]

structure Fn where
  name : List UInt8
  params : List (List UInt8)
  locals : List (List UInt8)
  body : List Stm
  value : Ex
def encStr (l : List (List UInt8)) : List AV := l.map AV.str
@[simp] theorem encStr_length (l : List (List UInt8)) : (encStr l).length = l.length := by simp [encStr]
@[simp] theorem encStr_size (l : List (List UInt8)) : sizeOk 1 (encStr l) = true := sizeOk_all (by simp [encStr])
theorem encStr_append (a b : List (List UInt8)) : encStr (a ++ b) = encStr a ++ encStr b := by simp [encStr]
def encF (f : Fn) : AV := .agg ([.str f.name, .sl .none (encStr f.params), .sl .none (encStr f.locals), .sl .none (encSs f.body)] ++ leavesE f.value)
structure Ar where
  name : List UInt8
  len : Int
def encA (a : Ar) : AV := .agg [.str a.name, .int .i64 a.len]
structure Prg where
  arrays : List Ar
  funcs : List Fn
def encP (p : Prg) : AV := .agg [.sl .none (p.arrays.map encA), .sl .none (p.funcs.map encF)]

/-! ## what a parser answers -/
abbrev Rs (α : Type) := Except Nat (α × Nat)
def reservedB (s : List UInt8) : Bool := [[97, 114, 114, 97, 121], [102, 117, 110, 99], [118, 97, 114], [114, 101, 116, 117, 114, 110], [105, 102], [101, 108, 115, 101], [119, 104, 105, 108, 101], [111, 117, 116], [116, 114, 97, 112]].contains s
section
variable (tk : List Tok)
def tokAt (p : Nat) : Tok := tk.getD p Tok.zero
def symB (p : Nat) (s : List UInt8) : Bool := (tokAt tk p).kind == 3 && (tokAt tk p).text == s
def kwB (p : Nat) (s : List UInt8) : Bool := (tokAt tk p).kind == 1 && (tokAt tk p).text == s
def nmB (p : Nat) : Bool := (tokAt tk p).kind == 1 && !reservedB (tokAt tk p).text
def numB (p : Nat) : Bool := (tokAt tk p).kind == 2
/-- the operation of an operator (0: none), its level, and whether its operands are exchanged -/
def opOf (s : List UInt8) : Int × Int × Bool :=
  if s = [124] then (10, 0, false) else if s = [94] then (11, 1, false) else if s = [38] then (9, 2, false)
  else if s = [61, 61] then (15, 3, false) else if s = [33, 61] then (16, 3, false)
  else if s = [60] then (17, 4, false) else if s = [60, 61] then (18, 4, false) else if s = [62] then (17, 4, true) else if s = [62, 61] then (18, 4, true)
  else if s = [60, 60] then (12, 5, false) else if s = [62, 62] then (14, 5, false) else if s = [62, 62, 62] then (13, 5, false)
  else if s = [43] then (4, 6, false) else if s = [45] then (5, 6, false)
  else if s = [42] then (6, 7, false) else if s = [47] then (7, 7, false) else if s = [37] then (8, 7, false)
  else (0, 0, false)
def numE (n : Int) : Ex := .mk 1 n [] 0 []
def varE (s : List UInt8) : Ex := .mk 2 0 s 0 []
def ixE (s : List UInt8) (x : Ex) : Ex := .mk 3 0 s 0 [x]
def opE (op : Int) (l : List Ex) : Ex := .mk 4 0 [] op l
def condE (c a b : Ex) : Ex := .mk 5 0 [] 0 [c, a, b]
/-- the negated value of a number's text -/
def negV (s : List UInt8) : Int := match parseW (45 :: s) with | some v => v | none => 0

def expectP (p : Nat) (s : List UInt8) : Except Nat Nat := if symB tk p s then .ok (p + 1) else .error p
def nameP (p : Nat) : Rs (List UInt8) := if nmB tk p then .ok ((tokAt tk p).text, p + 1) else .error p
mutual
def exprP : Nat → Nat → Rs Ex
  | 0, p => .error p
  | n + 1, p => match binP n 0 p with
    | .error q => .error q
    | .ok (c, p1) => if symB tk p1 [63] then (match exprP n (p1 + 1) with
      | .error q => .error q
      | .ok (a, p2) => match expectP tk p2 [58] with
        | .error q => .error q
        | .ok p3 => match exprP n p3 with
          | .error q => .error q
          | .ok (b, p4) => .ok (condE c a b, p4)) else .ok (c, p1)
def binP : Nat → Nat → Nat → Rs Ex
  | 0, _, p => .error p
  | n + 1, k, p => if k = 8 then unaryP n p else match binP n (k + 1) p with
    | .error q => .error q
    | .ok (a, p1) => loopP n k a p1
def loopP : Nat → Nat → Ex → Nat → Rs Ex
  | 0, _, _, p => .error p
  | n + 1, k, a, p => if (tokAt tk p).kind = 3 ∧ (opOf (tokAt tk p).text).1 ≠ 0 ∧ (opOf (tokAt tk p).text).2.1 = (k : Int) then (match binP n (k + 1) (p + 1) with
      | .error q => .error q
      | .ok (b, p1) => loopP n k (opE (opOf (tokAt tk p).text).1 (if (opOf (tokAt tk p).text).2.2 then [b, a] else [a, b])) p1) else .ok (a, p)
def unaryP : Nat → Nat → Rs Ex
  | 0, p => .error p
  | n + 1, p =>
    if symB tk p [45] then (if numB tk (p + 1) then .ok (numE (negV (tokAt tk (p + 1)).text), p + 2) else match unaryP n (p + 1) with
      | .error q => .error q
      | .ok (x, p1) => .ok (opE 20 [x], p1))
    else if symB tk p [126] then (match unaryP n (p + 1) with
      | .error q => .error q
      | .ok (x, p1) => .ok (opE 21 [x], p1))
    else if symB tk p [33] then (match unaryP n (p + 1) with
      | .error q => .error q
      | .ok (x, p1) => .ok (opE 15 [x, numE 0], p1))
    else if symB tk p [40] then (match exprP n (p + 1) with
      | .error q => .error q
      | .ok (x, p1) => match expectP tk p1 [41] with
        | .error q => .error q
        | .ok p2 => .ok (x, p2))
    else primP n p
def primP : Nat → Nat → Rs Ex
  | 0, p => .error p
  | n + 1, p => if numB tk p then (match parseW (tokAt tk p).text with
      | some v => .ok (numE v, p + 1)
      | none => .error p)
    else match nameP tk p with
    | .error q => .error q
    | .ok (s, p1) => if symB tk p1 [91] then (match exprP n (p1 + 1) with
      | .error q => .error q
      | .ok (x, p2) => match expectP tk p2 [93] with
        | .error q => .error q
        | .ok p3 => .ok (ixE s x, p3)) else .ok (varE s, p1)
end
theorem tokAt_get {p : Nat} (h : p < tk.length) : tk[p]? = some (tokAt tk p) := by unfold tokAt; rw [List.getD_eq_getElem?_getD, List.getElem?_eq_getElem h]; rfl
theorem kind_lt {p : Nat} (h : (tokAt tk p).kind ≠ 0) : p < tk.length := by
  by_cases hp : p < tk.length
  · exact hp
  · exfalso
    apply h
    unfold tokAt
    rw [List.getD_eq_getElem?_getD, List.getElem?_eq_none (by omega)]
    rfl
theorem nm_lt {p : Nat} (h : nmB tk p = true) : p < tk.length := by
  apply kind_lt
  unfold nmB at h
  simp at h
  rw [h.1]
  decide
theorem sym_lt {p : Nat} {s : List UInt8} (h : symB tk p s = true) : p < tk.length := by
  apply kind_lt
  unfold symB at h
  simp at h
  rw [h.1]
  decide
theorem kw_lt {p : Nat} {s : List UInt8} (h : kwB tk p s = true) : p < tk.length := by
  apply kind_lt
  unfold kwB at h
  simp at h
  rw [h.1]
  decide
theorem num_lt {p : Nat} (h : numB tk p = true) : p < tk.length := by
  apply kind_lt
  unfold numB at h
  simp at h
  rw [h]
  decide
theorem expectP_ok {p q : Nat} {s : List UInt8} (h : expectP tk p s = .ok q) : symB tk p s = true ∧ q = p + 1 := by
  unfold expectP at h
  cases hs : symB tk p s <;> rw [hs] at h <;> simp at h
  exact ⟨rfl, h.symm⟩
theorem nameP_ok {p q : Nat} {s : List UInt8} (h : nameP tk p = .ok (s, q)) : nmB tk p = true ∧ q = p + 1 ∧ s = (tokAt tk p).text := by
  unfold nameP at h
  cases hs : nmB tk p <;> rw [hs] at h <;> simp at h
  exact ⟨rfl, h.2.symm, h.1.symm⟩
/-- a tree read is at least a token long -/
theorem prog : ∀ n, (∀ p v q, exprP tk n p = .ok (v, q) → p < q) ∧ (∀ k p v q, binP tk n k p = .ok (v, q) → p < q) ∧ (∀ k a p v q, loopP tk n k a p = .ok (v, q) → p ≤ q) ∧ (∀ p v q, unaryP tk n p = .ok (v, q) → p < q) ∧ (∀ p v q, primP tk n p = .ok (v, q) → p < q)
  | 0 => by
    refine ⟨?_, ?_, ?_, ?_, ?_⟩
    · intro p v q h; rw [exprP] at h; cases h
    · intro k p v q h; rw [binP] at h; cases h
    · intro k a p v q h; rw [loopP] at h; cases h
    · intro p v q h; rw [unaryP] at h; cases h
    · intro p v q h; rw [primP] at h; cases h
  | n + 1 => by
    obtain ⟨hE, hB, hL, hU, hP⟩ := prog n
    refine ⟨?_, ?_, ?_, ?_, ?_⟩
    · intro p v q h
      rw [exprP] at h
      rcases hx : binP tk n 0 p with e | ⟨c, p1⟩ <;> rw [hx] at h
      · cases h
      have := hB 0 p c p1 hx
      by_cases hs : symB tk p1 [63] = true
      · simp only [hs, if_true] at h
        rcases hy : exprP tk n (p1 + 1) with e | ⟨a, p2⟩ <;> rw [hy] at h
        · cases h
        have := hE _ _ _ hy
        rcases hz : expectP tk p2 [58] with e | p3 <;> simp only [hz] at h
        · cases h
        have := (expectP_ok tk hz).2
        rcases hw : exprP tk n p3 with e | ⟨b, p4⟩ <;> rw [hw] at h
        · cases h
        have := hE _ _ _ hw
        simp at h
        omega
      · simp only [hs] at h
        simp at h
        omega
    · intro k p v q h
      rw [binP] at h
      by_cases hk : k = 8
      · rw [if_pos hk] at h
        exact hU _ _ _ h
      · rw [if_neg hk] at h
        rcases hx : binP tk n (k + 1) p with e | ⟨c, p1⟩ <;> rw [hx] at h
        · cases h
        have := hB _ p c p1 hx
        have := hL _ _ _ _ _ h
        omega
    · intro k a p v q h
      rw [loopP] at h
      split at h
      · rcases hx : binP tk n (k + 1) (p + 1) with e | ⟨c, p1⟩ <;> rw [hx] at h
        · cases h
        have := hB _ _ c p1 hx
        have := hL _ _ _ _ _ h
        omega
      · simp at h
        omega
    · intro p v q h
      rw [unaryP] at h
      split at h
      · split at h
        · simp at h
          omega
        · rcases hx : unaryP tk n (p + 1) with e | ⟨c, p1⟩ <;> rw [hx] at h
          · cases h
          have := hU _ _ _ hx
          simp at h
          omega
      split at h
      · rcases hx : unaryP tk n (p + 1) with e | ⟨c, p1⟩ <;> rw [hx] at h
        · cases h
        have := hU _ _ _ hx
        simp at h
        omega
      split at h
      · rcases hx : unaryP tk n (p + 1) with e | ⟨c, p1⟩ <;> rw [hx] at h
        · cases h
        have := hU _ _ _ hx
        simp at h
        omega
      split at h
      · rcases hx : exprP tk n (p + 1) with e | ⟨c, p1⟩ <;> rw [hx] at h
        · cases h
        have := hE _ _ _ hx
        rcases hz : expectP tk p1 [41] with e | p3 <;> simp only [hz] at h
        · cases h
        have := (expectP_ok tk hz).2
        simp at h
        omega
      · exact hP _ _ _ h
    · intro p v q h
      rw [primP] at h
      split at h
      · cases hx : parseW (tokAt tk p).text <;> rw [hx] at h <;> simp at h
        omega
      · rcases hy : nameP tk p with e | ⟨s, p1⟩ <;> rw [hy] at h
        · cases h
        have := nameP_ok tk hy
        simp only at h
        split at h
        · rcases hx : exprP tk n (p1 + 1) with e | ⟨c, p2⟩ <;> rw [hx] at h
          · cases h
          have := hE _ _ _ hx
          rcases hz : expectP tk p2 [93] with e | p3 <;> simp only [hz] at h
          · cases h
          have := (expectP_ok tk hz).2
          simp at h
          omega
        · simp at h
          omega
end
end Ab
/- The source language: statements, functions and programs. -/
namespace Ab
open Go
section
variable {α β : Type}
def bindR (r : Rs α) (f : α → Nat → Rs β) : Rs β := match r with | .ok (v, q) => f v q | .error q => .error q
@[simp] theorem bindR_ok (v : α) (q : Nat) (f : α → Nat → Rs β) : bindR (.ok (v, q)) f = f v q := rfl
@[simp] theorem bindR_error (q : Nat) (f : α → Nat → Rs β) : bindR (.error q) f = .error q := rfl
theorem bindR_inv {r : Rs α} {f : α → Nat → Rs β} {w : β} {q : Nat} (h : bindR r f = .ok (w, q)) : ∃ v p, r = .ok (v, p) ∧ f v p = .ok (w, q) := by
  rcases r with e | ⟨v, p⟩
  · cases h
  · exact ⟨v, p, rfl, h⟩
/-- one or more, separated by commas -/
def sepP (tk : List Tok) (P : Nat → Rs α) : Nat → Nat → Rs (List α)
  | 0, p => .error p
  | n + 1, p => bindR (P p) fun v p1 => if symB tk p1 [44] then bindR (sepP tk P n (p1 + 1)) fun l p2 => .ok (v :: l, p2) else .ok ([v], p1)
/-- as many as stand before the stop -/
def whileP (P : Nat → Rs α) (stop : Nat → Bool) : Nat → Nat → Rs (List α)
  | 0, p => .error p
  | n + 1, p => if stop p then .ok ([], p) else bindR (P p) fun v p1 => bindR (whileP P stop n p1) fun l p2 => .ok (v :: l, p2)
end
section
variable (tk : List Tok)
def zeroE : Ex := .mk 0 0 [] 0 []
def expR (p : Nat) (s : List UInt8) : Rs Unit := if symB tk p s then .ok ((), p + 1) else .error p
def smallP (p : Nat) : Rs Int := if numB tk p then (match parseW (tokAt tk p).text with
  | some v => if v ≤ 1000000 then .ok (v, p + 1) else .error p
  | none => .error p) else .error p
def condP (n p : Nat) : Rs Ex := bindR (expR tk p [40]) fun _ p1 => bindR (exprP tk n p1) fun x p2 => bindR (expR tk p2 [41]) fun _ p3 => .ok (x, p3)
def argsP (n p : Nat) : Rs (List Ex) := bindR (expR tk p [40]) fun _ p1 =>
  bindR (if symB tk p1 [41] then .ok ([], p1) else sepP tk (exprP tk n) n p1) fun l p2 => bindR (expR tk p2 [41]) fun _ p3 => .ok (l, p3)
def outS (x : Ex) : Stm := .mk 5 [] [] 0 zeroE x [] [] []
def trapS (n : Int) : Stm := .mk 7 [] [] n zeroE zeroE [] [] []
def storeS (s : List UInt8) (a v : Ex) : Stm := .mk 2 s [] 0 a v [] [] []
def callS (s to : List UInt8) (l : List Ex) : Stm := .mk 6 s to 0 zeroE zeroE l [] []
def assignS (s : List UInt8) (v : Ex) : Stm := .mk 1 s [] 0 zeroE v [] [] []
def ifS (x : Ex) (t e : List Stm) : Stm := .mk 3 [] [] 0 zeroE x [] t e
def whileS (x : Ex) (t : List Stm) : Stm := .mk 4 [] [] 0 zeroE x [] t []
def simpleP (n p : Nat) : Rs Stm :=
  if kwB tk p [111, 117, 116] then bindR (exprP tk n (p + 1)) fun x p1 => .ok (outS x, p1)
  else if kwB tk p [116, 114, 97, 112] then bindR (smallP tk (p + 1)) fun v p1 => .ok (trapS v, p1)
  else bindR (nameP tk p) fun s p1 =>
    if symB tk p1 [91] then bindR (exprP tk n (p1 + 1)) fun a p2 => bindR (expR tk p2 [93]) fun _ p3 => bindR (expR tk p3 [61]) fun _ p4 => bindR (exprP tk n p4) fun v p5 => .ok (storeS s a v, p5)
    else bindR (expR tk p1 [61]) fun _ p2 =>
      if nmB tk p2 && symB tk (p2 + 1) [40] then bindR (argsP tk n (p2 + 1)) fun l p3 => .ok (callS s (tokAt tk p2).text l, p3)
      else bindR (exprP tk n p2) fun v p3 => .ok (assignS s v, p3)
def blockP (S : Nat → Rs Stm) (n p : Nat) : Rs (List Stm) := bindR (expR tk p [123]) fun _ p1 => bindR (whileP S (symB tk · [125]) n p1) fun l p2 => bindR (expR tk p2 [125]) fun _ p3 => .ok (l, p3)
def stmtP : Nat → Nat → Rs Stm
  | 0, p => .error p
  | n + 1, p =>
    if kwB tk p [105, 102] then bindR (condP tk n (p + 1)) fun x p1 => bindR (blockP tk (stmtP n) n p1) fun t p2 =>
      if kwB tk p2 [101, 108, 115, 101] then bindR (blockP tk (stmtP n) n (p2 + 1)) fun e p3 => .ok (ifS x t e, p3) else .ok (ifS x t [], p2)
    else if kwB tk p [119, 104, 105, 108, 101] then bindR (condP tk n (p + 1)) fun x p1 => bindR (blockP tk (stmtP n) n p1) fun t p2 => .ok (whileS x t, p2)
    else bindR (simpleP tk n p) fun s p1 => bindR (expR tk p1 [59]) fun _ p2 => .ok (s, p2)
def funcP (n p : Nat) : Rs Fn := bindR (nameP tk p) fun s p1 => bindR (expR tk p1 [40]) fun _ p2 =>
  bindR (if symB tk p2 [41] then .ok ([], p2) else sepP tk (nameP tk) n p2) fun ps p3 => bindR (expR tk p3 [41]) fun _ p4 =>
  bindR (if kwB tk p4 [118, 97, 114] then sepP tk (nameP tk) n (p4 + 1) else .ok ([], p4)) fun ls p5 => bindR (expR tk p5 [123]) fun _ p6 =>
  bindR (whileP (stmtP tk n) (kwB tk · [114, 101, 116, 117, 114, 110]) n p6) fun b p7 => bindR (exprP tk n (p7 + 1)) fun v p8 =>
  bindR (expR tk p8 [59]) fun _ p9 => bindR (expR tk p9 [125]) fun _ p10 => .ok (⟨s, ps, ls, b, v⟩, p10)
def declsP (n : Nat) : Nat → Nat → List Ar → List Fn → Except Nat Prg
  | 0, p, _, _ => .error p
  | m + 1, p, a, f => if p < tk.length then
      (if kwB tk p [97, 114, 114, 97, 121] then match (bindR (nameP tk (p + 1)) fun s p1 => bindR (smallP tk p1) fun v p2 => bindR (expR tk p2 [59]) fun _ p3 => .ok ((⟨s, v⟩ : Ar), p3)) with
        | .error q => .error q
        | .ok (x, p3) => declsP n m p3 (a ++ [x]) f
      else if kwB tk p [102, 117, 110, 99] then match funcP tk n (p + 1) with
        | .error q => .error q
        | .ok (x, p1) => declsP n m p1 a (f ++ [x])
      else .error p) else .ok ⟨a, f⟩
end
section
variable (tk : List Tok)
theorem expr_lt : ∀ n, (∀ p v q, exprP tk n p = .ok (v, q) → p < tk.length) ∧ (∀ k p v q, binP tk n k p = .ok (v, q) → p < tk.length) ∧ (∀ p v q, unaryP tk n p = .ok (v, q) → p < tk.length) ∧ (∀ p v q, primP tk n p = .ok (v, q) → p < tk.length)
  | 0 => by
    refine ⟨?_, ?_, ?_, ?_⟩
    · intro p v q h; rw [exprP] at h; cases h
    · intro k p v q h; rw [binP] at h; cases h
    · intro p v q h; rw [unaryP] at h; cases h
    · intro p v q h; rw [primP] at h; cases h
  | n + 1 => by
    obtain ⟨hE, hB, hU, hP⟩ := expr_lt n
    refine ⟨?_, ?_, ?_, ?_⟩
    · intro p v q h
      rw [exprP] at h
      rcases hx : binP tk n 0 p with e | ⟨c, p1⟩ <;> rw [hx] at h
      · cases h
      exact hB 0 p c p1 hx
    · intro k p v q h
      rw [binP] at h
      by_cases hk : k = 8
      · rw [if_pos hk] at h
        exact hU _ _ _ h
      · rw [if_neg hk] at h
        rcases hx : binP tk n (k + 1) p with e | ⟨c, p1⟩ <;> rw [hx] at h
        · cases h
        exact hB _ p c p1 hx
    · intro p v q h
      rw [unaryP] at h
      split at h
      · exact sym_lt tk (by assumption)
      split at h
      · exact sym_lt tk (by assumption)
      split at h
      · exact sym_lt tk (by assumption)
      split at h
      · exact sym_lt tk (by assumption)
      · exact hP _ _ _ h
    · intro p v q h
      rw [primP] at h
      split at h
      · exact num_lt tk (by assumption)
      · rcases hy : nameP tk p with e | ⟨s, p1⟩ <;> rw [hy] at h
        · cases h
        exact nm_lt tk (nameP_ok tk hy).1
theorem expR_ok {p q : Nat} {s : List UInt8} {u : Unit} (h : expR tk p s = .ok (u, q)) : symB tk p s = true ∧ q = p + 1 := by
  unfold expR at h
  cases hs : symB tk p s <;> rw [hs] at h <;> simp at h
  exact ⟨rfl, h.symm⟩
theorem smallP_ok {p q : Nat} {v : Int} (h : smallP tk p = .ok (v, q)) : q = p + 1 := by
  unfold smallP at h
  split at h
  · cases hx : parseW (tokAt tk p).text <;> rw [hx] at h <;> simp at h
    split at h <;> simp at h
    omega
  · cases h
def Mo {α : Type} (P : Nat → Rs α) : Prop := ∀ p v q, P p = .ok (v, q) → p ≤ q
theorem expr_mo (n : Nat) : Mo (exprP tk n) := fun p v q h => Nat.le_of_lt ((prog tk n).1 _ _ _ h)
theorem name_mo : Mo (nameP tk) := fun p v q h => by have := nameP_ok tk h; omega
theorem while_mo {α : Type} {P : Nat → Rs α} {stop : Nat → Bool} (hP : Mo P) : ∀ m, Mo (whileP P stop m)
  | 0 => fun p v q h => by rw [whileP] at h; cases h
  | m + 1 => fun p v q h => by
    rw [whileP] at h
    split at h
    · simp at h
      omega
    · obtain ⟨x, p1, h1, h⟩ := bindR_inv h
      obtain ⟨l, p2, h2, h⟩ := bindR_inv h
      have := hP _ _ _ h1
      have := while_mo hP m _ _ _ h2
      simp at h
      omega
theorem sep_mo {α : Type} {P : Nat → Rs α} (hP : Mo P) : ∀ m, Mo (sepP tk P m)
  | 0 => fun p v q h => by rw [sepP] at h; cases h
  | m + 1 => fun p v q h => by
    rw [sepP] at h
    obtain ⟨x, p1, h1, h⟩ := bindR_inv h
    have := hP _ _ _ h1
    split at h
    · obtain ⟨l, p2, h2, h⟩ := bindR_inv h
      have := sep_mo hP m _ _ _ h2
      simp at h
      omega
    · simp at h
      omega
theorem cond_mo (n : Nat) : Mo (condP tk n) := fun p v q h => by
  unfold condP at h
  obtain ⟨_, p1, h1, h⟩ := bindR_inv h
  obtain ⟨_, p2, h2, h⟩ := bindR_inv h
  obtain ⟨_, p3, h3, h⟩ := bindR_inv h
  have := expR_ok tk h1
  have := expr_mo tk n _ _ _ h2
  have := expR_ok tk h3
  simp at h
  omega
theorem args_mo (n : Nat) : Mo (argsP tk n) := fun p v q h => by
  unfold argsP at h
  obtain ⟨_, p1, h1, h⟩ := bindR_inv h
  obtain ⟨_, p2, h2, h⟩ := bindR_inv h
  obtain ⟨_, p3, h3, h⟩ := bindR_inv h
  have := expR_ok tk h1
  have := expR_ok tk h3
  have : p1 ≤ p2 := by
    split at h2
    · simp at h2
      omega
    · exact sep_mo tk (expr_mo tk n) n _ _ _ h2
  simp at h
  omega
theorem block_mo {S : Nat → Rs Stm} (hS : Mo S) (n : Nat) : Mo (blockP tk S n) := fun p v q h => by
  unfold blockP at h
  obtain ⟨_, p1, h1, h⟩ := bindR_inv h
  obtain ⟨_, p2, h2, h⟩ := bindR_inv h
  obtain ⟨_, p3, h3, h⟩ := bindR_inv h
  have := expR_ok tk h1
  have := while_mo hS n _ _ _ h2
  have := expR_ok tk h3
  simp at h
  omega
theorem simple_prog {n p q : Nat} {v : Stm} (h : simpleP tk n p = .ok (v, q)) : p < q ∧ p < tk.length := by
  unfold simpleP at h
  split at h
  · obtain ⟨_, p1, h1, h⟩ := bindR_inv h
    have := expr_mo tk n _ _ _ h1
    simp at h
    exact ⟨by omega, kw_lt tk (by assumption)⟩
  split at h
  · obtain ⟨_, p1, h1, h⟩ := bindR_inv h
    have := smallP_ok tk h1
    simp at h
    exact ⟨by omega, kw_lt tk (by assumption)⟩
  · obtain ⟨_, p1, h1, h⟩ := bindR_inv h
    have hn := nameP_ok tk h1
    refine ⟨?_, nm_lt tk hn.1⟩
    split at h
    · obtain ⟨_, p2, h2, h⟩ := bindR_inv h
      obtain ⟨_, p3, h3, h⟩ := bindR_inv h
      obtain ⟨_, p4, h4, h⟩ := bindR_inv h
      obtain ⟨_, p5, h5, h⟩ := bindR_inv h
      have := expr_mo tk n _ _ _ h2
      have := expR_ok tk h3
      have := expR_ok tk h4
      have := expr_mo tk n _ _ _ h5
      simp at h
      omega
    · obtain ⟨_, p2, h2, h⟩ := bindR_inv h
      have := expR_ok tk h2
      split at h
      · obtain ⟨_, p3, h3, h⟩ := bindR_inv h
        have := args_mo tk n _ _ _ h3
        simp at h
        omega
      · obtain ⟨_, p3, h3, h⟩ := bindR_inv h
        have := expr_mo tk n _ _ _ h3
        simp at h
        omega
theorem stmt_prog : ∀ {n p q : Nat} {v : Stm}, stmtP tk n p = .ok (v, q) → p < q ∧ p < tk.length
  | 0, p, q, v, h => by rw [stmtP] at h; cases h
  | n + 1, p, q, v, h => by
    have hmo : Mo (stmtP tk n) := fun p v q h => Nat.le_of_lt (stmt_prog h).1
    rw [stmtP] at h
    split at h
    · obtain ⟨_, p1, h1, h⟩ := bindR_inv h
      obtain ⟨_, p2, h2, h⟩ := bindR_inv h
      have := cond_mo tk n _ _ _ h1
      have := block_mo tk hmo n _ _ _ h2
      refine ⟨?_, kw_lt tk (by assumption)⟩
      split at h
      · obtain ⟨_, p3, h3, h⟩ := bindR_inv h
        have := block_mo tk hmo n _ _ _ h3
        simp at h
        omega
      · simp at h
        omega
    split at h
    · obtain ⟨_, p1, h1, h⟩ := bindR_inv h
      obtain ⟨_, p2, h2, h⟩ := bindR_inv h
      have := cond_mo tk n _ _ _ h1
      have := block_mo tk hmo n _ _ _ h2
      refine ⟨?_, kw_lt tk (by assumption)⟩
      simp at h
      omega
    · obtain ⟨_, p1, h1, h⟩ := bindR_inv h
      obtain ⟨_, p2, h2, h⟩ := bindR_inv h
      have := simple_prog tk h1
      have := expR_ok tk h2
      simp at h
      omega
theorem func_mo (n : Nat) : Mo (funcP tk n) := fun p v q h => by
  unfold funcP at h
  obtain ⟨_, p1, h1, h⟩ := bindR_inv h
  obtain ⟨_, p2, h2, h⟩ := bindR_inv h
  obtain ⟨_, p3, h3, h⟩ := bindR_inv h
  obtain ⟨_, p4, h4, h⟩ := bindR_inv h
  obtain ⟨_, p5, h5, h⟩ := bindR_inv h
  obtain ⟨_, p6, h6, h⟩ := bindR_inv h
  obtain ⟨_, p7, h7, h⟩ := bindR_inv h
  obtain ⟨_, p8, h8, h⟩ := bindR_inv h
  obtain ⟨_, p9, h9, h⟩ := bindR_inv h
  obtain ⟨_, p10, h10, h⟩ := bindR_inv h
  have := nameP_ok tk h1
  have := expR_ok tk h2
  have : p2 ≤ p3 := by
    split at h3
    · simp at h3
      omega
    · exact sep_mo tk (name_mo tk) n _ _ _ h3
  have := expR_ok tk h4
  have : p4 ≤ p5 := by
    split at h5
    · have := sep_mo tk (name_mo tk) n _ _ _ h5
      omega
    · simp at h5
      omega
  have := expR_ok tk h6
  have := while_mo (fun p v q h => Nat.le_of_lt (stmt_prog tk h).1) n _ _ _ h7
  have := expr_mo tk n _ _ _ h8
  have := expR_ok tk h9
  have := expR_ok tk h10
  simp at h
  omega
end
/-- what an append of one's own makes, when the caller's object has changed -/
theorem appC_ownS {n0 : Nat} {g : Bool} {sz o : Nat} {S : Ob} {H X J : Heap} {xs ys : List AV} {c : Cap} (h0 : n0 ≤ H.length) (ho : Own (H.length + X.length) J sz c xs.length) :
    ∃ c' J', appC n0 g (H.length + (X.length + J.length)) 0 sz (H.set o S ++ (X ++ (J ++ [Ob.dead]))) xs ys c = some (.sl c' (xs ++ ys), H.set o S ++ (X ++ J')) ∧ Own (H.length + X.length) J' sz c' (xs ++ ys).length := by
  obtain ⟨c', J', h1, h2⟩ := appC_own (n0 := n0) (g := g) (sz := sz) (H1 := H.set o S ++ X) (J := J) (xs := xs) (ys := ys) (c := c) (by simp; omega) (by simpa using ho)
  refine ⟨c', J', ?_, by simpa using h2⟩
  simpa [Nat.add_assoc] using h1
/-- the same, and what is a variable stays -/
theorem appC_keep {n0 : Nat} {g : Bool} {sz i : Nat} {H1 J : Heap} {l : List AV} {xs ys : List AV} {c : Cap} (h0 : n0 ≤ H1.length) (ho : Own H1.length J sz c xs.length) (hi : J[i]? = some (.cells l)) :
    ∃ c' J', appC n0 g (H1.length + J.length) 0 sz (H1 ++ (J ++ [.dead])) xs ys c = some (.sl c' (xs ++ ys), H1 ++ J') ∧ Own H1.length J' sz c' (xs ++ ys).length ∧ J'[i]? = some (.cells l) := by
  have hilt : i < J.length := by rw [List.getElem?_eq_some_iff] at hi; exact hi.1
  rcases ho with rfl | ⟨o, rfl, h2⟩
  · refine ⟨.tok (H1.length + J.length), J ++ [.fr sz (xs.length + ys.length)], ?_, .inr ⟨J.length, rfl, ?_⟩, ?_⟩
    · rw [appC_full, Nat.add_zero, List.set_append_right _ _ (by omega), Nat.add_sub_cancel_left, List.set_append_right _ _ (Nat.le_refl _), Nat.sub_self]
      rfl
    · rw [List.getElem?_append_right (Nat.le_refl _), Nat.sub_self, List.length_append]
      rfl
    · rw [List.getElem?_append_left hilt, hi]
  · have hlt : o < J.length := by rw [List.getElem?_eq_some_iff] at h2; exact h2.1
    refine ⟨.tok (H1.length + o), (J ++ [Ob.dead]).set o (.fr sz (xs.length + ys.length)), ?_, .inr ⟨o, rfl, ?_⟩, ?_⟩
    · rw [appC_tok (by rw [List.getElem?_append_right (by omega), Nat.add_sub_cancel_left, List.getElem?_append_left hlt]; exact h2) (.inl (by omega)), List.set_append_right _ _ (by omega), Nat.add_sub_cancel_left]
    · rw [List.getElem?_set_self (by simp; omega), List.length_append]
    · have hne : o ≠ i := by
        intro h
        subst h
        rw [h2] at hi
        cases hi
      rw [List.getElem?_set_ne hne, List.getElem?_append_left hilt, hi]
/-- the same, and whatever is no such frontier stays -/
theorem appC_all {n0 : Nat} {g : Bool} {sz : Nat} {H1 J : Heap} {xs ys : List AV} {c : Cap} (h0 : n0 ≤ H1.length) (ho : Own H1.length J sz c xs.length) :
    ∃ c' J', appC n0 g (H1.length + J.length) 0 sz (H1 ++ (J ++ [.dead])) xs ys c = some (.sl c' (xs ++ ys), H1 ++ J') ∧ Own H1.length J' sz c' (xs ++ ys).length ∧ ∀ (i : Nat) (X : Ob), J[i]? = some X → (∀ n, X ≠ .fr sz n) → J'[i]? = some X := by
  rcases ho with rfl | ⟨o, rfl, h2⟩
  · refine ⟨.tok (H1.length + J.length), J ++ [.fr sz (xs.length + ys.length)], ?_, .inr ⟨J.length, rfl, ?_⟩, ?_⟩
    · rw [appC_full, Nat.add_zero, List.set_append_right _ _ (by omega), Nat.add_sub_cancel_left, List.set_append_right _ _ (Nat.le_refl _), Nat.sub_self]
      rfl
    · rw [List.getElem?_append_right (Nat.le_refl _), Nat.sub_self, List.length_append]
      rfl
    · intro i X hi hX
      have hilt : i < J.length := by rw [List.getElem?_eq_some_iff] at hi; exact hi.1
      rw [List.getElem?_append_left hilt, hi]
  · have hlt : o < J.length := by rw [List.getElem?_eq_some_iff] at h2; exact h2.1
    refine ⟨.tok (H1.length + o), (J ++ [Ob.dead]).set o (.fr sz (xs.length + ys.length)), ?_, .inr ⟨o, rfl, ?_⟩, ?_⟩
    · rw [appC_tok (by rw [List.getElem?_append_right (by omega), Nat.add_sub_cancel_left, List.getElem?_append_left hlt]; exact h2) (.inl (by omega)), List.set_append_right _ _ (by omega), Nat.add_sub_cancel_left]
    · rw [List.getElem?_set_self (by simp; omega), List.length_append]
    · intro i X hi hX
      have hilt : i < J.length := by rw [List.getElem?_eq_some_iff] at hi; exact hi.1
      have hne : o ≠ i := by
        intro h
        subst h
        rw [h2] at hi
        cases hi
        exact hX _ rfl
      rw [List.getElem?_set_ne hne, List.getElem?_append_left hilt, hi]
theorem Own.keep {k sz sz2 n : Nat} {J J' : Heap} {c : Cap} (h : Own k J sz2 c n) (hs : sz2 ≠ sz) (hk : ∀ (i : Nat) (X : Ob), J[i]? = some X → (∀ n, X ≠ .fr sz n) → J'[i]? = some X) : Own k J' sz2 c n := by
  rcases h with h | ⟨o, h1, h2⟩
  · exact .inl h
  · refine .inr ⟨o, h1, hk o _ h2 ?_⟩
    intro n h
    cases h
    exact hs rfl
theorem nleaves_encF (f : Ab.Fn) : nleaves (encF f) = 9 := by
  obtain ⟨_, _, _, _, ⟨_, _, _, _, _⟩⟩ := f
  rfl
def encAs (l : List Ar) : List AV := l.map encA
def encFs (l : List Ab.Fn) : List AV := l.map encF
@[simp] theorem encAs_length (l : List Ar) : (encAs l).length = l.length := by simp [encAs]
@[simp] theorem encFs_length (l : List Ab.Fn) : (encFs l).length = l.length := by simp [encFs]
@[simp] theorem encAs_size (l : List Ar) : sizeOk 2 (encAs l) = true := sizeOk_all (by simp [encAs, encA])
@[simp] theorem encFs_size (l : List Ab.Fn) : sizeOk 9 (encFs l) = true := sizeOk_all (by simp [encFs, nleaves_encF])
theorem encAs_append (a b : List Ar) : encAs (a ++ b) = encAs a ++ encAs b := by simp [encAs]
theorem encFs_append (a b : List Ab.Fn) : encFs (a ++ b) = encFs a ++ encFs b := by simp [encFs]
theorem encAs1 (x : Ar) : encAs [x] = [encA x] := rfl
theorem encFs1 (x : Ab.Fn) : encFs [x] = [encF x] := rfl
theorem encP_eq (p : Prg) : encP p = .agg [.sl .none (encAs p.arrays), .sl .none (encFs p.funcs)] := rfl
end Ab
