/- Parse of the program: what it answers. -/
import Derived.Test.YtghlghbpaeimjaaDoorM10
namespace Go.Proofs.YtghlghbpaeimjaaDoor
open Go Go.Proofs Ab
set_option maxRecDepth 100000
set_option linter.unusedSimpArgs false
/-- the operands that the program reads out of the parts of a text -/
def cand10 (op : Int) (l : List (List UInt8)) : Option (Int × Int × Int × Int) :=
  if op = 6 then match l with
    | [x, y] => match parseW x with
      | some a => if 0 ≤ a ∧ a ≤ 6 then (match parseW y with | some n => some (a, 0, 0, n) | none => none) else none
      | none => none
    | _ => none
  else if formR op = 1 then match l with | [] => some (0, 0, 0, 0) | _ => none
  else if formR op = 2 then match l with | [x] => some (regV x, 0, 0, 0) | _ => none
  else if formR op = 3 then match l with | [x, y] => some (regV x, regV y, 0, 0) | _ => none
  else if formR op = 4 then match l with | [x, y, z] => some (regV x, regV y, regV z, 0) | _ => none
  else if formR op = 5 ∨ formR op = 6 then match l with | [x, y] => (match parseW y with | some n => some (regV x, 0, 0, n) | none => none) | _ => none
  else if formR op = 7 then match l with | [x, y, z] => (match parseW z with | some n => some (regV x, regV y, 0, n) | none => none) | _ => none
  else if formR op = 8 then match l with | [x] => (match parseW x with | some n => some (0, 0, 0, n) | none => none) | _ => none
  else none
def noInstr : AV := .tup [instrV 0 0 0 0 0, .bool false]
def resV (op : Int) (s : List UInt8) : Option (Int × Int × Int × Int) → AV
  | some (a, b, c, n) => if validP op a b c n ∧ fmtV op a b c n = s then .tup [instrV op a b c n, .bool true] else noInstr
  | none => noInstr
theorem tupW_none : tupW none = .tup [.int .i64 0, .bool false] := rfl
theorem tupW_some (v : Int) : tupW (some v) = .tup [.int .i64 v, .bool true] := rfl
section
variable (op : Int) (s : List UInt8) (H : Heap)
abbrev st10 (op : Int) (s : List UInt8) (H : Heap) (l : List (List UInt8)) : Slots := [(0, .str s), (2, .ptr H.length 0), (5, .sl .none (strs l)), (6, .int .i64 op), (32, .bool false)]
abbrev z5 : Ob := .cells [.int .i64 0, .int .i64 0, .int .i64 0, .int .i64 0, .int .i64 0]
theorem cls1 (o6 : op ≠ 6) (hf : formR op = 1) (l : List (List UInt8)) (hl : ∀ x ∈ l, x.length < 4611686018427387904) : finK F10 H.length (runF E2 H.length false c10_82 (st10 op s H l) (H ++ [z5])) = some (resV op s (cand10 op l), H) := by
  have w1 : IntKind.i64.wrap 1 = 1 := rfl
  have w2 : IntKind.i64.wrap 2 = 2 := rfl
  have w3 : IntKind.i64.wrap 3 = 3 := rfl
  match l, hl with
  | [], hl =>
    simp [F10, info9', fields30, q10_47, w1, w2, w3, cand10, resV, noInstr, valid23, format11, tupW_none, tupW_some, hf, o6] <;> (split <;> rfl)
  | x :: r, hl =>
    have hx := hl x (by simp)
    have e1 : ¬ ((r.length : Int) + 1 = 0) := by omega
    have p1 : (0 : Int) < (r.length : Int) + 1 := by omega
    have q1 : (1 : Int) ≤ (r.length : Int) + 1 := by omega
    simp [F10, info9', fields30, q10_47, w1, w2, w3, cand10, resV, noInstr, valid23, format11, tupW_none, tupW_some, hf, o6, e1, p1, q1, register31 _ hx] <;> (split <;> rfl)
theorem cls2 (o6 : op ≠ 6) (hf : formR op = 2) (l : List (List UInt8)) (hl : ∀ x ∈ l, x.length < 4611686018427387904) : finK F10 H.length (runF E2 H.length false c10_82 (st10 op s H l) (H ++ [z5])) = some (resV op s (cand10 op l), H) := by
  have w1 : IntKind.i64.wrap 1 = 1 := rfl
  have w2 : IntKind.i64.wrap 2 = 2 := rfl
  have w3 : IntKind.i64.wrap 3 = 3 := rfl
  match l, hl with
  | [], hl =>
    simp [F10, info9', fields30, q10_47, w1, w2, w3, cand10, resV, noInstr, valid23, format11, tupW_none, tupW_some, hf, o6] <;> (split <;> rfl)
  | [x], hl =>
    have hx := hl x (by simp)
    simp [F10, info9', fields30, q10_47, w1, w2, w3, cand10, resV, noInstr, valid23, format11, tupW_none, tupW_some, hf, o6, register31 _ hx] <;> (split <;> rfl)
  | x :: y :: r, hl =>
    have hx := hl x (by simp)
    have hy := hl y (by simp)
    have e1 : ¬ ((r.length : Int) + 1 = 0) := by omega
    have p1 : (0 : Int) < (r.length : Int) + 1 := by omega
    have q1 : (1 : Int) ≤ (r.length : Int) + 1 := by omega
    have e2 : ¬ ((r.length : Int) + 1 + 1 = 0) := by omega
    have p2 : (0 : Int) < (r.length : Int) + 1 + 1 := by omega
    have q2 : (1 : Int) ≤ (r.length : Int) + 1 + 1 := by omega
    simp [F10, info9', fields30, q10_47, w1, w2, w3, cand10, resV, noInstr, valid23, format11, tupW_none, tupW_some, hf, o6, e1, p1, q1, e2, p2, q2, register31 _ hx, register31 _ hy] <;> (split <;> rfl)
theorem cls3 (o6 : op ≠ 6) (hf : formR op = 3) (l : List (List UInt8)) (hl : ∀ x ∈ l, x.length < 4611686018427387904) : finK F10 H.length (runF E2 H.length false c10_82 (st10 op s H l) (H ++ [z5])) = some (resV op s (cand10 op l), H) := by
  have w1 : IntKind.i64.wrap 1 = 1 := rfl
  have w2 : IntKind.i64.wrap 2 = 2 := rfl
  have w3 : IntKind.i64.wrap 3 = 3 := rfl
  match l, hl with
  | [], hl =>
    simp [F10, info9', fields30, q10_47, w1, w2, w3, cand10, resV, noInstr, valid23, format11, tupW_none, tupW_some, hf, o6] <;> (split <;> rfl)
  | [x], hl =>
    have hx := hl x (by simp)
    simp [F10, info9', fields30, q10_47, w1, w2, w3, cand10, resV, noInstr, valid23, format11, tupW_none, tupW_some, hf, o6, register31 _ hx] <;> (split <;> rfl)
  | [x, y], hl =>
    have hx := hl x (by simp)
    have hy := hl y (by simp)
    simp [F10, info9', fields30, q10_47, w1, w2, w3, cand10, resV, noInstr, valid23, format11, tupW_none, tupW_some, hf, o6, register31 _ hx, register31 _ hy] <;> (split <;> rfl)
  | x :: y :: z :: r, hl =>
    have hx := hl x (by simp)
    have hy := hl y (by simp)
    have hz := hl z (by simp)
    have e1 : ¬ ((r.length : Int) + 1 = 0) := by omega
    have p1 : (0 : Int) < (r.length : Int) + 1 := by omega
    have q1 : (1 : Int) ≤ (r.length : Int) + 1 := by omega
    have e2 : ¬ ((r.length : Int) + 1 + 1 = 0) := by omega
    have p2 : (0 : Int) < (r.length : Int) + 1 + 1 := by omega
    have q2 : (1 : Int) ≤ (r.length : Int) + 1 + 1 := by omega
    have e3 : ¬ ((r.length : Int) + 1 + 1 + 1 = 0) := by omega
    have p3 : (0 : Int) < (r.length : Int) + 1 + 1 + 1 := by omega
    have q3 : (1 : Int) ≤ (r.length : Int) + 1 + 1 + 1 := by omega
    simp [F10, info9', fields30, q10_47, w1, w2, w3, cand10, resV, noInstr, valid23, format11, tupW_none, tupW_some, hf, o6, e1, p1, q1, e2, p2, q2, e3, p3, q3, register31 _ hx, register31 _ hy, register31 _ hz] <;> (split <;> rfl)
theorem cls4 (o6 : op ≠ 6) (hf : formR op = 4) (l : List (List UInt8)) (hl : ∀ x ∈ l, x.length < 4611686018427387904) : finK F10 H.length (runF E2 H.length false c10_82 (st10 op s H l) (H ++ [z5])) = some (resV op s (cand10 op l), H) := by
  have w1 : IntKind.i64.wrap 1 = 1 := rfl
  have w2 : IntKind.i64.wrap 2 = 2 := rfl
  have w3 : IntKind.i64.wrap 3 = 3 := rfl
  match l, hl with
  | [], hl =>
    simp [F10, info9', fields30, q10_47, w1, w2, w3, cand10, resV, noInstr, valid23, format11, tupW_none, tupW_some, hf, o6] <;> (split <;> rfl)
  | [x], hl =>
    have hx := hl x (by simp)
    simp [F10, info9', fields30, q10_47, w1, w2, w3, cand10, resV, noInstr, valid23, format11, tupW_none, tupW_some, hf, o6, register31 _ hx] <;> (split <;> rfl)
  | [x, y], hl =>
    have hx := hl x (by simp)
    have hy := hl y (by simp)
    simp [F10, info9', fields30, q10_47, w1, w2, w3, cand10, resV, noInstr, valid23, format11, tupW_none, tupW_some, hf, o6, register31 _ hx, register31 _ hy] <;> (split <;> rfl)
  | [x, y, z], hl =>
    have hx := hl x (by simp)
    have hy := hl y (by simp)
    have hz := hl z (by simp)
    simp [F10, info9', fields30, q10_47, w1, w2, w3, cand10, resV, noInstr, valid23, format11, tupW_none, tupW_some, hf, o6, register31 _ hx, register31 _ hy, register31 _ hz] <;> (split <;> rfl)
  | x :: y :: z :: w :: r, hl =>
    have hx := hl x (by simp)
    have hy := hl y (by simp)
    have hz := hl z (by simp)
    have hw := hl w (by simp)
    have e1 : ¬ ((r.length : Int) + 1 = 0) := by omega
    have p1 : (0 : Int) < (r.length : Int) + 1 := by omega
    have q1 : (1 : Int) ≤ (r.length : Int) + 1 := by omega
    have e2 : ¬ ((r.length : Int) + 1 + 1 = 0) := by omega
    have p2 : (0 : Int) < (r.length : Int) + 1 + 1 := by omega
    have q2 : (1 : Int) ≤ (r.length : Int) + 1 + 1 := by omega
    have e3 : ¬ ((r.length : Int) + 1 + 1 + 1 = 0) := by omega
    have p3 : (0 : Int) < (r.length : Int) + 1 + 1 + 1 := by omega
    have q3 : (1 : Int) ≤ (r.length : Int) + 1 + 1 + 1 := by omega
    have e4 : ¬ ((r.length : Int) + 1 + 1 + 1 + 1 = 0) := by omega
    have p4 : (0 : Int) < (r.length : Int) + 1 + 1 + 1 + 1 := by omega
    have q4 : (1 : Int) ≤ (r.length : Int) + 1 + 1 + 1 + 1 := by omega
    simp [F10, info9', fields30, q10_47, w1, w2, w3, cand10, resV, noInstr, valid23, format11, tupW_none, tupW_some, hf, o6, e1, p1, q1, e2, p2, q2, e3, p3, q3, e4, p4, q4, register31 _ hx, register31 _ hy, register31 _ hz, register31 _ hw] <;> (split <;> rfl)
theorem cls5 (o6 : op ≠ 6) (hf : formR op = 5) (l : List (List UInt8)) (hl : ∀ x ∈ l, x.length < 4611686018427387904) : finK F10 H.length (runF E2 H.length false c10_82 (st10 op s H l) (H ++ [z5])) = some (resV op s (cand10 op l), H) := by
  have w1 : IntKind.i64.wrap 1 = 1 := rfl
  have w2 : IntKind.i64.wrap 2 = 2 := rfl
  have w3 : IntKind.i64.wrap 3 = 3 := rfl
  match l, hl with
  | [], hl =>
    simp [F10, info9', fields30, q10_47, w1, w2, w3, cand10, resV, noInstr, valid23, format11, tupW_none, tupW_some, hf, o6] <;> (split <;> rfl)
  | [x], hl =>
    have hx := hl x (by simp)
    simp [F10, info9', fields30, q10_47, w1, w2, w3, cand10, resV, noInstr, valid23, format11, tupW_none, tupW_some, hf, o6, register31 _ hx] <;> (split <;> rfl)
  | [x, y], hl =>
    have hx := hl x (by simp)
    have hy := hl y (by simp)
    cases hp : parseW y with
    | none => simp [F10, info9', fields30, q10_47, w1, w2, w3, cand10, resV, noInstr, valid23, format11, tupW_none, tupW_some, hf, o6, register31 _ hx, register31 _ hy, parse32 _ hy, hp] <;> (split <;> rfl)
    | some n => simp [F10, info9', fields30, q10_47, w1, w2, w3, cand10, resV, noInstr, valid23, format11, tupW_none, tupW_some, hf, o6, register31 _ hx, register31 _ hy, parse32 _ hy, hp] <;> (split <;> rfl)
  | x :: y :: z :: r, hl =>
    have hx := hl x (by simp)
    have hy := hl y (by simp)
    have hz := hl z (by simp)
    have e1 : ¬ ((r.length : Int) + 1 = 0) := by omega
    have p1 : (0 : Int) < (r.length : Int) + 1 := by omega
    have q1 : (1 : Int) ≤ (r.length : Int) + 1 := by omega
    have e2 : ¬ ((r.length : Int) + 1 + 1 = 0) := by omega
    have p2 : (0 : Int) < (r.length : Int) + 1 + 1 := by omega
    have q2 : (1 : Int) ≤ (r.length : Int) + 1 + 1 := by omega
    have e3 : ¬ ((r.length : Int) + 1 + 1 + 1 = 0) := by omega
    have p3 : (0 : Int) < (r.length : Int) + 1 + 1 + 1 := by omega
    have q3 : (1 : Int) ≤ (r.length : Int) + 1 + 1 + 1 := by omega
    cases hp : parseW y with
    | none => simp [F10, info9', fields30, q10_47, w1, w2, w3, cand10, resV, noInstr, valid23, format11, tupW_none, tupW_some, hf, o6, e1, p1, q1, e2, p2, q2, e3, p3, q3, register31 _ hx, register31 _ hy, register31 _ hz, parse32 _ hy, hp] <;> (split <;> rfl)
    | some n => simp [F10, info9', fields30, q10_47, w1, w2, w3, cand10, resV, noInstr, valid23, format11, tupW_none, tupW_some, hf, o6, e1, p1, q1, e2, p2, q2, e3, p3, q3, register31 _ hx, register31 _ hy, register31 _ hz, parse32 _ hy, hp] <;> (split <;> rfl)
theorem cls6 (o6 : op ≠ 6) (hf : formR op = 6) (l : List (List UInt8)) (hl : ∀ x ∈ l, x.length < 4611686018427387904) : finK F10 H.length (runF E2 H.length false c10_82 (st10 op s H l) (H ++ [z5])) = some (resV op s (cand10 op l), H) := by
  have w1 : IntKind.i64.wrap 1 = 1 := rfl
  have w2 : IntKind.i64.wrap 2 = 2 := rfl
  have w3 : IntKind.i64.wrap 3 = 3 := rfl
  match l, hl with
  | [], hl =>
    simp [F10, info9', fields30, q10_47, w1, w2, w3, cand10, resV, noInstr, valid23, format11, tupW_none, tupW_some, hf, o6] <;> (split <;> rfl)
  | [x], hl =>
    have hx := hl x (by simp)
    simp [F10, info9', fields30, q10_47, w1, w2, w3, cand10, resV, noInstr, valid23, format11, tupW_none, tupW_some, hf, o6, register31 _ hx] <;> (split <;> rfl)
  | [x, y], hl =>
    have hx := hl x (by simp)
    have hy := hl y (by simp)
    cases hp : parseW y with
    | none => simp [F10, info9', fields30, q10_47, w1, w2, w3, cand10, resV, noInstr, valid23, format11, tupW_none, tupW_some, hf, o6, register31 _ hx, register31 _ hy, parse32 _ hy, hp] <;> (split <;> rfl)
    | some n => simp [F10, info9', fields30, q10_47, w1, w2, w3, cand10, resV, noInstr, valid23, format11, tupW_none, tupW_some, hf, o6, register31 _ hx, register31 _ hy, parse32 _ hy, hp] <;> (split <;> rfl)
  | x :: y :: z :: r, hl =>
    have hx := hl x (by simp)
    have hy := hl y (by simp)
    have hz := hl z (by simp)
    have e1 : ¬ ((r.length : Int) + 1 = 0) := by omega
    have p1 : (0 : Int) < (r.length : Int) + 1 := by omega
    have q1 : (1 : Int) ≤ (r.length : Int) + 1 := by omega
    have e2 : ¬ ((r.length : Int) + 1 + 1 = 0) := by omega
    have p2 : (0 : Int) < (r.length : Int) + 1 + 1 := by omega
    have q2 : (1 : Int) ≤ (r.length : Int) + 1 + 1 := by omega
    have e3 : ¬ ((r.length : Int) + 1 + 1 + 1 = 0) := by omega
    have p3 : (0 : Int) < (r.length : Int) + 1 + 1 + 1 := by omega
    have q3 : (1 : Int) ≤ (r.length : Int) + 1 + 1 + 1 := by omega
    cases hp : parseW y with
    | none => simp [F10, info9', fields30, q10_47, w1, w2, w3, cand10, resV, noInstr, valid23, format11, tupW_none, tupW_some, hf, o6, e1, p1, q1, e2, p2, q2, e3, p3, q3, register31 _ hx, register31 _ hy, register31 _ hz, parse32 _ hy, hp] <;> (split <;> rfl)
    | some n => simp [F10, info9', fields30, q10_47, w1, w2, w3, cand10, resV, noInstr, valid23, format11, tupW_none, tupW_some, hf, o6, e1, p1, q1, e2, p2, q2, e3, p3, q3, register31 _ hx, register31 _ hy, register31 _ hz, parse32 _ hy, hp] <;> (split <;> rfl)
theorem cls7 (o6 : op ≠ 6) (hf : formR op = 7) (l : List (List UInt8)) (hl : ∀ x ∈ l, x.length < 4611686018427387904) : finK F10 H.length (runF E2 H.length false c10_82 (st10 op s H l) (H ++ [z5])) = some (resV op s (cand10 op l), H) := by
  have w1 : IntKind.i64.wrap 1 = 1 := rfl
  have w2 : IntKind.i64.wrap 2 = 2 := rfl
  have w3 : IntKind.i64.wrap 3 = 3 := rfl
  match l, hl with
  | [], hl =>
    simp [F10, info9', fields30, q10_47, w1, w2, w3, cand10, resV, noInstr, valid23, format11, tupW_none, tupW_some, hf, o6] <;> (split <;> rfl)
  | [x], hl =>
    have hx := hl x (by simp)
    simp [F10, info9', fields30, q10_47, w1, w2, w3, cand10, resV, noInstr, valid23, format11, tupW_none, tupW_some, hf, o6, register31 _ hx] <;> (split <;> rfl)
  | [x, y], hl =>
    have hx := hl x (by simp)
    have hy := hl y (by simp)
    simp [F10, info9', fields30, q10_47, w1, w2, w3, cand10, resV, noInstr, valid23, format11, tupW_none, tupW_some, hf, o6, register31 _ hx, register31 _ hy] <;> (split <;> rfl)
  | [x, y, z], hl =>
    have hx := hl x (by simp)
    have hy := hl y (by simp)
    have hz := hl z (by simp)
    cases hp : parseW z with
    | none => simp [F10, info9', fields30, q10_47, w1, w2, w3, cand10, resV, noInstr, valid23, format11, tupW_none, tupW_some, hf, o6, register31 _ hx, register31 _ hy, register31 _ hz, parse32 _ hz, hp] <;> (split <;> rfl)
    | some n => simp [F10, info9', fields30, q10_47, w1, w2, w3, cand10, resV, noInstr, valid23, format11, tupW_none, tupW_some, hf, o6, register31 _ hx, register31 _ hy, register31 _ hz, parse32 _ hz, hp] <;> (split <;> rfl)
  | x :: y :: z :: w :: r, hl =>
    have hx := hl x (by simp)
    have hy := hl y (by simp)
    have hz := hl z (by simp)
    have hw := hl w (by simp)
    have e1 : ¬ ((r.length : Int) + 1 = 0) := by omega
    have p1 : (0 : Int) < (r.length : Int) + 1 := by omega
    have q1 : (1 : Int) ≤ (r.length : Int) + 1 := by omega
    have e2 : ¬ ((r.length : Int) + 1 + 1 = 0) := by omega
    have p2 : (0 : Int) < (r.length : Int) + 1 + 1 := by omega
    have q2 : (1 : Int) ≤ (r.length : Int) + 1 + 1 := by omega
    have e3 : ¬ ((r.length : Int) + 1 + 1 + 1 = 0) := by omega
    have p3 : (0 : Int) < (r.length : Int) + 1 + 1 + 1 := by omega
    have q3 : (1 : Int) ≤ (r.length : Int) + 1 + 1 + 1 := by omega
    have e4 : ¬ ((r.length : Int) + 1 + 1 + 1 + 1 = 0) := by omega
    have p4 : (0 : Int) < (r.length : Int) + 1 + 1 + 1 + 1 := by omega
    have q4 : (1 : Int) ≤ (r.length : Int) + 1 + 1 + 1 + 1 := by omega
    cases hp : parseW z with
    | none => simp [F10, info9', fields30, q10_47, w1, w2, w3, cand10, resV, noInstr, valid23, format11, tupW_none, tupW_some, hf, o6, e1, p1, q1, e2, p2, q2, e3, p3, q3, e4, p4, q4, register31 _ hx, register31 _ hy, register31 _ hz, register31 _ hw, parse32 _ hz, hp] <;> (split <;> rfl)
    | some n => simp [F10, info9', fields30, q10_47, w1, w2, w3, cand10, resV, noInstr, valid23, format11, tupW_none, tupW_some, hf, o6, e1, p1, q1, e2, p2, q2, e3, p3, q3, e4, p4, q4, register31 _ hx, register31 _ hy, register31 _ hz, register31 _ hw, parse32 _ hz, hp] <;> (split <;> rfl)
theorem cls8 (o6 : op ≠ 6) (hf : formR op = 8) (l : List (List UInt8)) (hl : ∀ x ∈ l, x.length < 4611686018427387904) : finK F10 H.length (runF E2 H.length false c10_82 (st10 op s H l) (H ++ [z5])) = some (resV op s (cand10 op l), H) := by
  have w1 : IntKind.i64.wrap 1 = 1 := rfl
  have w2 : IntKind.i64.wrap 2 = 2 := rfl
  have w3 : IntKind.i64.wrap 3 = 3 := rfl
  match l, hl with
  | [], hl =>
    simp [F10, info9', fields30, q10_47, w1, w2, w3, cand10, resV, noInstr, valid23, format11, tupW_none, tupW_some, hf, o6] <;> (split <;> rfl)
  | [x], hl =>
    have hx := hl x (by simp)
    cases hp : parseW x with
    | none => simp [F10, info9', fields30, q10_47, w1, w2, w3, cand10, resV, noInstr, valid23, format11, tupW_none, tupW_some, hf, o6, register31 _ hx, parse32 _ hx, hp] <;> (split <;> rfl)
    | some n => simp [F10, info9', fields30, q10_47, w1, w2, w3, cand10, resV, noInstr, valid23, format11, tupW_none, tupW_some, hf, o6, register31 _ hx, parse32 _ hx, hp] <;> (split <;> rfl)
  | x :: y :: r, hl =>
    have hx := hl x (by simp)
    have hy := hl y (by simp)
    have e1 : ¬ ((r.length : Int) + 1 = 0) := by omega
    have p1 : (0 : Int) < (r.length : Int) + 1 := by omega
    have q1 : (1 : Int) ≤ (r.length : Int) + 1 := by omega
    have e2 : ¬ ((r.length : Int) + 1 + 1 = 0) := by omega
    have p2 : (0 : Int) < (r.length : Int) + 1 + 1 := by omega
    have q2 : (1 : Int) ≤ (r.length : Int) + 1 + 1 := by omega
    cases hp : parseW x with
    | none => simp [F10, info9', fields30, q10_47, w1, w2, w3, cand10, resV, noInstr, valid23, format11, tupW_none, tupW_some, hf, o6, e1, p1, q1, e2, p2, q2, register31 _ hx, register31 _ hy, parse32 _ hx, hp] <;> (split <;> rfl)
    | some n => simp [F10, info9', fields30, q10_47, w1, w2, w3, cand10, resV, noInstr, valid23, format11, tupW_none, tupW_some, hf, o6, e1, p1, q1, e2, p2, q2, register31 _ hx, register31 _ hy, parse32 _ hx, hp] <;> (split <;> rfl)
set_option maxHeartbeats 2000000 in
theorem clsop6 (l : List (List UInt8)) (hl : ∀ x ∈ l, x.length < 4611686018427387904) : finK F10 H.length (runF E2 H.length false c10_82 (st10 6 s H l) (H ++ [z5])) = some (resV 6 s (cand10 6 l), H) := by
  have w1 : IntKind.i64.wrap 1 = 1 := rfl
  have w2 : IntKind.i64.wrap 2 = 2 := rfl
  have w3 : IntKind.i64.wrap 3 = 3 := rfl
  match l, hl with
  | [], hl =>
    simp [F10, info9', fields30, q10_47, w1, w2, w3, cand10, resV, noInstr, valid23, format11, tupW_none, tupW_some, form6] <;> (split <;> rfl)
  | [x], hl =>
    have hx := hl x (by simp)
    cases hp : parseW x with
    | none => simp [F10, info9', fields30, q10_47, w1, w2, w3, cand10, resV, noInstr, valid23, format11, tupW_none, tupW_some, form6, register31 _ hx, parse32 _ hx, hp] <;> (split <;> rfl)
    | some a =>
      by_cases ha : 0 ≤ a
      · have ha1 : ¬ a < 0 := by omega
        by_cases hb : a ≤ 6
        · have hb1 : ¬ (6 : Int) < a := by omega
          simp [F10, info9', fields30, q10_47, w1, w2, w3, cand10, resV, noInstr, valid23, format11, tupW_none, tupW_some, form6, register31 _ hx, parse32 _ hx, hp, ha, ha1, hb, hb1] <;> (split <;> rfl)
        · have hb1 : (6 : Int) < a := by omega
          simp [F10, info9', fields30, q10_47, w1, w2, w3, cand10, resV, noInstr, valid23, format11, tupW_none, tupW_some, form6, register31 _ hx, parse32 _ hx, hp, ha, ha1, hb, hb1] <;> (split <;> rfl)
      · have ha1 : a < 0 := by omega
        simp [F10, info9', fields30, q10_47, w1, w2, w3, cand10, resV, noInstr, valid23, format11, tupW_none, tupW_some, form6, register31 _ hx, parse32 _ hx, hp, ha, ha1] <;> (split <;> rfl)
  | [x, y], hl =>
    have hx := hl x (by simp)
    have hy := hl y (by simp)
    cases hp : parseW x with
    | none => simp [F10, info9', fields30, q10_47, w1, w2, w3, cand10, resV, noInstr, valid23, format11, tupW_none, tupW_some, form6, register31 _ hx, register31 _ hy, parse32 _ hx, parse32 _ hy, hp] <;> (split <;> rfl)
    | some a =>
      by_cases ha : 0 ≤ a
      · have ha1 : ¬ a < 0 := by omega
        by_cases hb : a ≤ 6
        · have hb1 : ¬ (6 : Int) < a := by omega
          cases hq : parseW y with
          | none => simp [F10, info9', fields30, q10_47, w1, w2, w3, cand10, resV, noInstr, valid23, format11, tupW_none, tupW_some, form6, register31 _ hx, register31 _ hy, parse32 _ hx, parse32 _ hy, hp, hq, ha, ha1, hb, hb1] <;> (split <;> rfl)
          | some n => simp [F10, info9', fields30, q10_47, w1, w2, w3, cand10, resV, noInstr, valid23, format11, tupW_none, tupW_some, form6, register31 _ hx, register31 _ hy, parse32 _ hx, parse32 _ hy, hp, hq, ha, ha1, hb, hb1] <;> (split <;> rfl)
        · have hb1 : (6 : Int) < a := by omega
          simp [F10, info9', fields30, q10_47, w1, w2, w3, cand10, resV, noInstr, valid23, format11, tupW_none, tupW_some, form6, register31 _ hx, register31 _ hy, parse32 _ hx, parse32 _ hy, hp, ha, ha1, hb, hb1] <;> (split <;> rfl)
      · have ha1 : a < 0 := by omega
        simp [F10, info9', fields30, q10_47, w1, w2, w3, cand10, resV, noInstr, valid23, format11, tupW_none, tupW_some, form6, register31 _ hx, register31 _ hy, parse32 _ hx, parse32 _ hy, hp, ha, ha1] <;> (split <;> rfl)
  | x :: y :: z :: r, hl =>
    have hx := hl x (by simp)
    have hy := hl y (by simp)
    have hz := hl z (by simp)
    have e1 : ¬ ((r.length : Int) + 1 = 0) := by omega
    have p1 : (0 : Int) < (r.length : Int) + 1 := by omega
    have q1 : (1 : Int) ≤ (r.length : Int) + 1 := by omega
    have e2 : ¬ ((r.length : Int) + 1 + 1 = 0) := by omega
    have p2 : (0 : Int) < (r.length : Int) + 1 + 1 := by omega
    have q2 : (1 : Int) ≤ (r.length : Int) + 1 + 1 := by omega
    have e3 : ¬ ((r.length : Int) + 1 + 1 + 1 = 0) := by omega
    have p3 : (0 : Int) < (r.length : Int) + 1 + 1 + 1 := by omega
    have q3 : (1 : Int) ≤ (r.length : Int) + 1 + 1 + 1 := by omega
    cases hp : parseW x with
    | none => simp [F10, info9', fields30, q10_47, w1, w2, w3, cand10, resV, noInstr, valid23, format11, tupW_none, tupW_some, form6, e1, p1, q1, e2, p2, q2, e3, p3, q3, register31 _ hx, register31 _ hy, register31 _ hz, parse32 _ hx, parse32 _ hy, parse32 _ hz, hp] <;> (split <;> rfl)
    | some a =>
      by_cases ha : 0 ≤ a
      · have ha1 : ¬ a < 0 := by omega
        by_cases hb : a ≤ 6
        · have hb1 : ¬ (6 : Int) < a := by omega
          cases hq : parseW y with
          | none => simp [F10, info9', fields30, q10_47, w1, w2, w3, cand10, resV, noInstr, valid23, format11, tupW_none, tupW_some, form6, e1, p1, q1, e2, p2, q2, e3, p3, q3, register31 _ hx, register31 _ hy, register31 _ hz, parse32 _ hx, parse32 _ hy, parse32 _ hz, hp, hq, ha, ha1, hb, hb1] <;> (split <;> rfl)
          | some n => simp [F10, info9', fields30, q10_47, w1, w2, w3, cand10, resV, noInstr, valid23, format11, tupW_none, tupW_some, form6, e1, p1, q1, e2, p2, q2, e3, p3, q3, register31 _ hx, register31 _ hy, register31 _ hz, parse32 _ hx, parse32 _ hy, parse32 _ hz, hp, hq, ha, ha1, hb, hb1] <;> (split <;> rfl)
        · have hb1 : (6 : Int) < a := by omega
          simp [F10, info9', fields30, q10_47, w1, w2, w3, cand10, resV, noInstr, valid23, format11, tupW_none, tupW_some, form6, e1, p1, q1, e2, p2, q2, e3, p3, q3, register31 _ hx, register31 _ hy, register31 _ hz, parse32 _ hx, parse32 _ hy, parse32 _ hz, hp, ha, ha1, hb, hb1] <;> (split <;> rfl)
      · have ha1 : a < 0 := by omega
        simp [F10, info9', fields30, q10_47, w1, w2, w3, cand10, resV, noInstr, valid23, format11, tupW_none, tupW_some, form6, e1, p1, q1, e2, p2, q2, e3, p3, q3, register31 _ hx, register31 _ hy, register31 _ hz, parse32 _ hx, parse32 _ hy, parse32 _ hz, hp, ha, ha1] <;> (split <;> rfl)

end
theorem splitC_mem : ∀ (n : Nat) (r cur x : List UInt8), r.length ≤ n → x ∈ splitC cur r → x.length ≤ cur.length + r.length
  | n, [], cur, x, hn, hx => by
    simp [splitC] at hx
    rw [hx]
    simp
  | n, [c], cur, x, hn, hx => by
    simp [splitC] at hx
    rw [hx]
    simp
  | 0, c :: d :: r, cur, x, hn, hx => by simp at hn
  | n + 1, c :: d :: r, cur, x, hn, hx => by
    rw [splitC] at hx
    simp only [List.length_cons] at hn ⊢
    split at hx
    · rcases List.mem_cons.1 hx with h | h
      · rw [h]; omega
      · have := splitC_mem n r [] x (by omega) h
        simp at this
        omega
    · have := splitC_mem n (d :: r) (cur ++ [c]) x (by simp; omega) hx
      simp at this
      omega
theorem opsP_mem {s x : List UInt8} (h : x ∈ opsP s) : x.length ≤ s.length := by
  unfold opsP at h
  split at h
  · simp at h
  · rename_i y r hd
    have h1 := splitC_mem r.length r [] x (Nat.le_refl _) h
    have h2 := congrArg List.length (List.takeWhile_append_dropWhile (p := notSp) (l := s))
    rw [hd, List.length_append] at h2
    simp only [List.length_cons, List.length_nil] at h1 h2
    omega
theorem lookIx_lt : ∀ (rs : List AV) (k : Nat) (n : List UInt8) (m : Nat), lookIx rs k n = some m → k ≤ m ∧ m < k + rs.length
  | [], k, n, m, h => by cases h
  | r :: rs, k, n, m, h => by
    rw [lookIx] at h
    split at h
    · cases h; simp
    · have := lookIx_lt rs (k + 1) n m h
      simp
      omega
def res10 (s : List UInt8) : AV := match lookIx table 0 (nameP s) with
  | some m => resV (1 + (m : Int)) s (cand10 (1 + (m : Int)) (opsP s))
  | none => noInstr
theorem body10 (op : Int) (h1 : 1 ≤ op ∧ op ≤ 37) (s : List UInt8) (H : Heap) (l : List (List UInt8)) (hl : ∀ x ∈ l, x.length < 4611686018427387904) : finK F10 H.length (runF E2 H.length false c10_82 (st10 op s H l) (H ++ [z5])) = some (resV op s (cand10 op l), H) := by
  by_cases o6 : op = 6
  · subst o6
    exact clsop6 s H l hl
  · have hf1 := (form_ok op).2 h1
    have hf2 := form_rng op
    have hf : formR op = 1 ∨ formR op = 2 ∨ formR op = 3 ∨ formR op = 4 ∨ formR op = 5 ∨ formR op = 6 ∨ formR op = 7 ∨ formR op = 8 := by omega
    rcases hf with hf | hf | hf | hf | hf | hf | hf | hf
    · exact cls1 op s H o6 hf l hl
    · exact cls2 op s H o6 hf l hl
    · exact cls3 op s H o6 hf l hl
    · exact cls4 op s H o6 hf l hl
    · exact cls5 op s H o6 hf l hl
    · exact cls6 op s H o6 hf l hl
    · exact cls7 op s H o6 hf l hl
    · exact cls8 op s H o6 hf l hl
theorem parse10 (s : List UInt8) (hs : s.length ≤ 2000000) (H : Heap) : callF E2 10 [.str s] H = some (res10 s, H) := by
  rw [go (fn := F10) rfl rfl rfl]
  have h29 := split29 s hs
  unfold res10
  cases hx : lookIx table 0 (nameP s) with
  | none =>
    have h16 : ∀ H, callF E2 16 [.str (nameP s)] H = some (.tup [.int .i64 0, .bool false], H) := fun H => by rw [c16_2', lookV, hx]
    simp [F10, h29, h16, noInstr]
  | some m =>
    have h16 : ∀ H, callF E2 16 [.str (nameP s)] H = some (.tup [.int .i64 (1 + (m : Int)), .bool true], H) := fun H => by rw [c16_2', lookV, hx]
    have hm := lookIx_lt _ _ _ _ hx
    rw [table_len] at hm
    have hb := body10 (1 + (m : Int)) (by omega) s H (opsP s) (fun x hx => by have := opsP_mem hx; omega)
    rw [← hb]
    simp [F10, h29, h16, -q10_82]
end Go.Proofs.YtghlghbpaeimjaaDoor
