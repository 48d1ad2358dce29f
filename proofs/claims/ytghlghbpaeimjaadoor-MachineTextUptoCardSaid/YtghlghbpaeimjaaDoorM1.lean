/- The small functions of the machine seat: what each answers. -/
import Derived.Test.YtghlghbpaeimjaaDoorQ0
import Derived.Test.YtghlghbpaeimjaaDoorInfo4
namespace Go.Proofs.YtghlghbpaeimjaaDoor
open Go Go.Proofs Ab
set_option maxRecDepth 100000
set_option linter.unusedSimpArgs false
/-! which functions grow the heap: none -/
theorem growAt2 (f : Nat) (fn : AFn) (h : fnAt f = some fn) : growAt E2 f = some fn.grow := by
  unfold growAt
  rw [show E2.fn f = some fn from h]
  rfl
@[simp] theorem gr9 : growAt E2 9 = some false := rfl
@[simp] theorem gr10 : growAt E2 10 = some false := rfl
@[simp] theorem gr11 : growAt E2 11 = some false := rfl
@[simp] theorem gr12 : growAt E2 12 = some false := rfl
@[simp] theorem gr13 : growAt E2 13 = some false := rfl
@[simp] theorem gr14 : growAt E2 14 = some false := rfl
@[simp] theorem gr15 : growAt E2 15 = some false := rfl
@[simp] theorem gr16 : growAt E2 16 = some false := rfl
@[simp] theorem gr17 : growAt E2 17 = some false := rfl
@[simp] theorem gr18 : growAt E2 18 = some false := rfl
@[simp] theorem gr19 : growAt E2 19 = some false := rfl
@[simp] theorem gr20 : growAt E2 20 = some false := rfl
@[simp] theorem gr21 : growAt E2 21 = some false := rfl
@[simp] theorem gr22 : growAt E2 22 = some false := rfl
@[simp] theorem gr23 : growAt E2 23 = some false := rfl
@[simp] theorem gr24 : growAt E2 24 = some false := rfl
@[simp] theorem gr25 : growAt E2 25 = some false := rfl
@[simp] theorem gr26 : growAt E2 26 = some false := rfl
@[simp] theorem gr27 : growAt E2 27 = some false := rfl
@[simp] theorem gr28 : growAt E2 28 = some false := rfl
@[simp] theorem gr29 : growAt E2 29 = some false := rfl
@[simp] theorem gr30 : growAt E2 30 = some false := rfl
@[simp] theorem gr31 : growAt E2 31 = some false := rfl
@[simp] theorem gr32 : growAt E2 32 = some false := rfl
@[simp] theorem gr33 : growAt E2 33 = some false := rfl
@[simp] theorem gr34 : growAt E2 34 = some false := rfl
@[simp] theorem gr36 : growAt E2 36 = some false := rfl
@[simp] theorem gr37 : growAt E2 37 = some false := rfl
@[simp] theorem gr38 : growAt E2 38 = some false := rfl
@[simp] theorem gr39 : growAt E2 39 = some false := rfl
@[simp] theorem gr40 : growAt E2 40 = some false := rfl
@[simp] theorem gr41 : growAt E2 41 = some false := rfl
@[simp] theorem gr42 : growAt E2 42 = some false := rfl
@[simp] theorem gr43 : growAt E2 43 = some false := rfl
@[simp] theorem gr44 : growAt E2 44 = some false := rfl
@[simp] theorem gr45 : growAt E2 45 = some false := rfl
@[simp] theorem gr46 : growAt E2 46 = some false := rfl
@[simp] theorem gr3 : growAt E2 3 = some false := rfl

/-! whole numbers -/
def InR (n : Int) : Prop := -9223372036854775808 ≤ n ∧ n ≤ 9223372036854775807
theorem wrapR {n : Int} (h : InR n) : IntKind.i64.wrap n = n := by
  obtain ⟨h1, h2⟩ := h
  simp only [IntKind.wrap, IntKind.signed, IntKind.bits]
  simp
  omega
theorem tmod_fix (n m : Int) (hm : 0 < m) : (if n.tmod m < 0 then n.tmod m + m else n.tmod m) = n % m := by
  have h1 := Int.emod_nonneg n (by omega : m ≠ 0)
  have h2 := Int.emod_lt_of_pos n hm
  have h3 : n.tmod m = if 0 ≤ n ∨ m ∣ n then n % m else n % m - m := by
    rw [Int.tmod_eq_emod]
    split
    · simp
    · rw [Int.natAbs_of_nonneg (by omega)]
  rw [h3]
  by_cases h : 0 ≤ n ∨ m ∣ n
  · rw [if_pos h, if_neg (by omega)]
  · rw [if_neg h, if_pos (by omega)]
    omega
theorem pick21 (n m : Int) (hm : 0 < m) (hm2 : m ≤ 4611686018427387904) (H : Heap) : callF E2 21 [.int .i64 n, .int .i64 m] H = some (.int .i64 (n % m), H) := by
  rw [go (fn := F21) rfl rfl rfl]
  have hm0 : m ≠ 0 := by omega
  have h1 : n.tmod m < m := Int.tmod_lt_of_pos n hm
  have h2 : -m < n.tmod m := by
    have := Int.lt_tmod_of_pos n hm
    omega
  have hw : n.tmod m < 0 → IntKind.i64.wrap (n.tmod m + m) = n.tmod m + m := fun h => wrapR ⟨by omega, by omega⟩
  have hx := tmod_fix n m hm
  simp [F21, hm0]
  split
  · rename_i h
    rw [if_pos h] at hx
    rw [hw h, hx]
  · rename_i h
    rw [if_neg h] at hx
    rw [hx]
theorem fields30 (f : Int) (H : Heap) : callF E2 30 [.int .i64 f] H = some (.tup [.bool (decide (2 ≤ f ∧ f ≤ 7)), .bool (decide (f = 3 ∨ f = 4 ∨ f = 7)), .bool (decide (f = 4)), .bool (decide (5 ≤ f ∧ f ≤ 8))], H) := by
  rw [go (fn := F30) rfl rfl rfl]
  simp [F30]
  repeat' split
  all_goals (simp; omega)
def loI (op : Int) : Int := if op = 14 then -9223372036854775808 else if op = 4 then 1 else if op = 5 then -33554432 else if op = 6 then 0 else if op = 34 ∨ op = 35 then 0 else if op = 36 ∨ op = 37 then 0 else -4194304
def hiI (op : Int) : Int := if op = 14 then 9223372036854775807 else if op = 4 then 33554431 else if op = 5 then 33554431 else if op = 6 then 7 else if op = 34 ∨ op = 35 then 3 else if op = 36 ∨ op = 37 then 2999 else 4194303
theorem range42 (op : Int) (H : Heap) : callF E2 42 [.int .i64 op] H = some (.tup [.int .i64 (loI op), .int .i64 (hiI op)], H) := by
  rw [go (fn := F42) rfl rfl rfl]
  simp [F42]
  unfold loI hiI
  repeat' split
  all_goals first | rfl | (exfalso; omega)
def hasN (op : Int) : Bool := decide (op = 4 ∨ op = 5 ∨ op = 6 ∨ op = 7 ∨ op = 8 ∨ op = 13 ∨ op = 14 ∨ op = 33 ∨ op = 34 ∨ op = 35 ∨ op = 36 ∨ op = 37)
theorem bounds43 (op : Int) (H : Heap) : callF E2 43 [.int .i64 op] H = some (.tup [.int .i64 (if hasN op then loI op else 0), .int .i64 (if hasN op then hiI op else 0)], H) := by
  rw [go (fn := F43) rfl rfl rfl]
  simp [F43]
  unfold loI hiI hasN
  repeat' split
  all_goals first | rfl | (exfalso; simp only [decide_eq_true_eq, Bool.not_eq_true, decide_eq_false_iff_not] at *; omega)
theorem reg44 (n : Int) (H : Heap) : callF E2 44 [.int .i64 n] H = some (.bool (decide (0 ≤ n ∧ n < 8)), H) := by
  rw [go (fn := F44) rfl rfl rfl]
  simp [F44]
  repeat' split
  all_goals (simp; omega)
theorem isbin36 (op : Int) (H : Heap) : callF E2 36 [.int .i64 op] H = some (.bool (decide (17 ≤ op ∧ op ≤ 32)), H) := by
  rw [go (fn := F36) rfl rfl rfl]
  simp [F36]
  repeat' split
  all_goals (simp; omega)
def formR (op : Int) : Int :=
  if op = 1 ∨ op = 2 ∨ op = 3 then 1 else if op = 4 ∨ op = 5 then 8 else if op = 6 ∨ op = 7 ∨ op = 8 ∨ op = 13 ∨ op = 33 ∨ op = 36 ∨ op = 37 then 5
  else if op = 9 ∨ op = 15 ∨ op = 16 then 2 else if op = 11 ∨ op = 12 then 4 else if op = 14 then 6 else if op = 34 ∨ op = 35 then 7 else if op = 10 ∨ 17 ≤ op ∧ op ≤ 32 then 3 else 0
theorem form34 (op : Int) (H : Heap) : callF E2 34 [.int .i64 op] H = some (.int .i64 (formR op), H) := by
  rw [go (fn := F34) rfl rfl rfl]
  simp [F34, isbin36]
  unfold formR
  repeat' split
  all_goals first | rfl | (exfalso; omega) | trace_state
def nxt (n m : Int) : Int := IntKind.i64.wrap ((IntKind.i64.wrap (n - n % m)).tdiv m)
theorem next37 (n m : Int) (hm : 0 < m) (hm2 : m ≤ 1000000) (H : Heap) (o : Nat) (ho : H[o]? = some (.cells [.int .i64 n])) : callF E2 37 [.ptr o 0, .int .i64 m] H = some (.int .i64 (n % m), H.set o (.cells [.int .i64 (nxt n m)])) := by
  rw [go (fn := F37) rfl rfl rfl]
  have hm0 : m ≠ 0 := by omega
  have hp := pick21 n m hm (by omega)
  simp [F37, hm0, ho, hp, nxt]
theorem inR_wrap (n : Int) : InR (IntKind.i64.wrap n) := by
  unfold InR
  simp only [IntKind.wrap, IntKind.signed, IntKind.bits]
  simp
  split <;> omega
theorem inR_nxt (n m : Int) : InR (nxt n m) := inR_wrap _
theorem word38 (n v : Int) : ∃ r, (InR v → InR r) ∧ ∀ H, callF E2 38 [.int .i64 n, .int .i64 v] H = some (.int .i64 r, H) := by
  have hp := pick21 n 24 (by omega) (by omega)
  have hp2 := pick21 (IntKind.i64.wrap (n.tdiv 24)) 17 (by omega) (by omega)
  have h1 := Int.emod_nonneg n (by omega : (24 : Int) ≠ 0)
  have h2 := Int.emod_lt_of_pos n (by omega : (0 : Int) < 24)
  have h3 := Int.emod_nonneg (IntKind.i64.wrap (n.tdiv 24)) (by omega : (17 : Int) ≠ 0)
  have h4 := Int.emod_lt_of_pos (IntKind.i64.wrap (n.tdiv 24)) (by omega : (0 : Int) < 17)
  have hw : IntKind.i64.wrap (IntKind.i64.wrap (n.tdiv 24) % 17 - 6) = IntKind.i64.wrap (n.tdiv 24) % 17 - 6 := wrapR ⟨by omega, by omega⟩
  by_cases h10 : n % 24 < 10
  · have hk : ∀ k : Nat, k < 10 → ∃ e, InR e ∧ [AV.int .i64 0, .int .i64 1, .int .i64 (-1), .int .i64 2, .int .i64 (-9223372036854775808), .int .i64 9223372036854775807, .int .i64 4294967296, .int .i64 (-2147483648), .int .i64 63, .int .i64 64][k]? = some (.int .i64 e) := by
      intro k hk
      match k, hk with
      | 0, _ | 1, _ | 2, _ | 3, _ | 4, _ | 5, _ | 6, _ | 7, _ | 8, _ | 9, _ => exact ⟨_, ⟨by omega, by omega⟩, rfl⟩
    obtain ⟨e, he, hk⟩ := hk (n % 24).toNat (by omega)
    refine ⟨e, fun _ => he, fun H => ?_⟩
    rw [go (fn := F38) rfl rfl rfl]
    simp [F38, hp, h10, h1, hk, -getElem?_pos]
  · by_cases h22 : n % 24 < 22
    · refine ⟨IntKind.i64.wrap (n.tdiv 24) % 17 - 6, fun _ => ⟨by omega, by omega⟩, fun H => ?_⟩
      rw [go (fn := F38) rfl rfl rfl]
      simp [F38, hp, h10, h22, hp2, hw]
    · refine ⟨v, id, fun H => ?_⟩
      rw [go (fn := F38) rfl rfl rfl]
      simp [F38, hp, h10, h22]
end Go.Proofs.YtghlghbpaeimjaaDoor
