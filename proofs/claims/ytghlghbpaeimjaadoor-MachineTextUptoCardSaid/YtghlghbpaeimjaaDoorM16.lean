/- The run of MachineText. -/
import Derived.Test.YtghlghbpaeimjaaDoorM15
namespace Go.Proofs.YtghlghbpaeimjaaDoor
open Go Go.Proofs Ab
set_option maxRecDepth 100000
set_option linter.unusedSimpArgs false
theorem iter5 (op a b c m : Int) (k : Nat) (xs : List AV) (hx : xs[k]? = some (instrV op a b c m)) (s : Slots) (h33 : get s 33 = .sl .full xs) (h34 : get s 34 = .int .i64 3) (h35 : get s 35 = .int .i64 k) (hk3 : (k : Int) < 3) (n0 : Nat) (h : Heap) :
    runF E2 n0 false c5_15 s h = some (.nrm, [(1, get s 1), (2, get s 2), (3, get s 3), (4, get s 4), (5, get s 5), (33, .sl .full xs), (34, .int .i64 3), (35, .int .i64 ((k : Int) + 1))], h ++ [ri op a b c m]) := by
  have hw : IntKind.i64.wrap ((k : Int) + 1) = (k : Int) + 1 := wrapR ⟨by omega, by omega⟩
  simp [h33, h34, h35, hk3, hx, hw, format11, format20, -getElem?_pos, List.getElem?_cons_zero, List.getElem?_cons_succ]
theorem loop5 (xs : List AV) (hall : ∀ k, k < 3 → ∃ op a b c m, xs[k]? = some (instrV op a b c m)) (n0 : Nat) : ∀ (j k : Nat) (s : Slots) (h : Heap), k + j = 3 → get s 33 = .sl .full xs → get s 34 = .int .i64 3 → get s 35 = .int .i64 k →
    ∃ h', blkK (some [1, 2, 3, 4, 5]) 0 (runF E2 n0 false c5_16 s h) = some (.nrm, [(1, get s 1), (2, get s 2), (3, get s 3), (4, get s 4), (5, get s 5)], h')
  | 0, k, s, h, hk, h33, h34, h35 => by
    have hk3 : k = 3 := by omega
    subst hk3
    refine ⟨h, ?_⟩
    rw [q5_16]
    simp [h33, h34, h35]
  | j + 1, k, s, h, hk, h33, h34, h35 => by
    obtain ⟨op, a, b, c, m, hx⟩ := hall k (by omega)
    have hi := iter5 op a b c m k xs hx (clearO (some [1, 2, 3, 4, 5, 33, 34, 35]) s) (by simp [h33]) (by simp [h34]) (by simp [h35]) (by omega) n0 h
    obtain ⟨h', ih⟩ := loop5 xs hall n0 j (k + 1) [(1, get s 1), (2, get s 2), (3, get s 3), (4, get s 4), (5, get s 5), (33, .sl .full xs), (34, .int .i64 3), (35, .int .i64 ((k + 1 : Nat) : Int))] (h ++ [ri op a b c m]) (by omega) rfl rfl rfl
    refine ⟨h', ?_⟩
    rw [q5_16, hi]
    simp at ih
    simp [ih]
theorem res10_shape (s : List UInt8) : ∃ op a b c n ok, res10 s = .tup [instrV op a b c n, .bool ok] := by
  rcases res10_or s with h | ⟨op, a, b, c, n, hv, hs⟩
  · exact ⟨_, _, _, _, _, _, h⟩
  · rw [← hs, res10_fmt hv]; exact ⟨_, _, _, _, _, _, rfl⟩
theorem loop5b (l : List (List UInt8)) (hl : l.length = 3) (hall : ∀ x ∈ l, x.length ≤ 1900000) (n0 : Nat) : ∀ (j k : Nat) (s : Slots) (h : Heap), k + j = 3 → get s 76 = .sl .full (strs l) → get s 77 = .int .i64 3 → get s 78 = .int .i64 k →
    ∃ h', blkK (some []) 2 (runF E2 n0 false c5_42 s h) = some (.nrm, [], h')
  | 0, k, s, h, hk, h33, h34, h35 => by
    have hk3 : k = 3 := by omega
    subst hk3
    refine ⟨h, ?_⟩
    rw [q5_42]
    simp [h33, h34, h35]
  | j + 1, k, s, h, hk, h33, h34, h35 => by
    obtain ⟨x, hx⟩ : ∃ x, l[k]? = some x := ⟨l[k]'(by omega), List.getElem?_eq_getElem (by omega)⟩
    have hxl := hall x (List.mem_of_getElem? hx)
    have hk3 : (k : Int) < 3 := by omega
    have hw : IntKind.i64.wrap ((k : Int) + 1) = (k : Int) + 1 := wrapR ⟨by omega, by omega⟩
    have hp := parse10 x (by omega)
    have hq := parse22 x hxl
    rw [← res_eq] at hq
    obtain ⟨op, a, b, c, n, ok, hr⟩ := res10_shape x
    rw [hr] at hp hq
    obtain ⟨h', ih⟩ := loop5b l hl hall n0 j (k + 1) [(76, .sl .full (strs l)), (77, .int .i64 3), (78, .int .i64 ((k + 1 : Nat) : Int))] (h ++ [ri op a b c n, ri op a b c n]) (by omega) rfl rfl rfl
    refine ⟨h', ?_⟩
    rw [q5_42]
    rw [show ((k + 1 : Nat) : Int) = (k : Int) + 1 by omega] at ih
    simp [h33, h34, h35, hk3, hx, hw, hp, hq, eqLs5, -eqLs, ih, -getElem?_pos, List.getElem?_cons_zero, List.getElem?_cons_succ]
theorem text_run (op a b c m n how by' : Int) (s : List UInt8) (at' : Int) (hn : InR n) (hs : s.length ≤ 1900000) : callF E2 5 [instrV op a b c m, .int .i64 n, .int .i64 how, .int .i64 by', .str s, .int .i64 at'] [] = some (.bool true, []) := by
  obtain ⟨o1, a1, b1, c1, m1, hv1, h18⟩ := instr18 n hn
  obtain ⟨o2, a2, b2, c2, m2, h19⟩ := mut19 o1 a1 b1 c1 m1 how by'
  obtain ⟨t, ht⟩ : ∃ t, t = fmtV o1 a1 b1 c1 m1 := ⟨_, rfl⟩
  have hf20 := format20 o1 a1 b1 c1 m1
  have htl := fmtV_length o1 a1 b1 c1 m1
  rw [← ht] at hf20 htl
  have hw1 : IntKind.i64.wrap ((t.length : Int) + 1) = (t.length : Int) + 1 := wrapR ⟨by omega, by omega⟩
  have hp1 := pick21 at' ((t.length : Int) + 1) (by omega) (by omega)
  have hp2 := pick21 by' 8 (by omega) (by omega)
  have hp3 := pick21 how 3 (by omega) (by omega)
  have hk0 := Int.emod_nonneg at' (by omega : (t.length : Int) + 1 ≠ 0)
  have hk1 := Int.emod_lt_of_pos at' (by omega : (0 : Int) < (t.length : Int) + 1)
  obtain ⟨k, hk⟩ : ∃ k : Nat, at' % ((t.length : Int) + 1) = k := ⟨(at' % ((t.length : Int) + 1)).toNat, by omega⟩
  rw [hk] at hp1 hk0 hk1
  have hj0 := Int.emod_nonneg how (by omega : (3 : Int) ≠ 0)
  have hj1 := Int.emod_lt_of_pos how (by omega : (0 : Int) < 3)
  obtain ⟨e, he, hel⟩ : ∃ e : List UInt8, [AV.str [32], .str [44], .str [114], .str [48], .str [45], .str [56], .str [120], .str []][(by' % 8).toNat]? = some (.str e) ∧ e.length ≤ 1 := by
    have h0 := Int.emod_nonneg by' (by omega : (8 : Int) ≠ 0)
    have h1 := Int.emod_lt_of_pos by' (by omega : (0 : Int) < 8)
    have hk : ∀ k : Nat, k < 8 → ∃ e : List UInt8, [AV.str [32], .str [44], .str [114], .str [48], .str [45], .str [56], .str [120], .str []][k]? = some (.str e) ∧ e.length ≤ 1 := by
      intro k hk
      match k, hk with
      | 0, _ | 1, _ | 2, _ | 3, _ | 4, _ | 5, _ | 6, _ | 7, _ => exact ⟨_, rfl, by simp⟩
    exact hk _ (by omega)
  have h8 := Int.emod_nonneg by' (by omega : (8 : Int) ≠ 0)
  obtain ⟨j, hj⟩ : ∃ j : Nat, (if (k : Int) + how % 3 < t.length then (k : Int) + how % 3 else t.length) = j := ⟨(if (k : Int) + how % 3 < t.length then (k : Int) + how % 3 else t.length).toNat, by split <;> omega⟩
  have hjt : (j : Int) ≤ t.length := by rw [← hj]; split <;> omega
  have hw2 : IntKind.i64.wrap ((k : Int) + how % 3) = (k : Int) + how % 3 := wrapR ⟨by omega, by omega⟩
  obtain ⟨u, hu⟩ : ∃ u, u = t.take k ++ (e ++ t.drop j) := ⟨_, rfl⟩
  have hul : u.length ≤ 1900000 := by rw [hu]; simp; omega
  obtain ⟨h1, hl1⟩ := loop5 [instrV op a b c m, instrV o1 a1 b1 c1 m1, instrV o2 a2 b2 c2 m2] (by
    intro k hk
    match k, hk with
    | 0, _ => exact ⟨_, _, _, _, _, rfl⟩
    | 1, _ => exact ⟨_, _, _, _, _, rfl⟩
    | 2, _ => exact ⟨_, _, _, _, _, rfl⟩) 0 3 0 [(1, .int .i64 n), (2, .int .i64 how), (3, .int .i64 by'), (4, .str s), (5, .int .i64 at'), (33, .sl .full [instrV op a b c m, instrV o1 a1 b1 c1 m1, instrV o2 a2 b2 c2 m2]), (34, .int .i64 3), (35, .int .i64 (0 : Nat))] [ri op a b c m] rfl rfl rfl rfl
  obtain ⟨h2, hl2⟩ := loop5b [s, t, u] rfl (by
    intro x hx
    simp at hx
    rcases hx with h | h | h <;> rw [h] <;> omega) 0 3 0 [(76, .sl .full (strs [s, t, u])), (77, .int .i64 3), (78, .int .i64 (0 : Nat))] h1 rfl rfl rfl rfl
  have es : strs [s, t, u] = [.str s, .str t, .str u] := rfl
  rw [es] at hl2
  have hkt : (k : Int) ≤ t.length := by omega
  simp at hl1 hl2
  rw [go (fn := F5) rfl rfl rfl]
  simp [F5, h18, h19, hl1, hf20, hw1, hp1, hp2, hp3, hw2, he, h8, hkt, hj, c3_2', -getElem?_pos, List.getElem?_cons_zero, List.getElem?_cons_succ]
  refine ⟨by omega, ?_⟩
  rw [← hu, hl2]
  simp [c3_2']
end Go.Proofs.YtghlghbpaeimjaaDoor
