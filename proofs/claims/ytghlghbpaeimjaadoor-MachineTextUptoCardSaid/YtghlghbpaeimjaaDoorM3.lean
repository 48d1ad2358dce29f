/- SameInts, Insert, Reads and Writes, of the program and of the reference. -/
import Derived.Test.YtghlghbpaeimjaaDoorM2
namespace Go.Proofs.YtghlghbpaeimjaaDoor
open Go Go.Proofs Ab
set_option maxRecDepth 100000
set_option linter.unusedSimpArgs false
def ints (l : List Int) : List AV := l.map (AV.int .i64)
@[simp] theorem ints_length (l : List Int) : (ints l).length = l.length := by simp [ints]
@[simp] theorem ints_get (l : List Int) (k : Nat) : (ints l)[k]? = (l[k]?).map (AV.int .i64) := by simp [ints]
@[simp] theorem ints_size (l : List Int) : sizeOk 1 (ints l) = true := sizeOk_all (by simp [ints])
@[simp] theorem ints_take (l : List Int) (k : Nat) : (ints l).take k = ints (l.take k) := by simp [ints]
@[simp] theorem ints_drop (l : List Int) (k : Nat) : (ints l).drop k = ints (l.drop k) := by simp [ints]
@[simp] theorem ints_getElem (l : List Int) (k : Nat) (h : k < (ints l).length) : (ints l)[k] = .int .i64 (l[k]'(by simpa using h)) := by simp [ints]
theorem ints_append (a b : List Int) : ints (a ++ b) = ints a ++ ints b := by simp [ints]
theorem ints_cons (a : Int) (b : List Int) : ints (a :: b) = .int .i64 a :: ints b := rfl
theorem loop12 (c d : Cap) (a b : List Int) (hl : a.length = b.length) (hb : a.length < 4611686018427387904) (n0 : Nat) (h : Heap) : ∀ (j k : Nat), k + j = a.length →
    blkK (some []) 0 (runF E2 n0 false c12_19 [(0, .sl c (ints a)), (1, .sl d (ints b)), (5, .int .i64 k)] h) = if a.drop k = b.drop k then some (.nrm, [], h) else some (.ret, [(4, .bool false)], h)
  | 0, k, hk => by
    rw [q12_19]
    have e1 : a.drop k = [] := List.drop_eq_nil_of_le (by omega)
    have e2 : b.drop k = [] := List.drop_eq_nil_of_le (by omega)
    have hn : ¬ ((k : Int) < a.length) := by omega
    simp [hn, e1, e2]
  | j + 1, k, hk => by
    have hka : k < a.length := by omega
    have hkb : k < b.length := by omega
    have ha : a[k]? = some a[k] := List.getElem?_eq_getElem hka
    have hb' : b[k]? = some b[k] := List.getElem?_eq_getElem hkb
    have hlt : (k : Int) < a.length := by omega
    have hw : IntKind.i64.wrap ((k : Int) + 1) = (k : Int) + 1 := wrapR ⟨by omega, by omega⟩
    have ih := loop12 c d a b hl hb n0 h j (k + 1) (by omega)
    rw [q12_19]
    have hd : (a.drop k = b.drop k) ↔ (a[k] = b[k] ∧ a.drop (k + 1) = b.drop (k + 1)) := by
      rw [List.drop_eq_getElem_cons hka, List.drop_eq_getElem_cons hkb, List.cons.injEq]
    simp at ih
    simp [hlt, ha, hb', hw, ih]
    by_cases he : a[k] = b[k]
    · simp [he, hd]
    · simp [he, hd]
theorem same12 (c d : Cap) (a b : List Int) (ha : a.length < 4611686018427387904) (H : Heap) : callF E2 12 [.sl c (ints a), .sl d (ints b)] H = some (.bool (decide (a = b)), H) := by
  rw [go (fn := F12) rfl rfl rfl]
  by_cases hl : a.length = b.length
  · have hlp := loop12 c d a b hl ha H.length H a.length 0 (by omega)
    simp at hlp
    simp [F12, hl, hlp]
    by_cases he : a = b
    · simp [he]
    · simp [he]
  · have he : a ≠ b := fun h => hl (by rw [h])
    have hl' : ¬ ((a.length : Int) = b.length) := by omega
    simp [F12, hl', he]
/-- insertion into an ascending list without duplicates -/
def insL (l : List Int) (n : Int) : List Int := l.takeWhile (· < n) ++ match l.dropWhile (· < n) with | [] => [n] | x :: r => if x = n then x :: r else n :: x :: r
theorem loop45 (c : Cap) (l : List Int) (n : Int) (hb : l.length < 4611686018427387904) (n0 : Nat) (h : Heap) : ∀ (r : List Int) (k : Nat), l.drop k = r → k + r.length = l.length →
    blkK (some [0, 1, 5]) 0 (runF E2 n0 false c45_8 [(0, .sl c (ints l)), (1, .int .i64 n), (5, .int .i64 k)] h) = some (.nrm, [(0, .sl c (ints l)), (1, .int .i64 n), (5, .int .i64 (k + (r.takeWhile (· < n)).length))], h)
  | [], k, hd, hk => by
    have hn : ¬ ((k : Int) < l.length) := by simp at hk; omega
    rw [q45_8]
    simp [hn]
  | x :: r, k, hd, hk => by
    simp only [List.length_cons] at hk
    have hlt : (k : Int) < l.length := by omega
    have hx : l[k]? = some x := by
      have := congrArg (fun l => l[0]?) hd
      simpa using this
    have hd' : l.drop (k + 1) = r := by
      have := congrArg List.tail hd
      simpa using this
    have hw : IntKind.i64.wrap ((k : Int) + 1) = (k : Int) + 1 := wrapR ⟨by omega, by omega⟩
    have ih := loop45 c l n hb n0 h r (k + 1) hd' (by omega)
    simp at ih
    rw [q45_8]
    by_cases hxn : x < n
    · simp [hlt, hx, hxn, hw, ih]
      omega
    · simp [hlt, hx, hxn]
theorem ins45 (c : Cap) (l : List Int) (n : Int) (hb : l.length < 1000) (H : Heap) : callF E2 45 [.sl c (ints l), .int .i64 n] H = some (.sl .none (ints (insL l n)), H) := by
  rw [go (fn := F45) rfl rfl rfl]
  have hl := loop45 c l n (by omega) H.length H l 0 rfl (by simp)
  obtain ⟨p, hp⟩ : ∃ p, p = l.takeWhile (· < n) := ⟨_, rfl⟩
  obtain ⟨q, hq⟩ : ∃ q, q = l.dropWhile (· < n) := ⟨_, rfl⟩
  have hpq : l = p ++ q := by rw [hp, hq, List.takeWhile_append_dropWhile]
  rw [← hp] at hl
  unfold insL
  rw [← hp, ← hq]
  clear hp hq
  subst hpq
  have hz : ((0 : Nat) : Int) + p.length = p.length := by omega
  rw [hz] at hl
  simp at hl hb
  cases q with
  | nil =>
    have hs : 2 * (p.length * 8) ≤ 281474976694272 := by omega
    have hs2 : 2 * ((p.length + 1) * 8) ≤ 281474976694272 := by omega
    simp only [List.append_nil] at hl hb
    simp [F45, hl, hs, hs2, ints_append, ints_cons]
    try rfl
  | cons x r =>
    have h1 : (p.length : Int) < p.length + (r.length + 1) := by omega
    have h2 : (p.length : Int) ≤ p.length + (r.length + 1) := by omega
    simp only [List.length_cons] at hb
    have hs : 2 * (p.length * 8) ≤ 281474976694272 := by omega
    have hs2 : 2 * ((p.length + 1) * 8) ≤ 281474976694272 := by omega
    have hs3 : 2 * ((p.length + (r.length + 1 + 1)) * 8) ≤ 281474976694272 := by omega
    have hs4 : 2 * ((p.length + 1 + (r.length + 1)) * 8) ≤ 281474976694272 := by omega
    by_cases hxn : x = n
    · subst hxn
      simp [F45, hl, h1, h2, hs, hs2, hs3]
    · simp [F45, hl, h1, h2, hs, hs2, hs3, hs4, hxn]
      rw [List.take_of_length_le (by simp)]
      simp [ints_append, ints_cons]
def flags (p : Nat → Bool) : List AV := (List.range 8).map fun k => AV.bool (p k)
@[simp] theorem flags_length (p : Nat → Bool) : (flags p).length = 8 := by simp [flags]
theorem flags_set (p : Nat → Bool) (a : Nat) (ha : a < 8) : (flags p).take a ++ .bool true :: (flags p).drop (a + 1) = flags fun k => p k || k == a := by
  match a, ha with
  | 0, _ | 1, _ | 2, _ | 3, _ | 4, _ | 5, _ | 6, _ | 7, _ => simp [flags, List.range, List.range.loop]
theorem flags_init : ([.bool false, .bool false, .bool false, .bool false, .bool false, .bool false, .bool false, .bool false] : List AV) = flags fun _ => false := rfl
theorem flags_isLf (p : Nat → Bool) : (flags p).all isLf = true := by simp [flags]
/-- which of the numbers 0 to 7 -/
def sel (p : Nat → Bool) (k : Nat) : List Int := ((List.range' k (8 - k)).filter p).map Int.ofNat
theorem sel_step (p : Nat → Bool) {k : Nat} (h : k < 8) : sel p k = (if p k then [(k : Int)] else []) ++ sel p (k + 1) := by
  unfold sel
  have : 8 - k = (8 - (k + 1)) + 1 := by omega
  rw [this, List.range'_succ]
  cases hp : p k <;> simp [List.filter_cons, hp]
theorem flags_ix (p : Nat → Bool) {k : Nat} (h : k < 8) : (flags p)[k]? = some (.bool (p k)) := by
  simp [flags, h]
theorem collect13 (p : Nat → Bool) (n0 : Nat) (H : Heap) (h0 : n0 ≤ H.length) : ∀ (j k : Nat) (s : Slots) (J : Heap) (c : Cap) (xs : List Int), k + j = 8 → Own H.length J 1 c xs.length → xs.length ≤ k → get s 7 = .sl c (ints xs) → get s 50 = .agg (flags p) → get s 51 = .int .i64 k →
    ∃ c' J', blkK (some [7]) 3 (runF E2 n0 false c13_60 s (H ++ J)) = some (.nrm, [(7, .sl c' (ints (xs ++ sel p k)))], H ++ J')
  | 0, k, s, J, c, xs, hk, ho, hx, h7, h50, h51 => by
    have hk8 : k = 8 := by omega
    subst hk8
    refine ⟨c, J, ?_⟩
    rw [q13_60]
    simp [h7, h50, h51, sel]
  | j + 1, k, s, J, c, xs, hk, ho, hx, h7, h50, h51 => by
    have h8 : (k : Int) < 8 := by omega
    have hw : IntKind.i64.wrap ((k : Int) + 1) = (k : Int) + 1 := wrapR ⟨by omega, by omega⟩
    have hf : ((flags p).drop k).take 1 = [.bool (p k)] := by
      have := flags_ix p (k := k) (by omega)
      rw [List.drop_eq_getElem_cons (by simp; omega)]
      rw [List.getElem?_eq_getElem (by simp; omega)] at this
      rw [Option.some.inj this]
      rfl
    rw [q13_60, sel_step p (by omega)]
    cases hp : p k with
    | false =>
      obtain ⟨c', J', ih⟩ := collect13 p n0 H h0 j (k + 1) [(7, .sl c (ints xs)), (50, .agg (flags p)), (51, .int .i64 ((k + 1 : Nat) : Int))] J c xs (by omega) ho (by omega) rfl rfl rfl
      refine ⟨c', J', ?_⟩
      simp at ih
      rw [hp] at hf
      simp [h7, h50, h51, h8, hf, hw, ih]
    | true =>
      obtain ⟨c1, J1, ha, hown⟩ := appC_own (g := false) (sz := 1) (H1 := H) (xs := ints xs) (ys := [.int .i64 k]) h0 (by simpa using ho)
      obtain ⟨c', J', ih⟩ := collect13 p n0 H h0 j (k + 1) [(7, .sl c1 (ints (xs ++ [(k : Int)]))), (50, .agg (flags p)), (51, .int .i64 ((k + 1 : Nat) : Int))] J1 c1 (xs ++ [(k : Int)]) (by omega) (by simpa using hown) (by simp; omega) rfl rfl rfl
      refine ⟨c', J', ?_⟩
      simp at ih
      rw [hp] at hf
      have hr : 2 * ((xs.length + 1) * 8) ≤ 281474976694272 := by omega
      have e : ints xs ++ [.int .i64 (k : Int)] = ints (xs ++ [(k : Int)]) := (ints_append xs [(k : Int)]).symm
      rw [e] at ha
      simp [h7, h50, h51, h8, hf, hw, hr, ha, ih]
abbrev ri (op a b c n : Int) : Ob := .cells [.int .i64 op, .int .i64 a, .int .i64 b, .int .i64 c, .int .i64 n]
abbrev rf (nm : List UInt8) (f : Int) (ra wa rb mt : Bool) (w : Int) : Ob := .cells [.str nm, .int .i64 f, .bool ra, .bool wa, .bool rb, .bool mt, .int .i64 w]
theorem tail13d (p : Nat → Bool) (I F : Ob) (H : Heap) (s : Slots) (h5 : get s 5 = .ptr (H.length + 2) 0) : ∃ c' J', runF E2 H.length false c13_66 s (H ++ [I, F, .cells (flags p)]) = some (.ret, [(2, .sl c' (ints (sel p 0)))], H ++ J') := by
  obtain ⟨c', J', hc⟩ := collect13 p H.length H (Nat.le_refl _) 8 0 [(7, .sl .full []), (50, .agg (flags p)), (51, .int .i64 (0 : Nat))] [I, F, .cells (flags p)] .full [] rfl own_full (by simp) rfl rfl rfl
  refine ⟨c', J', ?_⟩
  simp at hc
  have hf : (flags p).take 8 = flags p := List.take_of_length_le (by simp)
  simp [h5, hf, hc]
theorem flags_congr {p q : Nat → Bool} (h : ∀ k, k < 8 → p k = q k) : flags p = flags q := by
  unfold flags
  apply List.map_congr_left
  intro k hk
  rw [h k (by simpa using hk)]
theorem sel_congr {p q : Nat → Bool} (h : ∀ k, k < 8 → p k = q k) : sel p 0 = sel q 0 := by
  unfold sel
  congr 1
  apply List.filter_congr
  intro k hk
  exact h k (by simp at hk; omega)
theorem loop13 (op a b c n : Int) (F : Ob) (ha : a < 8) (H : Heap) : ∀ (j k : Nat) (p : Nat → Bool) (s : Slots), (k : Int) + j = a → get s 1 = .ptr H.length 0 → get s 5 = .ptr (H.length + 2) 0 → get s 6 = .int .i64 k →
    blkK (some [5]) 1 (runF E2 H.length false c13_32 s (H ++ [ri op a b c n, F, .cells (flags p)])) = some (.nrm, [(5, .ptr (H.length + 2) 0)], H ++ [ri op a b c n, F, .cells (flags fun i => p i || decide (k ≤ i ∧ (i : Int) < a))])
  | 0, k, p, s, hk, h1, h5, h6 => by
    have hlt : ¬ (k : Int) < a := by omega
    rw [q13_32]
    simp [h1, h5, h6, hlt]
    apply flags_congr
    intro i hi
    have : ¬ (k ≤ i ∧ (i : Int) < a) := by omega
    cases p i <;> simp <;> omega
  | j + 1, k, p, s, hk, h1, h5, h6 => by
    have hlt : (k : Int) < a := by omega
    have h2 : (k : Int) < 8 := by omega
    have h3 : k + 1 ≤ 8 := by omega
    have hw : IntKind.i64.wrap ((k : Int) + 1) = (k : Int) + 1 := wrapR ⟨by omega, by omega⟩
    have ih := loop13 op a b c n F ha H j (k + 1) (fun i => p i || i == k) [(1, .ptr H.length 0), (5, .ptr (H.length + 2) 0), (6, .int .i64 ((k + 1 : Nat) : Int))] (by omega) rfl rfl rfl
    rw [q13_32]
    simp at ih
    simp [h1, h5, h6, hlt, h2, h3, hw, flags_set p k (by omega), ih]
    apply flags_congr
    intro i hi
    rw [Bool.eq_iff_iff]
    cases p i <;> simp <;> omega
theorem tail13c (op a b c n : Int) (F : Ob) (p : Nat → Bool) (ha : 0 ≤ a ∧ a < 8) (hc : 0 ≤ c ∧ c < 8) (H : Heap) (s : Slots) (h1 : get s 1 = .ptr H.length 0) (h5 : get s 5 = .ptr (H.length + 2) 0) :
    ∃ c' J', runF E2 H.length false c13_67 s (H ++ [ri op a b c n, F, .cells (flags p)]) = some (.ret, [(2, .sl c' (ints (sel (fun k => p k || ((op == 11 || op == 12) && (k : Int) == c) || (op == 6 && (k : Int) < a) || (op == 2 && k == 0)) 0)))], H ++ J') := by
  have hc1 : c.toNat + 1 ≤ 8 := by omega
  have hf := flags_set p c.toNat (by omega)
  have h0 := flags_set p 0 (by omega)
  simp at h0
  by_cases o1 : op = 11 ∨ op = 12
  · obtain ⟨c', J', ht⟩ := tail13d (fun k => p k || k == c.toNat) (ri op a b c n) F H [(5, .ptr (H.length + 2) 0)] rfl
    refine ⟨c', J', ?_⟩
    simp [h1, h5, hc, hc1, hf, ht, o1]
    apply congrArg
    apply sel_congr
    intro k hk
    rw [Bool.eq_iff_iff]
    cases p k <;> simp <;> omega
  · by_cases o2 : op = 6
    · have hl := loop13 op a b c n F (by omega) H a.toNat 0 p [(1, .ptr H.length 0), (5, .ptr (H.length + 2) 0), (6, .int .i64 (0 : Nat))] (by omega) rfl rfl rfl
      simp at hl
      obtain ⟨c', J', ht⟩ := tail13d (fun i => p i || decide ((i : Int) < a)) (ri op a b c n) F H [(5, .ptr (H.length + 2) 0)] rfl
      refine ⟨c', J', ?_⟩
      subst o2
      simp [h1, h5, hl, ht]
    · by_cases o3 : op = 2
      · obtain ⟨c', J', ht⟩ := tail13d (fun k => p k || k == 0) (ri op a b c n) F H [(5, .ptr (H.length + 2) 0)] rfl
        refine ⟨c', J', ?_⟩
        subst o3
        simp [h1, h5, h0, ht]
      · obtain ⟨c', J', ht⟩ := tail13d p (ri op a b c n) F H [(5, .ptr (H.length + 2) 0)] rfl
        refine ⟨c', J', ?_⟩
        have o1' : ¬ op = 11 := fun h => o1 (.inl h)
        have o1'' : ¬ op = 12 := fun h => o1 (.inr h)
        simp [h1, h5, ht, o1', o1'', o2, o3]
        apply congrArg
        apply sel_congr
        intro k hk
        have e1 : (op == 11) = false := beq_eq_false_iff_ne.2 o1'
        have e2 : (op == 12) = false := beq_eq_false_iff_ne.2 o1''
        have e3 : (op == 6) = false := beq_eq_false_iff_ne.2 o2
        have e4 : (op == 2) = false := beq_eq_false_iff_ne.2 o3
        simp [e1, e2, e3, e4]
theorem tail13b (op a b c n : Int) (nm : List UInt8) (f : Int) (ra wa rb mt : Bool) (w : Int) (p : Nat → Bool) (ha : 0 ≤ a ∧ a < 8) (hb : 0 ≤ b ∧ b < 8) (hc : 0 ≤ c ∧ c < 8) (H : Heap) (s : Slots) (h1 : get s 1 = .ptr H.length 0) (h3 : get s 3 = .ptr (H.length + 1) 0) (h5 : get s 5 = .ptr (H.length + 2) 0) :
    ∃ c' J', runF E2 H.length false c13_68 s (H ++ [ri op a b c n, rf nm f ra wa rb mt w, .cells (flags p)]) = some (.ret, [(2, .sl c' (ints (sel (fun k => p k || (rb && (k : Int) == b) || ((op == 11 || op == 12) && (k : Int) == c) || (op == 6 && (k : Int) < a) || (op == 2 && k == 0)) 0)))], H ++ J') := by
  have hb1 : b.toNat + 1 ≤ 8 := by omega
  have hf := flags_set p b.toNat (by omega)
  cases rb with
  | false =>
    obtain ⟨c', J', ht⟩ := tail13c op a b c n (rf nm f ra wa false mt w) p ha hc H [(1, .ptr H.length 0), (5, .ptr (H.length + 2) 0), (25, .bool false)] rfl rfl
    refine ⟨c', J', ?_⟩
    simp [h1, h3, h5, ht]
  | true =>
    obtain ⟨c', J', ht⟩ := tail13c op a b c n (rf nm f ra wa true mt w) (fun k => p k || k == b.toNat) ha hc H [(1, .ptr H.length 0), (5, .ptr (H.length + 2) 0)] rfl rfl
    refine ⟨c', J', ?_⟩
    simp [h1, h3, h5, hb, hb1, hf, ht]
    apply congrArg
    apply sel_congr
    intro k hk
    have e : (k == b.toNat) = ((k : Int) == b) := by rw [Bool.eq_iff_iff]; simp; omega
    rw [e]
theorem tail13a (op a b c n : Int) (nm : List UInt8) (f : Int) (ra wa rb mt : Bool) (w : Int) (ha : 0 ≤ a ∧ a < 8) (hb : 0 ≤ b ∧ b < 8) (hc : 0 ≤ c ∧ c < 8) (H : Heap) (s : Slots) (h1 : get s 1 = .ptr H.length 0) (h3 : get s 3 = .ptr (H.length + 1) 0) (h5 : get s 5 = .ptr (H.length + 2) 0) :
    ∃ c' J', runF E2 H.length false c13_69 s (H ++ [ri op a b c n, rf nm f ra wa rb mt w, .cells (flags fun _ => false)]) = some (.ret, [(2, .sl c' (ints (sel (fun k => (ra && (k : Int) == a) || (rb && (k : Int) == b) || ((op == 11 || op == 12) && (k : Int) == c) || (op == 6 && (k : Int) < a) || (op == 2 && k == 0)) 0)))], H ++ J') := by
  have ha1 : a.toNat + 1 ≤ 8 := by omega
  have hf := flags_set (fun _ => false) a.toNat (by omega)
  cases ra with
  | false =>
    obtain ⟨c', J', ht⟩ := tail13b op a b c n nm f false wa rb mt w (fun _ => false) ha hb hc H [(1, .ptr H.length 0), (3, .ptr (H.length + 1) 0), (5, .ptr (H.length + 2) 0), (20, .bool false)] rfl rfl rfl
    refine ⟨c', J', ?_⟩
    simp at ht
    simp [h1, h3, h5, ht]
  | true =>
    obtain ⟨c', J', ht⟩ := tail13b op a b c n nm f true wa rb mt w (fun k => false || k == a.toNat) ha hb hc H [(1, .ptr H.length 0), (3, .ptr (H.length + 1) 0), (5, .ptr (H.length + 2) 0)] rfl rfl rfl
    refine ⟨c', J', ?_⟩
    simp at ht hf
    simp [h1, h3, h5, ha, ha1, hf, ht]
    apply congrArg
    apply sel_congr
    intro k hk
    have e : (k == a.toNat) = ((k : Int) == a) := by rw [Bool.eq_iff_iff]; simp; omega
    rw [e]
/-- the registers that an instruction reads -/
def readsL (op a b c : Int) : List Int := sel (fun k => (iRA op && (k : Int) == a) || (iRB op && (k : Int) == b) || ((op == 11 || op == 12) && (k : Int) == c) || (op == 6 && (k : Int) < a) || (op == 2 && k == 0)) 0
theorem reads13 (op a b c n : Int) (H : Heap) : callF E2 13 [instrV op a b c n] H = some (.sl .none (ints (if validP op a b c n then readsL op a b c else [])), H) := by
  rw [go (fn := F13) rfl rfl rfl]
  by_cases hv : validP op a b c n
  · obtain ⟨c', J', ht⟩ := tail13a op a b c n (iName op) (formR op) (iRA op) (iWA op) (iRB op) (iMT op) (iWords op) (by unfold validP at hv; omega) (by unfold validP at hv; omega) (by unfold validP at hv; omega) H [(1, .ptr H.length 0), (3, .ptr (H.length + 1) 0), (5, .ptr (H.length + 2) 0)] rfl rfl rfl
    rw [← flags_init] at ht
    simp at ht
    simp [F13, valid23, hv, info9', ht, readsL]
  · simp [F13, valid23, hv]
    rfl
end Go.Proofs.YtghlghbpaeimjaaDoor
