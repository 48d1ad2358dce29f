/- Parse of the reference: what it answers. -/
import Derived.Test.YtghlghbpaeimjaaDoorM11
namespace Go.Proofs.YtghlghbpaeimjaaDoor
open Go Go.Proofs Ab
set_option maxRecDepth 100000
set_option linter.unusedSimpArgs false
theorem appC_own1 {n0 : Nat} {g : Bool} {sz : Nat} {H1 J : Heap} {X : Ob} {xs ys : List AV} {c : Cap} (h0 : n0 ≤ H1.length) (ho : Own (H1.length + 1) J sz c xs.length) :
    ∃ c' J', appC n0 g (H1.length + (J.length + 1)) 0 sz (H1 ++ X :: (J ++ [Ob.dead])) xs ys c = some (.sl c' (xs ++ ys), H1 ++ X :: J') ∧ Own (H1.length + 1) J' sz c' (xs ++ ys).length := by
  obtain ⟨c', J', h1, h2⟩ := appC_own (n0 := n0) (g := g) (sz := sz) (H1 := H1 ++ [X]) (J := J) (xs := xs) (ys := ys) (c := c) (by simp; omega) (by rw [List.length_append]; exact ho)
  refine ⟨c', J', ?_, by rw [List.length_append] at h2; exact h2⟩
  rw [show (H1 ++ [X]).length + J.length = H1.length + (J.length + 1) by simp; omega, List.append_assoc, List.append_assoc] at h1
  exact h1
def unR (x : List UInt8) : List UInt8 := if 1 < x.length ∧ x.head? = some 114 then x.tail else x
theorem unR_len {x : List UInt8} {n : Nat} (h : x.length < n) : (unR x).length < n := by
  unfold unR
  split
  · rw [List.length_tail]; omega
  · exact h
def numZ (op : Int) (z : List UInt8) : Option Int := match parseW z with
  | some v => if op ≠ 14 ∧ (v < -4611686018427387904 ∨ 4611686018427387904 < v) then none else some v
  | none => none
def numR (op : Int) (x : List UInt8) : Option Int := numZ op (unR x)
def nums (op : Int) : List (List UInt8) → Option (List Int)
  | [] => some []
  | x :: r => match numR op x, nums op r with
    | some v, some vs => some (v :: vs)
    | _, _ => none
theorem nums_length {op : Int} : ∀ {l : List (List UInt8)} {ns : List Int}, nums op l = some ns → ns.length = l.length
  | [], ns, h => by cases h; rfl
  | x :: r, ns, h => by
    rw [nums] at h
    split at h
    · rename_i h2
      cases h
      simp [nums_length h2]
    · cases h
theorem tail22_no (z : List UInt8) (hz : z.length < 4611686018427387904) (op : Int) (hno : numZ op z = none) (n0 : Nat) (H : Heap) (J : Heap) (st : Slots) (s1 : AV) (l1 : AV) (a1 : AV) (k1 : AV)
    (g0 : get st 0 = s1) (g2 : get st 2 = .ptr H.length 0) (g5 : get st 5 = .int .i64 op) (g7 : get st 7 = l1) (g8 : get st 8 = a1) (g9 : get st 9 = k1) (g10 : get st 10 = .str z) :
    runF E2 n0 false c22_39 st (H ++ z5 :: J) = some (.ret, [(2, .ptr H.length 0), (3, .bool false)], H ++ z5 :: J) := by
  obtain ⟨v, hvR, hvw, h41⟩ := parseInt41 z hz
  unfold numZ at hno
  cases hp : parseW z with
  | none =>
    rw [hp] at h41
    simp [g0, g2, g5, g7, g8, g9, g10, h41]
  | some w =>
    rw [hp] at hno h41
    obtain rfl := hvw w hp
    simp only [ne_eq, ite_eq_left_iff, Classical.not_imp] at hno
    have hc : op ≠ 14 ∧ (v < -4611686018427387904 ∨ 4611686018427387904 < v) := by
      by_cases h : op ≠ 14 ∧ (v < -4611686018427387904 ∨ 4611686018427387904 < v)
      · exact h
      · exact absurd hno (by simp [h])
    obtain ⟨h14, h⟩ := hc
    by_cases h1 : v < -4611686018427387904
    · simp [g0, g2, g5, g7, g8, g9, g10, h41, h14, h1]
    · have h2 : 4611686018427387904 < v := by omega
      simp [g0, g2, g5, g7, g8, g9, g10, h41, h14, h1, h2]
theorem tail22_yes (z : List UInt8) (hz : z.length < 4611686018427387904) (op v : Int) (hyes : numZ op z = some v) (n0 : Nat) (H : Heap) (hn0 : n0 = H.length) (J : Heap) (st : Slots) (s1 : AV) (l1 : AV) (acc : List Int) (c : Cap) (k1 : AV) (hacc : acc.length ≤ 2000000) (ho : Own (H.length + 1) J 1 c acc.length)
    (g0 : get st 0 = s1) (g2 : get st 2 = .ptr H.length 0) (g5 : get st 5 = .int .i64 op) (g7 : get st 7 = l1) (g8 : get st 8 = .sl c (ints acc)) (g9 : get st 9 = k1) (g10 : get st 10 = .str z) :
    ∃ c' J', runF E2 n0 false c22_39 st (H ++ z5 :: J) = some (.nrm, [(0, s1), (2, .ptr H.length 0), (5, .int .i64 op), (7, l1), (8, .sl c' (ints (acc ++ [v]))), (9, k1)], H ++ z5 :: J') ∧ Own (H.length + 1) J' 1 c' (acc ++ [v]).length := by
  obtain ⟨v', hvR, hvw, h41⟩ := parseInt41 z hz
  unfold numZ at hyes
  cases hp : parseW z with
  | none => rw [hp] at hyes; cases hyes
  | some w =>
    rw [hp] at hyes h41
    obtain rfl := hvw w hp
    simp only at hyes
    by_cases h : op ≠ 14 ∧ (v' < -4611686018427387904 ∨ 4611686018427387904 < v')
    · rw [if_pos h] at hyes; cases hyes
    rw [if_neg h] at hyes
    cases hyes
    obtain ⟨c', J', happ, hown⟩ := appC_own1 (n0 := n0) (g := false) (sz := 1) (H1 := H) (X := z5) (J := J) (xs := ints acc) (ys := [.int .i64 v]) (c := c) (by omega) (by simpa using ho)
    have e1 : ints acc ++ [.int .i64 v] = ints (acc ++ [v]) := (ints_append acc [v]).symm
    rw [e1] at happ hown
    have hr : 2 * ((acc.length + 1) * 8) ≤ 281474976694272 := by omega
    refine ⟨c', J', ?_, by simpa using hown⟩
    by_cases h14 : op = 14
    · simp [g0, g2, g5, g7, g8, g9, g10, h41, h14, hr, happ]
    · have h1 : ¬ v < -4611686018427387904 := fun h' => h ⟨h14, .inl h'⟩
      have h2 : ¬ 4611686018427387904 < v := fun h' => h ⟨h14, .inr h'⟩
      simp [g0, g2, g5, g7, g8, g9, g10, h41, h14, h1, h2, hr, happ]
theorem loop22b (s : List UInt8) (op : Int) (hs : s.length ≤ 2000000) (n0 : Nat) (H : Heap) (h0 : n0 = H.length) (l : List (List UInt8)) (hl : ∀ x ∈ l, x.length < 4611686018427387904) (hll : l.length ≤ 2000000) (cl : Cap) : ∀ (r : List (List UInt8)) (k : Nat) (acc : List Int) (c : Cap) (J : Heap) (st : Slots), l.drop k = r → k + r.length = l.length → acc.length ≤ k → Own (H.length + 1) J 1 c acc.length →
    get st 0 = .str s → get st 2 = .ptr H.length 0 → get st 5 = .int .i64 op → get st 7 = .sl cl (strs l) → get st 8 = .sl c (ints acc) → get st 9 = .int .i64 k →
    match nums op r with
    | some ns => ∃ c' J', blkK (some [0, 2, 5, 8]) 2 (runF E2 n0 false c22_46 st (H ++ z5 :: J)) = some (.nrm, [(0, .str s), (2, .ptr H.length 0), (5, .int .i64 op), (8, .sl c' (ints (acc ++ ns)))], H ++ z5 :: J') ∧ Own (H.length + 1) J' 1 c' (acc ++ ns).length
    | none => ∃ J', blkK (some [0, 2, 5, 8]) 2 (runF E2 n0 false c22_46 st (H ++ z5 :: J)) = some (.ret, [(2, .ptr H.length 0), (3, .bool false)], H ++ z5 :: J')
  | [], k, acc, c, J, st, hd, hk, ha, ho, g0, g2, g5, g7, g8, g9 => by
    have hn : ¬ ((k : Int) < l.length) := by simp at hk; omega
    refine ⟨c, J, ?_, by simpa using ho⟩
    rw [q22_46]
    simp [g0, g2, g5, g7, g8, g9, hn]
  | x :: r, k, acc, c, J, st, hd, hk, ha, ho, g0, g2, g5, g7, g8, g9 => by
    simp only [List.length_cons] at hk
    have hlt : (k : Int) < l.length := by omega
    have hx : l[k]? = some x := by
      have := congrArg (fun l => l[0]?) hd
      simpa using this
    have hxl := hl x (List.mem_of_getElem? hx)
    have hd' : l.drop (k + 1) = r := by
      have := congrArg List.tail hd
      simpa using this
    have hw : IntKind.i64.wrap ((k : Int) + 1) = (k : Int) + 1 := wrapR ⟨by omega, by omega⟩
    have hul := unR_len hxl
    -- up to where the number is read
    have hgo : ∃ st1, get st1 0 = .str s ∧ get st1 2 = .ptr H.length 0 ∧ get st1 5 = .int .i64 op ∧ get st1 7 = .sl cl (strs l) ∧ get st1 8 = .sl c (ints acc) ∧ get st1 9 = .int .i64 k ∧ get st1 10 = .str (unR x) ∧
        ∀ h, runF E2 n0 false c22_45 (clearO (some [0, 2, 5, 7, 8, 9]) st) h = seqK E2 n0 false c22_43 (blkK (some [0, 2, 5, 7, 8, 9]) 3 (runF E2 n0 false c22_39 st1 h)) := by
      by_cases hu : 1 < x.length ∧ x.head? = some 114
      · refine ⟨[(0, .str s), (2, .ptr H.length 0), (5, .int .i64 op), (7, .sl cl (strs l)), (8, .sl c (ints acc)), (9, .int .i64 k), (10, .str (unR x))], rfl, rfl, rfl, rfl, rfl, rfl, rfl, fun h => ?_⟩
        match x, hu with
        | y :: t, hu =>
          have e114 : y = 114 := by simpa using hu.2
          have ht : (1 : Int) < (t.length : Int) + 1 := by have := hu.1; simp at this; omega
          have ht1 : (1 : Int) ≤ (t.length : Int) + 1 := by omega
          have hun : unR (y :: t) = t := by unfold unR; rw [if_pos hu]; rfl
          have h114 : ((y.toNat : Int) = 114) = True := by rw [e114]; simp
          have hx' : (strs l)[(k : Int).toNat]? = some (.str (y :: t)) := by simp [hx, -getElem?_pos]
          rw [hun]
          simp [g0, g2, g5, g7, g8, g9, hlt, hx, ht, ht1, h114, -q22_39, -getElem?_pos, List.getElem?_cons_zero]
      · refine ⟨[(0, .str s), (2, .ptr H.length 0), (5, .int .i64 op), (7, .sl cl (strs l)), (8, .sl c (ints acc)), (9, .int .i64 k), (10, .str (unR x)), (62, .bool false)], rfl, rfl, rfl, rfl, rfl, rfl, rfl, fun h => ?_⟩
        have hun : unR x = x := by unfold unR; rw [if_neg hu]
        rw [hun]
        match x, hu with
        | [], hu => simp [g0, g2, g5, g7, g8, g9, hlt, hx, -q22_39, -getElem?_pos, List.getElem?_cons_zero]
        | [y], hu => simp [g0, g2, g5, g7, g8, g9, hlt, hx, -q22_39, -getElem?_pos, List.getElem?_cons_zero]
        | y :: z :: t, hu =>
          have e114 : ¬ y = 114 := by simpa using hu
          have ht : (1 : Int) < (t.length : Int) + 1 + 1 := by omega
          have h114 : ((y.toNat : Int) = 114) = False := by
            rw [show ((y.toNat : Int) = 114) = (y = 114) from propext (u8_eq (c := y) (d := 114))]
            simpa using e114
          simp [g0, g2, g5, g7, g8, g9, hlt, hx, ht, h114, -q22_39, -getElem?_pos, List.getElem?_cons_zero]
    obtain ⟨st1, f0, f2, f5, f7, f8, f9, f10, hgo⟩ := hgo
    rw [nums]
    cases hz : numR op x with
    | none =>
      refine ⟨J, ?_⟩
      rw [q22_46, hgo, tail22_no (unR x) hul op hz n0 H J st1 _ _ _ _ f0 f2 f5 f7 f8 f9 f10]
      simp
    | some v =>
      obtain ⟨c1, J1, ht, hown⟩ := tail22_yes (unR x) hul op v hz n0 H h0 J st1 _ _ acc c _ (by omega) ho f0 f2 f5 f7 f8 f9 f10
      have ih := loop22b s op hs n0 H h0 l hl hll cl r (k + 1) (acc ++ [v]) c1 J1 [(0, .str s), (2, .ptr H.length 0), (5, .int .i64 op), (7, .sl cl (strs l)), (8, .sl c1 (ints (acc ++ [v]))), (9, .int .i64 ((k + 1 : Nat) : Int))] hd' (by omega) (by simp; omega) hown rfl rfl rfl rfl rfl rfl
      rw [show ((k + 1 : Nat) : Int) = (k : Int) + 1 by omega] at ih
      have hstep : blkK (some [0, 2, 5, 8]) 2 (runF E2 n0 false c22_46 st (H ++ z5 :: J)) = blkK (some [0, 2, 5, 8]) 2 (runF E2 n0 false c22_46 [(0, .str s), (2, .ptr H.length 0), (5, .int .i64 op), (7, .sl cl (strs l)), (8, .sl c1 (ints (acc ++ [v]))), (9, .int .i64 ((k : Int) + 1))] (H ++ z5 :: J1)) := by
        conv => lhs; rw [q22_46, hgo, ht]
        simp [hw]
      cases hns : nums op r with
      | none =>
        rw [hns] at ih
        obtain ⟨J', ih⟩ := ih
        exact ⟨J', by rw [hstep]; exact ih⟩
      | some ns =>
        rw [hns] at ih
        obtain ⟨c', J', ih, ho'⟩ := ih
        refine ⟨c', J', ?_, ?_⟩
        · rw [hstep, ih]
          simp
        · simpa using ho'
end Go.Proofs.YtghlghbpaeimjaaDoor
