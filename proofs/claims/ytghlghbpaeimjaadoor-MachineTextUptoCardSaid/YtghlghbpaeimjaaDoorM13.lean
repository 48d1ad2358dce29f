/- Parse of the reference, whole. -/
import Derived.Test.YtghlghbpaeimjaaDoorM12
namespace Go.Proofs.YtghlghbpaeimjaaDoor
open Go Go.Proofs Ab
set_option maxRecDepth 100000
set_option linter.unusedSimpArgs false
def padTo (ns : List Int) : List Int := ns ++ List.replicate (4 - ns.length) 0
theorem loop22c (s : List UInt8) (op : Int) (n0 : Nat) (H : Heap) (h0 : n0 = H.length) : ∀ (j : Nat) (ns : List Int) (c : Cap) (J : Heap) (st : Slots), 4 - ns.length = j → ns.length ≤ 2000000 → Own (H.length + 1) J 1 c ns.length →
    get st 0 = .str s → get st 2 = .ptr H.length 0 → get st 5 = .int .i64 op → get st 8 = .sl c (ints ns) →
    ∃ c' J', blkK (some [0, 2, 5, 8]) 4 (runF E2 n0 false c22_55 st (H ++ z5 :: J)) = some (.nrm, [(0, .str s), (2, .ptr H.length 0), (5, .int .i64 op), (8, .sl c' (ints (padTo ns)))], H ++ z5 :: J')
  | 0, ns, c, J, st, hj, hb, ho, g0, g2, g5, g8 => by
    have hn : ¬ ((ns.length : Int) < 4) := by omega
    refine ⟨c, J, ?_⟩
    rw [q22_55]
    have hp : padTo ns = ns := by unfold padTo; rw [hj]; simp
    rw [hp]
    simp [g0, g2, g5, g8, hn]
  | j + 1, ns, c, J, st, hj, hb, ho, g0, g2, g5, g8 => by
    have hlt : (ns.length : Int) < 4 := by omega
    obtain ⟨c1, J1, happ, hown⟩ := appC_own1 (n0 := n0) (g := false) (sz := 1) (H1 := H) (X := z5) (J := J) (xs := ints ns) (ys := [.int .i64 0]) (c := c) (by omega) (by simpa using ho)
    have e1 : ints ns ++ [.int .i64 0] = ints (ns ++ [0]) := (ints_append ns [0]).symm
    rw [e1] at happ hown
    have hr : 2 * ((ns.length + 1) * 8) ≤ 281474976694272 := by omega
    obtain ⟨c', J', ih⟩ := loop22c s op n0 H h0 j (ns ++ [0]) c1 J1 [(0, .str s), (2, .ptr H.length 0), (5, .int .i64 op), (8, .sl c1 (ints (ns ++ [0])))] (by simp; omega) (by simp; omega) (by simpa using hown) rfl rfl rfl rfl
    refine ⟨c', J', ?_⟩
    have hp : padTo (ns ++ [0]) = padTo ns := by
      unfold padTo
      rw [show 4 - ns.length = (4 - (ns ++ [0]).length) + 1 by simp; omega, List.replicate_succ]
      simp
    rw [hp] at ih
    rw [q22_55]
    simp [g0, g2, g5, g8, hlt, hr, happ, ih]
def pickF (op p q r : Int) : Int × Int × Int × Int :=
  if formR op = 2 then (p, 0, 0, 0) else if formR op = 3 then (p, q, 0, 0) else if formR op = 4 then (p, q, r, 0) else if formR op = 5 ∨ formR op = 6 then (p, 0, 0, q)
  else if formR op = 7 then (p, q, 0, r) else if formR op = 8 then (0, 0, 0, p) else (0, 0, 0, 0)
theorem fin22 (op : Int) (h1 : 1 ≤ op ∧ op ≤ 37) (s : List UInt8) (H J : Heap) (p q r w : Int) (rest : List Int) (c : Cap) (st : Slots)
    (g0 : get st 0 = .str s) (g2 : get st 2 = .ptr H.length 0) (g5 : get st 5 = .int .i64 op) (g8 : get st 8 = .sl c (ints (p :: q :: r :: w :: rest))) :
    finK F22 H.length (runF E2 H.length false c22_97 st (H ++ z5 :: J)) = some (resV op s (some (pickF op p q r)), H) := by
  have hf1 := (form_ok op).2 h1
  have hf2 := form_rng op
  have l0 : (ints (p :: q :: r :: w :: rest))[0]? = some (.int .i64 p) := rfl
  have hf : formR op = 1 ∨ formR op = 2 ∨ formR op = 3 ∨ formR op = 4 ∨ formR op = 5 ∨ formR op = 6 ∨ formR op = 7 ∨ formR op = 8 := by omega
  rcases hf with hf | hf | hf | hf | hf | hf | hf | hf
  · simp [F22, g0, g2, g5, g8, form34, hf, pickF, resV, noInstr, valid26, format20] <;> (split <;> rfl)
  · simp [F22, g0, g2, g5, g8, form34, hf, pickF, resV, noInstr, valid26, format20] <;> (split <;> rfl)
  · simp [F22, g0, g2, g5, g8, form34, hf, pickF, resV, noInstr, valid26, format20] <;> (split <;> rfl)
  · simp [F22, g0, g2, g5, g8, form34, hf, pickF, resV, noInstr, valid26, format20] <;> (split <;> rfl)
  · simp [F22, g0, g2, g5, g8, form34, hf, pickF, resV, noInstr, valid26, format20] <;> (split <;> rfl)
  · simp [F22, g0, g2, g5, g8, form34, hf, pickF, resV, noInstr, valid26, format20] <;> (split <;> rfl)
  · simp [F22, g0, g2, g5, g8, form34, hf, pickF, resV, noInstr, valid26, format20] <;> (split <;> rfl)
  · simp [F22, g0, g2, g5, g8, form34, hf, pickF, resV, noInstr, valid26, format20] <;> (split <;> rfl)
theorem loop22a (t : List UInt8) (a : AV) (ht : t.length < 4611686018427387904) (n0 : Nat) (h : Heap) : ∀ (r : List UInt8) (k : Nat) (st : Slots), t.drop k = r → k + r.length = t.length → get st 0 = .str t → get st 2 = a → get st 4 = .int .i64 k →
    blkK (some [0, 2, 4]) 0 (runF E2 n0 false c22_8 st h) = some (.nrm, [(0, .str t), (2, a), (4, .int .i64 (k + (r.takeWhile notSp).length))], h)
  | [], k, st, hd, hk, h0, h2, h4 => by
    have hn : ¬ ((k : Int) < t.length) := by simp at hk; omega
    rw [q22_8]
    simp [h0, h2, h4, hn]
  | c :: r, k, st, hd, hk, h0, h2, h4 => by
    simp only [List.length_cons] at hk
    have hlt : (k : Int) < t.length := by omega
    have hx : t[k]? = some c := by
      have := congrArg (fun l => l[0]?) hd
      simpa using this
    have hd' : t.drop (k + 1) = r := by
      have := congrArg List.tail hd
      simpa using this
    have hw : IntKind.i64.wrap ((k : Int) + 1) = (k : Int) + 1 := wrapR ⟨by omega, by omega⟩
    have e32 : ((c.toNat : Int) = 32) = (c = 32) := propext (u8_eq (c := c) (d := 32))
    have ih := loop22a t a ht n0 h r (k + 1) [(0, .str t), (2, a), (4, .int .i64 ((k + 1 : Nat) : Int))] hd' (by omega) rfl rfl rfl
    rw [show ((k + 1 : Nat) : Int) = (k : Int) + 1 by omega] at ih
    rw [q22_8]
    by_cases hc : c = 32
    · have hns : notSp c = false := by rw [hc]; rfl
      simp [h0, h2, h4, hlt, hx, e32, hc, -getElem?_pos]
      simp [notSp]
    · have hns : notSp c = true := by unfold notSp; simpa using hc
      simp [h0, h2, h4, hlt, hx, hw, e32, hc, ih, hns, -getElem?_pos]
      omega
def cand22 (op : Int) (l : List (List UInt8)) : Option (Int × Int × Int × Int) := match nums op l with
  | some ns => some (pickF op ((padTo ns).getD 0 0) ((padTo ns).getD 1 0) ((padTo ns).getD 2 0))
  | none => none
def res22 (s : List UInt8) : AV := match lookIx table 0 (nameP s) with
  | some m => resV (1 + (m : Int)) s (cand22 (1 + (m : Int)) (opsP s))
  | none => noInstr
theorem splitC_count : ∀ (n : Nat) (r cur : List UInt8), r.length ≤ n → (splitC cur r).length ≤ r.length + 1
  | n, [], cur, hn => by simp [splitC]
  | n, [c], cur, hn => by simp [splitC]
  | 0, c :: d :: r, cur, hn => by simp at hn
  | n + 1, c :: d :: r, cur, hn => by
    rw [splitC]
    simp only [List.length_cons] at hn ⊢
    split
    · have := splitC_count n r [] (by omega)
      simp
      omega
    · have := splitC_count n (d :: r) (cur ++ [c]) (by simp; omega)
      simp at this
      omega
theorem opsP_count (s : List UInt8) : (opsP s).length ≤ s.length + 1 := by
  unfold opsP
  split
  · simp
  · rename_i y r hd
    have h1 := splitC_count r.length r [] (Nat.le_refl _)
    have h2 := congrArg List.length (List.takeWhile_append_dropWhile (p := notSp) (l := s))
    rw [hd, List.length_append] at h2
    simp only [List.length_cons] at h2
    omega
theorem tail22z (s : List UInt8) (op : Int) (h1 : 1 ≤ op ∧ op ≤ 37) (hs : s.length ≤ 1900000) (H : Heap) (l : List (List UInt8)) (hl : ∀ x ∈ l, x.length < 4611686018427387904) (hll : l.length ≤ 2000000) (cl : Cap) (st : Slots)
    (g0 : get st 0 = .str s) (g2 : get st 2 = .ptr H.length 0) (g5 : get st 5 = .int .i64 op) (g7 : get st 7 = .sl cl (strs l)) : finK F22 H.length (runF E2 H.length false c22_100 st (H ++ [z5])) = some (resV op s (cand22 op l), H) := by
  have hb := loop22b s op (by omega) H.length H rfl l hl hll cl l 0 [] .full [] [(0, .str s), (2, .ptr H.length 0), (5, .int .i64 op), (7, .sl cl (strs l)), (8, .sl .full (ints [])), (9, .int .i64 (0 : Nat))] rfl (by simp) (by simp) own_full rfl rfl rfl rfl rfl rfl
  have e0 : (ints [] : List AV) = [] := rfl
  rw [e0] at hb
  simp only [Int.natCast_zero] at hb
  unfold cand22
  cases hn : nums op l with
  | none =>
    rw [hn] at hb
    obtain ⟨J', hb⟩ := hb
    simp [F22, g0, g2, g5, g7, hb, resV, noInstr]
  | some ns =>
    rw [hn] at hb
    obtain ⟨c', J', hb, hown⟩ := hb
    simp only [List.nil_append] at hb hown
    have hlen := nums_length hn
    obtain ⟨c2, J2, hc⟩ := loop22c s op H.length H rfl (4 - ns.length) ns c' J' [(0, .str s), (2, .ptr H.length 0), (5, .int .i64 op), (8, .sl c' (ints ns))] rfl (by omega) hown rfl rfl rfl rfl
    obtain ⟨p, q, r, w, rest, hpad⟩ : ∃ p q r w rest, padTo ns = p :: q :: r :: w :: rest := by
      have : 4 ≤ (padTo ns).length := by unfold padTo; simp; omega
      match hp : padTo ns, this with
      | p :: q :: r :: w :: rest, _ => exact ⟨p, q, r, w, rest, rfl⟩
      | [], h => simp at h
      | [_], h => simp at h
      | [_, _], h => simp at h
      | [_, _, _], h => simp at h
    rw [hpad] at hc
    simp only [hpad]
    have hf := fin22 op h1 s H J2 p q r w rest c2 [(0, .str s), (2, .ptr H.length 0), (5, .int .i64 op), (8, .sl c2 (ints (p :: q :: r :: w :: rest)))] rfl rfl rfl rfl
    simp only [List.getD_cons_zero, List.getD_cons_succ]
    rw [← hf]
    simp [g0, g2, g5, g7, hb, hc, -q22_97]
theorem parse22 (s : List UInt8) (hs : s.length ≤ 1900000) (H : Heap) : callF E2 22 [.str s] H = some (res22 s, H) := by
  rw [go (fn := F22) rfl rfl rfl]
  have hl := loop22a s (.ptr H.length 0) (by omega) H.length (H ++ [z5]) s 0 [(0, .str s), (2, .ptr H.length 0), (4, .int .i64 (0 : Nat))] rfl (by simp) rfl rfl rfl
  have hsp : s = nameP s ++ s.dropWhile notSp := (List.takeWhile_append_dropWhile).symm
  have hlen := congrArg List.length hsp
  rw [List.length_append] at hlen
  have h0 : (0 : Int) + ((s.takeWhile notSp).length : Int) = ((nameP s).length : Int) := by unfold nameP; omega
  simp only [Int.natCast_zero] at hl
  rw [h0] at hl
  have hle : ((nameP s).length : Int) ≤ s.length := by omega
  have htk : s.take (nameP s).length = nameP s := by
    have h := List.take_left (l₁ := nameP s) (l₂ := s.dropWhile notSp)
    rwa [← hsp] at h
  unfold res22
  cases hx : lookIx table 0 (nameP s) with
  | none =>
    have h17 : ∀ H, callF E2 17 [.str (nameP s)] H = some (.tup [.int .i64 0, .bool false], H) := fun H => by rw [c17_2', lookV, hx]
    simp [F22, hl, hle, htk, h17, noInstr]
  | some m =>
    have h17 : ∀ H, callF E2 17 [.str (nameP s)] H = some (.tup [.int .i64 (1 + (m : Int)), .bool true], H) := fun H => by rw [c17_2', lookV, hx]
    have hm := lookIx_lt _ _ _ _ hx
    rw [table_len] at hm
    have hops := fun x (hx : x ∈ opsP s) => opsP_mem hx
    have hcnt := opsP_count s
    cases hd : s.dropWhile notSp with
    | nil =>
      have he : ¬ ((nameP s).length : Int) < s.length := by rw [hd] at hlen; simp at hlen; omega
      have hop : opsP s = [] := by unfold opsP; rw [hd]
      have ht := tail22z s (1 + (m : Int)) (by omega) hs H (opsP s) (fun x hx => by have := hops x hx; omega) (by omega) .full [(0, .str s), (2, .ptr H.length 0), (4, .int .i64 ((nameP s).length : Int)), (5, .int .i64 (1 + (m : Int))), (7, .sl .full (strs (opsP s))), (39, .bool false)] rfl rfl rfl rfl
      have he2 : ¬ (nameP s).length < s.length := by omega
      rw [← ht, hop]
      have e0 : (strs [] : List AV) = [] := rfl
      simp [F22, hl, hle, htk, h17, he2, e0, -q22_100]
    | cons x r =>
      rw [hd] at hlen
      simp only [List.length_cons] at hlen
      have hne : (nameP s).length < s.length := by omega
      have hop : opsP s = splitC [] r := by unfold opsP; rw [hd]
      have hdr : s.drop ((nameP s).length + 1) = r := by
        have hs2 : s = nameP s ++ x :: r := by rw [← hd]; exact hsp
        have h : (nameP s ++ x :: r).drop ((nameP s).length + 1) = r := by
          rw [← List.drop_drop, List.drop_left]
          rfl
        rwa [← hs2] at h
      have hw : IntKind.i64.wrap (((nameP s).length : Int) + 1) = ((nameP s).length : Int) + 1 := wrapR ⟨by omega, by omega⟩
      have h40 := split40 r (by omega)
      rw [← hop] at h40
      have hle2 : ((nameP s).length : Int) + 1 ≤ s.length := by omega
      have hp : (0 : Int) ≤ ((nameP s).length : Int) + 1 := by omega
      have ht := tail22z s (1 + (m : Int)) (by omega) hs H (opsP s) (fun x hx => by have := hops x hx; omega) (by omega) .none [(0, .str s), (2, .ptr H.length 0), (5, .int .i64 (1 + (m : Int))), (7, .sl .none (strs (opsP s)))] rfl rfl rfl rfl
      rw [← ht]
      simp [F22, hl, hle, htk, h17, hne, hw, hle2, hp, hdr, h40, -q22_100]
end Go.Proofs.YtghlghbpaeimjaaDoor
