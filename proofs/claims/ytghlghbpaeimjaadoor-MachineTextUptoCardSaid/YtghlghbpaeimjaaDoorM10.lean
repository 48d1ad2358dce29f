/- Assembly text taken apart: split, of the program and of the reference. -/
import Derived.Test.YtghlghbpaeimjaaDoorM9
namespace Go.Proofs.YtghlghbpaeimjaaDoor
open Go Go.Proofs Ab
set_option maxRecDepth 100000
set_option linter.unusedSimpArgs false
def strs (l : List (List UInt8)) : List AV := l.map AV.str
@[simp] theorem strs_length (l : List (List UInt8)) : (strs l).length = l.length := by simp [strs]
@[simp] theorem strs_get (l : List (List UInt8)) (k : Nat) : (strs l)[k]? = (l[k]?).map AV.str := by simp [strs]
@[simp] theorem strs_getElem (l : List (List UInt8)) (k : Nat) (h : k < (strs l).length) : (strs l)[k] = .str (l[k]'(by simpa using h)) := by simp [strs]
@[simp] theorem strs_size (l : List (List UInt8)) : sizeOk 1 (strs l) = true := sizeOk_all (by simp [strs])
@[simp] theorem strs_take (l : List (List UInt8)) (k : Nat) : (strs l).take k = strs (l.take k) := by simp [strs]
@[simp] theorem strs_drop (l : List (List UInt8)) (k : Nat) : (strs l).drop k = strs (l.drop k) := by simp [strs]
theorem strs_append (a b : List (List UInt8)) : strs (a ++ b) = strs a ++ strs b := by simp [strs]
theorem strs_cons (a : List UInt8) (b : List (List UInt8)) : strs (a :: b) = .str a :: strs b := rfl
/-- a text split at each comma that a blank follows -/
def splitC : List UInt8 → List UInt8 → List (List UInt8)
  | cur, [] => [cur]
  | cur, [c] => [cur ++ [c]]
  | cur, c :: d :: r => if c = 44 ∧ d = 32 then cur :: splitC [] r else splitC (cur ++ [c]) (d :: r)
theorem loop29 (t : List UInt8) (nm : AV) (ht : t.length ≤ 2000000) (n0 : Nat) (H : Heap) (h0 : n0 ≤ H.length) : ∀ (n : Nat) (rest : List UInt8) (i f : Nat) (acc : List (List UInt8)) (c : Cap) (J : Heap) (st : Slots), rest.length ≤ n → t.drop i = rest → i + rest.length = t.length → f ≤ i → acc.length ≤ i → Own H.length J 1 c acc.length →
    get st 0 = .str t → get st 5 = nm → get st 6 = .sl c (strs acc) → get st 7 = .int .i64 f → get st 8 = .int .i64 i →
    ∃ c' J' acc' f', blkK (some [0, 5, 6, 7]) 2 (runF E2 n0 false c29_34 st (H ++ J)) = some (.nrm, [(0, .str t), (5, nm), (6, .sl c' (strs acc')), (7, .int .i64 (f' : Nat))], H ++ J') ∧ acc' ++ [t.drop f'] = acc ++ splitC ((t.take i).drop f) rest ∧ f' ≤ t.length ∧ acc'.length ≤ t.length ∧ Own H.length J' 1 c' acc'.length
  | n, rest, i, f, acc, c, J, st, hn, hd, hl, hf, ha, ho, h0', h5, h6, h7, h8 => by
    have hstop : rest.length ≤ 1 → ¬ ((i : Int) + 1 < t.length) := fun h => by omega
    have hw : IntKind.i64.wrap ((i : Int) + 1) = (i : Int) + 1 := wrapR ⟨by omega, by omega⟩
    have hcur : rest.length ≤ 1 → splitC ((t.take i).drop f) rest = [t.drop f] := by
      intro h
      have e : t.drop f = (t.take i).drop f ++ rest := by
        rw [← hd]
        conv => lhs; rw [← List.take_append_drop i t]
        rw [List.drop_append_of_le_length (by simp; omega)]
      match rest, h with
      | [], _ => rw [splitC, e, List.append_nil]
      | [x], _ => rw [splitC, e]
    match rest, hn, hd, hl, hstop, hcur with
    | [], hn, hd, hl, hstop, hcur =>
      refine ⟨c, J, acc, f, ?_, by rw [hcur (by simp)], by omega, by omega, ho⟩
      rw [q29_34]
      simp [h0', h5, h6, h7, h8, hw, hstop (by simp)]
    | [x], hn, hd, hl, hstop, hcur =>
      refine ⟨c, J, acc, f, ?_, by rw [hcur (by simp)], by simp at hl; omega, by simp at hl; omega, ho⟩
      rw [q29_34]
      simp [h0', h5, h6, h7, h8, hw, hstop (by simp)]
    | x :: y :: r, hn, hd, hl, _, _ =>
      simp only [List.length_cons] at hn hl
      obtain ⟨m, rfl⟩ : ∃ m, n = m + 1 := ⟨n - 1, by omega⟩
      have hlt : (i : Int) + 1 < t.length := by omega
      have hx : t[i]? = some x := by
        have := congrArg (fun l => l[0]?) hd
        simpa using this
      have hy : t[i + 1]? = some y := by
        have := congrArg (fun l => l[1]?) hd
        simpa using this
      have hyi : t[((i : Int) + 1).toNat]? = some y := by rw [show ((i : Int) + 1).toNat = i + 1 by omega]; exact hy
      have hp : (0 : Int) ≤ (i : Int) + 1 := by omega
      have hd1 : t.drop (i + 1) = y :: r := by
        have := congrArg List.tail hd
        simpa using this
      have hd2 : t.drop (i + 2) = r := by
        have := congrArg List.tail hd1
        simpa using this
      have ex : ((x.toNat : Int) = 44) = (x = 44) := propext (u8_eq (c := x) (d := 44))
      have ey : ((y.toNat : Int) = 32) = (y = 32) := propext (u8_eq (c := y) (d := 32))
      have hw2 : IntKind.i64.wrap ((i : Int) + 2) = (i : Int) + 2 := wrapR ⟨by omega, by omega⟩
      have hw3 : IntKind.i64.wrap ((i : Int) + 1 + 1) = (i : Int) + 1 + 1 := wrapR ⟨by omega, by omega⟩
      have htk : (t.take (i + 1)).drop f = (t.take i).drop f ++ [x] := by
        rw [List.take_add_one, hx, List.drop_append_of_le_length (by simp; omega)]
        rfl
      by_cases hm : x = 44 ∧ y = 32
      · obtain ⟨rfl, rfl⟩ := hm
        obtain ⟨c1, J1, happ, hown⟩ := appC_own (g := false) (sz := 1) (H1 := H) (xs := strs acc) (ys := [.str ((t.take i).drop f)]) h0 (by simpa using ho)
        have eacc : strs acc ++ [.str ((t.take i).drop f)] = strs (acc ++ [(t.take i).drop f]) := (strs_append acc [(t.take i).drop f]).symm
        rw [eacc] at happ hown
        have hit : (i : Int) ≤ t.length := by omega
        have hfi : (f : Int) ≤ i := by omega
        have hr : 2 * ((acc.length + 1) * 16) ≤ 281474976677888 := by omega
        obtain ⟨c', J', acc', f', hrun, hacc, hf', hal, ho'⟩ := loop29 t nm ht n0 H h0 m r (i + 2) (i + 2) (acc ++ [(t.take i).drop f]) c1 J1 [(0, .str t), (5, nm), (6, .sl c1 (strs (acc ++ [(t.take i).drop f]))), (7, .int .i64 ((i + 2 : Nat) : Int)), (8, .int .i64 ((i + 2 : Nat) : Int))] (by omega) hd2 (by omega) (by omega) (by simp; omega) (by simpa using hown) rfl rfl rfl rfl rfl
        refine ⟨c', J', acc', f', ?_, ?_, hf', hal, ho'⟩
        · rw [show ((i + 2 : Nat) : Int) = (i : Int) + 2 by omega] at hrun
          rw [show ((i : Int) + 1 + 1) = (i : Int) + 2 by omega] at hw3
          rw [q29_34]
          simp [h0', h5, h6, h7, h8, hw, hw2, hw3, hlt, hx, hy, hp, ex, ey, hit, hfi, hr, happ, hrun, -getElem?_pos, Int.add_assoc]
        · rw [hacc, splitC, if_pos ⟨rfl, rfl⟩]
          have : (t.take (i + 2)).drop (i + 2) = [] := List.drop_eq_nil_of_le (by simp; omega)
          rw [this]
          simp
      · obtain ⟨c', J', acc', f', hrun, hacc, hf', hal, ho'⟩ := loop29 t nm ht n0 H h0 m (y :: r) (i + 1) f acc c J [(0, .str t), (5, nm), (6, .sl c (strs acc)), (7, .int .i64 f), (8, .int .i64 ((i + 1 : Nat) : Int))] (by simp; omega) hd1 (by simp; omega) (by omega) (by omega) ho rfl rfl rfl rfl rfl
        refine ⟨c', J', acc', f', ?_, ?_, hf', hal, ho'⟩
        · rw [show ((i + 1 : Nat) : Int) = (i : Int) + 1 by omega] at hrun
          rw [q29_34]
          by_cases hx44 : x = 44
          · have hy32 : ¬ y = 32 := fun h => hm ⟨hx44, h⟩
            simp [h0', h5, h6, h7, h8, hw, hlt, hx, hy, hp, ex, ey, hx44, hy32, hrun, -getElem?_pos]
          · simp [h0', h5, h6, h7, h8, hw, hlt, hx, hy, hp, ex, ey, hx44, hrun, -getElem?_pos]
        · rw [hacc, splitC, if_neg hm, htk]
def notSp (c : UInt8) : Bool := c != 32
theorem loop29a (t : List UInt8) (ht : t.length < 4611686018427387904) (n0 : Nat) (h : Heap) : ∀ (r : List UInt8) (k : Nat) (st : Slots), t.drop k = r → k + r.length = t.length → get st 0 = .str t → get st 4 = .int .i64 k →
    blkK (some [0, 4]) 0 (runF E2 n0 false c29_8 st h) = some (.nrm, [(0, .str t), (4, .int .i64 (k + (r.takeWhile notSp).length))], h)
  | [], k, st, hd, hk, h0, h4 => by
    have hn : ¬ ((k : Int) < t.length) := by simp at hk; omega
    rw [q29_8]
    simp [h0, h4, hn]
  | c :: r, k, st, hd, hk, h0, h4 => by
    simp only [List.length_cons] at hk
    have hlt : (k : Int) < t.length := by omega
    have hx : t[k]? = some c := by
      have := congrArg (fun l => l[0]?) hd
      simpa using this
    have hd' : t.drop (k + 1) = r := by
      have := congrArg List.tail hd
      simpa using this
    have hw : IntKind.i64.wrap ((k : Int) + 1) = (k : Int) + 1 := wrapR ⟨by omega, by omega⟩
    have e32 : ((c.toNat : Int) = 32) = (c = 32) := propext (u8_eq (c := c) (d := 32))
    have ih := loop29a t ht n0 h r (k + 1) [(0, .str t), (4, .int .i64 ((k + 1 : Nat) : Int))] hd' (by omega) rfl rfl
    rw [show ((k + 1 : Nat) : Int) = (k : Int) + 1 by omega] at ih
    rw [q29_8]
    by_cases hc : c = 32
    · have hns : notSp c = false := by rw [hc]; rfl
      simp [h0, h4, hlt, hx, e32, hc, -getElem?_pos]
      simp [notSp]
    · have hns : notSp c = true := by unfold notSp; simpa using hc
      simp [h0, h4, hlt, hx, hw, e32, hc, ih, hns, -getElem?_pos]
      omega
def nameP (s : List UInt8) : List UInt8 := s.takeWhile notSp
def opsP (s : List UInt8) : List (List UInt8) := match s.dropWhile notSp with | [] => [] | _ :: r => splitC [] r
theorem split29 (s : List UInt8) (hs : s.length ≤ 2000000) (H : Heap) : callF E2 29 [.str s] H = some (.tup [.str (nameP s), .sl .none (strs (opsP s))], H) := by
  rw [go (fn := F29) rfl rfl rfl]
  have hl := loop29a s (by omega) H.length H s 0 [(0, .str s), (4, .int .i64 (0 : Nat))] rfl (by simp) rfl rfl
  have hsp : s = nameP s ++ s.dropWhile notSp := (List.takeWhile_append_dropWhile).symm
  have hlen := congrArg List.length hsp
  rw [List.length_append] at hlen
  have h0 : (0 : Int) + ((s.takeWhile notSp).length : Int) = ((nameP s).length : Int) := by unfold nameP; omega
  simp only [Int.natCast_zero] at hl
  rw [h0] at hl
  have hle : ((nameP s).length : Int) ≤ s.length := by omega
  have htk : s.take (nameP s).length = nameP s := by
    have h := List.take_left (l₁ := nameP s) (l₂ := s.dropWhile notSp)
    rwa [← hsp] at h
  cases hd : s.dropWhile notSp with
  | nil =>
    have he : ((nameP s).length : Int) = s.length := by rw [hd] at hlen; simp at hlen; omega
    have hop : opsP s = [] := by unfold opsP; rw [hd]
    rw [hop]
    simp [F29, hl, hle, htk, he]
    have he' : (nameP s).length = s.length := by omega
    rw [he'] at htk
    simp at htk
    exact ⟨htk, rfl⟩
  | cons x r =>
    rw [hd] at hlen
    simp only [List.length_cons] at hlen
    have hne : ¬ ((nameP s).length : Int) = s.length := by omega
    have hop : opsP s = splitC [] r := by unfold opsP; rw [hd]
    have hdr : s.drop ((nameP s).length + 1) = r := by
      have hs2 : s = nameP s ++ x :: r := by rw [← hd]; exact hsp
      have h : (nameP s ++ x :: r).drop ((nameP s).length + 1) = r := by
        rw [← List.drop_drop, List.drop_left]
        rfl
      rwa [← hs2] at h
    have hw : IntKind.i64.wrap (((nameP s).length : Int) + 1) = ((nameP s).length : Int) + 1 := wrapR ⟨by omega, by omega⟩
    obtain ⟨c', J', acc', f', hrun, hacc, hf', hal, ho'⟩ := loop29 s (.str (nameP s)) hs H.length H (Nat.le_refl _) r.length r ((nameP s).length + 1) ((nameP s).length + 1) [] .full [] [(0, .str s), (5, .str (nameP s)), (6, .sl .full (strs [])), (7, .int .i64 (((nameP s).length + 1 : Nat) : Int)), (8, .int .i64 (((nameP s).length + 1 : Nat) : Int))] (Nat.le_refl _) hdr (by omega) (Nat.le_refl _) (by simp) own_full rfl rfl rfl rfl rfl
    have hz : (s.take ((nameP s).length + 1)).drop ((nameP s).length + 1) = [] := List.drop_eq_nil_of_le (by simp; omega)
    rw [hz] at hacc
    rw [show (((nameP s).length + 1 : Nat) : Int) = ((nameP s).length : Int) + 1 by omega, List.append_nil] at hrun
    obtain ⟨c2, J2, happ, hown⟩ := appC_own (g := false) (sz := 1) (H1 := H) (xs := strs acc') (ys := [.str (s.drop f')]) (Nat.le_refl _) (by simpa using ho')
    have hff : (f' : Int) ≤ s.length := by omega
    have hr : 2 * ((acc'.length + 1) * 16) ≤ 281474976677888 := by omega
    have e0 : (strs [] : List AV) = [] := rfl
    rw [e0] at hrun
    simp [F29, hl, hle, htk, hne, hw, hrun, hff, hr, happ]
    rw [hop]
    have e1 : strs acc' ++ [.str (s.drop f')] = strs (acc' ++ [s.drop f']) := (strs_append acc' [s.drop f']).symm
    rw [e1, hacc]
    rfl
theorem loop40 (t : List UInt8) (ht : t.length ≤ 2000000) (n0 : Nat) (H : Heap) (h0 : n0 ≤ H.length) : ∀ (n : Nat) (rest : List UInt8) (i f : Nat) (acc : List (List UInt8)) (c : Cap) (J : Heap) (st : Slots), rest.length ≤ n → t.drop i = rest → i + rest.length = t.length → f ≤ i → acc.length ≤ i → Own H.length J 1 c acc.length →
    get st 0 = .str t → get st 3 = .sl c (strs acc) → get st 4 = .int .i64 f → get st 5 = .int .i64 i →
    ∃ c' J' acc' f', blkK (some [0, 3, 4]) 0 (runF E2 n0 false c40_17 st (H ++ J)) = some (.nrm, [(0, .str t), (3, .sl c' (strs acc')), (4, .int .i64 (f' : Nat))], H ++ J') ∧ acc' ++ [t.drop f'] = acc ++ splitC ((t.take i).drop f) rest ∧ f' ≤ t.length ∧ acc'.length ≤ t.length ∧ Own H.length J' 1 c' acc'.length
  | n, rest, i, f, acc, c, J, st, hn, hd, hl, hf, ha, ho, h0', h6, h7, h8 => by
    have hstop : rest.length ≤ 1 → ¬ ((i : Int) + 1 < t.length) := fun h => by omega
    have hw : IntKind.i64.wrap ((i : Int) + 1) = (i : Int) + 1 := wrapR ⟨by omega, by omega⟩
    have hcur : rest.length ≤ 1 → splitC ((t.take i).drop f) rest = [t.drop f] := by
      intro h
      have e : t.drop f = (t.take i).drop f ++ rest := by
        rw [← hd]
        conv => lhs; rw [← List.take_append_drop i t]
        rw [List.drop_append_of_le_length (by simp; omega)]
      match rest, h with
      | [], _ => rw [splitC, e, List.append_nil]
      | [x], _ => rw [splitC, e]
    match rest, hn, hd, hl, hstop, hcur with
    | [], hn, hd, hl, hstop, hcur =>
      refine ⟨c, J, acc, f, ?_, by rw [hcur (by simp)], by omega, by omega, ho⟩
      rw [q40_17]
      simp [h0', h6, h7, h8, hw, hstop (by simp)]
    | [x], hn, hd, hl, hstop, hcur =>
      refine ⟨c, J, acc, f, ?_, by rw [hcur (by simp)], by simp at hl; omega, by simp at hl; omega, ho⟩
      rw [q40_17]
      simp [h0', h6, h7, h8, hw, hstop (by simp)]
    | x :: y :: r, hn, hd, hl, _, _ =>
      simp only [List.length_cons] at hn hl
      obtain ⟨m, rfl⟩ : ∃ m, n = m + 1 := ⟨n - 1, by omega⟩
      have hlt : (i : Int) + 1 < t.length := by omega
      have hx : t[i]? = some x := by
        have := congrArg (fun l => l[0]?) hd
        simpa using this
      have hy : t[i + 1]? = some y := by
        have := congrArg (fun l => l[1]?) hd
        simpa using this
      have hyi : t[((i : Int) + 1).toNat]? = some y := by rw [show ((i : Int) + 1).toNat = i + 1 by omega]; exact hy
      have hp : (0 : Int) ≤ (i : Int) + 1 := by omega
      have hd1 : t.drop (i + 1) = y :: r := by
        have := congrArg List.tail hd
        simpa using this
      have hd2 : t.drop (i + 2) = r := by
        have := congrArg List.tail hd1
        simpa using this
      have ex : ((x.toNat : Int) = 44) = (x = 44) := propext (u8_eq (c := x) (d := 44))
      have ey : ((y.toNat : Int) = 32) = (y = 32) := propext (u8_eq (c := y) (d := 32))
      have hw2 : IntKind.i64.wrap ((i : Int) + 2) = (i : Int) + 2 := wrapR ⟨by omega, by omega⟩
      have hw3 : IntKind.i64.wrap ((i : Int) + 1 + 1) = (i : Int) + 1 + 1 := wrapR ⟨by omega, by omega⟩
      have htk : (t.take (i + 1)).drop f = (t.take i).drop f ++ [x] := by
        rw [List.take_add_one, hx, List.drop_append_of_le_length (by simp; omega)]
        rfl
      by_cases hm : x = 44 ∧ y = 32
      · obtain ⟨rfl, rfl⟩ := hm
        obtain ⟨c1, J1, happ, hown⟩ := appC_own (g := false) (sz := 1) (H1 := H) (xs := strs acc) (ys := [.str ((t.take i).drop f)]) h0 (by simpa using ho)
        have eacc : strs acc ++ [.str ((t.take i).drop f)] = strs (acc ++ [(t.take i).drop f]) := (strs_append acc [(t.take i).drop f]).symm
        rw [eacc] at happ hown
        have hit : (i : Int) ≤ t.length := by omega
        have hfi : (f : Int) ≤ i := by omega
        have hr : 2 * ((acc.length + 1) * 16) ≤ 281474976677888 := by omega
        obtain ⟨c', J', acc', f', hrun, hacc, hf', hal, ho'⟩ := loop40 t ht n0 H h0 m r (i + 2) (i + 2) (acc ++ [(t.take i).drop f]) c1 J1 [(0, .str t), (3, .sl c1 (strs (acc ++ [(t.take i).drop f]))), (4, .int .i64 ((i + 2 : Nat) : Int)), (5, .int .i64 ((i + 2 : Nat) : Int))] (by omega) hd2 (by omega) (by omega) (by simp; omega) (by simpa using hown) rfl rfl rfl rfl
        have fin : acc ++ [(t.take i).drop f] ++ splitC ((t.take (i + 2)).drop (i + 2)) r = acc ++ splitC ((t.take i).drop f) (44 :: 32 :: r) := by
          rw [splitC, if_pos ⟨rfl, rfl⟩]
          have : (t.take (i + 2)).drop (i + 2) = [] := List.drop_eq_nil_of_le (by simp; omega)
          rw [this]
          simp
        rw [show ((i + 2 : Nat) : Int) = (i : Int) + 2 by omega] at hrun
        rw [show ((i : Int) + 1 + 1) = (i : Int) + 2 by omega] at hw3
        by_cases hr0 : r = []
        · subst hr0
          have hlast : ¬ ((i : Int) + 2 < t.length) := by simp at hl; omega
          refine ⟨c1, J1, acc ++ [(t.take i).drop f], i + 2, ?_, ?_, by simp at hl; omega, by simp; simp at hl; omega, by simpa using hown⟩
          · rw [q40_17]
            simp [h0', h6, h7, h8, hw, hw2, hw3, hlt, hx, hy, hp, ex, ey, hit, hfi, hr, happ, -getElem?_pos, Int.add_assoc]
            rw [q40_17]
            simp [hw, hw2, hw3, hlast, Int.add_assoc]
          · rw [← fin, hd2]
            have : (t.take (i + 2)).drop (i + 2) = [] := List.drop_eq_nil_of_le (by simp; omega)
            rw [this]
            simp [splitC]
        · have hlen2 : 0 < r.length := List.length_pos_iff.2 hr0
          have hlt2 : (i : Int) + 2 < t.length := by omega
          refine ⟨c', J', acc', f', ?_, ?_, hf', hal, ho'⟩
          · rw [q40_17]
            simp [h0', h6, h7, h8, hw, hw2, hw3, hlt, hx, hy, hp, ex, ey, hit, hfi, hr, happ, -getElem?_pos, Int.add_assoc]
            rw [q40_17]
            simp [hw, hw2, hw3, hlt2, hy, hrun, hp, Int.add_assoc, -getElem?_pos]
          · rw [hacc, fin]
      · obtain ⟨c', J', acc', f', hrun, hacc, hf', hal, ho'⟩ := loop40 t ht n0 H h0 m (y :: r) (i + 1) f acc c J [(0, .str t), (3, .sl c (strs acc)), (4, .int .i64 f), (5, .int .i64 ((i + 1 : Nat) : Int))] (by simp; omega) hd1 (by simp; omega) (by omega) (by omega) ho rfl rfl rfl rfl
        refine ⟨c', J', acc', f', ?_, ?_, hf', hal, ho'⟩
        · rw [show ((i + 1 : Nat) : Int) = (i : Int) + 1 by omega] at hrun
          rw [q40_17]
          by_cases hx44 : x = 44
          · have hy32 : ¬ y = 32 := fun h => hm ⟨hx44, h⟩
            simp [h0', h6, h7, h8, hw, hlt, hx, hy, hp, ex, ey, hx44, hy32, hrun, -getElem?_pos]
          · simp [h0', h6, h7, h8, hw, hlt, hx, hy, hp, ex, ey, hx44, hrun, -getElem?_pos]
        · rw [hacc, splitC, if_neg hm, htk]
theorem split40 (s : List UInt8) (hs : s.length ≤ 2000000) (H : Heap) : callF E2 40 [.str s] H = some (.sl .none (strs (splitC [] s)), H) := by
  rw [go (fn := F40) rfl rfl rfl]
  obtain ⟨c', J', acc', f', hrun, hacc, hf', hal, ho'⟩ := loop40 s hs H.length H (Nat.le_refl _) s.length s 0 0 [] .full [] [(0, .str s), (3, .sl .full (strs [])), (4, .int .i64 ((0 : Nat) : Int)), (5, .int .i64 ((0 : Nat) : Int))] (Nat.le_refl _) rfl (by simp) (Nat.le_refl _) (by simp) own_full rfl rfl rfl rfl
  rw [List.append_nil] at hrun
  have hz : (s.take 0).drop 0 = [] := rfl
  rw [hz] at hacc
  obtain ⟨c2, J2, happ, hown⟩ := appC_own (g := false) (sz := 1) (H1 := H) (xs := strs acc') (ys := [.str (s.drop f')]) (Nat.le_refl _) (by simpa using ho')
  have hff : (f' : Int) ≤ s.length := by omega
  have hr : 2 * ((acc'.length + 1) * 16) ≤ 281474976677888 := by omega
  have e0 : (strs [] : List AV) = [] := rfl
  rw [e0] at hrun
  simp at hrun
  simp [F40, hrun, hff, hr, happ]
  have e1 : strs acc' ++ [.str (s.drop f')] = strs (acc' ++ [s.drop f']) := (strs_append acc' [s.drop f']).symm
  rw [e1, hacc]
  rfl
end Go.Proofs.YtghlghbpaeimjaaDoor
