/- The reference's Reads, and Writes of both. -/
import Derived.Test.YtghlghbpaeimjaaDoorM3
namespace Go.Proofs.YtghlghbpaeimjaaDoor
open Go Go.Proofs Ab
set_option maxRecDepth 100000
set_option linter.unusedSimpArgs false
theorem insL_length (l : List Int) (n : Int) : (insL l n).length ≤ l.length + 1 := by
  unfold insL
  have h := congrArg List.length (List.takeWhile_append_dropWhile (p := (· < n)) (l := l))
  rw [List.length_append] at h
  rw [List.length_append]
  split
  · rename_i hd; rw [hd] at h; simp at h ⊢; omega
  · rename_i x r hd
    rw [hd] at h
    split <;> simp at h ⊢ <;> omega
def insUp : Nat → Nat → List Int → List Int
  | 0, _, l => l
  | j + 1, k, l => insUp j (k + 1) (insL l k)
theorem insUp_length : ∀ (j k : Nat) (l : List Int), (insUp j k l).length ≤ l.length + j
  | 0, _, l => Nat.le_refl _
  | j + 1, k, l => by
    have h1 := insUp_length j (k + 1) (insL l k)
    have h2 := insL_length l k
    unfold insUp
    omega
theorem tail27e (op a b c n : Int) (F : Ob) (H : Heap) (s : Slots) (cp : Cap) (l : List Int) (hl : l.length < 900) (h1 : get s 1 = .ptr H.length 0) (h3 : get s 3 = .sl cp (ints l)) :
    ∃ c', runF E2 H.length false c27_38 s (H ++ [ri op a b c n, F]) = some (.ret, [(2, .sl c' (ints (if op = 2 then insL l 0 else l)))], H ++ [ri op a b c n, F]) := by
  have hi := fun c => ins45 c l 0 (by omega)
  by_cases o : op = 2
  · subst o
    refine ⟨.none, ?_⟩
    simp [h1, h3, hi]
  · refine ⟨cp, ?_⟩
    simp [h1, h3, hi, o]
theorem loop27 (a b c n : Int) (F : Ob) (H : Heap) : ∀ (j k : Nat) (s : Slots) (cp : Cap) (l : List Int), (k : Int) + j = a → a < 100 → l.length + j < 900 → get s 1 = .ptr H.length 0 → get s 3 = .sl cp (ints l) → get s 6 = .int .i64 k →
    ∃ c', blkK (some [1, 3]) 0 (runF E2 H.length false c27_29 s (H ++ [ri 6 a b c n, F])) = some (.nrm, [(1, .ptr H.length 0), (3, .sl c' (ints (insUp j k l)))], H ++ [ri 6 a b c n, F])
  | 0, k, s, cp, l, hk, ha, hl, h1, h3, h6 => by
    have hlt : ¬ (k : Int) < a := by omega
    refine ⟨cp, ?_⟩
    rw [q27_29]
    simp [h1, h3, h6, hlt, insUp]
  | j + 1, k, s, cp, l, hk, ha, hl, h1, h3, h6 => by
    have hlt : (k : Int) < a := by omega
    have hw : IntKind.i64.wrap ((k : Int) + 1) = (k : Int) + 1 := wrapR ⟨by omega, by omega⟩
    have h2 := insL_length l k
    obtain ⟨c', ih⟩ := loop27 a b c n F H j (k + 1) [(1, .ptr H.length 0), (3, .sl .none (ints (insL l k))), (6, .int .i64 ((k + 1 : Nat) : Int))] .none (insL l k) (by omega) ha (by omega) rfl rfl rfl
    refine ⟨c', ?_⟩
    rw [q27_29]
    simp at ih
    simp [h1, h3, h6, hlt, hw, ins45 _ l (k : Int) (by omega), ih, insUp]
theorem tail27d (op a b c n : Int) (F : Ob) (H : Heap) (s : Slots) (cp : Cap) (l : List Int) (ha : 0 ≤ a ∧ a < 8) (hl : l.length < 800) (h1 : get s 1 = .ptr H.length 0) (h3 : get s 3 = .sl cp (ints l)) :
    ∃ c', runF E2 H.length false c27_39 s (H ++ [ri op a b c n, F]) = some (.ret, [(2, .sl c' (ints (let l4 := if op = 6 then insUp a.toNat 0 l else l; if op = 2 then insL l4 0 else l4)))], H ++ [ri op a b c n, F]) := by
  by_cases o : op = 6
  · subst o
    obtain ⟨c1, hlp⟩ := loop27 a b c n F H a.toNat 0 [(1, .ptr H.length 0), (3, .sl cp (ints l)), (6, .int .i64 (0 : Nat))] cp l (by omega) (by omega) (by omega) rfl rfl rfl
    have hlen := insUp_length a.toNat 0 l
    obtain ⟨c', ht⟩ := tail27e 6 a b c n F H [(1, .ptr H.length 0), (3, .sl c1 (ints (insUp a.toNat 0 l)))] c1 (insUp a.toNat 0 l) (by omega) rfl rfl
    refine ⟨c', ?_⟩
    simp at hlp ht
    simp [h1, h3, hlp, ht]
  · obtain ⟨c', ht⟩ := tail27e op a b c n F H [(1, .ptr H.length 0), (3, .sl cp (ints l))] cp l (by omega) rfl rfl
    refine ⟨c', ?_⟩
    by_cases hlt : (0 : Int) < a
    · simp [h1, h3, q27_29, o, hlt, ht]
    · simp [h1, h3, q27_29, o, hlt, ht]
theorem tail27c (op a b c n : Int) (nm : List UInt8) (f : Int) (ra wa rb mt : Bool) (w : Int) (H : Heap) (s : Slots) (cp : Cap) (l : List Int) (ha : 0 ≤ a ∧ a < 8) (hl : l.length < 700) (h1 : get s 1 = .ptr H.length 0) (h3 : get s 3 = .sl cp (ints l)) (h4 : get s 4 = .ptr (H.length + 1) 0) :
    ∃ c', runF E2 H.length false c27_40 s (H ++ [ri op a b c n, rf nm f ra wa rb mt w]) = some (.ret, [(2, .sl c' (ints (let l3 := if f = 4 then insL l c else l; let l4 := if op = 6 then insUp a.toNat 0 l3 else l3; if op = 2 then insL l4 0 else l4)))], H ++ [ri op a b c n, rf nm f ra wa rb mt w]) := by
  by_cases o : f = 4
  · have h2 := insL_length l c
    obtain ⟨c', ht⟩ := tail27d op a b c n (rf nm f ra wa rb mt w) H [(1, .ptr H.length 0), (3, .sl .none (ints (insL l c)))] .none (insL l c) ha (by omega) rfl rfl
    refine ⟨c', ?_⟩
    subst o
    simp at ht
    simp [h1, h3, h4, ins45 _ l c (by omega), ht]
  · obtain ⟨c', ht⟩ := tail27d op a b c n (rf nm f ra wa rb mt w) H [(1, .ptr H.length 0), (3, .sl cp (ints l)), (31, .bool false)] cp l ha (by omega) rfl rfl
    refine ⟨c', ?_⟩
    simp at ht
    simp [h1, h3, h4, o, ht]
theorem tail27b (op a b c n : Int) (nm : List UInt8) (f : Int) (ra wa rb mt : Bool) (w : Int) (H : Heap) (s : Slots) (cp : Cap) (l : List Int) (ha : 0 ≤ a ∧ a < 8) (hl : l.length < 600) (h1 : get s 1 = .ptr H.length 0) (h3 : get s 3 = .sl cp (ints l)) (h4 : get s 4 = .ptr (H.length + 1) 0) :
    ∃ c', runF E2 H.length false c27_41 s (H ++ [ri op a b c n, rf nm f ra wa rb mt w]) = some (.ret, [(2, .sl c' (ints (let l2 := if rb then insL l b else l; let l3 := if f = 4 then insL l2 c else l2; let l4 := if op = 6 then insUp a.toNat 0 l3 else l3; if op = 2 then insL l4 0 else l4)))], H ++ [ri op a b c n, rf nm f ra wa rb mt w]) := by
  cases rb with
  | true =>
    have h2 := insL_length l b
    obtain ⟨c', ht⟩ := tail27c op a b c n nm f ra wa true mt w H [(1, .ptr H.length 0), (3, .sl .none (ints (insL l b))), (4, .ptr (H.length + 1) 0)] .none (insL l b) ha (by omega) rfl rfl rfl
    refine ⟨c', ?_⟩
    simp at ht
    simp [h1, h3, h4, ins45 _ l b (by omega), ht]
  | false =>
    obtain ⟨c', ht⟩ := tail27c op a b c n nm f ra wa false mt w H [(1, .ptr H.length 0), (3, .sl cp (ints l)), (4, .ptr (H.length + 1) 0), (24, .bool false)] cp l ha (by omega) rfl rfl rfl
    refine ⟨c', ?_⟩
    simp at ht
    simp [h1, h3, h4, ht]
def refReads (ra rb : Bool) (f op a b c : Int) : List Int :=
  let l1 := if ra then insL [] a else []
  let l2 := if rb then insL l1 b else l1
  let l3 := if f = 4 then insL l2 c else l2
  let l4 := if op = 6 then insUp a.toNat 0 l3 else l3
  if op = 2 then insL l4 0 else l4
theorem tail27a (op a b c n : Int) (nm : List UInt8) (f : Int) (ra wa rb mt : Bool) (w : Int) (H : Heap) (s : Slots) (cp : Cap) (ha : 0 ≤ a ∧ a < 8) (h1 : get s 1 = .ptr H.length 0) (h3 : get s 3 = .sl cp (ints [])) (h4 : get s 4 = .ptr (H.length + 1) 0) :
    ∃ c', runF E2 H.length false c27_42 s (H ++ [ri op a b c n, rf nm f ra wa rb mt w]) = some (.ret, [(2, .sl c' (ints (refReads ra rb f op a b c)))], H ++ [ri op a b c n, rf nm f ra wa rb mt w]) := by
  cases ra with
  | true =>
    have h2 := insL_length [] a
    obtain ⟨c', ht⟩ := tail27b op a b c n nm f true wa rb mt w H [(1, .ptr H.length 0), (3, .sl .none (ints (insL [] a))), (4, .ptr (H.length + 1) 0)] .none (insL [] a) ha (by simp at h2; omega) rfl rfl rfl
    refine ⟨c', ?_⟩
    simp at ht
    simp [h1, h3, h4, ins45 _ [] a (by simp), ht, refReads]
  | false =>
    obtain ⟨c', ht⟩ := tail27b op a b c n nm f false wa rb mt w H [(1, .ptr H.length 0), (3, .sl cp (ints [])), (4, .ptr (H.length + 1) 0), (18, .bool false)] cp [] ha (by simp) rfl rfl rfl
    refine ⟨c', ?_⟩
    simp at ht
    simp [h1, h3, h4, ht, refReads]
theorem reads27 (op a b c n : Int) (H : Heap) : callF E2 27 [instrV op a b c n] H = some (.sl .none (ints (if validP op a b c n then refReads (iRA op) (iRB op) (formR op) op a b c else [])), H) := by
  rw [go (fn := F27) rfl rfl rfl]
  have e0 : ([] : List AV) = ints [] := rfl
  by_cases hv : validP op a b c n
  · obtain ⟨c', ht⟩ := tail27a op a b c n (iName op) (formR op) (iRA op) (iWA op) (iRB op) (iMT op) (iWords op) H [(1, .ptr H.length 0), (3, .sl .full (ints [])), (4, .ptr (H.length + 1) 0)] .full (by unfold validP at hv; omega) rfl rfl rfl
    rw [← e0] at ht
    simp at ht
    simp [F27, valid26, hv, info15', ht]
  · simp [F27, valid26, hv]
    rfl
def writesL (op a b c n : Int) : List Int := if validP op a b c n then (if op = 6 then [0] else if iWA op then [a] else []) else []
theorem iWA6 : iWA 6 = false := by decide +kernel
theorem writes14 (op a b c n : Int) (H : Heap) : callF E2 14 [instrV op a b c n] H = some (.sl .none (ints (writesL op a b c n)), H) := by
  rw [go (fn := F14) rfl rfl rfl]
  unfold writesL
  by_cases hv : validP op a b c n
  · by_cases o : op = 6
    · subst o
      simp [F14, valid23, hv, info9']
      rfl
    · cases hw : iWA op with
      | true => simp [F14, valid23, hv, info9', o, hw]; rfl
      | false => simp [F14, valid23, hv, info9', o, hw]; rfl
  · simp [F14, valid23, hv]
    rfl
theorem writes28 (op a b c n : Int) (H : Heap) : callF E2 28 [instrV op a b c n] H = some (.sl .none (ints (writesL op a b c n)), H) := by
  rw [go (fn := F28) rfl rfl rfl]
  unfold writesL
  by_cases hv : validP op a b c n
  · by_cases o : op = 6
    · subst o
      simp [F28, valid26, hv, info15', iWA6]
      rfl
    · cases hw : iWA op with
      | true => simp [F28, valid26, hv, info15', o, hw]; rfl
      | false => simp [F28, valid26, hv, info15', o, hw]; rfl
  · simp [F28, valid26, hv]
    rfl
/-- both read the same -/
def small8 : List Int := [0, 1, 2, 3, 4, 5, 6, 7]
theorem reads_small : (small8.all fun a => small8.all fun b => small8.all fun c => [true, false].all fun ra => [true, false].all fun rb => [true, false].all fun cc =>
    refReads ra rb (if cc then 4 else 0) 0 a b c == sel (fun k => (ra && (k : Int) == a) || (rb && (k : Int) == b) || (cc && (k : Int) == c)) 0) = true := by decide +kernel
end Go.Proofs.YtghlghbpaeimjaaDoor
