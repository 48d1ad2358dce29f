/- The runs of MachineRoundTrip and MachineDistinct. -/
import Derived.Test.YtghlghbpaeimjaaDoorM14
namespace Go.Proofs.YtghlghbpaeimjaaDoor
open Go Go.Proofs Ab
set_option maxRecDepth 100000
set_option linter.unusedSimpArgs false
theorem fmtV_length (op a b c n : Int) : (fmtV op a b c n).length ≤ 200 := by
  unfold fmtV
  split
  · rename_i h
    obtain ⟨ra, rb, rc, rn⟩ := valid_R h
    have la := fmtI_length ra
    have lb := fmtI_length rb
    have lc := fmtI_length rc
    have ln := fmtI_length rn
    have lnm := iName_length op
    have hj : ∀ l : List (List UInt8), (∀ x ∈ l, x.length ≤ 22) → l.length ≤ 4 → (joinL l).length ≤ 100 := by
      intro l hl h4
      match l, hl, h4 with
      | [], _, _ => simp [joinL]
      | [x], hl, _ => have := hl x (by simp); simp [joinL]; omega
      | [x, y], hl, _ => have := hl x (by simp); have := hl y (by simp); simp [joinL]; omega
      | [x, y, z], hl, _ => have := hl x (by simp); have := hl y (by simp); have := hl z (by simp); simp [joinL]; omega
      | [x, y, z, w], hl, _ => have := hl x (by simp); have := hl y (by simp); have := hl z (by simp); have := hl w (by simp); simp [joinL]; omega
      | _ :: _ :: _ :: _ :: _ :: _, _, h4 => simp at h4
    have := hj (opsL op a b c n) (by
      intro x hx
      unfold opsL at hx
      simp only [List.mem_append] at hx
      rcases hx with ((hx | hx) | hx) | hx
      · split at hx
        · simp at hx; rw [hx]; omega
        · split at hx
          · simp at hx; rw [hx]; simp; omega
          · simp at hx
      · split at hx
        · simp at hx; rw [hx]; simp; omega
        · simp at hx
      · split at hx
        · simp at hx; rw [hx]; simp; omega
        · simp at hx
      · split at hx
        · simp at hx; rw [hx]; omega
        · simp at hx) (by
      unfold opsL
      simp only [List.length_append]
      repeat' split
      all_goals simp)
    rw [List.length_append]
    omega
  · simp
theorem trip_run (n : Int) (s : List UInt8) (hn : InR n) (hs : s.length ≤ 1900000) : callF E2 6 [.int .i64 n, .str s] [] = some (.bool true, []) := by
  obtain ⟨op, a, b, c, m, hv, h18⟩ := instr18 n hn
  have hp := parse10 (fmtV op a b c m) (by have := fmtV_length op a b c m; omega)
  rw [res10_fmt hv] at hp
  have hp2 := parse10 s (by omega)
  rw [go (fn := F6) rfl rfl rfl]
  rcases res10_or s with h | ⟨op', a', b', c', m', hv', hs'⟩
  · rw [h] at hp2
    simp [F6, h18, format11, hp, hp2, noInstr, c3_2', valid23]
  · subst hs'
    rw [res10_fmt hv'] at hp2
    simp [F6, h18, format11, hp, hp2, hv', c3_2', valid23]
theorem fmtV_ne {op a b c n : Int} (h : validP op a b c n) : fmtV op a b c n ≠ [] := by
  intro e
  unfold fmtV at e
  rw [if_pos h] at e
  have hop : 1 ≤ op ∧ op ≤ 37 := by unfold validP at h; exact h.1
  have h1 := iName_look op hop
  have h2 : iName op = [] := (List.append_eq_nil_iff.1 e).1
  rw [h2] at h1
  have : lookIx table 0 [] = none := by decide +kernel
  rw [this] at h1
  cases h1
theorem eqLs5 (a b c d e a' b' c' d' e' : Int) : eqLs [0, 0, 0, 0, 0] [.int .i64 a, .int .i64 b, .int .i64 c, .int .i64 d, .int .i64 e] [.int .i64 a', .int .i64 b', .int .i64 c', .int .i64 d', .int .i64 e'] = some (decide (a = a' ∧ b = b' ∧ c = c' ∧ d = d' ∧ e = e')) := by
  by_cases h1 : a = a'
  · by_cases h2 : b = b'
    · by_cases h3 : c = c'
      · by_cases h4 : d = d'
        · by_cases h5 : e = e'
          · simp [eqLs, eqL, h1, h2, h3, h4, h5]
          · simp [eqLs, eqL, h1, h2, h3, h4, h5, beq_eq_false_iff_ne.2 h5]
        · simp [eqLs, eqL, h1, h2, h3, h4, beq_eq_false_iff_ne.2 h4]
      · simp [eqLs, eqL, h1, h2, h3, beq_eq_false_iff_ne.2 h3]
    · simp [eqLs, eqL, h1, h2, beq_eq_false_iff_ne.2 h2]
  · simp [eqLs, eqL, h1, beq_eq_false_iff_ne.2 h1]
theorem distinct_run (n m how by' : Int) (hn : InR n) (hm : InR m) : callF E2 7 [.int .i64 n, .int .i64 m, .int .i64 how, .int .i64 by'] [] = some (.bool true, []) := by
  obtain ⟨op, a, b, c, k, hv, h18⟩ := instr18 n hn
  obtain ⟨op2, a2, b2, c2, k2, hv2, h18'⟩ := instr18 m hm
  obtain ⟨op3, a3, b3, c3, k3, h19⟩ := mut19 op a b c k how by'
  have he : (fmtV op a b c k = fmtV op2 a2 b2 c2 k2) ↔ (op = op2 ∧ a = a2 ∧ b = b2 ∧ c = c2 ∧ k = k2) :=
    ⟨fun h => fmtV_inj hv hv2 h, fun h => by obtain ⟨rfl, rfl, rfl, rfl, rfl⟩ := h; rfl⟩
  have hne := fmtV_ne hv
  rw [go (fn := F7) rfl rfl rfl]
  by_cases hv3 : validP op3 a3 b3 c3 k3
  · have he3 : (fmtV op a b c k = fmtV op3 a3 b3 c3 k3) ↔ (op = op3 ∧ a = a3 ∧ b = b3 ∧ c = c3 ∧ k = k3) :=
      ⟨fun h => fmtV_inj hv hv3 h, fun h => by obtain ⟨rfl, rfl, rfl, rfl, rfl⟩ := h; rfl⟩
    simp only [F7]
    simp [h18, h18', h19, format11, eqLs5, -eqLs, he, he3, hne, hv3, c3_2', valid23, -getElem?_pos, List.getElem?_cons_zero, List.getElem?_cons_succ]
    constructor <;> (rw [Bool.eq_iff_iff]; simp [he, he3])
  · simp only [F7]
    simp [h18, h18', h19, format11, eqLs5, -eqLs, he, hne, hv3, c3_2', valid23, -getElem?_pos, List.getElem?_cons_zero, List.getElem?_cons_succ]
    rw [Bool.eq_iff_iff]
    simp [he]
end Go.Proofs.YtghlghbpaeimjaaDoor
