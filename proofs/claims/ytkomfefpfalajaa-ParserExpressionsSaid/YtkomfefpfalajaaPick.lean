/- keep.Pick -/
import Derived.Test.YtkomfefpfalajaaC1
namespace Go.Proofs.Ytkomfefpfalajaa
open Go Go.Proofs Ab
set_option maxRecDepth 100000
set_option linter.unusedSimpArgs false
set_option linter.unusedVariables false
theorem wrap_id {k : IntKind} {n : Int} (h : k.min ≤ n ∧ n ≤ k.max) : k.wrap n = n := by
  revert h
  cases k <;> simp only [IntKind.min, IntKind.max, IntKind.wrap, IntKind.signed, IntKind.bits] <;> intro h <;> simp at h ⊢ <;> omega
theorem tmod_cases (a m : Int) (hm : 0 < m) : (a.tmod m < 0 ∧ a.tmod m + m = a % m) ∨ (¬ a.tmod m < 0 ∧ a.tmod m = a % m) := by
  rcases Int.lt_or_le a 0 with ha | ha
  · have h1 : a.tmod m = -((-a) % m) := by
      rw [← Int.tmod_eq_emod_of_nonneg (by omega : 0 ≤ -a), Int.neg_tmod, Int.neg_neg]
    have h2 := Int.emod_nonneg (-a) (by omega : m ≠ 0)
    have h3 := Int.emod_lt_of_pos (-a) hm
    have h4 := Int.emod_nonneg a (by omega : m ≠ 0)
    have h5 := Int.emod_lt_of_pos a hm
    have h6 := Int.emod_add_mul_ediv (-a) m
    have h7 := Int.emod_add_mul_ediv a m
    have h8 : ∃ q : Int, (-a) % m + a % m = m * q := ⟨-((-a) / m) - a / m, by rw [Int.mul_sub, Int.mul_neg]; omega⟩
    obtain ⟨q, hq⟩ := h8
    have h9 : q = 0 ∨ q = 1 := by
      have : m * q < m * 2 := by omega
      have hq2 : q < 2 := Int.lt_of_mul_lt_mul_left this (by omega)
      have : m * (-1) < m * q := by omega
      have hq1 : -1 < q := Int.lt_of_mul_lt_mul_left this (by omega)
      omega
    rcases h9 with rfl | rfl
    · right; constructor <;> omega
    · left; constructor <;> omega
  · right
    rw [Int.tmod_eq_emod_of_nonneg ha]
    exact ⟨by have := Int.emod_nonneg a (by omega : m ≠ 0); omega, rfl⟩
theorem pick (a m : Int) (hm : 0 < m) (hm2 : m < 2 ^ 62) (h : Heap) : callF E1 13 [.int .i64 a, .int .i64 m] h = some (.int .i64 (a % m), h) := by
  rw [go (fn := F13) rfl rfl rfl]
  have hmz : m ≠ 0 := by omega
  have h1 := Int.emod_nonneg a hmz
  have h2 := Int.emod_lt_of_pos a hm
  rcases tmod_cases a m hm with ⟨hneg, hv⟩ | ⟨hneg, hv⟩
  · have hw : IntKind.i64.wrap (a.tmod m + m) = a % m := by
      rw [hv]; exact wrapR ⟨by omega, by omega⟩
    simp [F13, hmz, hneg, hw]
  · have hn : ¬ a % m < 0 := by omega
    simp [F13, hmz, hv, hn]
end Go.Proofs.Ytkomfefpfalajaa
