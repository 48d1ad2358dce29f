/- Format, of the program and of the reference. -/
import Derived.Test.YtghlghbpaeimjaaDoorM7
namespace Go.Proofs.YtghlghbpaeimjaaDoor
open Go Go.Proofs Ab
set_option maxRecDepth 100000
set_option linter.unusedSimpArgs false
theorem loop39 (n0 : Nat) (v : AV) : ∀ (k m : Nat) (acc : List UInt8) (s : Slots) (h : Heap), m < 10 ^ k → m < 18446744073709551616 → acc.length + k < 1000 → (acc ≠ [] ∨ 0 < k) → get s 0 = v → get s 3 = .int .u64 m → get s 4 = .str acc →
    blkK (some [0, 4]) 0 (runF E2 n0 false c39_15 s h) = some (.nrm, [(0, v), (4, .str ((if m = 0 ∧ acc ≠ [] then [] else digs m) ++ acc))], h)
  | 0, m, acc, s, h, hm, hm64, hl, ha, h0, h3, h4 => by
    have hm0 : m = 0 := by simpa using hm
    subst hm0
    have ha' : acc ≠ [] := by rcases ha with h | h; exact h; omega
    rw [q39_15]
    simp [h0, h3, h4, ha']
  | k + 1, m, acc, s, h, hm, hm64, hl, ha, h0, h3, h4 => by
    have hw2 : IntKind.u64.wrap (48 + ((m : Int) % 10)) = 48 + ((m : Int) % 10) := wrapU (by omega) (by omega)
    have hw3 : IntKind.u8.wrap (48 + ((m : Int) % 10)) = 48 + ((m : Int) % 10) := wrap8 (by omega) (by omega)
    have hw4 : IntKind.u64.wrap ((m : Int) / 10) = (m : Int) / 10 := wrapU (by omega) (by omega)
    have hb : b2sV h (.sl .full [.int .u8 (48 + ((m : Int) % 10))]) = some (.str [dig (m % 10)]) := by
      have := b2sV_sl (h := h) (c := .full) (s := [dig (m % 10)])
      rw [← this]
      simp [byts, dig_toNat (show m % 10 < 10 by omega)]
    have hle : 1 + acc.length ≤ 9223372036854775807 := by omega
    have ih := loop39 n0 v k (m / 10) (dig (m % 10) :: acc) [(0, v), (3, .int .u64 ((m / 10 : Nat) : Int)), (4, .str (dig (m % 10) :: acc))] h (by rw [Nat.div_lt_iff_lt_mul (by omega), ← Nat.pow_succ]; exact hm) (by omega) (by simp; omega) (.inl (by simp)) rfl rfl rfl
    simp at ih
    rw [q39_15]
    by_cases hm0 : m = 0
    · subst hm0
      cases acc with
      | nil =>
        simp at hb
        simp [h0, h3, h4, hw2, hw3, hw4, hb, digs_lt]
        simp at ih
        simp [show IntKind.u64.wrap 48 = 48 from rfl, show IntKind.u8.wrap 48 = 48 from rfl, show IntKind.u64.wrap 0 = 0 from rfl, hb, ih, digs_lt]
      | cons x r => simp [h0, h3, h4]
    · have hpos : 0 < m := by omega
      have hpos' : (0 : Int) < m := by omega
      simp [h0, h3, h4, hpos, hw2, hw3, hw4, u64_mod, u64_div, hb, hle, ih, hm0]
      by_cases h10 : m < 10
      · have : m / 10 = 0 := by omega
        rw [digs_lt h10]
        simp [this, show m % 10 = m by omega]
        intro hh
        omega
      · have hne : m / 10 ≠ 0 := by omega
        rw [digs_ge h10]
        simp [hne]
        intro hh
        omega
theorem fmt39 (n : Int) (hn : InR n) (H : Heap) : callF E2 39 [.int .i64 n] H = some (.str (fmtI n), H) := by
  rw [go (fn := F39) rfl rfl rfl]
  unfold InR at hn
  unfold fmtI
  by_cases h : n < 0
  · have e : IntKind.u64.wrap (0 - IntKind.u64.wrap n) = ((-n).toNat : Int) := by
      simp only [IntKind.wrap, IntKind.signed, IntKind.bits]
      simp
      omega
    have hl : (digs (-n).toNat).length ≤ 19 + 1 := digs_length 19 _ (by omega)
    have hl2 : 1 + (digs (-n).toNat).length ≤ 9223372036854775807 := by omega
    have hlp := loop39 H.length (.int .i64 n) 20 (-n).toNat [] [(0, .int .i64 n), (3, .int .u64 ((-n).toNat : Int)), (4, .str [])] H (by omega) (by omega) (by simp) (.inr (by omega)) rfl rfl rfl
    simp [-Int.ofNat_toNat] at hlp
    simp [F39, h, e, hlp, hl2, -Int.ofNat_toNat, -Int.zero_sub]
  · have e : IntKind.u64.wrap n = (n.toNat : Int) := by
      simp only [IntKind.wrap, IntKind.signed, IntKind.bits]
      simp
      omega
    have hlp := loop39 H.length (.int .i64 n) 20 n.toNat [] [(0, .int .i64 n), (3, .int .u64 (n.toNat : Int)), (4, .str [])] H (by omega) (by omega) (by simp) (.inr (by omega)) rfl rfl rfl
    simp [-Int.ofNat_toNat] at hlp
    simp [F39, h, e, hlp, -Int.ofNat_toNat]
theorem fmtI_length {n : Int} (hn : InR n) : (fmtI n).length ≤ 21 := by
  unfold InR at hn
  unfold fmtI
  split
  · have := digs_length 19 (-n).toNat (by omega)
    simp
    omega
  · have := digs_length 19 n.toNat (by omega)
    omega
def joinL : List (List UInt8) → List UInt8
  | [] => []
  | x :: r => 32 :: (x ++ r.flatMap fun y => 44 :: 32 :: y)
def opsL (op a b c n : Int) : List (List UInt8) :=
  (if op = 6 then [fmtI a] else if 2 ≤ formR op ∧ formR op ≤ 7 then [114 :: fmtI a] else []) ++ (if formR op = 3 ∨ formR op = 4 ∨ formR op = 7 then [114 :: fmtI b] else []) ++ (if formR op = 4 then [114 :: fmtI c] else []) ++ (if 5 ≤ formR op ∧ formR op ≤ 8 then [fmtI n] else [])
def fmtV (op a b c n : Int) : List UInt8 := if validP op a b c n then iName op ++ joinL (opsL op a b c n) else []
theorem iName_length (op : Int) : (iName op).length ≤ 10 := by
  by_cases h : 1 ≤ op ∧ op ≤ 37
  · exact op_all (p := fun op => (iName op).length ≤ 10) (by decide +kernel) op h.1 h.2
  · have : iName op = [] := by
      unfold iName iRow
      rw [infoV_out h]
      rfl
    rw [this]
    simp
theorem loIR (op : Int) : InR (loI op) := by
  unfold loI InR
  repeat' split
  all_goals omega
theorem hiIR (op : Int) : InR (hiI op) := by
  unfold hiI InR
  repeat' split
  all_goals omega
theorem valid_R {op a b c n : Int} (h : validP op a b c n) : InR a ∧ InR b ∧ InR c ∧ InR n := by
  have h1 := loIR op
  have h2 := hiIR op
  unfold validP at h
  unfold InR at *
  omega
theorem format11 (op a b c n : Int) (H : Heap) : callF E2 11 [instrV op a b c n] H = some (.str (fmtV op a b c n), H) := by
  rw [go (fn := F11) rfl rfl rfl]
  unfold fmtV
  by_cases hv : validP op a b c n
  · obtain ⟨ra, rb, rc, rn⟩ := valid_R hv
    have la := fmtI_length ra
    have lb := fmtI_length rb
    have lc := fmtI_length rc
    have ln := fmtI_length rn
    have lnm := iName_length op
    have ta := text33 a ra
    have tb := text33 b rb
    have tc := text33 c rc
    have tn := text33 n rn
    have hf1 := (form_ok op).2 (by unfold validP at hv; exact hv.1)
    have hf2 := form_rng op
    have w1 : IntKind.i64.wrap 1 = 1 := rfl
    have w2 : IntKind.i64.wrap 2 = 2 := rfl
    have w3 : IntKind.i64.wrap 3 = 3 := rfl
    have w4 : IntKind.i64.wrap 4 = 4 := rfl
    by_cases o6 : op = 6
    · subst o6
      simp [F11, valid23, hv, info9', fields30, form6, q11_45, joinL, opsL, ta, tb, tc, tn, w1, w2, w3, w4]
      omega
    have hf : formR op = 1 ∨ formR op = 2 ∨ formR op = 3 ∨ formR op = 4 ∨ formR op = 5 ∨ formR op = 6 ∨ formR op = 7 ∨ formR op = 8 := by omega
    rcases hf with hf | hf | hf | hf | hf | hf | hf | hf
    · simp [F11, valid23, hv, info9', fields30, hf, q11_45, joinL, opsL, o6]
    · simp [F11, valid23, hv, info9', fields30, hf, q11_45, joinL, opsL, o6, ta, tb, tc, tn, w1, w2, w3, w4]
      omega
    · simp [F11, valid23, hv, info9', fields30, hf, q11_45, joinL, opsL, o6, ta, tb, tc, tn, w1, w2, w3, w4]
      omega
    · simp [F11, valid23, hv, info9', fields30, hf, q11_45, joinL, opsL, o6, ta, tb, tc, tn, w1, w2, w3, w4]
      omega
    · simp [F11, valid23, hv, info9', fields30, hf, q11_45, joinL, opsL, o6, ta, tb, tc, tn, w1, w2, w3, w4]
      omega
    · simp [F11, valid23, hv, info9', fields30, hf, q11_45, joinL, opsL, o6, ta, tb, tc, tn, w1, w2, w3, w4]
      omega
    · simp [F11, valid23, hv, info9', fields30, hf, q11_45, joinL, opsL, o6, ta, tb, tc, tn, w1, w2, w3, w4]
      omega
    · simp [F11, valid23, hv, info9', fields30, hf, q11_45, joinL, opsL, o6, ta, tb, tc, tn, w1, w2, w3, w4]
      omega
  · simp [F11, valid23, hv]
theorem format20 (op a b c n : Int) (H : Heap) : callF E2 20 [instrV op a b c n] H = some (.str (fmtV op a b c n), H) := by
  rw [go (fn := F20) rfl rfl rfl]
  unfold fmtV
  by_cases hv : validP op a b c n
  · obtain ⟨ra, rb, rc, rn⟩ := valid_R hv
    have la := fmtI_length ra
    have lb := fmtI_length rb
    have lc := fmtI_length rc
    have ln := fmtI_length rn
    have lnm := iName_length op
    have ta := fmt39 a ra
    have tb := fmt39 b rb
    have tc := fmt39 c rc
    have tn := fmt39 n rn
    have hf1 := (form_ok op).2 (by unfold validP at hv; exact hv.1)
    have hf2 := form_rng op
    have w1 : IntKind.i64.wrap 1 = 1 := rfl
    have w2 : IntKind.i64.wrap 2 = 2 := rfl
    have w3 : IntKind.i64.wrap 3 = 3 := rfl
    have w4 : IntKind.i64.wrap 4 = 4 := rfl
    by_cases o6 : op = 6
    · subst o6
      simp [F20, valid26, hv, info15', form6, q20_43, joinL, opsL, ta, tb, tc, tn, w1, w2, w3, w4]
      omega
    have hf : formR op = 1 ∨ formR op = 2 ∨ formR op = 3 ∨ formR op = 4 ∨ formR op = 5 ∨ formR op = 6 ∨ formR op = 7 ∨ formR op = 8 := by omega
    rcases hf with hf | hf | hf | hf | hf | hf | hf | hf
    · simp [F20, valid26, hv, info15', hf, q20_43, joinL, opsL, o6]
    · simp [F20, valid26, hv, info15', hf, q20_43, joinL, opsL, o6, ta, tb, tc, tn, w1, w2, w3, w4]
      omega
    · simp [F20, valid26, hv, info15', hf, q20_43, joinL, opsL, o6, ta, tb, tc, tn, w1, w2, w3, w4]
      omega
    · simp [F20, valid26, hv, info15', hf, q20_43, joinL, opsL, o6, ta, tb, tc, tn, w1, w2, w3, w4]
      omega
    · simp [F20, valid26, hv, info15', hf, q20_43, joinL, opsL, o6, ta, tb, tc, tn, w1, w2, w3, w4]
      omega
    · simp [F20, valid26, hv, info15', hf, q20_43, joinL, opsL, o6, ta, tb, tc, tn, w1, w2, w3, w4]
      omega
    · simp [F20, valid26, hv, info15', hf, q20_43, joinL, opsL, o6, ta, tb, tc, tn, w1, w2, w3, w4]
      omega
    · simp [F20, valid26, hv, info15', hf, q20_43, joinL, opsL, o6, ta, tb, tc, tn, w1, w2, w3, w4]
      omega
  · simp [F20, valid26, hv]
end Go.Proofs.YtghlghbpaeimjaaDoor
