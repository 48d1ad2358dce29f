/- Numbers in decimal: word.Text and the reference's FormatInt. -/
import Derived.Test.YtghlghbpaeimjaaDoorM6
import Derived.Test.YtghlghbpaeimjaaDoorAb6
namespace Go.Proofs.YtghlghbpaeimjaaDoor
open Go Go.Proofs Ab
set_option maxRecDepth 100000
set_option linter.unusedSimpArgs false
def byts (s : List UInt8) : List AV := s.map fun c => AV.int .u8 c.toNat
@[simp] theorem byts_length (s : List UInt8) : (byts s).length = s.length := by simp [byts]
theorem bytesOf_byts (s : List UInt8) : bytesOf (byts s) = some s := by
  induction s with
  | nil => rfl
  | cons c s ih =>
    show (match bytesOf (byts s) with | some bs => some (UInt8.ofNat (c.toNat : Int).toNat :: bs) | none => none) = _
    rw [ih, Int.toNat_natCast]
    simp
theorem pubLs_byts (s : List UInt8) : pubLs (byts s) = some (byts s) := by
  induction s with
  | nil => rfl
  | cons c s ih =>
    show (match pubL (.int .u8 c.toNat), pubLs (byts s) with | some y, some ys => some (y :: ys) | _, _ => none) = _
    rw [ih]
    rfl
theorem b2sV_arr {h : Heap} {o off len : Nat} {xs : List AV} {s : List UInt8} (ho : h[o]? = some (.cells xs)) (hx : (xs.drop off).take len = byts s) (hl : s.length = len) : b2sV h (.arr o off len) = some (.str s) := by
  simp only [b2sV, elemsOf, ho, hx, pubLs_byts, if_true, byts_length, hl, bytesOf_byts]
theorem b2sV_sl {h : Heap} {c : Cap} {s : List UInt8} : b2sV h (.sl c (byts s)) = some (.str s) := by
  have hz : sizeOk 1 (byts s) = true := sizeOk_all (by simp [byts])
  simp only [b2sV, elemsOf, hz, if_true, bytesOf_byts]
theorem u64_mod (m : Nat) : (m : Int).tmod 10 = (m : Int) % 10 := (Int.ofNat_tmod m 10).symm
theorem u64_div (m : Nat) : (m : Int).tdiv 10 = (m : Int) / 10 := (Int.ofNat_tdiv m 10).symm
theorem wrapU {n : Int} (h0 : 0 ≤ n) (h1 : n < 18446744073709551616) : IntKind.u64.wrap n = n := by
  simp only [IntKind.wrap, IntKind.signed, IntKind.bits]
  simp
  omega
theorem wrap8 {n : Int} (h0 : 0 ≤ n) (h1 : n < 256) : IntKind.u8.wrap n = n := by
  simp only [IntKind.wrap, IntKind.signed, IntKind.bits]
  simp
  omega
theorem loop46 (n0 : Nat) (H : Heap) (h0 : n0 ≤ H.length) : ∀ (k m p : Nat) (xs : List AV) (acc : List UInt8) (s : Slots), m < 10 ^ (k + 1) → (digs m).length ≤ p → p ≤ 20 → m < 18446744073709551616 → xs.length = 20 → xs.drop p = byts acc → acc.length + p = 20 →
    get s 0 = .int .u64 m → get s 3 = .ptr H.length 0 → get s 4 = .int .i64 p →
    ∃ h', runF E2 n0 false c46_15 s (H ++ [.cells xs]) = some (.ret, [(2, .str (digs m ++ acc))], H ++ h')
  | k, m, p, xs, acc, s, hm, hp, hp20, hm64, hxl, hxs, hacc, h0', h3, h4 => by
    have hp1 : 1 ≤ p := Nat.le_trans (digs_pos m) hp
    obtain ⟨q, rfl⟩ : ∃ q, p = q + 1 := ⟨p - 1, by omega⟩
    have hw1 : IntKind.i64.wrap (q : Int) = q := wrapR ⟨by omega, by omega⟩
    have hw2 : IntKind.u64.wrap (48 + ((m : Int) % 10)) = 48 + ((m : Int) % 10) := wrapU (by omega) (by omega)
    have hw3 : IntKind.u8.wrap (48 + ((m : Int) % 10)) = 48 + ((m : Int) % 10) := wrap8 (by omega) (by omega)
    have hw4 : IntKind.u64.wrap ((m : Int) / 10) = (m : Int) / 10 := wrapU (by omega) (by omega)
    have hq1 : (q : Int) < 20 := by omega
    have hq2 : q + 1 ≤ 20 := by omega
    obtain ⟨X, hX⟩ : ∃ X, X = xs.take q ++ .int .u8 (48 + ((m : Int) % 10)) :: xs.drop (q + 1) := ⟨_, rfl⟩
    have hXl : X.length = 20 := by rw [hX]; simp; omega
    have hXd : X.drop q = byts (dig (m % 10) :: acc) := by
      rw [hX, List.drop_append_of_le_length (by simp; omega), List.drop_eq_nil_of_le (by simp; omega), hxs]
      simp [byts, dig_toNat (show m % 10 < 10 by omega)]
    have hXt : (X.drop q).take (20 - q) = byts (dig (m % 10) :: acc) := by
      rw [hXd, List.take_of_length_le (by simp; omega)]
    have hb : b2sV (H ++ [.cells X]) (.arr H.length q (20 - q)) = some (.str (dig (m % 10) :: acc)) := b2sV_arr (by simp) hXt (by simp; omega)
    have hq20 : q < 20 := by omega
    by_cases hz : m / 10 = 0
    · have hmd : digs m = [dig (m % 10)] := by
        rw [digs_lt (by omega), show m % 10 = m by omega]
      have hz' : (m / 10 : Int) = 0 := by omega
      have hw5 : IntKind.u64.wrap 0 = 0 := wrapU (by omega) (by omega)
      have hq3 : (q : Int) ≤ 20 := by omega
      refine ⟨[.cells X], ?_⟩
      rw [q46_15]
      simp [h0', h3, h4, hw1, hw2, hw3, hw4, hq1, hq2, hq20, hxl, h0, u64_mod, u64_div, ← hX, hb, hmd, hz', hw5, hq3]
    · cases k with
      | zero => simp at hm; omega
      | succ k =>
        have hmd : digs m = digs (m / 10) ++ [dig (m % 10)] := digs_ge (by omega)
        obtain ⟨h', ih⟩ := loop46 n0 H h0 k (m / 10) q X (dig (m % 10) :: acc) [(0, .int .u64 ((m / 10 : Nat) : Int)), (3, .ptr H.length 0), (4, .int .i64 q)] (by rw [Nat.div_lt_iff_lt_mul (by omega), ← Nat.pow_succ]; exact hm) (by rw [hmd] at hp; simp at hp; omega) (by omega) (by omega) hXl hXd (by simp; omega) rfl rfl rfl
        have hz' : ¬ (m / 10 : Int) = 0 := by omega
        simp at ih
        refine ⟨h', ?_⟩
        rw [q46_15]
        simp [h0', h3, h4, hw1, hw2, hw3, hw4, hq1, hq2, hxl, h0, u64_mod, u64_div, ← hX, hz', ih, hmd]
theorem digits46 (m : Nat) (hm : m < 18446744073709551616) (H : Heap) : callF E2 46 [.int .u64 m] H = some (.str (digs m), H) := by
  obtain ⟨h', hl⟩ := loop46 H.length H (Nat.le_refl _) 19 m 20 (List.replicate 20 (.int .u8 0)) [] [(0, .int .u64 m), (3, .ptr H.length 0), (4, .int .i64 (20 : Nat))] (by omega) (digs_length 19 m (by omega)) (by omega) hm (by simp) (by simp [byts]) (by simp) rfl rfl rfl
  rw [go (fn := F46) rfl rfl rfl]
  simp [List.replicate] at hl
  simp [F46, hl]
theorem text33 (n : Int) (hn : InR n) (H : Heap) : callF E2 33 [.int .i64 n] H = some (.str (fmtI n), H) := by
  rw [go (fn := F33) rfl rfl rfl]
  unfold InR at hn
  unfold fmtI
  by_cases h : n < 0
  · have e : IntKind.u64.wrap (0 - IntKind.u64.wrap n) = ((-n).toNat : Int) := by
      simp only [IntKind.wrap, IntKind.signed, IntKind.bits]
      simp
      omega
    have hl : (digs (-n).toNat).length ≤ 19 + 1 := digs_length 19 _ (by omega)
    have hl2 : 1 + (digs (-n).toNat).length ≤ 9223372036854775807 := by omega
    simp [F33, h, e, digits46 (-n).toNat (by omega), hl2, -Int.ofNat_toNat, -Int.zero_sub]
    trace_state
  · have e : IntKind.u64.wrap n = (n.toNat : Int) := by
      simp only [IntKind.wrap, IntKind.signed, IntKind.bits]
      simp
      omega
    simp [F33, h, e, digits46 n.toNat (by omega), -Int.ofNat_toNat]
end Go.Proofs.YtghlghbpaeimjaaDoor
