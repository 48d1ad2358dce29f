/- fullingref1.Text of a number that is not negative. -/
import Derived.Test.YtkomfefpfalajaaPick
namespace Go.Proofs.Ytkomfefpfalajaa
open Go Go.Proofs Ab
set_option maxRecDepth 100000
set_option linter.unusedSimpArgs false
set_option linter.unusedVariables false
theorem fmt39 (n : Nat) (hn : n < 18446744073709551616) (H : Heap) : callF E1 39 [.int .u64 n] H = some (.str (digs n), H) := by
  induction n using Nat.strongRecOn generalizing H with
  | _ n ih =>
    rw [go (fn := F39) rfl rfl rfl]
    by_cases h : n < 10
    · have h' : (n : Int) < 10 := by omega
      have w1 : IntKind.u64.wrap (48 + (n : Int)) = 48 + n := wrapU (by omega) (by omega)
      have w2 : IntKind.u8.wrap (48 + (n : Int)) = 48 + n := wrap8 (by omega) (by omega)
      have hb : b2sV H (.sl .full [.int .u8 (48 + (n : Int))]) = some (.str [dig n]) := by
        have := b2sV_sl (h := H) (c := .full) (s := [dig n])
        simpa [byts, dig_toNat h] using this
      rw [digs_lt h]
      simp [F39, h', w1, w2, hb]
    · have h' : ¬ (n : Int) < 10 := by omega
      have ih := ih (n / 10) (by omega) (by omega)
      have hm := u64_mod n
      have hd := u64_div n
      have w1 : IntKind.u64.wrap (48 + (n : Int) % 10) = 48 + (n : Int) % 10 := wrapU (by omega) (by omega)
      have w2 : IntKind.u8.wrap (48 + (n : Int) % 10) = 48 + (n : Int) % 10 := wrap8 (by omega) (by omega)
      have w3 : IntKind.u64.wrap ((n : Int) / 10) = (n : Int) / 10 := wrapU (by omega) (by omega)
      simp at ih
      have hb : b2sV H (.sl .full [.int .u8 (48 + (n : Int) % 10)]) = some (.str [dig (n % 10)]) := by
        have := b2sV_sl (h := H) (c := .full) (s := [dig (n % 10)])
        simpa [byts, dig_toNat (show n % 10 < 10 by omega)] using this
      have hl := digs_length 19 (n / 10) (by omega)
      rw [digs_ge h]
      simp [F39, h', w1, w2, w3, hm, hd, ih, hb]
      omega
theorem text17 (n : Nat) (hn : n < 9223372036854775808) (H : Heap) : callF E1 17 [.int .i64 n] H = some (.str (digs n), H) := by
  rw [go (fn := F17) rfl rfl rfl]
  have h' : ¬ (n : Int) < 0 := by omega
  have w : IntKind.u64.wrap (n : Int) = n := wrapU (by omega) (by omega)
  have h := fmt39 n (by omega)
  simp [F17, h', w, h]
end Go.Proofs.Ytkomfefpfalajaa
