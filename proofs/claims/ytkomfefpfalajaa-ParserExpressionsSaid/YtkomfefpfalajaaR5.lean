/- The reference's parser: symbols and operators. -/
import Derived.Test.YtkomfefpfalajaaR1
namespace Go.Proofs.Ytkomfefpfalajaa
open Go Go.Proofs Ab
set_option maxRecDepth 100000
set_option linter.unusedSimpArgs false
set_option linter.unusedVariables false
def opK (k : Int) (s : List UInt8) : Int × Bool := if (opOf s).1 ≠ 0 ∧ (opOf s).2.1 = k then ((opOf s).1, (opOf s).2.2) else (0, false)
theorem op129_1 (k : Int) (H : Heap) : callF E1 129 [.int .i64 k, .str [124]] H = some (.tup [.int .i64 (opK k [124]).1, .bool (opK k [124]).2], H) := by
  rw [go (fn := F129) rfl rfl rfl]
  by_cases hk : k = 0
  · subst hk; simp [F129, opK, opOf]
  · have hk' : ¬ (0 : Int) = k := fun h => hk h.symm
    simp [F129, opK, opOf, hk, hk']
theorem op129_2 (k : Int) (H : Heap) : callF E1 129 [.int .i64 k, .str [94]] H = some (.tup [.int .i64 (opK k [94]).1, .bool (opK k [94]).2], H) := by
  rw [go (fn := F129) rfl rfl rfl]
  by_cases hk : k = 1
  · subst hk; simp [F129, opK, opOf]
  · have hk' : ¬ (1 : Int) = k := fun h => hk h.symm
    simp [F129, opK, opOf, hk, hk']
theorem op129_3 (k : Int) (H : Heap) : callF E1 129 [.int .i64 k, .str [38]] H = some (.tup [.int .i64 (opK k [38]).1, .bool (opK k [38]).2], H) := by
  rw [go (fn := F129) rfl rfl rfl]
  by_cases hk : k = 2
  · subst hk; simp [F129, opK, opOf]
  · have hk' : ¬ (2 : Int) = k := fun h => hk h.symm
    simp [F129, opK, opOf, hk, hk']
theorem op129_4 (k : Int) (H : Heap) : callF E1 129 [.int .i64 k, .str [61, 61]] H = some (.tup [.int .i64 (opK k [61, 61]).1, .bool (opK k [61, 61]).2], H) := by
  rw [go (fn := F129) rfl rfl rfl]
  by_cases hk : k = 3
  · subst hk; simp [F129, opK, opOf]
  · have hk' : ¬ (3 : Int) = k := fun h => hk h.symm
    simp [F129, opK, opOf, hk, hk']
theorem op129_5 (k : Int) (H : Heap) : callF E1 129 [.int .i64 k, .str [33, 61]] H = some (.tup [.int .i64 (opK k [33, 61]).1, .bool (opK k [33, 61]).2], H) := by
  rw [go (fn := F129) rfl rfl rfl]
  by_cases hk : k = 3
  · subst hk; simp [F129, opK, opOf]
  · have hk' : ¬ (3 : Int) = k := fun h => hk h.symm
    simp [F129, opK, opOf, hk, hk']
theorem op129_6 (k : Int) (H : Heap) : callF E1 129 [.int .i64 k, .str [60]] H = some (.tup [.int .i64 (opK k [60]).1, .bool (opK k [60]).2], H) := by
  rw [go (fn := F129) rfl rfl rfl]
  by_cases hk : k = 4
  · subst hk; simp [F129, opK, opOf]
  · have hk' : ¬ (4 : Int) = k := fun h => hk h.symm
    simp [F129, opK, opOf, hk, hk']
theorem op129_7 (k : Int) (H : Heap) : callF E1 129 [.int .i64 k, .str [60, 61]] H = some (.tup [.int .i64 (opK k [60, 61]).1, .bool (opK k [60, 61]).2], H) := by
  rw [go (fn := F129) rfl rfl rfl]
  by_cases hk : k = 4
  · subst hk; simp [F129, opK, opOf]
  · have hk' : ¬ (4 : Int) = k := fun h => hk h.symm
    simp [F129, opK, opOf, hk, hk']
theorem op129_8 (k : Int) (H : Heap) : callF E1 129 [.int .i64 k, .str [62]] H = some (.tup [.int .i64 (opK k [62]).1, .bool (opK k [62]).2], H) := by
  rw [go (fn := F129) rfl rfl rfl]
  by_cases hk : k = 4
  · subst hk; simp [F129, opK, opOf]
  · have hk' : ¬ (4 : Int) = k := fun h => hk h.symm
    simp [F129, opK, opOf, hk, hk']
theorem op129_9 (k : Int) (H : Heap) : callF E1 129 [.int .i64 k, .str [62, 61]] H = some (.tup [.int .i64 (opK k [62, 61]).1, .bool (opK k [62, 61]).2], H) := by
  rw [go (fn := F129) rfl rfl rfl]
  by_cases hk : k = 4
  · subst hk; simp [F129, opK, opOf]
  · have hk' : ¬ (4 : Int) = k := fun h => hk h.symm
    simp [F129, opK, opOf, hk, hk']
theorem op129_10 (k : Int) (H : Heap) : callF E1 129 [.int .i64 k, .str [60, 60]] H = some (.tup [.int .i64 (opK k [60, 60]).1, .bool (opK k [60, 60]).2], H) := by
  rw [go (fn := F129) rfl rfl rfl]
  by_cases hk : k = 5
  · subst hk; simp [F129, opK, opOf]
  · have hk' : ¬ (5 : Int) = k := fun h => hk h.symm
    simp [F129, opK, opOf, hk, hk']
theorem op129_11 (k : Int) (H : Heap) : callF E1 129 [.int .i64 k, .str [62, 62]] H = some (.tup [.int .i64 (opK k [62, 62]).1, .bool (opK k [62, 62]).2], H) := by
  rw [go (fn := F129) rfl rfl rfl]
  by_cases hk : k = 5
  · subst hk; simp [F129, opK, opOf]
  · have hk' : ¬ (5 : Int) = k := fun h => hk h.symm
    simp [F129, opK, opOf, hk, hk']
theorem op129_12 (k : Int) (H : Heap) : callF E1 129 [.int .i64 k, .str [62, 62, 62]] H = some (.tup [.int .i64 (opK k [62, 62, 62]).1, .bool (opK k [62, 62, 62]).2], H) := by
  rw [go (fn := F129) rfl rfl rfl]
  by_cases hk : k = 5
  · subst hk; simp [F129, opK, opOf]
  · have hk' : ¬ (5 : Int) = k := fun h => hk h.symm
    simp [F129, opK, opOf, hk, hk']
theorem op129_13 (k : Int) (H : Heap) : callF E1 129 [.int .i64 k, .str [43]] H = some (.tup [.int .i64 (opK k [43]).1, .bool (opK k [43]).2], H) := by
  rw [go (fn := F129) rfl rfl rfl]
  by_cases hk : k = 6
  · subst hk; simp [F129, opK, opOf]
  · have hk' : ¬ (6 : Int) = k := fun h => hk h.symm
    simp [F129, opK, opOf, hk, hk']
theorem op129_14 (k : Int) (H : Heap) : callF E1 129 [.int .i64 k, .str [45]] H = some (.tup [.int .i64 (opK k [45]).1, .bool (opK k [45]).2], H) := by
  rw [go (fn := F129) rfl rfl rfl]
  by_cases hk : k = 6
  · subst hk; simp [F129, opK, opOf]
  · have hk' : ¬ (6 : Int) = k := fun h => hk h.symm
    simp [F129, opK, opOf, hk, hk']
theorem op129_15 (k : Int) (H : Heap) : callF E1 129 [.int .i64 k, .str [42]] H = some (.tup [.int .i64 (opK k [42]).1, .bool (opK k [42]).2], H) := by
  rw [go (fn := F129) rfl rfl rfl]
  by_cases hk : k = 7
  · subst hk; simp [F129, opK, opOf]
  · have hk' : ¬ (7 : Int) = k := fun h => hk h.symm
    simp [F129, opK, opOf, hk, hk']
theorem op129_16 (k : Int) (H : Heap) : callF E1 129 [.int .i64 k, .str [47]] H = some (.tup [.int .i64 (opK k [47]).1, .bool (opK k [47]).2], H) := by
  rw [go (fn := F129) rfl rfl rfl]
  by_cases hk : k = 7
  · subst hk; simp [F129, opK, opOf]
  · have hk' : ¬ (7 : Int) = k := fun h => hk h.symm
    simp [F129, opK, opOf, hk, hk']
theorem op129_17 (k : Int) (H : Heap) : callF E1 129 [.int .i64 k, .str [37]] H = some (.tup [.int .i64 (opK k [37]).1, .bool (opK k [37]).2], H) := by
  rw [go (fn := F129) rfl rfl rfl]
  by_cases hk : k = 7
  · subst hk; simp [F129, opK, opOf]
  · have hk' : ¬ (7 : Int) = k := fun h => hk h.symm
    simp [F129, opK, opOf, hk, hk']
theorem op129_0 (k : Int) (s : List UInt8) (h1 : ¬ s = [124]) (h2 : ¬ s = [94]) (h3 : ¬ s = [38]) (h4 : ¬ s = [61, 61]) (h5 : ¬ s = [33, 61]) (h6 : ¬ s = [60]) (h7 : ¬ s = [60, 61]) (h8 : ¬ s = [62]) (h9 : ¬ s = [62, 61]) (h10 : ¬ s = [60, 60]) (h11 : ¬ s = [62, 62]) (h12 : ¬ s = [62, 62, 62]) (h13 : ¬ s = [43]) (h14 : ¬ s = [45]) (h15 : ¬ s = [42]) (h16 : ¬ s = [47]) (h17 : ¬ s = [37]) (H : Heap) : callF E1 129 [.int .i64 k, .str s] H = some (.tup [.int .i64 (opK k s).1, .bool (opK k s).2], H) := by
  rw [go (fn := F129) rfl rfl rfl]
  have e : opK k s = (0, false) := by simp [opK, opOf, h1, h2, h3, h4, h5, h6, h7, h8, h9, h10, h11, h12, h13, h14, h15, h16, h17]
  rw [e]
  simp [F129, h1, h2, h3, h4, h5, h6, h7, h8, h9, h10, h11, h12, h13, h14, h15, h16, h17]
theorem operator129 (k : Int) (s : List UInt8) (H : Heap) : callF E1 129 [.int .i64 k, .str s] H = some (.tup [.int .i64 (opK k s).1, .bool (opK k s).2], H) := by
  by_cases h1 : s = [124]
  · subst h1; exact op129_1 k H
  by_cases h2 : s = [94]
  · subst h2; exact op129_2 k H
  by_cases h3 : s = [38]
  · subst h3; exact op129_3 k H
  by_cases h4 : s = [61, 61]
  · subst h4; exact op129_4 k H
  by_cases h5 : s = [33, 61]
  · subst h5; exact op129_5 k H
  by_cases h6 : s = [60]
  · subst h6; exact op129_6 k H
  by_cases h7 : s = [60, 61]
  · subst h7; exact op129_7 k H
  by_cases h8 : s = [62]
  · subst h8; exact op129_8 k H
  by_cases h9 : s = [62, 61]
  · subst h9; exact op129_9 k H
  by_cases h10 : s = [60, 60]
  · subst h10; exact op129_10 k H
  by_cases h11 : s = [62, 62]
  · subst h11; exact op129_11 k H
  by_cases h12 : s = [62, 62, 62]
  · subst h12; exact op129_12 k H
  by_cases h13 : s = [43]
  · subst h13; exact op129_13 k H
  by_cases h14 : s = [45]
  · subst h14; exact op129_14 k H
  by_cases h15 : s = [42]
  · subst h15; exact op129_15 k H
  by_cases h16 : s = [47]
  · subst h16; exact op129_16 k H
  by_cases h17 : s = [37]
  · subst h17; exact op129_17 k H
  exact op129_0 k s h1 h2 h3 h4 h5 h6 h7 h8 h9 h10 h11 h12 h13 h14 h15 h16 h17 H
section
variable (tk : List Tok) (en : Int) (o : Nat) (hk : TokOk2 tk)
include hk
theorem at_sym (st : St) (hp : inS tk st) (s : List UInt8) (hs : headW s = false) (H : Heap) (ho : o < H.length) : callF E1 30 [.ptr o 0, .int .i64 0, .str s] (H.set o (rdR tk en st)) = some (.bool (stB st (symB tk · s)), H.set o (rdR tk en st)) := by
  rw [at30_0 tk en o hk.len st hp s H ho]
  have : (atB tk · s) = (symB tk · s) := funext fun p => atB_sym hk hs
  rw [this]
theorem at_kw (st : St) (hp : inS tk st) (s : List UInt8) (hs : headW s = true) (H : Heap) (ho : o < H.length) : callF E1 30 [.ptr o 0, .int .i64 0, .str s] (H.set o (rdR tk en st)) = some (.bool (stB st (kwB tk · s)), H.set o (rdR tk en st)) := by
  rw [at30_0 tk en o hk.len st hp s H ho]
  have : (atB tk · s) = (kwB tk · s) := funext fun p => atB_kw hk hs
  rw [this]
theorem exp_sym (st : St) (hp : inS tk st) (s : List UInt8) (hs : headW s = false) (H : Heap) (ho : o < H.length) : callF E1 33 [.ptr o 0, .str s] (H.set o (rdR tk en st)) = some (.tup [], H.set o (rdR tk en (expS tk st s))) := by
  rw [expect33 tk en o hk.len st hp s H ho]
  have : (atB tk · s) = (symB tk · s) := funext fun p => atB_sym hk hs
  rw [this]
  rfl
omit hk
theorem inS_exp {st : St} {s : List UInt8} (hp : inS tk st) : inS tk (expS tk st s) := by
  intro q hq
  unfold expS at hq
  cases hc : stB st (symB tk · s) with
  | true =>
    obtain ⟨p, rfl, hb⟩ := stB_true hc
    simp [hb] at hq
    have := sym_lt tk hb
    omega
  | false =>
    rw [hc] at hq
    cases st <;> simp [bad] at hq
theorem inS_adv {st : St} {c : Nat → Bool} (hc : stB st c = true) (hlt : ∀ p, c p = true → p < tk.length) : inS tk (adv st) := by
  obtain ⟨p, rfl, hb⟩ := stB_true hc
  intro q hq
  cases hq
  have := hlt p hb
  omega
theorem inS_error (p : Nat) : inS tk (.error p) := fun q hq => by cases hq
end
end Go.Proofs.Ytkomfefpfalajaa

namespace Go.Proofs.Ytkomfefpfalajaa
open Go Go.Proofs Ab
set_option maxRecDepth 100000
set_option linter.unusedSimpArgs false
set_option linter.unusedVariables false
section
variable (tk : List Tok) (en : Int) (o : Nat) (hk : TokOk2 tk)
include hk
theorem badR145 (P : Nat → Rs Ex) (p : Nat) : ConR tk en o 145 [] encE P (.error p) := by
  obtain ⟨nm, hn, -⟩ := name31 tk en o hk (.error p) (inS_error tk p)
  have h1 := app (atNumber143 tk en o hk (.error p) 0 (by omega) (inS_error tk p))
  have h2 := app (at_sym tk en o hk (.error p) (inS_error tk p) [40] rfl)
  have h3 := app (at_sym tk en o hk (.error p) (inS_error tk p) [91] rfl)
  have hn' := app hn
  simp at h1 h2 h3 hn'
  refine ⟨.mk 2 0 nm 0 [], fun H ho => ?_, by simp⟩
  rw [go (fn := F145) rfl rfl rfl]
  simp [F145, ho, h1, h2, h3, hn'] <;> rfl
theorem badR128 (P : Nat → Rs Ex) (p : Nat) : ConR tk en o 128 [] encE P (.error p) := by
  obtain ⟨⟨k, n, s, op, ks⟩, hv, -⟩ := badR145 tk en o hk P p
  have h1 := app (at_sym tk en o hk (.error p) (inS_error tk p) [45] rfl)
  have h2 := app (at_sym tk en o hk (.error p) (inS_error tk p) [126] rfl)
  have h3 := app (at_sym tk en o hk (.error p) (inS_error tk p) [33] rfl)
  have hv' := app hv
  simp at h1 h2 h3 hv'
  refine ⟨.mk k n s op ks, fun H ho => ?_, by simp⟩
  rw [go (fn := F128) rfl rfl rfl]
  simp [F128, ho, h1, h2, h3, hv'] <;> rfl
omit hk in
theorem loop107_bad (k : Nat) (a : Ex) (c : Cap) (p : Nat) (J : Heap) (s : Slots) (H : Heap) (ho : o < H.length) (s0 : get s 0 = .ptr o 0) (s1 : get s 1 = .int .i64 k) (s4 : get s 4 = .ptr H.length 0) (s5 : get s 5 = .ptr (H.length + 1) 0) :
    blkK (some [4, 5]) 0 (runF E1 H.length false c107_28 s (H.set o (rdR tk en (.error p)) ++ zE :: .cells (leavesC c a) :: J)) = some (.nrm, [(4, .ptr H.length 0), (5, .ptr (H.length + 1) 0)], H.set o (rdR tk en (.error p)) ++ zE :: .cells (leavesC c a) :: J) := by
  have h1 := app (ok29 tk en o (.error p))
  simp at h1
  rw [q107_28]
  simp [s0, s1, s4, s5, ho, h1]
theorem badR107 (P : Nat → Rs Ex) (p : Nat) : ∀ (j k : Nat), k + j = 8 → ConR tk en o 107 [.int .i64 k] encE P (.error p)
  | 0, k, hk8 => by
    have : k = 8 := by omega
    subst this
    obtain ⟨⟨k, n, s, op, ks⟩, hv, -⟩ := badR128 tk en o hk P p
    refine ⟨.mk k n s op ks, fun H ho => ?_, by simp⟩
    rw [go (fn := F107) rfl rfl rfl]
    have h5 := app hv
    simp at h5
    simp [F107, ho, h5] <;> rfl
  | j + 1, k, hk8 => by
    obtain ⟨⟨k', n, s, op, ks⟩, hv, -⟩ := badR107 P p j (k + 1) (by omega)
    refine ⟨.mk k' n s op ks, fun H ho => ?_, by simp⟩
    rw [go (fn := F107) rfl rfl rfl]
    have h5 := app hv
    have hw : IntKind.i64.wrap ((k : Int) + 1) = ((k + 1 : Nat) : Int) := wrapR ⟨by omega, by omega⟩
    have hk7 : ¬ ((7 : Int) < k) := by omega
    have hk7' : ¬ (7 < k) := by omega
    have hl := loop107_bad tk en o k (.mk k' n s op ks) .none p [] [(0, .ptr o 0), (1, .int .i64 k), (4, .ptr H.length 0), (5, .ptr (H.length + 1) 0)] H ho rfl rfl rfl rfl
    simp [leavesC_mk] at h5 hl
    simp [F107, ho, h5, hk7, hk7', hw, hl] <;> rfl
theorem badR68 (P : Nat → Rs Ex) (p : Nat) : ConR tk en o 68 [] encE P (.error p) := by
  obtain ⟨⟨k, n, s, op, ks⟩, hv, -⟩ := badR107 tk en o hk P p 8 0 rfl
  refine ⟨.mk k n s op ks, fun H ho => ?_, by simp⟩
  rw [go (fn := F68) rfl rfl rfl]
  have h1 := app (at_sym tk en o hk (.error p) (inS_error tk p) [63] rfl)
  have h5 := app hv
  simp at h1 h5
  simp [F68, ho, h1, h5] <;> rfl
end
end Go.Proofs.Ytkomfefpfalajaa

namespace Go.Proofs.Ytkomfefpfalajaa
open Go Go.Proofs Ab
set_option maxRecDepth 100000
set_option linter.unusedSimpArgs false
set_option linter.unusedVariables false
def parP (tk : List Tok) (n p : Nat) : Rs Ex := if symB tk p [40] = true then (match exprP tk n (p + 1) with
      | .error q => .error q
      | .ok (x, p1) => match expectP tk p1 [41] with
        | .error q => .error q
        | .ok p2 => .ok (x, p2)) else primP tk n p
section
variable (tk : List Tok) (en : Int) (o : Nat) (hk : TokOk2 tk)
abbrev rdO (tk : List Tok) (en : Int) (p : Nat) : Ob := .cells [.sl .none (encTs tk), .int .i64 (ic p), .int .i64 en, .int .i64 0, .int .i64 0]
include hk
/-- positions stay within the text -/
theorem expr_in (n : Nat) {p q : Nat} {v : Ex} (h : exprP tk n p = .ok (v, q)) : q ≤ tk.length := by
  have _ := hk
  exact (expr_up tk n).1 _ _ _ h
theorem goodR145 (n p : Nat) (hp : p ≤ tk.length) (hE0 : p < tk.length → ConR tk en o 68 [] encE (exprP tk (n + 1)) (.ok (p + 1))) (hE : p + 1 < tk.length → ConR tk en o 68 [] encE (exprP tk n) (.ok (p + 1 + 1))) : ConR tk en o 145 [] encE (parP tk (n + 1)) (.ok p) := by
  have hin : inS tk (.ok p) := fun q hq => by cases hq; exact hp
  have h1 := app (atNumber143 tk en o hk (.ok p) 0 (by omega) hin)
  simp at h1
  cases hn : numB tk p with
  | true =>
    obtain ⟨⟨k, m, w, op, ks⟩, hv, hval⟩ := number144_pos tk en o hk p hn n
    have hs : symB tk p [40] = false := by
      have : (tokAt tk p).kind = 2 := by simpa [numB] using hn
      simp [symB, this]
    have hr : parP tk (n + 1) p = primP tk (n + 1) p := by unfold parP; rw [hs]; simp
    have hv' := app hv
    rw [hn] at h1
    simp at hv'
    refine ⟨.mk k m w op ks, fun H ho => ?_, by simpa [hr] using hval⟩
    rw [go (fn := F145) rfl rfl rfl]
    simp [F145, ho, h1, hv', hr] <;> rfl
  | false =>
    rw [hn] at h1
    have h2 := app (at_sym tk en o hk (.ok p) hin [40] rfl)
    simp at h2
    cases hs : symB tk p [40] with
    | true =>
      rw [hs] at h2
      have hlt := sym_lt tk hs
      have hw := wrap_ic (n := p) (by have := hk.len; omega)
      obtain ⟨⟨k, m, w, op, ks⟩, hv, hval⟩ := hE0 hlt
      have hv' := app hv
      simp at hv' hval
      have hv2 : ∀ (H X : Heap), o < H.length → callF E1 68 [.ptr o 0] (H.set o (rdO tk en (p + 1)) ++ X) = some (.agg [.int .i64 k, .int .i64 m, .str w, .int .i64 op, .sl .none (encEs ks)], H.set o (rdR tk en (stR (exprP tk (n + 1) (p + 1)))) ++ X) := hv'
      have hin2 : inS tk (stR (exprP tk (n + 1) (p + 1))) := by
        intro q hq
        rcases hx : exprP tk (n + 1) (p + 1) with e | ⟨v, q'⟩
        · rw [hx] at hq; cases hq
        · rw [hx] at hq
          simp at hq
          have := expr_in tk hk _ hx
          omega
      have h4 := app (exp_sym tk en o hk _ hin2 [41] rfl)
      have hst : stR (parP tk (n + 1) p) = expS tk (stR (exprP tk (n + 1) (p + 1))) [41] := by
        unfold parP
        rw [if_pos hs]
        rcases hx : exprP tk (n + 1) (p + 1) with q | ⟨v, q⟩
        · simp [expS_error]
        · simp [expS_ok]
          cases expectP tk q [41] <;> simp
      refine ⟨.mk k m w op ks, fun H ho => ?_, ?_⟩
      · rw [go (fn := F145) rfl rfl rfl]
        simp [F145, ho, h1, h2, hw, hv2, h4, hst] <;> rfl
      · rw [runS_ok]
        unfold parP
        rw [if_pos hs]
        rcases hx : exprP tk (n + 1) (p + 1) with q | ⟨v, q⟩
        · simp
        · simp [hx] at hval
          simp [hval]
          cases expectP tk q [41] <;> simp
    | false =>
      rw [hs] at h2
      have hr0 : parP tk (n + 1) p = primP tk (n + 1) p := by unfold parP; rw [hs]; simp
      obtain ⟨nm, hnv, hnval⟩ := name31 tk en o hk (.ok p) hin
      have hn' := app hnv
      simp at hn'
      cases hb : nmB tk p with
      | false =>
        have hnp : nameP tk p = .error p := by simp [nameP, hb]
        have hr : primP tk (n + 1) p = .error p := by simp [primP, hn, hnp]
        have h3 := app (at_sym tk en o hk (.error p) (inS_error tk p) [91] rfl)
        rw [hnp] at hn'
        simp at hn' h3
        refine ⟨.mk 2 0 nm 0 [], fun H ho => ?_, by simp [hr0, hr]⟩
        rw [go (fn := F145) rfl rfl rfl]
        simp [F145, ho, h1, h2, hn', h3, hr0, hr] <;> rfl
      | true =>
        have hlt := nm_lt tk hb
        have hnp : nameP tk p = .ok ((tokAt tk p).text, p + 1) := by simp [nameP, hb]
        simp [hnp] at hn' hnval
        subst hnval
        have hin1 : inS tk (.ok (p + 1)) := fun q hq => by cases hq; omega
        have h3 := app (at_sym tk en o hk (.ok (p + 1)) hin1 [91] rfl)
        simp at h3
        cases hs1 : symB tk (p + 1) [91] with
        | false =>
          have hr : primP tk (n + 1) p = .ok (varE (tokAt tk p).text, p + 1) := by simp [primP, hn, hnp, hs1]
          rw [hs1] at h3
          refine ⟨varE (tokAt tk p).text, fun H ho => ?_, by simp [hr0, hr]⟩
          rw [go (fn := F145) rfl rfl rfl]
          simp [F145, ho, h1, h2, hn', h3, hr0, hr, varE] <;> rfl
        | true =>
          rw [hs1] at h3
          have hlt1 := sym_lt tk hs1
          have hw := wrap_ic (n := p + 1) (by have := hk.len; omega)
          obtain ⟨⟨k, m, w, op, ks⟩, hv, hval⟩ := hE hlt1
          have hv' := app hv
          simp at hv' hval
          have hv2 : ∀ (H X : Heap), o < H.length → callF E1 68 [.ptr o 0] (H.set o (rdO tk en (p + 1 + 1)) ++ X) = some (.agg [.int .i64 k, .int .i64 m, .str w, .int .i64 op, .sl .none (encEs ks)], H.set o (rdR tk en (stR (exprP tk n (p + 1 + 1)))) ++ X) := hv'
          have hin2 : inS tk (stR (exprP tk n (p + 1 + 1))) := by
            intro q hq
            rcases hx : exprP tk n (p + 1 + 1) with e | ⟨v, q'⟩
            · rw [hx] at hq; cases hq
            · rw [hx] at hq
              simp at hq
              have := expr_in tk hk _ hx
              omega
          have h4 := app (exp_sym tk en o hk _ hin2 [93] rfl)
          have hst : stR (primP tk (n + 1) p) = expS tk (stR (exprP tk n (p + 1 + 1))) [93] := by
            simp [primP, hn, hnp, hs1]
            rcases hx : exprP tk n (p + 1 + 1) with q | ⟨v, q⟩
            · simp [expS_error]
            · simp [expS_ok]
              cases expectP tk q [93] <;> simp
          refine ⟨ixE (tokAt tk p).text (.mk k m w op ks), fun H ho => ?_, ?_⟩
          · rw [go (fn := F145) rfl rfl rfl]
            simp [F145, ho, h1, h2, hn', h3, hw, hv2, h4, hr0, hst, ixE] <;> rfl
          · rw [runS_ok, hr0]
            simp [primP, hn, hnp, hs1]
            rcases hx : exprP tk n (p + 1 + 1) with q | ⟨v, q⟩
            · simp
            · simp [hx] at hval
              subst hval
              simp
              cases expectP tk q [93] <;> simp
end
end Go.Proofs.Ytkomfefpfalajaa

namespace Go.Proofs.Ytkomfefpfalajaa
open Go Go.Proofs Ab
set_option maxRecDepth 100000
set_option linter.unusedSimpArgs false
set_option linter.unusedVariables false
section
variable (tk : List Tok) (en : Int) (o : Nat) (hk : TokOk2 tk)
theorem unary_eq (n p : Nat) : unaryP tk (n + 1) p = if symB tk p [45] then (if numB tk (p + 1) then .ok (numE (negV (tokAt tk (p + 1)).text), p + 2) else match unaryP tk n (p + 1) with
      | .error q => .error q
      | .ok (x, p1) => .ok (opE 20 [x], p1))
    else if symB tk p [126] then (match unaryP tk n (p + 1) with
      | .error q => .error q
      | .ok (x, p1) => .ok (opE 21 [x], p1))
    else if symB tk p [33] then (match unaryP tk n (p + 1) with
      | .error q => .error q
      | .ok (x, p1) => .ok (opE 15 [x, numE 0], p1))
    else parP tk n p := by
  rw [unaryP]
  rfl
include hk
theorem goodR128 (n p : Nat) (hp : p ≤ tk.length) (hU : p < tk.length → ConR tk en o 128 [] encE (unaryP tk n) (.ok (p + 1))) (hP : ConR tk en o 145 [] encE (parP tk n) (.ok p)) : ConR tk en o 128 [] encE (unaryP tk (n + 1)) (.ok p) := by
  have hin : inS tk (.ok p) := fun q hq => by cases hq; exact hp
  have h1 := app (at_sym tk en o hk (.ok p) hin [45] rfl)
  have h2 := app (at_sym tk en o hk (.ok p) hin [126] rfl)
  have h3 := app (at_sym tk en o hk (.ok p) hin [33] rfl)
  have h4 := app (atNumber143 tk en o hk (.ok p) 1 (by omega) hin)
  simp at h1 h2 h3 h4
  have hlen := hk.len
  cases hs1 : symB tk p [45] with
  | true =>
    rw [hs1] at h1
    have hlt := sym_lt tk hs1
    have hw := wrap_ic (n := p) (by omega)
    cases hn : numB tk (p + 1) with
    | true =>
      rw [hn] at h4
      have hv' := app (number144_neg tk en o hk (p + 1) hn)
      have hv2 : ∀ (H X : Heap), o < H.length → callF E1 144 [.ptr o 0, .bool true] (H.set o (rdO tk en (p + 1)) ++ X) = some (encE (numE (negV (tokAt tk (p + 1)).text)), H.set o (rdR tk en (.ok (p + 1 + 1))) ++ X) := hv'
      simp [numE] at hv2
      have hr : unaryP tk (n + 1) p = .ok (numE (negV (tokAt tk (p + 1)).text), p + 1 + 1) := by rw [unary_eq, hs1, hn]; rfl
      refine ⟨numE (negV (tokAt tk (p + 1)).text), fun H ho => ?_, by simp [hr]⟩
      rw [go (fn := F128) rfl rfl rfl]
      simp [F128, ho, h1, h4, hw, hv2, hr, numE] <;> rfl
    | false =>
      rw [hn] at h4
      obtain ⟨⟨k, m, w, op, ks⟩, hv, hval⟩ := hU hlt
      have hv' := app hv
      simp at hv' hval
      have hv2 : ∀ (H X : Heap), o < H.length → callF E1 128 [.ptr o 0] (H.set o (rdO tk en (p + 1)) ++ X) = some (.agg [.int .i64 k, .int .i64 m, .str w, .int .i64 op, .sl .none (encEs ks)], H.set o (rdR tk en (stR (unaryP tk n (p + 1)))) ++ X) := hv'
      have hst : stR (unaryP tk (n + 1) p) = stR (unaryP tk n (p + 1)) := by
        rw [unary_eq, hs1, hn]
        rcases unaryP tk n (p + 1) with q | ⟨v, q⟩ <;> rfl
      refine ⟨opE 20 [.mk k m w op ks], fun H ho => ?_, ?_⟩
      · rw [go (fn := F128) rfl rfl rfl]
        simp [F128, ho, h1, h4, hw, hv2, hst, opE] <;> rfl
      · rw [runS_ok, unary_eq, hs1, hn]
        rcases hx : unaryP tk n (p + 1) with q | ⟨v, q⟩
        · simp
        · simp [hx] at hval
          simp [hval]
  | false =>
  rw [hs1] at h1
  cases hs2 : symB tk p [126] with
  | true =>
    rw [hs2] at h2
    have hlt := sym_lt tk hs2
    have hw := wrap_ic (n := p) (by omega)
    obtain ⟨⟨k, m, w, op, ks⟩, hv, hval⟩ := hU hlt
    have hv' := app hv
    simp at hv' hval
    have hv2 : ∀ (H X : Heap), o < H.length → callF E1 128 [.ptr o 0] (H.set o (rdO tk en (p + 1)) ++ X) = some (.agg [.int .i64 k, .int .i64 m, .str w, .int .i64 op, .sl .none (encEs ks)], H.set o (rdR tk en (stR (unaryP tk n (p + 1)))) ++ X) := hv'
    have hst : stR (unaryP tk (n + 1) p) = stR (unaryP tk n (p + 1)) := by
      rw [unary_eq, hs1, hs2]
      rcases unaryP tk n (p + 1) with q | ⟨v, q⟩ <;> rfl
    refine ⟨opE 21 [.mk k m w op ks], fun H ho => ?_, ?_⟩
    · rw [go (fn := F128) rfl rfl rfl]
      simp [F128, ho, h1, h2, hw, hv2, hst, opE] <;> rfl
    · rw [runS_ok, unary_eq, hs1, hs2]
      rcases hx : unaryP tk n (p + 1) with q | ⟨v, q⟩
      · simp
      · simp [hx] at hval
        simp [hval]
  | false =>
  rw [hs2] at h2
  cases hs3 : symB tk p [33] with
  | true =>
    rw [hs3] at h3
    have hlt := sym_lt tk hs3
    have hw := wrap_ic (n := p) (by omega)
    obtain ⟨⟨k, m, w, op, ks⟩, hv, hval⟩ := hU hlt
    have hv' := app hv
    simp at hv' hval
    have hv2 : ∀ (H X : Heap), o < H.length → callF E1 128 [.ptr o 0] (H.set o (rdO tk en (p + 1)) ++ X) = some (.agg [.int .i64 k, .int .i64 m, .str w, .int .i64 op, .sl .none (encEs ks)], H.set o (rdR tk en (stR (unaryP tk n (p + 1)))) ++ X) := hv'
    have hst : stR (unaryP tk (n + 1) p) = stR (unaryP tk n (p + 1)) := by
      rw [unary_eq, hs1, hs2, hs3]
      rcases unaryP tk n (p + 1) with q | ⟨v, q⟩ <;> rfl
    refine ⟨opE 15 [.mk k m w op ks, numE 0], fun H ho => ?_, ?_⟩
    · rw [go (fn := F128) rfl rfl rfl]
      simp [F128, ho, h1, h2, h3, hw, hv2, hst, opE, numE] <;> rfl
    · rw [runS_ok, unary_eq, hs1, hs2, hs3]
      rcases hx : unaryP tk n (p + 1) with q | ⟨v, q⟩
      · simp
      · simp [hx] at hval
        simp [hval]
  | false =>
    rw [hs3] at h3
    obtain ⟨⟨k, m, w, op, ks⟩, hv, hval⟩ := hP
    have hv' := app hv
    simp at hv' hval
    have hr : unaryP tk (n + 1) p = parP tk n p := by rw [unary_eq, hs1, hs2, hs3]; rfl
    refine ⟨.mk k m w op ks, fun H ho => ?_, by simpa [hr] using hval⟩
    rw [go (fn := F128) rfl rfl rfl]
    simp [F128, ho, h1, h2, h3, hv', hr] <;> rfl
end
end Go.Proofs.Ytkomfefpfalajaa
