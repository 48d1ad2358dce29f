/- The law of precedence, run. -/
import Derived.Test.YtkomfefpfalajaaPick
import Derived.Test.YtkomfefpfalajaaAb9
namespace Go.Proofs.Ytkomfefpfalajaa
open Go Go.Proofs Ab
set_option maxRecDepth 100000
set_option linter.unusedSimpArgs false
set_option linter.unusedVariables false
theorem sgn_get (p : Nat) (hp : p < 8) : ([.str [124], .str [94], .str [38], .str [61, 61], .str [60], .str [60, 60], .str [43], .str [42]] : List AV)[p]? = some (.str (sgn p)) := by
  match p, hp with
  | 0, _ => rfl
  | 1, _ => rfl
  | 2, _ => rfl
  | 3, _ => rfl
  | 4, _ => rfl
  | 5, _ => rfl
  | 6, _ => rfl
  | 7, _ => rfl
theorem sgn_len (p : Nat) : (sgn p).length ≤ 2 := by
  unfold sgn
  split <;> simp
theorem prec_run (a b : Int) : callF E1 5 [.int .i64 a, .int .i64 b] [] = some (.bool true, []) := by
  rw [go (fn := F5) rfl rfl rfl]
  have ha := pick a 8 (by omega) (by omega)
  have hb := pick b 8 (by omega) (by omega)
  obtain ⟨p, hp⟩ : ∃ p : Nat, a % 8 = p := ⟨(a % 8).toNat, by omega⟩
  obtain ⟨q, hq⟩ : ∃ q : Nat, b % 8 = q := ⟨(b % 8).toNat, by omega⟩
  have hp8 : p < 8 := by omega
  have hq8 : q < 8 := by omega
  rw [hp] at ha
  rw [hq] at hb
  have g1 := sgn_get p hp8
  have g2 := sgn_get q hq8
  have l1 := sgn_len p
  have l2 := sgn_len q
  have e1 := parse11 (precE (sgn p) (sgn q)) (by simp [precE]; omega)
  have e2 := parse11 (precG p q) (by unfold precG; split <;> simp [precF, precL, precR] <;> omega)
  rw [prec_eq p q hp8 hq8] at e2
  have htop := prec_top ⟨p, hp8⟩ ⟨q, hq8⟩
  simp only [Fin.mk_le_mk] at htop
  cases hx : parseP (precE (sgn p) (sgn q)) with
  | error e => rw [hx] at htop; cases htop
  | ok prg =>
    rw [hx] at htop e1 e2
    have hok := parse_ok hx
    have hsame := sameP prg hok
    simp only at htop
    obtain ⟨ars, fs⟩ := prg
    unfold topOk at htop
    simp only at htop
    split at htop
    · rename_i f
      obtain ⟨nm, ps, ls, bd, v⟩ := f
      simp only at htop
      split at htop
      · rename_i k n s o x y
        obtain ⟨k1, n1, s1, o1, ks1⟩ := x
        obtain ⟨k2, n2, s2, o2, ks2⟩ := y
        simp only [kidsN] at htop
        by_cases hle : q ≤ p
        · have hle' : (q : Int) ≤ p := by omega
          unfold precG at e2
          rw [if_pos hle] at e2
          simp [hle] at htop
          obtain ⟨t1, t2⟩ := htop
          have t1' : (ks1.length : Int) = 2 := by omega
          have t2' : ¬ (ks2.length : Int) = 2 := by omega
          simp [precE, precF, precL, encPR, encP_eq, encFs1, encF, leavesE] at e1 e2 hsame
          simp [F5, ha, hb, g1, g2, hle, hle', e1, e2, hsame, ex3, t1, t2, t1', t2', -getElem?_pos, List.getElem?_cons_zero, List.getElem?_cons_succ]
          omega
        · have hle' : ¬ (q : Int) ≤ p := by omega
          unfold precG at e2
          rw [if_neg hle] at e2
          simp [hle] at htop
          obtain ⟨t1, t2⟩ := htop
          have t1' : ¬ (ks1.length : Int) = 2 := by omega
          have t2' : (ks2.length : Int) = 2 := by omega
          simp [precE, precF, precR, encPR, encP_eq, encFs1, encF, leavesE] at e1 e2 hsame
          simp [F5, ha, hb, g1, g2, hle, hle', e1, e2, hsame, ex3, t1, t2, t1', t2', -getElem?_pos, List.getElem?_cons_zero, List.getElem?_cons_succ]
          omega
      · cases htop
    · cases htop
end Go.Proofs.Ytkomfefpfalajaa
