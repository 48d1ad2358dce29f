/- The framework, part 9: Prec. -/
import Derived.Test.YtkomfefpfalajaaAb8
import Derived.KernelRfl
/- The law of precedence, without a program in sight. -/
namespace Ab
open Go
def sgn : Nat → List UInt8
  | 0 => [124] | 1 => [94] | 2 => [38] | 3 => [61, 61] | 4 => [60] | 5 => [60, 60] | 6 => [43] | _ => [42]
def precE (s t : List UInt8) : List UInt8 := [102, 117, 110, 99, 32, 102, 40, 120, 44, 32, 121, 44, 32, 122, 41, 32, 123, 32, 114, 101, 116, 117, 114, 110, 32] ++ ([120, 32] ++ s ++ [32, 121, 32] ++ t ++ [32, 122]) ++ [59, 32, 125]
def precR (s t : List UInt8) : List UInt8 := [120, 32] ++ s ++ [32, 40, 121, 32] ++ t ++ [32, 122, 41]
def precL (s t : List UInt8) : List UInt8 := [40, 40, 120, 41, 32] ++ s ++ [32, 121, 41, 32] ++ t ++ [32, 40, 40, 40, 122, 41, 41, 41]
def precF (s : List UInt8) : List UInt8 := [102, 117, 110, 99, 32, 102, 40, 120, 44, 32, 121, 44, 32, 122, 41, 32, 123, 32, 114, 101, 116, 117, 114, 110, 32, 40] ++ s ++ [41, 59, 32, 125]
def kidsN : Ex → Nat
  | .mk _ _ _ _ ks => ks.length
def topOk (l : Bool) (p : Prg) : Bool := match p.funcs with
  | [f] => match f.value with
    | .mk _ _ _ _ [a, b] => (kidsN a == 2) == l && (kidsN b == 2) == !l
    | _ => false
  | _ => false
theorem prec_top : ∀ p q : Fin 8, (match parseP (precE (sgn p) (sgn q)) with | .ok c => topOk (decide (q ≤ p)) c | _ => false) = true := by decide +kernel
def precG (p q : Nat) : List UInt8 := precF (if q ≤ p then precL (sgn p) (sgn q) else precR (sgn p) (sgn q))
theorem prec_eq : ∀ p q : Nat, p < 8 → q < 8 → parseP (precG p q) = parseP (precE (sgn p) (sgn q))
  | 0, 0, _, _ => by kernel_rfl
  | 0, 1, _, _ => by kernel_rfl
  | 0, 2, _, _ => by kernel_rfl
  | 0, 3, _, _ => by kernel_rfl
  | 0, 4, _, _ => by kernel_rfl
  | 0, 5, _, _ => by kernel_rfl
  | 0, 6, _, _ => by kernel_rfl
  | 0, 7, _, _ => by kernel_rfl
  | 1, 0, _, _ => by kernel_rfl
  | 1, 1, _, _ => by kernel_rfl
  | 1, 2, _, _ => by kernel_rfl
  | 1, 3, _, _ => by kernel_rfl
  | 1, 4, _, _ => by kernel_rfl
  | 1, 5, _, _ => by kernel_rfl
  | 1, 6, _, _ => by kernel_rfl
  | 1, 7, _, _ => by kernel_rfl
  | 2, 0, _, _ => by kernel_rfl
  | 2, 1, _, _ => by kernel_rfl
  | 2, 2, _, _ => by kernel_rfl
  | 2, 3, _, _ => by kernel_rfl
  | 2, 4, _, _ => by kernel_rfl
  | 2, 5, _, _ => by kernel_rfl
  | 2, 6, _, _ => by kernel_rfl
  | 2, 7, _, _ => by kernel_rfl
  | 3, 0, _, _ => by kernel_rfl
  | 3, 1, _, _ => by kernel_rfl
  | 3, 2, _, _ => by kernel_rfl
  | 3, 3, _, _ => by kernel_rfl
  | 3, 4, _, _ => by kernel_rfl
  | 3, 5, _, _ => by kernel_rfl
  | 3, 6, _, _ => by kernel_rfl
  | 3, 7, _, _ => by kernel_rfl
  | 4, 0, _, _ => by kernel_rfl
  | 4, 1, _, _ => by kernel_rfl
  | 4, 2, _, _ => by kernel_rfl
  | 4, 3, _, _ => by kernel_rfl
  | 4, 4, _, _ => by kernel_rfl
  | 4, 5, _, _ => by kernel_rfl
  | 4, 6, _, _ => by kernel_rfl
  | 4, 7, _, _ => by kernel_rfl
  | 5, 0, _, _ => by kernel_rfl
  | 5, 1, _, _ => by kernel_rfl
  | 5, 2, _, _ => by kernel_rfl
  | 5, 3, _, _ => by kernel_rfl
  | 5, 4, _, _ => by kernel_rfl
  | 5, 5, _, _ => by kernel_rfl
  | 5, 6, _, _ => by kernel_rfl
  | 5, 7, _, _ => by kernel_rfl
  | 6, 0, _, _ => by kernel_rfl
  | 6, 1, _, _ => by kernel_rfl
  | 6, 2, _, _ => by kernel_rfl
  | 6, 3, _, _ => by kernel_rfl
  | 6, 4, _, _ => by kernel_rfl
  | 6, 5, _, _ => by kernel_rfl
  | 6, 6, _, _ => by kernel_rfl
  | 6, 7, _, _ => by kernel_rfl
  | 7, 0, _, _ => by kernel_rfl
  | 7, 1, _, _ => by kernel_rfl
  | 7, 2, _, _ => by kernel_rfl
  | 7, 3, _, _ => by kernel_rfl
  | 7, 4, _, _ => by kernel_rfl
  | 7, 5, _, _ => by kernel_rfl
  | 7, 6, _, _ => by kernel_rfl
  | 7, 7, _, _ => by kernel_rfl
  | p + 8, q, h, _ => absurd h (by omega)
  | p, q + 8, _, h => absurd h (by omega)
end Ab
