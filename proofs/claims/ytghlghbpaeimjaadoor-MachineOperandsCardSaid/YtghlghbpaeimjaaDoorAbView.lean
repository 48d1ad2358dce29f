/- A function of the program, seen as compact code. -/
import Derived.Test.YtghlghbpaeimjaaDoorAbCallOk
namespace Ab
open Go
def fnView (P : Program) (mt : Nat → Nat → Bool) (pf : Func) : Option (AC × List AR × Nat × Bool × Bool) :=
  match pf.body with
  | none => none
  | some cc => match codeS P mt cc, resS P pf.results.toList with
    | some c, some r => some (c, r, pf.ntmps, dstsBelow pf.ntmps cc, pf.name == "runtime.NumGoroutine")
    | _, _ => none
theorem FnOk.of_view {P : Program} {f : Nat} {pf : Func} {mt : Nat → Nat → Bool} {fn : AFn} {n : Nat} (hf : P.funcs[f]? = some pf) (hv : fnView P mt pf = some (erase fn.code, fn.res, n, true, false)) (hn : fn.np ≤ n) : FnOk P f fn := by
  unfold fnView at hv
  split at hv
  · cases hv
  · rename_i cc hcc
    split at hv
    · rename_i c r hc hr
      simp only [Option.some.injEq, Prod.mk.injEq] at hv
      obtain ⟨rfl, rfl, rfl, hd, hname⟩ := hv
      exact ⟨pf, cc, mt, hf, hcc, hname, hc, hd, hn, hr⟩
    · cases hv
end Ab
