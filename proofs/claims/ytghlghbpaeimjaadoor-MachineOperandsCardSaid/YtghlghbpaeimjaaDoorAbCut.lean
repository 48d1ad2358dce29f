/- Closed stretches of code, by the fueled machine. -/
import Derived.Test.YtghlghbpaeimjaaDoorAbEval
namespace Ab
open Go
section
variable {E : Env} {n0 : Nat} {g : Bool}
/-- a chain of seqs without what follows its k-th part; what follows it -/
def chop : Nat → AC → AC
  | 0, _ => .skip
  | k + 1, .seq a b => .seq a (chop k b)
  | _ + 1, c => c
def tailAt : Nat → AC → AC
  | 0, c => c
  | k + 1, .seq _ b => tailAt k b
  | _ + 1, _ => .skip
theorem runF_of {n m : Nat} {c : AC} {s : Slots} {h : Heap} {r : Ext × Slots × Heap} (hr : run E n0 g (call E m) n c s h = some r) : runF E n0 g c s h = some r := by
  have ht : Tends (call E m) fun _ => callF E := fun f as h r hh => ⟨0, fun _ _ => callF_iff.2 ⟨m, hh⟩⟩
  obtain ⟨N, hN⟩ := run_tends ht n _ _ _ _ hr
  exact runF_iff.2 ⟨n, hN N n (Nat.le_refl _) (Nat.le_refl _)⟩
theorem runF_chop : ∀ (k : Nat) (c : AC) (s s' : Slots) (h h' : Heap), runF E n0 g (chop k c) s h = some (.nrm, s', h') → runF E n0 g c s h = runF E n0 g (tailAt k c) s' h'
  | 0, c, s, s', h, h', hr => by
    rw [show chop 0 c = .skip by cases c <;> rfl, runF_skip] at hr
    cases hr
    cases c <;> rfl
  | k + 1, .seq a b, s, s', h, h', hr => by
    rw [show chop (k + 1) (.seq a b) = .seq a (chop k b) from rfl, runF_seq] at hr
    rw [runF_seq, show tailAt (k + 1) (.seq a b) = tailAt k b from rfl]
    cases ha : runF E n0 g a s h with
    | none => rw [ha] at hr; cases hr
    | some x =>
      obtain ⟨e, s1, h1⟩ := x
      rw [ha] at hr
      cases e with
      | nrm => exact runF_chop k b s1 s' h1 h' hr
      | exit id => cases hr
      | ret => cases hr
  | k + 1, .skip, s, s', h, h', hr => by rw [show chop (k + 1) AC.skip = .skip from rfl] at hr; rw [hr]; exact runF_skip.symm
  | k + 1, .reg L pre ops dr, s, s', h, h', hr => by rw [show chop (k + 1) (AC.reg L pre ops dr) = .reg L pre ops dr from rfl] at hr; rw [hr]; exact runF_skip.symm
  | k + 1, .cond c a b, s, s', h, h', hr => by rw [show chop (k + 1) (AC.cond c a b) = .cond c a b from rfl] at hr; rw [hr]; exact runF_skip.symm
  | k + 1, .block L id b, s, s', h, h', hr => by rw [show chop (k + 1) (AC.block L id b) = .block L id b from rfl] at hr; rw [hr]; exact runF_skip.symm
  | k + 1, .loop L b, s, s', h, h', hr => by rw [show chop (k + 1) (AC.loop L b) = .loop L b from rfl] at hr; rw [hr]; exact runF_skip.symm
  | k + 1, .exit id, s, s', h, h', hr => by rw [show chop (k + 1) (AC.exit id) = .exit id from rfl] at hr; rw [hr]; exact runF_skip.symm
  | k + 1, .ret, s, s', h, h', hr => by rw [show chop (k + 1) AC.ret = .ret from rfl] at hr; rw [hr]; exact runF_skip.symm
/-- a closed stretch goes on behind itself -/
def goesOn (x : Option (Ext × Slots × Heap)) : Bool := match x with | some (.nrm, _, _) => true | _ => false
theorem chop_goes {k n m : Nat} {c : AC} {s : Slots} {h : Heap} (hr : goesOn (run E n0 g (call E m) n (chop k c) s h) = true) : ∃ s' h', runF E n0 g c s h = runF E n0 g (tailAt k c) s' h' := by
  cases hx : run E n0 g (call E m) n (chop k c) s h with
  | none => rw [hx] at hr; cases hr
  | some x =>
    obtain ⟨e, s1, h1⟩ := x
    rw [hx] at hr
    cases e with
    | nrm => exact ⟨s1, h1, runF_chop k c s s1 h h1 (runF_of hx)⟩
    | exit id => cases hr
    | ret => cases hr
end
end Ab
