/- From the abstract machine back to the program. -/
import Derived.Test.YtghlghbpaeimjaaDoorAbEval
import Derived.RowKit3
namespace Ab
open Go Go.RowKit

/-- a world as a call finds it: no object of ours, nothing that changes -/
def St.at (W : World) : St := { m := fun _ => .non, H := [], M := fun _ _ => False, w := W }
theorem own_at (W : World) (o : Nat) : own (St.at W) o = none := own_non rfl
theorem good_at (W : World) : Good (St.at W) where
  objs := fun o => by
    have : (St.at W).H[o]? = none := rfl
    unfold ObjOk
    rw [this]
    trivial
  disj := fun o o' b h => by rw [own_at] at h; cases h
  there := fun o b h => by rw [own_at] at h; cases h

theorem grown_of_step {W : World} {k : Nat} {g : Bool} {S : St} (h : Step k g (St.at W) S) : Grown W S.w := by
  refine ⟨⟨h.os.1, h.os.2.1, fun i hi => ?_⟩, h.froz, h.size⟩
  have hk : S.w.heap[i]? = W.heap[i]? := h.keep i hi fun o ho => by rw [own_at] at ho; cases ho
  rw [hk]
  cases hw : W.heap[i]? with
  | none => rfl
  | some o => cases o <;> first | exact ⟨rfl, rfl, rfl, fun _ _ => rfl⟩ | exact .inr ⟨rfl, rfl⟩ | rfl

theorem calls_of {P : Program} {E : Env} (hmix : P.follows .mixedOrders = true) (hE : ∀ f fn, E.fn f = some fn → FnOk P f fn) (hS : SpOk P E) {W : World} {f : Nat} {args : Array Value} {as : List AV} {b : Bool} {h' : Heap}
    (hg : GlobOk E (St.at W)) (ha : All2 (RC (St.at W)) as args.toList) (hc : callF E f as [] = some (.bool b, h')) :
    Calls P f args W fun e w' => e = .returned (.bool b) ∧ Grown W w' := by
  obtain ⟨n, hn⟩ := callF_iff.1 hc
  obtain ⟨fn, _, _, hcalls⟩ := call_ok hmix hE hS n f as [] _ _ hn
  refine (hcalls (St.at W) args rfl (good_at W) hg ha).mono fun e w' hr => ?_
  obtain ⟨S', u, rfl, rfl, _, hst, _, hv⟩ := hr
  have hu : u = .bool b := hv
  subst hu
  exact ⟨rfl, grown_of_step hst⟩

/-! ### what a row reads -/
theorem imm_at {W : World} {b off : Nat} {vs : List Value} (h : ∀ (j : Nat) v, vs[j]? = some v → W.cell? ⟨b, off + j, none⟩ = some v) : Imm W (fun _ _ => False) b off vs := fun j v hv => ⟨h j v hv, fun h => h⟩
end Ab
