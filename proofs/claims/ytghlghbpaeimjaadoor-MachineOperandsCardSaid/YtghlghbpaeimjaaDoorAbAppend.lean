/- append: what the model's operation does in each of its ways, and how the state goes on. -/
import Derived.Test.YtghlghbpaeimjaaDoorAbHeapOps2
namespace Ab
open Go

theorem growBy_le (m : Nat) : ∀ r c, c < m → Builtin.growBy m r c ≤ m + (m + 768) / 4
  | 0, c, h => by simp only [Builtin.growBy]; omega
  | r + 1, c, h => by
    simp only [Builtin.growBy]
    split
    · omega
    · by_cases h2 : c + (c + 768) / 4 < m
      · exact growBy_le m r _ h2
      · cases r with
        | zero => simp only [Builtin.growBy]; omega
        | succ r => simp only [Builtin.growBy]; rw [if_pos (by omega)]; omega
theorem nextslicecap_le {m c : Nat} (h : c < m) : Builtin.nextslicecap m c ≤ 2 * m + 2048 := by
  unfold Builtin.nextslicecap
  split
  · omega
  · split
    · omega
    · have := growBy_le m 4 c h; omega

section
variable {P : Program} {vf : Opd → AV} {ρ : Operand → Value}

/-- the second operand is a slice or a string -/
def NoInt (P : Program) (t : TypeId) : Prop := (∃ e, P.underlying t = some (.slice e)) ∨ P.underlying t = some .string
theorem NoInt.run {t : TypeId} (h : NoInt P t) (w : World) : ((do pure ((← underlying t) matches .int _)) : Sem Bool).run P w = .ok false w := by
  rcases h with ⟨e, h⟩ | h <;> simp [run_underlying h]

theorem run_append_fit {w w' : World} {sT xT e : TypeId} {i : TypeInfo} {base : Option Addr} {sLen sCap n : Nat} {x : Value} {new : List Value} (h0 : P.underlying sT = some (.slice e)) (hi : P.info? e = some i) (hx : NoInt P xT) (ty : TypeId) (hl : (Builtin.lenOf x).run P w = .ok n w)
    (hf : (Builtin.firstCells i.size n x).run P w = .ok new.toArray w) (hc : sLen + n ≤ sCap)
    (hst : match base with | some a => (storeCells (a.add (sLen * i.size)) new).run P w = .ok () w' | none => w' = w) :
    (Builtin.append_ #[sT, xT] ty #[.slice base sLen sCap, x]).run P w = .ok (.slice base (sLen + n) sCap) w' := by
  have hsz : (Go.sizeOf e).run P w = .ok i.size w := by simp [Go.sizeOf, typeInfo, hi]
  have hz := hx.run w
  simp only [Builtin.append_]
  simp only [List.getElem?_toArray, List.getElem?_cons_zero, List.getElem?_cons_succ, Sem.run_bind, run_underlying h0, Result.andThen_ok, hsz]
  rcases hx with ⟨e', hx⟩ | hx
  all_goals
    simp only [run_underlying hx, Result.andThen_ok, Sem.run_pure, Bool.false_eq_true, if_false, hl, hc, if_true, Sem.run_bind, Bool.not_false, hf]
    cases base with
    | none => simp only at hst; subst hst; simp
    | some a => simp only at hst; simp [hst]

theorem run_append_grow {w : World} {sT xT e : TypeId} {i : TypeInfo} {base : Option Addr} {sLen sCap n : Nat} {x : Value} {old new : List Value} {z : Value} (h0 : P.underlying sT = some (.slice e)) (hi : P.info? e = some i) (hx : NoInt P xT) (ty : TypeId) (hl : (Builtin.lenOf x).run P w = .ok n w)
    (hf : (Builtin.firstCells i.size n x).run P w.drew = .ok new.toArray w.drew) (ho : (Builtin.firstCells i.size sLen (.slice base sLen sCap)).run P w.drew = .ok old.toArray w.drew) (hz : i.zero = some z) (hb : i.bytes ≠ 0) (hc : ¬ sLen + n ≤ sCap)
    (hbd : 2 * ((sLen + n) * i.bytes) + 2048 * i.bytes ≤ 281474976710656) :
    ∃ cap, sLen + n ≤ cap ∧ (Builtin.append_ #[sT, xT] ty #[.slice base sLen sCap, x]).run P w =
      .ok (.slice (some ⟨w.heap.size, 0, none⟩) (sLen + n) cap) (w.drew.alloc (.cells (old ++ new ++ (Builtin.zeroCells z.cells (cap - (sLen + n))).toList).toArray e (0, 0))) := by
  have hsz : ∀ w, (Go.sizeOf e).run P w = .ok i.size w := fun w => by simp [Go.sizeOf, typeInfo, hi]
  have hti : ∀ w, (typeInfo e).run P w = .ok i w := fun w => by simp [typeInfo, hi]
  have hze : ∀ w, (zeroValue e).run P w = .ok z w := fun w => by simp [zeroValue, typeInfo, hi, hz]
  have hcap : ¬ (Builtin.nextslicecap (sLen + n) sCap * i.bytes > 281474976710656) := by
    have h1 := nextslicecap_le (m := sLen + n) (c := sCap) (by omega)
    have h2 := Nat.mul_le_mul_right i.bytes h1
    have h3 : (2 * (sLen + n) + 2048) * i.bytes = 2 * ((sLen + n) * i.bytes) + 2048 * i.bytes := by rw [Nat.add_mul, Nat.mul_assoc]
    omega
  refine ⟨sLen + n + w.tape w.drawn (.appendCap (sLen + n) sCap e) % (2 ^ 63 - (sLen + n)), by omega, ?_⟩
  simp only [Builtin.append_]
  simp only [List.getElem?_toArray, List.getElem?_cons_zero, List.getElem?_cons_succ, Sem.run_bind, run_underlying h0, Result.andThen_ok, hsz]
  rcases hx with ⟨e', hx⟩ | hx
  all_goals
    simp only [run_underlying hx, Result.andThen_ok, Sem.run_pure, Bool.false_eq_true, if_false, hl, hc, Sem.run_bind, Bool.not_false, if_true, hti, hb, or_self, and_false, Sem.run_ite]
    have e48 : (2 : Nat) ^ 48 = 281474976710656 := by decide
    simp only [e48, hcap, if_false, Sem.run_bind, run_choose, Question.forced, Bool.false_eq_true, Question.cut, Result.andThen_ok, World.drew_eq, hti, run_askRoom, ho, hf, hze, Builtin.zeroCells, newRow, run_newObj, World.alloc_eq, Sem.run_pure]
    congr 3
    simp
end
end Ab
