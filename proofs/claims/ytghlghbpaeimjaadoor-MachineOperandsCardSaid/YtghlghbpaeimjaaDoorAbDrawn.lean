/- A region whose operations Go may carry out in more than one order: every order comes to what the text's order comes to. -/
import Derived.Test.YtghlghbpaeimjaaDoorAbRegion
namespace Ab
open Go

/-! ### the text's order, step by step -/
structure Trace (E : Env) (cf : CallF) (n0 : Nat) (g : Bool) (base : Nat) (aos : List AOper) (σ : Nat → Slots) (η : Nat → Heap) (ν : Nat → AV) : Prop where
  op : ∀ k ao, aos[k]? = some ao → ((wants (σ k) ao.guard = some true ∧ stepOp E cf n0 g base (σ k) (η k) ao.op = some (ν k, η (k + 1))) ∨ (wants (σ k) ao.guard = some false ∧ ν k = .tup [] ∧ η (k + 1) = η k)) ∧ σ (k + 1) = put (σ k) ao.dst (ν k)

theorem opsRun_trace {E : Env} {cf : CallF} {n0 base : Nat} {g : Bool} : ∀ (aos : List AOper) (s s' : Slots) (h h' : Heap), opsRun E cf n0 g base aos s h = some (s', h') →
    ∃ σ η ν, Trace E cf n0 g base aos σ η ν ∧ σ 0 = s ∧ η 0 = h ∧ σ aos.length = s' ∧ η aos.length = h' ∧
      ∀ k, k ≤ aos.length → (opsTrace E cf n0 g base aos s h)[k]? = some (η k, match aos[k]? with | some ao => looks E (σ k) ao | none => none)
  | [], s, s', h, h', hr => by
    simp only [opsRun, Option.some.injEq, Prod.mk.injEq] at hr
    obtain ⟨rfl, rfl⟩ := hr
    refine ⟨fun _ => s, fun _ => h, fun _ => .no, ⟨fun k ao hk => by simp at hk⟩, rfl, rfl, rfl, rfl, fun k hk => ?_⟩
    have hk0 : k = 0 := by simpa using hk
    subst hk0
    rfl
  | o :: aos, s, s', h, h', hr => by
    simp only [opsRun] at hr
    have build : ∀ (v : AV) (h1 : Heap), ((wants s o.guard = some true ∧ stepOp E cf n0 g base s h o.op = some (v, h1)) ∨ (wants s o.guard = some false ∧ v = .tup [] ∧ h1 = h)) → opsRun E cf n0 g base aos (put s o.dst v) h1 = some (s', h') →
        opsTrace E cf n0 g base (o :: aos) s h = (h, looks E s o) :: opsTrace E cf n0 g base aos (put s o.dst v) h1 →
        ∃ σ η ν, Trace E cf n0 g base (o :: aos) σ η ν ∧ σ 0 = s ∧ η 0 = h ∧ σ (o :: aos).length = s' ∧ η (o :: aos).length = h' ∧
          ∀ k, k ≤ (o :: aos).length → (opsTrace E cf n0 g base (o :: aos) s h)[k]? = some (η k, match (o :: aos)[k]? with | some ao => looks E (σ k) ao | none => none) := by
      intro v h1 hop hr1 htr
      obtain ⟨σ, η, ν, ht, h0, h00, h2, h3, h4⟩ := opsRun_trace aos _ s' h1 h' hr1
      refine ⟨fun k => match k with | 0 => s | k + 1 => σ k, fun k => match k with | 0 => h | k + 1 => η k, fun k => match k with | 0 => v | k + 1 => ν k, ⟨fun k ao hk => ?_⟩, rfl, rfl, h2, h3, fun k hk => ?_⟩
      · cases k with
        | zero =>
          obtain rfl : o = ao := by simpa using hk
          simp only [h0, h00]
          exact ⟨hop, trivial⟩
        | succ k => exact ht.op k ao (by simpa using hk)
      · rw [htr]
        cases k with
        | zero => rfl
        | succ k =>
          have := h4 k (by simpa using hk)
          simpa using this
    split at hr
    · rename_i hw
      split at hr
      · rename_i v h1 hst
        exact build v h1 (.inl ⟨hw, hst⟩) hr (by simp only [opsTrace, hw, hst])
      · cases hr
    · rename_i hw
      exact build (.tup []) h (.inr ⟨hw, rfl, rfl⟩) hr (by simp only [opsTrace, hw])
    · cases hr

/-! ### what an operation that writes nothing reads -/
def looksV (vf : Opd → AV) : AOp → Option Nat
  | .ld _ _ x => match vf x with | .ptr p _ => some p | _ => none
  | .b2s x => match vf x with | .arr p _ _ => some p | _ => none
  | _ => none

theorem nonwriter {n0 base : Nat} {g : Bool} {vf : Opd → AV} {h h' : Heap} {ao : AOp} {v : AV} (hw : ao.writes = false) (hh : heapOp n0 g base vf h ao = some (v, h')) :
    h' = h ∧ ∀ h2, (∀ o, looksV vf ao = some o → h2[o]? = h[o]?) → heapOp n0 g base vf h2 ao = some (v, h2) := by
  cases ao <;> simp only [AOp.writes, Bool.true_eq_false] at hw
  case ld agg n x =>
    simp only [heapOp] at hh ⊢
    split at hh
    · rename_i o off hx
      split at hh
      · rename_i xs hxs
        split at hh
        · rename_i hl
          split at hh
          · rename_i v' hv
            cases hh
            refine ⟨rfl, fun h2 hl2 => ?_⟩
            have := hl2 o (by simp [looksV, hx])
            rw [this, hxs]
            simp only [hl, if_true, hv]
          · cases hh
        · cases hh
      · cases hh
    · rename_i xs hx
      split at hh
      · rename_i hl
        split at hh
        · rename_i v' hv
          cases hh
          exact ⟨rfl, fun h2 _ => by simp only [hl, if_true, hv]⟩
        · cases hh
      · cases hh
    · cases hh
  case b2s x =>
    simp only [heapOp] at hh ⊢
    split at hh
    · cases hh
    · rename_i hns
      split at hh
      · rename_i xs hxs
        split at hh
        · rename_i b hb
          cases hh
          refine ⟨rfl, fun h2 hl2 => ?_⟩
          have he : elemsOf h2 1 (vf x) = some xs := by
            cases hx : vf x with
            | arr o off len =>
              have := hl2 o (by simp [looksV, hx])
              rw [hx] at hxs
              simp only [elemsOf] at hxs ⊢
              rw [this]; exact hxs
            | _ => rw [hx] at hxs; exact hxs
          cases hx : vf x with
          | str b' => exact absurd hx (hns b')
          | _ => rw [hx] at he; simp only [he, hb]
        · cases hh
      · cases hh
  case al r z =>
    simp only [heapOp, Option.some.injEq, Prod.mk.injEq] at hh ⊢
    exact ⟨hh.2.symm, fun h2 _ => ⟨hh.1, trivial⟩⟩
  case sla n sz x lo hi =>
    simp only [heapOp] at hh ⊢
    split at hh
    · split at hh
      · rename_i hb
        cases hh
        exact ⟨rfl, fun h2 _ => by simp only [hb]⟩
      · cases hh
    · cases hh
  case sll sz x lo hi =>
    simp only [heapOp] at hh ⊢
    split at hh
    · split at hh
      · rename_i hb
        cases hh
        exact ⟨rfl, fun h2 _ => by simp only [hb]⟩
      · cases hh
    · rename_i hna
      split at hh
      · rename_i v' hv
        cases hh
        refine ⟨rfl, fun h2 _ => ?_⟩
        rfl
      · cases hh
  all_goals
    simp only [heapOp] at hh ⊢
    split at hh
    · rename_i v' hv
      cases hh
      exact ⟨rfl, fun h2 _ => by simp only [hv]⟩
    · cases hh
end Ab
