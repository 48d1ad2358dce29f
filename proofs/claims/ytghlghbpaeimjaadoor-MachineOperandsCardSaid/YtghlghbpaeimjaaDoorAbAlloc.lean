/- New blocks, new objects, stores: how a state goes on. -/
import Derived.Test.YtghlghbpaeimjaaDoorAbRel
import Derived.Laws.World
import Derived.Laws.CopyRow
import Derived.Laws.Cells
namespace Ab
open Go

def St.alloc (S : St) (c : Array Value) (t : TypeId) (μ : Nat → Prop) : St :=
  { S with w := S.w.alloc (.cells c t (0, 0)), M := fun b off => if b = S.w.heap.size then μ off else S.M b off }

theorem heap_alloc_old {w : World} {o : Obj} {b : Nat} (h : b < w.heap.size) : (w.alloc o).heap[b]? = w.heap[b]? := by
  show (w.heap.push o)[b]? = _
  rw [Array.getElem?_push, if_neg (Nat.ne_of_lt h)]
theorem heap_alloc_new {w : World} {o : Obj} : (w.alloc o).heap[w.heap.size]? = some o := by
  show (w.heap.push o)[w.heap.size]? = _
  rw [Array.getElem?_push, if_pos rfl]

theorem own_alloc (S : St) (c : Array Value) (t : TypeId) (μ : Nat → Prop) (o : Nat) : own (S.alloc c t μ) o = own S o := rfl

theorem wext_alloc (S : St) (c : Array Value) (t : TypeId) (μ : Nat → Prop) : WExt S.w S.M (S.alloc c t μ).w (S.alloc c t μ).M := by
  intro b off v hc hm
  have hb : b < S.w.heap.size := World.block_lt_of_cell? S.w _ hc
  refine ⟨(World.cell?_alloc_lt (w := S.w) (a := ⟨b, off, none⟩) (o := .cells c t (0, 0)) hb).trans hc, ?_⟩
  show ¬ (if b = S.w.heap.size then μ off else S.M b off)
  rw [if_neg (by omega)]
  exact hm

theorem froz_alloc (w : World) (c : Array Value) (t : TypeId) (a : Addr) : (w.alloc (.cells c t (0, 0))).frozen? a = w.frozen? a := by
  by_cases h : a.block = w.heap.size
  · have e1 : (w.alloc (.cells c t (0, 0))).heap[a.block]? = some (.cells c t (0, 0)) := by rw [h]; exact heap_alloc_new
    have e2 : w.heap[a.block]? = none := by rw [h]; simp
    simp [World.frozen?, e1, e2]
  · unfold World.frozen?
    have : (w.alloc (.cells c t (0, 0))).heap[a.block]? = w.heap[a.block]? := by
      show (w.heap.push _)[a.block]? = _
      rw [Array.getElem?_push, if_neg h]
    rw [this]
theorem step_alloc (k : Nat) (g : Bool) (S : St) (c : Array Value) (t : TypeId) (μ : Nat → Prop) : Step k g S (S.alloc c t μ) where
  wext := wext_alloc S c t μ
  cells := fun _ ys h => ⟨fun _ => rfl, ys, h, rfl⟩
  frs := fun _ _ n h => ⟨n, h, Nat.le_refl _, fun _ => rfl⟩
  size := by simp [St.alloc]
  keep := fun b hb _ => heap_alloc_old hb
  owns := fun o b h => .inl ⟨o, h⟩
  os := ⟨rfl, rfl, rfl⟩
  froz := fun a => froz_alloc S.w c t a
  muts := fun b off hb _ hM => by
    show (if b = S.w.heap.size then μ off else S.M b off)
    rw [if_neg (by omega)]; exact hM
  len := Nat.le_refl _
  pend := fun _ _ h => ⟨h, rfl⟩
  low := fun _ _ _ ys h x hx => .inr ⟨ys, h, hx⟩

theorem ObjOk.of_step {k : Nat} {g : Bool} {S S' : St} {o : Nat} (h : ObjOk S o) (e : Step k g S S') (hH : S'.H[o]? = S.H[o]?) (hm : S'.m o = S.m o)
    (hw : ∀ b, own S o = some b → S'.w.heap[b]? = S.w.heap[b]?) (hM : ∀ b off, own S o = some b → S.M b off → S'.M b off) : ObjOk S' o := by
  unfold ObjOk own at *
  rw [hH, hm]
  revert h hw hM
  cases S.H[o]? with
  | none => intros; trivial
  | some ob =>
    cases ob with
    | dead => intros; trivial
    | mp es => cases S.m o <;> exact fun h _ _ => h
    | cells xs =>
      cases S.m o with
      | non => intros; trivial
      | hdr a cap => exact fun h _ _ => h
      | blk b =>
        rintro ⟨vs, t, hb, hs, hl, hM0⟩ hw hM
        exact ⟨vs, t, by rw [hw b rfl]; exact hb, hs.mono fun _ _ h => h.step e, hl, fun off ho => hM b off rfl (hM0 off ho)⟩
    | fr sz n =>
      cases S.m o with
      | non => exact fun h _ _ => h
      | blk b => exact fun h _ _ => h
      | hdr a cap =>
        rintro ⟨hz, hn, hc⟩ hw hM
        refine ⟨hz, hn, fun hlt => ?_⟩
        obtain ⟨b, off, rfl, vs, t, hb, hsz, hM0⟩ := hc hlt
        simp only [hlt, if_true] at hw hM
        exact ⟨b, off, rfl, vs, t, by rw [hw b rfl]; exact hb, hsz, fun j h1 h2 => hM b _ rfl (hM0 j h1 h2)⟩

theorem good_alloc {S : St} (h : Good S) (c : Array Value) (t : TypeId) (μ : Nat → Prop) : Good (S.alloc c t μ) where
  objs := fun o => (h.objs o).of_step (step_alloc 0 true S c t μ) rfl rfl (fun b hb => heap_alloc_old (h.there o b hb)) fun b off hb hm => by
    have := h.there o b hb
    simp only [St.alloc]
    rw [if_neg (by omega)]
    exact hm
  disj := h.disj
  there := fun o b hb => by have := h.there o b hb; simp [St.alloc]; omega

/-- A new object at a place that was kept for it. -/
def St.give (S : St) (o : Nat) (ob : Ob) (go : GO) : St := { S with H := S.H.set o ob, m := fun p => if p = o then go else S.m p }

theorem give_H_ne {S : St} {o p : Nat} {ob : Ob} {go : GO} (h : p ≠ o) : (S.give o ob go).H[p]? = S.H[p]? := by
  simp [St.give, Ne.symm h]
theorem give_m_ne {S : St} {o p : Nat} {ob : Ob} {go : GO} (h : p ≠ o) : (S.give o ob go).m p = S.m p := by simp [St.give, h]
theorem give_H {S : St} {o : Nat} {ob ob0 : Ob} {go : GO} (h : S.H[o]? = some ob0) : (S.give o ob go).H[o]? = some ob := by
  have : o < S.H.length := by
    rcases Nat.lt_or_ge o S.H.length with h' | h'
    · exact h'
    · rw [List.getElem?_eq_none h'] at h; cases h
  simp [St.give, this]
theorem give_m {S : St} {o : Nat} {ob : Ob} {go : GO} : (S.give o ob go).m o = go := by simp [St.give]

theorem own_non {S : St} {o : Nat} (hm : S.m o = .non) : own S o = none := by
  unfold own; rw [hm]; cases S.H[o]? with | none => rfl | some ob => cases ob <;> rfl

theorem own_give_ne {S : St} {o p : Nat} {ob : Ob} {go : GO} (h : p ≠ o) : own (S.give o ob go) p = own S p := by
  unfold own; rw [give_H_ne h, give_m_ne h]

/-- The place was pending or dead; it becomes an object that holds block b (b is new, or it holds none). -/
theorem step_give {k : Nat} {g : Bool} {S0 S : St} (e : Step k g S0 S) {o : Nat} {ob ob0 : Ob} {go : GO} (hk : k ≤ o) (hm : S.m o = .non) (hm0 : S0.m o = .non) (hH0 : S0.H[o]? = some ob0)
    (h0 : ob0 = .dead ∨ ∃ xs xs', ob0 = .cells xs ∧ ob = .cells xs' ∧ xs'.length = xs.length)
    (hown : ∀ b, own (S.give o ob go) o = some b → (∃ o', own S0 o' = some b) ∨ S0.w.heap.size ≤ b) (hH : ∃ ob1, S.H[o]? = some ob1) : Step k g S0 (S.give o ob go) where
  wext := e.wext
  cells := fun p ys h => by
    by_cases hp : p = o
    · subst hp
      refine ⟨fun hn => absurd hm0 hn, ?_⟩
      rcases h0 with rfl | ⟨xs, xs', rfl, rfl, hl⟩
      · rw [h] at hH0; cases hH0
      · rw [h] at hH0; cases hH0
        obtain ⟨ob1, h1⟩ := hH
        exact ⟨xs', give_H h1, hl⟩
    · rw [give_H_ne hp, give_m_ne hp]; exact e.cells p ys h
  frs := fun p sz n h => by
    by_cases hp : p = o
    · subst hp
      rcases h0 with rfl | ⟨xs, xs', rfl, rfl, hl⟩ <;> (rw [h] at hH0; cases hH0)
    · rw [give_H_ne hp, give_m_ne hp]; exact e.frs p sz n h
  size := e.size
  keep := e.keep
  owns := fun p b h => by
    by_cases hp : p = o
    · subst hp; exact hown b h
    · rw [own_give_ne hp] at h; exact e.owns p b h
  os := e.os
  froz := e.froz
  muts := e.muts
  len := by simpa [St.give] using e.len
  pend := fun p hp h => by
    have : p ≠ o := by omega
    rw [give_H_ne this, give_m_ne this]; exact e.pend p hp h
  low := fun hg p hp ys h x hx => e.low hg p hp ys (by rwa [give_H_ne (by omega)] at h) x hx

theorem own_congr {S S' : St} {o : Nat} (hH : S'.H[o]? = S.H[o]?) (hm : S'.m o = S.m o) : own S' o = own S o := by
  unfold own; rw [hH, hm]

/-- One object turned, the others left alone. -/
theorem good_of_step {k : Nat} {g : Bool} {S S' : St} (h : Good S) (e : Step k g S S') (o : Nat) (hobj : ObjOk S' o) (hH : ∀ p, p ≠ o → S'.H[p]? = S.H[p]?)
    (hm : ∀ p, p ≠ o → S'.m p = S.m p) (hw : ∀ p b, p ≠ o → own S p = some b → S'.w.heap[b]? = S.w.heap[b]? ∧ ∀ off, S.M b off → S'.M b off)
    (hth : ∀ b, own S' o = some b → b < S'.w.heap.size) (hnew : ∀ b, own S' o = some b → ∀ p, p ≠ o → own S p ≠ some b) : Good S' where
  objs := fun p => by
    by_cases hp : p = o
    · subst hp; exact hobj
    · exact (h.objs p).of_step e (hH p hp) (hm p hp) (fun b hb => (hw p b hp hb).1) fun b off hb => (hw p b hp hb).2 off
  disj := fun p q b hp hq => by
    by_cases h1 : p = o
    · by_cases h2 : q = o
      · rw [h1, h2]
      · subst h1; rw [own_congr (hH q h2) (hm q h2)] at hq; exact absurd hq (hnew b hp q h2)
    · by_cases h2 : q = o
      · subst h2; rw [own_congr (hH p h1) (hm p h1)] at hp; exact absurd hp (hnew b hq p h1)
      · rw [own_congr (hH p h1) (hm p h1)] at hp; rw [own_congr (hH q h2) (hm q h2)] at hq; exact h.disj p q b hp hq
  there := fun p b hp => by
    by_cases h1 : p = o
    · subst h1; exact hth b hp
    · rw [own_congr (hH p h1) (hm p h1)] at hp; exact Nat.lt_of_lt_of_le (h.there p b hp) e.size

/-- A new variable or array: a new block, its object at the place that was kept for it. -/
theorem new_cells (k : Nat) (g : Bool) {S : St} (hG : Good S) {o : Nat} {ob0 : Ob} (hk : k ≤ o) (hm : S.m o = .non) (hH : S.H[o]? = some ob0) (xs : List AV)
    (h0 : ob0 = .dead ∨ ∃ ys, ob0 = .cells ys ∧ xs.length = ys.length) (vs : Array Value) (t : TypeId) (hs : All2 (RL S) xs vs.toList) (hl : xs.all isLf = true) :
    Step k g S ((S.alloc vs t fun _ => True).give o (.cells xs) (.blk S.w.heap.size)) ∧ Good ((S.alloc vs t fun _ => True).give o (.cells xs) (.blk S.w.heap.size)) := by
  have e1 := step_alloc k g S vs t (fun _ => True)
  have g1 := good_alloc hG vs t (fun _ => True)
  have hown : ∀ b, own ((S.alloc vs t fun _ => True).give o (.cells xs) (.blk S.w.heap.size)) o = some b → b = S.w.heap.size := by
    intro b hb
    unfold own at hb
    rw [give_H (S := S.alloc vs t fun _ => True) hH, give_m] at hb
    exact (Option.some.inj hb).symm
  have e2 : Step k g S ((S.alloc vs t fun _ => True).give o (.cells xs) (.blk S.w.heap.size)) := by
    refine step_give e1 hk hm hm hH ?_ (fun b hb => .inr (by rw [hown b hb]; exact Nat.le_refl _)) ⟨_, hH⟩
    rcases h0 with h | ⟨ys, h, hl⟩
    · exact .inl h
    · exact .inr ⟨ys, xs, h, rfl, hl⟩
  refine ⟨e2, good_of_step hG e2 o ?_ (fun p hp => give_H_ne hp) (fun p hp => give_m_ne hp) (fun p b hp hb => ?_) (fun b hb => ?_) (fun b hb p hp hq => ?_)⟩
  · unfold ObjOk
    rw [give_H (S := S.alloc vs t fun _ => True) hH, give_m]
    exact ⟨vs, t, heap_alloc_new, hs.mono fun _ _ h => h.step e2, hl, fun off _ => by simp [St.give, St.alloc]⟩
  · have hlt := hG.there p b hb
    refine ⟨heap_alloc_old hlt, fun off hM => ?_⟩
    show (if b = S.w.heap.size then True else S.M b off)
    rw [if_neg (by omega)]; exact hM
  · rw [hown b hb]; simp [St.give, St.alloc]
  · rw [hown b hb] at hq
    have := hG.there p _ hq
    omega
end Ab
