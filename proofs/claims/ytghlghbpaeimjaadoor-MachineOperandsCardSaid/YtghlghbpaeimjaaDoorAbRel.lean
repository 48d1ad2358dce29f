/- What a value without memory stands for in a world; how worlds go on. -/
import Derived.Test.YtghlghbpaeimjaaDoorAbCore
namespace Ab
open Go

abbrev MutP := Nat → Nat → Prop

/-- From cell off of block b on: vs, for ever. -/
def Imm (w : World) (M : MutP) (b off : Nat) (vs : List Value) : Prop :=
  ∀ j v, vs[j]? = some v → w.cell? ⟨b, off + j, none⟩ = some v ∧ ¬ M b (off + j)

mutual
inductive RP (w : World) (M : MutP) : AV → Value → Prop
  | int (k : IntKind) (n : Int) : RP w M (.int k n) (.int k n)
  | bool (b : Bool) : RP w M (.bool b) (.bool b)
  | str (s : List UInt8) : RP w M (.str s) (.string ⟨s.toArray⟩)
  | sl0 (a : Option Addr) (cap : Nat) : RP w M (.sl .none []) (.slice a 0 cap)
  | sl (b off cap sz : Nat) (xs : List AV) (vs : List Value) (ne : xs ≠ []) (hsz : ∀ x ∈ xs, nleaves x = sz) (hs : RPs w M (xs.flatMap leaves) vs)
      (himm : Imm w M b off vs) (hcap : xs.length ≤ cap) : RP w M (.sl .none xs) (.slice (some ⟨b, off, none⟩) xs.length cap)
inductive RPs (w : World) (M : MutP) : List AV → List Value → Prop
  | nil : RPs w M [] []
  | cons (x : AV) (v : Value) (xs : List AV) (vs : List Value) (h : RP w M x v) (hs : RPs w M xs vs) : RPs w M (x :: xs) (v :: vs)
end

/-- What never changes again stays, and stays so. -/
def WExt (w : World) (M : MutP) (w' : World) (M' : MutP) : Prop :=
  ∀ b off v, w.cell? ⟨b, off, none⟩ = some v → ¬ M b off → w'.cell? ⟨b, off, none⟩ = some v ∧ ¬ M' b off

theorem WExt.refl (w : World) (M : MutP) : WExt w M w M := fun _ _ _ h k => ⟨h, k⟩
theorem WExt.trans {w w' w'' : World} {M M' M'' : MutP} (h : WExt w M w' M') (h' : WExt w' M' w'' M'') : WExt w M w'' M'' :=
  fun b off v c k => let ⟨c', k'⟩ := h b off v c k; h' b off v c' k'
theorem Imm.mono {w w' : World} {M M' : MutP} {b off : Nat} {vs : List Value} (h : Imm w M b off vs) (e : WExt w M w' M') : Imm w' M' b off vs :=
  fun j v hv => let ⟨c, k⟩ := h j v hv; e _ _ _ c k
theorem Imm.drop {w : World} {M : MutP} {b off : Nat} {vs : List Value} (h : Imm w M b off vs) (n : Nat) : Imm w M b (off + n) (vs.drop n) := by
  intro j v hv
  rw [List.getElem?_drop] at hv
  have := h _ _ hv
  rwa [← Nat.add_assoc] at this
theorem Imm.take {w : World} {M : MutP} {b off : Nat} {vs : List Value} (h : Imm w M b off vs) (n : Nat) : Imm w M b off (vs.take n) := by
  intro j v hv
  rw [List.getElem?_take] at hv
  split at hv
  · exact h _ _ hv
  · cases hv
theorem Imm.nil {w : World} {M : MutP} {b off : Nat} : Imm w M b off [] := fun _ _ h => by simp at h

mutual
theorem RP.mono {w w' : World} {M M' : MutP} (e : WExt w M w' M') : ∀ {x : AV} {v : Value}, RP w M x v → RP w' M' x v
  | _, _, .int k n => .int k n
  | _, _, .bool b => .bool b
  | _, _, .str s => .str s
  | _, _, .sl0 a cap => .sl0 a cap
  | _, _, .sl b off cap sz xs vs ne hsz hs himm hcap => .sl b off cap sz xs vs ne hsz (RPs.mono e hs) (himm.mono e) hcap
theorem RPs.mono {w w' : World} {M M' : MutP} (e : WExt w M w' M') : ∀ {xs : List AV} {vs : List Value}, RPs w M xs vs → RPs w' M' xs vs
  | _, _, .nil => .nil
  | _, _, .cons x v xs vs h hs => .cons x v xs vs (RP.mono e h) (RPs.mono e hs)
end

theorem RPs.length {w : World} {M : MutP} {xs : List AV} {vs : List Value} : RPs w M xs vs → xs.length = vs.length
  | .nil => rfl
  | .cons _ _ _ _ _ hs => by simp [hs.length]
theorem RPs.append {w : World} {M : MutP} {xs ys : List AV} {us vs : List Value} (h : RPs w M xs us) (h' : RPs w M ys vs) : RPs w M (xs ++ ys) (us ++ vs) := by
  induction xs generalizing us with
  | nil => cases h; exact h'
  | cons x xs ih => cases h with | cons _ u _ us hx hs => exact .cons _ _ _ _ hx (ih hs)
theorem RPs.drop {w : World} {M : MutP} (n : Nat) : ∀ {xs : List AV} {vs : List Value}, RPs w M xs vs → RPs w M (xs.drop n) (vs.drop n) := by
  induction n with
  | zero => intro xs vs h; simpa using h
  | succ n ih =>
    intro xs vs h
    cases h with
    | nil => simpa using RPs.nil
    | cons x v xs vs _ hs => simpa using ih hs
theorem RPs.take {w : World} {M : MutP} (n : Nat) : ∀ {xs : List AV} {vs : List Value}, RPs w M xs vs → RPs w M (xs.take n) (vs.take n) := by
  induction n with
  | zero => intro xs vs h; simpa using RPs.nil
  | succ n ih =>
    intro xs vs h
    cases h with
    | nil => simpa using RPs.nil
    | cons x v xs vs hx hs => simpa using RPs.cons _ _ _ _ hx (ih hs)
theorem RPs.split {w : World} {M : MutP} : ∀ {xs ys : List AV} {vs : List Value}, RPs w M (xs ++ ys) vs → ∃ us ws, vs = us ++ ws ∧ RPs w M xs us ∧ RPs w M ys ws
  | [], ys, vs, h => ⟨[], vs, rfl, .nil, h⟩
  | x :: xs, ys, _, .cons _ v _ vs hx hs => by
    obtain ⟨us, ws, rfl, h1, h2⟩ := RPs.split hs
    exact ⟨v :: us, ws, rfl, .cons _ _ _ _ hx h1, h2⟩

/-- What stands for an object: a block, a slice's head, nothing (yet). -/
inductive GO where
  | non
  | blk (b : Nat)
  | hdr (a : Option Addr) (cap : Nat)

structure St where
  m : Nat → GO
  H : Heap
  M : MutP
  w : World

def CapOk (S : St) (c : Cap) (len : Nat) (u : Value) : Prop :=
  match c with
  | .none => True
  | .full => ∃ a, u = .slice a len len
  | .tok o => ∃ sz n, S.H[o]? = some (.fr sz n) ∧ len ≤ n ∧ (len = n → ∃ a cap, S.m o = .hdr a cap ∧ u = .slice a n cap)

def IsCells (S : St) (o : Nat) : Prop := ∃ ys, S.H[o]? = some (.cells ys)

/-- A leaf that is no function. -/
def RK (S : St) : AV → Value → Prop
  | .sl c xs, u => RP S.w S.M (.sl .none xs) u ∧ CapOk S c xs.length u
  | .ptr o off, u => IsCells S o ∧ ∃ b, S.m o = .blk b ∧ u = .pointer (some ⟨b, off, none⟩)
  | .nilp, u => u = .pointer none
  | .eptr xs, u => ∃ b off vs, u = .pointer (some ⟨b, off, none⟩) ∧ RPs S.w S.M xs vs ∧ Imm S.w S.M b off vs
  | .arr o off len, u => IsCells S o ∧ ∃ b cap, S.m o = .blk b ∧ u = .slice (some ⟨b, off, none⟩) len cap ∧ len ≤ cap
  | .int k n, u => u = .int k n
  | .bool b, u => u = .bool b
  | .str s, u => u = .string ⟨s.toArray⟩
  | .no, _ => True
  | _, _ => False

inductive All2 {α β : Type} (R : α → β → Prop) : List α → List β → Prop
  | nil : All2 R [] []
  | cons {x : α} {y : β} {xs : List α} {ys : List β} (h : R x y) (hs : All2 R xs ys) : All2 R (x :: xs) (y :: ys)

def RL (S : St) : AV → Value → Prop
  | .fn f xs, u => ∃ vs : Array Value, u = .func (.func f) #[] vs ∧ All2 (RK S) xs vs.toList ∧ xs.all isCap = true
  | v, u => RK S v u
def RC (S : St) : AV → Value → Prop
  | .agg xs, u => ∃ us : Array Value, u = .agg us ∧ All2 (RL S) xs us.toList ∧ xs.all isLf = true
  | v, u => RL S v u
def RV (S : St) : AV → Value → Prop
  | .tup xs, u => ∃ us : Array Value, u = .tuple us ∧ All2 (RC S) xs us.toList
  | v, u => RC S v u

theorem RL.eq_RK {S : St} {v : AV} {u : Value} (hv : ∀ f xs, v ≠ .fn f xs) : RL S v u = RK S v u := by
  cases v <;> first | rfl | exact absurd rfl (hv _ _)
theorem RC.eq_RL {S : St} {v : AV} {u : Value} (hv : ∀ xs, v ≠ .agg xs) : RC S v u = RL S v u := by
  cases v <;> first | rfl | exact absurd rfl (hv _)
theorem RV.eq_RC {S : St} {v : AV} {u : Value} (hv : ∀ xs, v ≠ .tup xs) : RV S v u = RC S v u := by
  cases v <;> first | rfl | exact absurd rfl (hv _)

section All2
variable {α β : Type} {R R' : α → β → Prop}
theorem All2.mono (h : ∀ x y, R x y → R' x y) : ∀ {xs : List α} {ys : List β}, All2 R xs ys → All2 R' xs ys
  | _, _, .nil => .nil
  | _, _, .cons hx hs => .cons (h _ _ hx) (hs.mono h)
theorem All2.length : ∀ {xs : List α} {ys : List β}, All2 R xs ys → xs.length = ys.length
  | _, _, .nil => rfl
  | _, _, .cons _ hs => by simp [hs.length]
theorem All2.append : ∀ {xs xs' : List α} {ys ys' : List β}, All2 R xs ys → All2 R xs' ys' → All2 R (xs ++ xs') (ys ++ ys')
  | _, _, _, _, .nil, h => h
  | _, _, _, _, .cons hx hs, h => .cons hx (hs.append h)
theorem All2.drop (n : Nat) : ∀ {xs : List α} {ys : List β}, All2 R xs ys → All2 R (xs.drop n) (ys.drop n) := by
  induction n with
  | zero => intro xs ys h; simpa using h
  | succ n ih => intro xs ys h; cases h with | nil => simpa using All2.nil | cons _ hs => simpa using ih hs
theorem All2.take (n : Nat) : ∀ {xs : List α} {ys : List β}, All2 R xs ys → All2 R (xs.take n) (ys.take n) := by
  induction n with
  | zero => intro xs ys h; simpa using All2.nil
  | succ n ih => intro xs ys h; cases h with | nil => simpa using All2.nil | cons hx hs => simpa using All2.cons hx (ih hs)
theorem All2.get : ∀ {xs : List α} {ys : List β}, All2 R xs ys → ∀ (i : Nat) (x : α), xs[i]? = some x → ∃ y, ys[i]? = some y ∧ R x y
  | _, _, .cons hx hs, 0, x, h => by simp at h; subst h; exact ⟨_, by simp, hx⟩
  | _, _, .cons _ hs, i + 1, x, h => by
    obtain ⟨y, hy, hr⟩ := hs.get i x (by simpa using h)
    exact ⟨y, by simpa using hy, hr⟩
  | _, _, .nil, i, x, h => by simp at h
theorem All2.of_get : ∀ {xs : List α} {ys : List β}, xs.length = ys.length → (∀ (i : Nat) (x : α) (y : β), xs[i]? = some x → ys[i]? = some y → R x y) → All2 R xs ys
  | [], [], _, _ => .nil
  | x :: xs, y :: ys, hl, h => .cons (h 0 x y (by simp) (by simp)) (All2.of_get (by simpa using hl) fun i a b ha hb => h (i + 1) a b (by simpa using ha) (by simpa using hb))
  | [], _ :: _, hl, _ => by simp at hl
  | _ :: _, [], hl, _ => by simp at hl
theorem All2.map_left {γ : Type} (f : γ → α) : ∀ {xs : List γ} {ys : List β}, All2 (fun x y => R (f x) y) xs ys → All2 R (xs.map f) ys
  | _, _, .nil => .nil
  | _, _, .cons hx hs => .cons hx (hs.map_left f)
theorem All2.cells : ∀ {xs : List α} {ys : List β}, All2 R xs ys → ∀ y ∈ ys, ∃ x ∈ xs, R x y
  | _, _, .cons hx hs, y, h => by
    cases h with
    | head => exact ⟨_, by simp, hx⟩
    | tail _ h => obtain ⟨x, hm, hr⟩ := hs.cells y h; exact ⟨x, by simp [hm], hr⟩
  | _, _, .nil, y, h => by cases h
end All2

/-- the block that an object holds -/
def own (S : St) (o : Nat) : Option Nat :=
  match S.H[o]?, S.m o with
  | some (.cells _), .blk b => some b
  | some (.fr _ n), .hdr (some a) cap => if n < cap then some a.block else none
  | some (.mp _), .blk b => some b
  | _, _ => none

def ObjOk (S : St) (o : Nat) : Prop :=
  match S.H[o]?, S.m o with
  | some (.cells xs), .blk b => ∃ (vs : Array Value) (t : TypeId), S.w.heap[b]? = some (.cells vs t (0, 0)) ∧ All2 (RL S) xs vs.toList ∧ xs.all isLf = true ∧ ∀ off, off < vs.size → S.M b off
  | some (.fr sz n), .hdr a cap => 0 < sz ∧ n ≤ cap ∧ (n < cap → ∃ b off, a = some ⟨b, off, none⟩ ∧ ∃ (vs : Array Value) (t : TypeId), S.w.heap[b]? = some (.cells vs t (0, 0)) ∧
      off + cap * sz ≤ vs.size ∧ ∀ j, n * sz ≤ j → j < cap * sz → S.M b (off + j))
  | some (.fr _ _), _ => False
  | some (.cells _), .hdr _ _ => False
  | some (.mp _), _ => False
  | _, _ => True

structure Good (S : St) : Prop where
  objs : ∀ o, ObjOk S o
  disj : ∀ o o' b, own S o = some b → own S o' = some b → o = o'
  there : ∀ o b, own S o = some b → b < S.w.heap.size

/-- How states go on. k: the objects below it are the callers'; g: may such an object be given what names a new one? -/
structure Step (k : Nat) (g : Bool) (S S' : St) : Prop where
  wext : WExt S.w S.M S'.w S'.M
  cells : ∀ o ys, S.H[o]? = some (.cells ys) → (S.m o ≠ .non → S'.m o = S.m o) ∧ ∃ ys', S'.H[o]? = some (.cells ys') ∧ ys'.length = ys.length
  frs : ∀ o sz n, S.H[o]? = some (.fr sz n) → ∃ n', S'.H[o]? = some (.fr sz n') ∧ n ≤ n' ∧ (n' = n → S'.m o = S.m o)
  size : S.w.heap.size ≤ S'.w.heap.size
  keep : ∀ b, b < S.w.heap.size → (∀ o, own S o ≠ some b) → S'.w.heap[b]? = S.w.heap[b]?
  owns : ∀ o b, own S' o = some b → (∃ o', own S o' = some b) ∨ S.w.heap.size ≤ b
  os : S'.w.os = S.w.os ∧ S'.w.output = S.w.output ∧ S'.w.tape = S.w.tape
  froz : ∀ a, S'.w.frozen? a = S.w.frozen? a
  muts : ∀ b off, b < S.w.heap.size → (∀ o, own S o ≠ some b) → S.M b off → S'.M b off
  len : S.H.length ≤ S'.H.length
  pend : ∀ o, o < k → S.m o = .non → S'.m o = .non ∧ S'.H[o]? = S.H[o]?
  low : g = false → ∀ o, o < k → ∀ ys', S'.H[o]? = some (.cells ys') → ∀ x ∈ ys', free x = true ∨ ∃ ys, S.H[o]? = some (.cells ys) ∧ x ∈ ys

theorem Step.refl (k : Nat) (g : Bool) (S : St) : Step k g S S where
  wext := .refl _ _
  cells := fun _ ys h => ⟨fun _ => rfl, ys, h, rfl⟩
  frs := fun _ _ n h => ⟨n, h, Nat.le_refl _, fun _ => rfl⟩
  size := Nat.le_refl _
  keep := fun _ _ _ => rfl
  owns := fun o _ h => .inl ⟨o, h⟩
  os := ⟨rfl, rfl, rfl⟩
  froz := fun _ => rfl
  muts := fun _ _ _ _ h => h
  len := Nat.le_refl _
  pend := fun _ _ h => ⟨h, rfl⟩
  low := fun _ _ _ ys h x hx => .inr ⟨ys, h, hx⟩

theorem Step.trans {k : Nat} {g : Bool} {S S' S'' : St} (h : Step k g S S') (h' : Step k g S' S'') : Step k g S S'' where
  wext := h.wext.trans h'.wext
  cells := fun o ys hy => by
    obtain ⟨hm, ys', hy', hl⟩ := h.cells o ys hy
    obtain ⟨hm', ys'', hy'', hl'⟩ := h'.cells o ys' hy'
    exact ⟨fun hn => by rw [hm' (by rw [hm hn]; exact hn), hm hn], ys'', hy'', hl'.trans hl⟩
  frs := fun o sz n hy => by
    obtain ⟨n', hy', hl, hm⟩ := h.frs o sz n hy
    obtain ⟨n'', hy'', hl', hm'⟩ := h'.frs o sz n' hy'
    exact ⟨n'', hy'', Nat.le_trans hl hl', fun e => by rw [hm' (by omega), hm (by omega)]⟩
  size := Nat.le_trans h.size h'.size
  keep := fun b hb hn => by
    rw [h'.keep b (Nat.lt_of_lt_of_le hb h.size) fun o ho => ?_, h.keep b hb hn]
    rcases h.owns o b ho with ⟨o', ho'⟩ | hge
    · exact hn o' ho'
    · omega
  owns := fun o b ho => by
    rcases h'.owns o b ho with ⟨o', ho'⟩ | hge
    · exact h.owns o' b ho'
    · exact .inr (Nat.le_trans h.size hge)
  os := ⟨h'.os.1.trans h.os.1, h'.os.2.1.trans h.os.2.1, h'.os.2.2.trans h.os.2.2⟩
  froz := fun a => (h'.froz a).trans (h.froz a)
  muts := fun b off hb hn hM => h'.muts b off (Nat.lt_of_lt_of_le hb h.size) (fun o ho => by
    rcases h.owns o b ho with ⟨o', ho'⟩ | hge
    · exact hn o' ho'
    · omega) (h.muts b off hb hn hM)
  len := Nat.le_trans h.len h'.len
  pend := fun o ho hm => by
    obtain ⟨a, b⟩ := h.pend o ho hm
    obtain ⟨c, d⟩ := h'.pend o ho a
    exact ⟨c, d.trans b⟩
  low := fun hg o ho ys'' hy x hx => by
    rcases h'.low hg o ho ys'' hy x hx with hf | ⟨ys', hy', hx'⟩
    · exact .inl hf
    · exact h.low hg o ho ys' hy' x hx'

theorem Step.weaken {k k' : Nat} {g : Bool} {S S' : St} (h : Step k g S S') (hk : k' ≤ k) : Step k' g S S' :=
  { h with pend := fun o ho => h.pend o (Nat.lt_of_lt_of_le ho hk), low := fun hg o ho => h.low hg o (Nat.lt_of_lt_of_le ho hk) }

section mono
variable {k : Nat} {g : Bool} {S S' : St}
theorem IsCells.step {o : Nat} (h : IsCells S o) (e : Step k g S S') : IsCells S' o := by
  obtain ⟨ys, hy⟩ := h
  obtain ⟨_, ys', hy', _⟩ := e.cells o ys hy
  exact ⟨ys', hy'⟩
theorem RK.step (e : Step k g S S') {v : AV} {u : Value} (h : RK S v u) : RK S' v u := by
  cases v with
  | sl c xs =>
    refine ⟨h.1.mono e.wext, ?_⟩
    have h2 := h.2
    cases c with
    | none => trivial
    | full => exact h2
    | tok o =>
      obtain ⟨sz, n, ho, hl, hn⟩ := h2
      obtain ⟨n', ho', hl', hm⟩ := e.frs o sz n ho
      refine ⟨sz, n', ho', by omega, fun he => ?_⟩
      have e1 : n' = n := by omega
      subst e1
      rw [hm rfl]
      exact hn he
  | ptr o off =>
    obtain ⟨hc, b, hm, hu⟩ := h
    obtain ⟨ys, hy⟩ := hc
    obtain ⟨hm', ys', hy', _⟩ := e.cells o ys hy
    exact ⟨⟨ys', hy'⟩, b, by rw [hm' (by rw [hm]; exact GO.noConfusion), hm], hu⟩
  | arr o off len =>
    obtain ⟨hc, b, cap, hm, hu, hl⟩ := h
    obtain ⟨ys, hy⟩ := hc
    obtain ⟨hm', ys', hy', _⟩ := e.cells o ys hy
    exact ⟨⟨ys', hy'⟩, b, cap, by rw [hm' (by rw [hm]; exact GO.noConfusion), hm], hu, hl⟩
  | eptr xs =>
    obtain ⟨b, off, vs, hu, hs, hi⟩ := h
    exact ⟨b, off, vs, hu, hs.mono e.wext, hi.mono e.wext⟩
  | _ => exact h
theorem RL.step (e : Step k g S S') {v : AV} {u : Value} (h : RL S v u) : RL S' v u := by
  cases v with
  | fn f xs => obtain ⟨vs, hu, hs, ha⟩ := h; exact ⟨vs, hu, hs.mono fun _ _ h => h.step e, ha⟩
  | _ => rw [RL.eq_RK (by simp)] at h ⊢; exact RK.step e h
theorem RC.step (e : Step k g S S') {v : AV} {u : Value} (h : RC S v u) : RC S' v u := by
  cases v with
  | agg xs => obtain ⟨vs, hu, hs, ha⟩ := h; exact ⟨vs, hu, hs.mono fun _ _ h => h.step e, ha⟩
  | _ => rw [RC.eq_RL (by simp)] at h ⊢; exact RL.step e h
theorem RV.step (e : Step k g S S') {v : AV} {u : Value} (h : RV S v u) : RV S' v u := by
  cases v with
  | tup xs => obtain ⟨vs, hu, hs⟩ := h; exact ⟨vs, hu, hs.mono fun _ _ h => h.step e⟩
  | _ => rw [RV.eq_RC (by simp)] at h ⊢; exact RC.step e h
end mono

end Ab
