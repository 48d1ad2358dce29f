/- A law's arguments, opened: what a datum of a plain type (numbers, strings, slices, structs) stands for. -/
import Derived.Test.YtghlghbpaeimjaaDoorAbLaw
namespace Ab
open Go Go.RowKit Go.ChangeShapes

inductive All2' {α β : Type} (R : α → β → Prop) : List α → List β → Prop
  | nil : All2' R [] []
  | cons {a b as bs} : R a b → All2' R as bs → All2' R (a :: as) (b :: bs)

/-- what the leaves of a datum of type t look like; n: how deep it is -/
def ShF (P : Program) : Nat → TypeId → List AV → Prop
  | 0, _, _ => False
  | n + 1, t, xs => match P.underlying t with
    | some .bool => ∃ b, xs = [.bool b]
    | some (.int k) => ∃ m, xs = [.int k m] ∧ (Lit.int k m).wf = true
    | some .string => ∃ s, xs = [.str s] ∧ s.length ≤ maxLen
    | some (.slice e) => ∃ ys agg, xs = [.sl .none ys] ∧ ys.length ≤ maxLen ∧ aggT P e = some agg ∧ ∀ y ∈ ys, ∃ zs, ShF P n e zs ∧ elemAV agg zs = some y
    | some (.struct fs) => ∃ xss, xs = xss.flatten ∧ All2' (fun (f : Field) zs => ShF P n f.type zs) fs.toList xss
    | _ => False

def oneCell (P : Program) (t : TypeId) : Bool := match P.underlying t with
  | some .bool | some (.int _) | some .string | some (.slice _) => true
  | _ => false
def compOk (P : Program) (T : List TypeId) (t : TypeId) : Bool := match P.underlying t with
  | some .bool | some (.int _) | some .string => true
  | some (.slice e) => T.contains e && (P.cellsOf e != 0) && (aggT P e == some true || (aggT P e == some false && oneCell P e))
  | some (.struct fs) => (contig P 0 fs.toList == some (P.cellsOf t)) && fs.toList.all fun f => T.contains f.type
  | _ => false
def closedT (P : Program) (T : List TypeId) : Bool := T.all (compOk P T)

section
variable {H : Type} {enc : TypeId × Value → H} {P : Program} {w : World} {base : Nat} {sp : Nat → Bool} {held : Bool}

theorem allSome_of {α β : Type} {f : α → Option β} : ∀ {xs : List α}, (∀ x ∈ xs, ∃ y, f x = some y) → ∃ ys, allSome f xs = some ys ∧ ∀ y ∈ ys, ∃ x ∈ xs, f x = some y
  | [], _ => ⟨[], rfl, fun y hy => by simp at hy⟩
  | x :: xs, h => by
    obtain ⟨y, hy⟩ := h x (by simp)
    obtain ⟨ys, hys, hb⟩ := allSome_of (f := f) (xs := xs) fun z hz => h z (by simp [hz])
    refine ⟨y :: ys, by simp only [allSome, hy, hys], fun z hz => ?_⟩
    rcases List.mem_cons.1 hz with rfl | hz
    · exact ⟨x, by simp, hy⟩
    · obtain ⟨a, ha, hf⟩ := hb z hz
      exact ⟨a, by simp [ha], hf⟩
theorem allSome_map {α γ β : Type} {g : α → Option β} {f : α → β} : ∀ {l : List (α × γ)}, (∀ p ∈ l, g p.1 = some (f p.1)) → allSome g (l.map (·.1)) = some (l.map fun p => f p.1)
  | [], _ => rfl
  | p :: l, h => by
    simp only [List.map_cons, allSome, h p (by simp), allSome_map (f := f) (l := l) fun q hq => h q (by simp [hq])]
theorem elemsAV_of {agg : Bool} : ∀ {xss : List (List AV)}, (∀ xs ∈ xss, ∃ y, elemAV agg xs = some y) → ∃ ys, elemsAV agg xss = some ys ∧ ∀ y ∈ ys, ∃ xs ∈ xss, elemAV agg xs = some y
  | [], _ => ⟨[], rfl, fun y hy => by simp at hy⟩
  | x :: xs, h => by
    obtain ⟨y, hy⟩ := h x (by simp)
    obtain ⟨ys, hys, hb⟩ := elemsAV_of (agg := agg) (xss := xs) fun z hz => h z (by simp [hz])
    refine ⟨y :: ys, by simp only [elemsAV, hy, hys], fun z hz => ?_⟩
    rcases List.mem_cons.1 hz with rfl | hz
    · exact ⟨x, by simp, hy⟩
    · obtain ⟨a, ha, hf⟩ := hb z hz
      exact ⟨a, by simp [ha], hf⟩
theorem elemsAV_len {agg : Bool} : ∀ {xss : List (List AV)} {ys : List AV}, elemsAV agg xss = some ys → ys.length = xss.length
  | [], ys, h => by cases h; rfl
  | x :: xs, ys, h => by
    simp only [elemsAV] at h
    split at h
    · rename_i h2
      cases h
      simp [elemsAV_len h2]
    · cases h

theorem oneCell_sh {n : Nat} {t : TypeId} {xs : List AV} (h : oneCell P t = true) (hs : ShF P n t xs) : ∃ x, xs = [x] := by
  cases n with
  | zero => exact hs.elim
  | succ n =>
    unfold oneCell at h
    unfold ShF at hs
    cases hu : P.underlying t with
    | none => simp [hu] at h
    | some u =>
      rw [hu] at hs h
      cases u <;> simp only [Bool.false_eq_true] at h <;> simp only at hs
      · obtain ⟨b, rfl⟩ := hs; exact ⟨_, rfl⟩
      · obtain ⟨m, rfl, _⟩ := hs; exact ⟨_, rfl⟩
      · obtain ⟨m, rfl, _⟩ := hs; exact ⟨_, rfl⟩
      · obtain ⟨ys, agg, rfl, _⟩ := hs; exact ⟨_, rfl⟩

/-- WHAT A PLAIN DATUM STANDS FOR. -/
theorem open_sh {T : List TypeId} (hT : closedT P T = true) : ∀ (m : Nat) (t : TypeId) (cs : List Value) (x : DataW H × List MemPlace), t ∈ T → DataW.trod enc P w base sp held m t cs = some x → ∃ xs, (∀ n, m ≤ n → dlv P n t x.1 = some xs) ∧ ShF P m t xs
  | 0, t, cs, x, _, ht => by simp [DataW.trod] at ht
  | m + 1, t, cs, x, hmem, ht => by
    have ih := open_sh hT m
    have hc := List.all_eq_true.1 hT t hmem
    unfold compOk at hc
    have hn : ∀ {xs : List AV}, (∀ n, m ≤ n → dlv P (n + 1) t x.1 = some xs) → ∀ n, m + 1 ≤ n → dlv P n t x.1 = some xs := by
      intro xs h n hn
      obtain ⟨k, rfl⟩ : ∃ k, n = k + 1 := ⟨n - 1, by omega⟩
      exact h k (by omega)
    cases hu : P.underlying t with
    | none => simp [hu] at hc
    | some u =>
      rw [hu] at hc
      cases u <;> simp only [Bool.false_eq_true] at hc
      · obtain ⟨b, rfl, rfl⟩ := DataW.trod_bool hu ht
        refine ⟨[.bool b], hn fun n _ => by simp only [dlv, hu], ?_⟩
        unfold ShF; rw [hu]; exact ⟨b, rfl⟩
      · rename_i kd
        obtain ⟨k, rfl, rfl, hwf⟩ := DataW.trod_int hu ht
        refine ⟨[.int kd k], hn fun n _ => by simp only [dlv, hu], ?_⟩
        unfold ShF; rw [hu]; exact ⟨k, rfl, hwf⟩
      · obtain ⟨s, rfl, rfl, hsz⟩ := DataW.trod_string hu ht
        refine ⟨[.str s.data.toList], hn fun n _ => by simp only [dlv, hu], ?_⟩
        unfold ShF; rw [hu]; exact ⟨_, rfl, by simpa using hsz⟩
      · rename_i e
        simp only [Bool.and_eq_true, bne_iff_ne, ne_eq, Bool.or_eq_true, beq_iff_eq] at hc
        obtain ⟨⟨he, hcell⟩, hagg⟩ := hc
        have heT : e ∈ T := by simpa using he
        have hav : ∃ agg, aggT P e = some agg ∧ ∀ xs, ShF P m e xs → ∃ y, elemAV agg xs = some y := by
          rcases hagg with h | ⟨h, h1⟩
          · exact ⟨true, h, fun xs _ => ⟨.agg xs, rfl⟩⟩
          · refine ⟨false, h, fun xs hs => ?_⟩
            obtain ⟨x, rfl⟩ := oneCell_sh h1 hs
            exact ⟨x, rfl⟩
        obtain ⟨agg, ha, hav⟩ := hav
        rcases DataW.trod_slice hu ht with ⟨rfl, rfl⟩ | ⟨a, len, cap, elems, rest, n', hfu, rfl, rfl, hb, hl, hm, hlen, hel, _, _⟩
        · refine ⟨[.sl .none []], hn fun n _ => by simp only [dlv, hu], ?_⟩
          unfold ShF; rw [hu]; exact ⟨[], agg, rfl, by simp, ha, fun y hy => by simp at hy⟩
        · have hn' : n' = m := by omega
          subst hn'
          have each : ∀ p ∈ elems, ∃ zs, (∀ n, n' ≤ n → dlv P n e p.1 = some zs) ∧ ShF P n' e zs := by
            intro p hp
            obtain ⟨i, hi⟩ := List.mem_iff_getElem?.1 hp
            have hlt : i < elems.length := lt_of_some hi
            have h1 := hel i (by omega)
            rw [hi] at h1
            simp only [Option.bind_eq_some_iff] at h1
            obtain ⟨csi, _, htr⟩ := h1
            exact ih e csi p heT htr
          -- one choice for every depth
          have hch : ∃ f : DataW H → List AV, ∀ p ∈ elems, (∀ n, n' ≤ n → dlv P n e p.1 = some (f p.1)) ∧ ShF P n' e (f p.1) := by
            refine ⟨fun d => (dlv P n' e d).getD [], fun p hp => ?_⟩
            obtain ⟨zs, h1, h2⟩ := each p hp
            have h3 := h1 n' (Nat.le_refl _)
            simp only [h3, Option.getD_some]
            exact ⟨h1, h2⟩
          obtain ⟨f, hf⟩ := hch
          have hall : ∀ n, n' ≤ n → allSome (dlv P n e) (elems.map (·.1)) = some (elems.map fun p => f p.1) := by
            intro n hnn
            exact allSome_map fun p hp => (hf p hp).1 n hnn
          obtain ⟨ys, hys, hyb⟩ := elemsAV_of (agg := agg) (xss := elems.map fun p => f p.1) (by
            intro xs hxs
            obtain ⟨p, hp, rfl⟩ := List.mem_map.1 hxs
            exact hav _ (hf p hp).2)
          refine ⟨[.sl .none ys], hn fun n hnn => ?_, ?_⟩
          · simp only [dlv, hu, ha, hall n hnn, hys, if_neg hcell]
          · unfold ShF; rw [hu]
            refine ⟨ys, agg, rfl, ?_, ha, fun y hy => ?_⟩
            · rw [elemsAV_len hys, List.length_map]
              omega
            · obtain ⟨xs, hxs, hxy⟩ := hyb y hy
              obtain ⟨p, hp, rfl⟩ := List.mem_map.1 hxs
              exact ⟨_, (hf p hp).2, hxy⟩
      · rename_i fs
        simp only [Bool.and_eq_true, beq_iff_eq] at hc
        obtain ⟨hcon, hall⟩ := hc
        obtain ⟨ys, n', hfu, rfl, hcl, hyl, hyf⟩ := DataW.trod_struct hu ht
        have hn' : n' = m := by omega
        subst hn'
        have key : ∀ (gs : List Field) (zs : List (DataW H × List MemPlace)), zs.length = gs.length → (∀ (i : Nat) (f : Field), gs[i]? = some f → ∃ c, DataW.trod enc P w base sp held n' f.type c = zs[i]?) → (∀ f ∈ gs, f.type ∈ T) →
            ∃ xss, (∀ n, n' ≤ n → zipSome (fun (f : Field) d => dlv P n f.type d) gs (zs.map (·.1)) = some xss) ∧ All2' (fun (f : Field) zs => ShF P n' f.type zs) gs xss := by
          intro gs
          induction gs with
          | nil =>
            intro zs hz _ _
            have : zs = [] := by simpa using hz
            subst this
            exact ⟨[], fun n _ => rfl, .nil⟩
          | cons f gs ihg =>
            intro zs hz hf hm
            cases zs with
            | nil => simp at hz
            | cons z zs =>
              obtain ⟨c, hc⟩ := hf 0 f rfl
              obtain ⟨xs, h1, h2⟩ := ih f.type c z (hm f (by simp)) hc
              obtain ⟨xss, h3, h4⟩ := ihg zs (by simpa using hz) (fun i g hg => by have := hf (i + 1) g (by simpa using hg); simpa using this) fun g hg => hm g (by simp [hg])
              exact ⟨xs :: xss, fun n hnn => by simp only [List.map_cons, zipSome, h1 n hnn, h3 n hnn], .cons h2 h4⟩
        obtain ⟨xss, h1, h2⟩ := key fs.toList ys (by simpa using hyl) (fun i f hf => ⟨_, hyf i f (by rw [← Array.getElem?_toList]; exact hf)⟩) (fun f hf => by
          have := List.all_eq_true.1 hall f hf
          simpa using this)
        refine ⟨xss.flatten, hn fun n hnn => ?_, ?_⟩
        · simp only [dlv, hu, if_pos hcon, h1 n hnn]
        · unfold ShF; rw [hu]
          exact ⟨xss, rfl, h2⟩

/-- an argument of a plain type -/
theorem open_arg {T : List TypeId} (hT : closedT P T = true) {t : TypeId} {v : Value} {d : DataW H} {p : List MemPlace} (hmem : t ∈ T) (h : DataW.Trod enc P w base sp held t v d p) : ∃ N m xs, (∀ n, N ≤ n → dlv P n t d = some xs) ∧ ShF P m t xs := by
  obtain ⟨m, hm⟩ := h
  obtain ⟨xs, h1, h2⟩ := open_sh hT m t _ _ hmem hm
  exact ⟨m, m, xs, h1, h2⟩
theorem dav_agg {t : TypeId} {d : DataW H} {n : Nat} {xs : List AV} (ha : aggT P t = some true) (h : dlv P n t d = some xs) : dav P n t d = some (.agg xs) := by
  simp only [dav, ha, h]
theorem dav_one {t : TypeId} {d : DataW H} {n : Nat} {x : AV} (ha : aggT P t = some false) (h : dlv P n t d = some [x]) : dav P n t d = some x := by
  simp only [dav, ha, h]
theorem davs_cons {t : TypeId} {ts : List TypeId} {d : DataW H} {ds : List (DataW H)} {n : Nat} {x : AV} {xs : List AV} (h : dav P n t d = some x) (hs : davs P n ts ds = some xs) : davs P n (t :: ts) (d :: ds) = some (x :: xs) := by
  simp only [davs, h, hs]
theorem davs_nil {n : Nat} : davs P n [] ([] : List (DataW H)) = some [] := rfl

/-! shapes, read off -/
theorem sh_int {n : Nat} {t : TypeId} {k : IntKind} {xs : List AV} (hu : P.underlying t = some (.int k)) (h : ShF P n t xs) : ∃ m, xs = [.int k m] ∧ (Lit.int k m).wf = true := by
  cases n with
  | zero => exact h.elim
  | succ n => unfold ShF at h; rw [hu] at h; exact h
theorem sh_str {n : Nat} {t : TypeId} {xs : List AV} (hu : P.underlying t = some .string) (h : ShF P n t xs) : ∃ s, xs = [.str s] ∧ s.length ≤ maxLen := by
  cases n with
  | zero => exact h.elim
  | succ n => unfold ShF at h; rw [hu] at h; exact h
theorem sh_bool {n : Nat} {t : TypeId} {xs : List AV} (hu : P.underlying t = some .bool) (h : ShF P n t xs) : ∃ b, xs = [.bool b] := by
  cases n with
  | zero => exact h.elim
  | succ n => unfold ShF at h; rw [hu] at h; exact h
theorem sh_slice {n : Nat} {t e : TypeId} {xs : List AV} (hu : P.underlying t = some (.slice e)) (h : ShF P n t xs) : ∃ m ys agg, n = m + 1 ∧ xs = [.sl .none ys] ∧ ys.length ≤ maxLen ∧ aggT P e = some agg ∧ ∀ y ∈ ys, ∃ zs, ShF P m e zs ∧ elemAV agg zs = some y := by
  cases n with
  | zero => exact h.elim
  | succ n =>
    unfold ShF at h
    rw [hu] at h
    obtain ⟨ys, agg, h⟩ := h
    exact ⟨n, ys, agg, rfl, h⟩
theorem sh_struct {n : Nat} {t : TypeId} {fs : Array Field} {xs : List AV} (hu : P.underlying t = some (.struct fs)) (h : ShF P n t xs) : ∃ m xss, n = m + 1 ∧ xs = xss.flatten ∧ All2' (fun (f : Field) zs => ShF P m f.type zs) fs.toList xss := by
  cases n with
  | zero => exact h.elim
  | succ n =>
    unfold ShF at h
    rw [hu] at h
    obtain ⟨xss, h⟩ := h
    exact ⟨n, xss, rfl, h⟩
theorem wf_i64 {m : Int} (h : (Lit.int .i64 m).wf = true) : -9223372036854775808 ≤ m ∧ m ≤ 9223372036854775807 := by
  simp only [Lit.wf] at h
  have := h
  simp [IntKind.min, IntKind.max, IntKind.signed, IntKind.bits] at this
  omega
end
end Ab
