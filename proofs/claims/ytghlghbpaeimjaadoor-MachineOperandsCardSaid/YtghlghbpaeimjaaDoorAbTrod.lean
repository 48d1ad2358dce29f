/- What a row's data stand for, without memory. -/
import Derived.Test.YtghlghbpaeimjaaDoorAbTop
import Derived.ChangeArms
import Derived.WideKeyArgs
import Derived.Below
import Derived.ChangeSame
import Derived.ChangeMaps5
namespace Ab
open Go Go.RowKit Go.ChangeShapes

/-- the fields stand one behind the other, from off on -/
def contig (P : Program) : Nat → List Field → Option Nat
  | off, [] => some off
  | off, f :: fs => if f.offset = off then contig P (off + P.cellsOf f.type) fs else none

def elemAV (agg : Bool) (xs : List AV) : Option AV := if agg then some (.agg xs) else match xs with | [x] => some x | _ => none
def elemsAV (agg : Bool) : List (List AV) → Option (List AV)
  | [] => some []
  | xs :: r => match elemAV agg xs, elemsAV agg r with | some y, some ys => some (y :: ys) | _, _ => none
def allSome {α β : Type} (f : α → Option β) : List α → Option (List β)
  | [] => some []
  | x :: r => match f x, allSome f r with | some y, some ys => some (y :: ys) | _, _ => none
def zipSome {α γ β : Type} (f : α → γ → Option β) : List α → List γ → Option (List β)
  | [], [] => some []
  | x :: r, y :: s => match f x y, zipSome f r s with | some z, some zs => some (z :: zs) | _, _ => none
  | _, _ => none

/-- the leaves of a datum of type t -/
def dlv {H : Type} (P : Program) : Nat → TypeId → DataW H → Option (List AV)
  | 0, _, _ => none
  | n + 1, t, d => match P.underlying t, d with
    | some .bool, .lit (.bool b) => some [.bool b]
    | some (.int _), .lit (.int k m) => some [.int k m]
    | some .string, .lit (.string s) => some [.str s]
    | some (.slice _), .nil => some [.sl .none []]
    | some (.slice e), .slice es _ => match aggT P e, allSome (dlv P n e) es with
      | some agg, some xss => if P.cellsOf e = 0 then none else match elemsAV agg xss with | some ys => some [.sl .none ys] | none => none
      | _, _ => none
    | some (.struct fs), .agg ds => if contig P 0 fs.toList = some (P.cellsOf t) then match zipSome (fun (f : Field) d => dlv P n f.type d) fs.toList ds with | some xss => some xss.flatten | none => none else none
    | _, _ => none

theorem allSome_spec {α β : Type} {f : α → Option β} : ∀ {xs : List α} {ys : List β}, allSome f xs = some ys → xs.length = ys.length ∧ ∀ (i : Nat) x y, xs[i]? = some x → ys[i]? = some y → f x = some y
  | [], ys, h => by cases h; exact ⟨rfl, fun i x y h => by simp at h⟩
  | x :: xs, ys, h => by
    simp only [allSome] at h
    split at h
    · rename_i y ys' hy hys
      cases h
      obtain ⟨h1, h2⟩ := allSome_spec hys
      refine ⟨by simp [h1], fun i a b ha hb => ?_⟩
      cases i with
      | zero => simp at ha hb; subst ha hb; exact hy
      | succ i => exact h2 i a b (by simpa using ha) (by simpa using hb)
    · cases h

section
variable {H : Type} {enc : TypeId × Value → H} {P : Program} {w : World} {base : Nat} {sp : Nat → Bool} {held : Bool}

theorem cells_len {a : Addr} {n : Nat} {cs : List Value} (h : w.cells? base a n = some cs) : cs.length = n ∧ ∀ j, j < n → w.cell? (a.add j) = cs[j]? := by
  unfold World.cells? at h
  split at h
  · refine ⟨by simpa using mapM_some_length h, fun j hj => ?_⟩
    have := mapM_some_get h j j (by simp [hj])
    exact this
  · cases h

theorem elemAV_ok {agg : Bool} {xs : List AV} {y : AV} {vs : List Value} (h : elemAV agg xs = some y) (hr : RPs w (fun _ _ => False) xs vs) : nleaves y = xs.length ∧ leaves y = xs := by
  unfold elemAV at h
  split at h
  · cases h; exact ⟨rfl, rfl⟩
  · split at h
    · cases h
      cases hr with
      | cons x v _ _ hx _ => cases hx <;> exact ⟨rfl, rfl⟩
    · cases h

theorem elemsAV_ok {agg : Bool} {sz : Nat} : ∀ {xss : List (List AV)} {ys : List AV}, elemsAV agg xss = some ys → (∀ xs ∈ xss, xs.length = sz ∧ ∃ vs, RPs w (fun _ _ => False) xs vs) →
    ys.length = xss.length ∧ (∀ y ∈ ys, nleaves y = sz) ∧ ys.flatMap leaves = xss.flatten
  | [], ys, h, _ => by cases h; exact ⟨rfl, fun y hy => by simp at hy, rfl⟩
  | xs :: r, ys, h, hx => by
    simp only [elemsAV] at h
    split at h
    · rename_i y ys' hy hys
      cases h
      obtain ⟨hl, vs, hr⟩ := hx xs (by simp)
      obtain ⟨h1, h2⟩ := elemAV_ok hy hr
      obtain ⟨h3, h4, h5⟩ := elemsAV_ok hys fun xs hm => hx xs (by simp [hm])
      refine ⟨by simp [h3], fun z hz => ?_, by simp [h2, h5]⟩
      rcases List.mem_cons.1 hz with rfl | hz
      · rw [h1, hl]
      · exact h4 z hz
    · cases h

theorem RPs.flatten {M : MutP} : ∀ {xss : List (List AV)} {css : List (List Value)}, All2 (RPs w M) xss css → RPs w M xss.flatten css.flatten
  | _, _, .nil => .nil
  | _, _, .cons h hs => by simpa using h.append (RPs.flatten hs)

theorem struct_ok {n : Nat} (ih : ∀ (m : Nat) (t : TypeId) (cs : List Value) (x : DataW H × List MemPlace) (xs : List AV), DataW.trod enc P w base sp held m t cs = some x → dlv P n t x.1 = some xs → RPs w (fun _ _ => False) xs cs) {m : Nat} {cs : List Value} :
    ∀ (fs : List Field) (off end_ : Nat) (xs : List (DataW H × List MemPlace)) (xss : List (List AV)), contig P off fs = some end_ → cs.length = end_ →
      xs.length = fs.length → (∀ (i : Nat) (f : Field), fs[i]? = some f → DataW.trod enc P w base sp held m f.type ((cs.drop f.offset).take (P.cellsOf f.type)) = xs[i]?) →
      zipSome (fun (f : Field) d => dlv P n f.type d) fs (xs.map (·.1)) = some xss → RPs w (fun _ _ => False) xss.flatten (cs.drop off)
  | [], off, e, xs, xss, hc, hl, hx, _, hz => by
    cases hc
    have : xs = [] := by simpa using hx
    subst this
    cases hz
    rw [List.drop_eq_nil_of_le (by omega)]
    exact .nil
  | f :: fs, off, e, xs, xss, hc, hl, hx, ht, hz => by
    cases xs with
    | nil => simp at hx
    | cons x xs =>
      simp only [contig] at hc
      split at hc
      · rename_i hoff
        simp only [List.map_cons, zipSome] at hz
        split at hz
        · rename_i y ys hy hys
          cases hz
          have h0 := ht 0 f (by simp)
          simp only [List.getElem?_cons_zero] at h0
          have h1 := ih m f.type _ x y h0 hy
          have h2 := struct_ok ih fs (off + P.cellsOf f.type) e xs ys hc hl (by simpa using hx) (fun i g hg => by have := ht (i + 1) g (by simpa using hg); simpa using this) hys
          rw [hoff] at h1
          have hcut : cs.drop off = (cs.drop off).take (P.cellsOf f.type) ++ cs.drop (off + P.cellsOf f.type) := by
            rw [← List.drop_drop, List.take_append_drop]
          rw [hcut, List.flatten_cons]
          exact h1.append h2
        · cases hz
      · cases hc

theorem trod_rps : ∀ (n m : Nat) (t : TypeId) (cs : List Value) (x : DataW H × List MemPlace) (xs : List AV), DataW.trod enc P w base sp held m t cs = some x → dlv P n t x.1 = some xs → RPs w (fun _ _ => False) xs cs
  | 0, m, t, cs, x, xs, _, h => by cases h
  | n + 1, m, t, cs, x, xs, ht, h => by
    have ih := trod_rps n
    simp only [dlv] at h
    split at h
    · rename_i b hu hx
      obtain ⟨b', rfl, hx'⟩ := DataW.trod_bool hu ht
      subst hx'
      simp only [DataW.lit.injEq, Lit.bool.injEq] at hx
      subst hx
      cases h
      exact .cons _ _ _ _ (.bool _) .nil
    · rename_i k k' m' hu hx
      obtain ⟨n', rfl, hx', _⟩ := DataW.trod_int hu ht
      subst hx'
      simp only [DataW.lit.injEq, Lit.int.injEq] at hx
      obtain ⟨rfl, rfl⟩ := hx
      cases h
      exact .cons _ _ _ _ (.int _ _) .nil
    · rename_i s hu hx
      obtain ⟨s', rfl, hx', _⟩ := DataW.trod_string hu ht
      subst hx'
      simp only [DataW.lit.injEq, Lit.string.injEq] at hx
      subst hx
      cases h
      exact .cons _ _ _ _ (.str _) .nil
    · rename_i e hu hx
      rcases DataW.trod_slice hu ht with ⟨rfl, _⟩ | ⟨a, len, cap, elems, rest, n', _, rfl, hx', _⟩
      · cases h
        exact .cons _ _ _ _ (.sl0 _ _) .nil
      · subst hx'; cases hx
    · rename_i e es rst hu hx
      rcases DataW.trod_slice hu ht with ⟨_, hx'⟩ | ⟨a, len, cap, elems, rest, n', _, rfl, hx', hb, hl, hm, hlen, hel, _, _⟩
      · subst hx'; cases hx
      · subst hx'
        simp only [DataW.slice.injEq] at hx
        obtain ⟨rfl, _⟩ := hx
        split at h
        · rename_i agg xss hagg hxss
          split at h
          · cases h
          rename_i hsz
          split at h
          · rename_i ys hys
            cases h
            refine .cons _ _ _ _ ?_ .nil
            obtain ⟨hxl, hxg⟩ := allSome_spec hxss
            rw [List.length_map] at hxl
            have hlx : xss.length = len := by omega
            -- each element's cells
            have each : ∀ i, i < len → ∃ csi xsi, w.cells? base (a.add (i * P.cellsOf e)) (P.cellsOf e) = some csi ∧ xss[i]? = some xsi ∧ RPs w (fun _ _ => False) xsi csi ∧ csi.length = P.cellsOf e := by
              intro i hi
              have h1 := hel i hi
              have hie : i < elems.length := by omega
              rw [List.getElem?_eq_getElem hie] at h1
              simp only [Option.bind_eq_some_iff] at h1
              obtain ⟨csi, hc, htr⟩ := h1
              have hix : i < xss.length := by omega
              refine ⟨csi, xss[i], hc, List.getElem?_eq_getElem hix, ?_, (cells_len hc).1⟩
              refine ih n' e csi elems[i] xss[i] htr (hxg i elems[i].1 xss[i] ?_ (List.getElem?_eq_getElem hix))
              rw [List.getElem?_map, List.getElem?_eq_getElem hie]
              rfl
            obtain ⟨csf, hcsf⟩ : ∃ csf : Nat → List Value, ∀ i, i < len → w.cells? base (a.add (i * P.cellsOf e)) (P.cellsOf e) = some (csf i) := by
              refine ⟨fun i => (w.cells? base (a.add (i * P.cellsOf e)) (P.cellsOf e)).getD [], fun i hi => ?_⟩
              obtain ⟨csi, xsi, hc, _⟩ := each i hi
              simp only [hc, Option.getD_some]
            have hall : All2 (RPs w (fun _ _ => False)) xss ((List.range len).map csf) := by
              refine All2.of_get (by simp [hlx]) fun i x y hx hy => ?_
              have hi : i < len := by rw [← hlx]; exact lt_of_some hx
              obtain ⟨csi, xsi, hc, hxi, hr, _⟩ := each i hi
              rw [hx] at hxi; cases hxi
              rw [List.getElem?_map, List.getElem?_range hi] at hy
              cases hy
              have := hcsf i hi
              rw [hc] at this
              cases this
              exact hr
            have hlens : ∀ i, i < len → (csf i).length = P.cellsOf e := fun i hi => (cells_len (hcsf i hi)).1
            obtain ⟨hyl, hynl, hyf⟩ := elemsAV_ok (w := w) (sz := P.cellsOf e) hys fun xs hxs => by
              obtain ⟨i, hi⟩ := List.mem_iff_getElem?.1 hxs
              obtain ⟨csi, xsi, hc, hxi, hr, hcl⟩ := each i (by rw [← hlx]; exact lt_of_some hi)
              rw [hi] at hxi; cases hxi
              exact ⟨by rw [hr.length, hcl], csi, hr⟩
            by_cases hlz : len = 0
            · have : ys = [] := by
                rw [← List.length_eq_zero_iff, hyl]; omega
              subst this
              rw [hlz]
              exact .sl0 _ _
            · obtain ⟨bl, of, rfl⟩ : ∃ bl of, a = ⟨bl, of, none⟩ := by
                obtain ⟨hl0, hc0⟩ := cells_len (hcsf 0 (by omega))
                have h2 := hc0 0 (by omega)
                simp only [Nat.zero_mul, Addr.add, if_true] at h2
                have h3 : 0 < (csf 0).length := by omega
                rw [List.getElem?_eq_getElem h3] at h2
                unfold World.cell? at h2
                split at h2
                · split at h2
                  · cases h2
                  · rename_i hsp
                    cases a with
                    | mk bl of spt =>
                      cases spt with
                      | none => exact ⟨bl, of, rfl⟩
                      | some q => simp at hsp
                · cases h2
              have hyl' : ys.length = len := by omega
              rw [← hyl']
              refine .sl bl of cap (P.cellsOf e) ys ((List.range len).map csf).flatten ?_ hynl ?_ ?_ (by omega)
              · intro h0; rw [h0] at hyl'; simp at hyl'; omega
              · rw [hyf]; exact RPs.flatten hall
              · refine imm_at fun j v hv => ?_
                have key : ∀ (k : Nat) (l : List Nat) (j : Nat) (v : Value), l = List.range' k l.length → k + l.length ≤ len → (l.map csf).flatten[j]? = some v → w.cell? ⟨bl, of + k * P.cellsOf e + j, none⟩ = some v := by
                  intro k l
                  induction l generalizing k with
                  | nil => intro j v _ _ hv; simp at hv
                  | cons i l ihl =>
                    intro j v hlr hle hv
                    rw [List.length_cons, List.range'_succ] at hlr
                    simp only [List.cons.injEq] at hlr
                    obtain ⟨rfl, hlr⟩ := hlr
                    simp only [List.length_cons] at hle
                    simp only [List.map_cons, List.flatten_cons] at hv
                    have hil : i < len := by omega
                    have hcl := hlens i hil
                    by_cases hj : j < P.cellsOf e
                    · rw [List.getElem?_append_left (by omega)] at hv
                      have h4 := (cells_len (hcsf i hil)).2 j hj
                      rw [hv] at h4
                      rw [← h4]
                      rw [Addr.add_lit, Addr.add_lit]
                    · rw [List.getElem?_append_right (by omega), hcl] at hv
                      have := ihl (i + 1) (j - P.cellsOf e) v hlr (by omega) hv
                      rw [← this]
                      congr 2
                      rw [Nat.add_mul]
                      omega
                have := key 0 (List.range len) j v (by rw [List.length_range, List.range_eq_range']) (by simp) hv
                simpa using this
          · cases h
        · cases h
    · rename_i fs ds hu hx
      obtain ⟨ys, n', _, hx', hcl, hyl, hyf⟩ := DataW.trod_struct hu ht
      subst hx'
      simp only [DataW.agg.injEq] at hx
      subst hx
      split at h
      · rename_i hcont
        split at h
        · rename_i xss hxss
          cases h
          have := struct_ok (cs := cs) ih fs.toList 0 (P.cellsOf t) ys xss hcont hcl (by simpa using hyl) (fun i f hf => hyf i f (by rw [← Array.getElem?_toList]; exact hf)) hxss
          simpa using this
        · cases h
      · cases h
    · cases h
end
end Ab
