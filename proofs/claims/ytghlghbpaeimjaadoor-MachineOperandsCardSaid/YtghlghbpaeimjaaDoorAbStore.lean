/- Stores into a variable, and what append does, as steps of states. -/
import Derived.Test.YtghlghbpaeimjaaDoorAbAlloc
namespace Ab
open Go

theorem cell_of_heap {w : World} {b off : Nat} {vs : Array Value} {t : TypeId} {fr : Nat × Nat} (h : w.heap[b]? = some (.cells vs t fr)) : w.cell? ⟨b, off, none⟩ = vs[off]? := by
  simp [World.cell?, h]
theorem cell_setRow_ne {w : World} {g b off : Nat} {cs : Array Value} (h : b ≠ g) : (w.setRow g cs).cell? ⟨b, off, none⟩ = w.cell? ⟨b, off, none⟩ := by
  unfold World.cell?; rw [setRow_other w g b cs h]
theorem lt_of_some {α : Type} {l : List α} {i : Nat} {x : α} (h : l[i]? = some x) : i < l.length := by
  rcases Nat.lt_or_ge i l.length with h' | h'
  · exact h'
  · rw [List.getElem?_eq_none h'] at h; cases h
theorem lt_of_someA {α : Type} {l : Array α} {i : Nat} {x : α} (h : l[i]? = some x) : i < l.size := by
  rcases Nat.lt_or_ge i l.size with h' | h'
  · exact h'
  · rw [Array.getElem?_eq_none h'] at h; cases h

theorem All2.splice {α β : Type} {R : α → β → Prop} {xs ys : List α} {us vs : List β} (h : All2 R xs us) (off : Nat) (h' : All2 R ys vs) :
    All2 R (xs.take off ++ ys ++ xs.drop (off + ys.length)) (us.take off ++ vs ++ us.drop (off + vs.length)) := by
  rw [h'.length]
  exact ((h.take off).append h').append (h.drop _)

theorem froz_setRow (w : World) (b : Nat) (cs : Array Value) (a : Addr) : (w.setRow b cs).frozen? a = w.frozen? a := by
  unfold World.frozen? World.setRow
  simp only [Array.getElem?_modify]
  by_cases h : b = a.block
  · rw [if_pos h]
    cases w.heap[a.block]? with
    | none => rfl
    | some o => cases o <;> rfl
  · rw [if_neg h]
/-- An object turned, a block written. -/
def St.turn (S : St) (o : Nat) (ob : Ob) (M' : MutP) (b : Nat) (cs : Array Value) : St := { S with H := S.H.set o ob, M := M', w := S.w.setRow b cs }
theorem turn_H_ne {S : St} {o p : Nat} {ob : Ob} {M' : MutP} {b : Nat} {cs : Array Value} (h : p ≠ o) : (S.turn o ob M' b cs).H[p]? = S.H[p]? := by
  simp [St.turn, Ne.symm h]
theorem turn_H {S : St} {o : Nat} {ob ob0 : Ob} {M' : MutP} {b : Nat} {cs : Array Value} (h : S.H[o]? = some ob0) : (S.turn o ob M' b cs).H[o]? = some ob := by
  simp [St.turn, lt_of_some h]

/-- A store into an object's cells. -/
theorem store_ok (k : Nat) (g : Bool) {S : St} (hG : Good S) {o b : Nat} {xs : List AV} (hH : S.H[o]? = some (.cells xs)) (hm : S.m o = .blk b)
    (off : Nat) (ys : List AV) (us : List Value) (hfit : off + ys.length ≤ xs.length) (hs : All2 (RL S) ys us) (hl : ys.all isLf = true)
    (hlow : k ≤ o ∨ g = true ∨ ys.all free = true) :
    ∃ (vs : Array Value) (t : TypeId), S.w.heap[b]? = some (.cells vs t (0, 0)) ∧ off + us.length ≤ vs.size ∧
      Step k g S (S.turn o (.cells (splice xs off ys)) S.M b (vs.toList.take off ++ us ++ vs.toList.drop (off + us.length)).toArray) ∧
      Good (S.turn o (.cells (splice xs off ys)) S.M b (vs.toList.take off ++ us ++ vs.toList.drop (off + us.length)).toArray) := by
  have ho := hG.objs o
  unfold ObjOk at ho
  rw [hH, hm] at ho
  obtain ⟨vs, t, hb, hvs, hxl, hM⟩ := ho
  have hlen := hvs.length
  have hul := hs.length
  have hsz : vs.toList.length = vs.size := by simp
  have hown : own S o = some b := by unfold own; rw [hH, hm]
  refine ⟨vs, t, hb, by omega, ?_⟩
  generalize hcs : (vs.toList.take off ++ us ++ vs.toList.drop (off + us.length)).toArray = cs
  have hcs' : cs.toList = vs.toList.take off ++ us ++ vs.toList.drop (off + us.length) := by rw [← hcs]
  have hcl : cs.size = vs.size := by
    rw [← Array.length_toList, hcs']; simp; omega
  have hown' : own (S.turn o (.cells (splice xs off ys)) S.M b cs) o = some b := by
    unfold own; rw [turn_H hH]; simp only [St.turn, hm]
  have e : Step k g S (S.turn o (.cells (splice xs off ys)) S.M b cs) := by
    refine { wext := ?_, cells := ?_, frs := ?_, size := by simp [St.turn], keep := ?_, owns := ?_, os := ⟨rfl, rfl, rfl⟩, froz := fun a => froz_setRow _ _ _ a, muts := fun _ _ _ _ h => h, len := by simp [St.turn], pend := ?_, low := ?_ }
    · intro b' off' v hc hM'
      by_cases hbb : b' = b
      · subst hbb
        rw [cell_of_heap hb] at hc
        exact absurd (hM off' (lt_of_someA hc)) hM'
      · exact ⟨(cell_setRow_ne hbb).trans hc, hM'⟩
    · intro p ys' hp
      by_cases hpo : p = o
      · subst hpo
        rw [hH] at hp; cases hp
        refine ⟨fun _ => rfl, splice xs off ys, turn_H hH, by simp [splice]; omega⟩
      · exact ⟨fun _ => rfl, ys', (turn_H_ne hpo).trans hp, rfl⟩
    · intro p sz n hp
      have hpo : p ≠ o := by rintro rfl; rw [hH] at hp; cases hp
      exact ⟨n, (turn_H_ne hpo).trans hp, Nat.le_refl _, fun _ => rfl⟩
    · intro b' _ hn
      have : b' ≠ b := fun e => hn o (e ▸ hown)
      exact setRow_other _ _ _ _ this
    · intro p b' hp
      by_cases hpo : p = o
      · subst hpo
        rw [hown'] at hp; cases hp
        exact .inl ⟨p, hown⟩
      · exact .inl ⟨p, by rwa [own_congr (S := S) (turn_H_ne hpo) rfl] at hp⟩
    · intro p _ hp
      have : p ≠ o := by rintro rfl; rw [hm] at hp; cases hp
      exact ⟨hp, turn_H_ne this⟩
    · intro hg p hp ys' hy x hx
      by_cases hpo : p = o
      · subst hpo
        rw [turn_H hH] at hy; cases hy
        unfold splice at hx
        rcases List.mem_append.1 hx with hx | hx
        · rcases List.mem_append.1 hx with hx | hx
          · exact .inr ⟨xs, hH, List.mem_of_mem_take hx⟩
          · rcases hlow with h | h | h
            · omega
            · rw [hg] at h; cases h
            · exact .inl (List.all_eq_true.1 h x hx)
        · exact .inr ⟨xs, hH, List.mem_of_mem_drop hx⟩
      · exact .inr ⟨ys', by rwa [turn_H_ne hpo] at hy, hx⟩
  refine ⟨e, good_of_step hG e o ?_ (fun p hp => turn_H_ne hp) (fun p hp => rfl) (fun p b' hp hb' => ?_) (fun b' hb' => ?_) (fun b' hb' p hp hq => ?_)⟩
  · unfold ObjOk
    rw [turn_H hH]
    simp only [St.turn, hm]
    refine ⟨cs, t, setRow_heap _ _ _ _ _ _ hb, ?_, ?_, fun off ho => hM off (by omega)⟩
    · rw [hcs']
      exact ((hvs.splice off hs).mono fun _ _ h => h.step e)
    · unfold splice
      simp only [List.all_append, Bool.and_eq_true]
      refine ⟨⟨?_, hl⟩, ?_⟩
      · exact List.all_eq_true.2 fun x hx => List.all_eq_true.1 hxl x (List.mem_of_mem_take hx)
      · exact List.all_eq_true.2 fun x hx => List.all_eq_true.1 hxl x (List.mem_of_mem_drop hx)
  · have : b' ≠ b := by
      rintro rfl
      exact hp (hG.disj p o b' hb' hown)
    exact ⟨setRow_other _ _ _ _ this, fun off h => h⟩
  · rw [hown'] at hb'; cases hb'
    have := hG.there o b hown
    simpa [St.turn] using this
  · rw [hown'] at hb'; cases hb'
    exact hp (hG.disj p o b hq hown)

theorem leaves_length (x : AV) : (leaves x).length = nleaves x := by cases x <;> rfl
theorem flat_length {sz : Nat} : ∀ {xs : List AV}, (∀ x ∈ xs, nleaves x = sz) → (xs.flatMap leaves).length = xs.length * sz
  | [], _ => by simp
  | x :: xs, h => by
    rw [List.flatMap_cons, List.length_append, flat_length (xs := xs) fun y hy => h y (by simp [hy]), leaves_length, h x (by simp), List.length_cons, Nat.succ_mul, Nat.add_comm]

/-- what a slice's reading says of its cells, the empty one too -/
theorem RP.sl_parts {w : World} {M : MutP} {xs : List AV} {u : Value} (h : RP w M (.sl .none xs) u) :
    ∃ a cap, u = .slice a xs.length cap ∧ xs.length ≤ cap ∧ (xs ≠ [] → ∃ b off sz vs, a = some ⟨b, off, none⟩ ∧ (∀ x ∈ xs, nleaves x = sz) ∧ RPs w M (xs.flatMap leaves) vs ∧ Imm w M b off vs) := by
  cases h with
  | sl0 a cap => exact ⟨a, cap, rfl, by simp, fun h => absurd rfl h⟩
  | sl b off cap sz xs vs ne hsz hs himm hcap => exact ⟨_, cap, rfl, hcap, fun _ => ⟨b, off, sz, vs, rfl, hsz, hs, himm⟩⟩
theorem RP.sl_mk {w : World} {M : MutP} {xs : List AV} {a : Option Addr} {cap : Nat} (hcap : xs.length ≤ cap)
    (h : xs ≠ [] → ∃ b off sz vs, a = some ⟨b, off, none⟩ ∧ (∀ x ∈ xs, nleaves x = sz) ∧ RPs w M (xs.flatMap leaves) vs ∧ Imm w M b off vs) :
    RP w M (.sl .none xs) (.slice a xs.length cap) := by
  by_cases hx : xs = []
  · subst hx; exact .sl0 a cap
  · obtain ⟨b, off, sz, vs, rfl, hsz, hs, hi⟩ := h hx
    exact .sl b off cap sz xs vs hx hsz hs hi hcap

theorem getElem?_splice {α : Type} (l us : List α) (p j : Nat) (hfit : p + us.length ≤ l.length) :
    (l.take p ++ us ++ l.drop (p + us.length))[j]? = if p ≤ j ∧ j < p + us.length then us[j - p]? else l[j]? := by
  have hp : min p l.length = p := by omega
  rw [List.append_assoc]
  by_cases h1 : j < p
  · rw [List.getElem?_append_left (by simp; omega), List.getElem?_take, if_pos h1, if_neg (by omega)]
  · by_cases h2 : j < p + us.length
    · rw [List.getElem?_append_right (by simp; omega), List.getElem?_append_left (by simp; omega), if_pos ⟨by omega, h2⟩]
      simp [hp]
    · rw [List.getElem?_append_right (by simp; omega), List.getElem?_append_right (by simp; omega), if_neg (by omega), List.getElem?_drop]
      congr 1
      simp [hp]
      omega

/-- APPEND WITHIN THE ROOM. -/
theorem app_in (k : Nat) (g : Bool) {S : St} (hG : Good S) {o sz n b off cap : Nat} (hH : S.H[o]? = some (.fr sz n)) (hm : S.m o = .hdr (some ⟨b, off, none⟩) cap)
    (xs ys : List AV) (hn : n = xs.length) (us : List Value) (hx : ∀ x ∈ xs, nleaves x = sz) (hy : ∀ x ∈ ys, nleaves x = sz) (hxr : RP S.w S.M (.sl .none xs) (.slice (some ⟨b, off, none⟩) n cap))
    (hyr : RPs S.w S.M (ys.flatMap leaves) us) (hfit : n + ys.length ≤ cap) (hne : ys ≠ []) :
    ∃ (vs : Array Value) (t : TypeId), S.w.heap[b]? = some (.cells vs t (0, 0)) ∧ off + n * sz + us.length ≤ vs.size ∧
      ∃ S', S' = S.turn o (.fr sz (n + ys.length)) (fun b' j => S.M b' j ∧ ¬ (b' = b ∧ off + n * sz ≤ j ∧ j < off + n * sz + us.length)) b
          (vs.toList.take (off + n * sz) ++ us ++ vs.toList.drop (off + n * sz + us.length)).toArray ∧ Step k g S S' ∧ Good S' ∧
        RP S'.w S'.M (.sl .none (xs ++ ys)) (.slice (some ⟨b, off, none⟩) (n + ys.length) cap) := by
  have hyl : 0 < ys.length := List.length_pos_iff.2 hne
  have ho := hG.objs o
  unfold ObjOk at ho
  rw [hH, hm] at ho
  obtain ⟨hz, hnc, hblk⟩ := ho
  obtain ⟨b0, off0, hbo, vs, t, hb, hsz, hM⟩ := hblk (by omega)
  obtain ⟨rfl, rfl⟩ : b = b0 ∧ off = off0 := by simpa using hbo
  have hul : us.length = ys.length * sz := by rw [← hyr.length, flat_length hy]
  have hcapsz : (n + ys.length) * sz ≤ cap * sz := Nat.mul_le_mul_right sz hfit
  rw [Nat.add_mul] at hcapsz
  have hfits : off + n * sz + us.length ≤ vs.size := by omega
  refine ⟨vs, t, hb, hfits, _, rfl, ?_⟩
  have hown : own S o = some b := by unfold own; rw [hH, hm]; simp [show n < cap by omega]
  generalize hcs : (vs.toList.take (off + n * sz) ++ us ++ vs.toList.drop (off + n * sz + us.length)).toArray = cs
  have hcs' : cs.toList = vs.toList.take (off + n * sz) ++ us ++ vs.toList.drop (off + n * sz + us.length) := by rw [← hcs]
  have hcg : ∀ j, cs[j]? = if off + n * sz ≤ j ∧ j < off + n * sz + us.length then us[j - (off + n * sz)]? else vs[j]? := by
    intro j
    rw [← Array.getElem?_toList, hcs', getElem?_splice _ _ _ _ (by simpa using hfits)]
    simp
  have hcl : cs.size = vs.size := by
    rw [← Array.length_toList, hcs']; simp; omega
  generalize hM' : (fun b' j => S.M b' j ∧ ¬ (b' = b ∧ off + n * sz ≤ j ∧ j < off + n * sz + us.length)) = M'
  have hMe : ∀ b' j, M' b' j ↔ S.M b' j ∧ ¬ (b' = b ∧ off + n * sz ≤ j ∧ j < off + n * sz + us.length) := fun b' j => by rw [← hM']
  have hHo : (S.turn o (.fr sz (n + ys.length)) M' b cs).H[o]? = some (.fr sz (n + ys.length)) := turn_H hH
  have hheap : (S.turn o (.fr sz (n + ys.length)) M' b cs).w.heap[b]? = some (.cells cs t (0, 0)) := setRow_heap _ _ _ _ _ _ hb
  have hown' : ∀ b', own (S.turn o (.fr sz (n + ys.length)) M' b cs) o = some b' → b' = b := by
    intro b' h
    unfold own at h
    rw [hHo] at h
    simp only [St.turn, hm] at h
    split at h
    · exact (Option.some.inj h).symm
    · cases h
  have hw : WExt S.w S.M (S.turn o (.fr sz (n + ys.length)) M' b cs).w (S.turn o (.fr sz (n + ys.length)) M' b cs).M := by
    intro b' off' v hc hm'
    refine ⟨?_, fun h => hm' ((hMe _ _).1 h).1⟩
    by_cases hbb : b' = b
    · subst hbb
      rw [cell_of_heap hb] at hc
      rw [cell_of_heap hheap, hcg, if_neg ?_]
      · exact hc
      · rintro ⟨h1, h2⟩
        refine hm' ?_
        have := hM (off' - off) (by omega) (by omega)
        rwa [show off + (off' - off) = off' by omega] at this
    · exact (cell_setRow_ne hbb).trans hc
  have e : Step k g S (S.turn o (.fr sz (n + ys.length)) M' b cs) := by
    refine { wext := hw, cells := ?_, frs := ?_, size := by simp [St.turn], keep := ?_, owns := ?_, os := ⟨rfl, rfl, rfl⟩, froz := fun a => froz_setRow _ _ _ a, muts := fun b' off' _ hn' h => (hMe b' off').2 ⟨h, fun e1 => hn' o (e1.1 ▸ hown)⟩, len := by simp [St.turn], pend := ?_, low := ?_ }
    · intro p ys' hp
      have hpo : p ≠ o := by rintro rfl; rw [hH] at hp; cases hp
      exact ⟨fun _ => rfl, ys', (turn_H_ne hpo).trans hp, rfl⟩
    · intro p sz' n' hp
      by_cases hpo : p = o
      · subst hpo
        rw [hH] at hp; cases hp
        exact ⟨_, hHo, by omega, fun h => by omega⟩
      · exact ⟨n', (turn_H_ne hpo).trans hp, Nat.le_refl _, fun _ => rfl⟩
    · intro b' _ hn'
      have : b' ≠ b := fun e => hn' o (e ▸ hown)
      exact setRow_other _ _ _ _ this
    · intro p b' hp
      by_cases hpo : p = o
      · subst hpo; rw [hown' b' hp]; exact .inl ⟨p, hown⟩
      · exact .inl ⟨p, by rwa [own_congr (S := S) (turn_H_ne hpo) rfl] at hp⟩
    · intro p _ hp
      have : p ≠ o := by rintro rfl; rw [hm] at hp; cases hp
      exact ⟨hp, turn_H_ne this⟩
    · intro _ p _ ys' hy' x hx'
      have hpo : p ≠ o := by rintro rfl; rw [hHo] at hy'; cases hy'
      exact .inr ⟨ys', by rwa [turn_H_ne hpo] at hy', hx'⟩
  refine ⟨e, good_of_step hG e o ?_ (fun p hp => turn_H_ne hp) (fun p hp => rfl) (fun p b' hp hb' => ?_) (fun b' hb' => ?_) (fun b' hb' p hp hq => ?_), ?_⟩
  · unfold ObjOk
    rw [hHo]
    simp only [St.turn, hm]
    refine ⟨hz, hfit, fun _ => ⟨b, off, rfl, cs, t, hheap, by omega, fun j h1 h2 => (hMe _ _).2 ⟨hM j ?_ h2, ?_⟩⟩⟩
    · rw [Nat.add_mul] at h1; omega
    · rw [Nat.add_mul] at h1; omega
  · have hbb : b' ≠ b := by
      rintro rfl
      exact hp (hG.disj p o b' hb' hown)
    exact ⟨setRow_other _ _ _ _ hbb, fun off h => (hMe _ _).2 ⟨h, fun h' => hbb h'.1⟩⟩
  · rw [hown' b' hb']
    have := hG.there o b hown
    simpa [St.turn] using this
  · rw [hown' b' hb'] at hq
    exact hp (hG.disj p o b hq hown)
  · have hlen : n + ys.length = (xs ++ ys).length := by simp [hn]
    suffices key : RP (S.turn o (.fr sz (n + ys.length)) M' b cs).w (S.turn o (.fr sz (n + ys.length)) M' b cs).M (.sl .none (xs ++ ys)) (.slice (some ⟨b, off, none⟩) (xs ++ ys).length cap) by
      rwa [← hlen] at key
    refine RP.sl_mk (by rw [← hlen]; exact hfit) fun _ => ?_
    have hold : ∃ vx, RPs (S.turn o (.fr sz (n + ys.length)) M' b cs).w (S.turn o (.fr sz (n + ys.length)) M' b cs).M (xs.flatMap leaves) vx ∧ Imm (S.turn o (.fr sz (n + ys.length)) M' b cs).w (S.turn o (.fr sz (n + ys.length)) M' b cs).M b off vx := by
      obtain ⟨a, cap', hu, _, hq⟩ := hxr.sl_parts
      by_cases hxe : xs = []
      · subst hxe; exact ⟨[], .nil, .nil⟩
      · obtain ⟨b1, off1, sz1, vx, ha, _, hs1, hi1⟩ := hq hxe
        simp only [Value.slice.injEq] at hu
        obtain ⟨rfl, -, rfl⟩ := hu
        obtain ⟨rfl, rfl⟩ : b = b1 ∧ off = off1 := by simpa using ha
        exact ⟨vx, hs1.mono hw, hi1.mono hw⟩
    obtain ⟨vx, hs1, hi1⟩ := hold
    have hvx : vx.length = n * sz := by rw [← hs1.length, flat_length hx, hn]
    refine ⟨b, off, sz, vx ++ us, rfl, fun x hm => ?_, ?_, fun j v hj => ?_⟩
    · rcases List.mem_append.1 hm with h | h
      · exact hx x h
      · exact hy x h
    · rw [List.flatMap_append]
      exact hs1.append (hyr.mono hw)
    · by_cases hjn : j < vx.length
      · rw [List.getElem?_append_left hjn] at hj
        exact hi1 j v hj
      · rw [List.getElem?_append_right (by omega)] at hj
        have hju := lt_of_some hj
        refine ⟨?_, fun h => ((hMe _ _).1 h).2 ⟨rfl, by omega, by omega⟩⟩
        rw [cell_of_heap hheap, hcg, if_pos ⟨by omega, by omega⟩, ← hj]
        congr 1
        omega

/-- APPEND BEYOND THE ROOM: a new block. The frontier's object is o: an old one (its block is let go), or a place kept for it. -/
theorem app_out (k : Nat) (g : Bool) {S : St} (hG : Good S) {o sz n cap : Nat} (hz : 0 < sz) (hko : (∃ n0, S.H[o]? = some (.fr sz n0) ∧ n0 = n) ∨ (k ≤ o ∧ S.m o = .non ∧ S.H[o]? = some .dead))
    (xs ys : List AV) (hn : n = xs.length) (vx us rest : List Value) (hx : ∀ x ∈ xs, nleaves x = sz) (hy : ∀ x ∈ ys, nleaves x = sz) (hxr : RPs S.w S.M (xs.flatMap leaves) vx)
    (hyr : RPs S.w S.M (ys.flatMap leaves) us) (hfit : n + ys.length ≤ cap) (hne : ys ≠ []) (hrest : (n + ys.length) * sz + rest.length = cap * sz) (t : TypeId) :
    ∃ S', S' = (S.alloc (vx ++ us ++ rest).toArray t fun off => (n + ys.length) * sz ≤ off).give o (.fr sz (n + ys.length)) (.hdr (some ⟨S.w.heap.size, 0, none⟩) cap) ∧ Step k g S S' ∧ Good S' ∧
        RP S'.w S'.M (.sl .none (xs ++ ys)) (.slice (some ⟨S.w.heap.size, 0, none⟩) (n + ys.length) cap) := by
  refine ⟨_, rfl, ?_⟩
  have hyl : 0 < ys.length := List.length_pos_iff.2 hne
  have e1 := step_alloc k g S (vx ++ us ++ rest).toArray t (fun off => (n + ys.length) * sz ≤ off)
  have g1 := good_alloc hG (vx ++ us ++ rest).toArray t (fun off => (n + ys.length) * sz ≤ off)
  generalize hS1 : S.alloc (vx ++ us ++ rest).toArray t (fun off => (n + ys.length) * sz ≤ off) = S1 at e1 g1 ⊢
  have hH1 : S1.H = S.H := by rw [← hS1]; rfl
  have hm1 : S1.m = S.m := by rw [← hS1]; rfl
  have hw1 : S1.w.heap[S.w.heap.size]? = some (.cells (vx ++ us ++ rest).toArray t (0, 0)) := by rw [← hS1]; exact heap_alloc_new
  have hM1 : ∀ off, S1.M S.w.heap.size off ↔ (n + ys.length) * sz ≤ off := fun off => by rw [← hS1]; simp [St.alloc]
  have hob : ∃ ob, S1.H[o]? = some ob := by
    rw [hH1]
    rcases hko with ⟨n0, h, _⟩ | ⟨_, _, h⟩ <;> exact ⟨_, h⟩
  obtain ⟨ob, hob⟩ := hob
  have hHo : (S1.give o (.fr sz (n + ys.length)) (.hdr (some ⟨S.w.heap.size, 0, none⟩) cap)).H[o]? = some (.fr sz (n + ys.length)) := give_H hob
  have hown' : ∀ b, own (S1.give o (.fr sz (n + ys.length)) (.hdr (some ⟨S.w.heap.size, 0, none⟩) cap)) o = some b → b = S.w.heap.size := by
    intro b h
    unfold own at h
    rw [hHo, give_m] at h
    simp only at h
    split at h
    · exact (Option.some.inj h).symm
    · cases h
  have e : Step k g S (S1.give o (.fr sz (n + ys.length)) (.hdr (some ⟨S.w.heap.size, 0, none⟩) cap)) := by
    refine { wext := e1.wext, cells := ?_, frs := ?_, size := e1.size, keep := e1.keep, owns := ?_, os := e1.os, froz := e1.froz, muts := e1.muts, len := by simp [St.give, hH1], pend := ?_, low := ?_ }
    · intro p ys' hp
      have hpo : p ≠ o := by
        rintro rfl
        rcases hko with ⟨n0, h, _⟩ | ⟨_, _, h⟩ <;> (rw [h] at hp; cases hp)
      rw [give_H_ne hpo, give_m_ne hpo]
      exact e1.cells p ys' hp
    · intro p sz' n' hp
      by_cases hpo : p = o
      · subst hpo
        rcases hko with ⟨n0, h, rfl⟩ | ⟨_, _, h⟩
        · rw [h] at hp; cases hp
          exact ⟨_, hHo, by omega, fun h => by omega⟩
        · rw [h] at hp; cases hp
      · rw [give_H_ne hpo, give_m_ne hpo]
        exact e1.frs p sz' n' hp
    · intro p b hp
      by_cases hpo : p = o
      · subst hpo; rw [hown' b hp]; exact .inr (Nat.le_refl _)
      · rw [own_give_ne hpo] at hp; exact e1.owns p b hp
    · intro p hpk hp
      have hpo : p ≠ o := by
        rintro rfl
        rcases hko with ⟨n0, h, _⟩ | ⟨h, _, _⟩
        · have := hG.objs p
          unfold ObjOk at this
          rw [h, hp] at this
          exact this
        · omega
      rw [give_H_ne hpo, give_m_ne hpo]
      exact e1.pend p hpk hp
    · intro hg p hpk ys' hy' x hx'
      have hpo : p ≠ o := by rintro rfl; rw [hHo] at hy'; cases hy'
      exact e1.low hg p hpk ys' (by rwa [give_H_ne hpo] at hy') x hx'
  have hvx : vx.length = n * sz := by rw [← hxr.length, flat_length hx, hn]
  have hul : us.length = ys.length * sz := by rw [← hyr.length, flat_length hy]
  have hsum : (n + ys.length) * sz = n * sz + ys.length * sz := Nat.add_mul ..
  refine ⟨e, good_of_step hG e o ?_ (fun p hp => by rw [give_H_ne hp, hH1]) (fun p hp => by rw [give_m_ne hp, hm1]) (fun p b hp hb => ?_) (fun b hb => ?_) (fun b hb p hp hq => ?_), ?_⟩
  · unfold ObjOk
    rw [hHo, give_m]
    refine ⟨hz, hfit, fun _ => ⟨_, _, rfl, _, t, hw1, ?_, fun j h1 _ => ?_⟩⟩
    · simp; omega
    · show S1.M _ _
      rw [hM1]; omega
  · have hlt := hG.there p b hb
    refine ⟨by rw [← hS1]; exact heap_alloc_old hlt, fun off hM => ?_⟩
    show S1.M b off
    rw [← hS1]
    show (if b = S.w.heap.size then _ else S.M b off)
    rw [if_neg (by omega)]; exact hM
  · rw [hown' b hb]; show _ < S1.w.heap.size; rw [← hS1]; simp [St.alloc]
  · rw [hown' b hb] at hq
    have := hG.there p _ hq
    omega
  · have hlen : n + ys.length = (xs ++ ys).length := by simp [hn]
    suffices key : RP S1.w S1.M (.sl .none (xs ++ ys)) (.slice (some ⟨S.w.heap.size, 0, none⟩) (xs ++ ys).length cap) by
      rw [← hlen] at key
      exact key
    refine RP.sl_mk (by rw [← hlen]; exact hfit) fun _ => ?_
    refine ⟨S.w.heap.size, 0, sz, vx ++ us, rfl, fun x hm => ?_, ?_, fun j v hj => ?_⟩
    · rcases List.mem_append.1 hm with h | h
      · exact hx x h
      · exact hy x h
    · rw [List.flatMap_append]
      exact (hxr.mono e1.wext).append (hyr.mono e1.wext)
    · have hjl := lt_of_some hj
      rw [List.length_append] at hjl
      rw [cell_of_heap hw1, hM1]
      refine ⟨?_, by omega⟩
      rw [Nat.zero_add]
      simp only [List.getElem?_toArray]
      rw [List.getElem?_append_left (by rw [List.length_append]; omega)]
      exact hj

/-- APPEND OF NOTHING to what has no room to spare: a frontier without room. -/
theorem app_none (k : Nat) (g : Bool) {S : St} (hG : Good S) {o sz n : Nat} (hz : 0 < sz) (hk : k ≤ o) (hm : S.m o = .non) (hH : S.H[o]? = some .dead) (a : Option Addr) :
    Step k g S (S.give o (.fr sz n) (.hdr a n)) ∧ Good (S.give o (.fr sz n) (.hdr a n)) := by
  have hown : ∀ b, own (S.give o (.fr sz n) (.hdr a n)) o = some b → False := by
    intro b h
    unfold own at h
    rw [give_H hH, give_m] at h
    cases a with
    | none => cases h
    | some a => simp at h
  have e : Step k g S (S.give o (.fr sz n) (.hdr a n)) := step_give (.refl _ _ _) hk hm hm hH (.inl rfl) (fun b h => (hown b h).elim) ⟨_, hH⟩
  refine ⟨e, good_of_step hG e o ?_ (fun p hp => give_H_ne hp) (fun p hp => give_m_ne hp) (fun p b hp hb => ⟨rfl, fun _ h => h⟩) (fun b hb => (hown b hb).elim) (fun b hb => (hown b hb).elim)⟩
  unfold ObjOk
  rw [give_H hH, give_m]
  exact ⟨hz, Nat.le_refl _, fun h => absurd h (Nat.lt_irrefl _)⟩

end Ab
