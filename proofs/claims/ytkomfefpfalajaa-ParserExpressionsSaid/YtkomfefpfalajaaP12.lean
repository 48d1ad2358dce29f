/- The parser: what Parse answers. -/
import Derived.Test.YtkomfefpfalajaaP8
namespace Go.Proofs.Ytkomfefpfalajaa
open Go Go.Proofs Ab
set_option maxRecDepth 100000
set_option linter.unusedSimpArgs false
set_option linter.unusedVariables false
abbrev zP : Ob := .cells [.sl .full [], .sl .full []]
/-- a contract over the fourth object of one's own -/
theorem at3 {f : Nat} {xs : List AV} {v : AV} {S T : Ob} {H : Heap} (h : ∀ H' : Heap, H.length + 3 < H'.length → callF E1 f xs (H'.set (H.length + 3) S) = some (v, H'.set (H.length + 3) T)) (a b c : Ob) (X : Heap) :
    callF E1 f xs (H ++ a :: b :: c :: S :: X) = some (v, H ++ a :: b :: c :: T :: X) := by
  have := h (H ++ a :: b :: c :: S :: X) (by simp)
  have e : ∀ Y : Ob, (H ++ a :: b :: c :: S :: X).set (H.length + 3) Y = H ++ a :: b :: c :: Y :: X := by
    intro Y
    rw [List.set_append_right _ _ (by omega), Nat.add_sub_cancel_left]
    rfl
  rw [e, e] at this
  exact this
def encParse (tk : List Tok) (en : Int) (r : Except Nat Prg) : AV := match r with
  | .error q => .tup [.agg [.sl .none [], .sl .none []], .agg [.int .i64 2, .int .i64 (offS tk en q)]]
  | .ok p => .tup [encP p, .agg [.int .i64 0, .int .i64 0]]
section
variable (tk : List Tok) (en : Int) (hL : tk.length < 4611686018427387904) (hT : ∀ p, (tokAt tk p).text.length ≤ 20000)
theorem offset27 (o : Nat) (st : St) (H : Heap) (ho : o < H.length) : callF E1 27 [.ptr o 0] (H.set o (rdS tk en st)) = some (.int .i64 (offS tk en (stP st)), H.set o (rdS tk en st)) := by
  rw [go (fn := F27) rfl rfl rfl]
  unfold offS
  by_cases hp : stP st < tk.length
  · have hg := tokAt_get tk hp
    simp [F27, ho, hp, hg, encT_mk, -getElem?_pos] <;> rfl
  · simp [F27, ho, hp] <;> rfl
abbrev cP (ca cf : Cap) (a : List Ar) (f : List Ab.Fn) : Ob := .cells [.sl ca (encAs a), .sl cf (encFs f)]
theorem end11_bad (q : Nat) (a : List Ar) (f : List Ab.Fn) (ca cf : Cap) (E : Ob) (J : Heap) (s : Slots) (H : Heap) (s2 : get s 2 = .ptr H.length 0) (s3 : get s 3 = .ptr (H.length + 1) 0) (s4 : get s 4 = .sl .none (encTs tk)) (s6 : get s 6 = .ptr (H.length + 3) 0) (s7 : get s 7 = .ptr (H.length + 4) 0) :
    finK F11 H.length (seqK E1 H.length false c11_37 (blkK (some [2, 3, 6, 7]) 0 (runF E1 H.length false c11_28 s (H ++ zP :: zErr :: E :: rdS tk en (.error q) :: cP ca cf a f :: J)))) = some (encParse tk en (.error q), H) := by
  have h1 := at3 (H := H) (offset27 tk en (H.length + 3) (.error q))
  rw [q11_28]
  simp at h1
  simp [F11, s2, s3, s4, s6, s7, h1, encParse]
theorem end11_ok (p : Nat) (hp : ¬ p < tk.length) (a : List Ar) (f : List Ab.Fn) (ca cf : Cap) (E : Ob) (J : Heap) (s : Slots) (H : Heap) (s2 : get s 2 = .ptr H.length 0) (s3 : get s 3 = .ptr (H.length + 1) 0) (s4 : get s 4 = .sl .none (encTs tk)) (s6 : get s 6 = .ptr (H.length + 3) 0) (s7 : get s 7 = .ptr (H.length + 4) 0) :
    finK F11 H.length (seqK E1 H.length false c11_37 (blkK (some [2, 3, 6, 7]) 0 (runF E1 H.length false c11_28 s (H ++ zP :: zErr :: E :: rdS tk en (.ok p) :: cP ca cf a f :: J)))) = some (encParse tk en (.ok ⟨a, f⟩), H) := by
  rw [q11_28]
  simp [F11, s2, s3, s4, s6, s7, hp, encParse, encP_eq]
def L11 (n : Nat) (E : Ob) (H : Heap) (m p : Nat) (a : List Ar) (f : List Ab.Fn) : Prop := ∀ (ca cf : Cap) (J : Heap) (s : Slots), tk.length - p < m → a.length + m ≤ 1000000 → f.length + m ≤ 1000000 → Own (H.length + 5) J 2 ca a.length → Own (H.length + 5) J 9 cf f.length →
    get s 2 = .ptr H.length 0 → get s 3 = .ptr (H.length + 1) 0 → get s 4 = .sl .none (encTs tk) → get s 6 = .ptr (H.length + 3) 0 → get s 7 = .ptr (H.length + 4) 0 →
    finK F11 H.length (seqK E1 H.length false c11_37 (blkK (some [2, 3, 6, 7]) 0 (runF E1 H.length false c11_28 s (H ++ zP :: zErr :: E :: rdS tk en (.ok p) :: cP ca cf a f :: J)))) = some (encParse tk en (declsP tk n m p a f), H)
include hL hT
theorem step11_arr (n : Nat) (E : Ob) (H : Heap) (m p : Nat) (a : List Ar) (f : List Ab.Fn) (hp : p < tk.length) (hs1 : kwB tk p [97, 114, 114, 97, 121] = true) (hN : ∀ q x, p < q → L11 tk en n E H m q (a ++ [x]) f) : L11 tk en n E H (m + 1) p a f := by
  intro ca cf J s hm ha hf hoa hof s2 s3 s4 s6 s7
  have k1 := at3 (H := H) (keyword22 tk en (H.length + 3) hL (.ok p) [97, 114, 114, 97, 121])
  simp [hs1] at k1
  obtain ⟨nm, hv1, hval1⟩ := name_con tk en (H.length + 3) hL (.ok (p + 1))
  obtain ⟨v, hv2, hval2⟩ := small24 tk en (H.length + 3) hL hT (stR (runS (nameP tk) (.ok (p + 1))))
  have hv3 := expect25 tk en (H.length + 3) hL (stR (runS (smallP tk) (stR (runS (nameP tk) (.ok (p + 1)))))) [59]
  have hv1 := at3 hv1
  have hv2 := at3 hv2
  have hv3 := at3 hv3
  simp only [expS_eq] at hv3
  have hr : (bindR (nameP tk (p + 1)) fun s p1 => bindR (smallP tk p1) fun v p2 => bindR (expR tk p2 [59]) fun _ p3 => (.ok ((⟨s, v⟩ : Ar), p3) : Rs Ar)) = runS (fun p => .ok (⟨nm, v⟩, p)) (expS tk (stR (runS (smallP tk) (stR (runS (nameP tk) (.ok (p + 1)))))) [59]) := by
    refine (bind_run hval1).trans ?_
    refine (runS_bind hval2).trans ?_
    exact runS_exp
  have hmo : ∀ q, expS tk (stR (runS (smallP tk) (stR (runS (nameP tk) (.ok (p + 1)))))) [59] = .ok q → p < q := by
    intro q hq
    have hex : (bindR (nameP tk (p + 1)) fun s p1 => bindR (smallP tk p1) fun v p2 => bindR (expR tk p2 [59]) fun _ p3 => (.ok ((⟨s, v⟩ : Ar), p3) : Rs Ar)) = .ok (⟨nm, v⟩, q) := by rw [hr, hq]; rfl
    obtain ⟨_, p1, h1, h⟩ := bindR_inv hex
    obtain ⟨_, p2, h2, h⟩ := bindR_inv h
    obtain ⟨_, p3, h3, h⟩ := bindR_inv h
    have := nameP_ok tk h1
    have := smallP_ok tk h2
    have := expR_ok tk h3
    simp at h
    omega
  generalize expS tk (stR (runS (smallP tk) (stR (runS (nameP tk) (.ok (p + 1)))))) [59] = s3' at *
  simp only [runS_ok] at hv1 hv2 hv3
  obtain ⟨c', J', happ, hown', hkeep⟩ := appC_all (n0 := H.length) (g := false) (sz := 2) (H1 := H ++ [zP, zErr, E, rdS tk en s3', cP ca cf a f]) (J := J ++ [.cells [.str nm, .int .i64 v]]) (xs := encAs a) (ys := [encA ⟨nm, v⟩]) (c := ca) (by simp) (by
    rw [List.length_append, encAs_length]
    exact hoa.more)
  rw [show (H ++ [zP, zErr, E, rdS tk en s3', cP ca cf a f]).length = H.length + 5 by simp] at happ hown'
  have happ2 : appC H.length false (H.length + (J.length + 1 + 1 + 1 + 1 + 1 + 1)) 0 2 (H ++ zP :: zErr :: E :: rdS tk en s3' :: cP ca cf a f :: (J ++ [.cells [.str nm, .int .i64 v], .dead])) (encAs a) [.agg [.str nm, .int .i64 v]] ca = some (.sl c' (encAs a ++ [.agg [.str nm, .int .i64 v]]), H ++ zP :: zErr :: E :: rdS tk en s3' :: cP ca cf a f :: J') := by
    rw [show H.length + 5 + (J ++ [Ob.cells [.str nm, .int .i64 v]]).length = H.length + (J.length + 1 + 1 + 1 + 1 + 1 + 1) by simp; omega] at happ
    simpa [encA] using happ
  have hbb : 2 * ((a.length + 1) * 24) + 2048 * 24 ≤ 281474976710656 := by omega
  have hstep : blkK (some [2, 3, 6, 7]) 0 (runF E1 H.length false c11_28 s (H ++ zP :: zErr :: E :: rdS tk en (.ok p) :: cP ca cf a f :: J)) =
      blkK (some [2, 3, 6, 7]) 0 (runF E1 H.length false c11_28 [(2, .ptr H.length 0), (3, .ptr (H.length + 1) 0), (4, .sl .none (encTs tk)), (6, .ptr (H.length + 3) 0), (7, .ptr (H.length + 4) 0)] (H ++ zP :: zErr :: E :: rdS tk en s3' :: cP c' cf (a ++ [⟨nm, v⟩]) f :: J')) := by
    rw [q11_28]
    simp [s2, s3, s4, s6, s7, hp, k1, hv1, hv2, hv3, happ2, hbb, encAs_append, encAs1, encA, cP]
  have hd : declsP tk n (m + 1) p a f = match runS (fun p => (.ok ((⟨nm, v⟩ : Ar), p) : Rs Ar)) s3' with
    | .error q => .error q
    | .ok (x, p3) => declsP tk n m p3 (a ++ [x]) f := by
    rw [declsP, if_pos hp, if_pos hs1, hr]
    cases s3' <;> rfl
  rw [hstep, hd]
  cases hs3 : s3' with
  | error q => exact end11_bad tk en q _ f c' cf E J' _ H rfl rfl rfl rfl rfl
  | ok q =>
    have hlt := hmo q hs3
    exact hN q ⟨nm, v⟩ hlt c' cf J' _ (by omega) (by simp; omega) (by omega) (by simpa using hown') (hof.more.keep (by decide) hkeep) rfl rfl rfl rfl rfl
theorem step11_fun (n : Nat) (hn : n ≤ 900000) (hn2 : 40 * tk.length + 20 ≤ n) (hn3 : tk.length + 2 ≤ n) (E : Ob) (H : Heap) (m p : Nat) (a : List Ar) (f : List Ab.Fn) (hp : p < tk.length) (hs1 : kwB tk p [97, 114, 114, 97, 121] = false) (hs2 : kwB tk p [102, 117, 110, 99] = true) (hN : ∀ q x, p < q → L11 tk en n E H m q a (f ++ [x])) : L11 tk en n E H (m + 1) p a f := by
  intro ca cf J s hm ha hf hoa hof s2 s3 s4 s6 s7
  have k1 := at3 (H := H) (keyword22 tk en (H.length + 3) hL (.ok p) [97, 114, 114, 97, 121])
  have k2 := at3 (H := H) (keyword22 tk en (H.length + 3) hL (.ok p) [102, 117, 110, 99])
  simp [hs1] at k1
  simp [hs2] at k2
  obtain ⟨g, hv1, hval1⟩ := function26 tk en (H.length + 3) hL n hn hn3 (exprAll tk en (H.length + 3) hL hT n).1 (stmtAll tk en (H.length + 3) hL hT n hn) (.ok (p + 1)) (by intro q hq; cases hq; omega)
  have hv1 := at3 hv1
  have hr : funcP tk n (p + 1) = runS (fun p => .ok (g, p)) (stR (funcP tk n (p + 1))) := by
    simp at hval1
    rcases hx : funcP tk n (p + 1) with q | ⟨w, q⟩
    · rfl
    · simp [hx] at hval1
      subst hval1
      rfl
  have hmo : ∀ q, stR (funcP tk n (p + 1)) = .ok q → p < q := by
    intro q hq
    rcases hx : funcP tk n (p + 1) with e | ⟨w, q'⟩
    · rw [hx] at hq; cases hq
    · rw [hx] at hq
      simp at hq
      have := func_mo tk n _ _ _ hx
      omega
  simp only [runS_ok] at hv1
  generalize stR (funcP tk n (p + 1)) = s3' at *
  obtain ⟨c', J', happ, hown', hkeep⟩ := appC_all (n0 := H.length) (g := false) (sz := 9) (H1 := H ++ [zP, zErr, E, rdS tk en s3', cP ca cf a f]) (J := J) (xs := encFs f) (ys := [encF g]) (c := cf) (by simp) (by
    rw [List.length_append, encFs_length]
    exact hof)
  rw [show (H ++ [zP, zErr, E, rdS tk en s3', cP ca cf a f]).length = H.length + 5 by simp] at happ hown'
  have happ2 : appC H.length false (H.length + (J.length + 1 + 1 + 1 + 1 + 1)) 0 9 (H ++ zP :: zErr :: E :: rdS tk en s3' :: cP ca cf a f :: (J ++ [.dead])) (encFs f) [encF g] cf = some (.sl c' (encFs f ++ [encF g]), H ++ zP :: zErr :: E :: rdS tk en s3' :: cP ca cf a f :: J') := by
    rw [show H.length + 5 + J.length = H.length + (J.length + 1 + 1 + 1 + 1 + 1) by omega] at happ
    simpa using happ
  have hbb : 2 * ((f.length + 1) * 152) + 2048 * 152 ≤ 281474976710656 := by omega
  have happ3 := happ2
  have hv3 := hv1
  have hgg : ∃ nm1 ps1 ls1 b1 vk vn vs vo vks, g = ⟨nm1, ps1, ls1, b1, .mk vk vn vs vo vks⟩ := by
    obtain ⟨nm1, ps1, ls1, b1, ⟨vk, vn, vs, vo, vks⟩⟩ := g
    exact ⟨nm1, ps1, ls1, b1, vk, vn, vs, vo, vks, rfl⟩
  obtain ⟨nm1, ps1, ls1, b1, vk, vn, vs, vo, vks, hgg⟩ := hgg
  simp [hgg, encF, leavesE] at happ3 hv3
  have hstep : blkK (some [2, 3, 6, 7]) 0 (runF E1 H.length false c11_28 s (H ++ zP :: zErr :: E :: rdS tk en (.ok p) :: cP ca cf a f :: J)) =
      blkK (some [2, 3, 6, 7]) 0 (runF E1 H.length false c11_28 [(2, .ptr H.length 0), (3, .ptr (H.length + 1) 0), (4, .sl .none (encTs tk)), (6, .ptr (H.length + 3) 0), (7, .ptr (H.length + 4) 0)] (H ++ zP :: zErr :: E :: rdS tk en s3' :: cP ca c' a (f ++ [g]) :: J')) := by
    rw [q11_28]
    simp [s2, s3, s4, s6, s7, hp, k1, k2, hv3, happ3, hbb, encFs_append, encFs1, cP, hgg, encF, leavesE]
  have hd : declsP tk n (m + 1) p a f = match runS (fun p => (.ok (g, p) : Rs Ab.Fn)) s3' with
    | .error q => .error q
    | .ok (x, p3) => declsP tk n m p3 a (f ++ [x]) := by
    rw [declsP, if_pos hp, if_neg (by rw [hs1]; decide), if_pos hs2, hr]
    cases s3' <;> rfl
  rw [hstep, hd]
  cases hs3 : s3' with
  | error q => exact end11_bad tk en q a _ ca c' E J' _ H rfl rfl rfl rfl rfl
  | ok q =>
    have hlt := hmo q hs3
    exact hN q g hlt ca c' J' _ (by omega) (by omega) (by simp; omega) (hoa.keep (by decide) hkeep) (by simpa using hown') rfl rfl rfl rfl rfl
omit hT in
theorem step11_bad (n : Nat) (E : Ob) (H : Heap) (m p : Nat) (a : List Ar) (f : List Ab.Fn) (hp : p < tk.length) (hs1 : kwB tk p [97, 114, 114, 97, 121] = false) (hs2 : kwB tk p [102, 117, 110, 99] = false) : L11 tk en n E H (m + 1) p a f := by
  intro ca cf J s hm ha hf hoa hof s2 s3 s4 s6 s7
  have k1 := at3 (H := H) (keyword22 tk en (H.length + 3) hL (.ok p) [97, 114, 114, 97, 121])
  have k2 := at3 (H := H) (keyword22 tk en (H.length + 3) hL (.ok p) [102, 117, 110, 99])
  simp [hs1] at k1
  simp [hs2] at k2
  have hd : declsP tk n (m + 1) p a f = .error p := by
    rw [declsP, if_pos hp, if_neg (by rw [hs1]; decide), if_neg (by rw [hs2]; decide)]
  have hstep : blkK (some [2, 3, 6, 7]) 0 (runF E1 H.length false c11_28 s (H ++ zP :: zErr :: E :: rdS tk en (.ok p) :: cP ca cf a f :: J)) =
      blkK (some [2, 3, 6, 7]) 0 (runF E1 H.length false c11_28 [(2, .ptr H.length 0), (3, .ptr (H.length + 1) 0), (4, .sl .none (encTs tk)), (6, .ptr (H.length + 3) 0), (7, .ptr (H.length + 4) 0)] (H ++ zP :: zErr :: E :: rdS tk en (.error p) :: cP ca cf a f :: J)) := by
    rw [q11_28]
    simp [s2, s3, s4, s6, s7, hp, k1, k2] <;> rfl
  rw [hstep, hd]
  exact end11_bad tk en p a f ca cf E J _ H rfl rfl rfl rfl rfl
theorem loop11 (n : Nat) (hn : n ≤ 900000) (hn2 : 40 * tk.length + 20 ≤ n) (hn3 : tk.length + 2 ≤ n) (E : Ob) (H : Heap) : ∀ (m p : Nat) (a : List Ar) (f : List Ab.Fn), L11 tk en n E H m p a f
  | 0, p, a, f => by
    intro ca cf J s hm
    omega
  | m + 1, p, a, f => by
    by_cases hp : p < tk.length
    · cases hs1 : kwB tk p [97, 114, 114, 97, 121] with
      | true => exact step11_arr tk en hL hT n E H m p a f hp hs1 (fun q x _ => loop11 n hn hn2 hn3 E H m q (a ++ [x]) f)
      | false =>
        cases hs2 : kwB tk p [102, 117, 110, 99] with
        | true => exact step11_fun tk en hL hT n hn hn2 hn3 E H m p a f hp hs1 hs2 (fun q x _ => loop11 n hn hn2 hn3 E H m q a (f ++ [x]))
        | false => exact step11_bad tk en hL n E H m p a f hp hs1 hs2
    · intro ca cf J s hm ha hf hoa hof s2 s3 s4 s6 s7
      have hr : declsP tk n (m + 1) p a f = .ok ⟨a, f⟩ := by rw [declsP, if_neg hp]
      rw [hr]
      exact end11_ok tk en p hp a f ca cf E J s H s2 s3 s4 s6 s7
end
theorem parse11 (t : List UInt8) (ht : t.length ≤ 4000000) (H : Heap) : callF E1 11 [.str t] H = some (encPR (parseP t), H) := by
  rw [go (fn := F11) rfl rfl rfl]
  have hs := scan21 t ht
  unfold parseP
  cases hx : scanT t with
  | error ep =>
    obtain ⟨e, p⟩ := ep
    have he : ¬ e = 0 := by have := scanT_err hx; omega
    simp [F11, hs, hx, encScan, encPR, he]
  | ok tk =>
    have hok := scanT_ok hx
    have hl := loop11 tk t.length (by have := hok.len; omega) hok.text (40 * tk.length + 100) (by have := hok.len; omega) (by omega) (by omega) zErr H (tk.length + 1) 0 [] [] .full .full [] [(2, .ptr H.length 0), (3, .ptr (H.length + 1) 0), (4, .sl .none (encTs tk)), (6, .ptr (H.length + 3) 0), (7, .ptr (H.length + 4) 0)] (by omega) (by have := hok.len; simp; omega) (by have := hok.len; simp; omega) own_full own_full rfl rfl rfl rfl rfl
    have hg : encPR (match declsP tk (40 * tk.length + 100) (tk.length + 1) 0 [] [] with
      | .error q => .error (2, offS tk t.length q)
      | .ok p => .ok p) = encParse tk t.length (declsP tk (40 * tk.length + 100) (tk.length + 1) 0 [] []) := by
      rcases declsP tk (40 * tk.length + 100) (tk.length + 1) 0 [] [] with q | p <;> rfl
    refine Eq.trans ?_ (congrArg (fun x => some (x, H)) hg.symm)
    rw [← hl]
    simp [F11, hs, hx, encScan] <;> rfl
end Go.Proofs.Ytkomfefpfalajaa
