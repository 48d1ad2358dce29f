/- The comparisons: equal trees compare as equal. -/
import Derived.Test.YtkomfefpfalajaaP12
import Derived.Test.YtkomfefpfalajaaQ2
import Derived.Test.YtkomfefpfalajaaAb8
namespace Go.Proofs.Ytkomfefpfalajaa
open Go Go.Proofs Ab
set_option maxRecDepth 100000
set_option linter.unusedSimpArgs false
set_option linter.unusedVariables false
mutual
def exN : Ex → Nat
  | .mk _ _ _ _ ks => exNs ks + 1
def exNs : List Ex → Nat
  | [] => 0
  | x :: r => exN x + exNs r + 1
end
theorem exN_mk (k n : Int) (s : List UInt8) (o : Int) (ks : List Ex) : exN (.mk k n s o ks) = exNs ks + 1 := by rw [exN]
theorem exN_mem : ∀ {l : List Ex} {x : Ex}, x ∈ l → exN x < exNs l
  | y :: r, x, h => by
    rw [exNs]
    rcases List.mem_cons.1 h with rfl | h
    · omega
    · have := exN_mem h; omega
theorem encEs_get (l : List Ex) (i : Nat) : (encEs l)[i]? = (l[i]?).map encE := by rw [encEs_map, List.getElem?_map]
theorem loop12 (k n : Int) (w : List UInt8) (o : Int) (ks : List Ex) (hk : ks.length ≤ 4000000) (H : Heap) (hS : ∀ x ∈ ks, ∀ H, callF E1 12 [encE x, encE x] H = some (.bool true, H)) : ∀ (r : List Ex) (i : Nat) (s : Slots), ks.drop i = r → i + r.length = ks.length → get s 2 = .ptr H.length 0 → get s 3 = .ptr (H.length + 1) 0 → get s 43 = .int .i64 ks.length → get s 44 = .int .i64 i →
    blkK (some []) 0 (runF E1 H.length false c12_21 s (H ++ [.cells [.int .i64 k, .int .i64 n, .str w, .int .i64 o, .sl .none (encEs ks)], .cells [.int .i64 k, .int .i64 n, .str w, .int .i64 o, .sl .none (encEs ks)]])) = some (.nrm, [], (H ++ [.cells [.int .i64 k, .int .i64 n, .str w, .int .i64 o, .sl .none (encEs ks)], .cells [.int .i64 k, .int .i64 n, .str w, .int .i64 o, .sl .none (encEs ks)]]))
  | [], i, s, hd, hi, s2, s3, s43, s44 => by
    have hn : ¬ ((i : Int) < ks.length) := by simp at hi; omega
    rw [q12_21]
    simp [s2, s3, s43, s44, hn]
  | x :: r, i, s, hd, hi, s2, s3, s43, s44 => by
    simp only [List.length_cons] at hi
    have hlt : (i : Int) < ks.length := by omega
    have hx : ks[i]? = some x := by
      have := congrArg (fun l => l[0]?) hd
      simpa using this
    have hx' : (encEs ks)[i]? = some (encE x) := by rw [encEs_get, hx]; rfl
    have hd' : ks.drop (i + 1) = r := by
      have := congrArg List.tail hd
      simpa using this
    have hw : IntKind.i64.wrap ((i : Int) + 1) = (i : Int) + 1 := wrapR ⟨by omega, by omega⟩
    have hc := hS x (List.mem_of_getElem? hx)
    obtain ⟨k2, n2, w2, o2, ks2⟩ := x
    simp at hx' hc
    have ih := loop12 k n w o ks hk H hS r (i + 1) [(2, .ptr H.length 0), (3, .ptr (H.length + 1) 0), (43, .int .i64 ks.length), (44, .int .i64 ((i + 1 : Nat) : Int))] hd' (by omega) rfl rfl rfl rfl
    simp at ih
    rw [q12_21]
    simp [s2, s3, s43, s44, hlt, hx', hw, hc, ih, -getElem?_pos, List.getElem?_cons_zero, List.getElem?_cons_succ]
theorem same12 : ∀ (m : Nat) (e : Ex), exN e ≤ m → okE e → ∀ H, callF E1 12 [encE e, encE e] H = some (.bool true, H)
  | 0, .mk k n w o ks, hm, hb, H => by rw [exN_mk] at hm; omega
  | m + 1, .mk k n w o ks, hm, hb, H => by
    rw [exN_mk] at hm
    rw [okE_mk] at hb
    have hS : ∀ x ∈ ks, ∀ H, callF E1 12 [encE x, encE x] H = some (.bool true, H) := fun x hx H => same12 m x (by have := exN_mem hx; omega) (okEs_mem hb.2 hx) H
    have hl := loop12 k n w o ks (by omega) H hS ks 0 [(2, .ptr H.length 0), (3, .ptr (H.length + 1) 0), (43, .int .i64 ks.length), (44, .int .i64 (0 : Nat))] rfl (by simp) rfl rfl rfl rfl
    simp at hl
    rw [go (fn := F12) rfl rfl rfl]
    simp [F12, hl]
theorem sameE (e : Ex) (h : okE e) (H : Heap) : callF E1 12 [encE e, encE e] H = some (.bool true, H) := same12 (exN e) e (Nat.le_refl _) h H
theorem encStr_get (l : List (List UInt8)) (i : Nat) : (encStr l)[i]? = (l[i]?).map AV.str := by unfold encStr; rw [List.getElem?_map]
theorem loop35 (ks : List (List UInt8)) (hk : ks.length ≤ 1000000) (H : Heap) : ∀ (r : List (List UInt8)) (i : Nat) (s : Slots), ks.drop i = r → i + r.length = ks.length → get s 0 = .sl .none (encStr ks) → get s 1 = .sl .none (encStr ks) → get s 12 = .int .i64 ks.length → get s 13 = .int .i64 i →
    blkK (some []) 0 (runF E1 H.length false c35_21 s H) = some (.nrm, [], H)
  | [], i, s, hd, hi, s0, s1, s12, s13 => by
    have hn : ¬ ((i : Int) < ks.length) := by simp at hi; omega
    rw [q35_21]
    simp [s0, s1, s12, s13, hn]
  | x :: r, i, s, hd, hi, s0, s1, s12, s13 => by
    simp only [List.length_cons] at hi
    have hlt : (i : Int) < ks.length := by omega
    have hx : ks[i]? = some x := by
      have := congrArg (fun l => l[0]?) hd
      simpa using this
    have hx' : (encStr ks)[i]? = some (.str x) := by rw [encStr_get, hx]; rfl
    have hd' : ks.drop (i + 1) = r := by
      have := congrArg List.tail hd
      simpa using this
    have hw : IntKind.i64.wrap ((i : Int) + 1) = (i : Int) + 1 := wrapR ⟨by omega, by omega⟩
    have ih := loop35 ks hk H r (i + 1) [(0, .sl .none (encStr ks)), (1, .sl .none (encStr ks)), (12, .int .i64 ks.length), (13, .int .i64 ((i + 1 : Nat) : Int))] hd' (by omega) rfl rfl rfl rfl
    simp at ih
    rw [q35_21]
    simp [s0, s1, s12, s13, hlt, hx', hw, ih, -getElem?_pos, List.getElem?_cons_zero, List.getElem?_cons_succ]
theorem same35 (ks : List (List UInt8)) (hk : ks.length ≤ 1000000) (H : Heap) : callF E1 35 [.sl .none (encStr ks), .sl .none (encStr ks)] H = some (.bool true, H) := by
  have hl := loop35 ks hk H ks 0 [(0, .sl .none (encStr ks)), (1, .sl .none (encStr ks)), (12, .int .i64 ks.length), (13, .int .i64 (0 : Nat))] rfl (by simp) rfl rfl rfl rfl
  simp at hl
  rw [go (fn := F35) rfl rfl rfl]
  simp [F35, hl]
mutual
def stN : Stm → Nat
  | .mk _ _ _ _ _ _ _ thn els => stNs thn + stNs els + 1
def stNs : List Stm → Nat
  | [] => 0
  | x :: r => stN x + stNs r + 1
end
theorem stN_mk (k : Int) (nm to : List UInt8) (n : Int) (a v : Ex) (args : List Ex) (thn els : List Stm) : stN (.mk k nm to n a v args thn els) = stNs thn + stNs els + 1 := by rw [stN]
theorem stN_mem : ∀ {l : List Stm} {x : Stm}, x ∈ l → stN x < stNs l
  | y :: r, x, h => by
    rw [stNs]
    rcases List.mem_cons.1 h with rfl | h
    · omega
    · have := stN_mem h; omega
theorem encSs_get (l : List Stm) (i : Nat) : (encSs l)[i]? = (l[i]?).map encS := by rw [encSs_map, List.getElem?_map]
abbrev S36 (k : Int) (nm to : List UInt8) (n : Int) (ak an : Int) (az : List UInt8) (ao : Int) (aks : List Ex) (vk vn : Int) (vs : List UInt8) (vo : Int) (vks : List Ex) (args : List Ex) (thn els : List Stm) : Ob :=
  .cells [.int .i64 k, .str nm, .str to, .int .i64 n, .int .i64 ak, .int .i64 an, .str az, .int .i64 ao, .sl .none (encEs aks), .int .i64 vk, .int .i64 vn, .str vs, .int .i64 vo, .sl .none (encEs vks), .sl .none (encEs args), .sl .none (encSs thn), .sl .none (encSs els)]
theorem loop36b (k : Int) (nm to : List UInt8) (n : Int) (ak an : Int) (az : List UInt8) (ao : Int) (aks : List Ex) (vk vn : Int) (vs : List UInt8) (vo : Int) (vks : List Ex) (args : List Ex) (thn els : List Stm) (hk : args.length ≤ 1000000) (hok : okEs args)
    (u0 u1 u15 u16 : AV) (H J : Heap) : ∀ (r : List Ex) (i : Nat) (s : Slots), args.drop i = r → i + r.length = args.length → get s 0 = u0 → get s 1 = u1 → get s 15 = u15 → get s 16 = u16 → get s 6 = .ptr (H.length + J.length) 0 → get s 7 = .ptr (H.length + (J.length + 1)) 0 → get s 96 = .int .i64 args.length → get s 97 = .int .i64 i →
    blkK (some [0, 1, 15, 16]) 2 (runF E1 H.length false c36_31 s (H ++ (J ++ [S36 k nm to n ak an az ao aks vk vn vs vo vks args thn els, S36 k nm to n ak an az ao aks vk vn vs vo vks args thn els]))) = some (.nrm, [(0, u0), (1, u1), (15, u15), (16, u16)], (H ++ (J ++ [S36 k nm to n ak an az ao aks vk vn vs vo vks args thn els, S36 k nm to n ak an az ao aks vk vn vs vo vks args thn els])))
  | [], i, s, hd, hi, s0, s1, s15, s16, s6, s7, s96, s97 => by
    have hn : ¬ ((i : Int) < args.length) := by simp at hi; omega
    rw [q36_31]
    simp [s0, s1, s15, s16, s6, s7, s96, s97, hn]
  | x :: r, i, s, hd, hi, s0, s1, s15, s16, s6, s7, s96, s97 => by
    simp only [List.length_cons] at hi
    have hlt : (i : Int) < args.length := by omega
    have hx : args[i]? = some x := by
      have := congrArg (fun l => l[0]?) hd
      simpa using this
    have hx' : (encEs args)[i]? = some (encE x) := by rw [encEs_get, hx]; rfl
    have hd' : args.drop (i + 1) = r := by
      have := congrArg List.tail hd
      simpa using this
    have hw : IntKind.i64.wrap ((i : Int) + 1) = (i : Int) + 1 := wrapR ⟨by omega, by omega⟩
    have hc := sameE x (okEs_mem hok (List.mem_of_getElem? hx))
    obtain ⟨k2, n2, w2, o2, ks2⟩ := x
    simp at hx' hc
    have ih := loop36b k nm to n ak an az ao aks vk vn vs vo vks args thn els hk hok u0 u1 u15 u16 H J r (i + 1) [(0, u0), (1, u1), (6, .ptr (H.length + J.length) 0), (7, .ptr (H.length + (J.length + 1)) 0), (15, u15), (16, u16), (96, .int .i64 args.length), (97, .int .i64 ((i + 1 : Nat) : Int))] hd' (by omega) rfl rfl rfl rfl rfl rfl rfl rfl
    simp at ih
    rw [q36_31]
    simp [s0, s1, s15, s16, s6, s7, s96, s97, hlt, hx', hw, hc, ih, -getElem?_pos, List.getElem?_cons_zero, List.getElem?_cons_succ]
def C36 (l : List Stm) : Prop := ∀ H, callF E1 36 [.sl .none (encSs l), .sl .none (encSs l)] H = some (.bool true, H)
theorem loop36 (ks : List Stm) (hk : ks.length ≤ 1000000) (hok : okSs ks) (H : Heap)
    (hS : ∀ k nm to n a v args thn els, Stm.mk k nm to n a v args thn els ∈ ks → C36 thn ∧ C36 els) : ∀ (r : List Stm) (i : Nat) (s : Slots) (J : Heap), ks.drop i = r → i + r.length = ks.length → get s 0 = .sl .none (encSs ks) → get s 1 = .sl .none (encSs ks) → get s 15 = .int .i64 ks.length → get s 16 = .int .i64 i →
    ∃ J', blkK (some []) 0 (runF E1 H.length false c36_42 s (H ++ J)) = some (.nrm, [], H ++ J')
  | [], i, s, J, hd, hi, s0, s1, s15, s16 => by
    have hn : ¬ ((i : Int) < ks.length) := by simp at hi; omega
    refine ⟨J, ?_⟩
    rw [q36_42]
    simp [s0, s1, s15, s16, hn]
  | x :: r, i, s, J, hd, hi, s0, s1, s15, s16 => by
    simp only [List.length_cons] at hi
    have hlt : (i : Int) < ks.length := by omega
    have hx : ks[i]? = some x := by
      have := congrArg (fun l => l[0]?) hd
      simpa using this
    have hx' : (encSs ks)[i]? = some (encS x) := by rw [encSs_get, hx]; rfl
    have hd' : ks.drop (i + 1) = r := by
      have := congrArg List.tail hd
      simpa using this
    have hw : IntKind.i64.wrap ((i : Int) + 1) = (i : Int) + 1 := wrapR ⟨by omega, by omega⟩
    have hokx := okSs_mem hok (List.mem_of_getElem? hx)
    obtain ⟨k, nm, to, n, ⟨ak, an, az, ao, aks⟩, ⟨vk, vn, vs, vo, vks⟩, args, thn, els⟩ := x
    have hTE := hS _ _ _ _ _ _ _ _ _ (List.mem_of_getElem? hx)
    rw [okS_mk] at hokx
    obtain ⟨oa, ov, ⟨oal, oas⟩, -, -⟩ := hokx
    have ca := sameE _ oa
    have cv := sameE _ ov
    have c1 := hTE.1
    have c2 := hTE.2
    unfold C36 at c1 c2
    simp at hx' ca cv
    have hl := loop36b k nm to n ak an az ao aks vk vn vs vo vks args thn els oal oas (.sl .none (encSs ks)) (.sl .none (encSs ks)) (.int .i64 ks.length) (.int .i64 i) H J args 0 [(0, .sl .none (encSs ks)), (1, .sl .none (encSs ks)), (6, .ptr (H.length + J.length) 0), (7, .ptr (H.length + (J.length + 1)) 0), (15, .int .i64 ks.length), (16, .int .i64 i), (96, .int .i64 args.length), (97, .int .i64 (0 : Nat))] rfl (by simp) rfl rfl rfl rfl rfl rfl rfl rfl
    obtain ⟨J', ih⟩ := loop36 ks hk hok H hS r (i + 1) [(0, .sl .none (encSs ks)), (1, .sl .none (encSs ks)), (15, .int .i64 ks.length), (16, .int .i64 ((i + 1 : Nat) : Int))] (J ++ [S36 k nm to n ak an az ao aks vk vn vs vo vks args thn els, S36 k nm to n ak an az ao aks vk vn vs vo vks args thn els]) hd' (by omega) rfl rfl rfl rfl
    simp at hl ih
    refine ⟨J', ?_⟩
    rw [q36_42]
    simp [s0, s1, s15, s16, hlt, hx', hw, ca, cv, c1, c2, hl, ih, Nat.add_assoc, -getElem?_pos, List.getElem?_cons_zero, List.getElem?_cons_succ]
theorem same36 : ∀ (m : Nat) (l : List Stm), stNs l ≤ m → l.length ≤ 1000000 → okSs l → C36 l
  | 0, [], hm, hl, hok => by
    intro H
    rw [go (fn := F36) rfl rfl rfl]
    have hn := loop36 [] (by simp) hok H (by intro k nm to n a v args thn els h; simp at h) [] 0 [(0, .sl .none (encSs [])), (1, .sl .none (encSs [])), (15, .int .i64 (0 : Nat)), (16, .int .i64 (0 : Nat))] [] rfl rfl rfl rfl rfl rfl
    obtain ⟨J', hn⟩ := hn
    simp at hn
    simp [F36, hn]
  | 0, x :: r, hm, hl, hok => by rw [stNs] at hm; omega
  | m + 1, l, hm, hl, hok => by
    intro H
    have hS : ∀ k nm to n a v args thn els, Stm.mk k nm to n a v args thn els ∈ l → C36 thn ∧ C36 els := by
      intro k nm to n a v args thn els h
      have h1 := stN_mem h
      rw [stN_mk] at h1
      have h2 := okSs_mem hok h
      rw [okS_mk] at h2
      exact ⟨same36 m thn (by omega) h2.2.2.2.1.1 h2.2.2.2.1.2, same36 m els (by omega) h2.2.2.2.2.1 h2.2.2.2.2.2⟩
    obtain ⟨J', hn⟩ := loop36 l hl hok H hS l 0 [(0, .sl .none (encSs l)), (1, .sl .none (encSs l)), (15, .int .i64 l.length), (16, .int .i64 (0 : Nat))] [] rfl (by simp) rfl rfl rfl rfl
    rw [go (fn := F36) rfl rfl rfl]
    simp at hn
    simp [F36, hn]
theorem sameS (l : List Stm) (hl : l.length ≤ 1000000) (hok : okSs l) : C36 l := same36 (stNs l) l (Nat.le_refl _) hl hok
abbrev S15 (p : Prg) : Ob := .cells [.sl .none (encAs p.arrays), .sl .none (encFs p.funcs)]
theorem encAs_get (l : List Ar) (i : Nat) : (encAs l)[i]? = (l[i]?).map encA := by unfold encAs; rw [List.getElem?_map]
theorem encFs_get (l : List Ab.Fn) (i : Nat) : (encFs l)[i]? = (l[i]?).map encF := by unfold encFs; rw [List.getElem?_map]
theorem loop15a (p : Prg) (hp : OkP p) (H : Heap) : ∀ (r : List Ar) (i : Nat) (s : Slots), p.arrays.drop i = r → i + r.length = p.arrays.length → get s 2 = .ptr H.length 0 → get s 3 = .ptr (H.length + 1) 0 → get s 27 = .int .i64 p.arrays.length → get s 28 = .int .i64 i →
    blkK (some [2, 3]) 0 (runF E1 H.length false c15_21 s (H ++ [S15 p, S15 p])) = some (.nrm, [(2, .ptr H.length 0), (3, .ptr (H.length + 1) 0)], H ++ [S15 p, S15 p])
  | [], i, s, hd, hi, s2, s3, s27, s28 => by
    have hn : ¬ ((i : Int) < p.arrays.length) := by simp at hi; omega
    rw [q15_21]
    simp [s2, s3, s27, s28, hn]
  | x :: r, i, s, hd, hi, s2, s3, s27, s28 => by
    simp only [List.length_cons] at hi
    have hlt : (i : Int) < p.arrays.length := by omega
    have hx : p.arrays[i]? = some x := by
      have := congrArg (fun l => l[0]?) hd
      simpa using this
    have hx' : (encAs p.arrays)[i]? = some (encA x) := by rw [encAs_get, hx]; rfl
    have hd' : p.arrays.drop (i + 1) = r := by
      have := congrArg List.tail hd
      simpa using this
    have hal := hp.al
    have hw : IntKind.i64.wrap ((i : Int) + 1) = (i : Int) + 1 := wrapR ⟨by omega, by omega⟩
    have ih := loop15a p hp H r (i + 1) [(2, .ptr H.length 0), (3, .ptr (H.length + 1) 0), (27, .int .i64 p.arrays.length), (28, .int .i64 ((i + 1 : Nat) : Int))] hd' (by omega) rfl rfl rfl rfl
    simp at ih
    simp only [encA] at hx'
    rw [q15_21]
    simp [s2, s3, s27, s28, hlt, hx', hw, ih, -getElem?_pos, List.getElem?_cons_zero, List.getElem?_cons_succ]
theorem loop15b (p : Prg) (hp : OkP p) (H : Heap) : ∀ (r : List Ab.Fn) (i : Nat) (s : Slots) (J : Heap), p.funcs.drop i = r → i + r.length = p.funcs.length → get s 2 = .ptr H.length 0 → get s 3 = .ptr (H.length + 1) 0 → get s 45 = .int .i64 p.funcs.length → get s 46 = .int .i64 i →
    ∃ J', blkK (some []) 2 (runF E1 H.length false c15_41 s (H ++ S15 p :: S15 p :: J)) = some (.nrm, [], H ++ J')
  | [], i, s, J, hd, hi, s2, s3, s45, s46 => by
    have hn : ¬ ((i : Int) < p.funcs.length) := by simp at hi; omega
    refine ⟨S15 p :: S15 p :: J, ?_⟩
    rw [q15_41]
    simp [s2, s3, s45, s46, hn]
  | x :: r, i, s, J, hd, hi, s2, s3, s45, s46 => by
    simp only [List.length_cons] at hi
    have hlt : (i : Int) < p.funcs.length := by omega
    have hx : p.funcs[i]? = some x := by
      have := congrArg (fun l => l[0]?) hd
      simpa using this
    have hx' : (encFs p.funcs)[i]? = some (encF x) := by rw [encFs_get, hx]; rfl
    have hd' : p.funcs.drop (i + 1) = r := by
      have := congrArg List.tail hd
      simpa using this
    have hal := hp.fl
    have hw : IntKind.i64.wrap ((i : Int) + 1) = (i : Int) + 1 := wrapR ⟨by omega, by omega⟩
    have hf := hp.fs x (List.mem_of_getElem? hx)
    obtain ⟨nm, ps, ls, b, ⟨vk, vn, vs, vo, vks⟩⟩ := x
    have c1 := same35 ps hf.ps
    have c2 := same35 ls hf.ls
    have c3 := sameS b hf.bl hf.b
    have c4 := sameE _ hf.v
    unfold C36 at c3
    let X : Ob := .cells [.str nm, .sl .none (encStr ps), .sl .none (encStr ls), .sl .none (encSs b), .int .i64 vk, .int .i64 vn, .str vs, .int .i64 vo, .sl .none (encEs vks)]
    obtain ⟨J', ih⟩ := loop15b p hp H r (i + 1) [(2, .ptr H.length 0), (3, .ptr (H.length + 1) 0), (45, .int .i64 p.funcs.length), (46, .int .i64 ((i + 1 : Nat) : Int))] (J ++ [X, X]) hd' (by omega) rfl rfl rfl rfl
    simp [X] at ih
    simp [encF, leavesE] at hx' c4
    refine ⟨J', ?_⟩
    rw [q15_41]
    simp [s2, s3, s45, s46, hlt, hx', hw, c1, c2, c3, c4, ih, Nat.add_assoc, -getElem?_pos, List.getElem?_cons_zero, List.getElem?_cons_succ]
theorem sameP (p : Prg) (hp : OkP p) (H : Heap) : callF E1 15 [encP p, encP p] H = some (.bool true, H) := by
  rw [go (fn := F15) rfl rfl rfl]
  have h1 := loop15a p hp H p.arrays 0 [(2, .ptr H.length 0), (3, .ptr (H.length + 1) 0), (27, .int .i64 p.arrays.length), (28, .int .i64 (0 : Nat))] rfl (by simp) rfl rfl rfl rfl
  obtain ⟨J', h2⟩ := loop15b p hp H p.funcs 0 [(2, .ptr H.length 0), (3, .ptr (H.length + 1) 0), (45, .int .i64 p.funcs.length), (46, .int .i64 (0 : Nat))] [] rfl (by simp) rfl rfl rfl rfl
  simp at h1 h2
  simp [F15, encP_eq, h1, h2]
theorem ex3 (H : Heap) : callF E1 3 [] H = some (.bool true, H) := callF_sp (sp := fun xs h => match xs with | [] => some (.bool true, h) | _ => none) rfl
end Go.Proofs.Ytkomfefpfalajaa
