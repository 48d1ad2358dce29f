/- The functions, together. -/
import Derived.Test.YtkomfefpfalajaaAc0
import Derived.Test.YtkomfefpfalajaaAc1
namespace Go.Proofs.Ytkomfefpfalajaa
open Go Go.Proofs Ab
def fnAt : Nat → Option AFn
  | 3 => some F3
  | 5 => some F5
  | 8 => some F8
  | 11 => some F11
  | 12 => some F12
  | 13 => some F13
  | 15 => some F15
  | 17 => some F17
  | 21 => some F21
  | 22 => some F22
  | 23 => some F23
  | 24 => some F24
  | 25 => some F25
  | 26 => some F26
  | 27 => some F27
  | 35 => some F35
  | 36 => some F36
  | 39 => some F39
  | 51 => some F51
  | 52 => some F52
  | 53 => some F53
  | 54 => some F54
  | 55 => some F55
  | 56 => some F56
  | 57 => some F57
  | 58 => some F58
  | 59 => some F59
  | 60 => some F60
  | 94 => some F94
  | 95 => some F95
  | 96 => some F96
  | 97 => some F97
  | 98 => some F98
  | 99 => some F99
  | 100 => some F100
  | 101 => some F101
  | 102 => some F102
  | 123 => some F123
  | 124 => some F124
  | 125 => some F125
  | 126 => some F126
  | 127 => some F127
  | 140 => some F140
  | 141 => some F141
  | 142 => some F142
  | _ => none
theorem fnOk : ∀ f fn, fnAt f = some fn → FnOk Try.prog f fn := by
  intro f fn h
  unfold fnAt at h
  split at h
  · cases h; exact FnOk.of_view Try.func3 v3 (by decide)
  · cases h; exact FnOk.of_view Try.func5 v5 (by decide)
  · cases h; exact FnOk.of_view Try.func8 v8 (by decide)
  · cases h; exact FnOk.of_view Try.func11 v11 (by decide)
  · cases h; exact FnOk.of_view Try.func12 v12 (by decide)
  · cases h; exact FnOk.of_view Try.func13 v13 (by decide)
  · cases h; exact FnOk.of_view Try.func15 v15 (by decide)
  · cases h; exact FnOk.of_view Try.func17 v17 (by decide)
  · cases h; exact FnOk.of_view Try.func21 v21 (by decide)
  · cases h; exact FnOk.of_view Try.func22 v22 (by decide)
  · cases h; exact FnOk.of_view Try.func23 v23 (by decide)
  · cases h; exact FnOk.of_view Try.func24 v24 (by decide)
  · cases h; exact FnOk.of_view Try.func25 v25 (by decide)
  · cases h; exact FnOk.of_view Try.func26 v26 (by decide)
  · cases h; exact FnOk.of_view Try.func27 v27 (by decide)
  · cases h; exact FnOk.of_view Try.func35 v35 (by decide)
  · cases h; exact FnOk.of_view Try.func36 v36 (by decide)
  · cases h; exact FnOk.of_view Try.func39 v39 (by decide)
  · cases h; exact FnOk.of_view Try.func51 v51 (by decide)
  · cases h; exact FnOk.of_view Try.func52 v52 (by decide)
  · cases h; exact FnOk.of_view Try.func53 v53 (by decide)
  · cases h; exact FnOk.of_view Try.func54 v54 (by decide)
  · cases h; exact FnOk.of_view Try.func55 v55 (by decide)
  · cases h; exact FnOk.of_view Try.func56 v56 (by decide)
  · cases h; exact FnOk.of_view Try.func57 v57 (by decide)
  · cases h; exact FnOk.of_view Try.func58 v58 (by decide)
  · cases h; exact FnOk.of_view Try.func59 v59 (by decide)
  · cases h; exact FnOk.of_view Try.func60 v60 (by decide)
  · cases h; exact FnOk.of_view Try.func94 v94 (by decide)
  · cases h; exact FnOk.of_view Try.func95 v95 (by decide)
  · cases h; exact FnOk.of_view Try.func96 v96 (by decide)
  · cases h; exact FnOk.of_view Try.func97 v97 (by decide)
  · cases h; exact FnOk.of_view Try.func98 v98 (by decide)
  · cases h; exact FnOk.of_view Try.func99 v99 (by decide)
  · cases h; exact FnOk.of_view Try.func100 v100 (by decide)
  · cases h; exact FnOk.of_view Try.func101 v101 (by decide)
  · cases h; exact FnOk.of_view Try.func102 v102 (by decide)
  · cases h; exact FnOk.of_view Try.func123 v123 (by decide)
  · cases h; exact FnOk.of_view Try.func124 v124 (by decide)
  · cases h; exact FnOk.of_view Try.func125 v125 (by decide)
  · cases h; exact FnOk.of_view Try.func126 v126 (by decide)
  · cases h; exact FnOk.of_view Try.func127 v127 (by decide)
  · cases h; exact FnOk.of_view Try.func140 v140 (by decide)
  · cases h; exact FnOk.of_view Try.func141 v141 (by decide)
  · cases h; exact FnOk.of_view Try.func142 v142 (by decide)
  · cases h
end Go.Proofs.Ytkomfefpfalajaa
