/- The functions, together. -/
import Derived.Test.YtkomfefpfalajaaAc0
import Derived.Test.YtkomfefpfalajaaAc1
import Derived.Test.YtkomfefpfalajaaAc2
namespace Go.Proofs.Ytkomfefpfalajaa
open Go Go.Proofs Ab
def fnAt : Nat → Option AFn
  | 3 => some F3
  | 4 => some F4
  | 11 => some F11
  | 12 => some F12
  | 13 => some F13
  | 14 => some F14
  | 15 => some F15
  | 21 => some F21
  | 22 => some F22
  | 23 => some F23
  | 24 => some F24
  | 25 => some F25
  | 26 => some F26
  | 27 => some F27
  | 28 => some F28
  | 29 => some F29
  | 30 => some F30
  | 31 => some F31
  | 32 => some F32
  | 33 => some F33
  | 34 => some F34
  | 35 => some F35
  | 36 => some F36
  | 51 => some F51
  | 52 => some F52
  | 53 => some F53
  | 54 => some F54
  | 55 => some F55
  | 56 => some F56
  | 57 => some F57
  | 58 => some F58
  | 59 => some F59
  | 60 => some F60
  | 61 => some F61
  | 62 => some F62
  | 63 => some F63
  | 64 => some F64
  | 65 => some F65
  | 66 => some F66
  | 67 => some F67
  | 68 => some F68
  | 94 => some F94
  | 95 => some F95
  | 96 => some F96
  | 97 => some F97
  | 98 => some F98
  | 99 => some F99
  | 100 => some F100
  | 101 => some F101
  | 102 => some F102
  | 103 => some F103
  | 104 => some F104
  | 105 => some F105
  | 106 => some F106
  | 107 => some F107
  | 123 => some F123
  | 124 => some F124
  | 125 => some F125
  | 126 => some F126
  | 127 => some F127
  | 128 => some F128
  | 129 => some F129
  | 140 => some F140
  | 141 => some F141
  | 142 => some F142
  | 143 => some F143
  | 144 => some F144
  | 145 => some F145
  | 149 => some F149
  | _ => none
theorem fnOk : ∀ f fn, fnAt f = some fn → FnOk Try.prog f fn := by
  intro f fn h
  unfold fnAt at h
  split at h
  · cases h; exact FnOk.of_view Try.func3 v3 (by decide)
  · cases h; exact FnOk.of_view Try.func4 v4 (by decide)
  · cases h; exact FnOk.of_view Try.func11 v11 (by decide)
  · cases h; exact FnOk.of_view Try.func12 v12 (by decide)
  · cases h; exact FnOk.of_view Try.func13 v13 (by decide)
  · cases h; exact FnOk.of_view Try.func14 v14 (by decide)
  · cases h; exact FnOk.of_view Try.func15 v15 (by decide)
  · cases h; exact FnOk.of_view Try.func21 v21 (by decide)
  · cases h; exact FnOk.of_view Try.func22 v22 (by decide)
  · cases h; exact FnOk.of_view Try.func23 v23 (by decide)
  · cases h; exact FnOk.of_view Try.func24 v24 (by decide)
  · cases h; exact FnOk.of_view Try.func25 v25 (by decide)
  · cases h; exact FnOk.of_view Try.func26 v26 (by decide)
  · cases h; exact FnOk.of_view Try.func27 v27 (by decide)
  · cases h; exact FnOk.of_view Try.func28 v28 (by decide)
  · cases h; exact FnOk.of_view Try.func29 v29 (by decide)
  · cases h; exact FnOk.of_view Try.func30 v30 (by decide)
  · cases h; exact FnOk.of_view Try.func31 v31 (by decide)
  · cases h; exact FnOk.of_view Try.func32 v32 (by decide)
  · cases h; exact FnOk.of_view Try.func33 v33 (by decide)
  · cases h; exact FnOk.of_view Try.func34 v34 (by decide)
  · cases h; exact FnOk.of_view Try.func35 v35 (by decide)
  · cases h; exact FnOk.of_view Try.func36 v36 (by decide)
  · cases h; exact FnOk.of_view Try.func51 v51 (by decide)
  · cases h; exact FnOk.of_view Try.func52 v52 (by decide)
  · cases h; exact FnOk.of_view Try.func53 v53 (by decide)
  · cases h; exact FnOk.of_view Try.func54 v54 (by decide)
  · cases h; exact FnOk.of_view Try.func55 v55 (by decide)
  · cases h; exact FnOk.of_view Try.func56 v56 (by decide)
  · cases h; exact FnOk.of_view Try.func57 v57 (by decide)
  · cases h; exact FnOk.of_view Try.func58 v58 (by decide)
  · cases h; exact FnOk.of_view Try.func59 v59 (by decide)
  · cases h; exact FnOk.of_view Try.func60 v60 (by decide)
  · cases h; exact FnOk.of_view Try.func61 v61 (by decide)
  · cases h; exact FnOk.of_view Try.func62 v62 (by decide)
  · cases h; exact FnOk.of_view Try.func63 v63 (by decide)
  · cases h; exact FnOk.of_view Try.func64 v64 (by decide)
  · cases h; exact FnOk.of_view Try.func65 v65 (by decide)
  · cases h; exact FnOk.of_view Try.func66 v66 (by decide)
  · cases h; exact FnOk.of_view Try.func67 v67 (by decide)
  · cases h; exact FnOk.of_view Try.func68 v68 (by decide)
  · cases h; exact FnOk.of_view Try.func94 v94 (by decide)
  · cases h; exact FnOk.of_view Try.func95 v95 (by decide)
  · cases h; exact FnOk.of_view Try.func96 v96 (by decide)
  · cases h; exact FnOk.of_view Try.func97 v97 (by decide)
  · cases h; exact FnOk.of_view Try.func98 v98 (by decide)
  · cases h; exact FnOk.of_view Try.func99 v99 (by decide)
  · cases h; exact FnOk.of_view Try.func100 v100 (by decide)
  · cases h; exact FnOk.of_view Try.func101 v101 (by decide)
  · cases h; exact FnOk.of_view Try.func102 v102 (by decide)
  · cases h; exact FnOk.of_view Try.func103 v103 (by decide)
  · cases h; exact FnOk.of_view Try.func104 v104 (by decide)
  · cases h; exact FnOk.of_view Try.func105 v105 (by decide)
  · cases h; exact FnOk.of_view Try.func106 v106 (by decide)
  · cases h; exact FnOk.of_view Try.func107 v107 (by decide)
  · cases h; exact FnOk.of_view Try.func123 v123 (by decide)
  · cases h; exact FnOk.of_view Try.func124 v124 (by decide)
  · cases h; exact FnOk.of_view Try.func125 v125 (by decide)
  · cases h; exact FnOk.of_view Try.func126 v126 (by decide)
  · cases h; exact FnOk.of_view Try.func127 v127 (by decide)
  · cases h; exact FnOk.of_view Try.func128 v128 (by decide)
  · cases h; exact FnOk.of_view Try.func129 v129 (by decide)
  · cases h; exact FnOk.of_view Try.func140 v140 (by decide)
  · cases h; exact FnOk.of_view Try.func141 v141 (by decide)
  · cases h; exact FnOk.of_view Try.func142 v142 (by decide)
  · cases h; exact FnOk.of_view Try.func143 v143 (by decide)
  · cases h; exact FnOk.of_view Try.func144 v144 (by decide)
  · cases h; exact FnOk.of_view Try.func145 v145 (by decide)
  · cases h; exact FnOk.of_view Try.func149 v149 (by decide)
  · cases h
end Go.Proofs.Ytkomfefpfalajaa
