/- The functions, together. -/
import Derived.Test.YtghlghbpaeimjaaDoorAc0
import Derived.Test.YtghlghbpaeimjaaDoorAc1
import Derived.Test.YtghlghbpaeimjaaDoorAc2
import Derived.Test.YtghlghbpaeimjaaDoorAc3
import Derived.Test.YtghlghbpaeimjaaDoorAc4
namespace Go.Proofs.YtghlghbpaeimjaaDoor
open Go Go.Proofs Ab
def fnAt : Nat → Option AFn
  | 3 => some F3
  | 4 => some F4
  | 5 => some F5
  | 6 => some F6
  | 7 => some F7
  | 8 => some F8
  | 9 => some F9
  | 10 => some F10
  | 11 => some F11
  | 12 => some F12
  | 13 => some F13
  | 14 => some F14
  | 15 => some F15
  | 16 => some F16
  | 17 => some F17
  | 18 => some F18
  | 19 => some F19
  | 20 => some F20
  | 21 => some F21
  | 22 => some F22
  | 23 => some F23
  | 24 => some F24
  | 25 => some F25
  | 26 => some F26
  | 27 => some F27
  | 28 => some F28
  | 29 => some F29
  | 30 => some F30
  | 31 => some F31
  | 32 => some F32
  | 33 => some F33
  | 34 => some F34
  | 35 => some F35
  | 36 => some F36
  | 37 => some F37
  | 38 => some F38
  | 39 => some F39
  | 40 => some F40
  | 41 => some F41
  | 42 => some F42
  | 43 => some F43
  | 44 => some F44
  | 45 => some F45
  | 46 => some F46
  | _ => none
theorem fnOk : ∀ f fn, fnAt f = some fn → FnOk Tryd.prog f fn := by
  intro f fn h
  unfold fnAt at h
  split at h
  · cases h; exact FnOk.of_view Tryd.func3 v3 (by decide)
  · cases h; exact FnOk.of_view Tryd.func4 v4 (by decide)
  · cases h; exact FnOk.of_view Tryd.func5 v5 (by decide)
  · cases h; exact FnOk.of_view Tryd.func6 v6 (by decide)
  · cases h; exact FnOk.of_view Tryd.func7 v7 (by decide)
  · cases h; exact FnOk.of_view Tryd.func8 v8 (by decide)
  · cases h; exact FnOk.of_view Tryd.func9 v9 (by decide)
  · cases h; exact FnOk.of_view Tryd.func10 v10 (by decide)
  · cases h; exact FnOk.of_view Tryd.func11 v11 (by decide)
  · cases h; exact FnOk.of_view Tryd.func12 v12 (by decide)
  · cases h; exact FnOk.of_view Tryd.func13 v13 (by decide)
  · cases h; exact FnOk.of_view Tryd.func14 v14 (by decide)
  · cases h; exact FnOk.of_view Tryd.func15 v15 (by decide)
  · cases h; exact FnOk.of_view Tryd.func16 v16 (by decide)
  · cases h; exact FnOk.of_view Tryd.func17 v17 (by decide)
  · cases h; exact FnOk.of_view Tryd.func18 v18 (by decide)
  · cases h; exact FnOk.of_view Tryd.func19 v19 (by decide)
  · cases h; exact FnOk.of_view Tryd.func20 v20 (by decide)
  · cases h; exact FnOk.of_view Tryd.func21 v21 (by decide)
  · cases h; exact FnOk.of_view Tryd.func22 v22 (by decide)
  · cases h; exact FnOk.of_view Tryd.func23 v23 (by decide)
  · cases h; exact FnOk.of_view Tryd.func24 v24 (by decide)
  · cases h; exact FnOk.of_view Tryd.func25 v25 (by decide)
  · cases h; exact FnOk.of_view Tryd.func26 v26 (by decide)
  · cases h; exact FnOk.of_view Tryd.func27 v27 (by decide)
  · cases h; exact FnOk.of_view Tryd.func28 v28 (by decide)
  · cases h; exact FnOk.of_view Tryd.func29 v29 (by decide)
  · cases h; exact FnOk.of_view Tryd.func30 v30 (by decide)
  · cases h; exact FnOk.of_view Tryd.func31 v31 (by decide)
  · cases h; exact FnOk.of_view Tryd.func32 v32 (by decide)
  · cases h; exact FnOk.of_view Tryd.func33 v33 (by decide)
  · cases h; exact FnOk.of_view Tryd.func34 v34 (by decide)
  · cases h; exact FnOk.of_view Tryd.func35 v35 (by decide)
  · cases h; exact FnOk.of_view Tryd.func36 v36 (by decide)
  · cases h; exact FnOk.of_view Tryd.func37 v37 (by decide)
  · cases h; exact FnOk.of_view Tryd.func38 v38 (by decide)
  · cases h; exact FnOk.of_view Tryd.func39 v39 (by decide)
  · cases h; exact FnOk.of_view Tryd.func40 v40 (by decide)
  · cases h; exact FnOk.of_view Tryd.func41 v41 (by decide)
  · cases h; exact FnOk.of_view Tryd.func42 v42 (by decide)
  · cases h; exact FnOk.of_view Tryd.func43 v43 (by decide)
  · cases h; exact FnOk.of_view Tryd.func44 v44 (by decide)
  · cases h; exact FnOk.of_view Tryd.func45 v45 (by decide)
  · cases h; exact FnOk.of_view Tryd.func46 v46 (by decide)
  · cases h
end Go.Proofs.YtghlghbpaeimjaaDoor
