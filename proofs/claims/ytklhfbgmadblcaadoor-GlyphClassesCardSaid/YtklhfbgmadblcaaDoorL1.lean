/- The walk of GlyphClasses. -/
import Derived.Test.YtklhfbgmadblcaaDoorE1
namespace Go.Proofs.YtklhfbgmadblcaaDoor
open Go.RowKit
set_option linter.unusedVariables false
set_option linter.unusedSimpArgs false

set_option maxHeartbeats 1000000 in
theorem law_classes (c : Int) (w : World) (hT : Tb w) : Calls Tryd.prog 3 #[.int .i64 c] w fun e w' => e = .returned (.bool true) ∧ Fr No w w' := by
  go_enter Tryd.func3, Tryd.ntmps3
  go_wp2_with fail
  refine (awake_calls w hT).mono ?_
  rintro e w1 ⟨rfl, hf⟩
  go_wp2_with (first
    | (go_at_call 14; refine (Class_calls _ _).mono ?_; rintro e w' ⟨rfl, rfl⟩)
    | (go_at_call 15; refine (rClass_calls _ _).mono ?_; rintro e w' ⟨rfl, rfl⟩)
    | (go_at_call 16; refine (Fold_calls _ _).mono ?_; rintro e w' ⟨rfl, rfl⟩)
    | (go_at_call 17; refine (rFold_calls _ _).mono ?_; rintro e w' ⟨rfl, rfl⟩))
  all_goals first
    | (go_ret; exact ⟨by simp, hf⟩)
    | trace_state
end Go.Proofs.YtklhfbgmadblcaaDoor
