/-
  The document's example runs.
-/
import Derived.Test.YtmhedpkbfaginaaGreatDoorFlT
set_option maxHeartbeats 4000000
set_option linter.unusedSimpArgs false
set_option linter.unusedVariables false
set_option linter.unusedSectionVars false
namespace Go.Fu
open Go Go.Mx
set_option maxRecDepth 1000000
theorem lives_runs : livesA 60 n_135 = true := by kernel_rfl
theorem lives_ok : OkP n_135 [] ⟨false, .bool true⟩ := by
  intro σ
  have h := lives_runs
  unfold livesA at h
  split at h
  · rename_i s hx
    exact frame_rule rfl ((run_sound Γa_holds Ra_sound Xa_sound 60).1 _ [] σ0 _ _ hx) rfl rfl σ
  · cases h
end Go.Fu
