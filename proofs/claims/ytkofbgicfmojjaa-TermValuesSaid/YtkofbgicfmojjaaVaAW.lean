/- The context is in order; what the document fixes is so. -/
import Derived.Test.YtkofbgicfmojjaaVaCA
import Derived.Test.YtkofbgicfmojjaaVaLC
set_option linter.unusedSimpArgs false
set_option linter.unusedVariables false
set_option linter.unusedSectionVars false
namespace Go.Va
open Go.Proofs
noncomputable def X0 : Ctx := { X with T := [] }
theorem X0_ok : X0.ok := ok_of (by kernel_rfl) (by kernel_rfl) (fun f h => by simp [X0] at h)
theorem awake_true : Truth X0.P 9 := truth_of X0_ok (n := 60) (by kernel_rfl)
theorem X_ok : X.ok := ok_of (by kernel_rfl) (by kernel_rfl) (fun f h => by
  simp [X] at h; subst h; exact awake_true)
end Go.Va
