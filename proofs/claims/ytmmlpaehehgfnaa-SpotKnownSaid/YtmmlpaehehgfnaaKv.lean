/-
  What this text proves: chapter 25's example is so.
  Conditions: none.
-/
import Derived.Test.YtmmlpaehehgfnaaKs
namespace Go.Proofs.Ytmmlpaehehgfnaa.Sx
set_option linter.unusedSimpArgs false
set_option linter.unusedVariables false

theorem known25_true : (known25T open25 open25Ok spotOf spotOfOk).run = some true := by kernel_rfl

end Go.Proofs.Ytmmlpaehehgfnaa.Sx
