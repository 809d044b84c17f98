/-
  What this text proves: chapter 25's closed sentence answers true.
  Conditions: none.
-/
import Derived.Test.YtmmlpaehehgfnaaKv
import Derived.Test.YtmmlpaehehgfnaaKw
namespace Go.Proofs.Ytmmlpaehehgfnaa.Sx
set_option linter.unusedSimpArgs false
set_option linter.unusedVariables false

theorem known25_is : Snd 69 [] (fBool true) := known25_snd open25 open25Ok spotOf spotOfOk meniscuslaw25_open_c.ok spot_Of_c.ok known25_true
theorem spotKnown_is : Snd 11 [] (fBool true) := spotKnown_snd open25 open25Ok spotOf spotOfOk true meniscuslaw25_open_c.ok spot_Of_c.ok (pf0_ok known25_is) spotKnown_true

end Go.Proofs.Ytmmlpaehehgfnaa.Sx
