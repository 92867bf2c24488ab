/-
  What all walks of this translation import.
-/
import Derived.Test.YtapmmfabdmhdnaaNode
import Derived.Test.YtapmmfabdmhdnaaTypes
set_option linter.unusedVariables false
set_option linter.unusedSimpArgs false
namespace Go.Proofs.Ytapmmfabdmhdnaa.K
open Go Go.RowKit Go.Proofs
theorem follows_mixed : Try.prog.follows .mixedOrders = true := by kernel_rfl
end Go.Proofs.Ytapmmfabdmhdnaa.K
