/- The program of this seat under one name. -/
import Derived.Test.YtabpehobmljaaaaProg
import Derived.Test.YtabpehobmljaaaaWd
set_option linter.unusedVariables false
namespace Go.Proofs.Ytabpehobmljaaaa
open Go
noncomputable abbrev PP : Program := Go.Proofs.Try.prog
theorem follows : PP.follows .mixedOrders = true := by kernel_rfl
end Go.Proofs.Ytabpehobmljaaaa
