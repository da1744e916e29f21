/- The program of this seat under one name. -/
import Derived.Test.YtibgbapeblicjaaProg
import Derived.Test.YtibgbapeblicjaaWd
set_option linter.unusedVariables false
namespace Go.Proofs.Ytibgbapeblicjaa
open Go
noncomputable abbrev PP : Program := Go.Proofs.Try.prog
theorem follows : PP.follows .mixedOrders = true := by kernel_rfl
end Go.Proofs.Ytibgbapeblicjaa
