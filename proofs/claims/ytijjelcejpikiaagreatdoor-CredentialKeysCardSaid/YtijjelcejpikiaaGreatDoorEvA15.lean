/-
Chapter 15: the law's own test comes out true.
-/
import Derived.Test.YtijjelcejpikiaaGreatDoorEvPx15
namespace Go.Px
open Go Go.Ev
set_option maxRecDepth 100000
theorem awake_c : law15_awake_c = some true := by kernel_rfl
theorem awake_true : law15_awake = some true := law15_awake_le _ awake_c
end Go.Px
