/-
  What the statements of the chapter share, part 22: RWT.
-/
import Derived.Test.YtgkjcmglcnhpaaaGreatDoorR21
import Derived.SizedLaws
set_option linter.unusedVariables false
set_option linter.unusedSimpArgs false
set_option maxRecDepth 100000
set_option maxHeartbeats 8000000
namespace Go.Proofs.YtgkjcmglcnhpaaaGreatDoor
open Go.RowKit
section

end
end Go.Proofs.YtgkjcmglcnhpaaaGreatDoor
