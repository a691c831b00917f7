/- awake of layer 18 answers true: its whole run. -/
import Derived.Test.YtefleapekgbpcaaGreatDoorHAexd
namespace Go.Proofs.YtefleapekgbpcaaGreatDoor.Aexd
open Go Go.Aex Go.RowKit
set_option maxRecDepth 1000000
theorem awake18 : saysTrue (q_callA E0 1000000 false 20 [] ⟨.nil, 0, Ks.emp, Ks.emp⟩) = true := by kernel_rfl
end Go.Proofs.YtefleapekgbpcaaGreatDoor.Aexd
