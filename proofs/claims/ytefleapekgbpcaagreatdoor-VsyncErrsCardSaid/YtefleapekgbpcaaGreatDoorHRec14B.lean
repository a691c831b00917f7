/- folkmootlaw14.awake: the second call of calm on record. -/
import Derived.Test.YtefleapekgbpcaaGreatDoorHRec14
namespace Go.Proofs.YtefleapekgbpcaaGreatDoor.Aexd
open Go Go.Aex Go.RowKit
set_option maxRecDepth 1000000
theorem rec2118_ok : recOk rec2118 (q_callA E0 1000000 false 47 rec2118.args (startS rec2118)) = true := by kernel_rfl
end Go.Proofs.YtefleapekgbpcaaGreatDoor.Aexd
