/- Calls of (*moot.Moot).calm on record: their equations. Written by wip/rec/mkrec2.py. -/
import Derived.Test.YtefleapekgbpcaaGreatDoorHRecM0
namespace Go.Proofs.YtefleapekgbpcaaGreatDoor.Rec
open Go Go.Aex Go.RowKit
set_option maxRecDepth 1000000
theorem rec11101_ok : recOk rec11101 (q_callA Aexd.E0 1000000 false 149 rec11101.args (startS rec11101)) = true := by kernel_rfl
theorem rec11842_ok : recOk rec11842 (q_callA Aexd.E0 1000000 false 149 rec11842.args (startS rec11842)) = true := by kernel_rfl
theorem rec12583_ok : recOk rec12583 (q_callA Aexd.E0 1000000 false 149 rec12583.args (startS rec12583)) = true := by kernel_rfl
theorem rec13324_ok : recOk rec13324 (q_callA Aexd.E0 1000000 false 149 rec13324.args (startS rec13324)) = true := by kernel_rfl
theorem rec14065_ok : recOk rec14065 (q_callA Aexd.E0 1000000 false 149 rec14065.args (startS rec14065)) = true := by kernel_rfl
theorem rec14806_ok : recOk rec14806 (q_callA Aexd.E0 1000000 false 149 rec14806.args (startS rec14806)) = true := by kernel_rfl
theorem rec15589_ok : recOk rec15589 (q_callA Aexd.E0 1000000 false 149 rec15589.args (startS rec15589)) = true := by kernel_rfl
theorem rec16324_ok : recOk rec16324 (q_callA Aexd.E0 1000000 false 149 rec16324.args (startS rec16324)) = true := by kernel_rfl
theorem rec17065_ok : recOk rec17065 (q_callA Aexd.E0 1000000 false 149 rec17065.args (startS rec17065)) = true := by kernel_rfl
theorem rec17806_ok : recOk rec17806 (q_callA Aexd.E0 1000000 false 149 rec17806.args (startS rec17806)) = true := by kernel_rfl
end Go.Proofs.YtefleapekgbpcaaGreatDoor.Rec
