/- Calls of (*moot.Moot).calm on record: their equations. Written by wip/rec/mkrec2.py. -/
import Derived.Test.YtefleapekgbpcaaGreatDoorHRecM0
namespace Go.Proofs.YtefleapekgbpcaaGreatDoor.Rec
open Go Go.Aex Go.RowKit
set_option maxRecDepth 1000000
theorem rec18547_ok : recOk rec18547 (q_callA Aexd.E0 1000000 false 149 rec18547.args (startS rec18547)) = true := by kernel_rfl
theorem rec19288_ok : recOk rec19288 (q_callA Aexd.E0 1000000 false 149 rec19288.args (startS rec19288)) = true := by kernel_rfl
theorem rec20029_ok : recOk rec20029 (q_callA Aexd.E0 1000000 false 149 rec20029.args (startS rec20029)) = true := by kernel_rfl
theorem rec20770_ok : recOk rec20770 (q_callA Aexd.E0 1000000 false 149 rec20770.args (startS rec20770)) = true := by kernel_rfl
theorem rec21511_ok : recOk rec21511 (q_callA Aexd.E0 1000000 false 149 rec21511.args (startS rec21511)) = true := by kernel_rfl
theorem rec22252_ok : recOk rec22252 (q_callA Aexd.E0 1000000 false 149 rec22252.args (startS rec22252)) = true := by kernel_rfl
theorem rec22993_ok : recOk rec22993 (q_callA Aexd.E0 1000000 false 149 rec22993.args (startS rec22993)) = true := by kernel_rfl
theorem rec23734_ok : recOk rec23734 (q_callA Aexd.E0 1000000 false 149 rec23734.args (startS rec23734)) = true := by kernel_rfl
theorem rec24475_ok : recOk rec24475 (q_callA Aexd.E0 1000000 false 149 rec24475.args (startS rec24475)) = true := by kernel_rfl
theorem rec25216_ok : recOk rec25216 (q_callA Aexd.E0 1000000 false 149 rec25216.args (startS rec25216)) = true := by kernel_rfl
end Go.Proofs.YtefleapekgbpcaaGreatDoor.Rec
