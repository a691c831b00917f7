/- Calls of (*moot.Moot).calm on record: their equations. Written by wip/rec/mkrec2.py. -/
import Derived.Test.YtefleapekgbpcaaGreatDoorHRecM0
namespace Go.Proofs.YtefleapekgbpcaaGreatDoor.Rec
open Go Go.Aex Go.RowKit
set_option maxRecDepth 1000000
theorem rec25957_ok : recOk rec25957 (q_callA Aexd.E0 1000000 false 149 rec25957.args (startS rec25957)) = true := by kernel_rfl
theorem rec26698_ok : recOk rec26698 (q_callA Aexd.E0 1000000 false 149 rec26698.args (startS rec26698)) = true := by kernel_rfl
theorem rec27481_ok : recOk rec27481 (q_callA Aexd.E0 1000000 false 149 rec27481.args (startS rec27481)) = true := by kernel_rfl
theorem rec28216_ok : recOk rec28216 (q_callA Aexd.E0 1000000 false 149 rec28216.args (startS rec28216)) = true := by kernel_rfl
theorem rec28957_ok : recOk rec28957 (q_callA Aexd.E0 1000000 false 149 rec28957.args (startS rec28957)) = true := by kernel_rfl
theorem rec29698_ok : recOk rec29698 (q_callA Aexd.E0 1000000 false 149 rec29698.args (startS rec29698)) = true := by kernel_rfl
theorem rec30439_ok : recOk rec30439 (q_callA Aexd.E0 1000000 false 149 rec30439.args (startS rec30439)) = true := by kernel_rfl
theorem rec31180_ok : recOk rec31180 (q_callA Aexd.E0 1000000 false 149 rec31180.args (startS rec31180)) = true := by kernel_rfl
theorem rec31921_ok : recOk rec31921 (q_callA Aexd.E0 1000000 false 149 rec31921.args (startS rec31921)) = true := by kernel_rfl
theorem rec32662_ok : recOk rec32662 (q_callA Aexd.E0 1000000 false 149 rec32662.args (startS rec32662)) = true := by kernel_rfl
end Go.Proofs.YtefleapekgbpcaaGreatDoor.Rec
