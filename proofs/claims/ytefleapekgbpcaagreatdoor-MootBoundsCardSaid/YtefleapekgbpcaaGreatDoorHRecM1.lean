/- Calls of (*moot.Moot).calm on record: their equations. Written by wip/rec/mkrec2.py. -/
import Derived.Test.YtefleapekgbpcaaGreatDoorHRecM0
namespace Go.Proofs.YtefleapekgbpcaaGreatDoor.Rec
open Go Go.Aex Go.RowKit
set_option maxRecDepth 1000000
theorem rec68_ok : recOk rec68 (q_callA Aexd.E0 1000000 false 149 rec68.args (startS rec68)) = true := by kernel_rfl
theorem rec1256_ok : recOk rec1256 (q_callA Aexd.E0 1000000 false 149 rec1256.args (startS rec1256)) = true := by kernel_rfl
theorem rec2677_ok : recOk rec2677 (q_callA Aexd.E0 1000000 false 149 rec2677.args (startS rec2677)) = true := by kernel_rfl
theorem rec4150_ok : recOk rec4150 (q_callA Aexd.E0 1000000 false 149 rec4150.args (startS rec4150)) = true := by kernel_rfl
theorem rec5118_ok : recOk rec5118 (q_callA Aexd.E0 1000000 false 149 rec5118.args (startS rec5118)) = true := by kernel_rfl
theorem rec6542_ok : recOk rec6542 (q_callA Aexd.E0 1000000 false 149 rec6542.args (startS rec6542)) = true := by kernel_rfl
theorem rec7635_ok : recOk rec7635 (q_callA Aexd.E0 1000000 false 149 rec7635.args (startS rec7635)) = true := by kernel_rfl
theorem rec8878_ok : recOk rec8878 (q_callA Aexd.E0 1000000 false 149 rec8878.args (startS rec8878)) = true := by kernel_rfl
theorem rec9619_ok : recOk rec9619 (q_callA Aexd.E0 1000000 false 149 rec9619.args (startS rec9619)) = true := by kernel_rfl
theorem rec10360_ok : recOk rec10360 (q_callA Aexd.E0 1000000 false 149 rec10360.args (startS rec10360)) = true := by kernel_rfl
end Go.Proofs.YtefleapekgbpcaaGreatDoor.Rec
