/- folkmootlaw21.ShellNil: the row's closed facts, and the row. -/
import Derived.Test.YtefleapekgbpcaaGreatDoorRShellNil
import Derived.Test.YtefleapekgbpcaaGreatDoorHJoined
namespace Go.Proofs.YtefleapekgbpcaaGreatDoor.shellNil
open Go.ChangeShapes Go.WideShapes Go.ChangeAt Go.WideMaps Go.WideElems Go.RowKit
theorem c_rowed : mapsRowed Tryz.prog = true := by kernel_rfl
theorem c_stops : (Tryz.prog.stops == []) = true := by kernel_rfl
theorem c_knobs : (Tryz.prog.stopKnobs == []) = true := by kernel_rfl
theorem c_heard : Tryz.prog.stopsHeard = true := by kernel_rfl
theorem c_plain : (Rows.shellNilRow.plainKeys == Tryz.prog.plainKeys) = true := by kernel_rfl
theorem c_inPlace : (Rows.shellNilRow.inPlace == Tryz.prog.inPlace 7) = true := by kernel_rfl
theorem c_unfollowed : (Rows.shellNilRow.unfollowed == Tryz.prog.unfollowed 7) = true := by kernel_rfl
theorem c_recurses : (Rows.shellNilRow.recurses == Tryz.prog.recurses 7) = true := by kernel_rfl
theorem c_named : (Rows.shellNilRow.named == Tryz.prog.varsNamed 7) = true := by kernel_rfl
theorem closed : joinedFacts Tryz.prog 7 Tryz.f7 Rows.shellNilSpec Rows.shellNilRow = true := by
  unfold joinedFacts
  rw [head_enter, head_lifts, head_make, Ld.laidOut, c_rowed, c_stops, c_knobs, c_heard, c_plain, c_inPlace, c_unfollowed, c_recurses, c_named]
  kernel_rfl
theorem over : Rows.shellNilRow.holds Tryz.pinned (OpenSpec.ofChange Rows.shellNilSpec) :=
  OpenClaim.holds_of_wide 7 Tryz.f7 rfl rfl rfl rfl rfl rfl rfl ⟨rfl, rfl, rfl, rfl, rfl⟩ rfl rfl rfl rfl rfl (by kernel_rfl) Tryz.func7 closed
    (of_decide_eq_true (by kernel_rfl)) (by unfold Func.isWrapper; first | (rw [if_pos (by decide +kernel)]; kernel_rfl) | (rw [if_neg (by decide +kernel)]; exact ⟨rfl, rfl⟩))
    (fun os started H enc _ => lifted os started H enc)
end Go.Proofs.YtefleapekgbpcaaGreatDoor.shellNil
