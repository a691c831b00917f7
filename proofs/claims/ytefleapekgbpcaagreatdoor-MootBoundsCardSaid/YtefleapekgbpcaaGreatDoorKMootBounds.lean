/- folkmootlaw20.MootBounds: the tied card: Settle and Rest are what the document says; in the document's example nothing waits when all is at rest; under the table of math/bits that the program's text lays. -/
import Derived.Test.YtefleapekgbpcaaGreatDoorRMootBounds
import Derived.Test.YtefleapekgbpcaaGreatDoorCards
import Derived.Test.YtefleapekgbpcaaGreatDoorTie
import Derived.SevenTiedAt
namespace Go.Proofs.YtefleapekgbpcaaGreatDoor.mootBounds
open Go
theorem main_is : Tryz.pinned.checked.prog.mainIs = some (true, "c1439ab5195dedc21c4116d310766dd84a9b205baf8da55af3e572fec4e1edf7".toList) := by kernel_rfl
theorem looks_is : true = Tryz.pinned.checked.prog.looks [] := by kernel_rfl
theorem goes_is : false = Rows.mootBoundsRow.goesBy Tryz.pinned.checked.prog := by kernel_rfl
theorem wf_is : Rows.mootBoundsRow.wfByText (OpenSpec.ofChange Rows.mootBoundsSpec) = true := by kernel_rfl
theorem named_is : Tryz.prog.funcNamed "folkmoot/folkmootlaw20.MootBounds" = some 5 := by kernel_rfl
theorem proved : Rows.MootBoundsCardSaid :=
  Claim7.holds_tied_plain_at .later [] [.data] true (true, "c1439ab5195dedc21c4116d310766dd84a9b205baf8da55af3e572fec4e1edf7") true
    over (fun _ h => by cases h) wf_is (fun _ h => by cases h) mootBounds_row_tie rfl ⟨rfl, rfl⟩ main_is rfl
    (fun f fn hf hfn => by
      obtain rfl : f = 5 := Option.some.inj (named_is.symm.trans hf) |>.symm
      obtain rfl : fn = Tryz.f5 := (Option.some.inj (Tryz.func5.symm.trans hfn)).symm
      exact ⟨looks_is, fun j t ht => by
        rw [Tryz.params5] at ht
        have hm : t ∈ [23, 36] := by simpa using Array.mem_of_getElem? ht
        have hall : ([23, 36].all fun u => !Tryz.prog.wantsStandIn u) = true := by kernel_rfl
        exact (show Tryz.prog.wantsStandIn t = false by simpa using List.all_eq_true.1 hall t hm)⟩)
    goes_is
#print axioms proved
end Go.Proofs.YtefleapekgbpcaaGreatDoor.mootBounds
