/- folkmootlaw14.VsyncErrs: the tied card: configurations that are none are told so, right ones give a node, and a nil node has nothing; under the table of math/bits that the program's text lays. -/
import Derived.Test.YtefleapekgbpcaaGreatDoorRVsyncErrs
import Derived.Test.YtefleapekgbpcaaGreatDoorCards
import Derived.Test.YtefleapekgbpcaaGreatDoorTie
import Derived.SevenTiedAt
namespace Go.Proofs.YtefleapekgbpcaaGreatDoor.vsyncErrs
open Go
theorem main_is : Tryz.pinned.checked.prog.mainIs = some (true, "c1439ab5195dedc21c4116d310766dd84a9b205baf8da55af3e572fec4e1edf7".toList) := by kernel_rfl
theorem looks_is : true = Tryz.pinned.checked.prog.looks [] := by kernel_rfl
theorem goes_is : false = Rows.vsyncErrsRow.goesBy Tryz.pinned.checked.prog := by kernel_rfl
theorem wf_is : Rows.vsyncErrsRow.wfByText (OpenSpec.ofChange Rows.vsyncErrsSpec) = true := by kernel_rfl
theorem named_is : Tryz.prog.funcNamed "folkmoot/folkmootlaw14.VsyncErrs" = some 3 := by kernel_rfl
theorem proved : Rows.VsyncErrsCardSaid :=
  Claim7.holds_tied_plain_at .later [] [.data] true (true, "c1439ab5195dedc21c4116d310766dd84a9b205baf8da55af3e572fec4e1edf7") true
    over (fun _ h => by cases h) wf_is (fun _ h => by cases h) vsyncErrs_row_tie rfl ⟨rfl, rfl⟩ main_is rfl
    (fun f fn hf hfn => by
      obtain rfl : f = 3 := Option.some.inj (named_is.symm.trans hf) |>.symm
      obtain rfl : fn = Tryz.f3 := (Option.some.inj (Tryz.func3.symm.trans hfn)).symm
      exact ⟨looks_is, fun j t ht => by
        rw [Tryz.params3] at ht
        have hm : t ∈ [23, 3, 24] := by simpa using Array.mem_of_getElem? ht
        have hall : ([23, 3, 24].all fun u => !Tryz.prog.wantsStandIn u) = true := by kernel_rfl
        exact (show Tryz.prog.wantsStandIn t = false by simpa using List.all_eq_true.1 hall t hm)⟩)
    goes_is
#print axioms proved
end Go.Proofs.YtefleapekgbpcaaGreatDoor.vsyncErrs
