/- folkmootlaw18.NodeErrs: the tied card: configurations that are none are told so, right ones give a node, and a nil node has nothing; under the table of math/bits that the program's text lays. -/
import Derived.Test.YtefleapekgbpcaaGreatDoorRNodeErrs
import Derived.Test.YtefleapekgbpcaaGreatDoorCards
import Derived.Test.YtefleapekgbpcaaGreatDoorTie
import Derived.SevenTiedAt
namespace Go.Proofs.YtefleapekgbpcaaGreatDoor.nodeErrs
open Go
theorem main_is : Tryz.pinned.checked.prog.mainIs = some (true, "c1439ab5195dedc21c4116d310766dd84a9b205baf8da55af3e572fec4e1edf7".toList) := by kernel_rfl
theorem looks_is : true = Tryz.pinned.checked.prog.looks [] := by kernel_rfl
theorem goes_is : false = Rows.nodeErrsRow.goesBy Tryz.pinned.checked.prog := by kernel_rfl
theorem wf_is : Rows.nodeErrsRow.wfByText (OpenSpec.ofChange Rows.nodeErrsSpec) = true := by kernel_rfl
theorem named_is : Tryz.prog.funcNamed "folkmoot/folkmootlaw18.NodeErrs" = some 4 := by kernel_rfl
theorem proved : Rows.NodeErrsCardSaid :=
  Claim7.holds_tied_plain_at .later [] [.data] true (true, "c1439ab5195dedc21c4116d310766dd84a9b205baf8da55af3e572fec4e1edf7") true
    over (fun _ h => by cases h) wf_is (fun _ h => by cases h) nodeErrs_row_tie rfl ⟨rfl, rfl⟩ main_is rfl
    (fun f fn hf hfn => by
      obtain rfl : f = 4 := Option.some.inj (named_is.symm.trans hf) |>.symm
      obtain rfl : fn = Tryz.f4 := (Option.some.inj (Tryz.func4.symm.trans hfn)).symm
      exact ⟨looks_is, fun j t ht => by
        rw [Tryz.params4] at ht
        have hm : t ∈ [23, 3, 24] := by simpa using Array.mem_of_getElem? ht
        have hall : ([23, 3, 24].all fun u => !Tryz.prog.wantsStandIn u) = true := by kernel_rfl
        exact (show Tryz.prog.wantsStandIn t = false by simpa using List.all_eq_true.1 hall t hm)⟩)
    goes_is
#print axioms proved
end Go.Proofs.YtefleapekgbpcaaGreatDoor.nodeErrs
