/- folkmootlaw21.ShellNil: the tied card: a nil moot is asked; under the tables of the shell, of strconv, math/bits and unicode/utf8 that the program's text lays. -/
import Derived.Test.YtefleapekgbpcaaGreatDoorTShellNil
import Derived.Test.YtefleapekgbpcaaGreatDoorCards
import Derived.Test.YtefleapekgbpcaaGreatDoorTie
import Derived.SevenTiedAt
namespace Go.Proofs.YtefleapekgbpcaaGreatDoor.shellNil
open Go
theorem main_is : Tryz.pinned.checked.prog.mainIs = some (true, "c1439ab5195dedc21c4116d310766dd84a9b205baf8da55af3e572fec4e1edf7".toList) := by kernel_rfl
theorem looks_is : true = Tryz.pinned.checked.prog.looks [] := by kernel_rfl
theorem goes_is : false = Rows.shellNilRow.goesBy Tryz.pinned.checked.prog := by kernel_rfl
theorem wf_is : Rows.shellNilRow.wfByText (OpenSpec.ofChange Rows.shellNilSpec) = true := by kernel_rfl
theorem named_is : Tryz.prog.funcNamed "folkmoot/folkmootlaw21.ShellNil" = some 7 := by kernel_rfl
theorem proved : Rows.ShellNilCardSaid :=
  Claim7.holds_tied_plain_at .later [] [.data, .data, .data, .data, .sentinel, .sentinel, .data, .data, .pinned] true (true, "c1439ab5195dedc21c4116d310766dd84a9b205baf8da55af3e572fec4e1edf7") true
    over (fun _ h => by cases h) wf_is (fun _ h => by cases h) shellNil_row_tie rfl ⟨rfl, rfl⟩ main_is rfl
    (fun f fn hf hfn => by
      obtain rfl : f = 7 := Option.some.inj (named_is.symm.trans hf) |>.symm
      obtain rfl : fn = Tryz.f7 := (Option.some.inj (Tryz.func7.symm.trans hfn)).symm
      exact ⟨looks_is, fun j t ht => by
        rw [Tryz.params7] at ht
        have hm : t ∈ [9] := by simpa using Array.mem_of_getElem? ht
        have hall : ([9].all fun u => !Tryz.prog.wantsStandIn u) = true := by kernel_rfl
        exact (show Tryz.prog.wantsStandIn t = false by simpa using List.all_eq_true.1 hall t hm)⟩)
    goes_is
#print axioms proved
end Go.Proofs.YtefleapekgbpcaaGreatDoor.shellNil
