/- What is asked of the whole program in every row: reckoned once. Its head's signs are laid as a list first: a text's own signs are dear to the kernel. -/
import Derived.Test.YtefleapekgbpcaaGreatRows
import Derived.ProofKit
namespace Go.Proofs.YtefleapekgbpcaaGreat
theorem head_signs : Tryz.prog.initOrder.toList = [104, 97, 114, 110, 101, 115, 115, 32, 51, 101, 99, 48, 48, 102, 101, 56, 53, 53, 98, 48, 49, 50, 99, 54, 55, 97, 48, 52, 99, 54, 51, 56, 99, 54, 97, 98, 52, 99, 54, 102, 97, 50, 53, 54, 98, 102, 48, 53, 53, 53, 57, 51, 51, 57, 99, 101, 99, 99, 101, 53, 97, 49, 55, 50, 99, 51, 53, 53, 56, 52, 101, 57, 32, 99, 117, 116, 32, 97, 116, 32, 102, 111, 108, 107, 109, 111, 111, 116, 47, 102, 111, 108, 107, 109, 111, 111, 116, 108, 97, 119, 49, 55, 46, 84, 111, 116, 97, 108, 78, 105, 108].map Char.ofNat := by
  have h : Tryz.prog.initOrder = String.ofList ([104, 97, 114, 110, 101, 115, 115, 32, 51, 101, 99, 48, 48, 102, 101, 56, 53, 53, 98, 48, 49, 50, 99, 54, 55, 97, 48, 52, 99, 54, 51, 56, 99, 54, 97, 98, 52, 99, 54, 102, 97, 50, 53, 54, 98, 102, 48, 53, 53, 53, 57, 51, 51, 57, 99, 101, 99, 99, 101, 53, 97, 49, 55, 50, 99, 51, 53, 53, 56, 52, 101, 57, 32, 99, 117, 116, 32, 97, 116, 32, 102, 111, 108, 107, 109, 111, 111, 116, 47, 102, 111, 108, 107, 109, 111, 111, 116, 108, 97, 119, 49, 55, 46, 84, 111, 116, 97, 108, 78, 105, 108].map Char.ofNat) := by kernel_rfl
  rw [h, String.toList_ofList]
theorem head_words : wordsSigns ([104, 97, 114, 110, 101, 115, 115, 32, 51, 101, 99, 48, 48, 102, 101, 56, 53, 53, 98, 48, 49, 50, 99, 54, 55, 97, 48, 52, 99, 54, 51, 56, 99, 54, 97, 98, 52, 99, 54, 102, 97, 50, 53, 54, 98, 102, 48, 53, 53, 53, 57, 51, 51, 57, 99, 101, 99, 99, 101, 53, 97, 49, 55, 50, 99, 51, 53, 53, 56, 52, 101, 57, 32, 99, 117, 116, 32, 97, 116, 32, 102, 111, 108, 107, 109, 111, 111, 116, 47, 102, 111, 108, 107, 109, 111, 111, 116, 108, 97, 119, 49, 55, 46, 84, 111, 116, 97, 108, 78, 105, 108].map Char.ofNat) = [[104, 97, 114, 110, 101, 115, 115], [51, 101, 99, 48, 48, 102, 101, 56, 53, 53, 98, 48, 49, 50, 99, 54, 55, 97, 48, 52, 99, 54, 51, 56, 99, 54, 97, 98, 52, 99, 54, 102, 97, 50, 53, 54, 98, 102, 48, 53, 53, 53, 57, 51, 51, 57, 99, 101, 99, 99, 101, 53, 97, 49, 55, 50, 99, 51, 53, 53, 56, 52, 101, 57], [99, 117, 116], [97, 116], [102, 111, 108, 107, 109, 111, 111, 116, 47, 102, 111, 108, 107, 109, 111, 111, 116, 108, 97, 119, 49, 55, 46, 84, 111, 116, 97, 108, 78, 105, 108]].map (List.map Char.ofNat) := by kernel_rfl
theorem head_behind : ∃ rest, behindMainWord (wordsSigns Tryz.prog.initOrder.toList) = [99, 117, 116].map Char.ofNat :: rest := by
  rw [head_signs, head_words]
  exact ⟨[[99, 117, 116], [97, 116], [102, 111, 108, 107, 109, 111, 111, 116, 47, 102, 111, 108, 107, 109, 111, 111, 116, 108, 97, 119, 49, 55, 46, 84, 111, 116, 97, 108, 78, 105, 108]].tail.map (List.map Char.ofNat), by kernel_rfl⟩
theorem cut_gc : (([99, 117, 116].map Char.ofNat) == "gc".toList) = false := by kernel_rfl
theorem cut_spec : (([99, 117, 116].map Char.ofNat) == "spec".toList) = false := by kernel_rfl
theorem cut_carried : (([99, 117, 116].map Char.ofNat) == "carried".toList) = false := by kernel_rfl
theorem cut_cut : (([99, 117, 116].map Char.ofNat) == "cut".toList) = true := by kernel_rfl
theorem cut_some (rest : List (List Char)) : ((([99, 117, 116].map Char.ofNat) :: rest).head? == some "cut".toList) = true := cut_cut
theorem cut_strip (rest : List (List Char)) : stripLifts liftWords (([99, 117, 116].map Char.ofNat) :: rest) = ([], ([99, 117, 116].map Char.ofNat) :: rest) := by
  simp only [liftWords, stripLifts]
  rfl
theorem make_of {P : Program} {rest : List (List Char)} (h : behindMainWord (wordsSigns P.initOrder.toList) = [99, 117, 116].map Char.ofNat :: rest) : P.make = some .cut := by
  unfold Program.make
  rw [h]
  simp only [cut_gc, cut_spec, cut_cut, Bool.or_false, Bool.true_or, Bool.false_eq_true, if_false, if_true]
theorem lifts_of {P : Program} {rest : List (List Char)} (h : behindMainWord (wordsSigns P.initOrder.toList) = [99, 117, 116].map Char.ofNat :: rest) : P.liftsFinal = false := by
  unfold Program.liftsFinal Program.headLifts
  rw [h]
  simp only [cut_strip, List.head?_cons]
  show ((([99, 117, 116].map Char.ofNat) == "carried".toList) && _ || _) = false
  rw [cut_carried]
  kernel_rfl
theorem enter_of {P : Program} {rest : List (List Char)} (h : behindMainWord (wordsSigns P.initOrder.toList) = [99, 117, 116].map Char.ofNat :: rest) (h1 : P.laysLater = false) (h2 : P.bearsReflect = false) (h3 : P.doorFits [] = true) : P.mayEnter = true := by
  unfold Program.mayEnter
  rw [h]
  simp only [cut_strip, cut_some, cut_gc, cut_spec, cut_carried, h1, h2, h3, Bool.not_false, Bool.or_true, Bool.and_true, Bool.or_false, Bool.false_and, List.contains_nil]
theorem head_make : Tryz.prog.make = some .cut := head_behind.elim fun _ h => make_of h
theorem head_lifts : Tryz.prog.liftsFinal = false := head_behind.elim fun _ h => lifts_of h
theorem head_enter : Tryz.prog.mayEnter = true := head_behind.elim fun _ h => enter_of h (by kernel_rfl) (by kernel_rfl) (by kernel_rfl)
end Go.Proofs.YtefleapekgbpcaaGreat
