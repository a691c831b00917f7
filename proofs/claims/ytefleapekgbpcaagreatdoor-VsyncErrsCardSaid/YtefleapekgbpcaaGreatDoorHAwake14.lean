/- folkmootlaw14.awake answers true: its run, the two calls of calm by their records. -/
import Derived.Test.YtefleapekgbpcaaGreatDoorHRec14B
namespace Go.Proofs.YtefleapekgbpcaaGreatDoor.Aexd
open Go Go.Aex Go.RowKit
set_option maxRecDepth 1000000
noncomputable def E14 : Env := envS nTy nFn tyT fnT fun g => match Nat.beq g 47 with
  | true => some (pickM [rec34, rec2118])
  | false => E0.sum g
theorem tab14 : Tab E14 Tryz.prog := tab_ofS tys fns (by kernel_rfl)
theorem sums14 {w0 : World} (hT : TabAt 2 Lib.deBruijn32tab w0) (hs : 2 < w0.heap.size) : ∀ g m, E14.sum g = some m → SumOk Tryz.prog w0.heap.size w0 g m := by
  intro g m h
  simp only [E14, envS] at h
  cases e1 : Nat.beq g 47 with
  | true =>
    rw [e1] at h
    cases h
    obtain rfl := beq_true e1
    refine pickM_ok fun r hr => ?_
    rcases List.mem_cons.1 hr with rfl | hr
    · exact recM_ok (f := 999999) tab (sums hT hs) (by rw [← q_callA_eq]; exact rec34_ok)
    · rcases List.mem_cons.1 hr with rfl | hr
      · exact recM_ok (f := 999999) tab (sums hT hs) (by rw [← q_callA_eq]; exact rec2118_ok)
      · cases hr
  | false =>
    rw [e1] at h
    exact sums hT hs g m h
theorem awake14 : saysTrue (q_callA E14 1000000 false 10 [] ⟨.nil, 0, Ks.emp, Ks.emp⟩) = true := by kernel_rfl
theorem awake14_calls {w : World} (hT : TabAt 2 Lib.deBruijn32tab w) (hs : 2 < w.heap.size) :
    Calls Tryz.prog 10 #[] w (fun e w' => e = .returned (.bool true) ∧ Below w.heap.size w w') := by
  have h := awake14
  rw [q_callA_eq] at h
  exact closed_args tab14 (args := []) (ARGS := []) h rfl w (sums14 hT hs)
end Go.Proofs.YtefleapekgbpcaaGreatDoor.Aexd
