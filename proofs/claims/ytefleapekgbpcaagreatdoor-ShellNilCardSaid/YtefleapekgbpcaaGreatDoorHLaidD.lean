/- The table in its variable, as the row says it; the door's own heap meets it. -/
import Derived.Test.YtefleapekgbpcaaGreatDoorRows
import Derived.Test.YtefleapekgbpcaaGreatDoorHTz
import Derived.ProofKit
import Derived.LaidMore
import Derived.OpenShut
import Derived.Stop.Joined
namespace Go.Proofs.YtefleapekgbpcaaGreatDoor.Ld
open Go.ChangeShapes Go.WideShapes Go.ChangeAt Go.WideMaps Go.WideElems Go.RowKit Go.Shelf
set_option linter.unusedVariables false
set_option linter.unusedSimpArgs false
theorem own : ownKnob Tryz.prog.godebug = none := by kernel_rfl
theorem laidOut : laidOutB Tryz.prog = true := by kernel_rfl
def laid1 {H : Type} : List (String × DataW H) := [("math/bits.deBruijn32tab", Rows.laid_math_bits_deBruijn32tab)]
theorem gTab : Tryz.prog.globalNamed "math/bits.deBruijn32tab" = some 2 := by kernel_rfl
theorem tTab : (Tryz.prog.globals[2]?).map (·.type) = some 349 := by kernel_rfl
set_option maxRecDepth 100000 in
theorem of_laid {W : World} (h : laidMetH Tryz.prog laid1 W) : TabAt 2 Lib.deBruijn32tab W ∧ 2 < W.heap.size := by
  rw [MakeChecks.laidMetH_plain _ _ _ (by kernel_rfl)] at h
  obtain ⟨ps, ⟨g0, t0, cs0, f0, p0, q0, hg0, ht0, hv0, hd0, _, _⟩, _, _⟩ := h
  obtain rfl := Option.some.inj (gTab.symm.trans hg0)
  obtain rfl := Option.some.inj (tTab.symm.trans ht0)
  obtain ⟨xs, m1, rfl, hx1, hlen, hn3, hel⟩ := DataW.trod_array Tryz.underlying349 hd0
  have hl : xs.map (fun x => x.1) = Lib.deBruijn32tab.map (fun (n : Nat) => DataW.lit (.int .u8 (n : Int))) := by
    have h1 := (Prod.mk.inj hx1).1
    have h2 : Rows.laid_math_bits_deBruijn32tab = DataW.agg (Lib.deBruijn32tab.map (fun (n : Nat) => (DataW.lit (.int .u8 (n : Int)) : DataW Unit))) := rfl
    rw [h2] at h1
    exact (DataW.agg.inj h1).symm
  have c5 : Tryz.prog.cellsOf 5 = 1 := by kernel_rfl
  refine ⟨fun j hj => ?_, ?_⟩
  · have hj32 : j < 32 := hj
    have he := hel j hj32
    obtain ⟨x, hx⟩ : ∃ x, xs[j]? = some x := ⟨xs[j], List.getElem?_eq_getElem (by omega)⟩
    rw [hx] at he
    have hx1' : (xs.map (fun x => x.1))[j]? = some x.1 := by rw [List.getElem?_map, hx]; rfl
    rw [hl, List.getElem?_map, List.getElem?_eq_getElem hj] at hx1'
    simp only [Option.map_some, Option.some.injEq] at hx1'
    obtain ⟨k, e1, e2, _⟩ := DataW.trod_int Tryz.underlying5 he
    rw [e2] at hx1'
    simp only [DataW.lit.injEq, Lit.int.injEq, true_and] at hx1'
    rw [c5, Nat.mul_one] at e1
    have hc : cs0.toList[j]? = some (.int .u8 k) := by
      have := congrArg (fun l => l[0]?) e1
      simpa [List.getElem?_take, List.getElem?_drop] using this
    have h3 := World.var?_cell hg0 hv0 j
    rw [h3]
    have : cs0[j]? = some (.int .u8 k) := by simpa using hc
    rw [this, ← hx1']
    congr 2
    rw [List.getD_eq_getElem?_getD, List.getElem?_eq_getElem hj]
    rfl
  · have h3 := World.var?_cell hg0 hv0 0
    have hsz : 0 < cs0.size := by
      have c32 : Tryz.prog.cellsOf 349 = 32 := by kernel_rfl
      rw [c32] at hlen
      simpa using (show 0 < cs0.toList.length by omega)
    rw [Array.getElem?_eq_getElem hsz] at h3
    rcases Nat.lt_or_ge 2 W.heap.size with h | h
    · exact h
    · simp only [World.cell?] at h3
      rw [Array.getElem?_eq_none h] at h3
      cases h3
set_option maxRecDepth 100000 in
/-- The door's own heap meets the condition. -/
theorem door_met (os : Os) (args : Array Value) : laidMetH Tryz.prog laid1 ((World.doorLaid Tryz.prog 400 os).forCall (fun _ _ => 0) ⟨#[], args, []⟩).memory :=
  laidMetH_of_parts3 (fuel := 8) (laidMet_of_run' 8 (by kernel_rfl) (by kernel_rfl)) (by kernel_rfl) (by kernel_rfl)
end Go.Proofs.YtefleapekgbpcaaGreatDoor.Ld
