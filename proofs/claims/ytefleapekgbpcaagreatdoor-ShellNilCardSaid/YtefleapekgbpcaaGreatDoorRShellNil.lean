/- folkmootlaw21.ShellNil: the row: it returns true, and its argument reads as before; under the tables that are laid. -/
import Derived.Test.YtefleapekgbpcaaGreatDoorRows
import Derived.Test.YtefleapekgbpcaaGreatDoorHLaidS
import Derived.Test.YtefleapekgbpcaaGreatDoorHAwake21
import Derived.Test.YtefleapekgbpcaaGreatDoorHShNl
import Derived.WalkKit
import Derived.ProofKit
import Derived.OpenShut
import Derived.ShutString
import Derived.ChangeOld
import Derived.Below
import Derived.SizedLaws
import Derived.LaidOnce
namespace Go.Proofs.YtefleapekgbpcaaGreatDoor.shellNil
open Go.ChangeShapes Go.WideShapes Go.ChangeAt Go.WideMaps Go.WideElems Go.RowKit
open Go.ChangeMaps (open_string shut_string)
set_option linter.unusedVariables false
set_option maxRecDepth 100000 in
theorem lifted (os : Os) (started : os.Started) (H : Type) (enc : TypeId × Value → H) :
    ReturnsInHanded {} Tryz.checked os 7 .any (fun w args => (Rows.shellNilSpec.pre enc Tryz.prog Tryz.f7 [] false w args ∧ laidMetH Tryz.prog Ls.laid9 w) ∧ sizedMet enc Tryz.prog Tryz.f7 (OpenSpec.ofChange Rows.shellNilSpec) false w args)
      (Rows.shellNilSpec.post enc Tryz.prog Tryz.f7 false true false false) := by
  refine returnsInHanded_of_change_and (C := Tryz.checked) (X := fun w _ => laidMetH Tryz.prog Ls.laid9 w) (fun _ _ _ hh h => h.of_heap hh) Ld.own started (by kernel_rfl) Tryz.func7
    (ChangeSpec.witness_shaped (enc := enc) (C := Tryz.checked) (os := os) (X := fun w _ => laidMetH Tryz.prog Ls.laid9 w) false (World.laidAll Tryz.prog os Ls.laid9) #[.string ⟨#[]⟩] 8 (World.laidAll_os _ _ _)
      (World.shaped_of_ZipB (by kernel_rfl) (by kernel_rfl)) (by kernel_rfl) (by kernel_rfl) (by kernel_rfl) (Ls.door_met os _)) ?_
  intro W base args ds gs before hval0 hW _ hwt hL _
  have hval : ∀ (j : Nat) t v, Tryz.f7.params[j]? = some t → args[j]? = some v → Value.okWide Tryz.prog W .any base t v := hval0
  have hW' := hW
  obtain ⟨p, q, hA0, hV, rfl, hfz, hnd⟩ := hW
  have hA : DataW.TrodAll enc Tryz.prog W 0 (fun _ => true) true Tryz.f7.params.toList args.toList ds p := hA0
  rw [Tryz.params7] at hA hval
  obtain ⟨v0, d0, rfl, rfl, h0⟩ := trodAll_one hA
  obtain ⟨rfl, rfl⟩ := trodVars_none hV
  obtain ⟨s, rfl, rfl, rfl, hs⟩ := open_string Tryz.underlying9 (hval 0 9 v0 rfl rfl) h0
  simp only [List.append_nil] at hW'
  obtain ⟨hT, hD, hg⟩ := Ls.of_laid hL
  have haw : Shl.Aw W := fun w1 hb => Aexd.awake21_calls (fun j hj => by rw [hb.cell (by exact hg)]; exact hD j hj) (Nat.lt_of_lt_of_le hg hb.size) (hT.below hb)
  have hst : (⟨s.data.toList.toArray⟩ : ByteArray) = s := by cases s; simp
  have hlen : s.data.toList.length ≤ 140737488355328 := Nat.le_trans (sized_string hwt (j := 0) (t := 9) (by rw [Tryz.params7]; rfl) rfl) (by decide)
  have hc := Shl.shellNil s.data.toList hlen W hT haw
  simp only [Shl.str, hst] at hc
  refine hc.mono fun e' W' ⟨he, bel⟩ => ?_
  subst he
  exact ⟨_, rfl, _, _, _, [], [], [], hW', trodAll_mk1 (shut_bool Tryz.underlying4 _), trodAll_mk1 (shut_string Tryz.underlying9 hs), rfl, bel.frame _, fun h => by cases h⟩
end Go.Proofs.YtefleapekgbpcaaGreatDoor.shellNil
