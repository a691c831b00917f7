/- folkmootlaw20.MootBounds: the row: it returns true, and its arguments read as before; under the table that is laid. -/
import Derived.Test.YtefleapekgbpcaaGreatDoorRows
import Derived.Test.YtefleapekgbpcaaGreatDoorHLaidD
import Derived.Test.YtefleapekgbpcaaGreatDoorHAwake20
import Derived.Test.YtefleapekgbpcaaGreatDoorHMootB
import Derived.Test.YtefleapekgbpcaaGreatDoorHJoined
import Derived.WalkKit
import Derived.ProofKit
import Derived.OpenShut
import Derived.ShutString
import Derived.ChangeOld
import Derived.Below
import Derived.SizedLaws
namespace Go.Proofs.YtefleapekgbpcaaGreatDoor.mootBounds
open Go.ChangeShapes Go.WideShapes Go.ChangeAt Go.WideMaps Go.WideElems Go.RowKit
set_option linter.unusedVariables false
theorem agg_of {cs : Array Value} {l : List Value} (h : (Value.agg cs).cells.toList = l) : cs = l.toArray := by
  cases cs
  simpa [Value.cells] using h
theorem len6 {α : Type} : ∀ {l : List α}, l.length = 6 → ∃ a b c d e f, l = [a, b, c, d, e, f]
  | [a, b, c, d, e, f], _ => ⟨a, b, c, d, e, f, rfl⟩
set_option maxRecDepth 100000 in
/-- A configuration's cells. -/
theorem conf_cells {H : Type} {enc : TypeId × Value → H} {W : World} {base : Nat} {spare : Nat → Bool} {held : Bool} {fuel : Nat} {cs : List Value} {x : DataW H × List MemPlace} (h : DataW.trod enc Tryz.prog W base spare held fuel 23 cs = some x) :
    ∃ a b c d e f : Int, cs = [.int .i64 a, .int .i64 b, .int .i64 c, .int .i64 d, .int .i64 e, .int .i64 f] := by
  obtain ⟨xs, n, _, _, hl, hxl, hf⟩ := DataW.trod_struct Tryz.underlying23 h
  have e6 : Tryz.prog.cellsOf 23 = 6 := by kernel_rfl
  have ei : Tryz.prog.cellsOf 3 = 1 := by kernel_rfl
  rw [e6] at hl
  obtain ⟨c0, c1, c2, c3, c4, c5, rfl⟩ := len6 hl
  obtain ⟨x0, x1, x2, x3, x4, x5, rfl⟩ := len6 hxl
  have h0 : DataW.trod enc Tryz.prog W base spare held n 3 (List.take (Tryz.prog.cellsOf 3) [c0, c1, c2, c3, c4, c5]) = some x0 := hf 0 _ rfl
  have h1 : DataW.trod enc Tryz.prog W base spare held n 3 (List.take (Tryz.prog.cellsOf 3) [c1, c2, c3, c4, c5]) = some x1 := hf 1 _ rfl
  have h2 : DataW.trod enc Tryz.prog W base spare held n 3 (List.take (Tryz.prog.cellsOf 3) [c2, c3, c4, c5]) = some x2 := hf 2 _ rfl
  have h3 : DataW.trod enc Tryz.prog W base spare held n 3 (List.take (Tryz.prog.cellsOf 3) [c3, c4, c5]) = some x3 := hf 3 _ rfl
  have h4 : DataW.trod enc Tryz.prog W base spare held n 3 (List.take (Tryz.prog.cellsOf 3) [c4, c5]) = some x4 := hf 4 _ rfl
  have h5 : DataW.trod enc Tryz.prog W base spare held n 3 (List.take (Tryz.prog.cellsOf 3) [c5]) = some x5 := hf 5 _ rfl
  rw [ei] at h0 h1 h2 h3 h4 h5
  obtain ⟨a, ha, _⟩ := DataW.trod_int Tryz.underlying3 h0
  obtain ⟨b, hb, _⟩ := DataW.trod_int Tryz.underlying3 h1
  obtain ⟨c, hc, _⟩ := DataW.trod_int Tryz.underlying3 h2
  obtain ⟨d, hd, _⟩ := DataW.trod_int Tryz.underlying3 h3
  obtain ⟨e, he, _⟩ := DataW.trod_int Tryz.underlying3 h4
  obtain ⟨f, hf', _⟩ := DataW.trod_int Tryz.underlying3 h5
  cases ha; cases hb; cases hc; cases hd; cases he; cases hf'
  exact ⟨a, b, c, d, e, f, rfl⟩
set_option maxRecDepth 100000 in
theorem lifted (os : Os) (started : os.Started) (H : Type) (enc : TypeId × Value → H) :
    ReturnsInHanded {} Tryz.checked os 5 .any (fun w args => (Rows.mootBoundsSpec.pre enc Tryz.prog Tryz.f5 [] false w args ∧ laidMetH Tryz.prog Ld.laid1 w) ∧ sizedMet enc Tryz.prog Tryz.f5 (OpenSpec.ofChange Rows.mootBoundsSpec) false w args)
      (Rows.mootBoundsSpec.post enc Tryz.prog Tryz.f5 false true false false) := by
  refine returnsInHanded_of_change_and (C := Tryz.checked) (X := fun w _ => laidMetH Tryz.prog Ld.laid1 w) (fun _ _ _ hh h => h.of_heap hh) Ld.own started (by kernel_rfl) Tryz.func5
    (ChangeSpec.witness_shaped (enc := enc) (C := Tryz.checked) (os := os) (X := fun w _ => laidMetH Tryz.prog Ld.laid1 w) false (World.doorLaid Tryz.prog 400 os) #[.agg #[.int .i64 0, .int .i64 0, .int .i64 0, .int .i64 0, .int .i64 0, .int .i64 0], .int .u16 0] 8 rfl (World.shaped_of_RefB (by kernel_rfl) (by kernel_rfl)) (by kernel_rfl) (by kernel_rfl) (by kernel_rfl) (Ld.door_met os _)) ?_
  intro W base args ds gs before hval0 hW _ _ hL _
  have hval : ∀ (j : Nat) t v, Tryz.f5.params[j]? = some t → args[j]? = some v → Value.okWide Tryz.prog W .any base t v := hval0
  have hW' := hW
  obtain ⟨p, q, hA0, hV, rfl, hfz, hnd⟩ := hW
  have hA : DataW.TrodAll enc Tryz.prog W 0 (fun _ => true) true Tryz.f5.params.toList args.toList ds p := hA0
  rw [Tryz.params5] at hA hval
  obtain ⟨v0, vs0, d0, ds0, p0, q0, hargs, rfl, rfl, h0, r0⟩ := trodAll_cons hA
  obtain ⟨v1, vs1, d1, ds1, p1, q1, rfl, rfl, rfl, h1, r1⟩ := trodAll_cons r0
  obtain ⟨rfl, rfl, rfl⟩ := trodAll_nil r1
  obtain rfl : args = #[v0, v1] := by cases args; simp_all
  obtain ⟨rfl, rfl⟩ := trodVars_none hV
  have lt0 : ∀ x ∈ p0, x.block < W.heap.size := by obtain ⟨m, hm⟩ := h0; exact DataW.trod_lt m _ _ _ hm
  obtain ⟨cs0, rfl, _⟩ := okWide_struct Tryz.underlying23 (hval 0 23 v0 rfl rfl)
  obtain ⟨n, rfl, rfl, rfl, ok1⟩ := open_int Tryz.underlying36 (hval 1 36 v1 rfl rfl) h1
  have k0 := h0
  obtain ⟨fuel, hm⟩ := k0
  obtain ⟨a, b, c, d, e, f, hcs⟩ := conf_cells hm
  have e0 := agg_of hcs
  subst e0
  obtain ⟨hT, hs⟩ := Ld.of_laid hL
  have hn : 0 ≤ n ∧ n ≤ 65535 := by
    have := ok1
    simp only [Lit.wf, Bool.and_eq_true, decide_eq_true_eq] at this
    have e1 : IntKind.u16.min = 0 := by decide
    have e2 : IntKind.u16.max = 65535 := by decide
    omega
  clear hA0 hval0 hm hcs
  refine (Nw.mootBounds a b c d e f n W hn.1 hn.2 (fun w1 hb => Aexd.awake20_calls (fun j hj => by rw [hb.cell (by exact hs)]; exact hT j hj) (Nat.lt_of_lt_of_le hs hb.size))).mono fun e' W' ⟨he, bel⟩ => ?_
  subst he
  exact ⟨_, rfl, _, _, _, [], _, [], hW', trodAll_mk1 (shut_bool Tryz.underlying4 _), (trodAll_cons_mk (Below.trod Ld.laidOut (by kernel_rfl) (of_decide_eq_true (by kernel_rfl)) h0 bel lt0) (trodAll_cons_mk (shut_int Tryz.underlying36 ok1) trodAll_mk0)), rfl, bel.frame _, fun h => by cases h⟩
theorem closed : joinedFacts Tryz.prog 5 Tryz.f5 Rows.mootBoundsSpec Rows.mootBoundsRow = true := by
  unfold joinedFacts
  rw [head_enter, head_lifts, head_make]
  kernel_rfl
theorem over : Rows.mootBoundsRow.holds Tryz.pinned (OpenSpec.ofChange Rows.mootBoundsSpec) :=
  OpenClaim.holds_of_wide 5 Tryz.f5 rfl rfl rfl rfl rfl rfl rfl ⟨rfl, rfl, rfl, rfl, rfl⟩ rfl rfl rfl rfl rfl (by kernel_rfl) Tryz.func5 closed
    (of_decide_eq_true (by kernel_rfl)) (by unfold Func.isWrapper; first | (rw [if_pos (by decide +kernel)]; kernel_rfl) | (rw [if_neg (by decide +kernel)]; exact ⟨rfl, rfl⟩))
    (fun os started H enc _ => lifted os started H enc)
end Go.Proofs.YtefleapekgbpcaaGreatDoor.mootBounds
