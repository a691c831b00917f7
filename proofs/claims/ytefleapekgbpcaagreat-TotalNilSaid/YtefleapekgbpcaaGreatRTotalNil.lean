/- The row of TotalNil: the whole run by the executor. -/
import Derived.Test.YtefleapekgbpcaaGreatRows
import Derived.Test.YtefleapekgbpcaaGreatHAexz
import Derived.Test.YtefleapekgbpcaaGreatHJoined
import Derived.WalkKit
import Derived.ProofKit
import Derived.OpenShut
import Derived.ShutString
import Derived.ChangeOld
import Derived.Below
import Derived.SizedLaws
namespace Go.Proofs.YtefleapekgbpcaaGreat.totalNil
open Go.ChangeShapes Go.WideShapes Go.ChangeAt Go.RowKit
set_option linter.unusedVariables false
theorem own : ownKnob Tryz.prog.godebug = none := by kernel_rfl
theorem laidOut : laidOutB Tryz.prog = true := by kernel_rfl
theorem agg_of {cs : Array Value} {l : List Value} (h : (Value.agg cs).cells.toList = l) : cs = l.toArray := by
  cases cs
  simpa [Value.cells] using h
theorem len3 {α : Type} : ∀ {l : List α}, l.length = 3 → ∃ a b c, l = [a, b, c]
  | [a, b, c], _ => ⟨a, b, c, rfl⟩
theorem len2 {α : Type} : ∀ {l : List α}, l.length = 2 → ∃ a b, l = [a, b]
  | [a, b], _ => ⟨a, b, rfl⟩
set_option maxRecDepth 100000 in
/-- A view's cells. -/
theorem view_cells {H : Type} {enc : TypeId × Value → H} {W : World} {base : Nat} {spare : Nat → Bool} {held : Bool} {fuel : Nat} {cs : List Value} {x : DataW H × List MemPlace} (h : DataW.trod enc Tryz.prog W base spare held fuel 28 cs = some x) :
    ∃ a b c : Int, cs = [.int .u64 a, .int .i64 b, .int .u16 c] := by
  obtain ⟨xs, n, _, _, hl, hxl, hf⟩ := DataW.trod_struct Tryz.underlying28 h
  have e3 : Tryz.prog.cellsOf 28 = 3 := by kernel_rfl
  have e2 : Tryz.prog.cellsOf 25 = 2 := by kernel_rfl
  have eu : Tryz.prog.cellsOf 23 = 1 := by kernel_rfl
  have ei : Tryz.prog.cellsOf 3 = 1 := by kernel_rfl
  have es : Tryz.prog.cellsOf 26 = 1 := by kernel_rfl
  rw [e3] at hl
  obtain ⟨c0, c1, c2, rfl⟩ := len3 hl
  obtain ⟨x0, x1, rfl⟩ := len2 hxl
  have h0 : DataW.trod enc Tryz.prog W base spare held n 25 (List.take (Tryz.prog.cellsOf 25) [c0, c1, c2]) = some x0 := hf 0 _ rfl
  have h1 : DataW.trod enc Tryz.prog W base spare held n 26 (List.take (Tryz.prog.cellsOf 26) [c2]) = some x1 := hf 1 _ rfl
  rw [e2] at h0
  rw [es] at h1
  simp only [List.take_succ_cons, List.take_zero] at h0 h1
  obtain ⟨ys, m, _, _, hl2, hyl, hg⟩ := DataW.trod_struct Tryz.underlying25 h0
  obtain ⟨y0, y1, rfl⟩ := len2 hyl
  have g0 : DataW.trod enc Tryz.prog W base spare held m 23 (List.take (Tryz.prog.cellsOf 23) [c0, c1]) = some y0 := hg 0 _ rfl
  have g1 : DataW.trod enc Tryz.prog W base spare held m 3 (List.take (Tryz.prog.cellsOf 3) [c1]) = some y1 := hg 1 _ rfl
  rw [eu] at g0
  rw [ei] at g1
  simp only [List.take_succ_cons, List.take_zero] at g0 g1
  obtain ⟨a, ha, _⟩ := DataW.trod_int Tryz.underlying23 g0
  obtain ⟨b, hb, _⟩ := DataW.trod_int Tryz.underlying3 g1
  obtain ⟨c, hc, _⟩ := DataW.trod_int Tryz.underlying26 h1
  cases ha; cases hb; cases hc
  exact ⟨a, b, c, rfl⟩
set_option maxRecDepth 100000 in
theorem lifted (os : Os) (started : os.Started) (H : Type) (enc : TypeId × Value → H) :
    ReturnsInHanded {} Tryz.checked os 3 .any (Rows.totalNilSpec.pre6 enc Tryz.prog Tryz.f3 Rows.totalNilRow.domain false) (Rows.totalNilSpec.post enc Tryz.prog Tryz.f3 false true false false) := by
  refine returnsInHanded_of_change_sized (C := Tryz.checked) own started (by kernel_rfl) Tryz.func3
    (ChangeSpec.witness6 (enc := enc) (C := Tryz.checked) false ⟨#[], #[.int .i64 0, .slice none 0 0, .agg #[.int .u64 0, .int .i64 0, .int .u16 0]], []⟩ 8 (by kernel_rfl) (by kernel_rfl) (by kernel_rfl) (by kernel_rfl)) ?_
  intro W base args ds gs before hval0 hW hcnd hsz0 _
  have hval : ∀ (j : Nat) t v, Tryz.f3.params[j]? = some t → args[j]? = some v → Value.okWide Tryz.prog W .any base t v := hval0
  have hW' := hW
  obtain ⟨p, q, hA0, hV, rfl, hfz, hnd⟩ := hW
  have hA : DataW.TrodAll enc Tryz.prog W 0 (fun _ => true) true Tryz.f3.params.toList args.toList ds p := hA0
  rw [Tryz.params3] at hA hval
  obtain ⟨v0, vs0, d0, ds0, p0, q0, hargs, rfl, rfl, h0, r0⟩ := trodAll_cons hA
  obtain ⟨v1, vs1, d1, ds1, p1, q1, rfl, rfl, rfl, h1, r1⟩ := trodAll_cons r0
  obtain ⟨v2, vs2, d2, ds2, p2, q2, rfl, rfl, rfl, h2, r2⟩ := trodAll_cons r1
  obtain ⟨rfl, rfl, rfl⟩ := trodAll_nil r2
  obtain rfl : args = #[v0, v1, v2] := by cases args; simp_all
  obtain ⟨rfl, rfl⟩ := trodVars_none hV
  have lt0 : ∀ x ∈ p0, x.block < W.heap.size := by obtain ⟨m, hm⟩ := h0; exact DataW.trod_lt m _ _ _ hm
  have lt1 : ∀ x ∈ p1, x.block < W.heap.size := by obtain ⟨m, hm⟩ := h1; exact DataW.trod_lt m _ _ _ hm
  have lt2 : ∀ x ∈ p2, x.block < W.heap.size := by obtain ⟨m, hm⟩ := h2; exact DataW.trod_lt m _ _ _ hm
  obtain ⟨n, rfl⟩ := okWide_int Tryz.underlying3 (hval 0 3 v0 rfl rfl)
  obtain ⟨cs2, rfl, _⟩ := okWide_struct Tryz.underlying28 (hval 2 28 v2 rfl rfl)
  have k2 := h2
  obtain ⟨fuel, hm⟩ := k2
  obtain ⟨a, b, c, hcs⟩ := view_cells hm
  have e2 := agg_of hcs
  subst e2
  clear hA0 hval0 hsz0 hm hcs
  refine (Aexz.nilCalls n a b c v1 W).mono fun e W' ⟨he, bel⟩ => ?_
  subst he
  exact ⟨_, rfl, _, _, _, [], _, [], hW', trodAll_mk1 (shut_bool Tryz.underlying4 _), (trodAll_cons_mk (Below.trod laidOut (by kernel_rfl) (of_decide_eq_true (by kernel_rfl)) h0 bel lt0) (trodAll_cons_mk (Below.trod laidOut (by kernel_rfl) (of_decide_eq_true (by kernel_rfl)) h1 bel lt1) (trodAll_cons_mk (Below.trod laidOut (by kernel_rfl) (of_decide_eq_true (by kernel_rfl)) h2 bel lt2) trodAll_mk0))), rfl, bel.frame _, fun h => by cases h⟩
theorem closed : joinedFacts Tryz.prog 3 Tryz.f3 Rows.totalNilSpec Rows.totalNilRow = true := by
  unfold joinedFacts
  rw [head_enter, head_lifts, head_make]
  kernel_rfl
theorem over : Rows.totalNilRow.holds Tryz.pinned (OpenSpec.ofChange Rows.totalNilSpec) :=
  OpenClaim.holds_of_wide 3 Tryz.f3 rfl rfl rfl rfl rfl rfl rfl ⟨rfl, rfl, rfl, rfl, rfl⟩ rfl rfl rfl rfl rfl (by kernel_rfl) Tryz.func3 closed
    (of_decide_eq_true (by kernel_rfl)) (by unfold Func.isWrapper; first | (rw [if_pos (by decide +kernel)]; kernel_rfl) | (rw [if_neg (by decide +kernel)]; exact ⟨rfl, rfl⟩))
    (fun os started H enc _ => lifted os started H enc)
theorem proved : Rows.TotalNilSaid := over
end Go.Proofs.YtefleapekgbpcaaGreat.totalNil
