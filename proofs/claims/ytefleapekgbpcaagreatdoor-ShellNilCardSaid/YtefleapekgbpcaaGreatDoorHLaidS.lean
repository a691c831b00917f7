/- The tables of layer 21's rows in their variables; a world that lays them. -/
import Derived.Test.YtefleapekgbpcaaGreatDoorRows
import Derived.Test.YtefleapekgbpcaaGreatDoorHShC
import Derived.Test.YtefleapekgbpcaaGreatDoorHLaidD
import Derived.ProofKit
import Derived.LaidMore
import Derived.OpenShut
import Derived.Stop.Joined
import Derived.Lib.LaidU8
import Derived.ChangeArms
import Derived.Lay
namespace Go.Proofs.YtefleapekgbpcaaGreatDoor.Ls
open Go.ChangeShapes Go.WideShapes Go.ChangeAt Go.WideMaps Go.WideElems Go.RowKit Go.Shelf Go.Lib Go.Proofs.YtefleapekgbpcaaGreatDoor.Shl
set_option linter.unusedVariables false
set_option linter.unusedSimpArgs false
def laid9 : List (String × DataW Unit) := [("math/bits.deBruijn32tab", Rows.laid_math_bits_deBruijn32tab), ("math/bits.deBruijn64tab", Rows.laid_math_bits_deBruijn64tab), ("internal/strconv.uint64pow10", Rows.laid_internal_strconv_uint64pow10), ("unicode/utf8.acceptRanges", Rows.laid_unicode_utf8_acceptRanges), ("strconv.ErrRange", Rows.laid_strconv_ErrRange), ("strconv.ErrSyntax", Rows.laid_strconv_ErrSyntax), ("folkmoot/shell.words", Rows.laid_folkmoot_shell_words), ("folkmoot/shell.numbers", Rows.laid_folkmoot_shell_numbers), ("unicode/utf8.first", Rows.laid_unicode_utf8_first)]
/-- A table of numbers. -/
theorem tab {W : World} {n : String} {d : DataW Unit} {g t e : Nat} {len : Nat} {k : IntKind} (zs : List Int) (h : VarReads Tryz.prog W n d) (hd : d = tabData k zs) (hg : Tryz.prog.globalNamed n = some g) (hty : (Tryz.prog.globals[g]?).map (·.type) = some t)
    (ht : Tryz.prog.underlying t = some (.array len e)) (he : Tryz.prog.underlying e = some (.int k)) (hce : Tryz.prog.cellsOf e = 1) (hct : Tryz.prog.cellsOf t = len) : TabIs Tryz.prog W n k zs := by
  obtain ⟨g', t', cs, fuel, p, h1, h2, h3, h4⟩ := h
  obtain rfl := Option.some.inj (hg.symm.trans h1)
  obtain rfl := Option.some.inj (hty.symm.trans h2)
  subst hd
  unfold TabIs
  rw [h3, ← cells_of_tab ht he hce hct h4]
/-- A table of texts. -/
theorem texts {W : World} {n : String} {g t e len : Nat} (zs : List (List UInt8)) (h : VarReads Tryz.prog W n (.agg (zs.map fun z => .lit (.string z)))) (hg : Tryz.prog.globalNamed n = some g) (hty : (Tryz.prog.globals[g]?).map (·.type) = some t)
    (ht : Tryz.prog.underlying t = some (.array len e)) (he : Tryz.prog.underlying e = some .string) (hce : Tryz.prog.cellsOf e = 1) (hct : Tryz.prog.cellsOf t = len) (hl : zs.length = len) : ∀ k (hk : k < zs.length), W.cell? ⟨g, k, none⟩ = some (str zs[k]) := by
  obtain ⟨g', t', cs, fuel, p, h1, h2, h3, h4⟩ := h
  obtain rfl := Option.some.inj (hg.symm.trans h1)
  obtain rfl := Option.some.inj (hty.symm.trans h2)
  obtain ⟨xs, m1, rfl, hx1, hlen, hn3, hel⟩ := DataW.trod_array ht h4
  have hx : xs.map (fun x => x.1) = zs.map fun z => (DataW.lit (.string z) : DataW Unit) := (DataW.agg.inj (Prod.mk.inj hx1).1).symm
  intro k hk
  have hel := hel k (by omega)
  obtain ⟨x, hxk⟩ : ∃ x, xs[k]? = some x := ⟨xs[k], List.getElem?_eq_getElem (by omega)⟩
  rw [hxk] at hel
  have hz : (xs.map (fun x => x.1))[k]? = some x.1 := by rw [List.getElem?_map, hxk]; rfl
  rw [hx, List.getElem?_map, List.getElem?_eq_getElem hk] at hz
  simp only [Option.map_some, Option.some.injEq] at hz
  obtain ⟨s, e1, e2, _⟩ := DataW.trod_string he hel
  rw [e2] at hz
  simp only [DataW.lit.injEq, Lit.string.injEq] at hz
  rw [hce, Nat.mul_one] at e1
  have hc : cs.toList[k]? = some (.string s) := by
    have := congrArg (fun l => l[0]?) e1
    simpa [List.getElem?_take, List.getElem?_drop] using this
  rw [World.var?_cell h1 h3 k]
  have : cs[k]? = some (.string s) := by simpa using hc
  rw [this, hz]
/-- An error. -/
theorem err {W : World} {n nm : String} {d : DataW Unit} {g t : Nat} {ms : Array (String × TypeId)} (h : VarReads Tryz.prog W n (.iface nm d)) (hg : Tryz.prog.globalNamed n = some g) (hty : (Tryz.prog.globals[g]?).map (·.type) = some t) (ht : Tryz.prog.underlying t = some (.interface ms)) :
    ∃ tp p, W.cell? ⟨g, 0, none⟩ = some (.iface tp p) := by
  obtain ⟨g', t', cs, fuel, p, h1, h2, h3, h4⟩ := h
  obtain rfl := Option.some.inj (hg.symm.trans h1)
  obtain rfl := Option.some.inj (hty.symm.trans h2)
  cases fuel with
  | zero => cases h4
  | succ f =>
    rw [DataW.trod_step] at h4
    unfold DataW.trodStep at h4
    rw [ht] at h4
    cases cs with
    | mk l =>
    match l, h4 with
    | [], h4 => simp at h4
    | [v], h4 =>
      cases v with
      | iface u x => exact ⟨u, x, by rw [World.var?_cell h1 h3 0]; rfl⟩
      | _ => simp at h4
    | a :: b :: l, h4 => simp at h4
theorem plain9 : (laid9.all fun x => x.2.handleName?.isNone) = true := by kernel_rfl
set_option maxRecDepth 100000 in
/-- What the condition says of the tables. -/
theorem of_laid {W : World} (h : laidMetH Tryz.prog laid9 W) : Tabs W ∧ TabAt 2 Lib.deBruijn32tab W ∧ 2 < W.heap.size := by
  rw [MakeChecks.laidMetH_plain _ _ _ plain9] at h
  have m : ∀ i (hi : i < laid9.length), VarReads Tryz.prog W laid9[i].1 laid9[i].2 := fun i hi => Lib.laidMet.reads h (List.getElem_mem hi)
  have t0 : TabIs Tryz.prog W "math/bits.deBruijn32tab" .u8 (Lib.deBruijn32tab.map fun (n : Nat) => (n : Int)) := tab _ (m 0 (by decide)) (by kernel_rfl) (g := 2) (t := 349) (e := 5) (len := 32) (by kernel_rfl) (by kernel_rfl) Tryz.underlying349 Tryz.underlying5 (by kernel_rfl) (by kernel_rfl)
  have t2 : TabIs Tryz.prog W "internal/strconv.uint64pow10" .u64 Lib.pow10Tab := tab _ (m 2 (by decide)) (by kernel_rfl) (g := 4) (t := 395) (e := 33) (len := 20) (by kernel_rfl) (by kernel_rfl) Tryz.underlying395 Tryz.underlying33 (by kernel_rfl) (by kernel_rfl)
  have t7 : TabIs Tryz.prog W "folkmoot/shell.numbers" .i64 [1, 1, 1, 1, 1, 2, 2, 2, 1] := tab _ (m 7 (by decide)) (by kernel_rfl) (g := 1) (t := 143) (e := 3) (len := 9) (by kernel_rfl) (by kernel_rfl) Tryz.underlying143 Tryz.underlying3 (by kernel_rfl) (by kernel_rfl)
  have t6 := texts [word 0, word 1, word 2, word 3, word 4, word 5, word 6, word 7, word 8] (m 6 (by decide)) (g := 0) (t := 142) (e := 9) (len := 9) (by kernel_rfl) (by kernel_rfl) Tryz.underlying142 Tryz.underlying9 (by kernel_rfl) (by kernel_rfl) rfl
  have t4 := err (m 4 (by decide)) (g := 6) (t := 246) (by kernel_rfl) (by kernel_rfl) Tryz.underlying246
  have t5 := err (m 5 (by decide)) (g := 5) (t := 246) (by kernel_rfl) (by kernel_rfl) Tryz.underlying246
  have g0 : Tryz.prog.globalNamed "math/bits.deBruijn32tab" = some 2 := by kernel_rfl
  have g7 : Tryz.prog.globalNamed "folkmoot/shell.numbers" = some 1 := by kernel_rfl
  refine ⟨⟨t2, t5, t4, fun k hk => ?_, fun k hk => ?_⟩, fun j hj => ?_, Lib.lt_of_cell (t0.cell g0 0 (by decide))⟩
  · match k, hk with
    | 0, _ => exact t6 0 (by decide)
    | 1, _ => exact t6 1 (by decide)
    | 2, _ => exact t6 2 (by decide)
    | 3, _ => exact t6 3 (by decide)
    | 4, _ => exact t6 4 (by decide)
    | 5, _ => exact t6 5 (by decide)
    | 6, _ => exact t6 6 (by decide)
    | 7, _ => exact t6 7 (by decide)
    | 8, _ => exact t6 8 (by decide)
  · match k, hk with
    | 0, _ => exact t7.cell g7 0 (by decide)
    | 1, _ => exact t7.cell g7 1 (by decide)
    | 2, _ => exact t7.cell g7 2 (by decide)
    | 3, _ => exact t7.cell g7 3 (by decide)
    | 4, _ => exact t7.cell g7 4 (by decide)
    | 5, _ => exact t7.cell g7 5 (by decide)
    | 6, _ => exact t7.cell g7 6 (by decide)
    | 7, _ => exact t7.cell g7 7 (by decide)
    | 8, _ => exact t7.cell g7 8 (by decide)
  · rw [t0.cell g0 j (by simpa using hj)]
    simp [List.getD, hj]
/-- A world that lays the tables. -/
theorem door_met (os : Os) (args : Array Value) : laidMetH Tryz.prog laid9 ((World.laidAll Tryz.prog os laid9).forCall (fun _ _ => 0) ⟨#[], args, []⟩).memory := by
  rw [MakeChecks.laidMetH_plain _ _ _ plain9]
  exact laidMet_laidAll _ (by kernel_rfl) (by kernel_rfl)
end Go.Proofs.YtefleapekgbpcaaGreatDoor.Ls
