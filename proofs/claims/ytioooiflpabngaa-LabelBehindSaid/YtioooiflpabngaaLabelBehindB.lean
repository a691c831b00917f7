/- Parts: PAllx20, PAllx15, PAllx21, HCompareD, HCompare, HIter, HSortA, HSortB, HSort, PAllx39, ETwice, HOpen, HBehindA, HClone, HBehind, PAllx34, HAwake05, PAllx42, QLabelBehind, HJoined, RLabelBehind. -/
import Derived.Test.YtioooiflpabngaaLabelBehindA
import Derived.Sort.Grow
import Derived.RangeFuncNested
import Derived.RangeFuncBound
import Derived.RangeFuncCalls
import Derived.RangeFuncLeaves
import Derived.Shelf.Abstract
import Derived.Shelf.RegionOpen
import Derived.WalkKit
import Derived.OwnWalkIn
import Derived.Maps.OwnIn
import Derived.TacticsInMore
import Derived.LoopNIn
import Derived.LoopIn
import Derived.Outline
import Derived.Test.YtioooiflpabngaaLay
import Derived.Lib.SlicesCompact
import Derived.Deep.Slices
import Derived.SizedLaws
import Derived.Carry
import Derived.Maps.OwnOps
import Derived.WalkSpells
import Derived.Test.YtioooiflpabngaaRows
import Derived.ProofKit
import Derived.OpenShut
import Derived.ShutString
import Derived.ChangeOld
import Derived.Below
set_option linter.unusedVariables false
set_option linter.unusedSimpArgs false
namespace Go.Proofs.Ytioooiflpabngaa.PAll
open Go.RowKit Go.Proofs.YtioooiflpabngaaW.PrintWords Go.Proofs.YtioooiflpabngaaW.PrintLast Go.Proofs.YtioooiflpabngaaW.PrintMore
attribute [local go_sem] max2_int min2_int max_two min_two max_three min_three max_four min_four   -- for this text's walks alone
set_option linter.unusedVariables false
set_option linter.unusedSimpArgs false

/-! ### ident_Compare: function 86 -/
def ident_Compare.f (a0_0 : Int) (a0_1 : Int) (a1_0 : Int) (a1_1 : Int) : Option (Int) := (cmp_Compare_uint64.f a0_0 a1_0).bind fun t199 => (if t199 = 0 then ((cmp_Compare_int.f a0_1 a1_1).bind fun t200 => (some t200)) else (some t199))
set_option maxHeartbeats 8000000 in
set_option maxRecDepth 100000 in
theorem ident_Compare.calls (a0_0 : Int) (a0_1 : Int) (a1_0 : Int) (a1_1 : Int) (r : Int) (w : World) (h : ident_Compare.f a0_0 a0_1 a1_0 a1_1 = some r) :
    Calls Try.prog 86 #[.agg #[.int .u64 a0_0, .int .i64 a0_1], .agg #[.int .u64 a1_0, .int .i64 a1_1]] w fun e w' => e = .returned (.int .i64 r) ∧ Below w.heap.size w w' := by
  have hu25 := Try.underlying25
  have HB := Aside0.mk (Below.refl w.heap.size w)
  have H : ((cmp_Compare_uint64.f a0_0 a1_0).bind fun t199 => (if t199 = 0 then ((cmp_Compare_int.f a0_1 a1_1).bind fun t200 => (some t200)) else (some t199))) = some r := h
  clear h
  replace H := Option.bind_eq_some_iff.mp H
  obtain ⟨t199, A30, H⟩ := H
  replace H : (if t199 = 0 then ((cmp_Compare_int.f a0_1 a1_1).bind fun t200 => (some t200)) else (some t199)) = some r := H
  have A3 := Aside0.mk A30
  clear A30
  by_cases c4 : t199 = 0
  · rw [if_pos c4] at H
    have c4b0 : (t199 == 0) = true := beq_iff_eq.mpr c4
    have c4b1 : (t199 != 0) = false := bne_eq_false_iff_eq.mpr c4
    clear c4
    replace H := Option.bind_eq_some_iff.mp H
    obtain ⟨t200, A50, H⟩ := H
    replace H : (some t200) = some r := H
    have A5 := Aside0.mk A50
    clear A50
    obtain rfl := Option.some.inj H
    go_enter Try.func86, Try.ntmps86
    go_wp2_with (first | ((with_reducible refine gate_dst (N := 2) rfl ?_); refine box_event ?hg (N := 2) ?hd (cs := #[.int .u64 a0_0, .int .i64 a0_1]) (t := 25) ?hr ?_; (case hd => rfl); (case hg => rfl); (case hr => first | (go_simp; done) | (go_simp; rfl)); intro gb197 hg w6 hbox hb; have n0_ := Aside0.mk (below_step (by repeat (first | (with_reducible first | exact HB.out | apply below_alloc | apply pw_below_drewN | apply below_drew1) | exact HB.out)) hb); have n1_ := Aside0.mk (hbox); have n2_ := Aside0.mk ((by rw [hg]; exact (below_size (by repeat (first | (with_reducible first | exact HB.out | apply below_alloc | apply pw_below_drewN | apply below_drew1) | exact HB.out))) : w.heap.size ≤ gb197)); have n3_ := Aside0.mk ((by rw [hg]; exact (below_size (by repeat (first | (with_reducible first | exact HB.out | apply below_alloc | apply pw_below_drewN | apply below_drew1) | exact HB.out))) : w.heap.size ≤ gb197)); clear HB; have HB := n0_; have BK197 := n1_; have GW197 := n2_; have GE197 := n3_; clear n0_ n1_ n2_ n3_; clear hb hbox hg) | ((with_reducible refine gate_dst (N := 3) rfl ?_); refine box_event ?hg (N := 3) ?hd (cs := #[.int .u64 a1_0, .int .i64 a1_1]) (t := 25) ?hr ?_; (case hd => rfl); (case hg => rfl); (case hr => first | (go_simp; done) | (go_simp; rfl)); intro gb198 hg w7 hbox hb; have n0_ := Aside0.mk (blk_below (g := gb197) (o := .cells #[.int .u64 a0_0, .int .i64 a0_1] 25 (0, 0)) (by (with_reducible repeat (first | refine blk_drewN ?_ _ | refine blk_drew ?_ | refine blk_alloc ?_ _)); exact BK197.out) hb); have n1_ := Aside0.mk (below_step (by repeat (first | (with_reducible first | exact HB.out | apply below_alloc | apply pw_below_drewN | apply below_drew1 | refine below_set ?_ GE197.out) | exact HB.out)) hb); have n2_ := Aside0.mk (hbox); have n3_ := Aside0.mk ((by rw [hg]; exact (below_size (by repeat (first | (with_reducible first | exact HB.out | apply below_alloc | apply pw_below_drewN | apply below_drew1 | refine below_set ?_ GE197.out) | exact HB.out))) : w.heap.size ≤ gb198)); have n4_ := Aside0.mk ((by rw [hg]; exact (below_size (by repeat (first | (with_reducible first | exact HB.out | apply below_alloc | apply pw_below_drewN | apply below_drew1 | refine below_set ?_ GE197.out) | exact HB.out))) : w.heap.size ≤ gb198)); have n5_ := Aside0.mk ((by rw [hg]; exact Nat.ne_of_lt (blk_lt (g := gb197) (o := .cells #[.int .u64 a0_0, .int .i64 a0_1] 25 (0, 0)) (by (with_reducible repeat (first | refine blk_drewN ?_ _ | refine blk_drew ?_ | refine blk_alloc ?_ _)); exact BK197.out)) : gb197 ≠ gb198)); have n6_ := Aside0.mk ((by rw [hg]; exact Nat.ne_of_gt (blk_lt (g := gb197) (o := .cells #[.int .u64 a0_0, .int .i64 a0_1] 25 (0, 0)) (by (with_reducible repeat (first | refine blk_drewN ?_ _ | refine blk_drew ?_ | refine blk_alloc ?_ _)); exact BK197.out)) : gb198 ≠ gb197)); clear BK197; clear HB; have BK197 := n0_; have HB := n1_; have BK198 := n2_; have GW198 := n3_; have GE198 := n4_; have NB197_198 := n5_; have NB198_197 := n6_; clear n0_ n1_ n2_ n3_ n4_ n5_ n6_; clear hb hbox hg; have hnb8 := NB197_198.out; have hnc8 := NB198_197.out; have hcz9_0 : w7.cell? ⟨gb197, 0, none⟩ = some (.int .u64 a0_0) := (blk_cell BK197.out 0).trans rfl; have hcz9_1 : w7.cell? ⟨gb197, 1, none⟩ = some (.int .i64 a0_1) := (blk_cell BK197.out 1).trans rfl; have hfz9_0 := blk_frozen BK197.out 0; have hfz9_1 := blk_frozen BK197.out 1; have hcz10_0 : w7.cell? ⟨gb198, 0, none⟩ = some (.int .u64 a1_0) := (blk_cell BK198.out 0).trans rfl; have hcz10_1 : w7.cell? ⟨gb198, 1, none⟩ = some (.int .i64 a1_1) := (blk_cell BK198.out 1).trans rfl; have hfz10_0 := blk_frozen BK198.out 0; have hfz10_1 := blk_frozen BK198.out 1) | ((with_reducible refine gate_callee (f := 87) rfl ?_); refine goesL_ (some 10) rfl rfl Try.func87 (by kernel_rfl) rfl #[.int .u64 a0_0, .int .u64 a1_0] rfl (by (try simp only [List.map_toArray, List.map_cons, List.map_nil]); first | done | rfl | (simp only [List.length_drop, List.length_take]; rfl)) ?_; (with_reducible refine (cmp_Compare_uint64.calls a0_0 a1_0 t199 _ A3.out).mono ?_); rintro e w' ⟨rfl, ⟨nd, rfl⟩⟩; refine ⟨_, rfl, ?_⟩) | ((with_reducible refine gate_callee (f := 88) rfl ?_); refine goesL_ (some 18) rfl rfl Try.func88 (by kernel_rfl) rfl #[.int .i64 a0_1, .int .i64 a1_1] rfl (by (try simp only [List.map_toArray, List.map_cons, List.map_nil]); first | done | rfl | (simp only [List.length_drop, List.length_take]; rfl)) ?_; (with_reducible refine (cmp_Compare_int.calls a0_1 a1_1 t200 _ A5.out).mono ?_); rintro e w' ⟨rfl, ⟨nd, rfl⟩⟩; refine ⟨_, rfl, ?_⟩))
    go_ret
    exact ⟨by first | rfl | (simp [errW_none, errW_some] <;> rfl) | (simp [*, errW_none, errW_some] <;> rfl), by repeat (first | (with_reducible first | exact HB.out | apply below_alloc | apply pw_below_drewN | apply below_drew1 | refine below_set ?_ GE197.out | refine below_set ?_ GE198.out) | exact HB.out)⟩
  · rw [if_neg c4] at H
    have c4b0 : (t199 == 0) = false := beq_eq_false_iff_ne.mpr c4
    have c4b1 : (t199 != 0) = true := bne_iff_ne.mpr c4
    obtain rfl := Option.some.inj H
    go_enter Try.func86, Try.ntmps86
    go_wp2_with (first | ((with_reducible refine gate_dst (N := 2) rfl ?_); refine box_event ?hg (N := 2) ?hd (cs := #[.int .u64 a0_0, .int .i64 a0_1]) (t := 25) ?hr ?_; (case hd => rfl); (case hg => rfl); (case hr => first | (go_simp; done) | (go_simp; rfl)); intro gb197 hg w11 hbox hb; have n0_ := Aside0.mk (below_step (by repeat (first | (with_reducible first | exact HB.out | apply below_alloc | apply pw_below_drewN | apply below_drew1) | exact HB.out)) hb); have n1_ := Aside0.mk (hbox); have n2_ := Aside0.mk ((by rw [hg]; exact (below_size (by repeat (first | (with_reducible first | exact HB.out | apply below_alloc | apply pw_below_drewN | apply below_drew1) | exact HB.out))) : w.heap.size ≤ gb197)); have n3_ := Aside0.mk ((by rw [hg]; exact (below_size (by repeat (first | (with_reducible first | exact HB.out | apply below_alloc | apply pw_below_drewN | apply below_drew1) | exact HB.out))) : w.heap.size ≤ gb197)); clear HB; have HB := n0_; have BK197 := n1_; have GW197 := n2_; have GE197 := n3_; clear n0_ n1_ n2_ n3_; clear hb hbox hg) | ((with_reducible refine gate_dst (N := 3) rfl ?_); refine box_event ?hg (N := 3) ?hd (cs := #[.int .u64 a1_0, .int .i64 a1_1]) (t := 25) ?hr ?_; (case hd => rfl); (case hg => rfl); (case hr => first | (go_simp; done) | (go_simp; rfl)); intro gb198 hg w12 hbox hb; have n0_ := Aside0.mk (blk_below (g := gb197) (o := .cells #[.int .u64 a0_0, .int .i64 a0_1] 25 (0, 0)) (by (with_reducible repeat (first | refine blk_drewN ?_ _ | refine blk_drew ?_ | refine blk_alloc ?_ _)); exact BK197.out) hb); have n1_ := Aside0.mk (below_step (by repeat (first | (with_reducible first | exact HB.out | apply below_alloc | apply pw_below_drewN | apply below_drew1 | refine below_set ?_ GE197.out) | exact HB.out)) hb); have n2_ := Aside0.mk (hbox); have n3_ := Aside0.mk ((by rw [hg]; exact (below_size (by repeat (first | (with_reducible first | exact HB.out | apply below_alloc | apply pw_below_drewN | apply below_drew1 | refine below_set ?_ GE197.out) | exact HB.out))) : w.heap.size ≤ gb198)); have n4_ := Aside0.mk ((by rw [hg]; exact (below_size (by repeat (first | (with_reducible first | exact HB.out | apply below_alloc | apply pw_below_drewN | apply below_drew1 | refine below_set ?_ GE197.out) | exact HB.out))) : w.heap.size ≤ gb198)); have n5_ := Aside0.mk ((by rw [hg]; exact Nat.ne_of_lt (blk_lt (g := gb197) (o := .cells #[.int .u64 a0_0, .int .i64 a0_1] 25 (0, 0)) (by (with_reducible repeat (first | refine blk_drewN ?_ _ | refine blk_drew ?_ | refine blk_alloc ?_ _)); exact BK197.out)) : gb197 ≠ gb198)); have n6_ := Aside0.mk ((by rw [hg]; exact Nat.ne_of_gt (blk_lt (g := gb197) (o := .cells #[.int .u64 a0_0, .int .i64 a0_1] 25 (0, 0)) (by (with_reducible repeat (first | refine blk_drewN ?_ _ | refine blk_drew ?_ | refine blk_alloc ?_ _)); exact BK197.out)) : gb198 ≠ gb197)); clear BK197; clear HB; have BK197 := n0_; have HB := n1_; have BK198 := n2_; have GW198 := n3_; have GE198 := n4_; have NB197_198 := n5_; have NB198_197 := n6_; clear n0_ n1_ n2_ n3_ n4_ n5_ n6_; clear hb hbox hg; have hnb13 := NB197_198.out; have hnc13 := NB198_197.out; have hcz14_0 : w12.cell? ⟨gb197, 0, none⟩ = some (.int .u64 a0_0) := (blk_cell BK197.out 0).trans rfl; have hcz14_1 : w12.cell? ⟨gb197, 1, none⟩ = some (.int .i64 a0_1) := (blk_cell BK197.out 1).trans rfl; have hfz14_0 := blk_frozen BK197.out 0; have hfz14_1 := blk_frozen BK197.out 1; have hcz15_0 : w12.cell? ⟨gb198, 0, none⟩ = some (.int .u64 a1_0) := (blk_cell BK198.out 0).trans rfl; have hcz15_1 : w12.cell? ⟨gb198, 1, none⟩ = some (.int .i64 a1_1) := (blk_cell BK198.out 1).trans rfl; have hfz15_0 := blk_frozen BK198.out 0; have hfz15_1 := blk_frozen BK198.out 1) | ((with_reducible refine gate_callee (f := 87) rfl ?_); refine goesL_ (some 10) rfl rfl Try.func87 (by kernel_rfl) rfl #[.int .u64 a0_0, .int .u64 a1_0] rfl (by (try simp only [List.map_toArray, List.map_cons, List.map_nil]); first | done | rfl | (simp only [List.length_drop, List.length_take]; rfl)) ?_; (with_reducible refine (cmp_Compare_uint64.calls a0_0 a1_0 t199 _ A3.out).mono ?_); rintro e w' ⟨rfl, ⟨nd, rfl⟩⟩; refine ⟨_, rfl, ?_⟩))
    go_ret
    exact ⟨by first | rfl | (simp [errW_none, errW_some] <;> rfl) | (simp [*, errW_none, errW_some] <;> rfl), by repeat (first | (with_reducible first | exact HB.out | apply below_alloc | apply pw_below_drewN | apply below_drew1 | refine below_set ?_ GE197.out | refine below_set ?_ GE198.out) | exact HB.out)⟩

end Go.Proofs.Ytioooiflpabngaa.PAll

namespace Go.Proofs.Ytioooiflpabngaa.PAll
open Go.RowKit Go.Proofs.YtioooiflpabngaaW.PrintWords Go.Proofs.YtioooiflpabngaaW.PrintLast Go.Proofs.YtioooiflpabngaaW.PrintMore
attribute [local go_sem] max2_int min2_int max_two min_two max_three min_three max_four min_four   -- for this text's walks alone
set_option linter.unusedVariables false
set_option linter.unusedSimpArgs false

/-! ### cmp_Or_int: function 85 -/
def cmp_Or_int.l0 : Nat → Int → List Int → Int → Int → Option (Int)
  | 0, _, _, _, _ => none
  | k + 1, x3, x6, x7, x8 => if x8 < x7 then (if 0 ≤ x8 then (if x8 < (x6.length : Int) then (if (rd x6 x8) = x3 then (cmp_Or_int.l0 k x3 x6 x7 (wrap64 (x8 + 1))) else (some (rd x6 x8))) else (none)) else (none)) else (some x3)
def cmp_Or_int.f (k : Nat) (l0 : List Int) : Option (Int) := cmp_Or_int.l0 k 0 l0 (l0.length : Int) 0
theorem cmp_Or_int.mono_l : ∀ k, (∀ y0 y1 y2 y3, LeO (cmp_Or_int.l0 k y0 y1 y2 y3) (cmp_Or_int.l0 (k + 1) y0 y1 y2 y3))
  | 0 => fun _ _ _ _ r h => by simp [cmp_Or_int.l0] at h
  | k + 1 => by
    have ih0 := cmp_Or_int.mono_l k
    · intro y0 y1 y2 y3
      unfold cmp_Or_int.l0
      repeat' first
      | (with_reducible exact ih0 _ _ _ _)
      | (with_reducible exact LeO.refl _)
      | (with_reducible exact LeO.none _)
      | (with_reducible refine LeO.ite ?_ ?_)
      | (with_reducible refine LeO.bind ?_ (fun _ => ?_))
      | exact ih0 _ _ _ _
      | exact LeO.none _
      | refine LeO.ite ?_ ?_
      | refine LeO.bind ?_ (fun _ => ?_)
theorem cmp_Or_int.mono : ∀ a0 k, LeO (cmp_Or_int.f k a0) (cmp_Or_int.f (k + 1) a0) := by
  intro a0 k
  have ih0 := cmp_Or_int.mono_l k
  unfold cmp_Or_int.f
  repeat' first
      | (with_reducible exact ih0 _ _ _ _)
      | (with_reducible exact LeO.refl _)
      | (with_reducible exact LeO.none _)
      | (with_reducible refine LeO.ite ?_ ?_)
      | (with_reducible refine LeO.bind ?_ (fun _ => ?_))
      | exact ih0 _ _ _ _
      | exact LeO.none _
      | refine LeO.ite ?_ ?_
      | refine LeO.bind ?_ (fun _ => ?_)
set_option maxHeartbeats 8000000 in
set_option maxRecDepth 100000 in
theorem cmp_Or_int.calls (k : Nat) (A0 : Option Addr) (c0 : Nat) (l0 : List Int) (r : Int) (w : World) (hr0 : Kd.C (Kd.int .i64) w A0 l0.length l0) (hc0 : l0.length ≤ c0) (h : cmp_Or_int.f k l0 = some r) :
    Calls Try.prog 85 #[.slice A0 l0.length c0] w fun e w' => e = .returned (.int .i64 r) ∧ Drawn0 w w' := by
  have HR0 := Aside0.mk hr0
  have HC0 := Aside0.mk hc0
  clear hr0 hc0
  have H : (cmp_Or_int.l0 k 0 l0 (l0.length : Int) 0) = some r := h
  clear h
  have H' := Aside0.mk H
  clear H
  go_enter Try.func85, Try.ntmps85
  go_wp2
  go_loopg [8] k (fun kq v8 w' => ∃ (x8_1 : Int), v8 = .int .i64 x8_1 ∧ Aside0 (cmp_Or_int.l0 kq 0 l0 (l0.length : Int) x8_1 = some r) ∧ Aside0 (kq ≤ k) ∧ Drawn0 w w')
  case atStart => exact ⟨(0), (by first | rfl | (simp; done) | (simp [*]; done)), H', ⟨Nat.le_refl _⟩, by repeat (first | exact Drawn0.refl _ | apply Drawn0.step)⟩
  case round =>
    clear H'
    obtain ⟨x8_1, rfl, HA, HK1, ⟨m1, rfl⟩⟩ := hrel
    cases gk with
    | zero => exact absurd HA.out (by simp [cmp_Or_int.l0])
    | succ k1 =>
      have H := HA.out
      clear HA
      simp only [cmp_Or_int.l0] at H
      by_cases c2 : x8_1 < (l0.length : Int)
      · rw [if_pos c2] at H
        have c2b0 : decide (x8_1 < (l0.length : Int)) = true := decide_eq_true c2
        clear c2
        by_cases c3 : 0 ≤ x8_1
        · rw [if_pos c3] at H
          have c3b0 : decide (0 ≤ x8_1) = true := decide_eq_true c3
          clear c3
          by_cases c4 : x8_1 < (l0.length : Int)
          · rw [if_pos c4] at H
            have c4b0 : decide (x8_1 < (l0.length : Int)) = true := decide_eq_true c4
            clear c4
            by_cases c5 : (rd l0 x8_1) = 0
            · rw [if_pos c5] at H
              have c5b0 : ((rd l0 x8_1) == 0) = true := beq_iff_eq.mpr c5
              have c5b1 : ((rd l0 x8_1) != 0) = false := bne_eq_false_iff_eq.mpr c5
              clear c5
              have H' := Aside0.mk H
              clear H
              have p192 : 0 ≤ (x8_1 : Int) := of_decide_eq_true (by first | (with_reducible assumption) | assumption)
              have q192 : x8_1 < (l0.length : Int) := of_decide_eq_true (by first | (with_reducible assumption) | assumption)
              obtain ⟨ad192, e192, hx192_0⟩ := Kd.at_int HR0.out x8_1 p192 q192
              cases e192
              replace p192 := eq_true p192
              replace q192 := eq_true q192
              go_wp2
              go_roundg k1
              case measure => have := HK1.out; omega
              case rel => exact ⟨(wrap64 (x8_1 + 1)), (by first | rfl | (simp; done) | (simp [*]; done)), H', ⟨by have := HK1.out; omega⟩, by repeat (first | exact Drawn0.refl _ | apply Drawn0.step)⟩
            · rw [if_neg c5] at H
              have c5b0 : ((rd l0 x8_1) == 0) = false := beq_eq_false_iff_ne.mpr c5
              have c5b1 : ((rd l0 x8_1) != 0) = true := bne_iff_ne.mpr c5
              obtain rfl := Option.some.inj H
              have p192 : 0 ≤ (x8_1 : Int) := of_decide_eq_true (by first | (with_reducible assumption) | assumption)
              have q192 : x8_1 < (l0.length : Int) := of_decide_eq_true (by first | (with_reducible assumption) | assumption)
              obtain ⟨ad192, e192, hx192_0⟩ := Kd.at_int HR0.out x8_1 p192 q192
              cases e192
              replace p192 := eq_true p192
              replace q192 := eq_true q192
              go_wp2
              go_ret
              exact ⟨by first | rfl | (simp; done) | (simp [*]; done), by repeat (first | exact Drawn0.refl _ | apply Drawn0.step)⟩
          · rw [if_neg c4] at H
            exact absurd H (by simp)
        · rw [if_neg c3] at H
          exact absurd H (by simp)
      · rw [if_neg c2] at H
        have c2b0 : decide (x8_1 < (l0.length : Int)) = false := decide_eq_false c2
        clear c2
        obtain rfl := Option.some.inj H
        go_wp2
        go_ret
        exact ⟨by first | rfl | (simp; done) | (simp [*]; done), by repeat (first | exact Drawn0.refl _ | apply Drawn0.step)⟩

end Go.Proofs.Ytioooiflpabngaa.PAll

namespace Go.Proofs.Ytioooiflpabngaa.PAll
open Go.RowKit Go.Proofs.YtioooiflpabngaaW.PrintWords Go.Proofs.YtioooiflpabngaaW.PrintLast Go.Proofs.YtioooiflpabngaaW.PrintMore
attribute [local go_sem] max2_int min2_int max_two min_two max_three min_three max_four min_four   -- for this text's walks alone
set_option linter.unusedVariables false
set_option linter.unusedSimpArgs false

/-! ### label_Compare: function 42 -/
def label_Compare.f (k : Nat) (a0_0 : Int) (a0_1 : Int) (a0_2 : Int) (a0_3 : Int) (a1_0 : Int) (a1_1 : Int) (a1_2 : Int) (a1_3 : Int) : Option (Int) := (ident_Compare.f a0_0 a0_1 a1_0 a1_1).bind fun t203 => ((cmp_Compare_uint64.f a0_2 a1_2).bind fun t204 => ((cmp_Compare_int.f a0_3 a1_3).bind fun t205 => ((cmp_Or_int.f k (([t203, t204, t205] : List Int))).bind fun t209 => (some t209))))
theorem label_Compare.mono : ∀ a0 a1 a2 a3 a4 a5 a6 a7 k, LeO (label_Compare.f k a0 a1 a2 a3 a4 a5 a6 a7) (label_Compare.f (k + 1) a0 a1 a2 a3 a4 a5 a6 a7) := by
  intro a0 a1 a2 a3 a4 a5 a6 a7 k
  unfold label_Compare.f
  repeat' first
      | (with_reducible exact cmp_Or_int.mono _ _)
      | (with_reducible exact LeO.refl _)
      | (with_reducible exact LeO.none _)
      | (with_reducible refine LeO.ite ?_ ?_)
      | (with_reducible refine LeO.bind ?_ (fun _ => ?_))
      | exact cmp_Or_int.mono _ _
      | exact LeO.none _
      | refine LeO.ite ?_ ?_
      | refine LeO.bind ?_ (fun _ => ?_)
def label_Compare.T1 : Bool × List (List Nat × List Nat) := (true, [([], []), ([0], [0]), ([], []), ([2], [2]), ([1, 3], [1, 3]), ([], []), ([5], [5]), ([], []), ([7], [7]), ([6, 8, 4], [6, 8]), ([], []), ([10], [10]), ([], []), ([12], [12]), ([11, 13, 9], [11, 13]), ([4, 9, 14], [4, 9, 14]), ([15, 14], [15]), ([16, 16, 0, 1, 2, 3, 4, 5, 6, 7, 8, 9, 10, 11, 12, 13, 14, 15, 16], [16])])
def label_Compare.B1 : List Nat := [0, 1, 0, 4, 15, 0, 32, 0, 128, 511, 0, 1024, 0, 4096, 16383, 32767, 65535, 131071]
theorem label_Compare.tab1 : rtab .any (opsOf Try.f42 1) = label_Compare.T1 := by kernel_rfl
theorem label_Compare.bits1 : waitsOk label_Compare.T1.2 label_Compare.B1 = true := by kernel_rfl
set_option maxHeartbeats 8000000 in
set_option maxRecDepth 100000 in
theorem label_Compare.calls (k : Nat) (a0_0 : Int) (a0_1 : Int) (a0_2 : Int) (a0_3 : Int) (a1_0 : Int) (a1_1 : Int) (a1_2 : Int) (a1_3 : Int) (r : Int) (w : World) (h : label_Compare.f k a0_0 a0_1 a0_2 a0_3 a1_0 a1_1 a1_2 a1_3 = some r) :
    Calls Try.prog 42 #[.agg #[.int .u64 a0_0, .int .i64 a0_1, .int .u64 a0_2, .int .i64 a0_3], .agg #[.int .u64 a1_0, .int .i64 a1_1, .int .u64 a1_2, .int .i64 a1_3]] w fun e w' => e = .returned (.int .i64 r) ∧ Below w.heap.size w w' := by
  have hu27 := Try.underlying27
  have hu25 := Try.underlying25
  have HB := Aside0.mk (Below.refl w.heap.size w)
  have H : ((ident_Compare.f a0_0 a0_1 a1_0 a1_1).bind fun t203 => ((cmp_Compare_uint64.f a0_2 a1_2).bind fun t204 => ((cmp_Compare_int.f a0_3 a1_3).bind fun t205 => ((cmp_Or_int.f k (([t203, t204, t205] : List Int))).bind fun t209 => (some t209))))) = some r := h
  clear h
  replace H := Option.bind_eq_some_iff.mp H
  obtain ⟨t203, A30, H⟩ := H
  replace H : ((cmp_Compare_uint64.f a0_2 a1_2).bind fun t204 => ((cmp_Compare_int.f a0_3 a1_3).bind fun t205 => ((cmp_Or_int.f k (([t203, t204, t205] : List Int))).bind fun t209 => (some t209)))) = some r := H
  have A3 := Aside0.mk A30
  clear A30
  replace H := Option.bind_eq_some_iff.mp H
  obtain ⟨t204, A40, H⟩ := H
  replace H : ((cmp_Compare_int.f a0_3 a1_3).bind fun t205 => ((cmp_Or_int.f k (([t203, t204, t205] : List Int))).bind fun t209 => (some t209))) = some r := H
  have A4 := Aside0.mk A40
  clear A40
  replace H := Option.bind_eq_some_iff.mp H
  obtain ⟨t205, A50, H⟩ := H
  replace H : ((cmp_Or_int.f k (([t203, t204, t205] : List Int))).bind fun t209 => (some t209)) = some r := H
  have A5 := Aside0.mk A50
  clear A50
  obtain ⟨y206, hy206⟩ : ∃ y_ : List Int, y_ = (([t203, t204, t205] : List Int)) := ⟨_, rfl⟩
  replace H : ((cmp_Or_int.f k y206).bind fun t209 => (some t209)) = some r := by first | (rw [hy206]; with_reducible exact H) | (have H2_ := (Option.bind_some _ _).symm.trans H; rw [hy206]; with_reducible exact H2_) | (have H2_ := (Option.bind_some _ _).symm.trans H; with_reducible exact H2_) | with_reducible exact H | (rw [hy206]; exact H) | exact H
  have Ny206 := Aside0.mk hy206
  clear hy206
  replace H := Option.bind_eq_some_iff.mp H
  obtain ⟨t209, A60, H⟩ := H
  replace H : (some t209) = some r := H
  have A6 := Aside0.mk A60
  clear A60
  obtain rfl := Option.some.inj H
  go_enter Try.func42, Try.ntmps42
  try go_wp2_with (first | ((with_reducible refine gate_dst (N := 2) rfl ?_); refine box_event ?hg (N := 2) ?hd (cs := #[.int .u64 a0_0, .int .i64 a0_1, .int .u64 a0_2, .int .i64 a0_3]) (t := 27) ?hr ?_; (case hd => rfl); (case hg => rfl); (case hr => first | (go_simp; done) | (go_simp; rfl)); intro gb201 hg w7 hbox hb; have n0_ := Aside0.mk (below_step (by repeat (first | (with_reducible first | exact HB.out | apply below_alloc | apply pw_below_drewN | apply below_drew1) | exact HB.out)) hb); have n1_ := Aside0.mk (hbox); have n2_ := Aside0.mk ((by rw [hg]; exact (below_size (by repeat (first | (with_reducible first | exact HB.out | apply below_alloc | apply pw_below_drewN | apply below_drew1) | exact HB.out))) : w.heap.size ≤ gb201)); have n3_ := Aside0.mk ((by rw [hg]; exact (below_size (by repeat (first | (with_reducible first | exact HB.out | apply below_alloc | apply pw_below_drewN | apply below_drew1) | exact HB.out))) : w.heap.size ≤ gb201)); clear HB; have HB := n0_; have BK201 := n1_; have GW201 := n2_; have GE201 := n3_; clear n0_ n1_ n2_ n3_; clear hb hbox hg) | ((with_reducible refine gate_dst (N := 3) rfl ?_); refine box_event ?hg (N := 3) ?hd (cs := #[.int .u64 a1_0, .int .i64 a1_1, .int .u64 a1_2, .int .i64 a1_3]) (t := 27) ?hr ?_; (case hd => rfl); (case hg => rfl); (case hr => first | (go_simp; done) | (go_simp; rfl)); intro gb202 hg w8 hbox hb; have n0_ := Aside0.mk (blk_below (g := gb201) (o := .cells #[.int .u64 a0_0, .int .i64 a0_1, .int .u64 a0_2, .int .i64 a0_3] 27 (0, 0)) (by (with_reducible repeat (first | refine blk_drewN ?_ _ | refine blk_drew ?_ | refine blk_alloc ?_ _)); exact BK201.out) hb); have n1_ := Aside0.mk (below_step (by repeat (first | (with_reducible first | exact HB.out | apply below_alloc | apply pw_below_drewN | apply below_drew1 | refine below_set ?_ GE201.out) | exact HB.out)) hb); have n2_ := Aside0.mk (hbox); have n3_ := Aside0.mk ((by rw [hg]; exact (below_size (by repeat (first | (with_reducible first | exact HB.out | apply below_alloc | apply pw_below_drewN | apply below_drew1 | refine below_set ?_ GE201.out) | exact HB.out))) : w.heap.size ≤ gb202)); have n4_ := Aside0.mk ((by rw [hg]; exact (below_size (by repeat (first | (with_reducible first | exact HB.out | apply below_alloc | apply pw_below_drewN | apply below_drew1 | refine below_set ?_ GE201.out) | exact HB.out))) : w.heap.size ≤ gb202)); have n5_ := Aside0.mk ((by rw [hg]; exact Nat.ne_of_lt (blk_lt (g := gb201) (o := .cells #[.int .u64 a0_0, .int .i64 a0_1, .int .u64 a0_2, .int .i64 a0_3] 27 (0, 0)) (by (with_reducible repeat (first | refine blk_drewN ?_ _ | refine blk_drew ?_ | refine blk_alloc ?_ _)); exact BK201.out)) : gb201 ≠ gb202)); have n6_ := Aside0.mk ((by rw [hg]; exact Nat.ne_of_gt (blk_lt (g := gb201) (o := .cells #[.int .u64 a0_0, .int .i64 a0_1, .int .u64 a0_2, .int .i64 a0_3] 27 (0, 0)) (by (with_reducible repeat (first | refine blk_drewN ?_ _ | refine blk_drew ?_ | refine blk_alloc ?_ _)); exact BK201.out)) : gb202 ≠ gb201)); clear BK201; clear HB; have BK201 := n0_; have HB := n1_; have BK202 := n2_; have GW202 := n3_; have GE202 := n4_; have NB201_202 := n5_; have NB202_201 := n6_; clear n0_ n1_ n2_ n3_ n4_ n5_ n6_; clear hb hbox hg))
  have n0_ := Aside0.mk (blk_drew BK201.out)
  have n1_ := Aside0.mk (blk_drew BK202.out)
  have n2_ := Aside0.mk (below_drew1 HB.out)
  clear BK201
  clear BK202
  clear HB
  have BK201 := n0_
  have BK202 := n1_
  have HB := n2_
  clear n0_ n1_ n2_
  refine start_ (n := 18) (S := fun w' => w'.cell? ⟨gb201, 0, none⟩ = some (.int .u64 a0_0) ∧ w'.cell? ⟨gb201, 1, none⟩ = some (.int .i64 a0_1) ∧ w'.cell? ⟨gb201, 2, none⟩ = some (.int .u64 a0_2) ∧ w'.cell? ⟨gb201, 3, none⟩ = some (.int .i64 a0_3) ∧ w'.cell? ⟨gb202, 0, none⟩ = some (.int .u64 a1_0) ∧ w'.cell? ⟨gb202, 1, none⟩ = some (.int .i64 a1_1) ∧ w'.cell? ⟨gb202, 2, none⟩ = some (.int .u64 a1_2) ∧ w'.cell? ⟨gb202, 3, none⟩ = some (.int .i64 a1_3)) (ds := []) #[false, false, false, false, false, false, false, false, false, false, false, false, false, false, false, false, false, false] (by kernel_rfl) rfl rfl ⟨(blk_cell BK201.out 0).trans rfl, (blk_cell BK201.out 1).trans rfl, (blk_cell BK201.out 2).trans rfl, (blk_cell BK201.out 3).trans rfl, (blk_cell BK202.out 0).trans rfl, (blk_cell BK202.out 1).trans rfl, (blk_cell BK202.out 2).trans rfl, (blk_cell BK202.out 3).trans rfl⟩ (fun hHeld => ?_); refine with_tabW label_Compare.tab1 label_Compare.bits1 (fun HT_ HW_ => ?_)
  generalize w8.drew = w9 at BK201 BK202 HB hHeld ⊢
  refine pure_ (i := 0) (N := some 5) (v := ?_) (a' := ?_) #[true, false, false, false, false, false, false, false, false, false, false, false, false, false, false, false, false, false] rfl rfl (any_of HT_.out (by kernel_rfl)) (fun _ _ _ h => h) (Or.inl ⟨by rfl, ?_⟩) ?_ ?_
  rotate_left
  · intro w'
    go_simp
    with_reducible rfl
  rotate_left
  · simp only [Act.put, List.setIfInBounds_toArray, List.set_cons_zero, List.set_cons_succ, i64_w, i32_w]
    rfl
  refine pure_ (i := 2) (N := some 7) (v := ?_) (a' := ?_) #[true, false, true, false, false, false, false, false, false, false, false, false, false, false, false, false, false, false] rfl rfl (any_of HT_.out (by kernel_rfl)) (fun _ _ _ h => h) (Or.inl ⟨by rfl, ?_⟩) ?_ ?_
  rotate_left
  · intro w'
    go_simp
    with_reducible rfl
  rotate_left
  · simp only [Act.put, List.setIfInBounds_toArray, List.set_cons_zero, List.set_cons_succ, i64_w, i32_w]
    rfl
  refine pure_ (i := 5) (N := some 10) (v := ?_) (a' := ?_) #[true, false, true, false, false, true, false, false, false, false, false, false, false, false, false, false, false, false] rfl rfl (any_of HT_.out (by kernel_rfl)) (fun _ _ _ h => h) (Or.inl ⟨by rfl, ?_⟩) ?_ ?_
  rotate_left
  · intro w'
    go_simp
    with_reducible rfl
  rotate_left
  · simp only [Act.put, List.setIfInBounds_toArray, List.set_cons_zero, List.set_cons_succ, i64_w, i32_w]
    rfl
  refine pure_ (i := 7) (N := some 12) (v := ?_) (a' := ?_) #[true, false, true, false, false, true, false, true, false, false, false, false, false, false, false, false, false, false] rfl rfl (any_of HT_.out (by kernel_rfl)) (fun _ _ _ h => h) (Or.inl ⟨by rfl, ?_⟩) ?_ ?_
  rotate_left
  · intro w'
    go_simp
    with_reducible rfl
  rotate_left
  · simp only [Act.put, List.setIfInBounds_toArray, List.set_cons_zero, List.set_cons_succ, i64_w, i32_w]
    rfl
  refine pure_ (i := 10) (N := some 15) (v := ?_) (a' := ?_) #[true, false, true, false, false, true, false, true, false, false, true, false, false, false, false, false, false, false] rfl rfl (any_of HT_.out (by kernel_rfl)) (fun _ _ _ h => h) (Or.inl ⟨by rfl, ?_⟩) ?_ ?_
  rotate_left
  · intro w'
    go_simp
    with_reducible rfl
  rotate_left
  · simp only [Act.put, List.setIfInBounds_toArray, List.set_cons_zero, List.set_cons_succ, i64_w, i32_w]
    rfl
  refine pure_ (i := 12) (N := some 17) (v := ?_) (a' := ?_) #[true, false, true, false, false, true, false, true, false, false, true, false, true, false, false, false, false, false] rfl rfl (any_of HT_.out (by kernel_rfl)) (fun _ _ _ h => h) (Or.inl ⟨by rfl, ?_⟩) ?_ ?_
  rotate_left
  · intro w'
    go_simp
    with_reducible rfl
  rotate_left
  · simp only [Act.put, List.setIfInBounds_toArray, List.set_cons_zero, List.set_cons_succ, i64_w, i32_w]
    rfl
  refine take_ (i := 1) (N := some 6) (v := ?_) (a' := ?_) #[true, true, true, false, false, true, false, true, false, false, true, false, true, false, false, false, false, false] rfl rfl (take_ofW HT_.out HW_.out (by kernel_rfl)) (fun _ _ _ h => h) (Or.inl ⟨by rfl, ?_⟩) hHeld ?_ ?_
  rotate_left
  · rintro w' ⟨s0, s1, s2, s3, s4, s5, s6, s7⟩
    go_simp
    with_reducible rfl
  rotate_left
  · simp only [Act.put, List.setIfInBounds_toArray, List.set_cons_zero, List.set_cons_succ, i64_w, i32_w]
    rfl
  refine take_ (i := 3) (N := some 8) (v := ?_) (a' := ?_) #[true, true, true, true, false, true, false, true, false, false, true, false, true, false, false, false, false, false] rfl rfl (take_ofW HT_.out HW_.out (by kernel_rfl)) (fun _ _ _ h => h) (Or.inl ⟨by rfl, ?_⟩) hHeld ?_ ?_
  rotate_left
  · rintro w' ⟨s0, s1, s2, s3, s4, s5, s6, s7⟩
    go_simp
    with_reducible rfl
  rotate_left
  · simp only [Act.put, List.setIfInBounds_toArray, List.set_cons_zero, List.set_cons_succ, i64_w, i32_w]
    rfl
  refine take_ (i := 6) (N := some 11) (v := ?_) (a' := ?_) #[true, true, true, true, false, true, true, true, false, false, true, false, true, false, false, false, false, false] rfl rfl (take_ofW HT_.out HW_.out (by kernel_rfl)) (fun _ _ _ h => h) (Or.inl ⟨by rfl, ?_⟩) hHeld ?_ ?_
  rotate_left
  · rintro w' ⟨s0, s1, s2, s3, s4, s5, s6, s7⟩
    go_simp
    with_reducible rfl
  rotate_left
  · simp only [Act.put, List.setIfInBounds_toArray, List.set_cons_zero, List.set_cons_succ, i64_w, i32_w]
    rfl
  refine take_ (i := 8) (N := some 13) (v := ?_) (a' := ?_) #[true, true, true, true, false, true, true, true, true, false, true, false, true, false, false, false, false, false] rfl rfl (take_ofW HT_.out HW_.out (by kernel_rfl)) (fun _ _ _ h => h) (Or.inl ⟨by rfl, ?_⟩) hHeld ?_ ?_
  rotate_left
  · rintro w' ⟨s0, s1, s2, s3, s4, s5, s6, s7⟩
    go_simp
    with_reducible rfl
  rotate_left
  · simp only [Act.put, List.setIfInBounds_toArray, List.set_cons_zero, List.set_cons_succ, i64_w, i32_w]
    rfl
  refine take_ (i := 11) (N := some 16) (v := ?_) (a' := ?_) #[true, true, true, true, false, true, true, true, true, false, true, true, true, false, false, false, false, false] rfl rfl (take_ofW HT_.out HW_.out (by kernel_rfl)) (fun _ _ _ h => h) (Or.inl ⟨by rfl, ?_⟩) hHeld ?_ ?_
  rotate_left
  · rintro w' ⟨s0, s1, s2, s3, s4, s5, s6, s7⟩
    go_simp
    with_reducible rfl
  rotate_left
  · simp only [Act.put, List.setIfInBounds_toArray, List.set_cons_zero, List.set_cons_succ, i64_w, i32_w]
    rfl
  refine take_ (i := 13) (N := some 18) (v := ?_) (a' := ?_) #[true, true, true, true, false, true, true, true, true, false, true, true, true, true, false, false, false, false] rfl rfl (take_ofW HT_.out HW_.out (by kernel_rfl)) (fun _ _ _ h => h) (Or.inl ⟨by rfl, ?_⟩) hHeld ?_ ?_
  rotate_left
  · rintro w' ⟨s0, s1, s2, s3, s4, s5, s6, s7⟩
    go_simp
    with_reducible rfl
  rotate_left
  · simp only [Act.put, List.setIfInBounds_toArray, List.set_cons_zero, List.set_cons_succ, i64_w, i32_w]
    rfl
  refine one_ (i := 4) (N := some 9) #[true, true, true, true, true, true, true, true, true, false, true, true, true, true, false, false, false, false] rfl rfl (one_of HT_.out (by kernel_rfl)) (by decide) (fun K hK => ?_)
  refine goes_ Try.func86 (by kernel_rfl) rfl #[.agg #[.int .u64 a0_0, .int .i64 a0_1], .agg #[.int .u64 a1_0, .int .i64 a1_1]] (by rfl) rfl rfl (by (try simp only [List.map_toArray, List.map_cons, List.map_nil]); first | done | rfl | (simp only [List.length_drop, List.length_take]; rfl)) ?_
  with_reducible refine (ident_Compare.calls a0_0 a0_1 a1_0 a1_1 t203 _ A3.out).mono ?_
  rintro e w10 ⟨rfl, hb⟩
  refine ⟨_, rfl, ?_⟩
  have n0_ := Aside0.mk (blk_below (g := gb201) (o := .cells #[.int .u64 a0_0, .int .i64 a0_1, .int .u64 a0_2, .int .i64 a0_3] 27 (0, 0)) (by (with_reducible repeat (first | refine blk_drewN ?_ _ | refine blk_drew ?_ | refine blk_alloc ?_ _)); exact BK201.out) hb)
  have n1_ := Aside0.mk (blk_below (g := gb202) (o := .cells #[.int .u64 a1_0, .int .i64 a1_1, .int .u64 a1_2, .int .i64 a1_3] 27 (0, 0)) (by (with_reducible repeat (first | refine blk_drewN ?_ _ | refine blk_drew ?_ | refine blk_alloc ?_ _)); exact BK202.out) hb)
  have n2_ := Aside0.mk (below_step (by repeat (first | (with_reducible first | exact HB.out | apply below_alloc | apply pw_below_drewN | apply below_drew1 | refine below_set ?_ GE201.out | refine below_set ?_ GE202.out) | exact HB.out)) hb)
  clear BK201
  clear BK202
  clear HB
  have BK201 := n0_
  have BK202 := n1_
  have HB := n2_
  clear n0_ n1_ n2_
  (try clear hb)
  (try clear hb2)
  (try clear hk)
  (try clear hi)
  refine hK.out _ _ ⟨(blk_cell BK201.out 0).trans rfl, (blk_cell BK201.out 1).trans rfl, (blk_cell BK201.out 2).trans rfl, (blk_cell BK201.out 3).trans rfl, (blk_cell BK202.out 0).trans rfl, (blk_cell BK202.out 1).trans rfl, (blk_cell BK202.out 2).trans rfl, (blk_cell BK202.out 3).trans rfl⟩ (fun hHeld => ?_)
  clear hK K
  refine norm_ (a' := ?_) ?_ ?_
  rotate_left
  · show Act.put _ (some 9) _ = _
    simp only [Act.put, List.setIfInBounds_toArray, List.set_cons_zero, List.set_cons_succ, i64_w, i32_w]
    rfl
  refine one_ (i := 9) (N := some 14) #[true, true, true, true, true, true, true, true, true, true, true, true, true, true, false, false, false, false] rfl rfl (one_of HT_.out (by kernel_rfl)) (by decide) (fun K hK => ?_)
  refine goes_ Try.func87 (by kernel_rfl) rfl #[.int .u64 a0_2, .int .u64 a1_2] (by rfl) rfl rfl (by (try simp only [List.map_toArray, List.map_cons, List.map_nil]); first | done | rfl | (simp only [List.length_drop, List.length_take]; rfl)) ?_
  with_reducible refine (cmp_Compare_uint64.calls a0_2 a1_2 t204 _ A4.out).mono ?_
  rintro e w' ⟨rfl, ⟨nd, rfl⟩⟩
  refine ⟨_, rfl, ?_⟩
  refine hK.out _ _ ⟨(blk_cell BK201.out 0).trans rfl, (blk_cell BK201.out 1).trans rfl, (blk_cell BK201.out 2).trans rfl, (blk_cell BK201.out 3).trans rfl, (blk_cell BK202.out 0).trans rfl, (blk_cell BK202.out 1).trans rfl, (blk_cell BK202.out 2).trans rfl, (blk_cell BK202.out 3).trans rfl⟩ (fun hHeld => ?_)
  clear hK K
  refine norm_ (a' := ?_) ?_ ?_
  rotate_left
  · show Act.put _ (some 14) _ = _
    simp only [Act.put, List.setIfInBounds_toArray, List.set_cons_zero, List.set_cons_succ, i64_w, i32_w]
    rfl
  refine one_ (i := 14) (N := some 19) #[true, true, true, true, true, true, true, true, true, true, true, true, true, true, true, false, false, false] rfl rfl (one_of HT_.out (by kernel_rfl)) (by decide) (fun K hK => ?_)
  refine goes_ Try.func88 (by kernel_rfl) rfl #[.int .i64 a0_3, .int .i64 a1_3] (by rfl) rfl rfl (by (try simp only [List.map_toArray, List.map_cons, List.map_nil]); first | done | rfl | (simp only [List.length_drop, List.length_take]; rfl)) ?_
  with_reducible refine (cmp_Compare_int.calls a0_3 a1_3 t205 _ A5.out).mono ?_
  rintro e w' ⟨rfl, ⟨nd, rfl⟩⟩
  refine ⟨_, rfl, ?_⟩
  refine hK.out _ _ ⟨(blk_cell BK201.out 0).trans rfl, (blk_cell BK201.out 1).trans rfl, (blk_cell BK201.out 2).trans rfl, (blk_cell BK201.out 3).trans rfl, (blk_cell BK202.out 0).trans rfl, (blk_cell BK202.out 1).trans rfl, (blk_cell BK202.out 2).trans rfl, (blk_cell BK202.out 3).trans rfl⟩ (fun hHeld => ?_)
  clear hK K
  refine norm_ (a' := ?_) ?_ ?_
  rotate_left
  · show Act.put _ (some 19) _ = _
    simp only [Act.put, List.setIfInBounds_toArray, List.set_cons_zero, List.set_cons_succ, i64_w, i32_w]
    rfl
  refine one_ (i := 15) (N := some 20) #[true, true, true, true, true, true, true, true, true, true, true, true, true, true, true, true, false, false] rfl rfl (one_of HT_.out (by kernel_rfl)) (by decide) (fun K hK => ?_)
  refine Kd.R_lit_step (Kd.int .i64) _ 3 ?hg (N := 20) ?hd (xs := ([t203, t204, t205] : List Int)) (inner := [.int .i64 t203, .int .i64 t204, .int .i64 t205]) (ok := fun _ => True) (okp := fun _ => True) ?hr ?hp (fun _ hk => hk) trivial (Below.refl _ _) (Nat.le_refl _) (by simp) ?_; (case hd => rfl); (case hg => rfl); (case hr => first | (go_simp; done) | (go_simp; rfl)); (case hp => exact (Reps.one (show Kd.M (Kd.int .i64) _ _ _ t203 [.int .i64 t203] from rfl) (Reps.one (show Kd.M (Kd.int .i64) _ _ _ t204 [.int .i64 t204] from rfl) (Reps.one (show Kd.M (Kd.int .i64) _ _ _ t205 [.int .i64 t205] from rfl) (Reps.none _ _)))))
  intro v207 w11 ho12 hb hg_ hnew_
  clear hg_ hnew_
  (first | rw [← Ny206.out] at ho12 | (simp only [Int.reduceToNat] at ho12; rw [← Ny206.out] at ho12))
  have n0_ := Aside0.mk (Kd.R_lower ho12 (below_size (by repeat (first | (with_reducible first | exact HB.out | apply below_alloc | apply pw_below_drewN | apply below_drew1 | refine below_set ?_ GE201.out | refine below_set ?_ GE202.out) | exact HB.out))))
  have n1_ := Aside0.mk (blk_below (g := gb201) (o := .cells #[.int .u64 a0_0, .int .i64 a0_1, .int .u64 a0_2, .int .i64 a0_3] 27 (0, 0)) (by (with_reducible repeat (first | refine blk_drewN ?_ _ | refine blk_drew ?_ | refine blk_alloc ?_ _)); exact BK201.out) hb)
  have n2_ := Aside0.mk (blk_below (g := gb202) (o := .cells #[.int .u64 a1_0, .int .i64 a1_1, .int .u64 a1_2, .int .i64 a1_3] 27 (0, 0)) (by (with_reducible repeat (first | refine blk_drewN ?_ _ | refine blk_drew ?_ | refine blk_alloc ?_ _)); exact BK202.out) hb)
  have n3_ := Aside0.mk (below_step (by repeat (first | (with_reducible first | exact HB.out | apply below_alloc | apply pw_below_drewN | apply below_drew1 | refine below_set ?_ GE201.out | refine below_set ?_ GE202.out) | exact HB.out)) hb)
  clear BK201
  clear BK202
  clear HB
  have HO208 := n0_
  have BK201 := n1_
  have BK202 := n2_
  have HB := n3_
  clear n0_ n1_ n2_ n3_
  clear hb ho12
  obtain ⟨Ao13, co13, eo13⟩ := Kd.R_slice HO208.out
  (first | subst eo13 | (injection eo13 with f1_ f2_ f3_; have f4_ := f1_.symm; have f5_ := f3_.symm; clear f1_ f2_ f3_; subst f4_; subst f5_))
  refine hK.out _ _ ⟨(blk_cell BK201.out 0).trans rfl, (blk_cell BK201.out 1).trans rfl, (blk_cell BK201.out 2).trans rfl, (blk_cell BK201.out 3).trans rfl, (blk_cell BK202.out 0).trans rfl, (blk_cell BK202.out 1).trans rfl, (blk_cell BK202.out 2).trans rfl, (blk_cell BK202.out 3).trans rfl⟩ (fun hHeld => ?_)
  clear hK K
  refine norm_ (a' := ?_) ?_ ?_
  rotate_left
  · show Act.put _ (some 20) _ = _
    simp only [Act.put, List.setIfInBounds_toArray, List.set_cons_zero, List.set_cons_succ, i64_w, i32_w]
    rfl
  refine one_ (i := 16) (N := some 21) #[true, true, true, true, true, true, true, true, true, true, true, true, true, true, true, true, true, false] rfl rfl (one_of HT_.out (by kernel_rfl)) (by decide) (fun K hK => ?_)
  refine goes_ Try.func85 (by kernel_rfl) rfl #[.slice Ao13 y206.length co13] (by rfl) rfl rfl (by (try simp only [List.map_toArray, List.map_cons, List.map_nil]); first | done | rfl | (simp only [List.length_drop, List.length_take]; rfl)) ?_
  with_reducible refine (cmp_Or_int.calls k _ _ y206 t209 _ ?side1 ?side2 A6.out).mono ?_
  (case side1 => repeat (first | exact (Kd.R_reads' HO208.out).2.2 | (with_reducible refine Kd.C_alloc ?_ _) | (with_reducible refine Kd.C_drewN ?_ _) | (with_reducible refine Kd.C_drew ?_)))
  (case side2 => exact (Kd.R_reads' HO208.out).2.1)
  rintro e w' ⟨rfl, ⟨nd, rfl⟩⟩
  refine ⟨_, rfl, ?_⟩
  refine hK.out _ _ ⟨(blk_cell BK201.out 0).trans rfl, (blk_cell BK201.out 1).trans rfl, (blk_cell BK201.out 2).trans rfl, (blk_cell BK201.out 3).trans rfl, (blk_cell BK202.out 0).trans rfl, (blk_cell BK202.out 1).trans rfl, (blk_cell BK202.out 2).trans rfl, (blk_cell BK202.out 3).trans rfl⟩ (fun hHeld => ?_)
  clear hK K
  refine norm_ (a' := ?_) ?_ ?_
  rotate_left
  · show Act.put _ (some 21) _ = _
    simp only [Act.put, List.setIfInBounds_toArray, List.set_cons_zero, List.set_cons_succ, i64_w, i32_w]
    rfl
  refine pure_ (i := 17) (N := some 4) (v := ?_) (a' := ?_) #[true, true, true, true, true, true, true, true, true, true, true, true, true, true, true, true, true, true] rfl rfl (any_of HT_.out (by kernel_rfl)) (fun _ _ _ h => h) (Or.inl ⟨by rfl, ?_⟩) ?_ ?_
  rotate_left
  · intro w'
    go_simp
    with_reducible rfl
  rotate_left
  · simp only [Act.put, List.setIfInBounds_toArray, List.set_cons_zero, List.set_cons_succ, i64_w, i32_w]
    rfl
  refine done_ (done_of HT_.out (by kernel_rfl)) ?_
  (try clear hHeld); (try clear HS0_)
  try go_wp2
  go_ret
  exact ⟨by first | rfl | (simp [errW_none, errW_some] <;> rfl) | (simp [*, errW_none, errW_some] <;> rfl), by repeat (first | (with_reducible first | exact HB.out | apply below_alloc | apply pw_below_drewN | apply below_drew1 | refine below_set ?_ GE201.out | refine below_set ?_ GE202.out) | exact HB.out)⟩

end Go.Proofs.Ytioooiflpabngaa.PAll

namespace Go.Proofs.Ytioooiflpabngaa.PAll
open Go.RowKit Go.Proofs.YtioooiflpabngaaW.PrintWords Go.Proofs.YtioooiflpabngaaW.PrintLast Go.Proofs.YtioooiflpabngaaW.PrintMore
attribute [local go_sem] max2_int min2_int max_two min_two max_three min_three max_four min_four
set_option linter.unusedVariables false
set_option linter.unusedSimpArgs false

structure BlwD (B : Nat) (w w' : World) : Prop where
  mk ::
  (b : Below B w w')
  (d : w.drawn ≤ w'.drawn)
theorem BlwD.refl (B : Nat) (w : World) : BlwD B w w := ⟨Below.refl _ _, Nat.le_refl _⟩
theorem dbelow_alloc {w W : World} (h : BlwD w.heap.size w W) (o : Obj) : BlwD w.heap.size w (W.alloc o) := ⟨below_alloc h.b o, h.d⟩
theorem dpw_below_drewN {B : Nat} {w W : World} (h : BlwD B w W) (n : Nat) : BlwD B w (W.drewN n) := ⟨pw_below_drewN h.b n, Nat.le_trans h.d (Nat.le_add_right _ _)⟩
theorem dbelow_drew1 {B : Nat} {w W : World} (h : BlwD B w W) : BlwD B w W.drew := ⟨below_drew1 h.b, Nat.le_trans h.d (Nat.le_succ _)⟩
theorem dbelow_step {w W w2 : World} (h : BlwD w.heap.size w W) (k : BlwD W.heap.size W w2) : BlwD w.heap.size w w2 := ⟨below_step h.b k.b, Nat.le_trans h.d k.d⟩
theorem dbelow_set {w W : World} {g j : Nat} {v : Value} (h : BlwD w.heap.size w W) (hg : w.heap.size ≤ g) : BlwD w.heap.size w (W.setCell ⟨g, j, none⟩ v) := ⟨below_set h.b hg, h.d⟩
theorem dbelow_size {w W : World} (h : BlwD w.heap.size w W) : w.heap.size ≤ W.heap.size := h.b.size
theorem dblk_below {w w1 : World} {g : Nat} {o : Obj} (h : w.heap[g]? = some o) (hb : BlwD w.heap.size w w1) : w1.heap[g]? = some o := blk_below h hb.b
section
variable {P : Program} {ops : Array Oper} {rest : List Oper} {o : Oper} {a : Act} {Q : Exit → Act → World → Prop} {Kc : Act → World → Prop}
theorem dbox_event {W : World} (hgd : o.guard = none) {N : Tmp} (_hd : o.dst = some N) {cs : Array Value} {t : TypeId}
    (hrun : (execOp a.eval o).run P W = .ok (.value (.pointer (some ⟨W.heap.size, 0, none⟩))) (W.alloc (.cells cs t (0, 0))))
    (h : ∀ g, g = W.heap.size → ∀ w1, w1.heap[g]? = some (.cells cs t (0, 0)) → BlwD W.heap.size W w1 → wpList P ops Q rest (a.put o.dst (.pointer (some ⟨g, 0, none⟩))) w1) : wpList P ops Q (o :: rest) a W :=
  Kd.event_run hgd hrun (h _ rfl _ (blk_new W _) (dbelow_alloc (BlwD.refl _ _) _))
theorem dR_lit_step {α : Type} (d : Kd α) {w0 W : World} (base e : Nat) (hw : Region.wanted o (yielded ops a.tmps) = true) {N : Tmp} (_hd : o.dst = some N) {xs : List α} {inner : List Value} {ok okp : Nat → Prop}
    (hrun : (execOp a.eval o).run P W = .ok (.value (.slice (some ⟨W.heap.size, 0, none⟩) xs.length xs.length)) (W.alloc (.cells inner.toArray e)))
    (hrep : Reps (d.M W base okp) d.sz xs inner) (hok : ∀ k, okp k → ok k) (hfresh : ok W.heap.size) (HB : BlwD base w0 W) (hbase : base ≤ W.heap.size) (hm : xs.length ≤ 9223372036854775807)
    (h : ∀ v1 w1, d.R e w1 base ok v1 xs → BlwD base w0 w1 → W.grownBy w1 none → (∃ b, v1.ownBlock = some b ∧ W.heap.size ≤ b) → Kc (a.put o.dst v1) w1) : if Region.wanted o (yielded ops a.tmps) = true then Oper.wp P o a W Kc Q else Kc (a.put o.dst undef) W := by
  refine event_step hw hrun (h _ _ ⟨fun k hk => ?_, inner, ?_, ?_⟩ ⟨HB.b.alloc hbase _, HB.d⟩ (World.grownBy_alloc W _ none) ⟨W.heap.size, by simp [Value.ownBlock], Nat.le_refl _⟩)
  · have : W.heap.size = k := by simpa [Value.ownBlock] using hk
    subst this
    exact hfresh
  · have h2 := World.ownsRow_lit (base := base) (e := e) (size := d.sz) W inner.toArray xs.length hbase (by simpa [maxLen] using hm) (by simpa using hrep.1)
    simpa using h2
  · refine hrep.imp_ (fun p c hp => d.M_mono (fun k hk => ⟨hok k hk.1, fun he => ?_⟩) (Kd.M_below (d.M_bound hp) (below_alloc (Below.refl _ _) _)))
    have h3 : k = W.heap.size := by simpa [Value.ownBlock] using he
    have := hk.2.2.1
    omega
end
theorem BlwD.grow {w w' : World} (h : BlwD w.heap.size w w') : ∃ q os, w' = Go.Sort.grow (w.drewN q) os := by
  refine ⟨w'.drawn - w.drawn, w'.heap.extract w.heap.size w'.heap.size, ?_⟩
  obtain ⟨hb, hd⟩ := h
  have hh : w'.heap = w.heap ++ w'.heap.extract w.heap.size w'.heap.size := by
    apply Array.ext_getElem?
    intro i
    rcases Nat.lt_or_ge i w.heap.size with hi | hi
    · rw [Array.getElem?_append_left hi, hb.block i hi]
    · rw [Array.getElem?_append_right hi, Array.getElem?_extract]
      have := hb.size
      by_cases h2 : i - w.heap.size < w'.heap.size - w.heap.size
      · have e : w.heap.size + (i - w.heap.size) = i := by omega
        simp [h2, e]
      · have e : w'.heap[i]? = none := by rw [Array.getElem?_eq_none]; omega
        simp [h2, e]
  cases w' with
  | mk heap tape drawn os output =>
    simp only [Go.Sort.grow] at *
    have e1 := hb.tape
    have e2 := hb.os
    have e3 := hb.output
    simp only at e1 e2 e3
    subst e1 e2 e3
    have e4 : drawn = w.drawn + (drawn - w.drawn) := by omega
    show ({ heap := heap, tape := w.tape, drawn := drawn, os := w.os, output := w.output } : World) = { heap := w.heap ++ heap.extract w.heap.size, tape := w.tape, drawn := w.drawn + (drawn - w.drawn), os := w.os, output := w.output }
    rw [← hh, ← e4]

set_option maxHeartbeats 8000000 in
set_option maxRecDepth 100000 in
theorem ident_Compare.callsD (a0_0 : Int) (a0_1 : Int) (a1_0 : Int) (a1_1 : Int) (r : Int) (w : World) (h : ident_Compare.f a0_0 a0_1 a1_0 a1_1 = some r) :
    Calls Try.prog 86 #[.agg #[.int .u64 a0_0, .int .i64 a0_1], .agg #[.int .u64 a1_0, .int .i64 a1_1]] w fun e w' => e = .returned (.int .i64 r) ∧ BlwD w.heap.size w w' := by
  have hu25 := Try.underlying25
  have HB := Aside0.mk (BlwD.refl w.heap.size w)
  have H : ((cmp_Compare_uint64.f a0_0 a1_0).bind fun t199 => (if t199 = 0 then ((cmp_Compare_int.f a0_1 a1_1).bind fun t200 => (some t200)) else (some t199))) = some r := h
  clear h
  replace H := Option.bind_eq_some_iff.mp H
  obtain ⟨t199, A30, H⟩ := H
  replace H : (if t199 = 0 then ((cmp_Compare_int.f a0_1 a1_1).bind fun t200 => (some t200)) else (some t199)) = some r := H
  have A3 := Aside0.mk A30
  clear A30
  by_cases c4 : t199 = 0
  · rw [if_pos c4] at H
    have c4b0 : (t199 == 0) = true := beq_iff_eq.mpr c4
    have c4b1 : (t199 != 0) = false := bne_eq_false_iff_eq.mpr c4
    clear c4
    replace H := Option.bind_eq_some_iff.mp H
    obtain ⟨t200, A50, H⟩ := H
    replace H : (some t200) = some r := H
    have A5 := Aside0.mk A50
    clear A50
    obtain rfl := Option.some.inj H
    go_enter Try.func86, Try.ntmps86
    go_wp2_with (first | ((with_reducible refine gate_dst (N := 2) rfl ?_); refine dbox_event ?hg (N := 2) ?hd (cs := #[.int .u64 a0_0, .int .i64 a0_1]) (t := 25) ?hr ?_; (case hd => rfl); (case hg => rfl); (case hr => first | (go_simp; done) | (go_simp; rfl)); intro gb197 hg w6 hbox hb; have n0_ := Aside0.mk (dbelow_step (by repeat (first | (with_reducible first | exact HB.out | apply dbelow_alloc | apply dpw_below_drewN | apply dbelow_drew1) | exact HB.out)) hb); have n1_ := Aside0.mk (hbox); have n2_ := Aside0.mk ((by rw [hg]; exact (dbelow_size (by repeat (first | (with_reducible first | exact HB.out | apply dbelow_alloc | apply dpw_below_drewN | apply dbelow_drew1) | exact HB.out))) : w.heap.size ≤ gb197)); have n3_ := Aside0.mk ((by rw [hg]; exact (dbelow_size (by repeat (first | (with_reducible first | exact HB.out | apply dbelow_alloc | apply dpw_below_drewN | apply dbelow_drew1) | exact HB.out))) : w.heap.size ≤ gb197)); clear HB; have HB := n0_; have BK197 := n1_; have GW197 := n2_; have GE197 := n3_; clear n0_ n1_ n2_ n3_; clear hb hbox hg) | ((with_reducible refine gate_dst (N := 3) rfl ?_); refine dbox_event ?hg (N := 3) ?hd (cs := #[.int .u64 a1_0, .int .i64 a1_1]) (t := 25) ?hr ?_; (case hd => rfl); (case hg => rfl); (case hr => first | (go_simp; done) | (go_simp; rfl)); intro gb198 hg w7 hbox hb; have n0_ := Aside0.mk (dblk_below (g := gb197) (o := .cells #[.int .u64 a0_0, .int .i64 a0_1] 25 (0, 0)) (by (with_reducible repeat (first | refine blk_drewN ?_ _ | refine blk_drew ?_ | refine blk_alloc ?_ _)); exact BK197.out) hb); have n1_ := Aside0.mk (dbelow_step (by repeat (first | (with_reducible first | exact HB.out | apply dbelow_alloc | apply dpw_below_drewN | apply dbelow_drew1 | refine dbelow_set ?_ GE197.out) | exact HB.out)) hb); have n2_ := Aside0.mk (hbox); have n3_ := Aside0.mk ((by rw [hg]; exact (dbelow_size (by repeat (first | (with_reducible first | exact HB.out | apply dbelow_alloc | apply dpw_below_drewN | apply dbelow_drew1 | refine dbelow_set ?_ GE197.out) | exact HB.out))) : w.heap.size ≤ gb198)); have n4_ := Aside0.mk ((by rw [hg]; exact (dbelow_size (by repeat (first | (with_reducible first | exact HB.out | apply dbelow_alloc | apply dpw_below_drewN | apply dbelow_drew1 | refine dbelow_set ?_ GE197.out) | exact HB.out))) : w.heap.size ≤ gb198)); have n5_ := Aside0.mk ((by rw [hg]; exact Nat.ne_of_lt (blk_lt (g := gb197) (o := .cells #[.int .u64 a0_0, .int .i64 a0_1] 25 (0, 0)) (by (with_reducible repeat (first | refine blk_drewN ?_ _ | refine blk_drew ?_ | refine blk_alloc ?_ _)); exact BK197.out)) : gb197 ≠ gb198)); have n6_ := Aside0.mk ((by rw [hg]; exact Nat.ne_of_gt (blk_lt (g := gb197) (o := .cells #[.int .u64 a0_0, .int .i64 a0_1] 25 (0, 0)) (by (with_reducible repeat (first | refine blk_drewN ?_ _ | refine blk_drew ?_ | refine blk_alloc ?_ _)); exact BK197.out)) : gb198 ≠ gb197)); clear BK197; clear HB; have BK197 := n0_; have HB := n1_; have BK198 := n2_; have GW198 := n3_; have GE198 := n4_; have NB197_198 := n5_; have NB198_197 := n6_; clear n0_ n1_ n2_ n3_ n4_ n5_ n6_; clear hb hbox hg; have hnb8 := NB197_198.out; have hnc8 := NB198_197.out; have hcz9_0 : w7.cell? ⟨gb197, 0, none⟩ = some (.int .u64 a0_0) := (blk_cell BK197.out 0).trans rfl; have hcz9_1 : w7.cell? ⟨gb197, 1, none⟩ = some (.int .i64 a0_1) := (blk_cell BK197.out 1).trans rfl; have hfz9_0 := blk_frozen BK197.out 0; have hfz9_1 := blk_frozen BK197.out 1; have hcz10_0 : w7.cell? ⟨gb198, 0, none⟩ = some (.int .u64 a1_0) := (blk_cell BK198.out 0).trans rfl; have hcz10_1 : w7.cell? ⟨gb198, 1, none⟩ = some (.int .i64 a1_1) := (blk_cell BK198.out 1).trans rfl; have hfz10_0 := blk_frozen BK198.out 0; have hfz10_1 := blk_frozen BK198.out 1) | ((with_reducible refine gate_callee (f := 87) rfl ?_); refine goesL_ (some 10) rfl rfl Try.func87 (by kernel_rfl) rfl #[.int .u64 a0_0, .int .u64 a1_0] rfl (by (try simp only [List.map_toArray, List.map_cons, List.map_nil]); first | done | rfl | (simp only [List.length_drop, List.length_take]; rfl)) ?_; (with_reducible refine (cmp_Compare_uint64.calls a0_0 a1_0 t199 _ A3.out).mono ?_); rintro e w' ⟨rfl, ⟨nd, rfl⟩⟩; refine ⟨_, rfl, ?_⟩) | ((with_reducible refine gate_callee (f := 88) rfl ?_); refine goesL_ (some 18) rfl rfl Try.func88 (by kernel_rfl) rfl #[.int .i64 a0_1, .int .i64 a1_1] rfl (by (try simp only [List.map_toArray, List.map_cons, List.map_nil]); first | done | rfl | (simp only [List.length_drop, List.length_take]; rfl)) ?_; (with_reducible refine (cmp_Compare_int.calls a0_1 a1_1 t200 _ A5.out).mono ?_); rintro e w' ⟨rfl, ⟨nd, rfl⟩⟩; refine ⟨_, rfl, ?_⟩))
    go_ret
    exact ⟨by first | rfl | (simp [errW_none, errW_some] <;> rfl) | (simp [*, errW_none, errW_some] <;> rfl), by repeat (first | (with_reducible first | exact HB.out | apply dbelow_alloc | apply dpw_below_drewN | apply dbelow_drew1 | refine dbelow_set ?_ GE197.out | refine dbelow_set ?_ GE198.out) | exact HB.out)⟩
  · rw [if_neg c4] at H
    have c4b0 : (t199 == 0) = false := beq_eq_false_iff_ne.mpr c4
    have c4b1 : (t199 != 0) = true := bne_iff_ne.mpr c4
    obtain rfl := Option.some.inj H
    go_enter Try.func86, Try.ntmps86
    go_wp2_with (first | ((with_reducible refine gate_dst (N := 2) rfl ?_); refine dbox_event ?hg (N := 2) ?hd (cs := #[.int .u64 a0_0, .int .i64 a0_1]) (t := 25) ?hr ?_; (case hd => rfl); (case hg => rfl); (case hr => first | (go_simp; done) | (go_simp; rfl)); intro gb197 hg w11 hbox hb; have n0_ := Aside0.mk (dbelow_step (by repeat (first | (with_reducible first | exact HB.out | apply dbelow_alloc | apply dpw_below_drewN | apply dbelow_drew1) | exact HB.out)) hb); have n1_ := Aside0.mk (hbox); have n2_ := Aside0.mk ((by rw [hg]; exact (dbelow_size (by repeat (first | (with_reducible first | exact HB.out | apply dbelow_alloc | apply dpw_below_drewN | apply dbelow_drew1) | exact HB.out))) : w.heap.size ≤ gb197)); have n3_ := Aside0.mk ((by rw [hg]; exact (dbelow_size (by repeat (first | (with_reducible first | exact HB.out | apply dbelow_alloc | apply dpw_below_drewN | apply dbelow_drew1) | exact HB.out))) : w.heap.size ≤ gb197)); clear HB; have HB := n0_; have BK197 := n1_; have GW197 := n2_; have GE197 := n3_; clear n0_ n1_ n2_ n3_; clear hb hbox hg) | ((with_reducible refine gate_dst (N := 3) rfl ?_); refine dbox_event ?hg (N := 3) ?hd (cs := #[.int .u64 a1_0, .int .i64 a1_1]) (t := 25) ?hr ?_; (case hd => rfl); (case hg => rfl); (case hr => first | (go_simp; done) | (go_simp; rfl)); intro gb198 hg w12 hbox hb; have n0_ := Aside0.mk (dblk_below (g := gb197) (o := .cells #[.int .u64 a0_0, .int .i64 a0_1] 25 (0, 0)) (by (with_reducible repeat (first | refine blk_drewN ?_ _ | refine blk_drew ?_ | refine blk_alloc ?_ _)); exact BK197.out) hb); have n1_ := Aside0.mk (dbelow_step (by repeat (first | (with_reducible first | exact HB.out | apply dbelow_alloc | apply dpw_below_drewN | apply dbelow_drew1 | refine dbelow_set ?_ GE197.out) | exact HB.out)) hb); have n2_ := Aside0.mk (hbox); have n3_ := Aside0.mk ((by rw [hg]; exact (dbelow_size (by repeat (first | (with_reducible first | exact HB.out | apply dbelow_alloc | apply dpw_below_drewN | apply dbelow_drew1 | refine dbelow_set ?_ GE197.out) | exact HB.out))) : w.heap.size ≤ gb198)); have n4_ := Aside0.mk ((by rw [hg]; exact (dbelow_size (by repeat (first | (with_reducible first | exact HB.out | apply dbelow_alloc | apply dpw_below_drewN | apply dbelow_drew1 | refine dbelow_set ?_ GE197.out) | exact HB.out))) : w.heap.size ≤ gb198)); have n5_ := Aside0.mk ((by rw [hg]; exact Nat.ne_of_lt (blk_lt (g := gb197) (o := .cells #[.int .u64 a0_0, .int .i64 a0_1] 25 (0, 0)) (by (with_reducible repeat (first | refine blk_drewN ?_ _ | refine blk_drew ?_ | refine blk_alloc ?_ _)); exact BK197.out)) : gb197 ≠ gb198)); have n6_ := Aside0.mk ((by rw [hg]; exact Nat.ne_of_gt (blk_lt (g := gb197) (o := .cells #[.int .u64 a0_0, .int .i64 a0_1] 25 (0, 0)) (by (with_reducible repeat (first | refine blk_drewN ?_ _ | refine blk_drew ?_ | refine blk_alloc ?_ _)); exact BK197.out)) : gb198 ≠ gb197)); clear BK197; clear HB; have BK197 := n0_; have HB := n1_; have BK198 := n2_; have GW198 := n3_; have GE198 := n4_; have NB197_198 := n5_; have NB198_197 := n6_; clear n0_ n1_ n2_ n3_ n4_ n5_ n6_; clear hb hbox hg; have hnb13 := NB197_198.out; have hnc13 := NB198_197.out; have hcz14_0 : w12.cell? ⟨gb197, 0, none⟩ = some (.int .u64 a0_0) := (blk_cell BK197.out 0).trans rfl; have hcz14_1 : w12.cell? ⟨gb197, 1, none⟩ = some (.int .i64 a0_1) := (blk_cell BK197.out 1).trans rfl; have hfz14_0 := blk_frozen BK197.out 0; have hfz14_1 := blk_frozen BK197.out 1; have hcz15_0 : w12.cell? ⟨gb198, 0, none⟩ = some (.int .u64 a1_0) := (blk_cell BK198.out 0).trans rfl; have hcz15_1 : w12.cell? ⟨gb198, 1, none⟩ = some (.int .i64 a1_1) := (blk_cell BK198.out 1).trans rfl; have hfz15_0 := blk_frozen BK198.out 0; have hfz15_1 := blk_frozen BK198.out 1) | ((with_reducible refine gate_callee (f := 87) rfl ?_); refine goesL_ (some 10) rfl rfl Try.func87 (by kernel_rfl) rfl #[.int .u64 a0_0, .int .u64 a1_0] rfl (by (try simp only [List.map_toArray, List.map_cons, List.map_nil]); first | done | rfl | (simp only [List.length_drop, List.length_take]; rfl)) ?_; (with_reducible refine (cmp_Compare_uint64.calls a0_0 a1_0 t199 _ A3.out).mono ?_); rintro e w' ⟨rfl, ⟨nd, rfl⟩⟩; refine ⟨_, rfl, ?_⟩))
    go_ret
    exact ⟨by first | rfl | (simp [errW_none, errW_some] <;> rfl) | (simp [*, errW_none, errW_some] <;> rfl), by repeat (first | (with_reducible first | exact HB.out | apply dbelow_alloc | apply dpw_below_drewN | apply dbelow_drew1 | refine dbelow_set ?_ GE197.out | refine dbelow_set ?_ GE198.out) | exact HB.out)⟩

set_option maxHeartbeats 8000000 in
set_option maxRecDepth 100000 in
theorem label_Compare.callsD (k : Nat) (a0_0 : Int) (a0_1 : Int) (a0_2 : Int) (a0_3 : Int) (a1_0 : Int) (a1_1 : Int) (a1_2 : Int) (a1_3 : Int) (r : Int) (w : World) (h : label_Compare.f k a0_0 a0_1 a0_2 a0_3 a1_0 a1_1 a1_2 a1_3 = some r) :
    Calls Try.prog 42 #[.agg #[.int .u64 a0_0, .int .i64 a0_1, .int .u64 a0_2, .int .i64 a0_3], .agg #[.int .u64 a1_0, .int .i64 a1_1, .int .u64 a1_2, .int .i64 a1_3]] w fun e w' => e = .returned (.int .i64 r) ∧ BlwD w.heap.size w w' := by
  have hu27 := Try.underlying27
  have hu25 := Try.underlying25
  have HB := Aside0.mk (BlwD.refl w.heap.size w)
  have H : ((ident_Compare.f a0_0 a0_1 a1_0 a1_1).bind fun t203 => ((cmp_Compare_uint64.f a0_2 a1_2).bind fun t204 => ((cmp_Compare_int.f a0_3 a1_3).bind fun t205 => ((cmp_Or_int.f k (([t203, t204, t205] : List Int))).bind fun t209 => (some t209))))) = some r := h
  clear h
  replace H := Option.bind_eq_some_iff.mp H
  obtain ⟨t203, A30, H⟩ := H
  replace H : ((cmp_Compare_uint64.f a0_2 a1_2).bind fun t204 => ((cmp_Compare_int.f a0_3 a1_3).bind fun t205 => ((cmp_Or_int.f k (([t203, t204, t205] : List Int))).bind fun t209 => (some t209)))) = some r := H
  have A3 := Aside0.mk A30
  clear A30
  replace H := Option.bind_eq_some_iff.mp H
  obtain ⟨t204, A40, H⟩ := H
  replace H : ((cmp_Compare_int.f a0_3 a1_3).bind fun t205 => ((cmp_Or_int.f k (([t203, t204, t205] : List Int))).bind fun t209 => (some t209))) = some r := H
  have A4 := Aside0.mk A40
  clear A40
  replace H := Option.bind_eq_some_iff.mp H
  obtain ⟨t205, A50, H⟩ := H
  replace H : ((cmp_Or_int.f k (([t203, t204, t205] : List Int))).bind fun t209 => (some t209)) = some r := H
  have A5 := Aside0.mk A50
  clear A50
  obtain ⟨y206, hy206⟩ : ∃ y_ : List Int, y_ = (([t203, t204, t205] : List Int)) := ⟨_, rfl⟩
  replace H : ((cmp_Or_int.f k y206).bind fun t209 => (some t209)) = some r := by first | (rw [hy206]; with_reducible exact H) | (have H2_ := (Option.bind_some _ _).symm.trans H; rw [hy206]; with_reducible exact H2_) | (have H2_ := (Option.bind_some _ _).symm.trans H; with_reducible exact H2_) | with_reducible exact H | (rw [hy206]; exact H) | exact H
  have Ny206 := Aside0.mk hy206
  clear hy206
  replace H := Option.bind_eq_some_iff.mp H
  obtain ⟨t209, A60, H⟩ := H
  replace H : (some t209) = some r := H
  have A6 := Aside0.mk A60
  clear A60
  obtain rfl := Option.some.inj H
  go_enter Try.func42, Try.ntmps42
  try go_wp2_with (first | ((with_reducible refine gate_dst (N := 2) rfl ?_); refine dbox_event ?hg (N := 2) ?hd (cs := #[.int .u64 a0_0, .int .i64 a0_1, .int .u64 a0_2, .int .i64 a0_3]) (t := 27) ?hr ?_; (case hd => rfl); (case hg => rfl); (case hr => first | (go_simp; done) | (go_simp; rfl)); intro gb201 hg w7 hbox hb; have n0_ := Aside0.mk (dbelow_step (by repeat (first | (with_reducible first | exact HB.out | apply dbelow_alloc | apply dpw_below_drewN | apply dbelow_drew1) | exact HB.out)) hb); have n1_ := Aside0.mk (hbox); have n2_ := Aside0.mk ((by rw [hg]; exact (dbelow_size (by repeat (first | (with_reducible first | exact HB.out | apply dbelow_alloc | apply dpw_below_drewN | apply dbelow_drew1) | exact HB.out))) : w.heap.size ≤ gb201)); have n3_ := Aside0.mk ((by rw [hg]; exact (dbelow_size (by repeat (first | (with_reducible first | exact HB.out | apply dbelow_alloc | apply dpw_below_drewN | apply dbelow_drew1) | exact HB.out))) : w.heap.size ≤ gb201)); clear HB; have HB := n0_; have BK201 := n1_; have GW201 := n2_; have GE201 := n3_; clear n0_ n1_ n2_ n3_; clear hb hbox hg) | ((with_reducible refine gate_dst (N := 3) rfl ?_); refine dbox_event ?hg (N := 3) ?hd (cs := #[.int .u64 a1_0, .int .i64 a1_1, .int .u64 a1_2, .int .i64 a1_3]) (t := 27) ?hr ?_; (case hd => rfl); (case hg => rfl); (case hr => first | (go_simp; done) | (go_simp; rfl)); intro gb202 hg w8 hbox hb; have n0_ := Aside0.mk (dblk_below (g := gb201) (o := .cells #[.int .u64 a0_0, .int .i64 a0_1, .int .u64 a0_2, .int .i64 a0_3] 27 (0, 0)) (by (with_reducible repeat (first | refine blk_drewN ?_ _ | refine blk_drew ?_ | refine blk_alloc ?_ _)); exact BK201.out) hb); have n1_ := Aside0.mk (dbelow_step (by repeat (first | (with_reducible first | exact HB.out | apply dbelow_alloc | apply dpw_below_drewN | apply dbelow_drew1 | refine dbelow_set ?_ GE201.out) | exact HB.out)) hb); have n2_ := Aside0.mk (hbox); have n3_ := Aside0.mk ((by rw [hg]; exact (dbelow_size (by repeat (first | (with_reducible first | exact HB.out | apply dbelow_alloc | apply dpw_below_drewN | apply dbelow_drew1 | refine dbelow_set ?_ GE201.out) | exact HB.out))) : w.heap.size ≤ gb202)); have n4_ := Aside0.mk ((by rw [hg]; exact (dbelow_size (by repeat (first | (with_reducible first | exact HB.out | apply dbelow_alloc | apply dpw_below_drewN | apply dbelow_drew1 | refine dbelow_set ?_ GE201.out) | exact HB.out))) : w.heap.size ≤ gb202)); have n5_ := Aside0.mk ((by rw [hg]; exact Nat.ne_of_lt (blk_lt (g := gb201) (o := .cells #[.int .u64 a0_0, .int .i64 a0_1, .int .u64 a0_2, .int .i64 a0_3] 27 (0, 0)) (by (with_reducible repeat (first | refine blk_drewN ?_ _ | refine blk_drew ?_ | refine blk_alloc ?_ _)); exact BK201.out)) : gb201 ≠ gb202)); have n6_ := Aside0.mk ((by rw [hg]; exact Nat.ne_of_gt (blk_lt (g := gb201) (o := .cells #[.int .u64 a0_0, .int .i64 a0_1, .int .u64 a0_2, .int .i64 a0_3] 27 (0, 0)) (by (with_reducible repeat (first | refine blk_drewN ?_ _ | refine blk_drew ?_ | refine blk_alloc ?_ _)); exact BK201.out)) : gb202 ≠ gb201)); clear BK201; clear HB; have BK201 := n0_; have HB := n1_; have BK202 := n2_; have GW202 := n3_; have GE202 := n4_; have NB201_202 := n5_; have NB202_201 := n6_; clear n0_ n1_ n2_ n3_ n4_ n5_ n6_; clear hb hbox hg))
  have n0_ := Aside0.mk (blk_drew BK201.out)
  have n1_ := Aside0.mk (blk_drew BK202.out)
  have n2_ := Aside0.mk (dbelow_drew1 HB.out)
  clear BK201
  clear BK202
  clear HB
  have BK201 := n0_
  have BK202 := n1_
  have HB := n2_
  clear n0_ n1_ n2_
  refine start_ (n := 18) (S := fun w' => w'.cell? ⟨gb201, 0, none⟩ = some (.int .u64 a0_0) ∧ w'.cell? ⟨gb201, 1, none⟩ = some (.int .i64 a0_1) ∧ w'.cell? ⟨gb201, 2, none⟩ = some (.int .u64 a0_2) ∧ w'.cell? ⟨gb201, 3, none⟩ = some (.int .i64 a0_3) ∧ w'.cell? ⟨gb202, 0, none⟩ = some (.int .u64 a1_0) ∧ w'.cell? ⟨gb202, 1, none⟩ = some (.int .i64 a1_1) ∧ w'.cell? ⟨gb202, 2, none⟩ = some (.int .u64 a1_2) ∧ w'.cell? ⟨gb202, 3, none⟩ = some (.int .i64 a1_3)) (ds := []) #[false, false, false, false, false, false, false, false, false, false, false, false, false, false, false, false, false, false] (by kernel_rfl) rfl rfl ⟨(blk_cell BK201.out 0).trans rfl, (blk_cell BK201.out 1).trans rfl, (blk_cell BK201.out 2).trans rfl, (blk_cell BK201.out 3).trans rfl, (blk_cell BK202.out 0).trans rfl, (blk_cell BK202.out 1).trans rfl, (blk_cell BK202.out 2).trans rfl, (blk_cell BK202.out 3).trans rfl⟩ (fun hHeld => ?_); refine with_tabW label_Compare.tab1 label_Compare.bits1 (fun HT_ HW_ => ?_)
  generalize w8.drew = w9 at BK201 BK202 HB hHeld ⊢
  refine pure_ (i := 0) (N := some 5) (v := ?_) (a' := ?_) #[true, false, false, false, false, false, false, false, false, false, false, false, false, false, false, false, false, false] rfl rfl (any_of HT_.out (by kernel_rfl)) (fun _ _ _ h => h) (Or.inl ⟨by rfl, ?_⟩) ?_ ?_
  rotate_left
  · intro w'
    go_simp
    with_reducible rfl
  rotate_left
  · simp only [Act.put, List.setIfInBounds_toArray, List.set_cons_zero, List.set_cons_succ, i64_w, i32_w]
    rfl
  refine pure_ (i := 2) (N := some 7) (v := ?_) (a' := ?_) #[true, false, true, false, false, false, false, false, false, false, false, false, false, false, false, false, false, false] rfl rfl (any_of HT_.out (by kernel_rfl)) (fun _ _ _ h => h) (Or.inl ⟨by rfl, ?_⟩) ?_ ?_
  rotate_left
  · intro w'
    go_simp
    with_reducible rfl
  rotate_left
  · simp only [Act.put, List.setIfInBounds_toArray, List.set_cons_zero, List.set_cons_succ, i64_w, i32_w]
    rfl
  refine pure_ (i := 5) (N := some 10) (v := ?_) (a' := ?_) #[true, false, true, false, false, true, false, false, false, false, false, false, false, false, false, false, false, false] rfl rfl (any_of HT_.out (by kernel_rfl)) (fun _ _ _ h => h) (Or.inl ⟨by rfl, ?_⟩) ?_ ?_
  rotate_left
  · intro w'
    go_simp
    with_reducible rfl
  rotate_left
  · simp only [Act.put, List.setIfInBounds_toArray, List.set_cons_zero, List.set_cons_succ, i64_w, i32_w]
    rfl
  refine pure_ (i := 7) (N := some 12) (v := ?_) (a' := ?_) #[true, false, true, false, false, true, false, true, false, false, false, false, false, false, false, false, false, false] rfl rfl (any_of HT_.out (by kernel_rfl)) (fun _ _ _ h => h) (Or.inl ⟨by rfl, ?_⟩) ?_ ?_
  rotate_left
  · intro w'
    go_simp
    with_reducible rfl
  rotate_left
  · simp only [Act.put, List.setIfInBounds_toArray, List.set_cons_zero, List.set_cons_succ, i64_w, i32_w]
    rfl
  refine pure_ (i := 10) (N := some 15) (v := ?_) (a' := ?_) #[true, false, true, false, false, true, false, true, false, false, true, false, false, false, false, false, false, false] rfl rfl (any_of HT_.out (by kernel_rfl)) (fun _ _ _ h => h) (Or.inl ⟨by rfl, ?_⟩) ?_ ?_
  rotate_left
  · intro w'
    go_simp
    with_reducible rfl
  rotate_left
  · simp only [Act.put, List.setIfInBounds_toArray, List.set_cons_zero, List.set_cons_succ, i64_w, i32_w]
    rfl
  refine pure_ (i := 12) (N := some 17) (v := ?_) (a' := ?_) #[true, false, true, false, false, true, false, true, false, false, true, false, true, false, false, false, false, false] rfl rfl (any_of HT_.out (by kernel_rfl)) (fun _ _ _ h => h) (Or.inl ⟨by rfl, ?_⟩) ?_ ?_
  rotate_left
  · intro w'
    go_simp
    with_reducible rfl
  rotate_left
  · simp only [Act.put, List.setIfInBounds_toArray, List.set_cons_zero, List.set_cons_succ, i64_w, i32_w]
    rfl
  refine take_ (i := 1) (N := some 6) (v := ?_) (a' := ?_) #[true, true, true, false, false, true, false, true, false, false, true, false, true, false, false, false, false, false] rfl rfl (take_ofW HT_.out HW_.out (by kernel_rfl)) (fun _ _ _ h => h) (Or.inl ⟨by rfl, ?_⟩) hHeld ?_ ?_
  rotate_left
  · rintro w' ⟨s0, s1, s2, s3, s4, s5, s6, s7⟩
    go_simp
    with_reducible rfl
  rotate_left
  · simp only [Act.put, List.setIfInBounds_toArray, List.set_cons_zero, List.set_cons_succ, i64_w, i32_w]
    rfl
  refine take_ (i := 3) (N := some 8) (v := ?_) (a' := ?_) #[true, true, true, true, false, true, false, true, false, false, true, false, true, false, false, false, false, false] rfl rfl (take_ofW HT_.out HW_.out (by kernel_rfl)) (fun _ _ _ h => h) (Or.inl ⟨by rfl, ?_⟩) hHeld ?_ ?_
  rotate_left
  · rintro w' ⟨s0, s1, s2, s3, s4, s5, s6, s7⟩
    go_simp
    with_reducible rfl
  rotate_left
  · simp only [Act.put, List.setIfInBounds_toArray, List.set_cons_zero, List.set_cons_succ, i64_w, i32_w]
    rfl
  refine take_ (i := 6) (N := some 11) (v := ?_) (a' := ?_) #[true, true, true, true, false, true, true, true, false, false, true, false, true, false, false, false, false, false] rfl rfl (take_ofW HT_.out HW_.out (by kernel_rfl)) (fun _ _ _ h => h) (Or.inl ⟨by rfl, ?_⟩) hHeld ?_ ?_
  rotate_left
  · rintro w' ⟨s0, s1, s2, s3, s4, s5, s6, s7⟩
    go_simp
    with_reducible rfl
  rotate_left
  · simp only [Act.put, List.setIfInBounds_toArray, List.set_cons_zero, List.set_cons_succ, i64_w, i32_w]
    rfl
  refine take_ (i := 8) (N := some 13) (v := ?_) (a' := ?_) #[true, true, true, true, false, true, true, true, true, false, true, false, true, false, false, false, false, false] rfl rfl (take_ofW HT_.out HW_.out (by kernel_rfl)) (fun _ _ _ h => h) (Or.inl ⟨by rfl, ?_⟩) hHeld ?_ ?_
  rotate_left
  · rintro w' ⟨s0, s1, s2, s3, s4, s5, s6, s7⟩
    go_simp
    with_reducible rfl
  rotate_left
  · simp only [Act.put, List.setIfInBounds_toArray, List.set_cons_zero, List.set_cons_succ, i64_w, i32_w]
    rfl
  refine take_ (i := 11) (N := some 16) (v := ?_) (a' := ?_) #[true, true, true, true, false, true, true, true, true, false, true, true, true, false, false, false, false, false] rfl rfl (take_ofW HT_.out HW_.out (by kernel_rfl)) (fun _ _ _ h => h) (Or.inl ⟨by rfl, ?_⟩) hHeld ?_ ?_
  rotate_left
  · rintro w' ⟨s0, s1, s2, s3, s4, s5, s6, s7⟩
    go_simp
    with_reducible rfl
  rotate_left
  · simp only [Act.put, List.setIfInBounds_toArray, List.set_cons_zero, List.set_cons_succ, i64_w, i32_w]
    rfl
  refine take_ (i := 13) (N := some 18) (v := ?_) (a' := ?_) #[true, true, true, true, false, true, true, true, true, false, true, true, true, true, false, false, false, false] rfl rfl (take_ofW HT_.out HW_.out (by kernel_rfl)) (fun _ _ _ h => h) (Or.inl ⟨by rfl, ?_⟩) hHeld ?_ ?_
  rotate_left
  · rintro w' ⟨s0, s1, s2, s3, s4, s5, s6, s7⟩
    go_simp
    with_reducible rfl
  rotate_left
  · simp only [Act.put, List.setIfInBounds_toArray, List.set_cons_zero, List.set_cons_succ, i64_w, i32_w]
    rfl
  refine one_ (i := 4) (N := some 9) #[true, true, true, true, true, true, true, true, true, false, true, true, true, true, false, false, false, false] rfl rfl (one_of HT_.out (by kernel_rfl)) (by decide) (fun K hK => ?_)
  refine goes_ Try.func86 (by kernel_rfl) rfl #[.agg #[.int .u64 a0_0, .int .i64 a0_1], .agg #[.int .u64 a1_0, .int .i64 a1_1]] (by rfl) rfl rfl (by (try simp only [List.map_toArray, List.map_cons, List.map_nil]); first | done | rfl | (simp only [List.length_drop, List.length_take]; rfl)) ?_
  with_reducible refine (ident_Compare.callsD a0_0 a0_1 a1_0 a1_1 t203 _ A3.out).mono ?_
  rintro e w10 ⟨rfl, hb⟩
  refine ⟨_, rfl, ?_⟩
  have n0_ := Aside0.mk (dblk_below (g := gb201) (o := .cells #[.int .u64 a0_0, .int .i64 a0_1, .int .u64 a0_2, .int .i64 a0_3] 27 (0, 0)) (by (with_reducible repeat (first | refine blk_drewN ?_ _ | refine blk_drew ?_ | refine blk_alloc ?_ _)); exact BK201.out) hb)
  have n1_ := Aside0.mk (dblk_below (g := gb202) (o := .cells #[.int .u64 a1_0, .int .i64 a1_1, .int .u64 a1_2, .int .i64 a1_3] 27 (0, 0)) (by (with_reducible repeat (first | refine blk_drewN ?_ _ | refine blk_drew ?_ | refine blk_alloc ?_ _)); exact BK202.out) hb)
  have n2_ := Aside0.mk (dbelow_step (by repeat (first | (with_reducible first | exact HB.out | apply dbelow_alloc | apply dpw_below_drewN | apply dbelow_drew1 | refine dbelow_set ?_ GE201.out | refine dbelow_set ?_ GE202.out) | exact HB.out)) hb)
  clear BK201
  clear BK202
  clear HB
  have BK201 := n0_
  have BK202 := n1_
  have HB := n2_
  clear n0_ n1_ n2_
  (try clear hb)
  (try clear hb2)
  (try clear hk)
  (try clear hi)
  refine hK.out _ _ ⟨(blk_cell BK201.out 0).trans rfl, (blk_cell BK201.out 1).trans rfl, (blk_cell BK201.out 2).trans rfl, (blk_cell BK201.out 3).trans rfl, (blk_cell BK202.out 0).trans rfl, (blk_cell BK202.out 1).trans rfl, (blk_cell BK202.out 2).trans rfl, (blk_cell BK202.out 3).trans rfl⟩ (fun hHeld => ?_)
  clear hK K
  refine norm_ (a' := ?_) ?_ ?_
  rotate_left
  · show Act.put _ (some 9) _ = _
    simp only [Act.put, List.setIfInBounds_toArray, List.set_cons_zero, List.set_cons_succ, i64_w, i32_w]
    rfl
  refine one_ (i := 9) (N := some 14) #[true, true, true, true, true, true, true, true, true, true, true, true, true, true, false, false, false, false] rfl rfl (one_of HT_.out (by kernel_rfl)) (by decide) (fun K hK => ?_)
  refine goes_ Try.func87 (by kernel_rfl) rfl #[.int .u64 a0_2, .int .u64 a1_2] (by rfl) rfl rfl (by (try simp only [List.map_toArray, List.map_cons, List.map_nil]); first | done | rfl | (simp only [List.length_drop, List.length_take]; rfl)) ?_
  with_reducible refine (cmp_Compare_uint64.calls a0_2 a1_2 t204 _ A4.out).mono ?_
  rintro e w' ⟨rfl, ⟨nd, rfl⟩⟩
  refine ⟨_, rfl, ?_⟩
  refine hK.out _ _ ⟨(blk_cell BK201.out 0).trans rfl, (blk_cell BK201.out 1).trans rfl, (blk_cell BK201.out 2).trans rfl, (blk_cell BK201.out 3).trans rfl, (blk_cell BK202.out 0).trans rfl, (blk_cell BK202.out 1).trans rfl, (blk_cell BK202.out 2).trans rfl, (blk_cell BK202.out 3).trans rfl⟩ (fun hHeld => ?_)
  clear hK K
  refine norm_ (a' := ?_) ?_ ?_
  rotate_left
  · show Act.put _ (some 14) _ = _
    simp only [Act.put, List.setIfInBounds_toArray, List.set_cons_zero, List.set_cons_succ, i64_w, i32_w]
    rfl
  refine one_ (i := 14) (N := some 19) #[true, true, true, true, true, true, true, true, true, true, true, true, true, true, true, false, false, false] rfl rfl (one_of HT_.out (by kernel_rfl)) (by decide) (fun K hK => ?_)
  refine goes_ Try.func88 (by kernel_rfl) rfl #[.int .i64 a0_3, .int .i64 a1_3] (by rfl) rfl rfl (by (try simp only [List.map_toArray, List.map_cons, List.map_nil]); first | done | rfl | (simp only [List.length_drop, List.length_take]; rfl)) ?_
  with_reducible refine (cmp_Compare_int.calls a0_3 a1_3 t205 _ A5.out).mono ?_
  rintro e w' ⟨rfl, ⟨nd, rfl⟩⟩
  refine ⟨_, rfl, ?_⟩
  refine hK.out _ _ ⟨(blk_cell BK201.out 0).trans rfl, (blk_cell BK201.out 1).trans rfl, (blk_cell BK201.out 2).trans rfl, (blk_cell BK201.out 3).trans rfl, (blk_cell BK202.out 0).trans rfl, (blk_cell BK202.out 1).trans rfl, (blk_cell BK202.out 2).trans rfl, (blk_cell BK202.out 3).trans rfl⟩ (fun hHeld => ?_)
  clear hK K
  refine norm_ (a' := ?_) ?_ ?_
  rotate_left
  · show Act.put _ (some 19) _ = _
    simp only [Act.put, List.setIfInBounds_toArray, List.set_cons_zero, List.set_cons_succ, i64_w, i32_w]
    rfl
  refine one_ (i := 15) (N := some 20) #[true, true, true, true, true, true, true, true, true, true, true, true, true, true, true, true, false, false] rfl rfl (one_of HT_.out (by kernel_rfl)) (by decide) (fun K hK => ?_)
  refine dR_lit_step (Kd.int .i64) _ 3 ?hg (N := 20) ?hd (xs := ([t203, t204, t205] : List Int)) (inner := [.int .i64 t203, .int .i64 t204, .int .i64 t205]) (ok := fun _ => True) (okp := fun _ => True) ?hr ?hp (fun _ hk => hk) trivial (BlwD.refl _ _) (Nat.le_refl _) (by simp) ?_; (case hd => rfl); (case hg => rfl); (case hr => first | (go_simp; done) | (go_simp; rfl)); (case hp => exact (Reps.one (show Kd.M (Kd.int .i64) _ _ _ t203 [.int .i64 t203] from rfl) (Reps.one (show Kd.M (Kd.int .i64) _ _ _ t204 [.int .i64 t204] from rfl) (Reps.one (show Kd.M (Kd.int .i64) _ _ _ t205 [.int .i64 t205] from rfl) (Reps.none _ _)))))
  intro v207 w11 ho12 hb hg_ hnew_
  clear hg_ hnew_
  (first | rw [← Ny206.out] at ho12 | (simp only [Int.reduceToNat] at ho12; rw [← Ny206.out] at ho12))
  have n0_ := Aside0.mk (Kd.R_lower ho12 (dbelow_size (by repeat (first | (with_reducible first | exact HB.out | apply dbelow_alloc | apply dpw_below_drewN | apply dbelow_drew1 | refine dbelow_set ?_ GE201.out | refine dbelow_set ?_ GE202.out) | exact HB.out))))
  have n1_ := Aside0.mk (dblk_below (g := gb201) (o := .cells #[.int .u64 a0_0, .int .i64 a0_1, .int .u64 a0_2, .int .i64 a0_3] 27 (0, 0)) (by (with_reducible repeat (first | refine blk_drewN ?_ _ | refine blk_drew ?_ | refine blk_alloc ?_ _)); exact BK201.out) hb)
  have n2_ := Aside0.mk (dblk_below (g := gb202) (o := .cells #[.int .u64 a1_0, .int .i64 a1_1, .int .u64 a1_2, .int .i64 a1_3] 27 (0, 0)) (by (with_reducible repeat (first | refine blk_drewN ?_ _ | refine blk_drew ?_ | refine blk_alloc ?_ _)); exact BK202.out) hb)
  have n3_ := Aside0.mk (dbelow_step (by repeat (first | (with_reducible first | exact HB.out | apply dbelow_alloc | apply dpw_below_drewN | apply dbelow_drew1 | refine dbelow_set ?_ GE201.out | refine dbelow_set ?_ GE202.out) | exact HB.out)) hb)
  clear BK201
  clear BK202
  clear HB
  have HO208 := n0_
  have BK201 := n1_
  have BK202 := n2_
  have HB := n3_
  clear n0_ n1_ n2_ n3_
  clear hb ho12
  obtain ⟨Ao13, co13, eo13⟩ := Kd.R_slice HO208.out
  (first | subst eo13 | (injection eo13 with f1_ f2_ f3_; have f4_ := f1_.symm; have f5_ := f3_.symm; clear f1_ f2_ f3_; subst f4_; subst f5_))
  refine hK.out _ _ ⟨(blk_cell BK201.out 0).trans rfl, (blk_cell BK201.out 1).trans rfl, (blk_cell BK201.out 2).trans rfl, (blk_cell BK201.out 3).trans rfl, (blk_cell BK202.out 0).trans rfl, (blk_cell BK202.out 1).trans rfl, (blk_cell BK202.out 2).trans rfl, (blk_cell BK202.out 3).trans rfl⟩ (fun hHeld => ?_)
  clear hK K
  refine norm_ (a' := ?_) ?_ ?_
  rotate_left
  · show Act.put _ (some 20) _ = _
    simp only [Act.put, List.setIfInBounds_toArray, List.set_cons_zero, List.set_cons_succ, i64_w, i32_w]
    rfl
  refine one_ (i := 16) (N := some 21) #[true, true, true, true, true, true, true, true, true, true, true, true, true, true, true, true, true, false] rfl rfl (one_of HT_.out (by kernel_rfl)) (by decide) (fun K hK => ?_)
  refine goes_ Try.func85 (by kernel_rfl) rfl #[.slice Ao13 y206.length co13] (by rfl) rfl rfl (by (try simp only [List.map_toArray, List.map_cons, List.map_nil]); first | done | rfl | (simp only [List.length_drop, List.length_take]; rfl)) ?_
  with_reducible refine (cmp_Or_int.calls k _ _ y206 t209 _ ?side1 ?side2 A6.out).mono ?_
  (case side1 => repeat (first | exact (Kd.R_reads' HO208.out).2.2 | (with_reducible refine Kd.C_alloc ?_ _) | (with_reducible refine Kd.C_drewN ?_ _) | (with_reducible refine Kd.C_drew ?_)))
  (case side2 => exact (Kd.R_reads' HO208.out).2.1)
  rintro e w' ⟨rfl, ⟨nd, rfl⟩⟩
  refine ⟨_, rfl, ?_⟩
  refine hK.out _ _ ⟨(blk_cell BK201.out 0).trans rfl, (blk_cell BK201.out 1).trans rfl, (blk_cell BK201.out 2).trans rfl, (blk_cell BK201.out 3).trans rfl, (blk_cell BK202.out 0).trans rfl, (blk_cell BK202.out 1).trans rfl, (blk_cell BK202.out 2).trans rfl, (blk_cell BK202.out 3).trans rfl⟩ (fun hHeld => ?_)
  clear hK K
  refine norm_ (a' := ?_) ?_ ?_
  rotate_left
  · show Act.put _ (some 21) _ = _
    simp only [Act.put, List.setIfInBounds_toArray, List.set_cons_zero, List.set_cons_succ, i64_w, i32_w]
    rfl
  refine pure_ (i := 17) (N := some 4) (v := ?_) (a' := ?_) #[true, true, true, true, true, true, true, true, true, true, true, true, true, true, true, true, true, true] rfl rfl (any_of HT_.out (by kernel_rfl)) (fun _ _ _ h => h) (Or.inl ⟨by rfl, ?_⟩) ?_ ?_
  rotate_left
  · intro w'
    go_simp
    with_reducible rfl
  rotate_left
  · simp only [Act.put, List.setIfInBounds_toArray, List.set_cons_zero, List.set_cons_succ, i64_w, i32_w]
    rfl
  refine done_ (done_of HT_.out (by kernel_rfl)) ?_
  (try clear hHeld); (try clear HS0_)
  try go_wp2
  go_ret
  exact ⟨by first | rfl | (simp [errW_none, errW_some] <;> rfl) | (simp [*, errW_none, errW_some] <;> rfl), by repeat (first | (with_reducible first | exact HB.out | apply dbelow_alloc | apply dpw_below_drewN | apply dbelow_drew1 | refine dbelow_set ?_ GE201.out | refine dbelow_set ?_ GE202.out) | exact HB.out)⟩

end Go.Proofs.Ytioooiflpabngaa.PAll

namespace Go.Proofs.Ytioooiflpabngaa.PAll
open Go.RowKit Go.Proofs.YtioooiflpabngaaW.PrintWords
set_option linter.unusedVariables false
set_option linter.unusedSimpArgs false

theorem compare64 (a b : Int) : cmp_Compare_uint64.f a b = some (cmpI a b) := by
  unfold cmp_Compare_uint64.f cmp_isNaN_uint64.f cmpI
  simp
  split <;> (try split) <;> simp_all
theorem compare_int (a b : Int) : cmp_Compare_int.f a b = some (cmpI a b) := by
  unfold cmp_Compare_int.f cmp_isNaN_int.f cmpI
  simp
  split <;> (try split) <;> simp_all
theorem ident_Compare_eq (a b : S25) : ident_Compare.f a.f0 a.f1 b.f0 b.f1 = some (cmpV a b) := by
  unfold ident_Compare.f cmpV
  rw [compare64, compare_int]
  simp only [Option.bind_some]
  by_cases h : cmpI a.f0 b.f0 = 0 <;> simp [h]
theorem or_three (a b c : Int) : cmp_Or_int.f 4 [a, b, c] = some (if a = 0 then (if b = 0 then c else b) else a) := by
  by_cases ha : a = 0 <;> by_cases hb : b = 0 <;> by_cases hc : c = 0 <;> simp [cmp_Or_int.f, cmp_Or_int.l0, YtioooiflpabngaaW.PrintWords.rd, ha, hb, hc, wrap64]
theorem label_Compare_eq (a b : S27) : label_Compare.f 4 a.f0.f0 a.f0.f1 a.f1 a.f2 b.f0.f0 b.f0.f1 b.f1 b.f2 = some (cmpL a b) := by
  unfold label_Compare.f
  rw [ident_Compare_eq, compare64, compare_int]
  simp only [Option.bind_some]
  rw [or_three]
  rfl
end Go.Proofs.Ytioooiflpabngaa.PAll

namespace Go.Proofs.Ytioooiflpabngaa.PAll
open Go.RowKit Go.Shelf Go.Proofs.YtioooiflpabngaaW.PrintWords Go.Proofs.YtioooiflpabngaaW.PrintLast Go.Proofs.YtioooiflpabngaaW.PrintMore
attribute [local go_sem] Oper.semAt_some
set_option linter.unusedVariables false
set_option linter.unusedSimpArgs false

/-- 'append(v, p)' as a run. -/
theorem R_append_run {α : Type} {P : Program} (d : Kd α) {w0 W : World} (base : Nat) (t ty e : TypeId) (z : Value) (bytes : Nat)
    (ht : P.underlying t = some (.slice e)) (hinfo : (P.info? e).map (fun i => (i.zero, i.size, i.bytes)) = some (some z, d.sz, bytes)) (hz : z.cells.size = d.sz) (hs0 : 0 < d.sz) (hb0 : 0 < bytes)
    (v : Value) (xs : List α) (p : α) (cs : List Value) (ok okp : Nat → Prop) (hp : d.M W base okp p cs) (hokp : ∀ k, okp k → ok k ∧ some k ≠ v.ownBlock) (hfresh : ∀ k, W.heap.size ≤ k → ok k)
    (HO : d.R e W base ok v xs) (HB : Below base w0 W) (hbase : base ≤ W.heap.size) (hl : (xs.length + 1) * bytes ≤ 140737488355328) :
    ∃ v1 w1, (Builtin.append_ #[t, t] ty #[v, .slice (some ⟨W.heap.size, 0, none⟩) 1 1]).run P (W.alloc (.cells cs.toArray e)) = .ok v1 w1 ∧ d.R e w1 base ok v1 (xs ++ [p]) ∧ Below base w0 w1 ∧ W.grownBy w1 v.ownBlock := by
  obtain ⟨h0, inner, hown, hr⟩ := HO
  obtain ⟨i0, hi, hzz⟩ := Option.map_eq_some_iff.1 hinfo
  simp only [Prod.mk.injEq] at hzz
  obtain ⟨hz0, hz1, hz2⟩ := hzz
  have hlen : xs.length + 1 ≤ 140737488355328 := Nat.le_trans (Nat.le_mul_of_pos_right _ hb0) hl
  have hcl := d.K_len (d.K_of_M hp)
  obtain ⟨v1, w1, hrun, hown1, hg, _, hat⟩ := run_append_own_at (P := P) (W.alloc (.cells cs.toArray e)) base t ty e i0 z d.sz bytes ht hi hz0 hz1 hz2 hz hs0 v xs.length inner (hown.alloc _) ⟨W.heap.size, 0, none⟩ 1 1 cs (by omega)
    (World.news_of_block (cs := cs.toArray) (t := e) (fr := (0, 0)) (heap_alloc_new W _)) (d.K_one (d.K_of_M hp)) (by simp only [maxLen]; omega) hl (by simp; omega)
  have hg1 : W.grownBy w1 v.ownBlock := World.grownBy.trans (World.grownBy_alloc W _ _) hg
  refine ⟨v1, w1, hrun, Kd.R_appended h0 hr hp hokp hfresh hown1 hg1 ?_, (HB.alloc hbase _).grown hg (by simp; omega) (own_base hown), hg1⟩
  rcases hat with hat | hat
  · exact .inl hat
  · exact .inr ⟨_, hat, by simp⟩

/-- 'append(v, p)' at the operation, within a fence. -/
theorem RIn_append {α : Type} {F : Fence} {nF : Nat} {P : Program} {ops : Array Oper} {rest : List Oper} {o : Oper} {a : Act} {Q : Exit → Act → World → Prop} (d : Kd α) {w0 W : World} (base : Nat) (hgd : o.guard = none) (s x : Operand) (t e : TypeId) (z : Value) (bytes : Nat)
    (ho : o.op = .call { callee := .builtin .append, args := #[s, x], argTypes := #[t, t] })
    (ht : P.underlying t = some (.slice e)) (hinfo : (P.info? e).map (fun i => (i.zero, i.size, i.bytes)) = some (some z, d.sz, bytes)) (hz : z.cells.size = d.sz) (hs0 : 0 < d.sz) (hb0 : 0 < bytes)
    (v : Value) (xs : List α) (p : α) (cs : List Value) (ok okp : Nat → Prop) (hs : a.eval s = v) (hx : a.eval x = .slice (some ⟨W.heap.size, 0, none⟩) 1 1) (hp : d.M W base okp p cs) (hokp : ∀ k, okp k → ok k ∧ some k ≠ v.ownBlock) (hfresh : ∀ k, W.heap.size ≤ k → ok k)
    (HO : d.R e W base ok v xs) (HB : Below base w0 W) (hbase : base ≤ W.heap.size) (hl : (xs.length + 1) * bytes ≤ 140737488355328)
    (h : ∀ v1 w1, d.R e w1 base ok v1 (xs ++ [p]) → Below base w0 w1 → W.grownBy w1 v.ownBlock → wpListIn F nF P ops Q rest (a.put o.dst v1) w1) :
    wpListIn F nF P ops Q (o :: rest) a (W.alloc (.cells cs.toArray e)) := by
  refine wpListIn_plain hgd fun K hK => ?_
  obtain ⟨v1, w1, hr, h2, h3, h4⟩ := R_append_run (P := P) d (w0 := w0) base t o.type e z bytes ht hinfo hz hs0 hb0 v xs p cs ok okp hp hokp hfresh HO HB hbase hl
  unfold Oper.wpIn
  refine ⟨by simp [Oper.about, ho, resolve, Target.leads, Sem.run_pure], ?_⟩
  rw [Oper.semAt_plain F _ _ (by rw [ho]; intro c hc'; cases hc')]
  simp [execOp, ho, resolve, invoke, builtin, hs, hx, hr, Result.andThen]
  exact hK _ _ (h v1 w1 h2 h3 h4)

theorem valuesL (A : Option Addr) (n c : Nat) (w : World) :
    Calls Try.prog 81 #[.slice A n c] w fun e w' => e = .returned (.func (.func 116) #[] #[.pointer (some ⟨w.heap.size, 0, none⟩)]) ∧ w' = w.alloc (.cells #[.slice A n c] 41) := by
  go_enter Try.func81, Try.ntmps81
  go_wp2
  go_ret
  exact ⟨rfl, rfl⟩

def encL (x : S27) : List Value := [.int .u64 x.f0.f0, .int .i64 x.f0.f1, .int .u64 x.f1, .int .i64 x.f2]
theorem take_snocL (l : List S27) (k : Nat) (h : k < l.length) : l.take (k + 1) = l.take k ++ [rd_T27 l k] := by
  rw [List.take_succ_eq_append_getElem h]
  simp [rd_T27, h]

set_option maxRecDepth 100000 in
set_option maxHeartbeats 4000000 in
theorem values1L_in (F : Fence) (n : Nat) (h7 : F.fn 116) (hro : F.round = none) (hn : 1 ≤ n) (l Bs : Nat) (A : Option Addr) (cap : Nat) (zs : List S27) (w0 : World) (hlen : zs.length < 4398046511104) (HC : Kd.C k27 w0 A zs.length zs) (J Jx : List S27 → World → Prop)
    (hY : ∀ pre x W, J pre W → pre.length < zs.length → YieldAt F (n - 1) Try.prog l #[.agg (encL x).toArray] W fun e W' =>
      (e = .returned (.bool true) ∧ J (pre ++ [x]) W' ∧ Below w0.heap.size W W') ∨ (e = .returned (.bool false) ∧ Jx (pre ++ [x]) W'))
    (hJa : ∀ s W o, J s W → J s (W.alloc o))
    (W : World) (hW : Below w0.heap.size w0 W) (hBs : W.cell? ⟨Bs, 0, none⟩ = some (.slice A zs.length cap)) (h0 : J [] W) :
    CallsIn F n Try.prog 116 #[.func (.yield l) #[] #[], .pointer (some ⟨Bs, 0, none⟩)] W fun e W' => (∃ v, e = .returned v) ∧
      ((∃ ys, ys = zs ∧ J ys W') ∨ (∃ pre, True ∧ Jx pre W')) := by
  have HL := Aside0.mk hlen
  clear hlen
  have HC := Aside0.mk HC
  refine callsIn_of_wp Try.func116 rfl h7 ?_ hro
  simp only [Try.ntmps116, List.size_toArray, List.length_cons, List.length_nil, Nat.reduceAdd, Nat.reduceSub, Array.replicate_succ, Array.replicate_zero, List.push_toArray, List.append_toArray, List.nil_append, List.cons_append]
  gi_wp2
  gi_loopw [7] (fun i wr => ∃ k : Nat, k ≤ zs.length ∧ i = .int .i64 k ∧ J (zs.take k) wr ∧ Aside0 (Below w0.heap.size w0 wr))
    (fun i _ => zs.length - (intOf i).toNat)
  case atStart => exact ⟨0, Nat.zero_le _, rfl, by simpa using h0, ⟨hW⟩⟩
  case round =>
    obtain ⟨k, hk, rfl, hJs, hnx⟩ := hrel
    by_cases hlt : k < zs.length
    · obtain ⟨ad, e, hx0, hx1, hx2, hx3⟩ := at_T27 (Kd.C_below HC.out hnx.out) (k : Int) (by omega) (by omega)
      subst e
      rw [Int.toNat_natCast] at hx0 hx1 hx2 hx3
      obtain ⟨fn, tmps, assign, body, hy, hR⟩ := hY _ (rd_T27 zs k) (wr.alloc (.cells (encL (rd_T27 zs k)).toArray 27)) (hJa _ _ _ hJs) (by rw [List.length_take]; omega)
      simp only [encL] at hy
      have HK := Aside0.mk hk
      clear hk
      have hlt' : (k : Int) < (zs.length : Int) := by omega
      have hz2 := HL.out
      gi_wp2
      refine hR.mono ?_
      rintro e W3 (⟨rfl, hJ3, hk3⟩ | ⟨rfl, hJx3⟩)
      · gi_wp2
        go_roundw
        case rel => exact ⟨k + 1, by omega, by simp, by rw [take_snocL _ _ hlt]; exact hJ3, ⟨(hnx.out.alloc hnx.out.size _).trans hk3⟩⟩
        case measure => simp [intOf]; omega
      · gi_wp2
        refine bodyPost_ret (results_none rfl _ _ _) rfl ?_
        exact ⟨⟨_, rfl⟩, .inr ⟨_, trivial, hJx3⟩⟩
    · obtain rfl : k = zs.length := by omega
      gi_wp2
      go_end0
      exact ⟨⟨_, rfl⟩, .inl ⟨_, rfl, by simpa using hJs⟩⟩
theorem values_stopsL (F : Fence) (n : Nat) (h7 : F.fn 116) (hro : F.round = none) (hn : 1 ≤ n) (Bs : Nat) (A : Option Addr) (cap : Nat) (zs : List S27) (w : World) (hlen : zs.length < 4398046511104) (HC : Kd.C k27 w A zs.length zs) (hBs : w.cell? ⟨Bs, 0, none⟩ = some (.slice A zs.length cap)) :
    SeqStopsK F n Try.prog 116 #[.pointer (some ⟨Bs, 0, none⟩)] (fun x : S27 => #[.agg (encL x).toArray]) (Below w.heap.size) (fun ys => ys = zs) (fun _ => True) zs.length w := fun l J Jx W hW hJ _ hY h0 =>
  values1L_in F n h7 hro hn l Bs A cap zs w hlen HC J Jx hY (fun s W' o hs => hJ s W' _ none hs (World.grownBy_alloc W' o none) (fun r e => by cases e)) W hW ((hW.cell (p := ⟨Bs, 0, none⟩) (World.block_lt_of_cell? w _ hBs)).trans hBs) h0

def IApp (w0 : World) (B : Nat) (pre : List S27) (W : World) : Prop := ∃ v, Boxed W B 41 v ∧ Kd.R k27 27 W w0.heap.size (fun k => k ≠ B) v pre ∧ Below w0.heap.size w0 W

theorem R_others {α : Type} {d : Kd α} {e base B : Nat} {ok : Nat → Prop} {v : Value} {xs : List α} {W W' : World} {row : Option Nat} (h : d.R e W base ok v xs) (hg : W.grownBy W' row) (hr : ∀ r, row = some r → B ≤ r ∧ ∃ o : Obj, W.heap[r]? = some o ∧ o.isCells = false) : d.R e W' base ok v xs :=
  Kd.R_mono (Kd.R_grown (Kd.R_bound h) hg (fun k hk e => by
    obtain ⟨_, o, ho, hc⟩ := hr k e.symm
    obtain ⟨_, _, _, q, _, cells, hcell⟩ := hk
    rw [hcell] at ho
    cases ho
    cases hc)) (fun _ hk => hk.1)
theorem IApp_own (w0 : World) (B B' : Nat) (hB : B < B') (h0 : w0.heap.size ≤ B') : OwnFrom B' (IApp w0 B) := by
  rintro s W W' row ⟨v, hb, hR, hbel⟩ hg hr
  exact ⟨v, hb.kept hg (fun e => by have := (hr B e.symm).1; omega), R_others hR hg hr, hbel.grown hg hbel.size (fun k e => Nat.le_trans h0 (hr k e).1)⟩

def actApp (Bs B B5 : Nat) (x : S27) : Act :=
  { tmps := #[.slice none 0 0, .func (.func 116) #[] #[.pointer (some ⟨Bs, 0, none⟩)], .pointer (some ⟨B, 0, none⟩), undef, .slice none 0 0, .pointer (some ⟨B5, 0, none⟩), .func (.func 116) #[] #[.pointer (some ⟨Bs, 0, none⟩)], .agg (encL x).toArray, undef, undef, undef, undef, undef], defers := [] }
def AxApp (Bs B : Nat) (x : S27) (a : Act) (W : World) : Prop := ∃ B5, W.heap[B5]? = some (.cells (encL x).toArray 27 (0, 0)) ∧ a = actApp Bs B B5 x
theorem AxApp_own (B' Bs B : Nat) (x : S27) (a : Act) : OwnFrom B' (fun (_ : Unit) W => AxApp Bs B x a W) := by
  rintro _ W W' row ⟨B5, hb, he⟩ hg hr
  refine ⟨B5, (hg.block B5 (blk_lt hb) (fun e => ?_)).trans hb, he⟩
  obtain ⟨_, o, ho, hc⟩ := hr B5 e.symm
  rw [hb] at ho
  cases ho
  cases hc
theorem M_L (W : World) (base : Nat) (ok : Nat → Prop) (x : S27) : k27.M W base ok x (encL x) := k27_mkM W base ok x
theorem keeps_append {W w1 : World} {B0 B e base : Nat} {α : Type} {d : Kd α} {ok : Nat → Prop} {v v1 : Value} {xs : List α} (hR : d.R e W base ok v xs) (hg : W.grownBy w1 v.ownBlock) (hB : B < B0) : KeepsFrom B0 W (w1.setCell ⟨B, 0, none⟩ v1) := by
  refine ⟨by simpa using hg.size, fun k o hk h0 ho => ?_⟩
  have h1 : w1.heap[k]? = some o := (hg.block k (blk_lt h0) (fun e => by
    obtain ⟨inner, hown⟩ := Kd.R_own hR
    obtain ⟨cells, hc⟩ := own_typed hown k e.symm
    rw [hc] at h0
    cases h0
    cases ho)).trans h0
  exact (Below.heap_setCell w1 ⟨B, 0, none⟩ v1 k (by show k ≠ B; omega)).trans h1

set_option maxRecDepth 100000 in
set_option maxHeartbeats 4000000 in
theorem appendSeqL (Bs : Nat) (A : Option Addr) (cap : Nat) (zs : List S27) (w : World) (hlen : zs.length < 4398046511104) (HC : Kd.C k27 w A zs.length zs) (hBs : w.cell? ⟨Bs, 0, none⟩ = some (.slice A zs.length cap)) :
    Calls Try.prog 128 #[.slice none 0 0, .func (.func 116) #[] #[.pointer (some ⟨Bs, 0, none⟩)]] w fun e w' => ∃ v, e = .returned v ∧ Kd.R k27 27 w' w.heap.size (fun _ => True) v zs ∧ Below w.heap.size w w' := by
  refine (callsIn_wide (n := 6)).1 ?_
  refine callsIn_of_wp_marks Try.func128 rfl trivial ?_ rfl
  simp only [Try.ntmps128, List.size_toArray, List.length_cons, List.length_nil, Nat.reduceAdd, Nat.reduceSub, Array.replicate_succ, Array.replicate_zero, List.push_toArray, List.append_toArray, List.nil_append, List.cons_append]
  have hseq := values_stopsL Fence.wide 5 trivial rfl (by decide) Bs A cap zs w hlen HC hBs
  have HS := Aside0.mk hseq
  clear hseq HC
  have HL := Aside0.mk hlen
  clear hlen hBs
  gi_wp2
  refine wpIn_rangeFunc_ownH rfl (by decide) (gf := 116) (lb := #[.pointer (some ⟨Bs, 0, none⟩)]) rfl trivial (enters_of Try.func116 (by kernel_rfl) rfl) HS.out (fun h k => h.trans k) (belowK_b (by simp)) ((Below.refl _ _).alloc (Nat.le_refl _) _) (fun _ => rfl) (IApp w w.heap.size) (fun _ _ _ => False) ?hI (fun _ _ _ _ _ hs _ _ => hs) ?h0 (AxApp Bs w.heap.size) ?hAx ?assign ?body ?done ?stop
  case hI => exact IApp_own w _ _ (by simp) (by simp)
  case h0 => exact ⟨.slice none 0 0, Boxed.new w _ _, Kd.R_nil _ _ _ _ _, (Below.refl _ _).alloc (Nat.le_refl _) _⟩
  case hAx => exact fun x a' => AxApp_own _ _ _ x a'
  case stop => exact fun _ _ _ _ _ _ h => h.elim
  case assign =>
    intro l pre x W K hI hK
    simp only [List.zip_toArray, List.zip_cons_cons, List.zip_nil_right, List.foldl_toArray', List.foldl_cons, List.foldl_nil, List.setIfInBounds_toArray, List.set_cons_succ, List.set_cons_zero, encL]
    have HI := Aside0.mk hI
    clear hI
    have HK := Aside0.mk (fun (h : IApp w w.heap.size pre (W.alloc (.cells (encL x).toArray 27))) => hK (actApp Bs w.heap.size W.heap.size x) (W.alloc (.cells (encL x).toArray 27)) ((KeepsOthers.alloc W _).from _) ((Below.refl _ _).alloc HI.out.choose_spec.2.2.size _) h ⟨W.heap.size, heap_alloc_new W _, rfl⟩)
    clear hK
    gi_wp2
    exact HK.out (IApp_own w _ _ (Nat.lt_succ_self _) (by omega) _ _ _ none HI.out (World.grownBy_alloc W _ none) (fun r e => by cases e))
  case body =>
    rintro l pre x a' W hl - ⟨v, hbx, hR, hbel⟩ ⟨B5, hB5, rfl⟩ hlen
    have hlt := hbx.lt
    have hne : some w.heap.size ≠ v.ownBlock := fun e => hR.1 _ e.symm rfl
    have hc2 := hbx.cell
    have hx0 : W.cell? ⟨B5, 0, none⟩ = some (.int .u64 x.f0.f0) := (blk_cell hB5 0).trans rfl
    have hx1 : W.cell? ⟨B5, 1, none⟩ = some (.int .i64 x.f0.f1) := (blk_cell hB5 1).trans rfl
    have hx2 : W.cell? ⟨B5, 2, none⟩ = some (.int .u64 x.f1) := (blk_cell hB5 2).trans rfl
    have hx3 : W.cell? ⟨B5, 3, none⟩ = some (.int .i64 x.f2) := (blk_cell hB5 3).trans rfl
    have HBX := Aside0.mk hbx
    have HR := Aside0.mk hR
    have HBL := Aside0.mk hbel
    have HN := Aside0.mk hlen
    have HLT := Aside0.mk hlt
    have HNE := Aside0.mk hne
    clear hbx hR hbel hne hB5 hlt hlen hl
    simp only [actApp, encL]
    gi_wp2_with (gi_at_builtin; refine RIn_append k27 (w0 := w) (W := W) w.heap.size rfl (.tmp 8) (.tmp 10) 41 27 (.agg #[(.int .u64 0), (.int .i64 0), (.int .u64 0), (.int .i64 0)]) 32 rfl Try.underlying41 info27 rfl (by decide) (by decide) v pre x (encL x) (fun k => k ≠ w.heap.size) (fun _ => False) rfl rfl (M_L _ _ _ x) (fun _ h => h.elim) ?hfr HR.out HBL.out HBL.out.size ?hln ?_; (case hfr => intro k hk; have := HLT.out; omega); (case hln => have := HL.out; have := HN.out; omega); intro v1 w1 hR1 hB1 hg1; obtain ⟨A1, k1, e1⟩ := Kd.R_slice hR1; subst e1; have hbx1 := HBX.out.kept hg1 HNE.out; have hc1 := hbx1.cell; have hf1 := hbx1.frozen; have F1 := Aside0.mk (keeps_append (B0 := w.heap.size + 1) (B := w.heap.size) (v1 := .slice A1 (pre ++ [x]).length k1) HR.out hg1 (by omega)); have F2 := Aside0.mk (show Below w.heap.size W (w1.setCell ⟨w.heap.size, 0, none⟩ (.slice A1 (pre ++ [x]).length k1)) from ((Below.refl _ _).grown hg1 HBL.out.size (Kd.R_base HR.out)).setCell (Nat.le_refl _) _); have F3 := Aside0.mk (show IApp w w.heap.size (pre ++ [x]) (w1.setCell ⟨w.heap.size, 0, none⟩ (.slice A1 (pre ++ [x]).length k1)) from ⟨.slice A1 (pre ++ [x]).length k1, by simpa [Boxed] using blk_set hbx1 0 (.slice A1 (pre ++ [x]).length k1), Kd.R_far hR1 (fun k hk => hk) _, below_set hB1 (Nat.le_refl _)⟩); clear hbx1 hR1 hB1 hg1)
    exact ⟨by simpa using F1.out, by simpa using F2.out, by simpa using F3.out⟩
  case done =>
    rintro D xs W hD rfl ⟨v, hbx, hR, hbel⟩ hK
    have hc := hbx.cell
    have F1 := Aside0.mk hR
    have F2 := Aside0.mk hbel
    have F3 := Aside0.mk hD
    clear hbx hR hbel hD
    obtain ⟨A1, k1, e1⟩ := Kd.R_slice F1.out
    subst e1
    gi_wp2
    refine ⟨by simp, .inl ⟨_, _, rfl, run_takeDeferred hK, ?_⟩⟩
    exact ⟨.slice A1 xs.length k1, by simp [results, go_sem, Try.results128], _, rfl, Kd.R_mono (R_others (B := D) F1.out (grownBy_putObj' W D _) (fun r e => by cases e; exact ⟨Nat.le_refl _, _, hK, rfl⟩)) (fun _ _ => trivial), F2.out.grown (grownBy_putObj' W D _) F2.out.size (fun k e => by cases e; have := F3.out; simp at this; omega)⟩
end Go.Proofs.Ytioooiflpabngaa.PAll

namespace Go.Proofs.Ytioooiflpabngaa.PAll
open Go.RowKit Go.Sort Go.Shelf Go.Proofs.YtioooiflpabngaaW.PrintWords Go.Proofs.YtioooiflpabngaaW.PrintLast Go.Proofs.YtioooiflpabngaaW.PrintMore
set_option linter.unusedVariables false
set_option linter.unusedSimpArgs false

theorem swoL : SWO (ltOf cmpL) where
  irrefl x := by
    have := ltL_irrefl x
    rw [← cmpL_neg] at this
    simpa [ltOf] using this
  trans x y z h1 h2 := by
    simp only [ltOf, decide_eq_true_eq] at *
    rw [cmpL_neg] at *
    exact ltL_trans h1 h2
  ntrans x y z h1 h2 := by
    simp only [ltOf, decide_eq_false_iff_not] at *
    rw [cmpL_neg] at *
    intro h3
    rcases ltL_total x y with h | h | h
    · exact h1 h
    · subst h; exact h2 h3
    · rcases ltL_total y z with k | k | k
      · exact h2 k
      · subst k; exact h1 h3
      · exact ltL_irrefl _ (ltL_trans h3 (ltL_trans k h))
theorem totL (x y : S27) (h1 : ltOf cmpL x y = false) (h2 : ltOf cmpL y x = false) : x = y := by
  simp only [ltOf, decide_eq_false_iff_not] at *
  rw [cmpL_neg] at *
  rcases ltL_total x y with h | h | h
  · exact absurd h h1
  · exact h
  · exact absurd h h2
theorem compare_call (x y : S27) (W : World) : Calls Try.prog 42 #[.agg (encL x).toArray, .agg (encL y).toArray] W fun e w' => e = .returned (.int .i64 (cmpL x y)) ∧ BlwD W.heap.size W w' :=
  label_Compare.callsD 4 _ _ _ _ _ _ _ _ _ W (label_Compare_eq x y)
theorem compare_lays (blk off size : Nat) (w : World) : CmpLays Try.prog 42 #[] encL 4 cmpL blk off size w := fun m os dk _ x y =>
  (compare_call x y _).mono fun _ _ ⟨he, hb⟩ => ⟨he, hb.grow⟩
/-- The sorted row. -/
def sortedL (xs : List S27) : List S27 := xs.mergeSort fun x y => !(ltOf cmpL) y x
theorem sortedL_length (xs : List S27) : (sortedL xs).length = xs.length := List.length_mergeSort _
theorem encL_len (x : S27) : (encL x).length = 4 := rfl
theorem encL_one (x : S27) : ∀ v ∈ encL x, v.oneCell' = true := by
  intro v hv
  simp only [encL, List.mem_cons, List.not_mem_nil, or_false] at hv
  rcases hv with rfl | rfl | rfl | rfl <;> rfl
theorem flat_chunk (ys : List S27) (j : Nat) (p : S27) (hj : ys[j]? = some p) : (((flatK encL 4 ys.toArray).toList.drop (j * 4)).take 4) = encL p := by
  obtain ⟨hlt, hp⟩ := List.getElem?_eq_some_iff.1 hj
  have hsz : (flatK encL 4 ys.toArray).size = ys.length * 4 := by simp
  apply List.ext_getElem
  · simp [encL_len]; omega
  · intro i h1 h2
    have hi : i < 4 := by simpa [encL_len] using h2
    have hlt2 : j * 4 + i < ys.length * 4 := by omega
    rw [List.getElem_take, List.getElem_drop, Array.getElem_toList, ← getElem!_pos (flatK encL 4 ys.toArray) (j * 4 + i) (by rw [hsz]; omega), get_flatK _ _ _ _ (by simpa using hlt2)]
    have e1 : (j * 4 + i) / 4 = j := by omega
    have e2 : (j * 4 + i) % 4 = i := by omega
    rw [e1, e2]
    have e3 : ys.toArray[j]! = p := by simp [getElem!_pos, hlt, hp]
    rw [e3, getElem!_pos (encL p) i h2]
theorem flat_reps (W : World) (base : Nat) (ok : Nat → Prop) (ys : List S27) : Reps (k27.M W base ok) 4 ys (flatK encL 4 ys.toArray).toList :=
  ⟨by simp, fun j p hj => by rw [flat_chunk ys j p hj]; exact M_L W base ok p⟩
theorem inner_flat {W : World} {base : Nat} {ok : Nat → Prop} {xs : List S27} {inner : List Value} (h : Reps (k27.M W base ok) 4 xs inner) : inner = (flatK encL 4 xs.toArray).toList := by
  have hl := h.1
  apply List.ext_getElem
  · simp [hl]
  · intro t h1 h2
    have ht : t < xs.length * 4 := by omega
    have hj : t / 4 < xs.length := by omega
    have hc := h.2 (t / 4) _ (List.getElem?_eq_getElem hj)
    have hc2 := k27_openM hc
    have hf := flat_chunk xs (t / 4) _ (List.getElem?_eq_getElem hj)
    have e : (inner.drop (t / 4 * 4)).take 4 = ((flatK encL 4 xs.toArray).toList.drop (t / 4 * 4)).take 4 := by rw [hf, hc2]; rfl
    have e2 := congrArg (fun l => l[t % 4]?) e
    simp only [List.getElem?_take, List.getElem?_drop] at e2
    have e3 : t / 4 * 4 + t % 4 = t := by omega
    rw [if_pos (by omega), if_pos (by omega), e3, List.getElem?_eq_getElem h1, List.getElem?_eq_getElem h2] at e2
    exact Option.some.inj e2
theorem put_take (F c : Array Value) (h : F.size ≤ c.size) : (putCells id 0 F c).toList.take F.size = F.toList := by
  apply List.ext_getElem
  · simp [putCells]; omega
  · intro i h1 h2
    have hi : i < F.size := by simpa using h2
    simp [putCells, hi]
theorem sorted_block (w : World) (n g : Nat) (cur : Array Value) (hh : w.heap[g]? = some (.cells cur 27 (0, 0))) (d : Array S27) (os : Array Obj) :
    (sortWorldK encL 4 w g 0 n d os).heap[g]? = some (.cells (putCells id 0 (flatK encL 4 d) cur) 27 (0, 0)) := by
  unfold sortWorldK putRowK putRow
  rw [heap_grow_old _ _ (by have := blk_lt hh; simpa [mapBlock] using this)]
  simp [mapBlock, Array.getElem?_modify, hh, onCells]
theorem sorted_grown (w : World) (n g : Nat) (d : Array S27) (os : Array Obj) : w.grownBy (sortWorldK encL 4 w g 0 n d os) (some g) := by
  refine ⟨rfl, rfl, rfl, by simp [sortWorldK, putRowK], fun i hi hne => ?_⟩
  unfold sortWorldK putRowK putRow
  rw [heap_grow_old _ _ (by simpa [mapBlock] using hi)]
  have : g ≠ i := fun e => hne (by rw [e])
  simp [mapBlock, Array.getElem?_modify, this]

set_option maxRecDepth 100000 in
theorem sortFuncL (v : Value) (xs : List S27) (w : World) (base : Nat) (ok : Nat → Prop) (hR : Kd.R k27 27 w base ok v xs) (hlen : xs.length < 4398046511104) :
    Calls Try.prog 115 #[v, .func (.func 42) #[] #[]] w fun e w' => e = .returned (.tuple #[]) ∧ Kd.R k27 27 w' base ok v (sortedL xs) ∧ w.grownBy w' v.ownBlock := by
  rcases Nat.eq_zero_or_pos xs.length with h0 | h0
  · obtain rfl := List.eq_nil_of_length_eq_zero h0
    obtain ⟨A, c, rfl⟩ := Kd.R_slice hR
    have hS := AnyF.slices_SortFunc_none (P := Try.prog) Try.sortLab A c (.func (.func 42) #[] #[]) w
    change Calls Try.prog 115 _ _ _ at hS
    refine hS.mono ?_
    rintro e w' ⟨rfl, rfl⟩
    exact ⟨rfl, by simpa [sortedL] using hR, World.grownBy.refl _ _⟩
  · obtain ⟨hok, inner, ⟨hl, hown⟩, hr⟩ := hR
    rcases hown with ⟨rfl, hn⟩ | ⟨g, cap, cur, rfl, hb, hh, hnc, hcm, hcs, htk⟩
    · omega
    · have hin := inner_flat hr
      have hH : HoldsK encL 4 w g 0 xs.toArray := by
        intro t ht
        have ht4 : t < xs.length * 4 := by simpa using ht
        have hsz : k27.sz = 4 := rfl
        rw [hsz] at hcs htk
        have hcl : t < cur.size := by rw [hcs]; omega
        refine ⟨?_, by simp [World.frozen?, hh]⟩
        have e1 : cur[t]? = some (flatK encL 4 xs.toArray)[t]! := by
          have e2 : cur.toList[t]? = (flatK encL 4 xs.toArray).toList[t]? := by
            rw [← hin, ← htk, List.getElem?_take, if_pos ht4]
          rw [Array.getElem?_toList, Array.getElem?_toList] at e2
          rw [e2, getElem!_pos (flatK encL 4 xs.toArray) t ht, Array.getElem?_eq_getElem ht]
        simp [World.cell?, hh, e1]
      have eg : ∀ args w, (callFunc 42 args).run Try.prog w = .ok (.enter 42 args) w := enters_of Try.func42 (by kernel_rfl) rfl
      have hS := AnyQ.slices_SortFunc_total Try.sortLab 4 Try.isAgg27 Try.sizeOf27 encL encL_len encL_one cmpL swoL 42 #[] g 0 cap xs.toArray w eg (compare_lays g 0 _ w) hH (blk_lt hh) (by simp; omega) totL
      change Calls Try.prog 115 _ _ _ at hS
      refine hS.mono ?_
      rintro e w' ⟨rfl, n, os, rfl⟩
      have hs : sortedL xs = (xs.toArray.toList.mergeSort fun x y => !(ltOf cmpL) y x) := rfl
      rw [← hs]
      have hbk := sorted_block w n g cur hh (sortedL xs).toArray os
      refine ⟨rfl, ⟨hok, (flatK encL 4 (sortedL xs).toArray).toList, ⟨by rw [sortedL_length]; simp [sortedL_length]; rfl, .inr ⟨g, cap, _, by rw [sortedL_length], hb, hbk, by rw [sortedL_length]; exact hnc, hcm, by simpa [putCells] using hcs, ?_⟩⟩, flat_reps _ _ _ _⟩, sorted_grown w n g _ os⟩
      have h4 := put_take (flatK encL 4 (sortedL xs).toArray) cur (by rw [hcs]; simp [sortedL_length]; exact Nat.mul_le_mul_right 4 hnc)
      have e4 : (flatK encL 4 (sortedL xs).toArray).size = (sortedL xs).length * k27.sz := by simp; rfl
      rw [e4] at h4
      exact h4
end Go.Proofs.Ytioooiflpabngaa.PAll

namespace Go.Proofs.Ytioooiflpabngaa.PAll
open Go.RowKit Go.Sort Go.Shelf Go.Proofs.YtioooiflpabngaaW.PrintWords Go.Proofs.YtioooiflpabngaaW.PrintLast Go.Proofs.YtioooiflpabngaaW.PrintMore
set_option linter.unusedVariables false
set_option linter.unusedSimpArgs false
instance : DecidableEq S27 := fun a b => decidable_of_iff (eqL a b = true) eqL_iff

theorem step_callV {P : Program} {w : World} {ops : Array Oper} {o : Oper} {a : Act} {K : Act → World → Prop} {Q : Exit → Act → World → Prop} {E : Prop} (hgd : o.guard = none) {f : FuncId} {fn : Func} {as_ : Array Operand} {ts : Array TypeId} {t : Tmp} (hf : P.funcs[f]? = some fn) (hname : (fn.name == "runtime.NumGoroutine") = false) (hb : fn.body.isSome = true) (args : Array Value)
    (hop : o.op = .call { callee := .value (.tmp t), args := as_, argTypes := ts }) (hv : a.eval (.tmp t) = .func (.func f) #[] #[]) (hargs : as_.map a.eval = args)
    (h : Calls P f args w fun e w' => ∃ v, e = .returned v ∧ K (a.put o.dst v) w') : if Region.wanted o (yielded ops a.tmps) = true then Oper.wp P o a w K Q else E := by
  have hw : Region.wanted o (yielded ops a.tmps) = true := by simp [Region.wanted, hgd]
  have h2 : if Region.wanted o (yielded ops a.tmps) = true then Oper.wp P o a w K Q else K (a.put o.dst undef) w := by
    refine call_ f args hw rfl ?_ h
    have he := enters_ hf hname hb args w
    unfold execOp
    simp [hop, resolve, hv, Deferred.ofValue, invoke, hargs, he]
  rw [if_pos hw] at h2 ⊢
  exact h2

section
attribute [local go_sem high] eqA27
set_option maxRecDepth 100000 in
theorem same1 (x y : S27) (W : World) : Calls Try.prog 82 #[.agg (encL x).toArray, .agg (encL y).toArray] W fun e w' => e = .returned (.bool (eqL x y)) ∧ Below W.heap.size W w' := by
  unfold encL
  go_enter Try.func82, Try.ntmps82
  go_wp2
  go_ret
  exact ⟨rfl, by repeat (first | exact Below.refl _ _ | apply below_alloc | refine below_set ?_ (Nat.le_refl _))⟩
end

theorem rd_at (xs : List S27) (n : Nat) : rd_T27 xs (n : Int) = xs.toArray[n]! := by
  unfold rd_T27
  rw [Int.toNat_natCast, List.getD_eq_getElem?_getD]
  by_cases h : n < xs.length
  · simp [h]
  · simp [h]
    rfl
theorem sizeL : (Try.prog.info? 27).map (·.size) = some 4 := by
  obtain ⟨i, hi, he⟩ := Option.map_eq_some_iff.1 info27
  simp only [Prod.mk.injEq] at he
  rw [hi, Option.map_some, he.2.1]
theorem rd_atA (dk : Array S27) (n : Nat) : rd_T27 dk.toList (n : Int) = dk[n]! := by rw [rd_at]
theorem grown_step {w wi w3 : World} {row : Option Nat} (h : w.grownBy wi row) (hb : Below wi.heap.size wi w3) : w.grownBy w3 row :=
  ⟨hb.os.trans h.os, hb.tape.trans h.tape, hb.output.trans h.output, Nat.le_trans h.size hb.size, fun t ht hne => (hb.block t (Nat.lt_of_lt_of_le ht h.size)).trans (h.block t ht hne)⟩
theorem storeL {ops : Array Oper} {rest : List Oper} {o : Oper} {a : Act} {Q : Exit → Act → World → Prop} {W w0 : World} {base g n c : Nat} {ok : Nat → Prop} {xs : List S27} (hN : o.dst = none) (hgd : o.guard = none) (p x : Operand) (ho : o.op = .store 27 p x) (k : Nat) (y : S27) (o' : Nat)
    (haddr : a.eval p = .pointer (some ⟨g, o', none⟩)) (hoff : o' = k * 4) (hx : a.eval x = .agg #[.int .u64 y.f0.f0, .int .i64 y.f0.f1, .int .u64 y.f1, .int .i64 y.f2]) (HO : Kd.R k27 27 W base ok (.slice (some ⟨g, 0, none⟩) n c) xs) (hk : k < n) (HB : Below base w0 W)
    (h : ∀ w1, Kd.R k27 27 w1 base ok (.slice (some ⟨g, 0, none⟩) n c) (xs.set k y) → Below base w0 w1 → W.grownBy w1 (some g) → wpList Try.prog ops Q rest a w1) : wpList Try.prog ops Q (o :: rest) a W := by
  have hC := (Kd.R_reads' HO).2.2
  have hn := (Kd.R_reads' HO).1
  obtain ⟨ad, e, hz0, hz1, hz2, hz3⟩ := at_T27 hC (k : Int) (by omega) (by omega)
  obtain rfl := Option.some.inj e
  rw [Int.toNat_natCast] at hz0 hz1 hz2 hz3
  simp only [Addr.add_lit, Nat.zero_add] at hz0 hz1 hz2 hz3
  refine Kd.R_store k27 (w0 := w0) base hN hgd 27 p x ho 27 (g := g) (n := n) (cap := c) (o' := o') (k : Int) 0 xs y (.agg (encL y).toArray) (encL y) (encL (rd_T27 xs (k : Int))) ok (fun _ => False) haddr (by rw [hoff, Int.toNat_natCast]; rfl) hx rfl sizeL (encL_one y) HO (by omega) (by omega) rfl ?_ (Nat.le_refl 4) (M_L _ _ _ y) (fun _ h => h.elim) HB ?_
  · intro j u hu
    rw [Int.toNat_natCast]
    rcases j with _ | _ | _ | _ | j
    · cases hu; exact hz0
    · cases hu; exact hz1
    · cases hu; exact hz2
    · cases hu; exact hz3
    · simp [encL] at hu
  · intro w1 h1 h2 h3
    rw [Int.toNat_natCast] at h1
    exact h w1 h1 h2 h3
theorem run_clear_rows {P : Program} (w : World) (t e ty : TypeId) (z : Value) (ht : P.underlying t = some (.slice e)) (hv : (zeroValue e).run P w = .ok z w) (g o n c : Nat) (h1 : ∀ q ∈ (Builtin.zeroCells z.cells n).toList, q.oneCell' = true) (hn : 0 < n) (cur : Array Value) (hh : w.heap[g]? = some (.cells cur e (0, 0)))
    (hfit : o + (Builtin.zeroCells z.cells n).size ≤ cur.size) : (Builtin.clear_ #[t] ty #[.slice (some ⟨g, o, none⟩) n c]).run P w = .ok (.tuple #[]) (w.setCells g o (Builtin.zeroCells z.cells n).toList) := by
  have hst := run_storeCells_cells (P := P) g o (Builtin.zeroCells z.cells n).toList 0 w (fun j hj => by rw [cell_of_row w g _ cur e (0, 0) hh]; rw [Array.length_toList] at hj; simp; omega) (fun j _ => blk_frozen hh _) h1
  simp only [Nat.add_zero] at hst
  obtain ⟨m, rfl⟩ : ∃ m, n = m + 1 := ⟨n - 1, by omega⟩
  simp [Builtin.clear_, run_underlying ht, hv, hst]
theorem clear_tail {α : Type} {d : Kd α} {e g n c base : Nat} {w : World} {ok : Nat → Prop} {xs : List α} (h : d.R e w base ok (.slice (some ⟨g, 0, none⟩) n c) xs) (m : Nat) (hm : m ≤ n) (vs : List Value) (hvs : vs.length = (n - m) * d.sz) :
    d.R e (w.setCells g (m * d.sz) vs) base ok (.slice (some ⟨g, 0, none⟩) m c) (xs.take m) ∧ w.grownBy (w.setCells g (m * d.sz) vs) (some g) ∧ ∃ cur, w.heap[g]? = some (.cells cur e (0, 0)) ∧ m * d.sz + vs.length ≤ cur.size := by
  have hn : n = xs.length := (Kd.R_reads' h).1
  obtain ⟨h0, inner, hown, hr⟩ := Kd.R_take h (m := m) (by omega)
  obtain ⟨_, _, ⟨_, hown1⟩, _⟩ := h
  rcases hown1 with ⟨he, _⟩ | ⟨g1, cap1, cur1, he1, _, hh1, hnc1, _, hcs1, _⟩
  · cases he
  injection he1 with a1 a2 a3
  injection a1 with a1
  injection a1 with a1
  subst a1; subst a3
  have hfit : m * d.sz + vs.length ≤ cur1.size := by
    rw [hvs, ← Nat.add_mul, show m + (n - m) = n by omega, hcs1]
    exact Nat.mul_le_mul_right _ (by omega)
  obtain ⟨cur', hc1, hc2, hc3⟩ := setCells_row vs (m * d.sz) w cur1 hh1 hfit
  obtain ⟨o1, o2, o3, o4⟩ := setCells_same g vs (m * d.sz) w
  have hfar : ∀ k, k ≠ g → (w.setCells g (m * d.sz) vs).heap[k]? = w.heap[k]? := fun k hk => setCells_far vs _ k hk
  refine ⟨⟨h0, inner, ⟨hown.1, ?_⟩, hr.imp_ fun _ _ hp => d.M_move (fun k hk => hfar k fun he => hk.2 (by rw [he]; rfl)) hp⟩, ⟨o1, o2, o3, Nat.le_of_eq o4.symm, fun k _ hk => hfar k fun he => hk (by rw [he])⟩, cur1, hh1, hfit⟩
  rcases hown.2 with ⟨he, _⟩ | ⟨g2, cap2, cur2, he2, hb2, hh2, hnc2, hcm2, hcs2, htk2⟩
  · cases he
  injection he2 with a1 a2 a3
  injection a1 with a1
  injection a1 with a1
  subst a1; subst a3
  rw [hh1] at hh2
  injection hh2 with hh2
  injection hh2 with hh2
  subst hh2
  have hlt : (xs.take m).length = m := by rw [List.length_take]; omega
  rw [hlt] at hnc2 htk2 ⊢
  refine .inr ⟨g, c, cur', rfl, hb2, hc1, hnc2, hcm2, by rw [hc2]; exact hcs2, ?_⟩
  rw [hc3, ← htk2, List.append_assoc, List.take_append_of_le_length (by rw [List.length_take, Array.length_toList]; omega), List.take_take, Nat.min_self]
def zeroL : Value := .agg #[.int .u64 0, .int .i64 0, .int .u64 0, .int .i64 0]
theorem zeroL_run (w : World) : (zeroValue 27).run Try.prog w = .ok zeroL w := by
  obtain ⟨i, hi, he⟩ := Option.map_eq_some_iff.1 info27
  simp only [Prod.mk.injEq] at he
  simp [zeroValue, typeInfo, hi, he.1]
  rfl
theorem zeroL_size (n : Nat) : (Builtin.zeroCells zeroL.cells n).size = n * 4 := by
  simp only [Builtin.zeroCells, Array.size_map, Array.size_range]
  rfl
theorem zeroL_one (n : Nat) : ∀ q ∈ (Builtin.zeroCells zeroL.cells n).toList, q.oneCell' = true := by
  intro q hq
  simp only [Builtin.zeroCells, Array.toList_map, List.mem_map] at hq
  obtain ⟨i, _, rfl⟩ := hq
  have hm : i % zeroL.cells.size < 4 := Nat.mod_lt _ (by decide)
  generalize i % zeroL.cells.size = t at hm
  rcases t with _ | _ | _ | _ | t
  · rfl
  · rfl
  · rfl
  · rfl
  · omega
theorem inv_take {d dk : Array S27} {k : Nat} (h : Lib.CompInv d d.size k dk) : dk.toList.take k = Lib.compactUpTo d d.size := by
  have h1 := h.size
  have h2 := h.lt
  refine List.ext_getElem? fun j => ?_
  by_cases hj : j < k
  · rw [h.low j hj, List.getElem?_take, if_pos hj, Array.getElem?_toList, getElem!_pos dk j (by omega), Array.getElem?_eq_getElem]
  · rw [List.getElem?_eq_none (by rw [List.length_take]; omega), List.getElem?_eq_none (by rw [h.len]; omega)]
set_option maxHeartbeats 2000000 in
set_option maxRecDepth 100000 in
theorem compactFuncL (v : Value) (xs : List S27) (w : World) (base : Nat) (ok : Nat → Prop) (hR : Kd.R k27 27 w base ok v xs) (hlen : xs.length < 4398046511104) :
    Calls Try.prog 79 #[v, .func (.func 82) #[] #[]] w fun e w' => ∃ v', e = .returned v' ∧ Kd.R k27 27 w' base ok v' (Lib.compact xs) ∧ w.grownBy w' v.ownBlock := by
  obtain ⟨A, c, rfl⟩ := Kd.R_slice hR
  have HR := Aside0.mk hR
  clear hR
  have HL := Aside0.mk hlen
  clear hlen
  by_cases h2 : xs.length < 2
  · go_enter Try.func79, Try.ntmps79
    go_wp2
    go_ret
    exact ⟨_, rfl, by rw [Lib.compact_all xs fun j hj => Lib.keeps_lt_one _ j (by omega)]; exact HR.out, World.grownBy.refl _ _⟩
  · obtain ⟨g, rfl⟩ : ∃ g, A = some ⟨g, 0, none⟩ := by
      obtain ⟨_, inner, ho, _⟩ := HR.out
      rcases ho.2 with ⟨he, h0⟩ | ⟨g, cap, cur, he, _⟩
      · omega
      · injection he with he
        exact ⟨g, he⟩
    have hC0 := (Kd.R_reads' HR.out).2.2
    have HNC := Aside0.mk (Kd.R_reads' HR.out).2.1
    have HBS := Aside0.mk (show base ≤ w.heap.size by
      obtain ⟨_, inner, ho, _⟩ := HR.out
      have := ho.lt g rfl
      omega)
    have HBG := Aside0.mk (Kd.R_base HR.out)
    have HC := Aside0.mk hC0
    clear hC0
    have mixed : Try.prog.follows Departure.mixedOrders = true := by kernel_rfl
    go_enter Try.func79, Try.ntmps79
    go_wp2
    go_loopg [5] xs.length (fun g_ s5 wr => ∃ k : Nat, 1 ≤ k ∧ k ≤ xs.length ∧ xs.length - k ≤ g_ ∧ s5 = .int .i64 k ∧ Aside0 (Below w.heap.size w wr) ∧ Aside0 (∀ j, j < k → Lib.keeps xs.toArray j = true))
    case atStart => exact ⟨1, Nat.le_refl _, by omega, by omega, rfl, ⟨Below.refl _ _⟩, ⟨Lib.keeps_lt_one _⟩⟩
    case round =>
      obtain ⟨k, hk1, hk, hg, rfl, HB, HA⟩ := hrel
      by_cases hlt : k < xs.length
      · obtain ⟨ad, e, hx0, hx1, hx2, hx3⟩ := at_T27 (Kd.C_below HC.out HB.out) (k : Int) (by omega) (by omega)
        obtain rfl := Option.some.inj e
        obtain ⟨j, hj⟩ : ∃ j : Nat, k = j + 1 := ⟨k - 1, by omega⟩
        obtain ⟨ad, e, hy0, hy1, hy2, hy3⟩ := at_T27 (Kd.C_below HC.out HB.out) (j : Int) (by omega) (by omega)
        obtain rfl := Option.some.inj e
        rw [Int.toNat_natCast] at hx0 hx1 hx2 hx3 hy0 hy1 hy2 hy3
        have hwj : IntKind.i64.wrap ((k : Int) - 1) = (j : Int) := by have := HL.out; rw [IntKind.wrap_i64]; omega
        have hjl : (j : Int) < (xs.length : Int) := by omega
        have hnc := HNC.out
        have hck : ¬ (c = k) := by omega
        have hkc : k ≤ c := by omega
        have HE1 := Aside0.mk (show wrap64 ((k : Int) + 1) = ((k + 1 : Nat) : Int) by have := HL.out; unfold wrap64; omega)
        have HJ := Aside0.mk hj
        have HK := Aside0.mk (And.intro hk1 (And.intro hk hg))
        clear hj hk1 hk hg
        simp only [Addr.add_lit, Nat.zero_add] at hx0 hx1 hx2 hx3 hy0 hy1 hy2 hy3
        by_cases hq : rd_T27 xs (k : Int) = rd_T27 xs (j : Int)
        · have HQ := Aside0.mk hq
          have hqb : eqL (rd_T27 xs (k : Int)) (rd_T27 xs (j : Int)) = true := eqL_iff.2 hq
          clear hq
          go_wp2_with fail
          go_region_law_o (refine step_callV rfl (f := 82) Try.func82 (by kernel_rfl) rfl #[.agg (encL (rd_T27 xs (k : Int))).toArray, .agg (encL (rd_T27 xs (j : Int))).toArray] rfl (by simp [Act.eval]) (by simp [Act.eval, Act.put, encL]) ?_; refine (same1 (rd_T27 xs (k : Int)) (rd_T27 xs (j : Int)) _).mono ?_; rintro e w2 ⟨rfl, hb⟩; rw [hqb]; refine ⟨_, rfl, ?_⟩; have HB2 := Aside0.mk (show Below w.heap.size w w2 from below_step (by repeat (first | exact HB.out | apply below_drew1)) hb); clear hb)
          all_goals clear hqb hx0 hx1 hx2 hx3 hy0 hy1 hy2 hy3 hwj hjl
          all_goals go_wp2
          all_goals (
            go_loopg [5, 7] xs.length (fun g_ s5 s7 wi => ∃ (kk k2 : Nat) (dk : Array S27), s5 = .int .i64 kk ∧ s7 = .int .i64 k2 ∧ 1 ≤ k2 ∧ k + k2 ≤ xs.length ∧ xs.length - (k + k2) ≤ g_ ∧ Aside0 (Kd.R k27 27 wi base ok (.slice (some ⟨g, 0, none⟩) xs.length c) dk.toList) ∧ Aside0 (Below base w wi) ∧ Aside0 (w.grownBy wi (some g)) ∧ Aside0 (Lib.CompInv xs.toArray (k + k2) kk dk))
            case atStart => exact ⟨k, 1, xs.toArray, rfl, rfl, Nat.le_refl _, by omega, by omega, ⟨Kd.R_below HR.out HB2.out⟩, ⟨HB2.out.mono HBS.out⟩, ⟨⟨HB2.out.os, HB2.out.tape, HB2.out.output, HB2.out.size, fun t ht _ => HB2.out.block t ht⟩⟩, ⟨Lib.CompInv.start HA.out (Lib.keeps_neg (by have := HJ.out; omega) (by rw [← rd_at xs k, show k - 1 = j by have := HJ.out; omega, ← rd_at xs j]; exact HQ.out))⟩⟩
            case round =>
              obtain ⟨kk, k2, dk, rfl, rfl, h1, hle, hg2, HRn, HBn, HGn, HI⟩ := hrel
              have hdl : dk.toList.length = xs.length := by have := HI.out.size; simpa using this
              have hkk := HI.out.lt
              by_cases hlt2 : k + k2 < xs.length
              · have hCi := (Kd.R_reads' HRn.out).2.2
                obtain ⟨ad, e, hx0, hx1, hx2, hx3⟩ := at_T27 hCi ((k + k2 : Nat) : Int) (by omega) (by omega)
                obtain rfl := Option.some.inj e
                obtain ⟨j2, hj2⟩ : ∃ j2 : Nat, k2 = j2 + 1 := ⟨k2 - 1, by omega⟩
                obtain ⟨ad, e, hy0, hy1, hy2, hy3⟩ := at_T27 hCi ((k + j2 : Nat) : Int) (by omega) (by omega)
                obtain rfl := Option.some.inj e
                rw [Int.toNat_natCast, Nat.add_mul] at hx0 hx1 hx2 hx3 hy0 hy1 hy2 hy3
                have hwj : IntKind.i64.wrap ((k2 : Int) - 1) = (j2 : Int) := by have := HL.out; rw [IntKind.wrap_i64]; omega
                have hjl : (j2 : Int) < ((xs.length - k : Nat) : Int) := by omega
                have hkl : (k2 : Int) < ((xs.length - k : Nat) : Int) := by omega
                clear hCi
                simp only [Addr.add_lit, Nat.zero_add] at hx0 hx1 hx2 hx3 hy0 hy1 hy2 hy3
                have hkk2 : (kk : Int) < (xs.length : Int) := by omega
                have HJ2 := Aside0.mk hj2
                have HE2 := Aside0.mk (show wrap64 ((k2 : Int) + 1) = ((k2 + 1 : Nat) : Int) by have := HL.out; unfold wrap64; omega)
                have HE3 := Aside0.mk (show wrap64 ((kk : Int) + 1) = ((kk + 1 : Nat) : Int) by have := HL.out; unfold wrap64; omega)
                have HK2 := Aside0.mk (show 1 ≤ k2 ∧ k + k2 ≤ xs.length ∧ xs.length - (k + k2) ≤ gk ∧ kk < k + k2 ∧ k + k2 < xs.length from ⟨h1, hle, hg2, hkk, hlt2⟩)
                clear hj2 h1 hle hg2 hkk hlt2
                by_cases hq2 : rd_T27 dk.toList ((k + k2 : Nat) : Int) = rd_T27 dk.toList ((k + j2 : Nat) : Int)
                · have HQ2 := Aside0.mk hq2
                  have hqb2 : eqL (rd_T27 dk.toList ((k + k2 : Nat) : Int)) (rd_T27 dk.toList ((k + j2 : Nat) : Int)) = true := eqL_iff.2 hq2
                  clear hq2
                  go_wp2_with fail
                  go_region_law_o (refine step_callV rfl (f := 82) Try.func82 (by kernel_rfl) rfl #[.agg (encL (rd_T27 dk.toList ((k + k2 : Nat) : Int))).toArray, .agg (encL (rd_T27 dk.toList ((k + j2 : Nat) : Int))).toArray] rfl (by simp [Act.eval]) (by simp [Act.eval, Act.put, encL]) ?_; refine (same1 (rd_T27 dk.toList ((k + k2 : Nat) : Int)) (rd_T27 dk.toList ((k + j2 : Nat) : Int)) _).mono ?_; rintro e w3 ⟨rfl, hb⟩; rw [hqb2]; refine ⟨_, rfl, ?_⟩; have HB3 := Aside0.mk (show Below wr.heap.size wr w3 from below_step (by repeat (first | exact Below.refl _ _ | apply below_drew1)) hb); clear hb)
                  all_goals clear hqb2 hx0 hx1 hx2 hx3 hy0 hy1 hy2 hy3 hwj hjl
                  all_goals go_wp2
                  all_goals go_roundg (xs.length - (k + (k2 + 1)))
                  all_goals first
                    | (have := HK2.out; omega)
                    | exact ⟨kk, k2 + 1, dk, rfl, by rw [HE2.out], by omega, by have := HK2.out; omega, Nat.le_refl _, ⟨Kd.R_below HRn.out HB3.out⟩, ⟨HBn.out.trans (HB3.out.mono (Nat.le_trans HBS.out HGn.out.size))⟩, ⟨grown_step HGn.out HB3.out⟩, ⟨HI.out.skip (Lib.keeps_neg (by have := HK2.out; omega) (by rw [← HI.out.high (k + k2) (by have := HK2.out; omega), show k + k2 - 1 = k + j2 by have := HJ2.out; omega, ← HI.out.high (k + j2) (by have := HK2.out; have := HJ2.out; omega), ← rd_atA, ← rd_atA]; exact HQ2.out))⟩⟩
                · have HQ2 := Aside0.mk hq2
                  have hqb2 : eqL (rd_T27 dk.toList ((k + k2 : Nat) : Int)) (rd_T27 dk.toList ((k + j2 : Nat) : Int)) = false := by rw [← Bool.not_eq_true, eqL_iff]; exact hq2
                  clear hq2
                  go_wp2_with fail
                  go_region_law_o (refine step_callV rfl (f := 82) Try.func82 (by kernel_rfl) rfl #[.agg (encL (rd_T27 dk.toList ((k + k2 : Nat) : Int))).toArray, .agg (encL (rd_T27 dk.toList ((k + j2 : Nat) : Int))).toArray] rfl (by simp [Act.eval]) (by simp [Act.eval, Act.put, encL]) ?_; refine (same1 (rd_T27 dk.toList ((k + k2 : Nat) : Int)) (rd_T27 dk.toList ((k + j2 : Nat) : Int)) _).mono ?_; rintro e w3 ⟨rfl, hb⟩; rw [hqb2]; refine ⟨_, rfl, ?_⟩; have HB3 := Aside0.mk (show Below wr.heap.size wr w3 from below_step (by repeat (first | exact Below.refl _ _ | apply below_drew1)) hb); clear hb)
                  all_goals clear hqb2 hx0 hx1 hx2 hx3 hy0 hy1 hy2 hy3 hwj hjl
                  all_goals clear hkk2
                  all_goals (
                    have HR3 := Aside0.mk (Kd.R_below HRn.out HB3.out)
                    obtain ⟨ad, e, hx0, hx1, hx2, hx3⟩ := at_T27 (Kd.R_reads' HR3.out).2.2 ((k + k2 : Nat) : Int) (by omega) (by have := HK2.out; omega)
                    obtain rfl := Option.some.inj e
                    rw [Int.toNat_natCast, Nat.add_mul] at hx0 hx1 hx2 hx3
                    simp only [Addr.add_lit, Nat.zero_add] at hx0 hx1 hx2 hx3
                    obtain ⟨x, hgx⟩ : ∃ x, x = rd_T27 dk.toList ((k + k2 : Nat) : Int) := ⟨_, rfl⟩
                    rw [← hgx] at hx0 hx1 hx2 hx3
                    have HGX := Aside0.mk hgx
                    have hkl : (k2 : Int) < ((xs.length - k : Nat) : Int) := by have := HK2.out; omega
                    have hkk2 : (kk : Int) < (xs.length : Int) := by have := HK2.out; omega
                    clear hgx
                    go_wp2_with ((with_reducible refine gate_ (.store 27 (.tmp 56) (.tmp 55)) rfl ?_); refine storeL (w0 := w) rfl rfl (.tmp 56) (.tmp 55) rfl kk x (kk * 4) rfl rfl rfl HR3.out ?s3 ?s5 ?_; (case s3 => have := HK2.out; omega); (case s5 => exact HBn.out.trans (HB3.out.mono (Nat.le_trans HBS.out HGn.out.size))); intro w4 hR4 hB4 hG4; have HR4 := Aside0.mk hR4; have HB4 := Aside0.mk hB4; have HG4 := Aside0.mk hG4; clear hR4 hB4 hG4)
                    all_goals go_roundg (xs.length - (k + (k2 + 1)))
                    all_goals first
                      | (have := HK2.out; omega)
                      | exact ⟨kk + 1, k2 + 1, dk.setIfInBounds kk x, by rw [HE3.out], by rw [HE2.out], by omega, by have := HK2.out; omega, Nat.le_refl _, ⟨by have h4 := HR4.out; simpa using h4⟩, ⟨HB4.out⟩, ⟨(grown_step HGn.out HB3.out).trans HG4.out⟩, ⟨by
                          have e1 : x = xs.toArray[k + k2]! := by rw [HGX.out, rd_atA, HI.out.high (k + k2) (by have := HK2.out; omega)]
                          rw [e1]
                          refine HI.out.keep (by have := HK2.out; simpa using this.2.2.2.2) (Lib.keeps_pos ?_)
                          rw [← HI.out.high (k + k2) (by have := HK2.out; omega), show k + k2 - 1 = k + j2 by have := HJ2.out; omega, ← HI.out.high (k + j2) (by have := HK2.out; have := HJ2.out; omega), ← rd_atA, ← rd_atA]
                          exact HQ2.out⟩⟩)
              · have hend : k + k2 = xs.length := by omega
                obtain ⟨hRt, hGt, cur, hh, hfit⟩ := clear_tail HRn.out kk (by omega) (Builtin.zeroCells zeroL.cells (xs.length - kk)).toList (by rw [Array.length_toList, zeroL_size]; rfl)
                rw [Array.length_toList] at hfit
                have hcl : ∀ ty, (Builtin.clear_ #[41] ty #[.slice (some ⟨g, kk * 4, none⟩) (xs.length - kk) (c - kk)]).run Try.prog wr = .ok (.tuple #[]) (wr.setCells g (kk * 4) (Builtin.zeroCells zeroL.cells (xs.length - kk)).toList) :=
                  fun ty => run_clear_rows wr _ 27 ty zeroL Try.underlying41 (zeroL_run wr) g (kk * 4) (xs.length - kk) (c - kk) (zeroL_one _) (by omega) cur hh hfit
                have hck2 : ¬ (c = kk) := by omega
                have hkc2 : kk ≤ c := by omega
                have hkx : kk ≤ xs.length := by omega
                have hnk : ¬ ((k2 : Int) < ((xs.length - k : Nat) : Int)) := by omega
                have e4 : k27.sz = 4 := rfl
                rw [e4] at hRt hGt
                generalize (Builtin.zeroCells zeroL.cells (xs.length - kk)).toList = vs at hRt hGt hcl
                have HRt := Aside0.mk hRt
                have HGt := Aside0.mk hGt
                have HEND := Aside0.mk hend
                clear hRt hGt hh hfit hend h1 hle hg2 hkk hlt2 hdl hck hkc hnc
                go_wp2
                go_ret
                refine ⟨_, rfl, ?_, HGn.out.trans HGt.out⟩
                have hI := HI.out
                rw [HEND.out] at hI
                have e1 := inv_take (d := xs.toArray) (by simpa using hI)
                have e2 : Lib.compact xs = dk.toList.take kk := by rw [e1]; simp [Lib.compact]
                rw [e2]
                exact HRt.out)
        · have HQ := Aside0.mk hq
          have hqb : eqL (rd_T27 xs (k : Int)) (rd_T27 xs (j : Int)) = false := by rw [← Bool.not_eq_true, eqL_iff]; exact hq
          clear hq
          go_wp2_with fail
          go_region_law_o (refine step_callV rfl (f := 82) Try.func82 (by kernel_rfl) rfl #[.agg (encL (rd_T27 xs (k : Int))).toArray, .agg (encL (rd_T27 xs (j : Int))).toArray] rfl (by simp [Act.eval]) (by simp [Act.eval, Act.put, encL]) ?_; refine (same1 (rd_T27 xs (k : Int)) (rd_T27 xs (j : Int)) _).mono ?_; rintro e w2 ⟨rfl, hb⟩; rw [hqb]; refine ⟨_, rfl, ?_⟩; have HB2 := Aside0.mk (show Below w.heap.size w w2 from below_step (by repeat (first | exact HB.out | apply below_drew1)) hb); clear hb)
          all_goals clear hqb hx0 hx1 hx2 hx3 hy0 hy1 hy2 hy3 hwj hjl
          all_goals go_wp2
          all_goals go_roundg (xs.length - (k + 1))
          all_goals first
            | (have := HK.out; omega)
            | exact ⟨k + 1, by omega, by omega, Nat.le_refl _, by rw [HE1.out], HB2, ⟨fun t ht => by
                rcases Nat.lt_or_ge t k with h | h
                · exact HA.out t h
                · obtain rfl : t = k := by omega
                  exact Lib.keeps_pos (by rw [← rd_at xs t, show t - 1 = j by have := HJ.out; omega, ← rd_at xs j]; exact HQ.out)⟩⟩
      · obtain rfl : k = xs.length := by omega
        go_wp2
        go_ret
        exact ⟨_, rfl, by rw [Lib.compact_all xs HA.out]; exact Kd.R_below HR.out HB.out, ⟨HB.out.os, HB.out.tape, HB.out.output, HB.out.size, fun t ht _ => HB.out.block t ht⟩⟩
end Go.Proofs.Ytioooiflpabngaa.PAll

namespace Go.Proofs.Ytioooiflpabngaa.PAll
open Go.RowKit Go.Sort Go.Proofs.YtioooiflpabngaaW.PrintWords Go.Proofs.YtioooiflpabngaaW.PrintLast Go.Proofs.YtioooiflpabngaaW.PrintMore
set_option linter.unusedVariables false
set_option linter.unusedSimpArgs false

theorem collectL (Bs : Nat) (A : Option Addr) (cap : Nat) (zs : List S27) (w : World) (hlen : zs.length < 4398046511104) (HC : Kd.C k27 w A zs.length zs) (hBs : w.cell? ⟨Bs, 0, none⟩ = some (.slice A zs.length cap)) :
    Calls Try.prog 114 #[.func (.func 116) #[] #[.pointer (some ⟨Bs, 0, none⟩)]] w fun e w' => ∃ v, e = .returned v ∧ Kd.R k27 27 w' w.heap.size (fun _ => True) v zs ∧ Below w.heap.size w w' := by
  have HA := Aside0.mk (appendSeqL Bs A cap zs w hlen HC hBs)
  clear HC hBs
  go_enter Try.func114, Try.ntmps114
  go_wp2_with (go_at_call 128; refine HA.out.mono ?_; rintro e w2 ⟨v, rfl, hR, hb⟩; have HR := Aside0.mk hR; have HB := Aside0.mk hb; clear hR hb)
  go_ret
  exact ⟨_, rfl, HR.out, HB.out⟩
theorem below_grown {w w1 : World} {base : Nat} {α : Type} {d : Kd α} {e : Nat} {ok : Nat → Prop} {v : Value} {xs : List α} (hR : d.R e w base ok v xs) (hg : w.grownBy w1 v.ownBlock) (hb : base ≤ w.heap.size) : Below base w w1 :=
  (Below.refl _ _).grown hg hb (Kd.R_base hR)
theorem sortedFuncL (Bs : Nat) (A : Option Addr) (cap : Nat) (zs : List S27) (w : World) (hlen : zs.length < 4398046511104) (HC : Kd.C k27 w A zs.length zs) (hBs : w.cell? ⟨Bs, 0, none⟩ = some (.slice A zs.length cap)) :
    Calls Try.prog 80 #[.func (.func 116) #[] #[.pointer (some ⟨Bs, 0, none⟩)], .func (.func 42) #[] #[]] w fun e w' => ∃ v, e = .returned v ∧ Kd.R k27 27 w' w.heap.size (fun _ => True) v (sortedL zs) ∧ Below w.heap.size w w' := by
  have HA := Aside0.mk (collectL Bs A cap zs w hlen HC hBs)
  have HL := Aside0.mk hlen
  clear HC hBs hlen
  go_enter Try.func80, Try.ntmps80
  go_wp2_with (first | (go_at_call 114; refine HA.out.mono ?_; rintro e w2 ⟨v, rfl, hR, hb⟩; have HR := Aside0.mk hR; have HB := Aside0.mk hb; clear hR hb) | (go_at_call 115; refine (sortFuncL v zs _ w.heap.size (fun _ => True) HR.out HL.out).mono ?_; rintro e w3 ⟨rfl, hR3, hg3⟩; have HR3 := Aside0.mk hR3; have HG3 := Aside0.mk hg3; clear hR3 hg3))
  go_ret
  exact ⟨_, rfl, HR3.out, HB.out.trans (below_grown HR.out HG3.out HB.out.size)⟩
theorem label_Sort_calls (A0 : Option Addr) (c0 : Nat) (l0 : List S27) (w : World) (hr0 : Kd.C k27 w A0 l0.length l0) (hlen : l0.length < 4398046511104) :
    Calls Try.prog 35 #[.slice A0 l0.length c0] w fun e w' => ∃ v0_ : Value, e = .returned (v0_) ∧ Kd.R k27 27 w' w.heap.size (fun _ => True) v0_ (Lib.compact (sortedL l0)) ∧ Below w.heap.size w w' := by
  have HC := Aside0.mk hr0
  have HL := Aside0.mk hlen
  clear hr0 hlen
  go_enter Try.func35, Try.ntmps35
  go_wp2_with (first
    | (go_at_call 81; refine (valuesL A0 l0.length c0 _).mono ?_; rintro e w1 ⟨rfl, rfl⟩)
    | (go_at_call 80; refine (sortedFuncL w.heap.size A0 c0 l0 _ HL.out (Kd.C_alloc HC.out _) (by simp)).mono ?_; rintro e w2 ⟨v, rfl, hR, hb⟩; have HR := Aside0.mk hR; have HB := Aside0.mk hb; clear hR hb)
    | (go_at_call 79; refine (compactFuncL v (sortedL l0) _ _ (fun _ => True) HR.out (by rw [sortedL_length]; exact HL.out)).mono ?_; rintro e w3 ⟨v3, rfl, hR3, hg3⟩; have HR3 := Aside0.mk hR3; have HG3 := Aside0.mk hg3; clear hR3 hg3))
  go_ret
  refine ⟨_, rfl, ?_, ?_⟩
  · exact Kd.R_lower HR3.out (by simp)
  · exact ((Below.refl _ w).alloc (Nat.le_refl _) _).trans ((HB.out.mono (by simp)).trans (below_grown (Kd.R_lower HR.out (show w.heap.size ≤ _ by simp)) HG3.out (Nat.le_trans (by simp) HB.out.size)))
theorem mem_compact (zs : List S27) (x : S27) : x ∈ Lib.compact zs ↔ x ∈ zs := by
  unfold Lib.compact Lib.compactUpTo
  simp only [List.mem_map, List.mem_filter, List.mem_range]
  constructor
  · rintro ⟨i, ⟨hi, _⟩, rfl⟩
    simp [hi]
  · intro hx
    obtain ⟨i, hi, rfl⟩ := List.getElem_of_mem hx
    induction i with
    | zero => exact ⟨0, ⟨hi, Lib.keeps_lt_one _ 0 (by omega)⟩, by simp [hi]⟩
    | succ i ih =>
      by_cases hk : Lib.keeps zs.toArray (i + 1) = true
      · exact ⟨i + 1, ⟨hi, hk⟩, by simp [hi]⟩
      · have hi2 : i < zs.length := by omega
        have e : zs[i + 1] = zs[i] := by
          simp only [Lib.keeps, decide_eq_true_eq, not_or, Decidable.not_not] at hk
          have h2 := hk.2
          simpa [hi, hi2] using h2
        rw [e]
        exact ih hi2 (List.getElem_mem _)
theorem compact_rise {zs : List S27} (h : zs.Pairwise fun x y => ¬ ltL y x) : RiseL (Lib.compact zs) := by
  unfold Lib.compact Lib.compactUpTo RiseL
  refine List.pairwise_map.2 (List.Pairwise.imp_of_mem (fun {i j} hi hj hij => ?_) ((List.pairwise_lt_range (n := zs.length)).filter _))
  simp only [List.mem_filter, List.mem_range] at hi hj
  have hk := hj.2
  simp only [Lib.keeps, decide_eq_true_eq] at hk
  rcases hk with hk | hk
  · omega
  have hjl := hj.1
  have hil := hi.1
  have hj1 : j - 1 < zs.length := by omega
  have hp := List.pairwise_iff_getElem.1 h
  have e0 : zs.toArray[i]! = zs[i] := by simp [hil]
  have e1 : zs.toArray[j]! = zs[j] := by simp [hjl]
  have e2 : zs.toArray[j - 1]! = zs[j - 1] := by simp [hj1]
  rw [e1, e2] at hk
  rw [e0, e1]
  have h1 : ltL zs[j - 1] zs[j] := by
    rcases ltL_total zs[j - 1] zs[j] with a | a | a
    · exact a
    · exact absurd a.symm hk
    · exact absurd a (hp (j - 1) j hj1 hjl (by omega))
  rcases Nat.lt_or_ge i (j - 1) with hlt | hge
  · rcases ltL_total zs[i] zs[j - 1] with a | a | a
    · exact ltL_trans a h1
    · rw [a]; exact h1
    · exact absurd a (hp i (j - 1) hil hj1 hlt)
  · have : i = j - 1 := by omega
    subst this
    exact h1
theorem sortedL_pairwise (l : List S27) : (sortedL l).Pairwise fun x y => ¬ ltL y x := by
  unfold sortedL
  have := List.pairwise_mergeSort (le := fun x y => !(ltOf cmpL) y x) (fun a b c h1 h2 => by
    simp only [ltOf, Bool.not_eq_true', decide_eq_false_iff_not] at *
    rw [cmpL_neg] at *
    intro h3
    rcases ltL_total a b with h | h | h
    · rcases ltL_total b c with k | k | k
      · exact ltL_irrefl _ (ltL_trans h3 (ltL_trans h k))
      · subst k; exact h1 h3
      · exact h2 k
    · subst h; exact h2 h3
    · exact h1 h) (fun a b => by
    simp only [ltOf, Bool.or_eq_true, Bool.not_eq_true', decide_eq_false_iff_not]
    rw [cmpL_neg, cmpL_neg]
    rcases ltL_total a b with h | h | h
    · exact .inl fun k => ltL_irrefl _ (ltL_trans h k)
    · subst h; exact .inl (ltL_irrefl _)
    · exact .inr fun k => ltL_irrefl _ (ltL_trans h k)) l
  refine this.imp fun {x y} h => ?_
  simp only [ltOf, Bool.not_eq_true', decide_eq_false_iff_not] at h
  rwa [cmpL_neg] at h
theorem compact_sorted (l : List S27) : Lib.compact (sortedL l) = sortL l :=
  riseL_ext (compact_rise (sortedL_pairwise l)) (sortL_rise l) fun x => by
    rw [mem_compact, mem_sortL]
    unfold sortedL
    exact List.mem_mergeSort
theorem label_Sort.calls (A0 : Option Addr) (c0 : Nat) (l0 : List S27) (r : List S27) (w : World) (hr0 : Kd.C k27 w A0 l0.length l0) (hc0 : l0.length ≤ c0) (h : label_Sort.f l0 = some r) :
    Calls Try.prog 35 #[.slice A0 l0.length c0] w fun e w' => ∃ v0_ : Value, e = .returned (v0_) ∧ Kd.R k27 27 w' w.heap.size (fun _ => True) v0_ r ∧ Below w.heap.size w w' := by
  obtain ⟨hl, rfl⟩ := of_if_some h
  rw [← compact_sorted]
  exact label_Sort_calls A0 c0 l0 w hr0 hl
end Go.Proofs.Ytioooiflpabngaa.PAll

namespace Go.Proofs.Ytioooiflpabngaa.PAll
open Go.RowKit Go.Proofs.YtioooiflpabngaaW.PrintWords Go.Proofs.YtioooiflpabngaaW.PrintLast Go.Proofs.YtioooiflpabngaaW.PrintMore
attribute [local go_sem] max2_int min2_int max_two min_two max_three min_three max_four min_four   -- for this text's walks alone
set_option linter.unusedVariables false
set_option linter.unusedSimpArgs false

/-! ### label_Twice: function 38 -/
def label_Twice.f (l0 : List (S27)) : Option (Bool) := (label_Sort.f l0).bind fun t434 => (some (decide ((t434.length : Int) < (l0.length : Int))))
set_option maxHeartbeats 8000000 in
set_option maxRecDepth 100000 in
theorem label_Twice.calls (A0 : Option Addr) (c0 : Nat) (l0 : List (S27)) (r : Bool) (w : World) (hr0 : Kd.C k27 w A0 l0.length l0) (hc0 : l0.length ≤ c0) (h : label_Twice.f l0 = some r) :
    Calls Try.prog 38 #[.slice A0 l0.length c0] w fun e w' => e = .returned (.bool r) ∧ Below w.heap.size w w' := by
  have HR0 := Aside0.mk hr0
  have HC0 := Aside0.mk hc0
  clear hr0 hc0
  have HB := Aside0.mk (Below.refl w.heap.size w)
  have H : ((label_Sort.f l0).bind fun t434 => (some (decide ((t434.length : Int) < (l0.length : Int))))) = some r := h
  clear h
  replace H := Option.bind_eq_some_iff.mp H
  obtain ⟨t434, A20, H⟩ := H
  replace H : (some (decide ((t434.length : Int) < (l0.length : Int)))) = some r := H
  have A2 := Aside0.mk A20
  clear A20
  obtain rfl := Option.some.inj H
  go_enter Try.func38, Try.ntmps38
  go_wp2_with (first | ((with_reducible refine gate_callee (f := 35) rfl ?_); refine goesL_ (some 4) rfl rfl Try.func35 (by kernel_rfl) rfl #[.slice A0 l0.length c0] rfl (by (try simp only [List.map_toArray, List.map_cons, List.map_nil]); first | done | rfl | (simp only [List.length_drop, List.length_take]; rfl)) ?_; (with_reducible refine (label_Sort.calls _ _ l0 t434 _ ?side1 ?side2 A2.out).mono ?_); (case side1 => repeat (first | exact HR0.out | (with_reducible refine Kd.C_alloc ?_ _) | (with_reducible refine Kd.C_drewN ?_ _) | (with_reducible refine Kd.C_drew ?_))); (case side2 => exact HC0.out); rintro e w3 ⟨v435, rfl, ho0, hb⟩; refine ⟨_, rfl, ?_⟩; have n0_ := Aside0.mk (Kd.R_lower ho0 (below_size (by repeat (first | (with_reducible first | exact HB.out | apply below_alloc | apply pw_below_drewN | apply below_drew1) | exact HB.out)))); have n1_ := Aside0.mk (below_step (by repeat (first | (with_reducible first | exact HB.out | apply below_alloc | apply pw_below_drewN | apply below_drew1) | exact HB.out)) hb); clear HB; have HO436 := n0_; have HB := n1_; clear n0_ n1_; (try clear hb); (try clear hb2); (try clear hk); (try clear hi); (try clear ho0); obtain ⟨Ao4, co4, eo4⟩ := Kd.R_slice HO436.out; subst eo4))
  go_ret
  exact ⟨by first | rfl | (simp [errW_none, errW_some] <;> rfl) | (simp [*, errW_none, errW_some] <;> rfl), by repeat (first | (with_reducible first | exact HB.out | apply below_alloc | apply pw_below_drewN | apply below_drew1) | exact HB.out)⟩

end Go.Proofs.Ytioooiflpabngaa.PAll

namespace Go.Proofs.Ytioooiflpabngaa.PAll
open Go.RowKit Go.Proofs.YtioooiflpabngaaW.PrintWords
set_option linter.unusedVariables false
set_option linter.unusedSimpArgs false
/-- Is one of the rest among those seen, or twice? -/
def dup : List S27 → List S27 → Bool
  | seen, [] => false
  | seen, x :: xs => memL x seen || dup (seen ++ [x]) xs
theorem insL_mem_length {x : S27} : ∀ {l : List S27}, RiseL l → (insL l x).length = if x ∈ l then l.length else l.length + 1
  | [], _ => by simp [insL]
  | a :: l, h => by
    obtain ⟨h1, h2⟩ := List.pairwise_cons.1 h
    have ih := insL_mem_length (x := x) h2
    unfold insL
    by_cases hc : cmpL a x < 0
    · rw [if_pos hc, List.length_cons, ih]
      have hne : ¬ x = a := fun e => by
        rw [e, cmpL_neg] at hc
        exact ltL_irrefl _ hc
      by_cases hm : x ∈ l
      · rw [if_pos hm, if_pos (List.mem_cons_of_mem _ hm)]; rfl
      · rw [if_neg hm, if_neg (by rw [List.mem_cons, not_or]; exact ⟨hne, hm⟩)]; rfl
    · rw [if_neg hc]
      by_cases hz : cmpL a x = 0
      · rw [if_pos hz, if_pos (by rw [cmpL_eq.1 hz]; exact List.mem_cons_self ..)]
      · rw [if_neg hz]
        have hlt : ltL x a := by
          rcases ltL_total x a with h | h | h
          · exact h
          · exact absurd (cmpL_eq.2 h.symm) hz
          · exact absurd ((cmpL_neg _ _).2 h) hc
        have hm : ¬ x ∈ a :: l := fun hm => by
          rcases List.mem_cons.1 hm with rfl | hm
          · exact ltL_irrefl _ hlt
          · exact ltL_irrefl _ (ltL_trans hlt (h1 x hm))
        rw [if_neg hm]
        rfl
theorem dup_fold : ∀ (xs seen acc : List S27), RiseL acc → (∀ x, x ∈ acc ↔ x ∈ seen) → decide ((xs.foldl insL acc).length < acc.length + xs.length) = dup seen xs
  | [], seen, acc, _, _ => by simp [dup]
  | x :: xs, seen, acc, hr, hm => by
    have hl := insL_mem_length (x := x) hr
    have ih := dup_fold xs (seen ++ [x]) (insL acc x) (insL_rise hr) (fun y => by rw [mem_insL, hm, List.mem_append, List.mem_singleton]; exact or_comm)
    unfold dup
    rw [List.foldl_cons, List.length_cons]
    cases hs : memL x seen with
    | true =>
      rw [if_pos ((hm x).2 (memL_iff.1 hs))] at hl
      have h1 := foldL_length xs (insL acc x)
      rw [Bool.true_or]
      exact decide_eq_true (by omega)
    | false =>
      have hx : ¬ x ∈ acc := fun h => by rw [memL_iff.2 ((hm x).1 h)] at hs; cases hs
      rw [if_neg hx] at hl
      rw [Bool.false_or, ← ih, hl]
      congr 1
      rw [show acc.length + (xs.length + 1) = acc.length + 1 + xs.length by omega]
theorem dup_sort (l : List S27) : decide ((sortL l).length < l.length) = dup [] l := by
  rw [← dup_fold l [] [] List.Pairwise.nil (fun x => Iff.rfl)]
  exact decide_eq_decide.2 (by simp [sortL])
theorem dup_append : ∀ (a seen b : List S27), dup seen (a ++ b) = (dup seen a || dup (seen ++ a) b)
  | [], seen, b => by simp [dup]
  | x :: a, seen, b => by
    rw [List.cons_append, dup, dup, dup_append a (seen ++ [x]) b, Bool.or_assoc, List.append_assoc]
    rfl
theorem dup_rise : ∀ {b seen : List S27}, RiseL b → (∀ x ∈ b, x ∉ seen) → dup seen b = false
  | [], seen, _, _ => rfl
  | x :: b, seen, h, hx => by
    obtain ⟨h1, h2⟩ := List.pairwise_cons.1 h
    have e1 : memL x seen = false := by
      cases hm : memL x seen with
      | false => rfl
      | true => exact absurd (memL_iff.1 hm) (hx x (List.mem_cons_self ..))
    rw [dup, e1, Bool.false_or]
    refine dup_rise h2 fun y hy hm => ?_
    rcases List.mem_append.1 hm with hm | hm
    · exact hx y (List.mem_cons_of_mem _ hy) hm
    · rw [List.mem_singleton] at hm
      subst hm
      exact ltL_irrefl _ (h1 y hy)
theorem twice_eq {l : List S27} (h : l.length < 4398046511104) : label_Twice.f l = some (dup [] l) := by
  unfold label_Twice.f
  rw [sort_eq h, Option.bind_some, ← dup_sort]
  congr 1
  exact decide_eq_decide.2 (by omega)
end Go.Proofs.Ytioooiflpabngaa.PAll

namespace Go.Proofs.Ytioooiflpabngaa.PAll
open Go.RowKit Go.Deep Go.ChangeShapes Go.WideShapes Go.Proofs.YtioooiflpabngaaW.PrintWords
set_option linter.unusedVariables false

def Opens {α : Type} (P : Program) (t : TypeId) (d : Kd α) (ok : α → Prop) : Prop :=
  P.cellsOf t = d.sz ∧ ∀ (H : Type) (enc : TypeId × Value → H) (w : World) (base : Nat) (spare : Nat → Bool) (held : Bool) (fuel : Nat) (cs : List Value) (x : DataW H × List MemPlace),
    DataW.trod enc P w base spare held fuel t cs = some x → (∀ n ∈ x.1.weights P t, n ≤ reachBytes) → ∃ a : α, d.K w a cs ∧ ok a
def OpensF {α : Type} (P : Program) (fs : List Field) (start : Nat) (d : Kd α) (ok : α → Prop) : Prop :=
  ∀ (H : Type) (enc : TypeId × Value → H) (w : World) (base : Nat) (spare : Nat → Bool) (held : Bool) (n : Nat) (cs : List Value) (xs : List (DataW H × List MemPlace)), cs.length = start + d.sz → xs.length = fs.length →
    (∀ (i : Nat) (f : Field), fs[i]? = some f → DataW.trod enc P w base spare held n f.type ((cs.drop f.offset).take (P.cellsOf f.type)) = xs[i]?) →
    (∀ q ∈ DataW.weightsEach P (fs.map fun f : Field => f.type) (xs.map (·.1)), q ≤ reachBytes) → ∃ a : α, d.K w a (cs.drop start) ∧ ok a

theorem opens_int {P : Program} {t : TypeId} {k : IntKind} (ht : P.underlying t = some (.int k)) (hc : P.cellsOf t = 1) : Opens P t (Kd.int k) (fun n => (Lit.int k n).wf = true) :=
  ⟨hc, fun H enc w base spare held fuel cs x h _ => by
    obtain ⟨n, rfl, _, hw⟩ := DataW.trod_int ht h
    exact ⟨n, rfl, hw⟩⟩
theorem weights_all {H : Type} {P : Program} {e : TypeId} : ∀ {ds : List (DataW H)} {d : DataW H}, d ∈ ds → ∀ n ∈ d.weights P e, n ∈ DataW.weightsAll P e ds
  | d0 :: ds, d, hd, n, hn => by
    simp only [DataW.weightsAll, List.mem_append]
    rcases List.mem_cons.1 hd with rfl | h
    · exact .inl hn
    · exact .inr (weights_all h n hn)
theorem opens_slice {α : Type} [Inhabited α] {P : Program} {t e : TypeId} {E : Nat} {d : Kd α} {ok : α → Prop} (ht : P.underlying t = some (.slice e)) (hc : P.cellsOf t = 1) (he : Opens P e d ok) :
    Opens P t (Kd.slice E d) (fun xs => xs.length * P.bytesOf e ≤ reachBytes ∧ ∀ x ∈ xs, ok x) := by
  refine ⟨hc, fun H enc w base spare held fuel cs x h hw => ?_⟩
  rcases Go.Deep.open_slice ht h with ⟨rfl, rfl⟩ | ⟨a, len, cap, m, n, D, Pl, rfl, hb, hl, hm, hmm, rfl, hx⟩
  · exact ⟨[], ⟨none, 0, rfl, Nat.le_refl _, rfl, by simp, fun h => by simp at h⟩, by simp, by simp⟩
  · have hlm : len ≤ m := by rw [hmm]; split <;> omega
    simp only [DataW.weights, ht] at hw
    have hwl := hw _ (List.mem_cons_self ..)
    have hf : ∀ i, i < len → ∃ y : α, (∃ c : List Value, c.length = d.sz ∧ d.K w y c ∧ ∀ j u, c[j]? = some u → w.cell? (a.add (i * d.sz + j)) = some u) ∧ ok y := by
      intro i hi
      obtain ⟨cs', h1, h2⟩ := hx i (by omega)
      obtain ⟨y, hy, hok⟩ := he.2 H enc w base spare held n cs' _ h2 (fun q hq => hw q (List.mem_cons_of_mem _ (List.mem_append.2 (.inl (weights_all (List.mem_map.2 ⟨i, List.mem_range.2 hi, rfl⟩) q hq)))))
      obtain ⟨_, hlen, hcell⟩ := World.cells?_some h1
      refine ⟨y, ⟨cs', hlen.trans he.1, hy, fun j u hj => ?_⟩, hok⟩
      have hj2 : j < P.cellsOf e := by rw [← hlen]; exact (List.getElem?_eq_some_iff.1 hj).1
      have h3 := hcell j hj2
      rw [Go.Deep.add_add, he.1] at h3
      rw [h3]; exact hj
    obtain ⟨f, hf⟩ := Go.Deep.choose_lt hf
    refine ⟨(List.range len).map f, ⟨some a, cap, by simp, by simpa using hl, by simp, by simp; simp [maxLen] at hm; omega, fun _ => ⟨a, rfl, fun j p hj => ?_⟩⟩, ?_, ?_⟩
    · obtain ⟨hlt, hp⟩ := List.getElem?_eq_some_iff.1 hj
      have hjl : j < len := by simpa using hlt
      have hpe : p = f j := by simpa using hp.symm
      subst hpe
      exact (hf j hjl).1
    · simp only [List.length_map, List.length_range] at hwl ⊢
      exact Nat.le_trans (Nat.mul_le_mul_right _ (by omega)) hwl
    · intro x hx
      obtain ⟨i, hi, rfl⟩ := List.mem_map.1 hx
      exact (hf i (List.mem_range.1 hi)).2
theorem opensF_one {α : Type} {P : Program} {f : Field} {start : Nat} {d : Kd α} {ok : α → Prop} (ho : f.offset = start) (h : Opens P f.type d ok) : OpensF P [f] start d ok := by
  intro H enc w base spare held n cs xs hcs hxs hx hw
  match xs, hxs with
  | [x], _ =>
    have h0 := hx 0 f rfl
    rw [ho, h.1, List.take_of_length_le (by simp; omega)] at h0
    simp only [List.map_cons, List.map_nil, DataW.weightsEach, List.append_nil] at hw
    exact h.2 H enc w base spare held n _ x h0 hw
theorem opensF_cons {α β : Type} {P : Program} {f : Field} {fs : List Field} {start : Nat} {da : Kd α} {db : Kd β} {oka : α → Prop} {okb : β → Prop} (ho : f.offset = start) (h : Opens P f.type da oka) (hr : OpensF P fs (start + da.sz) db okb) :
    OpensF P (f :: fs) start (Kd.pair da db) (fun p => oka p.1 ∧ okb p.2) := by
  intro H enc w base spare held n cs xs hcs hxs hx hw
  match xs, hxs with
  | x :: xs, hxs =>
    have hcs2 : cs.length = start + (da.sz + db.sz) := hcs
    have h0 := hx 0 f rfl
    rw [ho, h.1] at h0
    simp only [List.map_cons, DataW.weightsEach, List.mem_append] at hw
    obtain ⟨a, ha, hoa⟩ := h.2 H enc w base spare held n _ x h0 (fun q hq => hw q (.inl hq))
    obtain ⟨b, hb, hob⟩ := hr H enc w base spare held n cs xs (by omega) (by simpa using hxs) (fun i f' hf => hx (i + 1) f' hf) (fun q hq => hw q (.inr hq))
    refine ⟨(a, b), ⟨_, _, ?_, ha, hb⟩, hoa, hob⟩
    rw [← List.drop_drop, List.take_append_drop]
theorem opens_struct {α : Type} {P : Program} {t : TypeId} {fs : Array Field} {d : Kd α} {ok : α → Prop} (ht : P.underlying t = some (.struct fs)) (hc : P.cellsOf t = d.sz) (h : OpensF P fs.toList 0 d ok) : Opens P t d ok := by
  refine ⟨hc, fun H enc w base spare held fuel cs x hx hw => ?_⟩
  obtain ⟨xs, n, rfl, rfl, hl, hxl, hf⟩ := DataW.trod_struct ht hx
  simp only [DataW.weights, ht] at hw
  have := h H enc w base spare held n cs xs (by omega) (by simpa using hxl) (fun i f hi => hf i f (by simpa using hi)) hw
  simpa using this
theorem opens_iso {α β : Type} {P : Program} {t : TypeId} {d : Kd α} {f : β → α} {ok : α → Prop} (g : α → β) (hg : ∀ a, f (g a) = a) (h : Opens P t d ok) : Opens P t (Kd.iso d f) (fun b => ok (f b)) :=
  ⟨h.1, fun H enc w base spare held fuel cs x hx hw => by
    obtain ⟨a, ha, ho⟩ := h.2 H enc w base spare held fuel cs x hx hw
    refine ⟨g a, ?_, ?_⟩
    · show d.K w (f (g a)) cs
      rw [hg]; exact ha
    · show ok (f (g a))
      rw [hg]; exact ho⟩
theorem Opens.imp {α : Type} {P : Program} {t : TypeId} {d : Kd α} {ok ok' : α → Prop} (h : Opens P t d ok) (k : ∀ a, ok a → ok' a) : Opens P t d ok' :=
  ⟨h.1, fun H enc w base spare held fuel cs x hx hw => by
    obtain ⟨a, ha, ho⟩ := h.2 H enc w base spare held fuel cs x hx hw
    exact ⟨a, ha, k _ ho⟩⟩

/-! The values that come in: whole numbers in their types' bounds, rows no longer than memory lets them be. -/
def rightV (v : S25) : Prop := (Lit.int .u64 v.f0).wf = true ∧ (Lit.int .i64 v.f1).wf = true
def rightL (x : S27) : Prop := rightV x.f0 ∧ (Lit.int .u64 x.f1).wf = true ∧ (Lit.int .i64 x.f2).wf = true
def rightB (b : List Int) : Prop := b.length * 1 ≤ reachBytes ∧ ∀ n ∈ b, (Lit.int .u8 n).wf = true
def rightE (x : S32) : Prop := rightL x.f0 ∧ rightB x.f1
def rightEs (l : List S32) : Prop := l.length * 56 ≤ reachBytes ∧ ∀ x ∈ l, rightE x
def rightLs (l : List S27) : Prop := l.length * 32 ≤ reachBytes ∧ ∀ x ∈ l, rightL x
def rightS (s : S53) : Prop := rightEs s.f0 ∧ rightLs s.f1 ∧ (Lit.int .i64 s.f2).wf = true ∧ rightV s.f3
def rightT (t : S87) : Prop := (Lit.int .i64 t.f0).wf = true ∧ rightS t.f1
def rightTs (l : List S87) : Prop := l.length * 80 ≤ reachBytes ∧ ∀ x ∈ l, rightT x
theorem opensV : Opens Try.prog 25 k25 rightV :=
  opens_iso (fun p => ⟨p.1, p.2⟩) (fun _ => rfl) (opens_struct Try.underlying25 (by kernel_rfl) (opensF_cons rfl (opens_int (by kernel_rfl) (by kernel_rfl)) (opensF_one rfl (opens_int (by kernel_rfl) (by kernel_rfl)))))
theorem opensL : Opens Try.prog 27 k27 rightL :=
  opens_iso (fun p => ⟨p.1, p.2.1, p.2.2⟩) (fun _ => rfl) (opens_struct Try.underlying27 (by kernel_rfl) (opensF_cons rfl opensV (opensF_cons rfl (opens_int (by kernel_rfl) (by kernel_rfl)) (opensF_one rfl (opens_int (by kernel_rfl) (by kernel_rfl))))))
theorem opensB {E : Nat} : Opens Try.prog 30 (Kd.slice E (Kd.int .u8)) rightB :=
  (opens_slice Try.underlying30 (by kernel_rfl) (opens_int (k := .u8) (by kernel_rfl) (by kernel_rfl))).imp fun _ h => ⟨(show Try.prog.bytesOf 5 = 1 by kernel_rfl) ▸ h.1, h.2⟩
theorem opensE : Opens Try.prog 32 k32 rightE :=
  opens_iso (fun p => ⟨p.1, p.2⟩) (fun _ => rfl) (opens_struct Try.underlying32 (by kernel_rfl) (opensF_cons rfl opensL (opensF_one rfl opensB)))
theorem opensEs : Opens Try.prog 22 (Kd.slice 32 k32) rightEs :=
  (opens_slice Try.underlying22 (by kernel_rfl) opensE).imp fun _ h => ⟨(show Try.prog.bytesOf 32 = 56 by kernel_rfl) ▸ h.1, h.2⟩
theorem opensLs : Opens Try.prog 41 (Kd.slice 27 k27) rightLs :=
  (opens_slice Try.underlying41 (by kernel_rfl) opensL).imp fun _ h => ⟨(show Try.prog.bytesOf 27 = 32 by kernel_rfl) ▸ h.1, h.2⟩
theorem opensS : Opens Try.prog 53 k53 rightS :=
  opens_iso (fun p => ⟨p.1, p.2.1, p.2.2.1, p.2.2.2⟩) (fun _ => rfl) (opens_struct Try.underlying53 (by kernel_rfl) (opensF_cons rfl opensEs (opensF_cons rfl opensLs (opensF_cons rfl (opens_int (by kernel_rfl) (by kernel_rfl)) (opensF_one rfl opensV)))))
theorem opensSs : Opens Try.prog 69 (Kd.slice 53 k53) (fun l => l.length * 72 ≤ reachBytes ∧ ∀ x ∈ l, rightS x) :=
  (opens_slice Try.underlying69 (by kernel_rfl) opensS).imp fun _ h => ⟨(show Try.prog.bytesOf 53 = 72 by kernel_rfl) ▸ h.1, h.2⟩
/-! An argument's value, out of the row's facts. -/
theorem arg_trod {α : Type} {P : Program} {t : TypeId} {d : Kd α} {ok : α → Prop} (h : Opens P t d ok) {H : Type} {enc : TypeId × Value → H} {W : World} {base : Nat} {spare : Nat → Bool} {held : Bool} {v : Value} {dd : DataW H} {ps : List MemPlace}
    (ht : DataW.Trod enc P W base spare held t v dd ps) (hw : ∀ n ∈ dd.weights P t, n ≤ reachBytes) : ∃ a : α, d.K W a v.cells.toList ∧ ok a := by
  obtain ⟨fuel, hf⟩ := ht
  exact h.2 H enc W base spare held fuel _ _ hf hw
theorem arg_slice {α : Type} {d : Kd α} {E : Nat} {W : World} {xs : List α} {A : Option Addr} {len cap : Nat} (h : (Kd.slice E d).K W xs (Value.slice A len cap).cells.toList) : len = xs.length ∧ xs.length ≤ cap ∧ Kd.C d W A xs.length xs := by
  obtain ⟨A', c', he, hl, hr⟩ := h
  simp only [Value.cells, List.cons.injEq, Value.slice.injEq, and_true] at he
  obtain ⟨rfl, rfl, rfl⟩ := he
  exact ⟨rfl, hl, hr⟩
theorem agg_of {cs : Array Value} {l : List Value} (h : (Value.agg cs).cells.toList = l) : cs = l.toArray := by
  cases cs
  simpa [Value.cells] using h
/-- An argument that is shared, as what is read: it stands in blocks that are there. -/
theorem V_of_C {α : Type} {d : Kd α} {e : Nat} {W : World} {A : Option Addr} {c : Nat} {l : List α} (h : Kd.C d W A l.length l) (hc : l.length ≤ c)
    (hd : Kd.Heap d := by first | exact k32_heap | exact k27_heap | exact k53_heap | exact k87_heap | exact Go.Proofs.YtioooiflpabngaaW.PrintWords.Kd.heap_int _) : Kd.V d e W W.heap.size (fun k => k < W.heap.size) (.slice A l.length c) l :=
  ⟨A, c, rfl, hc, Kd.C_F hd h⟩
theorem rightLs_len {l : List S27} (h : rightLs l) : l.length < 4398046511104 := by
  have h1 := h.1
  have h2 := reachBytes_lt
  have e : (2 : Nat) ^ 47 = 140737488355328 := by decide
  rw [e] at h2
  omega
end Go.Proofs.Ytioooiflpabngaa.PAll

namespace Go.Proofs.Ytioooiflpabngaa.PAll
open Go.RowKit Go.Sort Go.Proofs.YtioooiflpabngaaW.PrintWords Go.Proofs.YtioooiflpabngaaW.PrintLast Go.Proofs.YtioooiflpabngaaW.PrintMore
set_option linter.unusedVariables false
set_option linter.unusedSimpArgs false

def keyV (x : S27) : Value := .agg #[.int .u64 x.f0.f0, .int .i64 x.f0.f1, .int .u64 x.f1, .int .i64 x.f2]
theorem key_equal (x y : S27) (w : World) : (Op.equal 27 (keyV x) (keyV y)).run Try.prog w = .ok (eqL x y) w := by
  unfold Op.equal
  exact eqA27 9997 w _ _ _ _ _ _ _ _
theorem find_asking (x : S27) (w : World) : ∀ (es : List MapEntry) (i : Nat), (∀ e ∈ es, ∃ y, e.key = keyV y) →
    ((Instr.findAsking 27 (keyV x) es i).run Try.prog w = .ok none w ∧ ∀ e ∈ es, e.key ≠ keyV x) ∨
    ∃ j e, (Instr.findAsking 27 (keyV x) es i).run Try.prog w = .ok (some (i + j, e.val)) w ∧ es[j]? = some e ∧ e.key = keyV x
  | [], i, _ => .inl ⟨by simp [Instr.findAsking], by simp⟩
  | e :: es, i, hall => by
    obtain ⟨y, hy⟩ := hall e (by simp)
    have hr := key_equal x y w
    rw [← hy] at hr
    cases he : eqL x y with
    | false =>
      rw [he] at hr
      have hne : e.key ≠ keyV x := fun h => by
        rw [hy] at h
        simp only [keyV, Value.agg.injEq] at h
        have : x = y := by
          simp only [List.toArray_inj, Array.mk.injEq, List.cons.injEq, Value.int.injEq, true_and, and_true] at h
          obtain ⟨h1, h2, h3, h4⟩ := h
          exact (extL ⟨h1, h2, h3, h4⟩).symm
        rw [eqL_iff.2 this] at he
        cases he
      rcases find_asking x w es (i + 1) (fun y hy => hall y (by simp [hy])) with ⟨h1, h2⟩ | ⟨j, e', h1, h2, h3⟩
      · left
        refine ⟨by simp [Instr.findAsking, hr, h1], fun y hy => ?_⟩
        rcases List.mem_cons.1 hy with rfl | hy
        · exact hne
        · exact h2 y hy
      · right
        exact ⟨j + 1, e', by simp [Instr.findAsking, hr, h1, Nat.add_assoc, Nat.add_comm 1 j], by simpa using h2, h3⟩
    | true =>
      rw [he] at hr
      right
      exact ⟨0, e, by simp [Instr.findAsking, hr], rfl, by rw [hy, eqL_iff.1 he]⟩
theorem find_key (x : S27) (w : World) (es : List MapEntry) (hall : ∀ e ∈ es, ∃ y, e.key = keyV y) :
    ((Instr.findKey 27 (keyV x) es).run Try.prog w = .ok none w ∧ ∀ e ∈ es, e.key ≠ keyV x) ∨
    ∃ j e, (Instr.findKey 27 (keyV x) es).run Try.prog w = .ok (some (j, e.val)) w ∧ es[j]? = some e ∧ e.key = keyV x := by
  cases es with
  | nil => exact .inl ⟨by simp [Instr.findKey, Instr.findNow, run_underlying Try.underlying27], by simp⟩
  | cons e es =>
    have hn : ∀ fs, Instr.findNow (.struct fs) (keyV x) (e :: es) 0 = none := fun fs => by simp [Instr.findNow, Instr.sameNow]
    rcases find_asking x w (e :: es) 0 hall with ⟨h1, h2⟩ | ⟨j, e', h1, h2, h3⟩
    · exact .inl ⟨by simp [Instr.findKey, run_underlying Try.underlying27, hn, h1], h2⟩
    · exact .inr ⟨j, e', by simp [Instr.findKey, run_underlying Try.underlying27, hn, h1], h2, h3⟩
theorem check_leaf (em : Bool) (n : Nat) (t : TypeId) (k k' : IntKind) (ht : Try.prog.underlying t = some (.int k)) (a : Int) (w : World) : (Instr.checkKey em (n + 1) t (.int k' a)).run Try.prog w = .ok () w := by
  simp [Instr.checkKey, run_underlying ht]
theorem check_view (em : Bool) (n : Nat) (a b : Int) (w : World) : (Instr.checkKey em (n + 2) 25 (.agg #[.int .u64 a, .int .i64 b])).run Try.prog w = .ok () w := by
  rw [Instr.checkKey]
  simp only [run_underlying Try.underlying25, Sem.run_bind, Result.andThen_ok]
  go_simp
  simp [check_leaf em n 23 .u64 .u64 Try.underlying23, check_leaf em n 3 .i64 .i64 Try.underlying3, Result.andThen]
theorem check_key (em : Bool) (x : S27) (w : World) : (Instr.checkKey em 10000 27 (keyV x)).run Try.prog w = .ok () w := by
  show (Instr.checkKey em (9997 + 2 + 1) 27 (keyV x)).run Try.prog w = .ok () w
  unfold keyV
  rw [Instr.checkKey]
  simp only [run_underlying Try.underlying27, Sem.run_bind, Result.andThen_ok]
  go_simp
  simp [check_leaf em 9998 23 .u64 .u64 Try.underlying23, check_leaf em 9998 3 .i64 .i64 Try.underlying3, check_view em 9997, Result.andThen]
theorem zero_bool (w : World) : (zeroValue 4).run Try.prog w = .ok (.bool false) w := by
  kernel_rfl
/-- Block b is a map that holds true at just these labels. -/
def SetL (W : World) (b : Nat) (ys : List S27) : Prop := ∃ es clock, W.heap[b]? = some (.map es clock) ∧ (∀ e ∈ es.toList, ∃ y ∈ ys, e.key = keyV y ∧ e.val = .bool true) ∧ ∀ y ∈ ys, ∃ e ∈ es.toList, e.key = keyV y
theorem keyV_inj {x y : S27} (h : keyV x = keyV y) : x = y := by
  simp only [keyV, Value.agg.injEq] at h
  simp only [List.toArray_inj, Array.mk.injEq, List.cons.injEq, Value.int.injEq, true_and, and_true] at h
  obtain ⟨h1, h2, h3, h4⟩ := h
  exact extL ⟨h1, h2, h3, h4⟩
theorem set_has {W : World} {b : Nat} {ys : List S27} (h : SetL W b ys) (x : S27) : (Instr.lookup 100 (.map (some b)) (keyV x) false).run Try.prog W = .ok (.bool (memL x ys)) W := by
  obtain ⟨es, clock, hb, h1, h2⟩ := h
  rcases find_key x W es.toList (fun e he => by obtain ⟨y, _, h3, _⟩ := h1 e he; exact ⟨y, h3⟩) with ⟨hr, hne⟩ | ⟨j, e, hr, hj, hk⟩
  · have hm : memL x ys = false := by
      cases hc : memL x ys with
      | false => rfl
      | true =>
        obtain ⟨y, hy, he⟩ := List.any_eq_true.1 hc
        obtain ⟨e, he2, he3⟩ := h2 y hy
        rw [eqL_iff.1 he] at he3
        exact absurd he3 (hne e he2)
    rw [hm]
    simp [Instr.lookup, run_underlying Try.underlying100, MapKept.run_getObj_map hb, check_key, hr, zero_bool, Result.andThen]
  · obtain ⟨y, hy, h3, h4⟩ := h1 e (List.mem_of_getElem? hj)
    have hm : memL x ys = true := List.any_eq_true.2 ⟨y, hy, eqL_iff.2 (keyV_inj (h3.symm.trans hk))⟩
    rw [hm]
    simp [Instr.lookup, run_underlying Try.underlying100, MapKept.run_getObj_map hb, check_key, hr, h4, Result.andThen]
theorem set_put {W : World} {b : Nat} {ys : List S27} (h : SetL W b ys) (x : S27) : ∃ W1, (Instr.mapUpdate 100 (.map (some b)) (keyV x) (.bool true)).run Try.prog W = .ok () W1 ∧ SetL W1 b (ys ++ [x]) ∧ W.grownBy W1 (some b) := by
  obtain ⟨es, clock, hb, h1, h2⟩ := h
  rcases find_key x W es.toList (fun e he => by obtain ⟨y, _, h3, _⟩ := h1 e he; exact ⟨y, h3⟩) with ⟨hr, hne⟩ | ⟨j, e, hr, hj, hk⟩
  · refine ⟨ChangeMaps.setBlock W b (.map (es.push { key := keyV x, val := .bool true, born := clock }) (clock + 1)), by simp [Instr.mapUpdate, run_underlying Try.underlying100, MapKept.run_getObj_map hb, check_key, hr, MapKept.run_setObj_map _ hb, Result.andThen, ChangeMaps.setBlock], ⟨_, _, ChangeMaps.heap_setBlock_same hb _, ?_, ?_⟩, ⟨rfl, rfl, rfl, by simp [ChangeMaps.setBlock], fun i _ hi => ChangeMaps.heap_setBlock_other hb _ (fun e => hi (by rw [e]))⟩⟩
    · intro e he
      simp only [Array.toList_push, List.mem_append, List.mem_singleton] at he
      rcases he with he | rfl
      · obtain ⟨y, hy, h3⟩ := h1 e he
        exact ⟨y, List.mem_append_left _ hy, h3⟩
      · exact ⟨x, by simp, rfl, rfl⟩
    · intro y hy
      simp only [Array.toList_push, List.mem_append, List.mem_singleton] at hy ⊢
      rcases hy with hy | rfl
      · obtain ⟨e, he, h3⟩ := h2 y hy
        exact ⟨e, .inl he, h3⟩
      · exact ⟨_, .inr rfl, rfl⟩
  · have hst : (Instr.keyThatStays (keyV x) (keyV x)).run Try.prog W = .ok (keyV x) W := by simp [Instr.keyThatStays, keyV, Instr.sameBits]
    have hj2 : es[j]? = some e := by simpa using hj
    refine ⟨ChangeMaps.setBlock W b (.map (es.modify j fun e => { e with key := keyV x, val := .bool true }) clock), by simp [Instr.mapUpdate, run_underlying Try.underlying100, MapKept.run_getObj_map hb, check_key, hr, hj2, hk, hst, MapKept.run_setObj_map _ hb, Result.andThen, ChangeMaps.setBlock], ⟨_, _, ChangeMaps.heap_setBlock_same hb _, ?_, ?_⟩, ⟨rfl, rfl, rfl, by simp [ChangeMaps.setBlock], fun i _ hi => ChangeMaps.heap_setBlock_other hb _ (fun e => hi (by rw [e]))⟩⟩
    · intro e' he
      obtain ⟨i, hi, rfl⟩ := List.getElem_of_mem he
      simp only [Array.length_toList, Array.size_modify] at hi
      have he1 : es[i] ∈ es.toList := by simp
      obtain ⟨y, hy, h3, h4⟩ := h1 es[i] he1
      simp only [Array.getElem_toList, Array.getElem_modify]
      split
      · exact ⟨x, by simp, rfl, rfl⟩
      · exact ⟨y, List.mem_append_left _ hy, h3, h4⟩
    · intro y hy
      have hy2 : y ∈ ys := by
        rcases List.mem_append.1 hy with hy | hy
        · exact hy
        · rw [List.mem_singleton] at hy
          subst hy
          obtain ⟨z, hz, h3, _⟩ := h1 e (List.mem_of_getElem? hj)
          rw [← keyV_inj (h3.symm.trans hk)]
          exact hz
      obtain ⟨e0, he0, h3⟩ := h2 y hy2
      obtain ⟨i, hi, rfl⟩ := List.getElem_of_mem he0
      have hi2 : i < es.size := by simpa using hi
      refine ⟨(es.modify j fun e => { e with key := keyV x, val := .bool true })[i]'(by simpa using hi2), by rw [← Array.getElem_toList]; exact List.getElem_mem _, ?_⟩
      rw [Array.getElem_modify]
      split
      · rename_i hij
        subst hij
        have : es[j] = e := by rw [Array.getElem?_eq_getElem hi2] at hj2; exact Option.some.inj hj2
        show keyV x = keyV y
        rw [← hk, ← h3, Array.getElem_toList, this]
      · simpa using h3
theorem SetL.kept {w w' : World} {b : Nat} {ys : List S27} {row : Option Nat} (h : SetL w b ys) (hg : w.grownBy w' row) (hne : some b ≠ row) : SetL w' b ys := by
  obtain ⟨es, clock, hb, h1, h2⟩ := h
  exact ⟨es, clock, (hg.block b (blk_lt hb) hne).trans hb, h1, h2⟩
theorem SetL.lt {w : World} {b : Nat} {ys : List S27} (h : SetL w b ys) : b < w.heap.size := by
  obtain ⟨es, clock, hb, _⟩ := h
  exact blk_lt hb
theorem SetL.below {w w' : World} {b : Nat} {ys : List S27} (h : SetL w b ys) (hb : Below w.heap.size w w') : SetL w' b ys := by
  have hlt := h.lt
  obtain ⟨es, clock, hh, h1, h2⟩ := h
  exact ⟨es, clock, (hb.block b hlt).trans hh, h1, h2⟩
theorem SetL.alloc {w : World} {b : Nat} {ys : List S27} (h : SetL w b ys) (o : Obj) : SetL (w.alloc o) b ys := h.below (below_alloc (Below.refl _ _) o)
theorem SetL.made (w : World) : SetL (w.alloc (.map #[] 0)) w.heap.size [] := ⟨#[], 0, heap_alloc_new w _, by simp, by simp⟩
section
variable {ops : Array Oper} {rest : List Oper} {o : Oper} {a : Act} {Q : Exit → Act → World → Prop}
theorem wpList_put {w : World} (hg : o.guard = none) (m x v : Operand) (hop : o.op = Op.mapUpdate 100 m x v) {b : Nat} {ys : List S27} (y : S27) (hm : a.eval m = .map (some b)) (hx : a.eval x = keyV y) (hv : a.eval v = .bool true) (h : SetL w b ys)
    (hK : ∀ w1, SetL w1 b (ys ++ [y]) → w.grownBy w1 (some b) → wpList Try.prog ops Q rest (a.put o.dst undef) w1) : wpList Try.prog ops Q (o :: rest) a w := by
  refine wpList_plain hg fun K' hK' => ?_
  obtain ⟨w', hrun, r1, r2⟩ := set_put h y
  unfold Oper.wp
  simp [execOp, hop, hm, hx, hv, hrun, Result.andThen]
  exact hK' _ _ (hK w' r1 r2)
theorem wpList_has {w : World} (hg : o.guard = none) (m x : Operand) (hop : o.op = Op.lookup 100 m x false) {b : Nat} {ys : List S27} (y : S27) (hm : a.eval m = .map (some b)) (hx : a.eval x = keyV y) (h : SetL w b ys)
    (hK : wpList Try.prog ops Q rest (a.put o.dst (.bool (memL y ys))) w) : wpList Try.prog ops Q (o :: rest) a w := by
  refine wpList_plain hg fun K' hK' => ?_
  have hrun := set_has h y
  unfold Oper.wp
  simp [execOp, hop, hm, hx, hrun, Result.andThen]
  exact hK' _ _ hK
end
end Go.Proofs.Ytioooiflpabngaa.PAll

namespace Go.Proofs.Ytioooiflpabngaa.PAll
open Go.RowKit Go.Proofs.YtioooiflpabngaaW.PrintWords Go.Proofs.YtioooiflpabngaaW.PrintLast Go.Proofs.YtioooiflpabngaaW.PrintMore
set_option linter.unusedVariables false
set_option linter.unusedSimpArgs false

theorem C_none {α : Type} {d : Kd α} {w : World} {xs : List α} (h : Kd.C d w none xs.length xs) : xs = [] := by
  rcases Nat.eq_zero_or_pos xs.length with h0 | h0
  · exact List.eq_nil_of_length_eq_zero h0
  · obtain ⟨ad, e, _⟩ := h.2.2 h0
    cases e

theorem R_empty {α : Type} (d : Kd α) (e : Nat) (W : World) (base : Nat) (hb : base ≤ W.heap.size) : d.R e (W.alloc (.cells #[] e)) base (fun _ => True) (.slice (some ⟨W.heap.size, 0, none⟩) 0 0) [] := by
  refine ⟨fun _ _ => trivial, [], ?_, Reps.none _ _⟩
  have h2 := World.ownsRow_lit (base := base) (e := e) (size := d.sz) W #[] 0 hb (by simp [maxLen]) (by simp)
  simpa using h2

set_option maxHeartbeats 8000000 in
set_option maxRecDepth 100000 in
theorem bytes_Clone.calls (A0 : Option Addr) (c0 : Nat) (l0 : List Int) (r : List Int) (w : World) (hr0 : Kd.C (Kd.int .u8) w A0 l0.length l0) (hc0 : l0.length ≤ c0) (h : bytes_Clone.f l0 = some r) :
    Calls Try.prog 72 #[.slice A0 l0.length c0] w fun e w' => ∃ v0_ : Value, e = .returned (v0_) ∧ Kd.R (Kd.int .u8) 5 w' w.heap.size (fun _ => True) v0_ r ∧ Below w.heap.size w w' := by
  obtain ⟨hl, rfl⟩ := of_if_some h
  clear h
  have HL := Aside0.mk hl
  clear hl
  have HC0 := Aside0.mk hc0
  clear hc0
  have he := fun W : World => Lib.run_eql_slice_nil (P := Try.prog) W 30 5 A0 l0.length c0 0 0 Try.underlying30
  rcases A0 with _ | ad
  · obtain rfl := C_none hr0
    have he2 : ∀ W : World, (binOp .eql 30 (.slice none 0 c0) (.slice none 0 0)).run Try.prog W = .ok (.bool true) W := fun W => he W
    clear he hr0
    go_enter Try.func72, Try.ntmps72
    go_wp2
    go_ret
    exact ⟨_, rfl, Kd.R_nil _ _ _ _ _, Below.refl _ _⟩
  · have HR0 := Aside0.mk hr0
    clear hr0
    have he2 : ∀ W : World, (binOp .eql 30 (.slice (some ad) l0.length c0) (.slice none 0 0)).run Try.prog W = .ok (.bool false) W := fun W => he W
    clear he
    go_enter Try.func72, Try.ntmps72
    go_wp2_with ((with_reducible refine gate_builtin (b := .append) (xs := #[.tmp 5, .tmp 6]) rfl ?_); at_builtin; refine Kd.R_append_rows (Kd.int .u8) (w0 := w) w.heap.size rfl (.tmp 5) (.tmp 6) 30 5 (.int .u8 0) 1 rfl Try.underlying30 info5 rfl (by decide) (by omega) (.slice (some ⟨w.heap.size, 0, none⟩) 0 0) ([] : List Int) l0 _ _ _ (fun _ => True) (fun _ => False) rfl rfl ?aO ?aR (fun _ _ h => h) (fun _ h => h.elim) ?aF ?aB ?aS ?aL ?_; (case aR => exact Kd.C_alloc HR0.out _); (case aB => exact below_alloc (Below.refl _ _) _); (case aF => exact (fun _ _ => trivial)); (case aO => exact R_empty _ _ _ _ (Nat.le_refl _)); (case aS => simp); (case aL => have := HL.out; simp; omega); intro v481 w5 ho hb hg hat; clear hg hat)
    go_ret
    exact ⟨_, rfl, by simpa using ho, hb⟩
set_option maxHeartbeats 8000000 in
set_option maxRecDepth 100000 in
theorem slices_Clone_Label.calls (A0 : Option Addr) (c0 : Nat) (l0 : List S27) (r : List S27) (w : World) (hr0 : Kd.C k27 w A0 l0.length l0) (hc0 : l0.length ≤ c0) (h : slices_Clone_Label.f l0 = some r) :
    Calls Try.prog 78 #[.slice A0 l0.length c0] w fun e w' => ∃ v0_ : Value, e = .returned (v0_) ∧ Kd.R k27 27 w' w.heap.size (fun _ => True) v0_ r ∧ Below w.heap.size w w' := by
  obtain ⟨hl, rfl⟩ := of_if_some h
  clear h
  have HL := Aside0.mk hl
  clear hl
  have HC0 := Aside0.mk hc0
  clear hc0
  have he := fun W : World => Lib.run_eql_slice_nil (P := Try.prog) W 41 27 A0 l0.length c0 0 0 Try.underlying41
  rcases A0 with _ | ad
  · obtain rfl := C_none hr0
    have he2 : ∀ W : World, (binOp .eql 41 (.slice none 0 c0) (.slice none 0 0)).run Try.prog W = .ok (.bool true) W := fun W => he W
    clear he hr0
    go_enter Try.func78, Try.ntmps78
    go_wp2
    go_ret
    exact ⟨_, rfl, Kd.R_nil _ _ _ _ _, Below.refl _ _⟩
  · have HR0 := Aside0.mk hr0
    clear hr0
    have he2 : ∀ W : World, (binOp .eql 41 (.slice (some ad) l0.length c0) (.slice none 0 0)).run Try.prog W = .ok (.bool false) W := fun W => he W
    clear he
    go_enter Try.func78, Try.ntmps78
    go_wp2_with ((with_reducible refine gate_builtin (b := .append) (xs := #[.tmp 5, .tmp 6]) rfl ?_); at_builtin; refine Kd.R_append_rows k27 (w0 := w) w.heap.size rfl (.tmp 5) (.tmp 6) 41 27 (.agg #[(.int .u64 0), (.int .i64 0), (.int .u64 0), (.int .i64 0)]) 32 rfl Try.underlying41 info27 rfl (by decide) (by omega) (.slice (some ⟨w.heap.size, 0, none⟩) 0 0) ([] : List S27) l0 _ _ _ (fun _ => True) (fun _ => False) rfl rfl ?aO ?aR (fun _ _ h => h) (fun _ h => h.elim) ?aF ?aB ?aS ?aL ?_; (case aR => exact Kd.C_alloc HR0.out _); (case aB => exact below_alloc (Below.refl _ _) _); (case aF => exact (fun _ _ => trivial)); (case aO => exact R_empty _ _ _ _ (Nat.le_refl _)); (case aS => simp); (case aL => have := HL.out; simp; omega); intro v481 w5 ho hb hg hat; clear hg hat)
    go_ret
    exact ⟨_, rfl, by simpa using ho, hb⟩
end Go.Proofs.Ytioooiflpabngaa.PAll

namespace Go.Proofs.Ytioooiflpabngaa.PAll
open Go.RowKit Go.Sort Go.Proofs.YtioooiflpabngaaW.PrintWords Go.Proofs.YtioooiflpabngaaW.PrintLast Go.Proofs.YtioooiflpabngaaW.PrintMore
set_option linter.unusedVariables false
set_option linter.unusedSimpArgs false

set_option maxHeartbeats 4000000 in
set_option maxRecDepth 100000 in
theorem behind_walk (A0 : Option Addr) (c0 : Nat) (l0 : List S27) (A1 : Option Addr) (c1 : Nat) (l1 : List S27) (w : World) (hr0 : Kd.C k27 w A0 l0.length l0) (hc0 : l0.length ≤ c0) (hr1 : Kd.C k27 w A1 l1.length l1) (hc1 : l1.length ≤ c1) (hlen : l0.length + l1.length < 4398046511104) :
    Calls Try.prog 34 #[.slice A0 l0.length c0, .slice A1 l1.length c1] w fun e w' => ∃ v0_ : Value, e = .returned (v0_) ∧ Kd.R k27 27 w' w.heap.size (fun _ => True) v0_ (behindL l0 l1) ∧ Below w.heap.size w w' := by
  have H0 := Aside0.mk hr0
  have H1 := Aside0.mk hr1
  have C0 := Aside0.mk hc0
  have C1 := Aside0.mk hc1
  have HL := Aside0.mk hlen
  clear hr0 hr1 hc0 hc1 hlen
  have hmm := @run_makeMap Try.prog
  go_enter Try.func34, Try.ntmps34
  go_wp2
  go_loopw [14] (fun i wr => ∃ k : Nat, k ≤ l0.length ∧ i = .int .i64 k ∧ Aside0 (SetL wr w.heap.size (l0.take k)) ∧ Aside0 (Below w.heap.size w wr))
    (fun i _ => l0.length - (intOf i).toNat)
  case atStart => exact ⟨0, Nat.zero_le _, rfl, ⟨SetL.made w⟩, ⟨(Below.refl _ _).alloc (Nat.le_refl _) _⟩⟩
  case round =>
    obtain ⟨k, hk, rfl, HS, HB⟩ := hrel
    by_cases hlt : k < l0.length
    · obtain ⟨ad, e, hx0, hx1, hx2, hx3⟩ := at_T27 (Kd.C_below H0.out HB.out) (k : Int) (by omega) (by omega)
      subst e
      rw [Int.toNat_natCast] at hx0 hx1 hx2 hx3
      have HK := Aside0.mk hk
      clear hk
      have hlt' : (k : Int) < (l0.length : Int) := by omega
      have hz2 := HL.out
      go_wp2_with (at_mapUpdate; refine wpList_put rfl (.tmp 18) (.tmp 19) (.const (.bool true)) rfl (rd_T27 l0 (k : Int)) rfl rfl rfl (HS.out.alloc _) ?_; intro w1 hs1 hg1; have HS1 := Aside0.mk hs1; have HG1 := Aside0.mk hg1; clear hs1 hg1)
      refine ⟨⟨k + 1, by omega, by simp, ⟨by rw [take_snocL _ _ hlt]; exact HS1.out⟩, ⟨(HB.out.alloc HB.out.size _).grown HG1.out (Nat.le_trans HB.out.size (by simp)) (fun r e => by cases e; exact Nat.le_refl _)⟩⟩, by simp [intOf]; omega⟩
    · obtain rfl : k = l0.length := by omega
      have HS2 := Aside0.mk (show SetL wr w.heap.size l0 by have := HS.out; rwa [List.take_length] at this)
      clear HS hk
      go_wp2_with (first
        | (go_at_call 78; refine (slices_Clone_Label.calls A0 c0 l0 l0 _ (Kd.C_below H0.out HB.out) C0.out (by unfold slices_Clone_Label.f; rw [if_pos (by have := HL.out; omega)])).mono ?_; rintro e w2 ⟨v, rfl, hR, hb⟩; have HRO := Aside0.mk hR; have HB2 := Aside0.mk hb; clear hR hb)
        | (go_at_call 35; refine (label_Sort.calls A1 c1 l1 (sortL l1) _ (Kd.C_below H1.out (HB.out.trans (HB2.out.mono HB.out.size))) C1.out (by unfold label_Sort.f; rw [if_pos (by have := HL.out; omega)])).mono ?_; rintro e w3 ⟨v3, rfl, hR, hb⟩; obtain ⟨A3, c3, rfl⟩ := Kd.R_slice hR; have HRS := Aside0.mk hR; have HB3 := Aside0.mk hb; clear hR hb))
      have hv2 : ∀ r, v.ownBlock = some r → wr.heap.size ≤ r ∧ r < w2.heap.size := by
        obtain ⟨_, inn, ho, _⟩ := HRO.out
        intro r hr
        have := ho.lt r hr
        omega
      have hv3 : ∀ r, (Value.slice A3 (sortL l1).length c3).ownBlock = some r → w2.heap.size ≤ r ∧ r < w3.heap.size := by
        obtain ⟨_, inn, ho, _⟩ := HRS.out
        intro r hr
        have := ho.lt r hr
        omega
      have hbl := HS2.out.lt
      have hs2 := HB2.out.size
      have hs3 := HB3.out.size
      have hs1 := HB.out.size
      obtain ⟨Ao, co, rfl⟩ := Kd.R_slice HRO.out
      have hout : Kd.R k27 27 w3 w.heap.size (fun r => r ≠ w.heap.size ∧ some r ≠ (Value.slice A3 (sortL l1).length c3).ownBlock) (.slice Ao l0.length co) l0 :=
        Kd.R_lower (Kd.R_below (Kd.R_mono (Kd.R_tight rfl HRO.out) (fun r hr => ⟨by have := hv2 r hr.symm; omega, fun e => by have h1 := hv2 r hr.symm; have h2 := hv3 r e.symm; omega⟩)) HB3.out) hs1
      have hsrt : Kd.R k27 27 w3 w.heap.size (fun r => some r = (Value.slice A3 (sortL l1).length c3).ownBlock) (.slice A3 (sortL l1).length c3) (sortL l1) :=
        Kd.R_lower (Kd.R_tight rfl HRS.out) (Nat.le_trans hs1 hs2)
      have hset : SetL w3 w.heap.size l0 := (HS2.out.below HB2.out).below HB3.out
      have hbw : Below w.heap.size w w3 := (HB.out.trans (HB2.out.mono hs1)).trans (HB3.out.mono (Nat.le_trans hs1 hs2))
      have HLS := Aside0.mk (show l0.length + (sortL l1).length < 4398046511104 from by have := sortL_length l1; have := HL.out; omega)
      clear HS2 HB HRO HB2 HRS HB3 hv2 hv3 hs2 hs3 hs1
      go_loopw [8, 26] (fun s8 s26 wr => ∃ (k : Nat) (Ao : Option Addr) (co : Nat), k ≤ (sortL l1).length ∧ s26 = .int .i64 k ∧ s8 = .slice Ao (l0 ++ ((sortL l1).take k).filter fun x => !memL x l0).length co ∧ Aside0 (SetL wr w.heap.size l0) ∧
          Aside0 (Kd.R k27 27 wr w.heap.size (fun r => r ≠ w.heap.size ∧ some r ≠ (Value.slice A3 (sortL l1).length c3).ownBlock) (.slice Ao (l0 ++ ((sortL l1).take k).filter fun x => !memL x l0).length co) (l0 ++ ((sortL l1).take k).filter fun x => !memL x l0)) ∧
          Aside0 (Kd.R k27 27 wr w.heap.size (fun r => some r = (Value.slice A3 (sortL l1).length c3).ownBlock) (.slice A3 (sortL l1).length c3) (sortL l1)) ∧ Aside0 (Below w.heap.size w wr))
        (fun _ i _ => (sortL l1).length - (intOf i).toNat)
      case atStart => exact ⟨0, Ao, co, Nat.zero_le _, rfl, by simp, ⟨hset⟩, ⟨by simpa using hout⟩, ⟨hsrt⟩, ⟨hbw⟩⟩
      case round =>
        obtain ⟨k, Ao, co, hk, rfl, rfl, HS, HO, HV, HB⟩ := hrel
        by_cases hlt : k < (sortL l1).length
        · generalize houts : (l0 ++ ((sortL l1).take k).filter fun x => !memL x l0) = outs at HO ⊢
          have HOU := Aside0.mk houts
          clear houts
          obtain ⟨ad, e, hx0, hx1, hx2, hx3⟩ := at_T27 (Kd.R_reads' HV.out).2.2 (k : Int) (by omega) (by omega)
          subst e
          rw [Int.toNat_natCast] at hx0 hx1 hx2 hx3
          have HK := Aside0.mk (And.intro hk hlt)
          have HBL := Aside0.mk HS.out.lt
          have HVB := Aside0.mk (show ∀ r, (Value.slice (some ad) (sortL l1).length c3).ownBlock = some r → r < wr.heap.size from by
            obtain ⟨_, inn, ho, _⟩ := HV.out
            intro r hr
            exact (ho.lt r hr).2)
          have hlt' : (k : Int) < ((sortL l1).length : Int) := by omega
          have hz2 := HLS.out
          clear hk
          cases hm : memL (rd_T27 (sortL l1) (k : Int)) l0 with
          | true =>
            have HM := Aside0.mk hm
            clear hm
            go_wp2_with (at_lookup; refine wpList_has rfl (.tmp 30) (.tmp 31) rfl (rd_T27 (sortL l1) (k : Int)) rfl rfl (HS.out.alloc _) ?_; rw [HM.out])
            have e5 : l0 ++ ((sortL l1).take (k + 1)).filter (fun x => !memL x l0) = outs := by
              rw [← HOU.out, take_snocL _ _ hlt, List.filter_append]
              simp [HM.out]
            refine ⟨⟨k + 1, Ao, co, by omega, by simp, ?_, ⟨HS.out.alloc _⟩, ⟨?_⟩, ⟨Kd.R_alloc HV.out _⟩, ⟨HB.out.alloc HB.out.size _⟩⟩, by simp [intOf]; omega⟩
            · rw [e5]
            · rw [e5]; exact Kd.R_alloc HO.out _
          | false =>
            have HM := Aside0.mk hm
            clear hm
            go_wp2_with (first
              | (at_lookup; refine wpList_has rfl (.tmp 30) (.tmp 31) rfl (rd_T27 (sortL l1) (k : Int)) rfl rfl (HS.out.alloc _) ?_; rw [HM.out])
              | (at_builtin; refine Kd.R_append k27 (w0 := w) w.heap.size rfl (.tmp 34) (.tmp 36) 41 27 (.agg #[(.int .u64 0), (.int .i64 0), (.int .u64 0), (.int .i64 0)]) 32 rfl Try.underlying41 info27 rfl (by decide) (by omega) (.slice Ao outs.length co) outs (rd_T27 (sortL l1) (k : Int)) (encL (rd_T27 (sortL l1) (k : Int))) (fun r => r ≠ w.heap.size ∧ some r ≠ (Value.slice (some ad) (sortL l1).length c3).ownBlock) (fun _ => False) rfl ?aX ?aP (fun _ hk => hk.elim) ?aF ?aO ?aB ?aS ?aL ?_; (case aX => simp [Act.eval]); (case aP => exact M_L _ _ _ _); (case aO => exact Kd.R_alloc HO.out _); (case aB => exact HB.out.alloc HB.out.size _); (case aF => intro r hr; have h1 := HBL.out; rw [World.size_alloc] at hr; exact ⟨by omega, fun e => by have := HVB.out r e.symm; omega⟩); (case aS => have := HB.out.size; rw [World.size_alloc]; omega); (case aL => have h1 := List.length_filter_le (fun x => !memL x l0) ((sortL l1).take k); have h2 := HLS.out; rw [List.length_take] at h1; rw [← HOU.out, List.length_append]; have h3 := HK.out; omega); intro v1 w5 ho hb hg hat; have HO5 := Aside0.mk ho; have HB5 := Aside0.mk hb; have HG5 := Aside0.mk hg; clear ho hb hg hat))
            have hne : ∀ r, (Value.slice Ao outs.length co).ownBlock = some r → r ≠ w.heap.size ∧ some r ≠ (Value.slice (some ad) (sortL l1).length c3).ownBlock := HO.out.1
            have e5 : l0 ++ ((sortL l1).take (k + 1)).filter (fun x => !memL x l0) = outs ++ [rd_T27 (sortL l1) (k : Int)] := by
              rw [← HOU.out, take_snocL _ _ hlt, List.filter_append, List.append_assoc]
              congr 2
              simp [HM.out]
            obtain ⟨A5, c5, rfl⟩ := Kd.R_slice HO5.out
            refine ⟨⟨k + 1, A5, c5, by omega, by simp, ?_, ⟨(HS.out.alloc _).kept HG5.out (fun e => (hne _ e.symm).1 rfl)⟩, ⟨?_⟩, ⟨Kd.R_grown (Kd.R_alloc HV.out _) HG5.out (fun r hr e => (hne r e.symm).2 hr)⟩, ⟨HB5.out⟩⟩, by simp [intOf]; omega⟩
            · rw [e5]
            · rw [e5]; exact HO5.out
        · obtain rfl : k = (sortL l1).length := by omega
          have HO2 := Aside0.mk HO.out
          go_wp2
          go_ret
          refine ⟨_, rfl, ?_, HB.out⟩
          rw [show behindL l0 l1 = l0 ++ ((sortL l1).take (sortL l1).length).filter (fun x => !memL x l0) from by rw [List.take_length]; rfl]
          exact Kd.R_mono HO.out (fun _ _ => trivial)
theorem label_Behind.calls (A0 : Option Addr) (c0 : Nat) (l0 : List S27) (A1 : Option Addr) (c1 : Nat) (l1 : List S27) (r : List S27) (w : World) (hr0 : Kd.C k27 w A0 l0.length l0) (hc0 : l0.length ≤ c0) (hr1 : Kd.C k27 w A1 l1.length l1) (hc1 : l1.length ≤ c1) (h : label_Behind.f l0 l1 = some r) :
    Calls Try.prog 34 #[.slice A0 l0.length c0, .slice A1 l1.length c1] w fun e w' => ∃ v0_ : Value, e = .returned (v0_) ∧ Kd.R k27 27 w' w.heap.size (fun _ => True) v0_ r ∧ Below w.heap.size w w' := by
  obtain ⟨hl, rfl⟩ := of_if_some h
  exact behind_walk A0 c0 l0 A1 c1 l1 w hr0 hc0 hr1 hc1 hl
end Go.Proofs.Ytioooiflpabngaa.PAll

namespace Go.Proofs.Ytioooiflpabngaa.PAll
open Go.RowKit Go.Proofs.YtioooiflpabngaaW.PrintWords Go.Proofs.YtioooiflpabngaaW.PrintLast Go.Proofs.YtioooiflpabngaaW.PrintMore
attribute [local go_sem] max2_int min2_int max_two min_two max_three min_three max_four min_four   -- for this text's walks alone
set_option linter.unusedVariables false
set_option linter.unusedSimpArgs false

/-! ### folkmootlaw05_of: function 77 -/
def folkmootlaw05_of.f (a0 : Int) : Option (Int × Int × Int × Int) := some (1, 0, a0, 0)
set_option maxHeartbeats 8000000 in
set_option maxRecDepth 100000 in
theorem folkmootlaw05_of.calls (a0 : Int) (r1 : Int) (r2 : Int) (r3 : Int) (r4 : Int) (w : World) (h : folkmootlaw05_of.f a0 = some (r1, r2, r3, r4)) :
    Calls Try.prog 77 #[.int .u64 a0] w fun e w' => e = .returned (.agg #[.int .u64 r1, .int .i64 r2, .int .u64 r3, .int .i64 r4]) ∧ Below w.heap.size w w' := by
  have hu27 := Try.underlying27
  have hu25 := Try.underlying25
  have HB := Aside0.mk (Below.refl w.heap.size w)
  have H : (some (1, 0, a0, 0)) = some (r1, r2, r3, r4) := h
  clear h
  simp only [Option.some.injEq, Prod.mk.injEq] at H
  obtain ⟨rfl, rfl, rfl, rfl⟩ := H
  go_enter Try.func77, Try.ntmps77
  go_wp2_with (first | ((with_reducible refine gate_dst (N := 2) rfl ?_); refine box_event ?hg (N := 2) ?hd (cs := #[.int .u64 0, .int .i64 0, .int .u64 0, .int .i64 0]) (t := 27) ?hr ?_; (case hd => rfl); (case hg => rfl); (case hr => first | (go_simp; done) | (go_simp; rfl)); intro gb345 hg w2 hbox hb; have n0_ := Aside0.mk (below_step (by repeat (first | (with_reducible first | exact HB.out | apply below_alloc | apply pw_below_drewN | apply below_drew1) | exact HB.out)) hb); have n1_ := Aside0.mk (hbox); have n2_ := Aside0.mk ((by rw [hg]; exact (below_size (by repeat (first | (with_reducible first | exact HB.out | apply below_alloc | apply pw_below_drewN | apply below_drew1) | exact HB.out))) : w.heap.size ≤ gb345)); have n3_ := Aside0.mk ((by rw [hg]; exact (below_size (by repeat (first | (with_reducible first | exact HB.out | apply below_alloc | apply pw_below_drewN | apply below_drew1) | exact HB.out))) : w.heap.size ≤ gb345)); clear HB; have HB := n0_; have BK345 := n1_; have GW345 := n2_; have GE345 := n3_; clear n0_ n1_ n2_ n3_; clear hb hbox hg; have hcz3_0 : w2.cell? ⟨gb345, 0, none⟩ = some (.int .u64 0) := (blk_cell BK345.out 0).trans rfl; have hcz3_1 : w2.cell? ⟨gb345, 1, none⟩ = some (.int .i64 0) := (blk_cell BK345.out 1).trans rfl; have hcz3_2 : w2.cell? ⟨gb345, 2, none⟩ = some (.int .u64 0) := (blk_cell BK345.out 2).trans rfl; have hcz3_3 : w2.cell? ⟨gb345, 3, none⟩ = some (.int .i64 0) := (blk_cell BK345.out 3).trans rfl; have hfz3_0 := blk_frozen BK345.out 0; have hfz3_1 := blk_frozen BK345.out 1; have hfz3_2 := blk_frozen BK345.out 2; have hfz3_3 := blk_frozen BK345.out 3))
  refine bodyPost_ret (results_cell_row rfl _ _ gb345 27 #[.int .u64 1, .int .i64 0, .int .u64 a0, .int .i64 0] (0, 0) _ rfl (by (with_reducible repeat (first | refine blk_drewN ?_ _ | refine blk_drew ?_ | refine blk_alloc ?_ _)); refine blk_put (cs := #[.int .u64 1, .int .i64 0, .int .u64 a0, .int .i64 0]) ?_ 3 _ rfl; (with_reducible repeat (first | refine blk_drewN ?_ _ | refine blk_drew ?_ | refine blk_alloc ?_ _)); refine blk_put (cs := #[.int .u64 1, .int .i64 0, .int .u64 0, .int .i64 0]) ?_ 2 _ rfl; (with_reducible repeat (first | refine blk_drewN ?_ _ | refine blk_drew ?_ | refine blk_alloc ?_ _)); refine blk_put (cs := #[.int .u64 1, .int .i64 0, .int .u64 0, .int .i64 0]) ?_ 1 _ rfl; (with_reducible repeat (first | refine blk_drewN ?_ _ | refine blk_drew ?_ | refine blk_alloc ?_ _)); refine blk_put (cs := #[.int .u64 0, .int .i64 0, .int .u64 0, .int .i64 0]) ?_ 0 _ rfl; (with_reducible repeat (first | refine blk_drewN ?_ _ | refine blk_drew ?_ | refine blk_alloc ?_ _)); exact BK345.out) Try.underlying27 rfl (by kernel_rfl)) rfl ?_
  exact ⟨by first | rfl | (simp [errW_none, errW_some] <;> rfl) | (simp [*, errW_none, errW_some] <;> rfl), by repeat (first | (with_reducible first | exact HB.out | apply below_alloc | apply pw_below_drewN | apply below_drew1 | refine below_set ?_ GE345.out) | exact HB.out)⟩

end Go.Proofs.Ytioooiflpabngaa.PAll

namespace Go.Proofs.Ytioooiflpabngaa.PAll
open Go.RowKit Go.Proofs.YtioooiflpabngaaW.PrintWords Go.Proofs.YtioooiflpabngaaW.PrintLast Go.Proofs.YtioooiflpabngaaW.PrintMore
set_option linter.unusedVariables false
set_option linter.unusedSimpArgs false
def folkmootlaw05_awake.f : Option Bool := some true
def of_ (n : Int) : S27 := ⟨⟨1, 0⟩, n, 0⟩
theorem of_call (n : Int) (w : World) : Calls Try.prog 77 #[.int .u64 n] w fun e w' => e = .returned (.agg #[.int .u64 1, .int .i64 0, .int .u64 n, .int .i64 0]) ∧ Below w.heap.size w w' :=
  folkmootlaw05_of.calls n 1 0 n 0 w rfl
theorem behind_four : label_Behind.f [of_ 2, of_ 1] [of_ 3, of_ 1, of_ 4, of_ 3] = some [of_ 2, of_ 1, of_ 3, of_ 4] := by kernel_rfl
theorem same_four : folkmootref05_Same.f 10 [of_ 2, of_ 1, of_ 3, of_ 4] [of_ 2, of_ 1, of_ 3, of_ 4] = some true := by kernel_rfl
set_option maxHeartbeats 8000000 in
set_option maxRecDepth 100000 in
theorem folkmootlaw05_awake.calls (r : Bool) (w : World) (h : folkmootlaw05_awake.f = some r) :
    Calls Try.prog 33 #[] w fun e w' => e = .returned (.bool r) ∧ Below w.heap.size w w' := by
  injection h with h
  subst h
  have HB := Aside0.mk (Below.refl w.heap.size w)
  go_enter Try.func33, Try.ntmps33
  go_wp2_with (first | (go_at_call 77; refine (of_call _ _).mono ?_; rintro e w' ⟨rfl, hb⟩; have B_ := Aside0.mk (below_step HB.out hb); clear HB; have HB := B_; clear B_; (try (have C_ := Aside0.mk (Kd.C_below H3.out hb); clear H3; have H3 := C_; clear C_)); (try (have C_ := Aside0.mk (Kd.C_below H8.out hb); clear H8; have H8 := C_; clear C_)); (try (have C_ := Aside0.mk (Kd.C_below H9.out hb); clear H9; have H9 := C_; clear C_)); (try (have C_ := Aside0.mk (Kd.C_below H14.out hb); clear H14; have H14 := C_; clear C_)); clear hb) | ((with_reducible refine gate_dst (N := 3) rfl ?_); refine Kd.R_lit k27 _ 27 ?hg (N := 3) ?hd (xs := [of_ 2, of_ 1]) (inner := [.int .u64 1, .int .i64 0, .int .u64 2, .int .i64 0, .int .u64 1, .int .i64 0, .int .u64 1, .int .i64 0]) (ok := fun _ => True) (okp := fun _ => True) ?hr ?hp (fun _ hk => hk) trivial (Below.refl _ _) (Nat.le_refl _) (by simp) ?_; (case hd => rfl); (case hg => rfl); (case hr => first | (go_simp; done) | (go_simp; rfl)); (case hp => exact (Reps.c4 (show Kd.M k27 _ _ _ (of_ 2) [.int .u64 1, .int .i64 0, .int .u64 2, .int .i64 0] from k27_mkM _ _ _ (of_ 2)) (Reps.c4 (show Kd.M k27 _ _ _ (of_ 1) [.int .u64 1, .int .i64 0, .int .u64 1, .int .i64 0] from k27_mkM _ _ _ (of_ 1)) (Reps.none _ _)))); intro v3 w3 ho3 hb hg_ hnew_; clear hg_ hnew_; have B_ := Aside0.mk (below_step HB.out hb); clear HB; have HB := B_; clear B_; (try (have C_ := Aside0.mk (Kd.C_below H3.out hb); clear H3; have H3 := C_; clear C_)); (try (have C_ := Aside0.mk (Kd.C_below H8.out hb); clear H8; have H8 := C_; clear C_)); (try (have C_ := Aside0.mk (Kd.C_below H9.out hb); clear H9; have H9 := C_; clear C_)); (try (have C_ := Aside0.mk (Kd.C_below H14.out hb); clear H14; have H14 := C_; clear C_)); clear hb; obtain ⟨A3, c3, e3, hl3, hC3⟩ := Kd.R_reads ho3; subst e3; have L3 := Aside0.mk hl3; have H3 := Aside0.mk hC3; clear ho3 hl3 hC3) | ((with_reducible refine gate_dst (N := 8) rfl ?_); refine Kd.R_lit k27 _ 27 ?hg (N := 8) ?hd (xs := [of_ 3, of_ 1, of_ 4, of_ 3]) (inner := [.int .u64 1, .int .i64 0, .int .u64 3, .int .i64 0, .int .u64 1, .int .i64 0, .int .u64 1, .int .i64 0, .int .u64 1, .int .i64 0, .int .u64 4, .int .i64 0, .int .u64 1, .int .i64 0, .int .u64 3, .int .i64 0]) (ok := fun _ => True) (okp := fun _ => True) ?hr ?hp (fun _ hk => hk) trivial (Below.refl _ _) (Nat.le_refl _) (by simp) ?_; (case hd => rfl); (case hg => rfl); (case hr => first | (go_simp; done) | (go_simp; rfl)); (case hp => exact (Reps.c4 (show Kd.M k27 _ _ _ (of_ 3) [.int .u64 1, .int .i64 0, .int .u64 3, .int .i64 0] from k27_mkM _ _ _ (of_ 3)) (Reps.c4 (show Kd.M k27 _ _ _ (of_ 1) [.int .u64 1, .int .i64 0, .int .u64 1, .int .i64 0] from k27_mkM _ _ _ (of_ 1)) (Reps.c4 (show Kd.M k27 _ _ _ (of_ 4) [.int .u64 1, .int .i64 0, .int .u64 4, .int .i64 0] from k27_mkM _ _ _ (of_ 4)) (Reps.c4 (show Kd.M k27 _ _ _ (of_ 3) [.int .u64 1, .int .i64 0, .int .u64 3, .int .i64 0] from k27_mkM _ _ _ (of_ 3)) (Reps.none _ _)))))); intro v8 w8 ho8 hb hg_ hnew_; clear hg_ hnew_; have B_ := Aside0.mk (below_step HB.out hb); clear HB; have HB := B_; clear B_; (try (have C_ := Aside0.mk (Kd.C_below H3.out hb); clear H3; have H3 := C_; clear C_)); (try (have C_ := Aside0.mk (Kd.C_below H8.out hb); clear H8; have H8 := C_; clear C_)); (try (have C_ := Aside0.mk (Kd.C_below H9.out hb); clear H9; have H9 := C_; clear C_)); (try (have C_ := Aside0.mk (Kd.C_below H14.out hb); clear H14; have H14 := C_; clear C_)); clear hb; obtain ⟨A8, c8, e8, hl8, hC8⟩ := Kd.R_reads ho8; subst e8; have L8 := Aside0.mk hl8; have H8 := Aside0.mk hC8; clear ho8 hl8 hC8) | ((with_reducible refine gate_dst (N := 14) rfl ?_); refine Kd.R_lit k27 _ 27 ?hg (N := 14) ?hd (xs := [of_ 2, of_ 1, of_ 3, of_ 4]) (inner := [.int .u64 1, .int .i64 0, .int .u64 2, .int .i64 0, .int .u64 1, .int .i64 0, .int .u64 1, .int .i64 0, .int .u64 1, .int .i64 0, .int .u64 3, .int .i64 0, .int .u64 1, .int .i64 0, .int .u64 4, .int .i64 0]) (ok := fun _ => True) (okp := fun _ => True) ?hr ?hp (fun _ hk => hk) trivial (Below.refl _ _) (Nat.le_refl _) (by simp) ?_; (case hd => rfl); (case hg => rfl); (case hr => first | (go_simp; done) | (go_simp; rfl)); (case hp => exact (Reps.c4 (show Kd.M k27 _ _ _ (of_ 2) [.int .u64 1, .int .i64 0, .int .u64 2, .int .i64 0] from k27_mkM _ _ _ (of_ 2)) (Reps.c4 (show Kd.M k27 _ _ _ (of_ 1) [.int .u64 1, .int .i64 0, .int .u64 1, .int .i64 0] from k27_mkM _ _ _ (of_ 1)) (Reps.c4 (show Kd.M k27 _ _ _ (of_ 3) [.int .u64 1, .int .i64 0, .int .u64 3, .int .i64 0] from k27_mkM _ _ _ (of_ 3)) (Reps.c4 (show Kd.M k27 _ _ _ (of_ 4) [.int .u64 1, .int .i64 0, .int .u64 4, .int .i64 0] from k27_mkM _ _ _ (of_ 4)) (Reps.none _ _)))))); intro v14 w14 ho14 hb hg_ hnew_; clear hg_ hnew_; have B_ := Aside0.mk (below_step HB.out hb); clear HB; have HB := B_; clear B_; (try (have C_ := Aside0.mk (Kd.C_below H3.out hb); clear H3; have H3 := C_; clear C_)); (try (have C_ := Aside0.mk (Kd.C_below H8.out hb); clear H8; have H8 := C_; clear C_)); (try (have C_ := Aside0.mk (Kd.C_below H9.out hb); clear H9; have H9 := C_; clear C_)); (try (have C_ := Aside0.mk (Kd.C_below H14.out hb); clear H14; have H14 := C_; clear C_)); clear hb; obtain ⟨A14, c14, e14, hl14, hC14⟩ := Kd.R_reads ho14; subst e14; have L14 := Aside0.mk hl14; have H14 := Aside0.mk hC14; clear ho14 hl14 hC14) | (go_at_call 34; refine (label_Behind.calls _ _ [of_ 2, of_ 1] _ _ [of_ 3, of_ 1, of_ 4, of_ 3] [of_ 2, of_ 1, of_ 3, of_ 4] _ H3.out L3.out H8.out L8.out behind_four).mono ?_; rintro e w' ⟨v9, rfl, ho9, hb⟩; have B_ := Aside0.mk (below_step HB.out hb); clear HB; have HB := B_; clear B_; (try (have C_ := Aside0.mk (Kd.C_below H3.out hb); clear H3; have H3 := C_; clear C_)); (try (have C_ := Aside0.mk (Kd.C_below H8.out hb); clear H8; have H8 := C_; clear C_)); (try (have C_ := Aside0.mk (Kd.C_below H9.out hb); clear H9; have H9 := C_; clear C_)); (try (have C_ := Aside0.mk (Kd.C_below H14.out hb); clear H14; have H14 := C_; clear C_)); clear hb; obtain ⟨A9, c9, e9, hl9, hC9⟩ := Kd.R_reads ho9; subst e9; have L9 := Aside0.mk hl9; have H9 := Aside0.mk hC9; clear ho9 hl9 hC9) | (go_at_call 30; refine (folkmootref05_Same.calls 10 _ _ [of_ 2, of_ 1, of_ 3, of_ 4] _ _ [of_ 2, of_ 1, of_ 3, of_ 4] true _ H9.out L9.out H14.out L14.out same_four).mono ?_; rintro e w' ⟨rfl, hd⟩; have hb := hd.below; have B_ := Aside0.mk (below_step HB.out hb); clear HB; have HB := B_; clear B_; (try (have C_ := Aside0.mk (Kd.C_below H3.out hb); clear H3; have H3 := C_; clear C_)); (try (have C_ := Aside0.mk (Kd.C_below H8.out hb); clear H8; have H8 := C_; clear C_)); (try (have C_ := Aside0.mk (Kd.C_below H9.out hb); clear H9; have H9 := C_; clear C_)); (try (have C_ := Aside0.mk (Kd.C_below H14.out hb); clear H14; have H14 := C_; clear C_)); clear hb))
  go_ret
  exact ⟨rfl, HB.out⟩
end Go.Proofs.Ytioooiflpabngaa.PAll

namespace Go.Proofs.Ytioooiflpabngaa.PAll
open Go.RowKit Go.Proofs.YtioooiflpabngaaW.PrintWords Go.Proofs.YtioooiflpabngaaW.PrintLast Go.Proofs.YtioooiflpabngaaW.PrintMore
attribute [local go_sem] max2_int min2_int max_two min_two max_three min_three max_four min_four   -- for this text's walks alone
set_option linter.unusedVariables false
set_option linter.unusedSimpArgs false

/-! ### folkmootlaw05_LabelBehind: function 10 -/
mutual
def folkmootlaw05_LabelBehind.j0 : Nat → List (S27) → List (S27) → Bool → Option (Bool)
  | 0, _, _, _ => none
  | k + 1, x0, x1, x15 => if x15 = true then ((folkmootlaw05_awake.f).bind fun t466 => (some t466)) else ((label_Behind.f x0 x1).bind fun t467 => ((folkmootref05_Behind.f k x0 x1).bind fun t470 => ((folkmootref05_Same.f k t467 t470).bind fun t473 => (if t473 = true then (if 0 ≤ (x0.length : Int) then (if (x0.length : Int) ≤ (t467.length : Int) then ((folkmootref05_Same.f k (t467.take ((x0.length : Int) : Int).toNat) x0).bind fun t478 => (folkmootlaw05_LabelBehind.j1 k x0 x1 t467 (!t478))) else (none)) else (none)) else (folkmootlaw05_LabelBehind.j1 k x0 x1 t467 true)))))
def folkmootlaw05_LabelBehind.j1 : Nat → List (S27) → List (S27) → List (S27) → Bool → Option (Bool)
  | 0, _, _, _, _ => none
  | k + 1, x0, x1, x5, x34 => if x34 = true then (some false) else ((label_Twice.f x0).bind fun t479 => (if t479 = true then (some true) else ((label_Twice.f x5).bind fun t480 => (if t480 = true then (some false) else ((label_Behind.f x5 x1).bind fun t481 => ((folkmootref05_Same.f k t481 x5).bind fun t484 => (some t484)))))))
end
def folkmootlaw05_LabelBehind.f (k : Nat) (l0 : List (S27)) (l1 : List (S27)) : Option (Bool) := (folkmootlaw05_awake.f).bind fun t465 => (if t465 = true then (folkmootlaw05_LabelBehind.j0 k l0 l1 (decide ((wrap64 ((l0.length : Int) + (l1.length : Int))) > 200))) else (folkmootlaw05_LabelBehind.j0 k l0 l1 true))
theorem folkmootlaw05_LabelBehind.mono_l : ∀ k, (∀ y0 y1 y2, LeO (folkmootlaw05_LabelBehind.j0 k y0 y1 y2) (folkmootlaw05_LabelBehind.j0 (k + 1) y0 y1 y2)) ∧ (∀ y0 y1 y2 y3, LeO (folkmootlaw05_LabelBehind.j1 k y0 y1 y2 y3) (folkmootlaw05_LabelBehind.j1 (k + 1) y0 y1 y2 y3))
  | 0 => ⟨fun _ _ _ r h => by simp [folkmootlaw05_LabelBehind.j0] at h, fun _ _ _ _ r h => by simp [folkmootlaw05_LabelBehind.j1] at h⟩
  | k + 1 => by
    obtain ⟨ih0, ih1⟩ := folkmootlaw05_LabelBehind.mono_l k
    refine ⟨?_, ?_⟩
    · intro y0 y1 y2
      unfold folkmootlaw05_LabelBehind.j0
      repeat' first
      | (with_reducible exact ih0 _ _ _)
      | (with_reducible exact ih1 _ _ _ _)
      | (with_reducible exact folkmootref05_Behind.mono _ _ _)
      | (with_reducible exact folkmootref05_Same.mono _ _ _)
      | (with_reducible exact LeO.refl _)
      | (with_reducible exact LeO.none _)
      | (with_reducible refine LeO.ite ?_ ?_)
      | (with_reducible refine LeO.bind ?_ (fun _ => ?_))
      | exact ih0 _ _ _
      | exact ih1 _ _ _ _
      | exact folkmootref05_Behind.mono _ _ _
      | exact folkmootref05_Same.mono _ _ _
      | exact LeO.none _
      | refine LeO.ite ?_ ?_
      | refine LeO.bind ?_ (fun _ => ?_)
    · intro y0 y1 y2 y3
      unfold folkmootlaw05_LabelBehind.j1
      repeat' first
      | (with_reducible exact ih0 _ _ _)
      | (with_reducible exact ih1 _ _ _ _)
      | (with_reducible exact folkmootref05_Behind.mono _ _ _)
      | (with_reducible exact folkmootref05_Same.mono _ _ _)
      | (with_reducible exact LeO.refl _)
      | (with_reducible exact LeO.none _)
      | (with_reducible refine LeO.ite ?_ ?_)
      | (with_reducible refine LeO.bind ?_ (fun _ => ?_))
      | exact ih0 _ _ _
      | exact ih1 _ _ _ _
      | exact folkmootref05_Behind.mono _ _ _
      | exact folkmootref05_Same.mono _ _ _
      | exact LeO.none _
      | refine LeO.ite ?_ ?_
      | refine LeO.bind ?_ (fun _ => ?_)
theorem folkmootlaw05_LabelBehind.mono : ∀ a0 a1 k, LeO (folkmootlaw05_LabelBehind.f k a0 a1) (folkmootlaw05_LabelBehind.f (k + 1) a0 a1) := by
  intro a0 a1 k
  obtain ⟨ih0, ih1⟩ := folkmootlaw05_LabelBehind.mono_l k
  unfold folkmootlaw05_LabelBehind.f
  repeat' first
      | (with_reducible exact ih0 _ _ _)
      | (with_reducible exact ih1 _ _ _ _)
      | (with_reducible exact folkmootref05_Behind.mono _ _ _)
      | (with_reducible exact folkmootref05_Same.mono _ _ _)
      | (with_reducible exact LeO.refl _)
      | (with_reducible exact LeO.none _)
      | (with_reducible refine LeO.ite ?_ ?_)
      | (with_reducible refine LeO.bind ?_ (fun _ => ?_))
      | exact ih0 _ _ _
      | exact ih1 _ _ _ _
      | exact folkmootref05_Behind.mono _ _ _
      | exact folkmootref05_Same.mono _ _ _
      | exact LeO.none _
      | refine LeO.ite ?_ ?_
      | refine LeO.bind ?_ (fun _ => ?_)
set_option maxHeartbeats 8000000 in
set_option maxRecDepth 100000 in
theorem folkmootlaw05_LabelBehind.calls (k : Nat) (A0 : Option Addr) (c0 : Nat) (l0 : List (S27)) (A1 : Option Addr) (c1 : Nat) (l1 : List (S27)) (r : Bool) (w : World) (hr0 : Kd.C k27 w A0 l0.length l0) (hc0 : l0.length ≤ c0) (hr1 : Kd.C k27 w A1 l1.length l1) (hc1 : l1.length ≤ c1) (h : folkmootlaw05_LabelBehind.f k l0 l1 = some r) :
    Calls Try.prog 10 #[.slice A0 l0.length c0, .slice A1 l1.length c1] w fun e w' => e = .returned (.bool r) ∧ Below w.heap.size w w' := by
  have HR0 := Aside0.mk hr0
  have HC0 := Aside0.mk hc0
  clear hr0 hc0
  have HR1 := Aside0.mk hr1
  have HC1 := Aside0.mk hc1
  clear hr1 hc1
  have HB := Aside0.mk (Below.refl w.heap.size w)
  have H : ((folkmootlaw05_awake.f).bind fun t465 => (if t465 = true then (folkmootlaw05_LabelBehind.j0 k l0 l1 (decide ((wrap64 ((l0.length : Int) + (l1.length : Int))) > 200))) else (folkmootlaw05_LabelBehind.j0 k l0 l1 true))) = some r := h
  clear h
  have HC3 := Aside0.mk H
  clear H
  go_enter Try.func10, Try.ntmps10
  go_upto_region 1 with (fail)
  go_cut [15] (fun v15 wc => ∃ (kq : Nat) (x15_2 : Bool), v15 = .bool x15_2 ∧ Aside0 (folkmootlaw05_LabelBehind.j0 kq l0 l1 x15_2 = some r) ∧ Aside0 (kq ≤ k) ∧ Aside0 (Below w.heap.size w wc))
  case first =>
    have H := HC3.out
    clear HC3
    replace H := Option.bind_eq_some_iff.mp H
    obtain ⟨t465, A40, H⟩ := H
    replace H : (if t465 = true then (folkmootlaw05_LabelBehind.j0 k l0 l1 (decide ((wrap64 ((l0.length : Int) + (l1.length : Int))) > 200))) else (folkmootlaw05_LabelBehind.j0 k l0 l1 true)) = some r := H
    have A4 := Aside0.mk A40
    clear A40
    by_cases c5 : t465 = true
    · subst c5
      have H1 : (folkmootlaw05_LabelBehind.j0 k l0 l1 (decide ((wrap64 ((l0.length : Int) + (l1.length : Int))) > 200))) = some r := by rw [if_pos rfl] at H; exact H
      clear H
      have H := H1
      clear H1
      have H' := Aside0.mk H
      clear H
      go_wp2_with (first | ((with_reducible refine gate_callee (f := 33) rfl ?_); refine goesL_ (some 6) rfl rfl Try.func33 (by kernel_rfl) rfl #[] rfl (by (try simp only [List.map_toArray, List.map_cons, List.map_nil]); first | done | rfl | (simp only [List.length_drop, List.length_take]; rfl)) ?_; (with_reducible refine (folkmootlaw05_awake.calls  true _ A4.out).mono ?_); rintro e w6 ⟨rfl, hb⟩; refine ⟨_, rfl, ?_⟩; have n0_ := Aside0.mk (below_step (by repeat (first | (with_reducible first | exact HB.out | apply below_alloc | apply pw_below_drewN | apply below_drew1) | exact HB.out)) hb); clear HB; have HB := n0_; clear n0_; (try clear hb); (try clear hb2); (try clear hk); (try clear hi)))
      go_meet
      case rel => exact ⟨_, (decide ((wrap64 ((l0.length : Int) + (l1.length : Int))) > 200)), (by first | rfl | (simp; done) | (simp [*]; done)), H', ⟨by first | omega | exact Nat.le_refl _⟩, ⟨by repeat (first | (with_reducible first | exact HB.out | apply below_alloc | apply pw_below_drewN | apply below_drew1) | exact HB.out)⟩⟩
    · replace c5 := Bool.eq_false_iff.mpr c5
      subst c5
      have H1 : (folkmootlaw05_LabelBehind.j0 k l0 l1 true) = some r := by rw [if_neg (show ¬ (false = true) by decide)] at H; exact H
      clear H
      have H := H1
      clear H1
      have H' := Aside0.mk H
      clear H
      go_wp2_with (first | ((with_reducible refine gate_callee (f := 33) rfl ?_); refine goesL_ (some 6) rfl rfl Try.func33 (by kernel_rfl) rfl #[] rfl (by (try simp only [List.map_toArray, List.map_cons, List.map_nil]); first | done | rfl | (simp only [List.length_drop, List.length_take]; rfl)) ?_; (with_reducible refine (folkmootlaw05_awake.calls  false _ A4.out).mono ?_); rintro e w7 ⟨rfl, hb⟩; refine ⟨_, rfl, ?_⟩; have n0_ := Aside0.mk (below_step (by repeat (first | (with_reducible first | exact HB.out | apply below_alloc | apply pw_below_drewN | apply below_drew1) | exact HB.out)) hb); clear HB; have HB := n0_; clear n0_; (try clear hb); (try clear hb2); (try clear hk); (try clear hi)))
      go_meet
      case rel => exact ⟨_, (true), (by first | rfl | (simp; done) | (simp [*]; done)), H', ⟨by first | omega | exact Nat.le_refl _⟩, ⟨by repeat (first | (with_reducible first | exact HB.out | apply below_alloc | apply pw_below_drewN | apply below_drew1) | exact HB.out)⟩⟩
  case rest =>
    clear HC3
    try clear c1
    try clear p2
    try clear c3
    try clear c5
    try clear p6
    obtain ⟨kq, x15_2, rfl, HA, HJ2, HB⟩ := hcut
    cases kq with
    | zero => exact absurd HA.out (by simp [folkmootlaw05_LabelBehind.j0])
    | succ kj2 =>
      have H := HA.out
      clear HA
      simp only [folkmootlaw05_LabelBehind.j0] at H
      by_cases c8 : x15_2 = true
      · subst c8
        have H1 : ((folkmootlaw05_awake.f).bind fun t466 => (some t466)) = some r := by rw [if_pos rfl] at H; exact H
        clear H
        have H := H1
        clear H1
        replace H := Option.bind_eq_some_iff.mp H
        obtain ⟨t466, A90, H⟩ := H
        replace H : (some t466) = some r := H
        have A9 := Aside0.mk A90
        clear A90
        obtain rfl := Option.some.inj H
        go_wp2_with (first | ((with_reducible refine gate_callee (f := 33) rfl ?_); refine goesL_ (some 16) rfl rfl Try.func33 (by kernel_rfl) rfl #[] rfl (by (try simp only [List.map_toArray, List.map_cons, List.map_nil]); first | done | rfl | (simp only [List.length_drop, List.length_take]; rfl)) ?_; (with_reducible refine (folkmootlaw05_awake.calls  t466 _ A9.out).mono ?_); rintro e w10 ⟨rfl, hb⟩; refine ⟨_, rfl, ?_⟩; have n0_ := Aside0.mk (below_step (by repeat (first | (with_reducible first | exact HB.out | apply below_alloc | apply pw_below_drewN | apply below_drew1) | exact HB.out)) hb); clear HB; have HB := n0_; clear n0_; (try clear hb); (try clear hb2); (try clear hk); (try clear hi)))
        go_ret
        exact ⟨by first | rfl | (simp [errW_none, errW_some] <;> rfl) | (simp [*, errW_none, errW_some] <;> rfl), by repeat (first | (with_reducible first | exact HB.out | apply below_alloc | apply pw_below_drewN | apply below_drew1) | exact HB.out)⟩
      · replace c8 := Bool.eq_false_iff.mpr c8
        subst c8
        have H1 : ((label_Behind.f l0 l1).bind fun t467 => ((folkmootref05_Behind.f kj2 l0 l1).bind fun t470 => ((folkmootref05_Same.f kj2 t467 t470).bind fun t473 => (if t473 = true then (if 0 ≤ (l0.length : Int) then (if (l0.length : Int) ≤ (t467.length : Int) then ((folkmootref05_Same.f kj2 (t467.take ((l0.length : Int) : Int).toNat) l0).bind fun t478 => (folkmootlaw05_LabelBehind.j1 kj2 l0 l1 t467 (!t478))) else (none)) else (none)) else (folkmootlaw05_LabelBehind.j1 kj2 l0 l1 t467 true))))) = some r := by rw [if_neg (show ¬ (false = true) by decide)] at H; exact H
        clear H
        have H := H1
        clear H1
        replace H := Option.bind_eq_some_iff.mp H
        obtain ⟨t467, A110, H⟩ := H
        replace H : ((folkmootref05_Behind.f kj2 l0 l1).bind fun t470 => ((folkmootref05_Same.f kj2 t467 t470).bind fun t473 => (if t473 = true then (if 0 ≤ (l0.length : Int) then (if (l0.length : Int) ≤ (t467.length : Int) then ((folkmootref05_Same.f kj2 (t467.take ((l0.length : Int) : Int).toNat) l0).bind fun t478 => (folkmootlaw05_LabelBehind.j1 kj2 l0 l1 t467 (!t478))) else (none)) else (none)) else (folkmootlaw05_LabelBehind.j1 kj2 l0 l1 t467 true)))) = some r := H
        have A11 := Aside0.mk A110
        clear A110
        have HC12 := Aside0.mk H
        clear H
        go_upto_region 4 with (first | ((with_reducible refine gate_callee (f := 34) rfl ?_); refine goesL_ (some 19) rfl rfl Try.func34 (by kernel_rfl) rfl #[.slice A0 l0.length c0, .slice A1 l1.length c1] rfl (by (try simp only [List.map_toArray, List.map_cons, List.map_nil]); first | done | rfl | (simp only [List.length_drop, List.length_take]; rfl)) ?_; (with_reducible refine (label_Behind.calls _ _ l0 _ _ l1 t467 _ ?side1 ?side2 ?side3 ?side4 A11.out).mono ?_); (case side1 => repeat (first | exact (Kd.C_below HR0.out HB.out) | (with_reducible refine Kd.C_alloc ?_ _) | (with_reducible refine Kd.C_drewN ?_ _) | (with_reducible refine Kd.C_drew ?_))); (case side2 => exact HC0.out); (case side3 => repeat (first | exact (Kd.C_below HR1.out HB.out) | (with_reducible refine Kd.C_alloc ?_ _) | (with_reducible refine Kd.C_drewN ?_ _) | (with_reducible refine Kd.C_drew ?_))); (case side4 => exact HC1.out); rintro e w13 ⟨v468, rfl, ho0, hb⟩; refine ⟨_, rfl, ?_⟩; have n0_ := Aside0.mk (Kd.R_lower ho0 (below_size (by repeat (first | (with_reducible first | exact HB.out | apply below_alloc | apply pw_below_drewN | apply below_drew1) | exact HB.out)))); have n1_ := Aside0.mk (below_step (by repeat (first | (with_reducible first | exact HB.out | apply below_alloc | apply pw_below_drewN | apply below_drew1) | exact HB.out)) hb); clear HB; have HO469 := n0_; have HB := n1_; clear n0_ n1_; (try clear hb); (try clear hb2); (try clear hk); (try clear hi); (try clear ho0)))
        (try simp only [Act.put, List.setIfInBounds_toArray, List.set_cons_zero, List.set_cons_succ])
        go_cut [34] (fun v34 wc => ∃ (kq : Nat) (x34_11 : Bool), v34 = .bool x34_11 ∧ Aside0 (folkmootlaw05_LabelBehind.j1 kq l0 l1 t467 x34_11 = some r) ∧ Aside0 (kq ≤ kj2) ∧ Aside0 (Kd.R k27 27 wc w.heap.size (fun _ => True) v468 t467) ∧ Aside0 (Below w.heap.size w wc))
        case first =>
          have H := HC12.out
          clear HC12
          replace H := Option.bind_eq_some_iff.mp H
          obtain ⟨t470, A140, H⟩ := H
          replace H : ((folkmootref05_Same.f kj2 t467 t470).bind fun t473 => (if t473 = true then (if 0 ≤ (l0.length : Int) then (if (l0.length : Int) ≤ (t467.length : Int) then ((folkmootref05_Same.f kj2 (t467.take ((l0.length : Int) : Int).toNat) l0).bind fun t478 => (folkmootlaw05_LabelBehind.j1 kj2 l0 l1 t467 (!t478))) else (none)) else (none)) else (folkmootlaw05_LabelBehind.j1 kj2 l0 l1 t467 true))) = some r := H
          have A14 := Aside0.mk A140
          clear A140
          replace H := Option.bind_eq_some_iff.mp H
          obtain ⟨t473, A150, H⟩ := H
          replace H : (if t473 = true then (if 0 ≤ (l0.length : Int) then (if (l0.length : Int) ≤ (t467.length : Int) then ((folkmootref05_Same.f kj2 (t467.take ((l0.length : Int) : Int).toNat) l0).bind fun t478 => (folkmootlaw05_LabelBehind.j1 kj2 l0 l1 t467 (!t478))) else (none)) else (none)) else (folkmootlaw05_LabelBehind.j1 kj2 l0 l1 t467 true)) = some r := H
          have A15 := Aside0.mk A150
          clear A150
          by_cases c16 : t473 = true
          · subst c16
            have H1 : (if 0 ≤ (l0.length : Int) then (if (l0.length : Int) ≤ (t467.length : Int) then ((folkmootref05_Same.f kj2 (t467.take ((l0.length : Int) : Int).toNat) l0).bind fun t478 => (folkmootlaw05_LabelBehind.j1 kj2 l0 l1 t467 (!t478))) else (none)) else (none)) = some r := by rw [if_pos rfl] at H; exact H
            clear H
            have H := H1
            clear H1
            by_cases c17 : 0 ≤ (l0.length : Int)
            · rw [if_pos c17] at H
              have c17b0 := eq_true c17
              have c17b1 : decide (0 ≤ (l0.length : Int)) = true := decide_eq_true c17
              clear c17
              by_cases c18 : (l0.length : Int) ≤ (t467.length : Int)
              · rw [if_pos c18] at H
                have c18b0 := eq_true c18
                have c18b1 : decide ((l0.length : Int) ≤ (t467.length : Int)) = true := decide_eq_true c18
                clear c18
                obtain ⟨y474, hy474⟩ : ∃ y_ : List (S27), y_ = (t467.take ((l0.length : Int) : Int).toNat) := ⟨_, rfl⟩
                replace H : ((folkmootref05_Same.f kj2 y474 l0).bind fun t478 => (folkmootlaw05_LabelBehind.j1 kj2 l0 l1 t467 (!t478))) = some r := by first | (rw [hy474]; with_reducible exact H) | (have H2_ := (Option.bind_some _ _).symm.trans H; rw [hy474]; with_reducible exact H2_) | (have H2_ := (Option.bind_some _ _).symm.trans H; with_reducible exact H2_) | with_reducible exact H | (rw [hy474]; exact H) | exact H
                have Ny474 := Aside0.mk hy474
                clear hy474
                replace H := Option.bind_eq_some_iff.mp H
                obtain ⟨t478, A190, H⟩ := H
                replace H : (folkmootlaw05_LabelBehind.j1 kj2 l0 l1 t467 (!t478)) = some r := H
                have A19 := Aside0.mk A190
                clear A190
                have H' := Aside0.mk H
                clear H
                go_wp2_with (first | ((with_reducible refine gate_callee (f := 39) rfl ?_); refine goesL_ (some 23) rfl rfl Try.func39 (by kernel_rfl) rfl #[.slice A0 l0.length c0, .slice A1 l1.length c1] rfl (by (try simp only [List.map_toArray, List.map_cons, List.map_nil]); first | done | rfl | (simp only [List.length_drop, List.length_take]; rfl)) ?_; (with_reducible refine (folkmootref05_Behind.calls kj2 _ _ l0 _ _ l1 t470 _ ?side1 ?side2 ?side3 ?side4 A14.out).mono ?_); (case side1 => repeat (first | exact (Kd.C_below HR0.out HB.out) | (with_reducible refine Kd.C_alloc ?_ _) | (with_reducible refine Kd.C_drewN ?_ _) | (with_reducible refine Kd.C_drew ?_))); (case side2 => exact HC0.out); (case side3 => repeat (first | exact (Kd.C_below HR1.out HB.out) | (with_reducible refine Kd.C_alloc ?_ _) | (with_reducible refine Kd.C_drewN ?_ _) | (with_reducible refine Kd.C_drew ?_))); (case side4 => exact HC1.out); rintro e w20 ⟨v471, rfl, ho0, hb⟩; refine ⟨_, rfl, ?_⟩; have n0_ := Aside0.mk (Kd.R_elder' (by (with_reducible repeat (first | apply Kd.R_alloc | apply Kd.R_drewN | apply Kd.R_drew)); exact HO469.out) (Kd.R_base ho0) hb); have n1_ := Aside0.mk (Kd.R_lower (Kd.R_new' ho0 (Kd.R_lt (by (with_reducible repeat (first | apply Kd.R_alloc | apply Kd.R_drewN | apply Kd.R_drew)); exact HO469.out))) (below_size (by repeat (first | (with_reducible first | exact HB.out | apply below_alloc | apply pw_below_drewN | apply below_drew1) | exact HB.out)))); have n2_ := Aside0.mk (below_step (by repeat (first | (with_reducible first | exact HB.out | apply below_alloc | apply pw_below_drewN | apply below_drew1) | exact HB.out)) hb); clear HO469; clear HB; have HO469 := n0_; have HO472 := n1_; have HB := n2_; clear n0_ n1_ n2_; (try clear hb); (try clear hb2); (try clear hk); (try clear hi); (try clear ho0); obtain ⟨Ao21, co21, eo21⟩ := Kd.R_slice HO469.out; subst eo21; obtain ⟨Ao22, co22, eo22⟩ := Kd.R_slice HO472.out; subst eo22) | ((with_reducible refine gate_callee (f := 30) rfl ?_); refine goesL_ (some 24) rfl rfl Try.func30 (by kernel_rfl) rfl #[.slice Ao21 t467.length co21, .slice Ao22 t470.length co22] rfl (by (try simp only [List.map_toArray, List.map_cons, List.map_nil]); first | done | rfl | (simp only [List.length_drop, List.length_take]; rfl)) ?_; (with_reducible refine (folkmootref05_Same.calls kj2 _ _ t467 _ _ t470 true _ ?side1 ?side2 ?side3 ?side4 A15.out).mono ?_); (case side1 => repeat (first | exact (Kd.R_reads' HO469.out).2.2 | (with_reducible refine Kd.C_alloc ?_ _) | (with_reducible refine Kd.C_drewN ?_ _) | (with_reducible refine Kd.C_drew ?_))); (case side2 => exact (Kd.R_reads' HO469.out).2.1); (case side3 => repeat (first | exact (Kd.R_reads' HO472.out).2.2 | (with_reducible refine Kd.C_alloc ?_ _) | (with_reducible refine Kd.C_drewN ?_ _) | (with_reducible refine Kd.C_drew ?_))); (case side4 => exact (Kd.R_reads' HO472.out).2.1); rintro e w' ⟨rfl, ⟨nd, rfl⟩⟩; refine ⟨_, rfl, ?_⟩; have q23 : ((l0.length : Int) : Int) ≤ ((t467.length : Int) : Int) := of_decide_eq_true (by first | (with_reducible assumption) | assumption); obtain ⟨i023, hi023, _, hsz23, _⟩ := info_parts info27; have hroom23 : t467.length ≤ co21 := (Kd.R_reads' HO469.out).2.1; have hC23 : Kd.C k27 _ Ao21 t467.length t467 := (Kd.R_reads' HO469.out).2.2; have hcut23 := cut_to (P := Try.prog) 41 27 .i64 Try.underlying41 hi023 Ao21 t467.length co21 (l0.length : Int) (of_decide_eq_true (by first | (with_reducible assumption) | assumption)) q23 hroom23; have hr23 := Kd.C_take (m := ((l0.length : Int) : Int).toNat) hC23 (by omega); have hy23 : y474.length = ((l0.length : Int) : Int).toNat := (by rw [Ny474.out, List.length_take]; omega); rw [← Ny474.out] at hr23; rw [← hy23] at hcut23; have HR477 := Aside0.mk hr23; have HC477 := Aside0.mk (show y474.length ≤ co21 from by omega); clear hr23 hC23 hroom23 hi023 hsz23; have KY23 := Aside0.mk hy23; clear hy23; have KL23 := Aside0.mk (show ((l0.length : Int) : Int).toNat ≤ t467.length from by omega); replace q23 := eq_true q23) | (go_at_call 30; (with_reducible refine (folkmootref05_Same.calls kj2 _ _ y474 _ _ l0 t478 _ ?side1 ?side2 ?side3 ?side4 A19.out).mono ?_); (case side1 => repeat (first | exact (by repeat (first | (with_reducible exact HR477.out) | (with_reducible refine Kd.C_alloc ?_ _) | (with_reducible refine Kd.C_drewN ?_ _) | (with_reducible refine Kd.C_drew ?_) | exact HR477.out)) | (with_reducible refine Kd.C_alloc ?_ _) | (with_reducible refine Kd.C_drewN ?_ _) | (with_reducible refine Kd.C_drew ?_))); (case side2 => exact HC477.out); (case side3 => repeat (first | exact (Kd.C_below HR0.out (by repeat (first | (with_reducible first | exact HB.out | apply below_alloc | apply pw_below_drewN | apply below_drew1) | exact HB.out))) | (with_reducible refine Kd.C_alloc ?_ _) | (with_reducible refine Kd.C_drewN ?_ _) | (with_reducible refine Kd.C_drew ?_))); (case side4 => exact HC0.out); rintro e w' ⟨rfl, ⟨nd, rfl⟩⟩))
                go_meet
                case rel => exact ⟨_, (!t478), (by first | rfl | (simp; done) | (simp [*]; done)), H', ⟨by have := HJ2.out; first | omega | exact Nat.le_refl _⟩, ⟨by (with_reducible repeat (first | apply Kd.R_alloc | apply Kd.R_drewN | apply Kd.R_drew)); exact Kd.R_mono HO469.out (fun _ hk => trivial)⟩, ⟨by repeat (first | (with_reducible first | exact HB.out | apply below_alloc | apply pw_below_drewN | apply below_drew1) | exact HB.out)⟩⟩
              · rw [if_neg c18] at H
                exact absurd H (by simp)
            · rw [if_neg c17] at H
              exact absurd H (by simp)
          · replace c16 := Bool.eq_false_iff.mpr c16
            subst c16
            have H1 : (folkmootlaw05_LabelBehind.j1 kj2 l0 l1 t467 true) = some r := by rw [if_neg (show ¬ (false = true) by decide)] at H; exact H
            clear H
            have H := H1
            clear H1
            have H' := Aside0.mk H
            clear H
            go_wp2_with (first | ((with_reducible refine gate_callee (f := 39) rfl ?_); refine goesL_ (some 23) rfl rfl Try.func39 (by kernel_rfl) rfl #[.slice A0 l0.length c0, .slice A1 l1.length c1] rfl (by (try simp only [List.map_toArray, List.map_cons, List.map_nil]); first | done | rfl | (simp only [List.length_drop, List.length_take]; rfl)) ?_; (with_reducible refine (folkmootref05_Behind.calls kj2 _ _ l0 _ _ l1 t470 _ ?side1 ?side2 ?side3 ?side4 A14.out).mono ?_); (case side1 => repeat (first | exact (Kd.C_below HR0.out HB.out) | (with_reducible refine Kd.C_alloc ?_ _) | (with_reducible refine Kd.C_drewN ?_ _) | (with_reducible refine Kd.C_drew ?_))); (case side2 => exact HC0.out); (case side3 => repeat (first | exact (Kd.C_below HR1.out HB.out) | (with_reducible refine Kd.C_alloc ?_ _) | (with_reducible refine Kd.C_drewN ?_ _) | (with_reducible refine Kd.C_drew ?_))); (case side4 => exact HC1.out); rintro e w24 ⟨v471, rfl, ho0, hb⟩; refine ⟨_, rfl, ?_⟩; have n0_ := Aside0.mk (Kd.R_elder' (by (with_reducible repeat (first | apply Kd.R_alloc | apply Kd.R_drewN | apply Kd.R_drew)); exact HO469.out) (Kd.R_base ho0) hb); have n1_ := Aside0.mk (Kd.R_lower (Kd.R_new' ho0 (Kd.R_lt (by (with_reducible repeat (first | apply Kd.R_alloc | apply Kd.R_drewN | apply Kd.R_drew)); exact HO469.out))) (below_size (by repeat (first | (with_reducible first | exact HB.out | apply below_alloc | apply pw_below_drewN | apply below_drew1) | exact HB.out)))); have n2_ := Aside0.mk (below_step (by repeat (first | (with_reducible first | exact HB.out | apply below_alloc | apply pw_below_drewN | apply below_drew1) | exact HB.out)) hb); clear HO469; clear HB; have HO469 := n0_; have HO472 := n1_; have HB := n2_; clear n0_ n1_ n2_; (try clear hb); (try clear hb2); (try clear hk); (try clear hi); (try clear ho0); obtain ⟨Ao25, co25, eo25⟩ := Kd.R_slice HO469.out; subst eo25; obtain ⟨Ao26, co26, eo26⟩ := Kd.R_slice HO472.out; subst eo26) | ((with_reducible refine gate_callee (f := 30) rfl ?_); refine goesL_ (some 24) rfl rfl Try.func30 (by kernel_rfl) rfl #[.slice Ao25 t467.length co25, .slice Ao26 t470.length co26] rfl (by (try simp only [List.map_toArray, List.map_cons, List.map_nil]); first | done | rfl | (simp only [List.length_drop, List.length_take]; rfl)) ?_; (with_reducible refine (folkmootref05_Same.calls kj2 _ _ t467 _ _ t470 false _ ?side1 ?side2 ?side3 ?side4 A15.out).mono ?_); (case side1 => repeat (first | exact (Kd.R_reads' HO469.out).2.2 | (with_reducible refine Kd.C_alloc ?_ _) | (with_reducible refine Kd.C_drewN ?_ _) | (with_reducible refine Kd.C_drew ?_))); (case side2 => exact (Kd.R_reads' HO469.out).2.1); (case side3 => repeat (first | exact (Kd.R_reads' HO472.out).2.2 | (with_reducible refine Kd.C_alloc ?_ _) | (with_reducible refine Kd.C_drewN ?_ _) | (with_reducible refine Kd.C_drew ?_))); (case side4 => exact (Kd.R_reads' HO472.out).2.1); rintro e w' ⟨rfl, ⟨nd, rfl⟩⟩; refine ⟨_, rfl, ?_⟩))
            go_meet
            case rel => exact ⟨_, (true), (by first | rfl | (simp; done) | (simp [*]; done)), H', ⟨by have := HJ2.out; first | omega | exact Nat.le_refl _⟩, ⟨by (with_reducible repeat (first | apply Kd.R_alloc | apply Kd.R_drewN | apply Kd.R_drew)); exact Kd.R_mono HO469.out (fun _ hk => trivial)⟩, ⟨by repeat (first | (with_reducible first | exact HB.out | apply below_alloc | apply pw_below_drewN | apply below_drew1) | exact HB.out)⟩⟩
        case rest =>
          clear HC12
          try clear c1
          try clear p2
          try clear q2
          try clear c3
          try clear c5
          try clear p6
          try clear c8
          try clear c10
          try clear c16
          try clear c17
          try clear c17b0
          try clear c17b1
          try clear c18
          try clear c18b0
          try clear c18b1
          try clear q23
          try clear p2
          try clear p6
          try clear q23
          obtain ⟨kq, x34_11, rfl, HA, HJ11, HO_5, HB⟩ := hcut
          cases kq with
          | zero => exact absurd HA.out (by simp [folkmootlaw05_LabelBehind.j1])
          | succ kj11 =>
            have H := HA.out
            clear HA
            simp only [folkmootlaw05_LabelBehind.j1] at H
            by_cases c27 : x34_11 = true
            · subst c27
              have H1 : (some false) = some r := by rw [if_pos rfl] at H; exact H
              clear H
              have H := H1
              clear H1
              obtain rfl := Option.some.inj H
              go_wp2
              go_ret
              exact ⟨by first | rfl | (simp [errW_none, errW_some] <;> rfl) | (simp [*, errW_none, errW_some] <;> rfl), by repeat (first | (with_reducible first | exact HB.out | apply below_alloc | apply pw_below_drewN | apply below_drew1) | exact HB.out)⟩
            · replace c27 := Bool.eq_false_iff.mpr c27
              subst c27
              have H1 : ((label_Twice.f l0).bind fun t479 => (if t479 = true then (some true) else ((label_Twice.f t467).bind fun t480 => (if t480 = true then (some false) else ((label_Behind.f t467 l1).bind fun t481 => ((folkmootref05_Same.f kj11 t481 t467).bind fun t484 => (some t484))))))) = some r := by rw [if_neg (show ¬ (false = true) by decide)] at H; exact H
              clear H
              have H := H1
              clear H1
              replace H := Option.bind_eq_some_iff.mp H
              obtain ⟨t479, A280, H⟩ := H
              replace H : (if t479 = true then (some true) else ((label_Twice.f t467).bind fun t480 => (if t480 = true then (some false) else ((label_Behind.f t467 l1).bind fun t481 => ((folkmootref05_Same.f kj11 t481 t467).bind fun t484 => (some t484)))))) = some r := H
              have A28 := Aside0.mk A280
              clear A280
              by_cases c29 : t479 = true
              · subst c29
                have H1 : (some true) = some r := by rw [if_pos rfl] at H; exact H
                clear H
                have H := H1
                clear H1
                obtain rfl := Option.some.inj H
                go_wp2_with (first | ((with_reducible refine gate_callee (f := 38) rfl ?_); refine goesL_ (some 36) rfl rfl Try.func38 (by kernel_rfl) rfl #[.slice A0 l0.length c0] rfl (by (try simp only [List.map_toArray, List.map_cons, List.map_nil]); first | done | rfl | (simp only [List.length_drop, List.length_take]; rfl)) ?_; (with_reducible refine (label_Twice.calls _ _ l0 true _ ?side1 ?side2 A28.out).mono ?_); (case side1 => repeat (first | exact (Kd.C_below HR0.out HB.out) | (with_reducible refine Kd.C_alloc ?_ _) | (with_reducible refine Kd.C_drewN ?_ _) | (with_reducible refine Kd.C_drew ?_))); (case side2 => exact HC0.out); rintro e w30 ⟨rfl, hb⟩; refine ⟨_, rfl, ?_⟩; have n0_ := Aside0.mk (Kd.R_below (by (with_reducible repeat (first | apply Kd.R_alloc | apply Kd.R_drewN | apply Kd.R_drew)); exact HO_5.out) hb); have n1_ := Aside0.mk (below_step (by repeat (first | (with_reducible first | exact HB.out | apply below_alloc | apply pw_below_drewN | apply below_drew1) | exact HB.out)) hb); clear HO_5; clear HB; have HO_5 := n0_; have HB := n1_; clear n0_ n1_; (try clear hb); (try clear hb2); (try clear hk); (try clear hi)))
                go_ret
                exact ⟨by first | rfl | (simp [errW_none, errW_some] <;> rfl) | (simp [*, errW_none, errW_some] <;> rfl), by repeat (first | (with_reducible first | exact HB.out | apply below_alloc | apply pw_below_drewN | apply below_drew1) | exact HB.out)⟩
              · replace c29 := Bool.eq_false_iff.mpr c29
                subst c29
                have H1 : ((label_Twice.f t467).bind fun t480 => (if t480 = true then (some false) else ((label_Behind.f t467 l1).bind fun t481 => ((folkmootref05_Same.f kj11 t481 t467).bind fun t484 => (some t484))))) = some r := by rw [if_neg (show ¬ (false = true) by decide)] at H; exact H
                clear H
                have H := H1
                clear H1
                replace H := Option.bind_eq_some_iff.mp H
                obtain ⟨t480, A310, H⟩ := H
                replace H : (if t480 = true then (some false) else ((label_Behind.f t467 l1).bind fun t481 => ((folkmootref05_Same.f kj11 t481 t467).bind fun t484 => (some t484)))) = some r := H
                have A31 := Aside0.mk A310
                clear A310
                by_cases c32 : t480 = true
                · subst c32
                  have H1 : (some false) = some r := by rw [if_pos rfl] at H; exact H
                  clear H
                  have H := H1
                  clear H1
                  obtain rfl := Option.some.inj H
                  go_wp2_with (first | ((with_reducible refine gate_callee (f := 38) rfl ?_); refine goesL_ (some 36) rfl rfl Try.func38 (by kernel_rfl) rfl #[.slice A0 l0.length c0] rfl (by (try simp only [List.map_toArray, List.map_cons, List.map_nil]); first | done | rfl | (simp only [List.length_drop, List.length_take]; rfl)) ?_; (with_reducible refine (label_Twice.calls _ _ l0 false _ ?side1 ?side2 A28.out).mono ?_); (case side1 => repeat (first | exact (Kd.C_below HR0.out HB.out) | (with_reducible refine Kd.C_alloc ?_ _) | (with_reducible refine Kd.C_drewN ?_ _) | (with_reducible refine Kd.C_drew ?_))); (case side2 => exact HC0.out); rintro e w33 ⟨rfl, hb⟩; refine ⟨_, rfl, ?_⟩; have n0_ := Aside0.mk (Kd.R_below (by (with_reducible repeat (first | apply Kd.R_alloc | apply Kd.R_drewN | apply Kd.R_drew)); exact HO_5.out) hb); have n1_ := Aside0.mk (below_step (by repeat (first | (with_reducible first | exact HB.out | apply below_alloc | apply pw_below_drewN | apply below_drew1) | exact HB.out)) hb); clear HO_5; clear HB; have HO_5 := n0_; have HB := n1_; clear n0_ n1_; (try clear hb); (try clear hb2); (try clear hk); (try clear hi); obtain ⟨Ao34, co34, eo34⟩ := Kd.R_slice HO_5.out; subst eo34) | (go_at_call 38; (with_reducible refine (label_Twice.calls _ _ t467 true _ ?side1 ?side2 A31.out).mono ?_); (case side1 => repeat (first | exact (Kd.R_reads' HO_5.out).2.2 | (with_reducible refine Kd.C_alloc ?_ _) | (with_reducible refine Kd.C_drewN ?_ _) | (with_reducible refine Kd.C_drew ?_))); (case side2 => exact (Kd.R_reads' HO_5.out).2.1); rintro e w35 ⟨rfl, hb⟩; have n0_ := Aside0.mk (Kd.R_below (by (with_reducible repeat (first | apply Kd.R_alloc | apply Kd.R_drewN | apply Kd.R_drew)); exact HO_5.out) hb); have n1_ := Aside0.mk (below_step (by repeat (first | (with_reducible first | exact HB.out | apply below_alloc | apply pw_below_drewN | apply below_drew1) | exact HB.out)) hb); clear HO_5; clear HB; have HO_5 := n0_; have HB := n1_; clear n0_ n1_; (try clear hb); (try clear hb2); (try clear hk); (try clear hi)))
                  go_ret
                  exact ⟨by first | rfl | (simp [errW_none, errW_some] <;> rfl) | (simp [*, errW_none, errW_some] <;> rfl), by repeat (first | (with_reducible first | exact HB.out | apply below_alloc | apply pw_below_drewN | apply below_drew1) | exact HB.out)⟩
                · replace c32 := Bool.eq_false_iff.mpr c32
                  subst c32
                  have H1 : ((label_Behind.f t467 l1).bind fun t481 => ((folkmootref05_Same.f kj11 t481 t467).bind fun t484 => (some t484))) = some r := by rw [if_neg (show ¬ (false = true) by decide)] at H; exact H
                  clear H
                  have H := H1
                  clear H1
                  replace H := Option.bind_eq_some_iff.mp H
                  obtain ⟨t481, A360, H⟩ := H
                  replace H : ((folkmootref05_Same.f kj11 t481 t467).bind fun t484 => (some t484)) = some r := H
                  have A36 := Aside0.mk A360
                  clear A360
                  replace H := Option.bind_eq_some_iff.mp H
                  obtain ⟨t484, A370, H⟩ := H
                  replace H : (some t484) = some r := H
                  have A37 := Aside0.mk A370
                  clear A370
                  obtain rfl := Option.some.inj H
                  go_wp2_with (first | ((with_reducible refine gate_callee (f := 38) rfl ?_); refine goesL_ (some 36) rfl rfl Try.func38 (by kernel_rfl) rfl #[.slice A0 l0.length c0] rfl (by (try simp only [List.map_toArray, List.map_cons, List.map_nil]); first | done | rfl | (simp only [List.length_drop, List.length_take]; rfl)) ?_; (with_reducible refine (label_Twice.calls _ _ l0 false _ ?side1 ?side2 A28.out).mono ?_); (case side1 => repeat (first | exact (Kd.C_below HR0.out HB.out) | (with_reducible refine Kd.C_alloc ?_ _) | (with_reducible refine Kd.C_drewN ?_ _) | (with_reducible refine Kd.C_drew ?_))); (case side2 => exact HC0.out); rintro e w38 ⟨rfl, hb⟩; refine ⟨_, rfl, ?_⟩; have n0_ := Aside0.mk (Kd.R_below (by (with_reducible repeat (first | apply Kd.R_alloc | apply Kd.R_drewN | apply Kd.R_drew)); exact HO_5.out) hb); have n1_ := Aside0.mk (below_step (by repeat (first | (with_reducible first | exact HB.out | apply below_alloc | apply pw_below_drewN | apply below_drew1) | exact HB.out)) hb); clear HO_5; clear HB; have HO_5 := n0_; have HB := n1_; clear n0_ n1_; (try clear hb); (try clear hb2); (try clear hk); (try clear hi); obtain ⟨Ao39, co39, eo39⟩ := Kd.R_slice HO_5.out; subst eo39) | (go_at_call 38; (with_reducible refine (label_Twice.calls _ _ t467 false _ ?side1 ?side2 A31.out).mono ?_); (case side1 => repeat (first | exact (Kd.R_reads' HO_5.out).2.2 | (with_reducible refine Kd.C_alloc ?_ _) | (with_reducible refine Kd.C_drewN ?_ _) | (with_reducible refine Kd.C_drew ?_))); (case side2 => exact (Kd.R_reads' HO_5.out).2.1); rintro e w40 ⟨rfl, hb⟩; have n0_ := Aside0.mk (Kd.R_below (by (with_reducible repeat (first | apply Kd.R_alloc | apply Kd.R_drewN | apply Kd.R_drew)); exact HO_5.out) hb); have n1_ := Aside0.mk (below_step (by repeat (first | (with_reducible first | exact HB.out | apply below_alloc | apply pw_below_drewN | apply below_drew1) | exact HB.out)) hb); clear HO_5; clear HB; have HO_5 := n0_; have HB := n1_; clear n0_ n1_; (try clear hb); (try clear hb2); (try clear hk); (try clear hi)) | (go_at_call 34; (with_reducible refine (label_Behind.calls _ _ t467 _ _ l1 t481 _ ?side1 ?side2 ?side3 ?side4 A36.out).mono ?_); (case side1 => repeat (first | exact (Kd.R_reads' HO_5.out).2.2 | (with_reducible refine Kd.C_alloc ?_ _) | (with_reducible refine Kd.C_drewN ?_ _) | (with_reducible refine Kd.C_drew ?_))); (case side2 => exact (Kd.R_reads' HO_5.out).2.1); (case side3 => repeat (first | exact (Kd.C_below HR1.out HB.out) | (with_reducible refine Kd.C_alloc ?_ _) | (with_reducible refine Kd.C_drewN ?_ _) | (with_reducible refine Kd.C_drew ?_))); (case side4 => exact HC1.out); rintro e w41 ⟨v482, rfl, ho0, hb⟩; have n0_ := Aside0.mk (Kd.R_elder' (by (with_reducible repeat (first | apply Kd.R_alloc | apply Kd.R_drewN | apply Kd.R_drew)); exact HO_5.out) (Kd.R_base ho0) hb); have n1_ := Aside0.mk (Kd.R_lower (Kd.R_new' ho0 (Kd.R_lt (by (with_reducible repeat (first | apply Kd.R_alloc | apply Kd.R_drewN | apply Kd.R_drew)); exact HO_5.out))) (below_size (by repeat (first | (with_reducible first | exact HB.out | apply below_alloc | apply pw_below_drewN | apply below_drew1) | exact HB.out)))); have n2_ := Aside0.mk (below_step (by repeat (first | (with_reducible first | exact HB.out | apply below_alloc | apply pw_below_drewN | apply below_drew1) | exact HB.out)) hb); clear HO_5; clear HB; have HO_5 := n0_; have HO483 := n1_; have HB := n2_; clear n0_ n1_ n2_; (try clear hb); (try clear hb2); (try clear hk); (try clear hi); (try clear ho0); obtain ⟨Ao42, co42, eo42⟩ := Kd.R_slice HO483.out; subst eo42) | (go_at_call 30; (with_reducible refine (folkmootref05_Same.calls kj11 _ _ t481 _ _ t467 t484 _ ?side1 ?side2 ?side3 ?side4 A37.out).mono ?_); (case side1 => repeat (first | exact (Kd.R_reads' HO483.out).2.2 | (with_reducible refine Kd.C_alloc ?_ _) | (with_reducible refine Kd.C_drewN ?_ _) | (with_reducible refine Kd.C_drew ?_))); (case side2 => exact (Kd.R_reads' HO483.out).2.1); (case side3 => repeat (first | exact (Kd.R_reads' HO_5.out).2.2 | (with_reducible refine Kd.C_alloc ?_ _) | (with_reducible refine Kd.C_drewN ?_ _) | (with_reducible refine Kd.C_drew ?_))); (case side4 => exact (Kd.R_reads' HO_5.out).2.1); rintro e w' ⟨rfl, ⟨nd, rfl⟩⟩))
                  go_ret
                  exact ⟨by first | rfl | (simp [errW_none, errW_some] <;> rfl) | (simp [*, errW_none, errW_some] <;> rfl), by repeat (first | (with_reducible first | exact HB.out | apply below_alloc | apply pw_below_drewN | apply below_drew1) | exact HB.out)⟩

end Go.Proofs.Ytioooiflpabngaa.PAll

namespace Go.Proofs.Ytioooiflpabngaa.PAll
open Go.RowKit Go.Proofs.YtioooiflpabngaaW.PrintWords
set_option linter.unusedVariables false
set_option linter.unusedSimpArgs false
theorem behind_dup (l m : List S27) (h : dup [] l = false) : dup [] (behindL l m) = false := by
  unfold behindL
  rw [dup_append, h, Bool.false_or, List.nil_append]
  refine dup_rise ((sortL_rise m).filter _) fun x hx hm => ?_
  have := (List.mem_filter.1 hx).2
  rw [memL_iff.2 hm] at this
  cases this
theorem behind_again (l m : List S27) : behindL (behindL l m) m = behindL l m := by
  have : (sortL m).filter (fun x => !memL x (behindL l m)) = [] := by
    rw [List.filter_eq_nil_iff]
    intro x hx hn
    have hm : memL x (behindL l m) = true := by
      rw [memL_iff]
      unfold behindL
      cases hc : memL x l with
      | true => exact List.mem_append_left _ (memL_iff.1 hc)
      | false => exact List.mem_append_right _ (List.mem_filter.2 ⟨hx, by simp [hc]⟩)
    rw [hm] at hn
    cases hn
  show behindL l m ++ _ = _
  rw [this, List.append_nil]
theorem behindL_len (l m : List S27) : (behindL l m).length ≤ l.length + m.length := by
  have h1 := List.length_filter_le (fun x => !memL x l) (sortL m)
  have h2 := sortL_length m
  simp only [behindL, List.length_append]
  omega
theorem pure_LabelBehind (l0 l1 : List S27) (h0 : rightLs l0) (h1 : rightLs l1) :
    ∃ k, folkmootlaw05_LabelBehind.f k l0 l1 = some true := by
  refine Ev.get ?_
  unfold folkmootlaw05_LabelBehind.f folkmootlaw05_awake.f
  simp only [Option.bind_some, if_true]
  have z0 := rightLs_len h0
  have z1 := rightLs_len h1
  have e1 : wrap64 ((l0.length : Int) + (l1.length : Int)) = (l0.length : Int) + (l1.length : Int) := by unfold wrap64; omega
  rw [e1]
  by_cases hl : l0.length + l1.length > 200
  · refine Ev.step (b := fun _ => some true) (fun k => ?_) (Ev.const fun _ => rfl)
    rw [folkmootlaw05_LabelBehind.j0, if_pos (by simp; omega)]
    rfl
  · have hb := behindL_len l0 l1
    have hle : l0.length ≤ (behindL l0 l1).length := by simp [behindL]
    have htk : (behindL l0 l1).take l0.length = l0 := by simp [behindL]
    refine Ev.step (fun k => by rw [folkmootlaw05_LabelBehind.j0, if_neg (by simp; omega)]) ?_
    simp only [behind_eq (show l0.length + l1.length < 4398046511104 by omega), Option.bind_some]
    refine Ev.bind (refBehind_ev l0 l1 (by omega)) (Ev.bind (sameL_ev _ (by omega)) ?_)
    have c1 : (0 : Int) ≤ (l0.length : Int) := by omega
    have c2 : (l0.length : Int) ≤ ((behindL l0 l1).length : Int) := by omega
    simp only [if_true, c1, c2, Int.toNat_natCast, htk]
    refine Ev.bind (sameL_ev _ (by omega)) ?_
    refine Ev.step (fun k => by rw [folkmootlaw05_LabelBehind.j1, if_neg (by simp)]) ?_
    simp only [twice_eq z0, Option.bind_some, twice_eq (show (behindL l0 l1).length < 4398046511104 by omega)]
    cases hd : dup [] l0 with
    | true =>
      simp only [if_true]
      exact Ev.const fun _ => rfl
    | false =>
      simp only [behind_dup l0 l1 hd, Bool.false_eq_true, if_false, behind_eq (show (behindL l0 l1).length + l1.length < 4398046511104 by omega), behind_again, Option.bind_some]
      exact Ev.bind (sameL_ev _ (by omega)) (Ev.const fun _ => rfl)
end Go.Proofs.Ytioooiflpabngaa.PAll

namespace Go.Proofs.Ytioooiflpabngaa
theorem head_signs : Try.prog.initOrder.toList = [104, 97, 114, 110, 101, 115, 115, 32, 98, 100, 54, 52, 55, 100, 48, 52, 56, 99, 56, 57, 55, 50, 49, 57, 98, 52, 100, 49, 52, 51, 55, 98, 57, 48, 102, 102, 48, 56, 49, 50, 49, 53, 100, 52, 49, 53, 51, 54, 99, 100, 49, 54, 52, 54, 49, 100, 52, 97, 49, 97, 54, 54, 102, 52, 101, 56, 53, 55, 97, 101, 50, 55, 32, 99, 117, 116, 32, 97, 116, 32, 102, 111, 108, 107, 109, 111, 111, 116, 47, 102, 111, 108, 107, 109, 111, 111, 116, 108, 97, 119, 49, 53, 46, 67, 111, 110, 116, 101, 110, 116, 70, 105, 110, 100, 115, 32, 102, 111, 108, 107, 109, 111, 111, 116, 47, 102, 111, 108, 107, 109, 111, 111, 116, 108, 97, 119, 49, 53, 46, 67, 111, 110, 116, 101, 110, 116, 75, 101, 101, 112, 115, 32, 102, 111, 108, 107, 109, 111, 111, 116, 47, 102, 111, 108, 107, 109, 111, 111, 116, 108, 97, 119, 49, 53, 46, 67, 111, 110, 116, 101, 110, 116, 77, 101, 114, 103, 101, 115, 32, 102, 111, 108, 107, 109, 111, 111, 116, 47, 102, 111, 108, 107, 109, 111, 111, 116, 108, 97, 119, 49, 53, 46, 67, 111, 110, 116, 101, 110, 116, 79, 114, 100, 101, 114, 32, 102, 111, 108, 107, 109, 111, 111, 116, 47, 102, 111, 108, 107, 109, 111, 111, 116, 108, 97, 119, 48, 53, 46, 76, 97, 98, 101, 108, 75, 101, 101, 112, 115, 32, 102, 111, 108, 107, 109, 111, 111, 116, 47, 102, 111, 108, 107, 109, 111, 111, 116, 108, 97, 119, 48, 53, 46, 76, 97, 98, 101, 108, 80, 97, 114, 116, 115, 32, 102, 111, 108, 107, 109, 111, 111, 116, 47, 102, 111, 108, 107, 109, 111, 111, 116, 108, 97, 119, 48, 53, 46, 76, 97, 98, 101, 108, 83, 111, 114, 116, 115, 32, 102, 111, 108, 107, 109, 111, 111, 116, 47, 102, 111, 108, 107, 109, 111, 111, 116, 108, 97, 119, 48, 53, 46, 76, 97, 98, 101, 108, 66, 101, 104, 105, 110, 100, 32, 102, 111, 108, 107, 109, 111, 111, 116, 47, 102, 111, 108, 107, 109, 111, 111, 116, 108, 97, 119, 48, 53, 46, 76, 97, 98, 101, 108, 79, 114, 100, 101, 114, 32, 102, 111, 108, 107, 109, 111, 111, 116, 47, 102, 111, 108, 107, 109, 111, 111, 116, 108, 97, 119, 49, 53, 46, 67, 111, 110, 116, 101, 110, 116, 65, 112, 97, 114, 116, 32, 102, 111, 108, 107, 109, 111, 111, 116, 47, 102, 111, 108, 107, 109, 111, 111, 116, 108, 97, 119, 49, 53, 46, 67, 111, 110, 116, 101, 110, 116, 79, 110, 101, 32, 102, 111, 108, 107, 109, 111, 111, 116, 47, 102, 111, 108, 107, 109, 111, 111, 116, 108, 97, 119, 49, 53, 46, 67, 111, 110, 116, 101, 110, 116, 82, 101, 97, 100, 115, 32, 102, 111, 108, 107, 109, 111, 111, 116, 47, 102, 111, 108, 107, 109, 111, 111, 116, 108, 97, 119, 49, 53, 46, 67, 111, 110, 116, 101, 110, 116, 65, 108, 108, 32, 102, 111, 108, 107, 109, 111, 111, 116, 47, 102, 111, 108, 107, 109, 111, 111, 116, 108, 97, 119, 49, 54, 46, 69, 120, 99, 104, 97, 110, 103, 101, 80, 108, 97, 121, 115, 32, 102, 111, 108, 107, 109, 111, 111, 116, 47, 102, 111, 108, 107, 109, 111, 111, 116, 108, 97, 119, 49, 54, 46, 69, 120, 99, 104, 97, 110, 103, 101, 84, 117, 114, 110, 101, 100, 32, 102, 111, 108, 107, 109, 111, 111, 116, 47, 102, 111, 108, 107, 109, 111, 111, 116, 108, 97, 119, 49, 54, 46, 69, 120, 99, 104, 97, 110, 103, 101, 70, 117, 108, 108, 32, 102, 111, 108, 107, 109, 111, 111, 116, 47, 102, 111, 108, 107, 109, 111, 111, 116, 108, 97, 119, 49, 54, 46, 69, 120, 99, 104, 97, 110, 103, 101, 75, 101, 101, 112, 115, 32, 102, 111, 108, 107, 109, 111, 111, 116, 47, 102, 111, 108, 107, 109, 111, 111, 116, 108, 97, 119, 49, 54, 46, 69, 120, 99, 104, 97, 110, 103, 101, 79, 110, 101, 32, 102, 111, 108, 107, 109, 111, 111, 116, 47, 102, 111, 108, 107, 109, 111, 111, 116, 108, 97, 119, 49, 54, 46, 69, 120, 99, 104, 97, 110, 103, 101, 77, 111, 114, 101].map Char.ofNat := by
  have h : Try.prog.initOrder = String.ofList ([104, 97, 114, 110, 101, 115, 115, 32, 98, 100, 54, 52, 55, 100, 48, 52, 56, 99, 56, 57, 55, 50, 49, 57, 98, 52, 100, 49, 52, 51, 55, 98, 57, 48, 102, 102, 48, 56, 49, 50, 49, 53, 100, 52, 49, 53, 51, 54, 99, 100, 49, 54, 52, 54, 49, 100, 52, 97, 49, 97, 54, 54, 102, 52, 101, 56, 53, 55, 97, 101, 50, 55, 32, 99, 117, 116, 32, 97, 116, 32, 102, 111, 108, 107, 109, 111, 111, 116, 47, 102, 111, 108, 107, 109, 111, 111, 116, 108, 97, 119, 49, 53, 46, 67, 111, 110, 116, 101, 110, 116, 70, 105, 110, 100, 115, 32, 102, 111, 108, 107, 109, 111, 111, 116, 47, 102, 111, 108, 107, 109, 111, 111, 116, 108, 97, 119, 49, 53, 46, 67, 111, 110, 116, 101, 110, 116, 75, 101, 101, 112, 115, 32, 102, 111, 108, 107, 109, 111, 111, 116, 47, 102, 111, 108, 107, 109, 111, 111, 116, 108, 97, 119, 49, 53, 46, 67, 111, 110, 116, 101, 110, 116, 77, 101, 114, 103, 101, 115, 32, 102, 111, 108, 107, 109, 111, 111, 116, 47, 102, 111, 108, 107, 109, 111, 111, 116, 108, 97, 119, 49, 53, 46, 67, 111, 110, 116, 101, 110, 116, 79, 114, 100, 101, 114, 32, 102, 111, 108, 107, 109, 111, 111, 116, 47, 102, 111, 108, 107, 109, 111, 111, 116, 108, 97, 119, 48, 53, 46, 76, 97, 98, 101, 108, 75, 101, 101, 112, 115, 32, 102, 111, 108, 107, 109, 111, 111, 116, 47, 102, 111, 108, 107, 109, 111, 111, 116, 108, 97, 119, 48, 53, 46, 76, 97, 98, 101, 108, 80, 97, 114, 116, 115, 32, 102, 111, 108, 107, 109, 111, 111, 116, 47, 102, 111, 108, 107, 109, 111, 111, 116, 108, 97, 119, 48, 53, 46, 76, 97, 98, 101, 108, 83, 111, 114, 116, 115, 32, 102, 111, 108, 107, 109, 111, 111, 116, 47, 102, 111, 108, 107, 109, 111, 111, 116, 108, 97, 119, 48, 53, 46, 76, 97, 98, 101, 108, 66, 101, 104, 105, 110, 100, 32, 102, 111, 108, 107, 109, 111, 111, 116, 47, 102, 111, 108, 107, 109, 111, 111, 116, 108, 97, 119, 48, 53, 46, 76, 97, 98, 101, 108, 79, 114, 100, 101, 114, 32, 102, 111, 108, 107, 109, 111, 111, 116, 47, 102, 111, 108, 107, 109, 111, 111, 116, 108, 97, 119, 49, 53, 46, 67, 111, 110, 116, 101, 110, 116, 65, 112, 97, 114, 116, 32, 102, 111, 108, 107, 109, 111, 111, 116, 47, 102, 111, 108, 107, 109, 111, 111, 116, 108, 97, 119, 49, 53, 46, 67, 111, 110, 116, 101, 110, 116, 79, 110, 101, 32, 102, 111, 108, 107, 109, 111, 111, 116, 47, 102, 111, 108, 107, 109, 111, 111, 116, 108, 97, 119, 49, 53, 46, 67, 111, 110, 116, 101, 110, 116, 82, 101, 97, 100, 115, 32, 102, 111, 108, 107, 109, 111, 111, 116, 47, 102, 111, 108, 107, 109, 111, 111, 116, 108, 97, 119, 49, 53, 46, 67, 111, 110, 116, 101, 110, 116, 65, 108, 108, 32, 102, 111, 108, 107, 109, 111, 111, 116, 47, 102, 111, 108, 107, 109, 111, 111, 116, 108, 97, 119, 49, 54, 46, 69, 120, 99, 104, 97, 110, 103, 101, 80, 108, 97, 121, 115, 32, 102, 111, 108, 107, 109, 111, 111, 116, 47, 102, 111, 108, 107, 109, 111, 111, 116, 108, 97, 119, 49, 54, 46, 69, 120, 99, 104, 97, 110, 103, 101, 84, 117, 114, 110, 101, 100, 32, 102, 111, 108, 107, 109, 111, 111, 116, 47, 102, 111, 108, 107, 109, 111, 111, 116, 108, 97, 119, 49, 54, 46, 69, 120, 99, 104, 97, 110, 103, 101, 70, 117, 108, 108, 32, 102, 111, 108, 107, 109, 111, 111, 116, 47, 102, 111, 108, 107, 109, 111, 111, 116, 108, 97, 119, 49, 54, 46, 69, 120, 99, 104, 97, 110, 103, 101, 75, 101, 101, 112, 115, 32, 102, 111, 108, 107, 109, 111, 111, 116, 47, 102, 111, 108, 107, 109, 111, 111, 116, 108, 97, 119, 49, 54, 46, 69, 120, 99, 104, 97, 110, 103, 101, 79, 110, 101, 32, 102, 111, 108, 107, 109, 111, 111, 116, 47, 102, 111, 108, 107, 109, 111, 111, 116, 108, 97, 119, 49, 54, 46, 69, 120, 99, 104, 97, 110, 103, 101, 77, 111, 114, 101].map Char.ofNat) := by kernel_rfl
  rw [h, String.toList_ofList]
theorem head_words : wordsSigns ([104, 97, 114, 110, 101, 115, 115, 32, 98, 100, 54, 52, 55, 100, 48, 52, 56, 99, 56, 57, 55, 50, 49, 57, 98, 52, 100, 49, 52, 51, 55, 98, 57, 48, 102, 102, 48, 56, 49, 50, 49, 53, 100, 52, 49, 53, 51, 54, 99, 100, 49, 54, 52, 54, 49, 100, 52, 97, 49, 97, 54, 54, 102, 52, 101, 56, 53, 55, 97, 101, 50, 55, 32, 99, 117, 116, 32, 97, 116, 32, 102, 111, 108, 107, 109, 111, 111, 116, 47, 102, 111, 108, 107, 109, 111, 111, 116, 108, 97, 119, 49, 53, 46, 67, 111, 110, 116, 101, 110, 116, 70, 105, 110, 100, 115, 32, 102, 111, 108, 107, 109, 111, 111, 116, 47, 102, 111, 108, 107, 109, 111, 111, 116, 108, 97, 119, 49, 53, 46, 67, 111, 110, 116, 101, 110, 116, 75, 101, 101, 112, 115, 32, 102, 111, 108, 107, 109, 111, 111, 116, 47, 102, 111, 108, 107, 109, 111, 111, 116, 108, 97, 119, 49, 53, 46, 67, 111, 110, 116, 101, 110, 116, 77, 101, 114, 103, 101, 115, 32, 102, 111, 108, 107, 109, 111, 111, 116, 47, 102, 111, 108, 107, 109, 111, 111, 116, 108, 97, 119, 49, 53, 46, 67, 111, 110, 116, 101, 110, 116, 79, 114, 100, 101, 114, 32, 102, 111, 108, 107, 109, 111, 111, 116, 47, 102, 111, 108, 107, 109, 111, 111, 116, 108, 97, 119, 48, 53, 46, 76, 97, 98, 101, 108, 75, 101, 101, 112, 115, 32, 102, 111, 108, 107, 109, 111, 111, 116, 47, 102, 111, 108, 107, 109, 111, 111, 116, 108, 97, 119, 48, 53, 46, 76, 97, 98, 101, 108, 80, 97, 114, 116, 115, 32, 102, 111, 108, 107, 109, 111, 111, 116, 47, 102, 111, 108, 107, 109, 111, 111, 116, 108, 97, 119, 48, 53, 46, 76, 97, 98, 101, 108, 83, 111, 114, 116, 115, 32, 102, 111, 108, 107, 109, 111, 111, 116, 47, 102, 111, 108, 107, 109, 111, 111, 116, 108, 97, 119, 48, 53, 46, 76, 97, 98, 101, 108, 66, 101, 104, 105, 110, 100, 32, 102, 111, 108, 107, 109, 111, 111, 116, 47, 102, 111, 108, 107, 109, 111, 111, 116, 108, 97, 119, 48, 53, 46, 76, 97, 98, 101, 108, 79, 114, 100, 101, 114, 32, 102, 111, 108, 107, 109, 111, 111, 116, 47, 102, 111, 108, 107, 109, 111, 111, 116, 108, 97, 119, 49, 53, 46, 67, 111, 110, 116, 101, 110, 116, 65, 112, 97, 114, 116, 32, 102, 111, 108, 107, 109, 111, 111, 116, 47, 102, 111, 108, 107, 109, 111, 111, 116, 108, 97, 119, 49, 53, 46, 67, 111, 110, 116, 101, 110, 116, 79, 110, 101, 32, 102, 111, 108, 107, 109, 111, 111, 116, 47, 102, 111, 108, 107, 109, 111, 111, 116, 108, 97, 119, 49, 53, 46, 67, 111, 110, 116, 101, 110, 116, 82, 101, 97, 100, 115, 32, 102, 111, 108, 107, 109, 111, 111, 116, 47, 102, 111, 108, 107, 109, 111, 111, 116, 108, 97, 119, 49, 53, 46, 67, 111, 110, 116, 101, 110, 116, 65, 108, 108, 32, 102, 111, 108, 107, 109, 111, 111, 116, 47, 102, 111, 108, 107, 109, 111, 111, 116, 108, 97, 119, 49, 54, 46, 69, 120, 99, 104, 97, 110, 103, 101, 80, 108, 97, 121, 115, 32, 102, 111, 108, 107, 109, 111, 111, 116, 47, 102, 111, 108, 107, 109, 111, 111, 116, 108, 97, 119, 49, 54, 46, 69, 120, 99, 104, 97, 110, 103, 101, 84, 117, 114, 110, 101, 100, 32, 102, 111, 108, 107, 109, 111, 111, 116, 47, 102, 111, 108, 107, 109, 111, 111, 116, 108, 97, 119, 49, 54, 46, 69, 120, 99, 104, 97, 110, 103, 101, 70, 117, 108, 108, 32, 102, 111, 108, 107, 109, 111, 111, 116, 47, 102, 111, 108, 107, 109, 111, 111, 116, 108, 97, 119, 49, 54, 46, 69, 120, 99, 104, 97, 110, 103, 101, 75, 101, 101, 112, 115, 32, 102, 111, 108, 107, 109, 111, 111, 116, 47, 102, 111, 108, 107, 109, 111, 111, 116, 108, 97, 119, 49, 54, 46, 69, 120, 99, 104, 97, 110, 103, 101, 79, 110, 101, 32, 102, 111, 108, 107, 109, 111, 111, 116, 47, 102, 111, 108, 107, 109, 111, 111, 116, 108, 97, 119, 49, 54, 46, 69, 120, 99, 104, 97, 110, 103, 101, 77, 111, 114, 101].map Char.ofNat) = [[104, 97, 114, 110, 101, 115, 115], [98, 100, 54, 52, 55, 100, 48, 52, 56, 99, 56, 57, 55, 50, 49, 57, 98, 52, 100, 49, 52, 51, 55, 98, 57, 48, 102, 102, 48, 56, 49, 50, 49, 53, 100, 52, 49, 53, 51, 54, 99, 100, 49, 54, 52, 54, 49, 100, 52, 97, 49, 97, 54, 54, 102, 52, 101, 56, 53, 55, 97, 101, 50, 55], [99, 117, 116], [97, 116], [102, 111, 108, 107, 109, 111, 111, 116, 47, 102, 111, 108, 107, 109, 111, 111, 116, 108, 97, 119, 49, 53, 46, 67, 111, 110, 116, 101, 110, 116, 70, 105, 110, 100, 115], [102, 111, 108, 107, 109, 111, 111, 116, 47, 102, 111, 108, 107, 109, 111, 111, 116, 108, 97, 119, 49, 53, 46, 67, 111, 110, 116, 101, 110, 116, 75, 101, 101, 112, 115], [102, 111, 108, 107, 109, 111, 111, 116, 47, 102, 111, 108, 107, 109, 111, 111, 116, 108, 97, 119, 49, 53, 46, 67, 111, 110, 116, 101, 110, 116, 77, 101, 114, 103, 101, 115], [102, 111, 108, 107, 109, 111, 111, 116, 47, 102, 111, 108, 107, 109, 111, 111, 116, 108, 97, 119, 49, 53, 46, 67, 111, 110, 116, 101, 110, 116, 79, 114, 100, 101, 114], [102, 111, 108, 107, 109, 111, 111, 116, 47, 102, 111, 108, 107, 109, 111, 111, 116, 108, 97, 119, 48, 53, 46, 76, 97, 98, 101, 108, 75, 101, 101, 112, 115], [102, 111, 108, 107, 109, 111, 111, 116, 47, 102, 111, 108, 107, 109, 111, 111, 116, 108, 97, 119, 48, 53, 46, 76, 97, 98, 101, 108, 80, 97, 114, 116, 115], [102, 111, 108, 107, 109, 111, 111, 116, 47, 102, 111, 108, 107, 109, 111, 111, 116, 108, 97, 119, 48, 53, 46, 76, 97, 98, 101, 108, 83, 111, 114, 116, 115], [102, 111, 108, 107, 109, 111, 111, 116, 47, 102, 111, 108, 107, 109, 111, 111, 116, 108, 97, 119, 48, 53, 46, 76, 97, 98, 101, 108, 66, 101, 104, 105, 110, 100], [102, 111, 108, 107, 109, 111, 111, 116, 47, 102, 111, 108, 107, 109, 111, 111, 116, 108, 97, 119, 48, 53, 46, 76, 97, 98, 101, 108, 79, 114, 100, 101, 114], [102, 111, 108, 107, 109, 111, 111, 116, 47, 102, 111, 108, 107, 109, 111, 111, 116, 108, 97, 119, 49, 53, 46, 67, 111, 110, 116, 101, 110, 116, 65, 112, 97, 114, 116], [102, 111, 108, 107, 109, 111, 111, 116, 47, 102, 111, 108, 107, 109, 111, 111, 116, 108, 97, 119, 49, 53, 46, 67, 111, 110, 116, 101, 110, 116, 79, 110, 101], [102, 111, 108, 107, 109, 111, 111, 116, 47, 102, 111, 108, 107, 109, 111, 111, 116, 108, 97, 119, 49, 53, 46, 67, 111, 110, 116, 101, 110, 116, 82, 101, 97, 100, 115], [102, 111, 108, 107, 109, 111, 111, 116, 47, 102, 111, 108, 107, 109, 111, 111, 116, 108, 97, 119, 49, 53, 46, 67, 111, 110, 116, 101, 110, 116, 65, 108, 108], [102, 111, 108, 107, 109, 111, 111, 116, 47, 102, 111, 108, 107, 109, 111, 111, 116, 108, 97, 119, 49, 54, 46, 69, 120, 99, 104, 97, 110, 103, 101, 80, 108, 97, 121, 115], [102, 111, 108, 107, 109, 111, 111, 116, 47, 102, 111, 108, 107, 109, 111, 111, 116, 108, 97, 119, 49, 54, 46, 69, 120, 99, 104, 97, 110, 103, 101, 84, 117, 114, 110, 101, 100], [102, 111, 108, 107, 109, 111, 111, 116, 47, 102, 111, 108, 107, 109, 111, 111, 116, 108, 97, 119, 49, 54, 46, 69, 120, 99, 104, 97, 110, 103, 101, 70, 117, 108, 108], [102, 111, 108, 107, 109, 111, 111, 116, 47, 102, 111, 108, 107, 109, 111, 111, 116, 108, 97, 119, 49, 54, 46, 69, 120, 99, 104, 97, 110, 103, 101, 75, 101, 101, 112, 115], [102, 111, 108, 107, 109, 111, 111, 116, 47, 102, 111, 108, 107, 109, 111, 111, 116, 108, 97, 119, 49, 54, 46, 69, 120, 99, 104, 97, 110, 103, 101, 79, 110, 101], [102, 111, 108, 107, 109, 111, 111, 116, 47, 102, 111, 108, 107, 109, 111, 111, 116, 108, 97, 119, 49, 54, 46, 69, 120, 99, 104, 97, 110, 103, 101, 77, 111, 114, 101]].map (List.map Char.ofNat) := by kernel_rfl
theorem head_behind : ∃ rest, behindMainWord (wordsSigns Try.prog.initOrder.toList) = [99, 117, 116].map Char.ofNat :: rest := by
  rw [head_signs, head_words]
  exact ⟨[[99, 117, 116], [97, 116], [102, 111, 108, 107, 109, 111, 111, 116, 47, 102, 111, 108, 107, 109, 111, 111, 116, 108, 97, 119, 49, 53, 46, 67, 111, 110, 116, 101, 110, 116, 70, 105, 110, 100, 115], [102, 111, 108, 107, 109, 111, 111, 116, 47, 102, 111, 108, 107, 109, 111, 111, 116, 108, 97, 119, 49, 53, 46, 67, 111, 110, 116, 101, 110, 116, 75, 101, 101, 112, 115], [102, 111, 108, 107, 109, 111, 111, 116, 47, 102, 111, 108, 107, 109, 111, 111, 116, 108, 97, 119, 49, 53, 46, 67, 111, 110, 116, 101, 110, 116, 77, 101, 114, 103, 101, 115], [102, 111, 108, 107, 109, 111, 111, 116, 47, 102, 111, 108, 107, 109, 111, 111, 116, 108, 97, 119, 49, 53, 46, 67, 111, 110, 116, 101, 110, 116, 79, 114, 100, 101, 114], [102, 111, 108, 107, 109, 111, 111, 116, 47, 102, 111, 108, 107, 109, 111, 111, 116, 108, 97, 119, 48, 53, 46, 76, 97, 98, 101, 108, 75, 101, 101, 112, 115], [102, 111, 108, 107, 109, 111, 111, 116, 47, 102, 111, 108, 107, 109, 111, 111, 116, 108, 97, 119, 48, 53, 46, 76, 97, 98, 101, 108, 80, 97, 114, 116, 115], [102, 111, 108, 107, 109, 111, 111, 116, 47, 102, 111, 108, 107, 109, 111, 111, 116, 108, 97, 119, 48, 53, 46, 76, 97, 98, 101, 108, 83, 111, 114, 116, 115], [102, 111, 108, 107, 109, 111, 111, 116, 47, 102, 111, 108, 107, 109, 111, 111, 116, 108, 97, 119, 48, 53, 46, 76, 97, 98, 101, 108, 66, 101, 104, 105, 110, 100], [102, 111, 108, 107, 109, 111, 111, 116, 47, 102, 111, 108, 107, 109, 111, 111, 116, 108, 97, 119, 48, 53, 46, 76, 97, 98, 101, 108, 79, 114, 100, 101, 114], [102, 111, 108, 107, 109, 111, 111, 116, 47, 102, 111, 108, 107, 109, 111, 111, 116, 108, 97, 119, 49, 53, 46, 67, 111, 110, 116, 101, 110, 116, 65, 112, 97, 114, 116], [102, 111, 108, 107, 109, 111, 111, 116, 47, 102, 111, 108, 107, 109, 111, 111, 116, 108, 97, 119, 49, 53, 46, 67, 111, 110, 116, 101, 110, 116, 79, 110, 101], [102, 111, 108, 107, 109, 111, 111, 116, 47, 102, 111, 108, 107, 109, 111, 111, 116, 108, 97, 119, 49, 53, 46, 67, 111, 110, 116, 101, 110, 116, 82, 101, 97, 100, 115], [102, 111, 108, 107, 109, 111, 111, 116, 47, 102, 111, 108, 107, 109, 111, 111, 116, 108, 97, 119, 49, 53, 46, 67, 111, 110, 116, 101, 110, 116, 65, 108, 108], [102, 111, 108, 107, 109, 111, 111, 116, 47, 102, 111, 108, 107, 109, 111, 111, 116, 108, 97, 119, 49, 54, 46, 69, 120, 99, 104, 97, 110, 103, 101, 80, 108, 97, 121, 115], [102, 111, 108, 107, 109, 111, 111, 116, 47, 102, 111, 108, 107, 109, 111, 111, 116, 108, 97, 119, 49, 54, 46, 69, 120, 99, 104, 97, 110, 103, 101, 84, 117, 114, 110, 101, 100], [102, 111, 108, 107, 109, 111, 111, 116, 47, 102, 111, 108, 107, 109, 111, 111, 116, 108, 97, 119, 49, 54, 46, 69, 120, 99, 104, 97, 110, 103, 101, 70, 117, 108, 108], [102, 111, 108, 107, 109, 111, 111, 116, 47, 102, 111, 108, 107, 109, 111, 111, 116, 108, 97, 119, 49, 54, 46, 69, 120, 99, 104, 97, 110, 103, 101, 75, 101, 101, 112, 115], [102, 111, 108, 107, 109, 111, 111, 116, 47, 102, 111, 108, 107, 109, 111, 111, 116, 108, 97, 119, 49, 54, 46, 69, 120, 99, 104, 97, 110, 103, 101, 79, 110, 101], [102, 111, 108, 107, 109, 111, 111, 116, 47, 102, 111, 108, 107, 109, 111, 111, 116, 108, 97, 119, 49, 54, 46, 69, 120, 99, 104, 97, 110, 103, 101, 77, 111, 114, 101]].tail.map (List.map Char.ofNat), by kernel_rfl⟩
theorem cut_gc : (([99, 117, 116].map Char.ofNat) == "gc".toList) = false := by kernel_rfl
theorem cut_spec : (([99, 117, 116].map Char.ofNat) == "spec".toList) = false := by kernel_rfl
theorem cut_carried : (([99, 117, 116].map Char.ofNat) == "carried".toList) = false := by kernel_rfl
theorem cut_cut : (([99, 117, 116].map Char.ofNat) == "cut".toList) = true := by kernel_rfl
theorem cut_some (rest : List (List Char)) : ((([99, 117, 116].map Char.ofNat) :: rest).head? == some "cut".toList) = true := cut_cut
theorem cut_strip (rest : List (List Char)) : stripLifts liftWords (([99, 117, 116].map Char.ofNat) :: rest) = ([], ([99, 117, 116].map Char.ofNat) :: rest) := by
  simp only [liftWords, stripLifts]
  rfl
theorem make_of {P : Program} {rest : List (List Char)} (h : behindMainWord (wordsSigns P.initOrder.toList) = [99, 117, 116].map Char.ofNat :: rest) : P.make = some .cut := by
  unfold Program.make
  rw [h]
  simp only [cut_gc, cut_spec, cut_cut, Bool.or_false, Bool.true_or, Bool.false_eq_true, if_false, if_true]
theorem lifts_of {P : Program} {rest : List (List Char)} (h : behindMainWord (wordsSigns P.initOrder.toList) = [99, 117, 116].map Char.ofNat :: rest) : P.liftsFinal = false := by
  unfold Program.liftsFinal Program.headLifts
  rw [h]
  simp only [cut_strip, List.head?_cons]
  show ((([99, 117, 116].map Char.ofNat) == "carried".toList) && _ || _) = false
  rw [cut_carried]
  kernel_rfl
theorem enter_of {P : Program} {rest : List (List Char)} (h : behindMainWord (wordsSigns P.initOrder.toList) = [99, 117, 116].map Char.ofNat :: rest) (h1 : P.laysLater = false) (h2 : P.bearsReflect = false) (h3 : P.doorFits [] = true) : P.mayEnter = true := by
  unfold Program.mayEnter
  rw [h]
  simp only [cut_strip, cut_some, cut_gc, cut_spec, cut_carried, h1, h2, h3, Bool.not_false, Bool.or_true, Bool.and_true, Bool.or_false, Bool.false_and, List.contains_nil]
theorem head_make : Try.prog.make = some .cut := head_behind.elim fun _ h => make_of h
theorem head_lifts : Try.prog.liftsFinal = false := head_behind.elim fun _ h => lifts_of h
theorem head_enter : Try.prog.mayEnter = true := head_behind.elim fun _ h => enter_of h (by kernel_rfl) (by kernel_rfl) (by kernel_rfl)
end Go.Proofs.Ytioooiflpabngaa

namespace Go.Proofs.Ytioooiflpabngaa.labelBehind
open Go.ChangeShapes Go.WideShapes Go.ChangeAt Go.RowKit Go.Proofs.Ytioooiflpabngaa.PAll
set_option linter.unusedVariables false
theorem own : ownKnob Try.prog.godebug = none := by kernel_rfl
theorem laidOut : laidOutB Try.prog = true := by kernel_rfl
set_option maxRecDepth 100000 in
theorem lifted (os : Os) (started : os.Started) (H : Type) (enc : TypeId × Value → H) :
    ReturnsInHanded {} Try.checked os 10 .any (Rows.labelBehindSpec.pre6 enc Try.prog Try.f10 Rows.labelBehindRow.domain false) (Rows.labelBehindSpec.post enc Try.prog Try.f10 false true false false) := by
  refine returnsInHanded_of_change_sized (C := Try.checked) own started (by kernel_rfl) Try.func10
    (ChangeSpec.witness6 (enc := enc) (C := Try.checked) false ⟨#[], #[.slice none 0 0, .slice none 0 0], []⟩ 8 (by kernel_rfl) (by kernel_rfl) (by kernel_rfl) (by kernel_rfl)) ?_
  intro W base args ds gs before hval0 hW hcnd hsz0 _
  have hsz : (DataW.weightsEach Try.prog (Try.f10.params.toList ++ Rows.labelBehindSpec.plain.varTypes Try.prog) (ds ++ gs)).all (· ≤ reachBytes) = true := hsz0
  have hval : ∀ (j : Nat) t v, Try.f10.params[j]? = some t → args[j]? = some v → Value.okWide Try.prog W .any base t v := hval0
  have hW' := hW
  obtain ⟨p, q, hA0, hV, rfl, hfz, hnd⟩ := hW
  have hA : DataW.TrodAll enc Try.prog W 0 (fun _ => true) true Try.f10.params.toList args.toList ds p := hA0
  rw [Try.params10] at hA hval hsz
  obtain ⟨v0, vs0, d0, ds0, p0, q0, hargs, rfl, rfl, h0, r0⟩ := trodAll_cons hA
  obtain ⟨v1, vs1, d1, ds1, p1, q1, rfl, rfl, rfl, h1, r1⟩ := trodAll_cons r0
  obtain ⟨rfl, rfl, rfl⟩ := trodAll_nil r1
  obtain rfl : args = #[v0, v1] := by cases args; simp_all
  obtain ⟨rfl, rfl⟩ := trodVars_none hV
  have z0 : ∀ n ∈ d0.weights Try.prog 41, n ≤ reachBytes := fun n hn => of_decide_eq_true (List.all_eq_true.1 hsz _ (DataW.weights_mem_each (j := 0) (t := 41) rfl rfl n hn))
  have k0 := h0
  have lt0 : ∀ x ∈ p0, x.block < W.heap.size := by obtain ⟨m, hm⟩ := k0; exact DataW.trod_lt m _ _ _ hm
  obtain ⟨a0, len0, cap0, rfl⟩ := okWide_slice Try.underlying41 (hval 0 41 v0 rfl rfl)
  obtain ⟨l0, hK0, ok0⟩ := arg_trod opensLs h0 z0
  obtain ⟨rfl, hc0, hr0⟩ := arg_slice hK0
  have z1 : ∀ n ∈ d1.weights Try.prog 41, n ≤ reachBytes := fun n hn => of_decide_eq_true (List.all_eq_true.1 hsz _ (DataW.weights_mem_each (j := 1) (t := 41) rfl rfl n hn))
  have k1 := h1
  have lt1 : ∀ x ∈ p1, x.block < W.heap.size := by obtain ⟨m, hm⟩ := k1; exact DataW.trod_lt m _ _ _ hm
  obtain ⟨a1, len1, cap1, rfl⟩ := okWide_slice Try.underlying41 (hval 1 41 v1 rfl rfl)
  obtain ⟨l1, hK1, ok1⟩ := arg_trod opensLs h1 z1
  obtain ⟨rfl, hc1, hr1⟩ := arg_slice hK1
  clear hA0 hval0 hsz0 hsz
  obtain ⟨k, hp⟩ := pure_LabelBehind l0 l1 ok0 ok1
  refine (folkmootlaw05_LabelBehind.calls k _ _ l0 _ _ l1 true W hr0 hc0 hr1 hc1 hp).mono fun e W' ⟨he, bel⟩ => ?_
  subst he
  exact ⟨_, rfl, _, _, _, [], _, [], hW', trodAll_mk1 (shut_bool Try.underlying4 _), (trodAll_cons_mk (Below.trod laidOut (by kernel_rfl) (of_decide_eq_true (by kernel_rfl)) k0 bel lt0) (trodAll_cons_mk (Below.trod laidOut (by kernel_rfl) (of_decide_eq_true (by kernel_rfl)) k1 bel lt1) trodAll_mk0)), rfl, bel.frame _, fun h => by cases h⟩
theorem closed : joinedFacts Try.prog 10 Try.f10 Rows.labelBehindSpec Rows.labelBehindRow = true := by
  unfold joinedFacts
  rw [head_enter, head_lifts, head_make]
  kernel_rfl
theorem over : Rows.labelBehindRow.holds Try.pinned (OpenSpec.ofChange Rows.labelBehindSpec) :=
  OpenClaim.holds_of_wide 10 Try.f10 rfl rfl rfl rfl rfl rfl rfl ⟨rfl, rfl, rfl, rfl, rfl⟩ rfl rfl rfl rfl rfl (by kernel_rfl) Try.func10 closed
    (of_decide_eq_true (by kernel_rfl)) (by unfold Func.isWrapper; first | (rw [if_pos (by decide +kernel)]; kernel_rfl) | (rw [if_neg (by decide +kernel)]; exact ⟨rfl, rfl⟩))
    (fun os started H enc _ => lifted os started H enc)
theorem proved : Rows.LabelBehindSaid := over
end Go.Proofs.Ytioooiflpabngaa.labelBehind
