/- Parts: PAllx45, QLabelOrder, HJoined, RLabelOrder. -/
import Derived.Test.YtioooiflpabngaaLabelOrderA
import Derived.Test.YtioooiflpabngaaLabelOrderB
import Derived.Test.YtioooiflpabngaaRows
import Derived.ProofKit
import Derived.WalkKit
import Derived.OpenShut
import Derived.ShutString
import Derived.ChangeOld
import Derived.Below
import Derived.SizedLaws
set_option linter.unusedVariables false
set_option linter.unusedSimpArgs false
namespace Go.Proofs.Ytioooiflpabngaa.PAll
open Go.RowKit Go.Proofs.YtioooiflpabngaaW.PrintWords Go.Proofs.YtioooiflpabngaaW.PrintLast Go.Proofs.YtioooiflpabngaaW.PrintMore
attribute [local go_sem] max2_int min2_int max_two min_two max_three min_three max_four min_four   -- for this text's walks alone
set_option linter.unusedVariables false
set_option linter.unusedSimpArgs false

attribute [local go_sem high] eqA27
/-! ### folkmootlaw05_LabelOrder: function 11 -/
def folkmootlaw05_LabelOrder.j0 : Nat → Bool → Int → Int → Int → Int → Int → Int → Int → Int → Int → Int → Int → Int → Option (Bool)
  | 0, _, _, _, _, _, _, _, _, _, _, _, _, _ => none
  | k + 1, x45, x489000, x489001, x489002, x489003, x490000, x490001, x490002, x490003, x491000, x491001, x491002, x491003 => if x45 = true then (some false) else ((label_Compare.f k x489000 x489001 x489002 x489003 x490000 x490001 x490002 x490003).bind fun t499 => (if t499 > 0 then ((label_Compare.f k x490000 x490001 x490002 x490003 x491000 x491001 x491002 x491003).bind fun t500 => (if t500 > 0 then ((label_Compare.f k x489000 x489001 x489002 x489003 x491000 x491001 x491002 x491003).bind fun t501 => (some (decide (t501 > 0)))) else (some true))) else (some true)))
def folkmootlaw05_LabelOrder.f (k : Nat) (a0_0 : Int) (a0_1 : Int) (a0_2 : Int) (a0_3 : Int) (a1_0 : Int) (a1_1 : Int) (a1_2 : Int) (a1_3 : Int) (a2_0 : Int) (a2_1 : Int) (a2_2 : Int) (a2_3 : Int) : Option (Bool) := (folkmootlaw05_awake.f).bind fun t491 => (if t491 = true then ((label_Form.f a0_0 a0_1 a0_2 a0_3).bind fun t492 => ((folkmootref05_Form.f a0_0 a0_1 a0_2 a0_3).bind fun t493 => (if (t492 != t493) = true then (folkmootlaw05_LabelOrder.j0 k true a0_0 a0_1 a0_2 a0_3 a1_0 a1_1 a1_2 a1_3 a2_0 a2_1 a2_2 a2_3) else ((label_Compare.f k a0_0 a0_1 a0_2 a0_3 a1_0 a1_1 a1_2 a1_3).bind fun t494 => ((folkmootref05_Less.f k a0_0 a0_1 a0_2 a0_3 a1_0 a1_1 a1_2 a1_3).bind fun t495 => (if ((decide (t494 < 0)) != t495) = true then (folkmootlaw05_LabelOrder.j0 k true a0_0 a0_1 a0_2 a0_3 a1_0 a1_1 a1_2 a1_3 a2_0 a2_1 a2_2 a2_3) else ((label_Compare.f k a0_0 a0_1 a0_2 a0_3 a1_0 a1_1 a1_2 a1_3).bind fun t496 => (if ((t496 == 0) != ((a0_0 == a1_0 && (a0_1 == a1_1)) && (a0_2 == a1_2 && (a0_3 == a1_3)))) = true then (folkmootlaw05_LabelOrder.j0 k true a0_0 a0_1 a0_2 a0_3 a1_0 a1_1 a1_2 a1_3 a2_0 a2_1 a2_2 a2_3) else ((label_Compare.f k a0_0 a0_1 a0_2 a0_3 a1_0 a1_1 a1_2 a1_3).bind fun t497 => ((label_Compare.f k a1_0 a1_1 a1_2 a1_3 a0_0 a0_1 a0_2 a0_3).bind fun t498 => (folkmootlaw05_LabelOrder.j0 k (t497 != (wrap64 (-t498))) a0_0 a0_1 a0_2 a0_3 a1_0 a1_1 a1_2 a1_3 a2_0 a2_1 a2_2 a2_3))))))))))) else (folkmootlaw05_LabelOrder.j0 k true a0_0 a0_1 a0_2 a0_3 a1_0 a1_1 a1_2 a1_3 a2_0 a2_1 a2_2 a2_3))
theorem folkmootlaw05_LabelOrder.mono_l : ∀ k, (∀ y0 y1 y2 y3 y4 y5 y6 y7 y8 y9 y10 y11 y12, LeO (folkmootlaw05_LabelOrder.j0 k y0 y1 y2 y3 y4 y5 y6 y7 y8 y9 y10 y11 y12) (folkmootlaw05_LabelOrder.j0 (k + 1) y0 y1 y2 y3 y4 y5 y6 y7 y8 y9 y10 y11 y12))
  | 0 => fun _ _ _ _ _ _ _ _ _ _ _ _ _ r h => by simp [folkmootlaw05_LabelOrder.j0] at h
  | k + 1 => by
    have ih0 := folkmootlaw05_LabelOrder.mono_l k
    · intro y0 y1 y2 y3 y4 y5 y6 y7 y8 y9 y10 y11 y12
      unfold folkmootlaw05_LabelOrder.j0
      repeat' first
      | (with_reducible exact ih0 _ _ _ _ _ _ _ _ _ _ _ _ _)
      | (with_reducible exact folkmootref05_Less.mono _ _ _ _ _ _ _ _ _)
      | (with_reducible exact label_Compare.mono _ _ _ _ _ _ _ _ _)
      | (with_reducible exact LeO.refl _)
      | (with_reducible exact LeO.none _)
      | (with_reducible refine LeO.ite ?_ ?_)
      | (with_reducible refine LeO.bind ?_ (fun _ => ?_))
      | exact ih0 _ _ _ _ _ _ _ _ _ _ _ _ _
      | exact folkmootref05_Less.mono _ _ _ _ _ _ _ _ _
      | exact label_Compare.mono _ _ _ _ _ _ _ _ _
      | exact LeO.none _
      | refine LeO.ite ?_ ?_
      | refine LeO.bind ?_ (fun _ => ?_)
theorem folkmootlaw05_LabelOrder.mono : ∀ a0 a1 a2 a3 a4 a5 a6 a7 a8 a9 a10 a11 k, LeO (folkmootlaw05_LabelOrder.f k a0 a1 a2 a3 a4 a5 a6 a7 a8 a9 a10 a11) (folkmootlaw05_LabelOrder.f (k + 1) a0 a1 a2 a3 a4 a5 a6 a7 a8 a9 a10 a11) := by
  intro a0 a1 a2 a3 a4 a5 a6 a7 a8 a9 a10 a11 k
  have ih0 := folkmootlaw05_LabelOrder.mono_l k
  unfold folkmootlaw05_LabelOrder.f
  repeat' first
      | (with_reducible exact ih0 _ _ _ _ _ _ _ _ _ _ _ _ _)
      | (with_reducible exact folkmootref05_Less.mono _ _ _ _ _ _ _ _ _)
      | (with_reducible exact label_Compare.mono _ _ _ _ _ _ _ _ _)
      | (with_reducible exact LeO.refl _)
      | (with_reducible exact LeO.none _)
      | (with_reducible refine LeO.ite ?_ ?_)
      | (with_reducible refine LeO.bind ?_ (fun _ => ?_))
      | exact ih0 _ _ _ _ _ _ _ _ _ _ _ _ _
      | exact folkmootref05_Less.mono _ _ _ _ _ _ _ _ _
      | exact label_Compare.mono _ _ _ _ _ _ _ _ _
      | exact LeO.none _
      | refine LeO.ite ?_ ?_
      | refine LeO.bind ?_ (fun _ => ?_)
def folkmootlaw05_LabelOrder.T1 : Bool × List (List Nat × List Nat) := (true, [([], []), ([0], [0]), ([1, 0], [1]), ([2], [2]), ([3, 2, 2], [2, 3]), ([2], [2]), ([5, 4, 2], [2, 5]), ([4, 6, 2], [2, 4, 6]), ([2, 7], [2, 7]), ([8, 6], [8]), ([9], [9]), ([9], [9]), ([10, 11, 9, 9], [9, 10, 11]), ([12, 9], [9, 12]), ([9], [9]), ([9], [9]), ([14, 15, 12, 9], [9, 14, 15]), ([13, 16, 9], [9, 13, 16]), ([9, 17], [9, 17]), ([18, 16], [18]), ([19], [19]), ([19], [19]), ([20, 21, 19, 19], [19, 20, 21]), ([22, 19], [19, 22]), ([19], [19]), ([19], [19]), ([24, 25, 19], [19, 24, 25]), ([23, 26, 19], [19, 23, 26]), ([19, 27], [19, 27]), ([28, 22], [28]), ([29], [29]), ([29], [29]), ([30, 31, 29, 29], [29, 30, 31]), ([29], [29]), ([29], [29]), ([33, 34, 32, 29], [29, 33, 34]), ([35, 29], [29, 35]), ([32, 36, 29], [29, 32, 36]), ([29, 37], [29, 37])])
def folkmootlaw05_LabelOrder.B1 : List Nat := [0, 1, 3, 7, 15, 7, 63, 127, 255, 511, 1023, 1023, 4095, 8191, 1023, 1023, 57343, 131071, 262143, 524287, 1048575, 1048575, 4194303, 8388607, 1048575, 1048575, 51380223, 134217727, 268435455, 536870911, 1073741823, 1073741823, 4294967295, 1073741823, 1073741823, 34359738367, 68719476735, 137438953471, 274877906943]
theorem folkmootlaw05_LabelOrder.tab1 : rtab .any (opsOf Try.f11 1) = folkmootlaw05_LabelOrder.T1 := by kernel_rfl
theorem folkmootlaw05_LabelOrder.bits1 : waitsOk folkmootlaw05_LabelOrder.T1.2 folkmootlaw05_LabelOrder.B1 = true := by kernel_rfl
set_option maxHeartbeats 8000000 in
set_option maxRecDepth 100000 in
theorem folkmootlaw05_LabelOrder.calls (k : Nat) (a0_0 : Int) (a0_1 : Int) (a0_2 : Int) (a0_3 : Int) (a1_0 : Int) (a1_1 : Int) (a1_2 : Int) (a1_3 : Int) (a2_0 : Int) (a2_1 : Int) (a2_2 : Int) (a2_3 : Int) (r : Bool) (w : World) (h : folkmootlaw05_LabelOrder.f k a0_0 a0_1 a0_2 a0_3 a1_0 a1_1 a1_2 a1_3 a2_0 a2_1 a2_2 a2_3 = some r) :
    Calls Try.prog 11 #[.agg #[.int .u64 a0_0, .int .i64 a0_1, .int .u64 a0_2, .int .i64 a0_3], .agg #[.int .u64 a1_0, .int .i64 a1_1, .int .u64 a1_2, .int .i64 a1_3], .agg #[.int .u64 a2_0, .int .i64 a2_1, .int .u64 a2_2, .int .i64 a2_3]] w fun e w' => e = .returned (.bool r) ∧ Below w.heap.size w w' := by
  have hu27 := Try.underlying27
  have HB := Aside0.mk (Below.refl w.heap.size w)
  have H : ((folkmootlaw05_awake.f).bind fun t491 => (if t491 = true then ((label_Form.f a0_0 a0_1 a0_2 a0_3).bind fun t492 => ((folkmootref05_Form.f a0_0 a0_1 a0_2 a0_3).bind fun t493 => (if (t492 != t493) = true then (folkmootlaw05_LabelOrder.j0 k true a0_0 a0_1 a0_2 a0_3 a1_0 a1_1 a1_2 a1_3 a2_0 a2_1 a2_2 a2_3) else ((label_Compare.f k a0_0 a0_1 a0_2 a0_3 a1_0 a1_1 a1_2 a1_3).bind fun t494 => ((folkmootref05_Less.f k a0_0 a0_1 a0_2 a0_3 a1_0 a1_1 a1_2 a1_3).bind fun t495 => (if ((decide (t494 < 0)) != t495) = true then (folkmootlaw05_LabelOrder.j0 k true a0_0 a0_1 a0_2 a0_3 a1_0 a1_1 a1_2 a1_3 a2_0 a2_1 a2_2 a2_3) else ((label_Compare.f k a0_0 a0_1 a0_2 a0_3 a1_0 a1_1 a1_2 a1_3).bind fun t496 => (if ((t496 == 0) != ((a0_0 == a1_0 && (a0_1 == a1_1)) && (a0_2 == a1_2 && (a0_3 == a1_3)))) = true then (folkmootlaw05_LabelOrder.j0 k true a0_0 a0_1 a0_2 a0_3 a1_0 a1_1 a1_2 a1_3 a2_0 a2_1 a2_2 a2_3) else ((label_Compare.f k a0_0 a0_1 a0_2 a0_3 a1_0 a1_1 a1_2 a1_3).bind fun t497 => ((label_Compare.f k a1_0 a1_1 a1_2 a1_3 a0_0 a0_1 a0_2 a0_3).bind fun t498 => (folkmootlaw05_LabelOrder.j0 k (t497 != (wrap64 (-t498))) a0_0 a0_1 a0_2 a0_3 a1_0 a1_1 a1_2 a1_3 a2_0 a2_1 a2_2 a2_3))))))))))) else (folkmootlaw05_LabelOrder.j0 k true a0_0 a0_1 a0_2 a0_3 a1_0 a1_1 a1_2 a1_3 a2_0 a2_1 a2_2 a2_3))) = some r := h
  clear h
  have HC4 := Aside0.mk H
  clear H
  go_enter Try.func11, Try.ntmps11
  go_upto_region 1 with (first | ((with_reducible refine gate_dst (N := 3) rfl ?_); refine box_event ?hg (N := 3) ?hd (cs := #[.int .u64 a0_0, .int .i64 a0_1, .int .u64 a0_2, .int .i64 a0_3]) (t := 27) ?hr ?_; (case hd => rfl); (case hg => rfl); (case hr => first | (go_simp; done) | (go_simp; rfl)); intro gb488 hg w5 hbox hb; have n0_ := Aside0.mk (below_step (by repeat (first | (with_reducible first | exact HB.out | apply below_alloc | apply pw_below_drewN | apply below_drew1) | exact HB.out)) hb); have n1_ := Aside0.mk (hbox); have n2_ := Aside0.mk ((by rw [hg]; exact (below_size (by repeat (first | (with_reducible first | exact HB.out | apply below_alloc | apply pw_below_drewN | apply below_drew1) | exact HB.out))) : w.heap.size ≤ gb488)); have n3_ := Aside0.mk ((by rw [hg]; exact (below_size (by repeat (first | (with_reducible first | exact HB.out | apply below_alloc | apply pw_below_drewN | apply below_drew1) | exact HB.out))) : w.heap.size ≤ gb488)); clear HB; have HB := n0_; have BK488 := n1_; have GW488 := n2_; have GE488 := n3_; clear n0_ n1_ n2_ n3_; clear hb hbox hg) | ((with_reducible refine gate_dst (N := 4) rfl ?_); refine box_event ?hg (N := 4) ?hd (cs := #[.int .u64 a1_0, .int .i64 a1_1, .int .u64 a1_2, .int .i64 a1_3]) (t := 27) ?hr ?_; (case hd => rfl); (case hg => rfl); (case hr => first | (go_simp; done) | (go_simp; rfl)); intro gb489 hg w6 hbox hb; have n0_ := Aside0.mk (blk_below (g := gb488) (o := .cells #[.int .u64 a0_0, .int .i64 a0_1, .int .u64 a0_2, .int .i64 a0_3] 27 (0, 0)) (by (with_reducible repeat (first | refine blk_drewN ?_ _ | refine blk_drew ?_ | refine blk_alloc ?_ _)); exact BK488.out) hb); have n1_ := Aside0.mk (below_step (by repeat (first | (with_reducible first | exact HB.out | apply below_alloc | apply pw_below_drewN | apply below_drew1 | refine below_set ?_ GE488.out) | exact HB.out)) hb); have n2_ := Aside0.mk (hbox); have n3_ := Aside0.mk ((by rw [hg]; exact (below_size (by repeat (first | (with_reducible first | exact HB.out | apply below_alloc | apply pw_below_drewN | apply below_drew1 | refine below_set ?_ GE488.out) | exact HB.out))) : w.heap.size ≤ gb489)); have n4_ := Aside0.mk ((by rw [hg]; exact (below_size (by repeat (first | (with_reducible first | exact HB.out | apply below_alloc | apply pw_below_drewN | apply below_drew1 | refine below_set ?_ GE488.out) | exact HB.out))) : w.heap.size ≤ gb489)); have n5_ := Aside0.mk ((by rw [hg]; exact Nat.ne_of_lt (blk_lt (g := gb488) (o := .cells #[.int .u64 a0_0, .int .i64 a0_1, .int .u64 a0_2, .int .i64 a0_3] 27 (0, 0)) (by (with_reducible repeat (first | refine blk_drewN ?_ _ | refine blk_drew ?_ | refine blk_alloc ?_ _)); exact BK488.out)) : gb488 ≠ gb489)); have n6_ := Aside0.mk ((by rw [hg]; exact Nat.ne_of_gt (blk_lt (g := gb488) (o := .cells #[.int .u64 a0_0, .int .i64 a0_1, .int .u64 a0_2, .int .i64 a0_3] 27 (0, 0)) (by (with_reducible repeat (first | refine blk_drewN ?_ _ | refine blk_drew ?_ | refine blk_alloc ?_ _)); exact BK488.out)) : gb489 ≠ gb488)); clear BK488; clear HB; have BK488 := n0_; have HB := n1_; have BK489 := n2_; have GW489 := n3_; have GE489 := n4_; have NB488_489 := n5_; have NB489_488 := n6_; clear n0_ n1_ n2_ n3_ n4_ n5_ n6_; clear hb hbox hg) | ((with_reducible refine gate_dst (N := 5) rfl ?_); refine box_event ?hg (N := 5) ?hd (cs := #[.int .u64 a2_0, .int .i64 a2_1, .int .u64 a2_2, .int .i64 a2_3]) (t := 27) ?hr ?_; (case hd => rfl); (case hg => rfl); (case hr => first | (go_simp; done) | (go_simp; rfl)); intro gb490 hg w7 hbox hb; have n0_ := Aside0.mk (blk_below (g := gb488) (o := .cells #[.int .u64 a0_0, .int .i64 a0_1, .int .u64 a0_2, .int .i64 a0_3] 27 (0, 0)) (by (with_reducible repeat (first | refine blk_drewN ?_ _ | refine blk_drew ?_ | refine blk_alloc ?_ _)); exact BK488.out) hb); have n1_ := Aside0.mk (blk_below (g := gb489) (o := .cells #[.int .u64 a1_0, .int .i64 a1_1, .int .u64 a1_2, .int .i64 a1_3] 27 (0, 0)) (by (with_reducible repeat (first | refine blk_drewN ?_ _ | refine blk_drew ?_ | refine blk_alloc ?_ _)); exact BK489.out) hb); have n2_ := Aside0.mk (below_step (by repeat (first | (with_reducible first | exact HB.out | apply below_alloc | apply pw_below_drewN | apply below_drew1 | refine below_set ?_ GE488.out | refine below_set ?_ GE489.out) | exact HB.out)) hb); have n3_ := Aside0.mk (hbox); have n4_ := Aside0.mk ((by rw [hg]; exact (below_size (by repeat (first | (with_reducible first | exact HB.out | apply below_alloc | apply pw_below_drewN | apply below_drew1 | refine below_set ?_ GE488.out | refine below_set ?_ GE489.out) | exact HB.out))) : w.heap.size ≤ gb490)); have n5_ := Aside0.mk ((by rw [hg]; exact (below_size (by repeat (first | (with_reducible first | exact HB.out | apply below_alloc | apply pw_below_drewN | apply below_drew1 | refine below_set ?_ GE488.out | refine below_set ?_ GE489.out) | exact HB.out))) : w.heap.size ≤ gb490)); have n6_ := Aside0.mk ((by rw [hg]; exact Nat.ne_of_lt (blk_lt (g := gb488) (o := .cells #[.int .u64 a0_0, .int .i64 a0_1, .int .u64 a0_2, .int .i64 a0_3] 27 (0, 0)) (by (with_reducible repeat (first | refine blk_drewN ?_ _ | refine blk_drew ?_ | refine blk_alloc ?_ _)); exact BK488.out)) : gb488 ≠ gb490)); have n7_ := Aside0.mk ((by rw [hg]; exact Nat.ne_of_gt (blk_lt (g := gb488) (o := .cells #[.int .u64 a0_0, .int .i64 a0_1, .int .u64 a0_2, .int .i64 a0_3] 27 (0, 0)) (by (with_reducible repeat (first | refine blk_drewN ?_ _ | refine blk_drew ?_ | refine blk_alloc ?_ _)); exact BK488.out)) : gb490 ≠ gb488)); have n8_ := Aside0.mk ((by rw [hg]; exact Nat.ne_of_lt (blk_lt (g := gb489) (o := .cells #[.int .u64 a1_0, .int .i64 a1_1, .int .u64 a1_2, .int .i64 a1_3] 27 (0, 0)) (by (with_reducible repeat (first | refine blk_drewN ?_ _ | refine blk_drew ?_ | refine blk_alloc ?_ _)); exact BK489.out)) : gb489 ≠ gb490)); have n9_ := Aside0.mk ((by rw [hg]; exact Nat.ne_of_gt (blk_lt (g := gb489) (o := .cells #[.int .u64 a1_0, .int .i64 a1_1, .int .u64 a1_2, .int .i64 a1_3] 27 (0, 0)) (by (with_reducible repeat (first | refine blk_drewN ?_ _ | refine blk_drew ?_ | refine blk_alloc ?_ _)); exact BK489.out)) : gb490 ≠ gb489)); clear BK488; clear BK489; clear HB; have BK488 := n0_; have BK489 := n1_; have HB := n2_; have BK490 := n3_; have GW490 := n4_; have GE490 := n5_; have NB488_490 := n6_; have NB490_488 := n7_; have NB489_490 := n8_; have NB490_489 := n9_; clear n0_ n1_ n2_ n3_ n4_ n5_ n6_ n7_ n8_ n9_; clear hb hbox hg))
  (try simp only [Act.put, List.setIfInBounds_toArray, List.set_cons_zero, List.set_cons_succ])
  go_cut [45] (fun v45 wc => ∃ (kq : Nat) (x45_3 : Bool), v45 = .bool x45_3 ∧ Aside0 (folkmootlaw05_LabelOrder.j0 kq x45_3 a0_0 a0_1 a0_2 a0_3 a1_0 a1_1 a1_2 a1_3 a2_0 a2_1 a2_2 a2_3 = some r) ∧ Aside0 (kq ≤ k) ∧ Aside0 (wc.heap[gb488]? = some (.cells #[.int .u64 a0_0, .int .i64 a0_1, .int .u64 a0_2, .int .i64 a0_3] 27 (0, 0))) ∧ Aside0 (wc.heap[gb489]? = some (.cells #[.int .u64 a1_0, .int .i64 a1_1, .int .u64 a1_2, .int .i64 a1_3] 27 (0, 0))) ∧ Aside0 (wc.heap[gb490]? = some (.cells #[.int .u64 a2_0, .int .i64 a2_1, .int .u64 a2_2, .int .i64 a2_3] 27 (0, 0))) ∧ Aside0 (Below w.heap.size w wc))
  case first =>
    have H := HC4.out
    clear HC4
    replace H := Option.bind_eq_some_iff.mp H
    obtain ⟨t491, A80, H⟩ := H
    replace H : (if t491 = true then ((label_Form.f a0_0 a0_1 a0_2 a0_3).bind fun t492 => ((folkmootref05_Form.f a0_0 a0_1 a0_2 a0_3).bind fun t493 => (if (t492 != t493) = true then (folkmootlaw05_LabelOrder.j0 k true a0_0 a0_1 a0_2 a0_3 a1_0 a1_1 a1_2 a1_3 a2_0 a2_1 a2_2 a2_3) else ((label_Compare.f k a0_0 a0_1 a0_2 a0_3 a1_0 a1_1 a1_2 a1_3).bind fun t494 => ((folkmootref05_Less.f k a0_0 a0_1 a0_2 a0_3 a1_0 a1_1 a1_2 a1_3).bind fun t495 => (if ((decide (t494 < 0)) != t495) = true then (folkmootlaw05_LabelOrder.j0 k true a0_0 a0_1 a0_2 a0_3 a1_0 a1_1 a1_2 a1_3 a2_0 a2_1 a2_2 a2_3) else ((label_Compare.f k a0_0 a0_1 a0_2 a0_3 a1_0 a1_1 a1_2 a1_3).bind fun t496 => (if ((t496 == 0) != ((a0_0 == a1_0 && (a0_1 == a1_1)) && (a0_2 == a1_2 && (a0_3 == a1_3)))) = true then (folkmootlaw05_LabelOrder.j0 k true a0_0 a0_1 a0_2 a0_3 a1_0 a1_1 a1_2 a1_3 a2_0 a2_1 a2_2 a2_3) else ((label_Compare.f k a0_0 a0_1 a0_2 a0_3 a1_0 a1_1 a1_2 a1_3).bind fun t497 => ((label_Compare.f k a1_0 a1_1 a1_2 a1_3 a0_0 a0_1 a0_2 a0_3).bind fun t498 => (folkmootlaw05_LabelOrder.j0 k (t497 != (wrap64 (-t498))) a0_0 a0_1 a0_2 a0_3 a1_0 a1_1 a1_2 a1_3 a2_0 a2_1 a2_2 a2_3))))))))))) else (folkmootlaw05_LabelOrder.j0 k true a0_0 a0_1 a0_2 a0_3 a1_0 a1_1 a1_2 a1_3 a2_0 a2_1 a2_2 a2_3)) = some r := H
    have A8 := Aside0.mk A80
    clear A80
    by_cases c9 : t491 = true
    · subst c9
      have H1 : ((label_Form.f a0_0 a0_1 a0_2 a0_3).bind fun t492 => ((folkmootref05_Form.f a0_0 a0_1 a0_2 a0_3).bind fun t493 => (if (t492 != t493) = true then (folkmootlaw05_LabelOrder.j0 k true a0_0 a0_1 a0_2 a0_3 a1_0 a1_1 a1_2 a1_3 a2_0 a2_1 a2_2 a2_3) else ((label_Compare.f k a0_0 a0_1 a0_2 a0_3 a1_0 a1_1 a1_2 a1_3).bind fun t494 => ((folkmootref05_Less.f k a0_0 a0_1 a0_2 a0_3 a1_0 a1_1 a1_2 a1_3).bind fun t495 => (if ((decide (t494 < 0)) != t495) = true then (folkmootlaw05_LabelOrder.j0 k true a0_0 a0_1 a0_2 a0_3 a1_0 a1_1 a1_2 a1_3 a2_0 a2_1 a2_2 a2_3) else ((label_Compare.f k a0_0 a0_1 a0_2 a0_3 a1_0 a1_1 a1_2 a1_3).bind fun t496 => (if ((t496 == 0) != ((a0_0 == a1_0 && (a0_1 == a1_1)) && (a0_2 == a1_2 && (a0_3 == a1_3)))) = true then (folkmootlaw05_LabelOrder.j0 k true a0_0 a0_1 a0_2 a0_3 a1_0 a1_1 a1_2 a1_3 a2_0 a2_1 a2_2 a2_3) else ((label_Compare.f k a0_0 a0_1 a0_2 a0_3 a1_0 a1_1 a1_2 a1_3).bind fun t497 => ((label_Compare.f k a1_0 a1_1 a1_2 a1_3 a0_0 a0_1 a0_2 a0_3).bind fun t498 => (folkmootlaw05_LabelOrder.j0 k (t497 != (wrap64 (-t498))) a0_0 a0_1 a0_2 a0_3 a1_0 a1_1 a1_2 a1_3 a2_0 a2_1 a2_2 a2_3))))))))))) = some r := by rw [if_pos rfl] at H; exact H
      clear H
      have H := H1
      clear H1
      replace H := Option.bind_eq_some_iff.mp H
      obtain ⟨t492, A100, H⟩ := H
      replace H : ((folkmootref05_Form.f a0_0 a0_1 a0_2 a0_3).bind fun t493 => (if (t492 != t493) = true then (folkmootlaw05_LabelOrder.j0 k true a0_0 a0_1 a0_2 a0_3 a1_0 a1_1 a1_2 a1_3 a2_0 a2_1 a2_2 a2_3) else ((label_Compare.f k a0_0 a0_1 a0_2 a0_3 a1_0 a1_1 a1_2 a1_3).bind fun t494 => ((folkmootref05_Less.f k a0_0 a0_1 a0_2 a0_3 a1_0 a1_1 a1_2 a1_3).bind fun t495 => (if ((decide (t494 < 0)) != t495) = true then (folkmootlaw05_LabelOrder.j0 k true a0_0 a0_1 a0_2 a0_3 a1_0 a1_1 a1_2 a1_3 a2_0 a2_1 a2_2 a2_3) else ((label_Compare.f k a0_0 a0_1 a0_2 a0_3 a1_0 a1_1 a1_2 a1_3).bind fun t496 => (if ((t496 == 0) != ((a0_0 == a1_0 && (a0_1 == a1_1)) && (a0_2 == a1_2 && (a0_3 == a1_3)))) = true then (folkmootlaw05_LabelOrder.j0 k true a0_0 a0_1 a0_2 a0_3 a1_0 a1_1 a1_2 a1_3 a2_0 a2_1 a2_2 a2_3) else ((label_Compare.f k a0_0 a0_1 a0_2 a0_3 a1_0 a1_1 a1_2 a1_3).bind fun t497 => ((label_Compare.f k a1_0 a1_1 a1_2 a1_3 a0_0 a0_1 a0_2 a0_3).bind fun t498 => (folkmootlaw05_LabelOrder.j0 k (t497 != (wrap64 (-t498))) a0_0 a0_1 a0_2 a0_3 a1_0 a1_1 a1_2 a1_3 a2_0 a2_1 a2_2 a2_3)))))))))) = some r := H
      have A10 := Aside0.mk A100
      clear A100
      replace H := Option.bind_eq_some_iff.mp H
      obtain ⟨t493, A110, H⟩ := H
      replace H : (if (t492 != t493) = true then (folkmootlaw05_LabelOrder.j0 k true a0_0 a0_1 a0_2 a0_3 a1_0 a1_1 a1_2 a1_3 a2_0 a2_1 a2_2 a2_3) else ((label_Compare.f k a0_0 a0_1 a0_2 a0_3 a1_0 a1_1 a1_2 a1_3).bind fun t494 => ((folkmootref05_Less.f k a0_0 a0_1 a0_2 a0_3 a1_0 a1_1 a1_2 a1_3).bind fun t495 => (if ((decide (t494 < 0)) != t495) = true then (folkmootlaw05_LabelOrder.j0 k true a0_0 a0_1 a0_2 a0_3 a1_0 a1_1 a1_2 a1_3 a2_0 a2_1 a2_2 a2_3) else ((label_Compare.f k a0_0 a0_1 a0_2 a0_3 a1_0 a1_1 a1_2 a1_3).bind fun t496 => (if ((t496 == 0) != ((a0_0 == a1_0 && (a0_1 == a1_1)) && (a0_2 == a1_2 && (a0_3 == a1_3)))) = true then (folkmootlaw05_LabelOrder.j0 k true a0_0 a0_1 a0_2 a0_3 a1_0 a1_1 a1_2 a1_3 a2_0 a2_1 a2_2 a2_3) else ((label_Compare.f k a0_0 a0_1 a0_2 a0_3 a1_0 a1_1 a1_2 a1_3).bind fun t497 => ((label_Compare.f k a1_0 a1_1 a1_2 a1_3 a0_0 a0_1 a0_2 a0_3).bind fun t498 => (folkmootlaw05_LabelOrder.j0 k (t497 != (wrap64 (-t498))) a0_0 a0_1 a0_2 a0_3 a1_0 a1_1 a1_2 a1_3 a2_0 a2_1 a2_2 a2_3))))))))) = some r := H
      have A11 := Aside0.mk A110
      clear A110
      by_cases c12 : (t492 != t493) = true
      · rw [if_pos c12] at H
        have c12b0 : (t492 != t493) = true := c12
        (try (have c12b1 : decide (t492 = t493) = false := by simpa using c12))
        (try (have c12b2 : (t492 == t493) = false := by simpa using c12))
        (try (have c12b3 : ¬ (t492 = t493) := by simpa using c12))
        clear c12
        (first | rw [c12b0] | (simp only [i64_w, i32_w]; rw [c12b0]) | skip)
        have H' := Aside0.mk H
        clear H
        try go_wp2
        have n0_ := Aside0.mk (blk_drew BK488.out)
        have n1_ := Aside0.mk (blk_drew BK489.out)
        have n2_ := Aside0.mk (blk_drew BK490.out)
        have n3_ := Aside0.mk (below_drew1 HB.out)
        clear BK488
        clear BK489
        clear BK490
        clear HB
        have BK488 := n0_
        have BK489 := n1_
        have BK490 := n2_
        have HB := n3_
        clear n0_ n1_ n2_ n3_
        refine start_ (n := 39) (S := fun w' => w'.cell? ⟨gb488, 0, none⟩ = some (.int .u64 a0_0) ∧ w'.cell? ⟨gb488, 1, none⟩ = some (.int .i64 a0_1) ∧ w'.cell? ⟨gb488, 2, none⟩ = some (.int .u64 a0_2) ∧ w'.cell? ⟨gb488, 3, none⟩ = some (.int .i64 a0_3)) (ds := []) #[false, false, false, false, false, false, false, false, false, false, false, false, false, false, false, false, false, false, false, false, false, false, false, false, false, false, false, false, false, false, false, false, false, false, false, false, false, false, false] (by kernel_rfl) rfl rfl ⟨(blk_cell BK488.out 0).trans rfl, (blk_cell BK488.out 1).trans rfl, (blk_cell BK488.out 2).trans rfl, (blk_cell BK488.out 3).trans rfl⟩ (fun hHeld => ?_); refine with_tabW folkmootlaw05_LabelOrder.tab1 folkmootlaw05_LabelOrder.bits1 (fun HT_ HW_ => ?_)
        generalize w7.drew = w13 at BK488 BK489 BK490 HB hHeld ⊢
        refine one_ (i := 0) (N := some 7) #[true, false, false, false, false, false, false, false, false, false, false, false, false, false, false, false, false, false, false, false, false, false, false, false, false, false, false, false, false, false, false, false, false, false, false, false, false, false, false] rfl rfl (one_of HT_.out (by kernel_rfl)) (by decide) (fun K hK => ?_)
        refine goes_ Try.func33 (by kernel_rfl) rfl #[] (by rfl) rfl rfl (by (try simp only [List.map_toArray, List.map_cons, List.map_nil]); first | done | rfl | (simp only [List.length_drop, List.length_take]; rfl)) ?_
        with_reducible refine (folkmootlaw05_awake.calls  true _ A8.out).mono ?_
        rintro e w14 ⟨rfl, hb⟩
        refine ⟨_, rfl, ?_⟩
        have n0_ := Aside0.mk (blk_below (g := gb488) (o := .cells #[.int .u64 a0_0, .int .i64 a0_1, .int .u64 a0_2, .int .i64 a0_3] 27 (0, 0)) (by (with_reducible repeat (first | refine blk_drewN ?_ _ | refine blk_drew ?_ | refine blk_alloc ?_ _)); exact BK488.out) hb)
        have n1_ := Aside0.mk (blk_below (g := gb489) (o := .cells #[.int .u64 a1_0, .int .i64 a1_1, .int .u64 a1_2, .int .i64 a1_3] 27 (0, 0)) (by (with_reducible repeat (first | refine blk_drewN ?_ _ | refine blk_drew ?_ | refine blk_alloc ?_ _)); exact BK489.out) hb)
        have n2_ := Aside0.mk (blk_below (g := gb490) (o := .cells #[.int .u64 a2_0, .int .i64 a2_1, .int .u64 a2_2, .int .i64 a2_3] 27 (0, 0)) (by (with_reducible repeat (first | refine blk_drewN ?_ _ | refine blk_drew ?_ | refine blk_alloc ?_ _)); exact BK490.out) hb)
        have n3_ := Aside0.mk (below_step (by repeat (first | (with_reducible first | exact HB.out | apply below_alloc | apply pw_below_drewN | apply below_drew1 | refine below_set ?_ GE488.out | refine below_set ?_ GE489.out | refine below_set ?_ GE490.out) | exact HB.out)) hb)
        clear BK488
        clear BK489
        clear BK490
        clear HB
        have BK488 := n0_
        have BK489 := n1_
        have BK490 := n2_
        have HB := n3_
        clear n0_ n1_ n2_ n3_
        (try clear hb)
        (try clear hb2)
        (try clear hk)
        (try clear hi)
        refine hK.out _ _ ⟨(blk_cell BK488.out 0).trans rfl, (blk_cell BK488.out 1).trans rfl, (blk_cell BK488.out 2).trans rfl, (blk_cell BK488.out 3).trans rfl⟩ (fun hHeld => ?_)
        clear hK K
        refine norm_ (a' := ?_) ?_ ?_
        rotate_left
        · show Act.put _ (some 7) _ = _
          simp only [Act.put, List.setIfInBounds_toArray, List.set_cons_zero, List.set_cons_succ, i64_w, i32_w]
          rfl
        refine pure_ (i := 1) (N := some 8) (v := ?_) (a' := ?_) #[true, true, false, false, false, false, false, false, false, false, false, false, false, false, false, false, false, false, false, false, false, false, false, false, false, false, false, false, false, false, false, false, false, false, false, false, false, false, false] rfl rfl (any_of HT_.out (by kernel_rfl)) (fun _ _ _ h => h) (Or.inl ⟨by rfl, ?_⟩) ?_ ?_
        rotate_left
        · intro w'
          go_simp
          with_reducible rfl
        rotate_left
        · simp only [Act.put, List.setIfInBounds_toArray, List.set_cons_zero, List.set_cons_succ, i64_w, i32_w]
          rfl
        refine pure_ (i := 2) (N := some 9) (v := ?_) (a' := ?_) #[true, true, true, false, false, false, false, false, false, false, false, false, false, false, false, false, false, false, false, false, false, false, false, false, false, false, false, false, false, false, false, false, false, false, false, false, false, false, false] rfl rfl (any_of HT_.out (by kernel_rfl)) (fun _ _ _ h => h) (Or.inl ⟨by rfl, ?_⟩) ?_ ?_
        rotate_left
        · intro w'
          go_simp
          with_reducible rfl
        rotate_left
        · simp only [Act.put, List.setIfInBounds_toArray, List.set_cons_zero, List.set_cons_succ, i64_w, i32_w]
          rfl
        refine take_ (i := 3) (N := some 10) (v := ?_) (a' := ?_) #[true, true, true, true, false, false, false, false, false, false, false, false, false, false, false, false, false, false, false, false, false, false, false, false, false, false, false, false, false, false, false, false, false, false, false, false, false, false, false] rfl rfl (take_ofW HT_.out HW_.out (by kernel_rfl)) (fun _ _ _ h => h) (Or.inl ⟨by rfl, ?_⟩) hHeld ?_ ?_
        rotate_left
        · rintro w' ⟨s0, s1, s2, s3⟩
          go_simp
          with_reducible rfl
        rotate_left
        · simp only [Act.put, List.setIfInBounds_toArray, List.set_cons_zero, List.set_cons_succ, i64_w, i32_w]
          rfl
        refine take_ (i := 5) (N := some 12) (v := ?_) (a' := ?_) #[true, true, true, true, false, true, false, false, false, false, false, false, false, false, false, false, false, false, false, false, false, false, false, false, false, false, false, false, false, false, false, false, false, false, false, false, false, false, false] rfl rfl (take_ofW HT_.out HW_.out (by kernel_rfl)) (fun _ _ _ h => h) (Or.inl ⟨by rfl, ?_⟩) hHeld ?_ ?_
        rotate_left
        · rintro w' ⟨s0, s1, s2, s3⟩
          go_simp
          with_reducible rfl
        rotate_left
        · simp only [Act.put, List.setIfInBounds_toArray, List.set_cons_zero, List.set_cons_succ, i64_w, i32_w]
          rfl
        refine one_ (i := 4) (N := some 11) #[true, true, true, true, true, true, false, false, false, false, false, false, false, false, false, false, false, false, false, false, false, false, false, false, false, false, false, false, false, false, false, false, false, false, false, false, false, false, false] rfl rfl (one_of HT_.out (by kernel_rfl)) (by decide) (fun K hK => ?_)
        refine goes_ Try.func40 (by kernel_rfl) rfl #[.agg #[.int .u64 a0_0, .int .i64 a0_1, .int .u64 a0_2, .int .i64 a0_3]] (by rfl) rfl rfl (by (try simp only [List.map_toArray, List.map_cons, List.map_nil]); first | done | rfl | (simp only [List.length_drop, List.length_take]; rfl)) ?_
        with_reducible refine (label_Form.calls a0_0 a0_1 a0_2 a0_3 t492 _ A10.out).mono ?_
        rintro e w15 ⟨rfl, hb⟩
        refine ⟨_, rfl, ?_⟩
        have n0_ := Aside0.mk (blk_below (g := gb488) (o := .cells #[.int .u64 a0_0, .int .i64 a0_1, .int .u64 a0_2, .int .i64 a0_3] 27 (0, 0)) (by (with_reducible repeat (first | refine blk_drewN ?_ _ | refine blk_drew ?_ | refine blk_alloc ?_ _)); exact BK488.out) hb)
        have n1_ := Aside0.mk (blk_below (g := gb489) (o := .cells #[.int .u64 a1_0, .int .i64 a1_1, .int .u64 a1_2, .int .i64 a1_3] 27 (0, 0)) (by (with_reducible repeat (first | refine blk_drewN ?_ _ | refine blk_drew ?_ | refine blk_alloc ?_ _)); exact BK489.out) hb)
        have n2_ := Aside0.mk (blk_below (g := gb490) (o := .cells #[.int .u64 a2_0, .int .i64 a2_1, .int .u64 a2_2, .int .i64 a2_3] 27 (0, 0)) (by (with_reducible repeat (first | refine blk_drewN ?_ _ | refine blk_drew ?_ | refine blk_alloc ?_ _)); exact BK490.out) hb)
        have n3_ := Aside0.mk (below_step (by repeat (first | (with_reducible first | exact HB.out | apply below_alloc | apply pw_below_drewN | apply below_drew1 | refine below_set ?_ GE488.out | refine below_set ?_ GE489.out | refine below_set ?_ GE490.out) | exact HB.out)) hb)
        clear BK488
        clear BK489
        clear BK490
        clear HB
        have BK488 := n0_
        have BK489 := n1_
        have BK490 := n2_
        have HB := n3_
        clear n0_ n1_ n2_ n3_
        (try clear hb)
        (try clear hb2)
        (try clear hk)
        (try clear hi)
        refine hK.out _ _ ⟨(blk_cell BK488.out 0).trans rfl, (blk_cell BK488.out 1).trans rfl, (blk_cell BK488.out 2).trans rfl, (blk_cell BK488.out 3).trans rfl⟩ (fun hHeld => ?_)
        clear hK K
        refine norm_ (a' := ?_) ?_ ?_
        rotate_left
        · show Act.put _ (some 11) _ = _
          simp only [Act.put, List.setIfInBounds_toArray, List.set_cons_zero, List.set_cons_succ, i64_w, i32_w]
          rfl
        refine one_ (i := 6) (N := some 13) #[true, true, true, true, true, true, true, false, false, false, false, false, false, false, false, false, false, false, false, false, false, false, false, false, false, false, false, false, false, false, false, false, false, false, false, false, false, false, false] rfl rfl (one_of HT_.out (by kernel_rfl)) (by decide) (fun K hK => ?_)
        refine goes_ Try.func41 (by kernel_rfl) rfl #[.agg #[.int .u64 a0_0, .int .i64 a0_1, .int .u64 a0_2, .int .i64 a0_3]] (by rfl) rfl rfl (by (try simp only [List.map_toArray, List.map_cons, List.map_nil]); first | done | rfl | (simp only [List.length_drop, List.length_take]; rfl)) ?_
        with_reducible refine (folkmootref05_Form.calls a0_0 a0_1 a0_2 a0_3 t493 _ A11.out).mono ?_
        rintro e w16 ⟨rfl, hb⟩
        refine ⟨_, rfl, ?_⟩
        have n0_ := Aside0.mk (blk_below (g := gb488) (o := .cells #[.int .u64 a0_0, .int .i64 a0_1, .int .u64 a0_2, .int .i64 a0_3] 27 (0, 0)) (by (with_reducible repeat (first | refine blk_drewN ?_ _ | refine blk_drew ?_ | refine blk_alloc ?_ _)); exact BK488.out) hb)
        have n1_ := Aside0.mk (blk_below (g := gb489) (o := .cells #[.int .u64 a1_0, .int .i64 a1_1, .int .u64 a1_2, .int .i64 a1_3] 27 (0, 0)) (by (with_reducible repeat (first | refine blk_drewN ?_ _ | refine blk_drew ?_ | refine blk_alloc ?_ _)); exact BK489.out) hb)
        have n2_ := Aside0.mk (blk_below (g := gb490) (o := .cells #[.int .u64 a2_0, .int .i64 a2_1, .int .u64 a2_2, .int .i64 a2_3] 27 (0, 0)) (by (with_reducible repeat (first | refine blk_drewN ?_ _ | refine blk_drew ?_ | refine blk_alloc ?_ _)); exact BK490.out) hb)
        have n3_ := Aside0.mk (below_step (by repeat (first | (with_reducible first | exact HB.out | apply below_alloc | apply pw_below_drewN | apply below_drew1 | refine below_set ?_ GE488.out | refine below_set ?_ GE489.out | refine below_set ?_ GE490.out) | exact HB.out)) hb)
        clear BK488
        clear BK489
        clear BK490
        clear HB
        have BK488 := n0_
        have BK489 := n1_
        have BK490 := n2_
        have HB := n3_
        clear n0_ n1_ n2_ n3_
        (try clear hb)
        (try clear hb2)
        (try clear hk)
        (try clear hi)
        refine hK.out _ _ ⟨(blk_cell BK488.out 0).trans rfl, (blk_cell BK488.out 1).trans rfl, (blk_cell BK488.out 2).trans rfl, (blk_cell BK488.out 3).trans rfl⟩ (fun hHeld => ?_)
        clear hK K
        refine norm_ (a' := ?_) ?_ ?_
        rotate_left
        · show Act.put _ (some 13) _ = _
          simp only [Act.put, List.setIfInBounds_toArray, List.set_cons_zero, List.set_cons_succ, i64_w, i32_w]
          rfl
        refine pure_ (i := 7) (N := some 14) (v := ?_) (a' := ?_) #[true, true, true, true, true, true, true, true, false, false, false, false, false, false, false, false, false, false, false, false, false, false, false, false, false, false, false, false, false, false, false, false, false, false, false, false, false, false, false] rfl rfl (any_of HT_.out (by kernel_rfl)) (fun _ _ _ h => h) (Or.inl ⟨by rfl, ?_⟩) ?_ ?_
        rotate_left
        · intro w'
          go_simp
          with_reducible rfl
        rotate_left
        · simp only [Act.put, List.setIfInBounds_toArray, List.set_cons_zero, List.set_cons_succ, i64_w, i32_w]
          rfl
        refine pure_ (i := 8) (N := some 15) (v := ?_) (a' := ?_) #[true, true, true, true, true, true, true, true, true, false, false, false, false, false, false, false, false, false, false, false, false, false, false, false, false, false, false, false, false, false, false, false, false, false, false, false, false, false, false] rfl rfl (any_of HT_.out (by kernel_rfl)) (fun _ _ _ h => h) (Or.inl ⟨by rfl, ?_⟩) ?_ ?_
        rotate_left
        · intro w'
          go_simp
          with_reducible rfl
        rotate_left
        · simp only [Act.put, List.setIfInBounds_toArray, List.set_cons_zero, List.set_cons_succ, i64_w, i32_w]
          rfl
        refine pure_ (i := 9) (N := some 16) (v := ?_) (a' := ?_) #[true, true, true, true, true, true, true, true, true, true, false, false, false, false, false, false, false, false, false, false, false, false, false, false, false, false, false, false, false, false, false, false, false, false, false, false, false, false, false] rfl rfl (any_of HT_.out (by kernel_rfl)) (fun _ _ _ h => h) (Or.inl ⟨by rfl, ?_⟩) ?_ ?_
        rotate_left
        · intro w'
          go_simp
          with_reducible rfl
        rotate_left
        · simp only [Act.put, List.setIfInBounds_toArray, List.set_cons_zero, List.set_cons_succ, i64_w, i32_w]
          rfl
        refine pure_ (i := 10) (N := some 17) (v := undef) (a' := ?_) #[true, true, true, true, true, true, true, true, true, true, true, false, false, false, false, false, false, false, false, false, false, false, false, false, false, false, false, false, false, false, false, false, false, false, false, false, false, false, false] rfl rfl (any_of HT_.out (by kernel_rfl)) (fun _ _ _ h => h) (Or.inr ⟨by rfl, rfl⟩) ?_ ?_
        rotate_left
        · simp only [Act.put, List.setIfInBounds_toArray, List.set_cons_zero, List.set_cons_succ, i64_w, i32_w]
          rfl
        refine pure_ (i := 11) (N := some 18) (v := undef) (a' := ?_) #[true, true, true, true, true, true, true, true, true, true, true, true, false, false, false, false, false, false, false, false, false, false, false, false, false, false, false, false, false, false, false, false, false, false, false, false, false, false, false] rfl rfl (any_of HT_.out (by kernel_rfl)) (fun _ _ _ h => h) (Or.inr ⟨by rfl, rfl⟩) ?_ ?_
        rotate_left
        · simp only [Act.put, List.setIfInBounds_toArray, List.set_cons_zero, List.set_cons_succ, i64_w, i32_w]
          rfl
        refine pure_ (i := 12) (N := some 19) (v := undef) (a' := ?_) #[true, true, true, true, true, true, true, true, true, true, true, true, true, false, false, false, false, false, false, false, false, false, false, false, false, false, false, false, false, false, false, false, false, false, false, false, false, false, false] rfl rfl (any_of HT_.out (by kernel_rfl)) (fun _ _ _ h => h) (Or.inr ⟨by rfl, rfl⟩) ?_ ?_
        rotate_left
        · simp only [Act.put, List.setIfInBounds_toArray, List.set_cons_zero, List.set_cons_succ, i64_w, i32_w]
          rfl
        refine pure_ (i := 13) (N := some 20) (v := undef) (a' := ?_) #[true, true, true, true, true, true, true, true, true, true, true, true, true, true, false, false, false, false, false, false, false, false, false, false, false, false, false, false, false, false, false, false, false, false, false, false, false, false, false] rfl rfl (any_of HT_.out (by kernel_rfl)) (fun _ _ _ h => h) (Or.inr ⟨by rfl, rfl⟩) ?_ ?_
        rotate_left
        · simp only [Act.put, List.setIfInBounds_toArray, List.set_cons_zero, List.set_cons_succ, i64_w, i32_w]
          rfl
        refine pure_ (i := 14) (N := some 21) (v := undef) (a' := ?_) #[true, true, true, true, true, true, true, true, true, true, true, true, true, true, true, false, false, false, false, false, false, false, false, false, false, false, false, false, false, false, false, false, false, false, false, false, false, false, false] rfl rfl (any_of HT_.out (by kernel_rfl)) (fun _ _ _ h => h) (Or.inr ⟨by rfl, rfl⟩) ?_ ?_
        rotate_left
        · simp only [Act.put, List.setIfInBounds_toArray, List.set_cons_zero, List.set_cons_succ, i64_w, i32_w]
          rfl
        refine pure_ (i := 15) (N := some 22) (v := undef) (a' := ?_) #[true, true, true, true, true, true, true, true, true, true, true, true, true, true, true, true, false, false, false, false, false, false, false, false, false, false, false, false, false, false, false, false, false, false, false, false, false, false, false] rfl rfl (any_of HT_.out (by kernel_rfl)) (fun _ _ _ h => h) (Or.inr ⟨by rfl, rfl⟩) ?_ ?_
        rotate_left
        · simp only [Act.put, List.setIfInBounds_toArray, List.set_cons_zero, List.set_cons_succ, i64_w, i32_w]
          rfl
        refine pure_ (i := 16) (N := some 23) (v := undef) (a' := ?_) #[true, true, true, true, true, true, true, true, true, true, true, true, true, true, true, true, true, false, false, false, false, false, false, false, false, false, false, false, false, false, false, false, false, false, false, false, false, false, false] rfl rfl (any_of HT_.out (by kernel_rfl)) (fun _ _ _ h => h) (Or.inr ⟨by rfl, rfl⟩) ?_ ?_
        rotate_left
        · simp only [Act.put, List.setIfInBounds_toArray, List.set_cons_zero, List.set_cons_succ, i64_w, i32_w]
          rfl
        refine pure_ (i := 17) (N := some 24) (v := undef) (a' := ?_) #[true, true, true, true, true, true, true, true, true, true, true, true, true, true, true, true, true, true, false, false, false, false, false, false, false, false, false, false, false, false, false, false, false, false, false, false, false, false, false] rfl rfl (any_of HT_.out (by kernel_rfl)) (fun _ _ _ h => h) (Or.inr ⟨by rfl, rfl⟩) ?_ ?_
        rotate_left
        · simp only [Act.put, List.setIfInBounds_toArray, List.set_cons_zero, List.set_cons_succ, i64_w, i32_w]
          rfl
        refine pure_ (i := 18) (N := some 25) (v := ?_) (a' := ?_) #[true, true, true, true, true, true, true, true, true, true, true, true, true, true, true, true, true, true, true, false, false, false, false, false, false, false, false, false, false, false, false, false, false, false, false, false, false, false, false] rfl rfl (any_of HT_.out (by kernel_rfl)) (fun _ _ _ h => h) (Or.inl ⟨by rfl, ?_⟩) ?_ ?_
        rotate_left
        · intro w'
          go_simp
          with_reducible rfl
        rotate_left
        · simp only [Act.put, List.setIfInBounds_toArray, List.set_cons_zero, List.set_cons_succ, i64_w, i32_w]
          rfl
        refine pure_ (i := 19) (N := some 26) (v := ?_) (a' := ?_) #[true, true, true, true, true, true, true, true, true, true, true, true, true, true, true, true, true, true, true, true, false, false, false, false, false, false, false, false, false, false, false, false, false, false, false, false, false, false, false] rfl rfl (any_of HT_.out (by kernel_rfl)) (fun _ _ _ h => h) (Or.inl ⟨by rfl, ?_⟩) ?_ ?_
        rotate_left
        · intro w'
          go_simp
          with_reducible rfl
        rotate_left
        · simp only [Act.put, List.setIfInBounds_toArray, List.set_cons_zero, List.set_cons_succ, i64_w, i32_w]
          rfl
        refine pure_ (i := 20) (N := some 27) (v := undef) (a' := ?_) #[true, true, true, true, true, true, true, true, true, true, true, true, true, true, true, true, true, true, true, true, true, false, false, false, false, false, false, false, false, false, false, false, false, false, false, false, false, false, false] rfl rfl (any_of HT_.out (by kernel_rfl)) (fun _ _ _ h => h) (Or.inr ⟨by rfl, rfl⟩) ?_ ?_
        rotate_left
        · simp only [Act.put, List.setIfInBounds_toArray, List.set_cons_zero, List.set_cons_succ, i64_w, i32_w]
          rfl
        refine pure_ (i := 21) (N := some 28) (v := undef) (a' := ?_) #[true, true, true, true, true, true, true, true, true, true, true, true, true, true, true, true, true, true, true, true, true, true, false, false, false, false, false, false, false, false, false, false, false, false, false, false, false, false, false] rfl rfl (any_of HT_.out (by kernel_rfl)) (fun _ _ _ h => h) (Or.inr ⟨by rfl, rfl⟩) ?_ ?_
        rotate_left
        · simp only [Act.put, List.setIfInBounds_toArray, List.set_cons_zero, List.set_cons_succ, i64_w, i32_w]
          rfl
        refine pure_ (i := 22) (N := some 29) (v := undef) (a' := ?_) #[true, true, true, true, true, true, true, true, true, true, true, true, true, true, true, true, true, true, true, true, true, true, true, false, false, false, false, false, false, false, false, false, false, false, false, false, false, false, false] rfl rfl (any_of HT_.out (by kernel_rfl)) (fun _ _ _ h => h) (Or.inr ⟨by rfl, rfl⟩) ?_ ?_
        rotate_left
        · simp only [Act.put, List.setIfInBounds_toArray, List.set_cons_zero, List.set_cons_succ, i64_w, i32_w]
          rfl
        refine pure_ (i := 23) (N := some 30) (v := undef) (a' := ?_) #[true, true, true, true, true, true, true, true, true, true, true, true, true, true, true, true, true, true, true, true, true, true, true, true, false, false, false, false, false, false, false, false, false, false, false, false, false, false, false] rfl rfl (any_of HT_.out (by kernel_rfl)) (fun _ _ _ h => h) (Or.inr ⟨by rfl, rfl⟩) ?_ ?_
        rotate_left
        · simp only [Act.put, List.setIfInBounds_toArray, List.set_cons_zero, List.set_cons_succ, i64_w, i32_w]
          rfl
        refine pure_ (i := 24) (N := some 31) (v := undef) (a' := ?_) #[true, true, true, true, true, true, true, true, true, true, true, true, true, true, true, true, true, true, true, true, true, true, true, true, true, false, false, false, false, false, false, false, false, false, false, false, false, false, false] rfl rfl (any_of HT_.out (by kernel_rfl)) (fun _ _ _ h => h) (Or.inr ⟨by rfl, rfl⟩) ?_ ?_
        rotate_left
        · simp only [Act.put, List.setIfInBounds_toArray, List.set_cons_zero, List.set_cons_succ, i64_w, i32_w]
          rfl
        refine pure_ (i := 25) (N := some 32) (v := undef) (a' := ?_) #[true, true, true, true, true, true, true, true, true, true, true, true, true, true, true, true, true, true, true, true, true, true, true, true, true, true, false, false, false, false, false, false, false, false, false, false, false, false, false] rfl rfl (any_of HT_.out (by kernel_rfl)) (fun _ _ _ h => h) (Or.inr ⟨by rfl, rfl⟩) ?_ ?_
        rotate_left
        · simp only [Act.put, List.setIfInBounds_toArray, List.set_cons_zero, List.set_cons_succ, i64_w, i32_w]
          rfl
        refine pure_ (i := 26) (N := some 33) (v := undef) (a' := ?_) #[true, true, true, true, true, true, true, true, true, true, true, true, true, true, true, true, true, true, true, true, true, true, true, true, true, true, true, false, false, false, false, false, false, false, false, false, false, false, false] rfl rfl (any_of HT_.out (by kernel_rfl)) (fun _ _ _ h => h) (Or.inr ⟨by rfl, rfl⟩) ?_ ?_
        rotate_left
        · simp only [Act.put, List.setIfInBounds_toArray, List.set_cons_zero, List.set_cons_succ, i64_w, i32_w]
          rfl
        refine pure_ (i := 27) (N := some 34) (v := undef) (a' := ?_) #[true, true, true, true, true, true, true, true, true, true, true, true, true, true, true, true, true, true, true, true, true, true, true, true, true, true, true, true, false, false, false, false, false, false, false, false, false, false, false] rfl rfl (any_of HT_.out (by kernel_rfl)) (fun _ _ _ h => h) (Or.inr ⟨by rfl, rfl⟩) ?_ ?_
        rotate_left
        · simp only [Act.put, List.setIfInBounds_toArray, List.set_cons_zero, List.set_cons_succ, i64_w, i32_w]
          rfl
        refine pure_ (i := 28) (N := some 35) (v := ?_) (a' := ?_) #[true, true, true, true, true, true, true, true, true, true, true, true, true, true, true, true, true, true, true, true, true, true, true, true, true, true, true, true, true, false, false, false, false, false, false, false, false, false, false] rfl rfl (any_of HT_.out (by kernel_rfl)) (fun _ _ _ h => h) (Or.inl ⟨by rfl, ?_⟩) ?_ ?_
        rotate_left
        · intro w'
          go_simp
          with_reducible rfl
        rotate_left
        · simp only [Act.put, List.setIfInBounds_toArray, List.set_cons_zero, List.set_cons_succ, i64_w, i32_w]
          rfl
        refine pure_ (i := 29) (N := some 36) (v := ?_) (a' := ?_) #[true, true, true, true, true, true, true, true, true, true, true, true, true, true, true, true, true, true, true, true, true, true, true, true, true, true, true, true, true, true, false, false, false, false, false, false, false, false, false] rfl rfl (any_of HT_.out (by kernel_rfl)) (fun _ _ _ h => h) (Or.inl ⟨by rfl, ?_⟩) ?_ ?_
        rotate_left
        · intro w'
          go_simp
          with_reducible rfl
        rotate_left
        · simp only [Act.put, List.setIfInBounds_toArray, List.set_cons_zero, List.set_cons_succ, i64_w, i32_w]
          rfl
        refine pure_ (i := 30) (N := some 37) (v := undef) (a' := ?_) #[true, true, true, true, true, true, true, true, true, true, true, true, true, true, true, true, true, true, true, true, true, true, true, true, true, true, true, true, true, true, true, false, false, false, false, false, false, false, false] rfl rfl (any_of HT_.out (by kernel_rfl)) (fun _ _ _ h => h) (Or.inr ⟨by rfl, rfl⟩) ?_ ?_
        rotate_left
        · simp only [Act.put, List.setIfInBounds_toArray, List.set_cons_zero, List.set_cons_succ, i64_w, i32_w]
          rfl
        refine pure_ (i := 31) (N := some 38) (v := undef) (a' := ?_) #[true, true, true, true, true, true, true, true, true, true, true, true, true, true, true, true, true, true, true, true, true, true, true, true, true, true, true, true, true, true, true, true, false, false, false, false, false, false, false] rfl rfl (any_of HT_.out (by kernel_rfl)) (fun _ _ _ h => h) (Or.inr ⟨by rfl, rfl⟩) ?_ ?_
        rotate_left
        · simp only [Act.put, List.setIfInBounds_toArray, List.set_cons_zero, List.set_cons_succ, i64_w, i32_w]
          rfl
        refine pure_ (i := 32) (N := some 39) (v := undef) (a' := ?_) #[true, true, true, true, true, true, true, true, true, true, true, true, true, true, true, true, true, true, true, true, true, true, true, true, true, true, true, true, true, true, true, true, true, false, false, false, false, false, false] rfl rfl (any_of HT_.out (by kernel_rfl)) (fun _ _ _ h => h) (Or.inr ⟨by rfl, rfl⟩) ?_ ?_
        rotate_left
        · simp only [Act.put, List.setIfInBounds_toArray, List.set_cons_zero, List.set_cons_succ, i64_w, i32_w]
          rfl
        refine pure_ (i := 33) (N := some 40) (v := undef) (a' := ?_) #[true, true, true, true, true, true, true, true, true, true, true, true, true, true, true, true, true, true, true, true, true, true, true, true, true, true, true, true, true, true, true, true, true, true, false, false, false, false, false] rfl rfl (any_of HT_.out (by kernel_rfl)) (fun _ _ _ h => h) (Or.inr ⟨by rfl, rfl⟩) ?_ ?_
        rotate_left
        · simp only [Act.put, List.setIfInBounds_toArray, List.set_cons_zero, List.set_cons_succ, i64_w, i32_w]
          rfl
        refine pure_ (i := 34) (N := some 41) (v := undef) (a' := ?_) #[true, true, true, true, true, true, true, true, true, true, true, true, true, true, true, true, true, true, true, true, true, true, true, true, true, true, true, true, true, true, true, true, true, true, true, false, false, false, false] rfl rfl (any_of HT_.out (by kernel_rfl)) (fun _ _ _ h => h) (Or.inr ⟨by rfl, rfl⟩) ?_ ?_
        rotate_left
        · simp only [Act.put, List.setIfInBounds_toArray, List.set_cons_zero, List.set_cons_succ, i64_w, i32_w]
          rfl
        refine pure_ (i := 35) (N := some 42) (v := undef) (a' := ?_) #[true, true, true, true, true, true, true, true, true, true, true, true, true, true, true, true, true, true, true, true, true, true, true, true, true, true, true, true, true, true, true, true, true, true, true, true, false, false, false] rfl rfl (any_of HT_.out (by kernel_rfl)) (fun _ _ _ h => h) (Or.inr ⟨by rfl, rfl⟩) ?_ ?_
        rotate_left
        · simp only [Act.put, List.setIfInBounds_toArray, List.set_cons_zero, List.set_cons_succ, i64_w, i32_w]
          rfl
        refine pure_ (i := 36) (N := some 43) (v := undef) (a' := ?_) #[true, true, true, true, true, true, true, true, true, true, true, true, true, true, true, true, true, true, true, true, true, true, true, true, true, true, true, true, true, true, true, true, true, true, true, true, true, false, false] rfl rfl (any_of HT_.out (by kernel_rfl)) (fun _ _ _ h => h) (Or.inr ⟨by rfl, rfl⟩) ?_ ?_
        rotate_left
        · simp only [Act.put, List.setIfInBounds_toArray, List.set_cons_zero, List.set_cons_succ, i64_w, i32_w]
          rfl
        refine pure_ (i := 37) (N := some 44) (v := undef) (a' := ?_) #[true, true, true, true, true, true, true, true, true, true, true, true, true, true, true, true, true, true, true, true, true, true, true, true, true, true, true, true, true, true, true, true, true, true, true, true, true, true, false] rfl rfl (any_of HT_.out (by kernel_rfl)) (fun _ _ _ h => h) (Or.inr ⟨by rfl, rfl⟩) ?_ ?_
        rotate_left
        · simp only [Act.put, List.setIfInBounds_toArray, List.set_cons_zero, List.set_cons_succ, i64_w, i32_w]
          rfl
        refine pure_ (i := 38) (N := some 45) (v := ?_) (a' := ?_) #[true, true, true, true, true, true, true, true, true, true, true, true, true, true, true, true, true, true, true, true, true, true, true, true, true, true, true, true, true, true, true, true, true, true, true, true, true, true, true] rfl rfl (any_of HT_.out (by kernel_rfl)) (fun _ _ _ h => h) (Or.inl ⟨by rfl, ?_⟩) ?_ ?_
        rotate_left
        · intro w'
          go_simp
          with_reducible rfl
        rotate_left
        · simp only [Act.put, List.setIfInBounds_toArray, List.set_cons_zero, List.set_cons_succ, i64_w, i32_w]
          rfl
        refine done_ (done_of HT_.out (by kernel_rfl)) ?_
        (try clear hHeld); (try clear HS0_)
        try go_wp2
        go_meet
        case rel => exact ⟨_, (true), (by first | rfl | (simp; done) | (simp [*]; done)), H', ⟨by first | omega | exact Nat.le_refl _⟩, ⟨by (with_reducible repeat (first | refine blk_drewN ?_ _ | refine blk_drew ?_ | refine blk_alloc ?_ _)); exact BK488.out⟩, ⟨by (with_reducible repeat (first | refine blk_drewN ?_ _ | refine blk_drew ?_ | refine blk_alloc ?_ _)); exact BK489.out⟩, ⟨by (with_reducible repeat (first | refine blk_drewN ?_ _ | refine blk_drew ?_ | refine blk_alloc ?_ _)); exact BK490.out⟩, ⟨by repeat (first | (with_reducible first | exact HB.out | apply below_alloc | apply pw_below_drewN | apply below_drew1 | refine below_set ?_ GE488.out | refine below_set ?_ GE489.out | refine below_set ?_ GE490.out) | exact HB.out)⟩⟩
      · rw [if_neg c12] at H
        have c12b0 : (t492 != t493) = false := by simpa using c12
        (try (have c12b1 : decide (t492 = t493) = true := by simpa using c12))
        (try (have c12b2 : (t492 == t493) = true := by simpa using c12))
        clear c12
        (first | rw [c12b0] | (simp only [i64_w, i32_w]; rw [c12b0]) | skip)
        replace H := Option.bind_eq_some_iff.mp H
        obtain ⟨t494, A170, H⟩ := H
        replace H : ((folkmootref05_Less.f k a0_0 a0_1 a0_2 a0_3 a1_0 a1_1 a1_2 a1_3).bind fun t495 => (if ((decide (t494 < 0)) != t495) = true then (folkmootlaw05_LabelOrder.j0 k true a0_0 a0_1 a0_2 a0_3 a1_0 a1_1 a1_2 a1_3 a2_0 a2_1 a2_2 a2_3) else ((label_Compare.f k a0_0 a0_1 a0_2 a0_3 a1_0 a1_1 a1_2 a1_3).bind fun t496 => (if ((t496 == 0) != ((a0_0 == a1_0 && (a0_1 == a1_1)) && (a0_2 == a1_2 && (a0_3 == a1_3)))) = true then (folkmootlaw05_LabelOrder.j0 k true a0_0 a0_1 a0_2 a0_3 a1_0 a1_1 a1_2 a1_3 a2_0 a2_1 a2_2 a2_3) else ((label_Compare.f k a0_0 a0_1 a0_2 a0_3 a1_0 a1_1 a1_2 a1_3).bind fun t497 => ((label_Compare.f k a1_0 a1_1 a1_2 a1_3 a0_0 a0_1 a0_2 a0_3).bind fun t498 => (folkmootlaw05_LabelOrder.j0 k (t497 != (wrap64 (-t498))) a0_0 a0_1 a0_2 a0_3 a1_0 a1_1 a1_2 a1_3 a2_0 a2_1 a2_2 a2_3))))))) = some r := H
        have A17 := Aside0.mk A170
        clear A170
        replace H := Option.bind_eq_some_iff.mp H
        obtain ⟨t495, A180, H⟩ := H
        replace H : (if ((decide (t494 < 0)) != t495) = true then (folkmootlaw05_LabelOrder.j0 k true a0_0 a0_1 a0_2 a0_3 a1_0 a1_1 a1_2 a1_3 a2_0 a2_1 a2_2 a2_3) else ((label_Compare.f k a0_0 a0_1 a0_2 a0_3 a1_0 a1_1 a1_2 a1_3).bind fun t496 => (if ((t496 == 0) != ((a0_0 == a1_0 && (a0_1 == a1_1)) && (a0_2 == a1_2 && (a0_3 == a1_3)))) = true then (folkmootlaw05_LabelOrder.j0 k true a0_0 a0_1 a0_2 a0_3 a1_0 a1_1 a1_2 a1_3 a2_0 a2_1 a2_2 a2_3) else ((label_Compare.f k a0_0 a0_1 a0_2 a0_3 a1_0 a1_1 a1_2 a1_3).bind fun t497 => ((label_Compare.f k a1_0 a1_1 a1_2 a1_3 a0_0 a0_1 a0_2 a0_3).bind fun t498 => (folkmootlaw05_LabelOrder.j0 k (t497 != (wrap64 (-t498))) a0_0 a0_1 a0_2 a0_3 a1_0 a1_1 a1_2 a1_3 a2_0 a2_1 a2_2 a2_3)))))) = some r := H
        have A18 := Aside0.mk A180
        clear A180
        by_cases c19 : ((decide (t494 < 0)) != t495) = true
        · rw [if_pos c19] at H
          have c19b0 : ((decide (t494 < 0)) != t495) = true := c19
          (try (have c19b1 : decide ((decide (t494 < 0)) = t495) = false := by simpa using c19))
          (try (have c19b2 : ((decide (t494 < 0)) == t495) = false := by simpa using c19))
          (try (have c19b3 : ¬ ((decide (t494 < 0)) = t495) := by simpa using c19))
          clear c19
          have H' := Aside0.mk H
          clear H
          try go_wp2
          have n0_ := Aside0.mk (blk_drew BK488.out)
          have n1_ := Aside0.mk (blk_drew BK489.out)
          have n2_ := Aside0.mk (blk_drew BK490.out)
          have n3_ := Aside0.mk (below_drew1 HB.out)
          clear BK488
          clear BK489
          clear BK490
          clear HB
          have BK488 := n0_
          have BK489 := n1_
          have BK490 := n2_
          have HB := n3_
          clear n0_ n1_ n2_ n3_
          refine start_ (n := 39) (S := fun w' => w'.cell? ⟨gb488, 0, none⟩ = some (.int .u64 a0_0) ∧ w'.cell? ⟨gb488, 1, none⟩ = some (.int .i64 a0_1) ∧ w'.cell? ⟨gb488, 2, none⟩ = some (.int .u64 a0_2) ∧ w'.cell? ⟨gb488, 3, none⟩ = some (.int .i64 a0_3) ∧ w'.cell? ⟨gb489, 0, none⟩ = some (.int .u64 a1_0) ∧ w'.cell? ⟨gb489, 1, none⟩ = some (.int .i64 a1_1) ∧ w'.cell? ⟨gb489, 2, none⟩ = some (.int .u64 a1_2) ∧ w'.cell? ⟨gb489, 3, none⟩ = some (.int .i64 a1_3)) (ds := []) #[false, false, false, false, false, false, false, false, false, false, false, false, false, false, false, false, false, false, false, false, false, false, false, false, false, false, false, false, false, false, false, false, false, false, false, false, false, false, false] (by kernel_rfl) rfl rfl ⟨(blk_cell BK488.out 0).trans rfl, (blk_cell BK488.out 1).trans rfl, (blk_cell BK488.out 2).trans rfl, (blk_cell BK488.out 3).trans rfl, (blk_cell BK489.out 0).trans rfl, (blk_cell BK489.out 1).trans rfl, (blk_cell BK489.out 2).trans rfl, (blk_cell BK489.out 3).trans rfl⟩ (fun hHeld => ?_); refine with_tabW folkmootlaw05_LabelOrder.tab1 folkmootlaw05_LabelOrder.bits1 (fun HT_ HW_ => ?_)
          generalize w7.drew = w20 at BK488 BK489 BK490 HB hHeld ⊢
          refine one_ (i := 0) (N := some 7) #[true, false, false, false, false, false, false, false, false, false, false, false, false, false, false, false, false, false, false, false, false, false, false, false, false, false, false, false, false, false, false, false, false, false, false, false, false, false, false] rfl rfl (one_of HT_.out (by kernel_rfl)) (by decide) (fun K hK => ?_)
          refine goes_ Try.func33 (by kernel_rfl) rfl #[] (by rfl) rfl rfl (by (try simp only [List.map_toArray, List.map_cons, List.map_nil]); first | done | rfl | (simp only [List.length_drop, List.length_take]; rfl)) ?_
          with_reducible refine (folkmootlaw05_awake.calls  true _ A8.out).mono ?_
          rintro e w21 ⟨rfl, hb⟩
          refine ⟨_, rfl, ?_⟩
          have n0_ := Aside0.mk (blk_below (g := gb488) (o := .cells #[.int .u64 a0_0, .int .i64 a0_1, .int .u64 a0_2, .int .i64 a0_3] 27 (0, 0)) (by (with_reducible repeat (first | refine blk_drewN ?_ _ | refine blk_drew ?_ | refine blk_alloc ?_ _)); exact BK488.out) hb)
          have n1_ := Aside0.mk (blk_below (g := gb489) (o := .cells #[.int .u64 a1_0, .int .i64 a1_1, .int .u64 a1_2, .int .i64 a1_3] 27 (0, 0)) (by (with_reducible repeat (first | refine blk_drewN ?_ _ | refine blk_drew ?_ | refine blk_alloc ?_ _)); exact BK489.out) hb)
          have n2_ := Aside0.mk (blk_below (g := gb490) (o := .cells #[.int .u64 a2_0, .int .i64 a2_1, .int .u64 a2_2, .int .i64 a2_3] 27 (0, 0)) (by (with_reducible repeat (first | refine blk_drewN ?_ _ | refine blk_drew ?_ | refine blk_alloc ?_ _)); exact BK490.out) hb)
          have n3_ := Aside0.mk (below_step (by repeat (first | (with_reducible first | exact HB.out | apply below_alloc | apply pw_below_drewN | apply below_drew1 | refine below_set ?_ GE488.out | refine below_set ?_ GE489.out | refine below_set ?_ GE490.out) | exact HB.out)) hb)
          clear BK488
          clear BK489
          clear BK490
          clear HB
          have BK488 := n0_
          have BK489 := n1_
          have BK490 := n2_
          have HB := n3_
          clear n0_ n1_ n2_ n3_
          (try clear hb)
          (try clear hb2)
          (try clear hk)
          (try clear hi)
          refine hK.out _ _ ⟨(blk_cell BK488.out 0).trans rfl, (blk_cell BK488.out 1).trans rfl, (blk_cell BK488.out 2).trans rfl, (blk_cell BK488.out 3).trans rfl, (blk_cell BK489.out 0).trans rfl, (blk_cell BK489.out 1).trans rfl, (blk_cell BK489.out 2).trans rfl, (blk_cell BK489.out 3).trans rfl⟩ (fun hHeld => ?_)
          clear hK K
          refine norm_ (a' := ?_) ?_ ?_
          rotate_left
          · show Act.put _ (some 7) _ = _
            simp only [Act.put, List.setIfInBounds_toArray, List.set_cons_zero, List.set_cons_succ, i64_w, i32_w]
            rfl
          refine pure_ (i := 1) (N := some 8) (v := ?_) (a' := ?_) #[true, true, false, false, false, false, false, false, false, false, false, false, false, false, false, false, false, false, false, false, false, false, false, false, false, false, false, false, false, false, false, false, false, false, false, false, false, false, false] rfl rfl (any_of HT_.out (by kernel_rfl)) (fun _ _ _ h => h) (Or.inl ⟨by rfl, ?_⟩) ?_ ?_
          rotate_left
          · intro w'
            go_simp
            with_reducible rfl
          rotate_left
          · simp only [Act.put, List.setIfInBounds_toArray, List.set_cons_zero, List.set_cons_succ, i64_w, i32_w]
            rfl
          refine pure_ (i := 2) (N := some 9) (v := ?_) (a' := ?_) #[true, true, true, false, false, false, false, false, false, false, false, false, false, false, false, false, false, false, false, false, false, false, false, false, false, false, false, false, false, false, false, false, false, false, false, false, false, false, false] rfl rfl (any_of HT_.out (by kernel_rfl)) (fun _ _ _ h => h) (Or.inl ⟨by rfl, ?_⟩) ?_ ?_
          rotate_left
          · intro w'
            go_simp
            with_reducible rfl
          rotate_left
          · simp only [Act.put, List.setIfInBounds_toArray, List.set_cons_zero, List.set_cons_succ, i64_w, i32_w]
            rfl
          refine take_ (i := 3) (N := some 10) (v := ?_) (a' := ?_) #[true, true, true, true, false, false, false, false, false, false, false, false, false, false, false, false, false, false, false, false, false, false, false, false, false, false, false, false, false, false, false, false, false, false, false, false, false, false, false] rfl rfl (take_ofW HT_.out HW_.out (by kernel_rfl)) (fun _ _ _ h => h) (Or.inl ⟨by rfl, ?_⟩) hHeld ?_ ?_
          rotate_left
          · rintro w' ⟨s0, s1, s2, s3, s4, s5, s6, s7⟩
            go_simp
            with_reducible rfl
          rotate_left
          · simp only [Act.put, List.setIfInBounds_toArray, List.set_cons_zero, List.set_cons_succ, i64_w, i32_w]
            rfl
          refine take_ (i := 5) (N := some 12) (v := ?_) (a' := ?_) #[true, true, true, true, false, true, false, false, false, false, false, false, false, false, false, false, false, false, false, false, false, false, false, false, false, false, false, false, false, false, false, false, false, false, false, false, false, false, false] rfl rfl (take_ofW HT_.out HW_.out (by kernel_rfl)) (fun _ _ _ h => h) (Or.inl ⟨by rfl, ?_⟩) hHeld ?_ ?_
          rotate_left
          · rintro w' ⟨s0, s1, s2, s3, s4, s5, s6, s7⟩
            go_simp
            with_reducible rfl
          rotate_left
          · simp only [Act.put, List.setIfInBounds_toArray, List.set_cons_zero, List.set_cons_succ, i64_w, i32_w]
            rfl
          refine one_ (i := 4) (N := some 11) #[true, true, true, true, true, true, false, false, false, false, false, false, false, false, false, false, false, false, false, false, false, false, false, false, false, false, false, false, false, false, false, false, false, false, false, false, false, false, false] rfl rfl (one_of HT_.out (by kernel_rfl)) (by decide) (fun K hK => ?_)
          refine goes_ Try.func40 (by kernel_rfl) rfl #[.agg #[.int .u64 a0_0, .int .i64 a0_1, .int .u64 a0_2, .int .i64 a0_3]] (by rfl) rfl rfl (by (try simp only [List.map_toArray, List.map_cons, List.map_nil]); first | done | rfl | (simp only [List.length_drop, List.length_take]; rfl)) ?_
          with_reducible refine (label_Form.calls a0_0 a0_1 a0_2 a0_3 t492 _ A10.out).mono ?_
          rintro e w22 ⟨rfl, hb⟩
          refine ⟨_, rfl, ?_⟩
          have n0_ := Aside0.mk (blk_below (g := gb488) (o := .cells #[.int .u64 a0_0, .int .i64 a0_1, .int .u64 a0_2, .int .i64 a0_3] 27 (0, 0)) (by (with_reducible repeat (first | refine blk_drewN ?_ _ | refine blk_drew ?_ | refine blk_alloc ?_ _)); exact BK488.out) hb)
          have n1_ := Aside0.mk (blk_below (g := gb489) (o := .cells #[.int .u64 a1_0, .int .i64 a1_1, .int .u64 a1_2, .int .i64 a1_3] 27 (0, 0)) (by (with_reducible repeat (first | refine blk_drewN ?_ _ | refine blk_drew ?_ | refine blk_alloc ?_ _)); exact BK489.out) hb)
          have n2_ := Aside0.mk (blk_below (g := gb490) (o := .cells #[.int .u64 a2_0, .int .i64 a2_1, .int .u64 a2_2, .int .i64 a2_3] 27 (0, 0)) (by (with_reducible repeat (first | refine blk_drewN ?_ _ | refine blk_drew ?_ | refine blk_alloc ?_ _)); exact BK490.out) hb)
          have n3_ := Aside0.mk (below_step (by repeat (first | (with_reducible first | exact HB.out | apply below_alloc | apply pw_below_drewN | apply below_drew1 | refine below_set ?_ GE488.out | refine below_set ?_ GE489.out | refine below_set ?_ GE490.out) | exact HB.out)) hb)
          clear BK488
          clear BK489
          clear BK490
          clear HB
          have BK488 := n0_
          have BK489 := n1_
          have BK490 := n2_
          have HB := n3_
          clear n0_ n1_ n2_ n3_
          (try clear hb)
          (try clear hb2)
          (try clear hk)
          (try clear hi)
          refine hK.out _ _ ⟨(blk_cell BK488.out 0).trans rfl, (blk_cell BK488.out 1).trans rfl, (blk_cell BK488.out 2).trans rfl, (blk_cell BK488.out 3).trans rfl, (blk_cell BK489.out 0).trans rfl, (blk_cell BK489.out 1).trans rfl, (blk_cell BK489.out 2).trans rfl, (blk_cell BK489.out 3).trans rfl⟩ (fun hHeld => ?_)
          clear hK K
          refine norm_ (a' := ?_) ?_ ?_
          rotate_left
          · show Act.put _ (some 11) _ = _
            simp only [Act.put, List.setIfInBounds_toArray, List.set_cons_zero, List.set_cons_succ, i64_w, i32_w]
            rfl
          refine one_ (i := 6) (N := some 13) #[true, true, true, true, true, true, true, false, false, false, false, false, false, false, false, false, false, false, false, false, false, false, false, false, false, false, false, false, false, false, false, false, false, false, false, false, false, false, false] rfl rfl (one_of HT_.out (by kernel_rfl)) (by decide) (fun K hK => ?_)
          refine goes_ Try.func41 (by kernel_rfl) rfl #[.agg #[.int .u64 a0_0, .int .i64 a0_1, .int .u64 a0_2, .int .i64 a0_3]] (by rfl) rfl rfl (by (try simp only [List.map_toArray, List.map_cons, List.map_nil]); first | done | rfl | (simp only [List.length_drop, List.length_take]; rfl)) ?_
          with_reducible refine (folkmootref05_Form.calls a0_0 a0_1 a0_2 a0_3 t493 _ A11.out).mono ?_
          rintro e w23 ⟨rfl, hb⟩
          refine ⟨_, rfl, ?_⟩
          have n0_ := Aside0.mk (blk_below (g := gb488) (o := .cells #[.int .u64 a0_0, .int .i64 a0_1, .int .u64 a0_2, .int .i64 a0_3] 27 (0, 0)) (by (with_reducible repeat (first | refine blk_drewN ?_ _ | refine blk_drew ?_ | refine blk_alloc ?_ _)); exact BK488.out) hb)
          have n1_ := Aside0.mk (blk_below (g := gb489) (o := .cells #[.int .u64 a1_0, .int .i64 a1_1, .int .u64 a1_2, .int .i64 a1_3] 27 (0, 0)) (by (with_reducible repeat (first | refine blk_drewN ?_ _ | refine blk_drew ?_ | refine blk_alloc ?_ _)); exact BK489.out) hb)
          have n2_ := Aside0.mk (blk_below (g := gb490) (o := .cells #[.int .u64 a2_0, .int .i64 a2_1, .int .u64 a2_2, .int .i64 a2_3] 27 (0, 0)) (by (with_reducible repeat (first | refine blk_drewN ?_ _ | refine blk_drew ?_ | refine blk_alloc ?_ _)); exact BK490.out) hb)
          have n3_ := Aside0.mk (below_step (by repeat (first | (with_reducible first | exact HB.out | apply below_alloc | apply pw_below_drewN | apply below_drew1 | refine below_set ?_ GE488.out | refine below_set ?_ GE489.out | refine below_set ?_ GE490.out) | exact HB.out)) hb)
          clear BK488
          clear BK489
          clear BK490
          clear HB
          have BK488 := n0_
          have BK489 := n1_
          have BK490 := n2_
          have HB := n3_
          clear n0_ n1_ n2_ n3_
          (try clear hb)
          (try clear hb2)
          (try clear hk)
          (try clear hi)
          refine hK.out _ _ ⟨(blk_cell BK488.out 0).trans rfl, (blk_cell BK488.out 1).trans rfl, (blk_cell BK488.out 2).trans rfl, (blk_cell BK488.out 3).trans rfl, (blk_cell BK489.out 0).trans rfl, (blk_cell BK489.out 1).trans rfl, (blk_cell BK489.out 2).trans rfl, (blk_cell BK489.out 3).trans rfl⟩ (fun hHeld => ?_)
          clear hK K
          refine norm_ (a' := ?_) ?_ ?_
          rotate_left
          · show Act.put _ (some 13) _ = _
            simp only [Act.put, List.setIfInBounds_toArray, List.set_cons_zero, List.set_cons_succ, i64_w, i32_w]
            rfl
          refine pure_ (i := 7) (N := some 14) (v := ?_) (a' := ?_) #[true, true, true, true, true, true, true, true, false, false, false, false, false, false, false, false, false, false, false, false, false, false, false, false, false, false, false, false, false, false, false, false, false, false, false, false, false, false, false] rfl rfl (any_of HT_.out (by kernel_rfl)) (fun _ _ _ h => h) (Or.inl ⟨by rfl, ?_⟩) ?_ ?_
          rotate_left
          · intro w'
            go_simp
            with_reducible rfl
          rotate_left
          · simp only [Act.put, List.setIfInBounds_toArray, List.set_cons_zero, List.set_cons_succ, i64_w, i32_w]
            rfl
          refine pure_ (i := 8) (N := some 15) (v := ?_) (a' := ?_) #[true, true, true, true, true, true, true, true, true, false, false, false, false, false, false, false, false, false, false, false, false, false, false, false, false, false, false, false, false, false, false, false, false, false, false, false, false, false, false] rfl rfl (any_of HT_.out (by kernel_rfl)) (fun _ _ _ h => h) (Or.inl ⟨by rfl, ?_⟩) ?_ ?_
          rotate_left
          · intro w'
            go_simp
            with_reducible rfl
          rotate_left
          · simp only [Act.put, List.setIfInBounds_toArray, List.set_cons_zero, List.set_cons_succ, i64_w, i32_w]
            rfl
          refine pure_ (i := 9) (N := some 16) (v := ?_) (a' := ?_) #[true, true, true, true, true, true, true, true, true, true, false, false, false, false, false, false, false, false, false, false, false, false, false, false, false, false, false, false, false, false, false, false, false, false, false, false, false, false, false] rfl rfl (any_of HT_.out (by kernel_rfl)) (fun _ _ _ h => h) (Or.inl ⟨by rfl, ?_⟩) ?_ ?_
          rotate_left
          · intro w'
            go_simp
            with_reducible rfl
          rotate_left
          · simp only [Act.put, List.setIfInBounds_toArray, List.set_cons_zero, List.set_cons_succ, i64_w, i32_w]
            rfl
          refine take_ (i := 10) (N := some 17) (v := ?_) (a' := ?_) #[true, true, true, true, true, true, true, true, true, true, true, false, false, false, false, false, false, false, false, false, false, false, false, false, false, false, false, false, false, false, false, false, false, false, false, false, false, false, false] rfl rfl (take_ofW HT_.out HW_.out (by kernel_rfl)) (fun _ _ _ h => h) (Or.inl ⟨by rfl, ?_⟩) hHeld ?_ ?_
          rotate_left
          · rintro w' ⟨s0, s1, s2, s3, s4, s5, s6, s7⟩
            go_simp
            with_reducible rfl
          rotate_left
          · simp only [Act.put, List.setIfInBounds_toArray, List.set_cons_zero, List.set_cons_succ, i64_w, i32_w]
            rfl
          refine take_ (i := 11) (N := some 18) (v := ?_) (a' := ?_) #[true, true, true, true, true, true, true, true, true, true, true, true, false, false, false, false, false, false, false, false, false, false, false, false, false, false, false, false, false, false, false, false, false, false, false, false, false, false, false] rfl rfl (take_ofW HT_.out HW_.out (by kernel_rfl)) (fun _ _ _ h => h) (Or.inl ⟨by rfl, ?_⟩) hHeld ?_ ?_
          rotate_left
          · rintro w' ⟨s0, s1, s2, s3, s4, s5, s6, s7⟩
            go_simp
            with_reducible rfl
          rotate_left
          · simp only [Act.put, List.setIfInBounds_toArray, List.set_cons_zero, List.set_cons_succ, i64_w, i32_w]
            rfl
          refine take_ (i := 14) (N := some 21) (v := ?_) (a' := ?_) #[true, true, true, true, true, true, true, true, true, true, true, true, false, false, true, false, false, false, false, false, false, false, false, false, false, false, false, false, false, false, false, false, false, false, false, false, false, false, false] rfl rfl (take_ofW HT_.out HW_.out (by kernel_rfl)) (fun _ _ _ h => h) (Or.inl ⟨by rfl, ?_⟩) hHeld ?_ ?_
          rotate_left
          · rintro w' ⟨s0, s1, s2, s3, s4, s5, s6, s7⟩
            go_simp
            with_reducible rfl
          rotate_left
          · simp only [Act.put, List.setIfInBounds_toArray, List.set_cons_zero, List.set_cons_succ, i64_w, i32_w]
            rfl
          refine take_ (i := 15) (N := some 22) (v := ?_) (a' := ?_) #[true, true, true, true, true, true, true, true, true, true, true, true, false, false, true, true, false, false, false, false, false, false, false, false, false, false, false, false, false, false, false, false, false, false, false, false, false, false, false] rfl rfl (take_ofW HT_.out HW_.out (by kernel_rfl)) (fun _ _ _ h => h) (Or.inl ⟨by rfl, ?_⟩) hHeld ?_ ?_
          rotate_left
          · rintro w' ⟨s0, s1, s2, s3, s4, s5, s6, s7⟩
            go_simp
            with_reducible rfl
          rotate_left
          · simp only [Act.put, List.setIfInBounds_toArray, List.set_cons_zero, List.set_cons_succ, i64_w, i32_w]
            rfl
          refine one_ (i := 12) (N := some 19) #[true, true, true, true, true, true, true, true, true, true, true, true, true, false, true, true, false, false, false, false, false, false, false, false, false, false, false, false, false, false, false, false, false, false, false, false, false, false, false] rfl rfl (one_of HT_.out (by kernel_rfl)) (by decide) (fun K hK => ?_)
          refine goes_ Try.func42 (by kernel_rfl) rfl #[.agg #[.int .u64 a0_0, .int .i64 a0_1, .int .u64 a0_2, .int .i64 a0_3], .agg #[.int .u64 a1_0, .int .i64 a1_1, .int .u64 a1_2, .int .i64 a1_3]] (by rfl) rfl rfl (by (try simp only [List.map_toArray, List.map_cons, List.map_nil]); first | done | rfl | (simp only [List.length_drop, List.length_take]; rfl)) ?_
          with_reducible refine (label_Compare.calls k a0_0 a0_1 a0_2 a0_3 a1_0 a1_1 a1_2 a1_3 t494 _ A17.out).mono ?_
          rintro e w24 ⟨rfl, hb⟩
          refine ⟨_, rfl, ?_⟩
          have n0_ := Aside0.mk (blk_below (g := gb488) (o := .cells #[.int .u64 a0_0, .int .i64 a0_1, .int .u64 a0_2, .int .i64 a0_3] 27 (0, 0)) (by (with_reducible repeat (first | refine blk_drewN ?_ _ | refine blk_drew ?_ | refine blk_alloc ?_ _)); exact BK488.out) hb)
          have n1_ := Aside0.mk (blk_below (g := gb489) (o := .cells #[.int .u64 a1_0, .int .i64 a1_1, .int .u64 a1_2, .int .i64 a1_3] 27 (0, 0)) (by (with_reducible repeat (first | refine blk_drewN ?_ _ | refine blk_drew ?_ | refine blk_alloc ?_ _)); exact BK489.out) hb)
          have n2_ := Aside0.mk (blk_below (g := gb490) (o := .cells #[.int .u64 a2_0, .int .i64 a2_1, .int .u64 a2_2, .int .i64 a2_3] 27 (0, 0)) (by (with_reducible repeat (first | refine blk_drewN ?_ _ | refine blk_drew ?_ | refine blk_alloc ?_ _)); exact BK490.out) hb)
          have n3_ := Aside0.mk (below_step (by repeat (first | (with_reducible first | exact HB.out | apply below_alloc | apply pw_below_drewN | apply below_drew1 | refine below_set ?_ GE488.out | refine below_set ?_ GE489.out | refine below_set ?_ GE490.out) | exact HB.out)) hb)
          clear BK488
          clear BK489
          clear BK490
          clear HB
          have BK488 := n0_
          have BK489 := n1_
          have BK490 := n2_
          have HB := n3_
          clear n0_ n1_ n2_ n3_
          (try clear hb)
          (try clear hb2)
          (try clear hk)
          (try clear hi)
          refine hK.out _ _ ⟨(blk_cell BK488.out 0).trans rfl, (blk_cell BK488.out 1).trans rfl, (blk_cell BK488.out 2).trans rfl, (blk_cell BK488.out 3).trans rfl, (blk_cell BK489.out 0).trans rfl, (blk_cell BK489.out 1).trans rfl, (blk_cell BK489.out 2).trans rfl, (blk_cell BK489.out 3).trans rfl⟩ (fun hHeld => ?_)
          clear hK K
          refine norm_ (a' := ?_) ?_ ?_
          rotate_left
          · show Act.put _ (some 19) _ = _
            simp only [Act.put, List.setIfInBounds_toArray, List.set_cons_zero, List.set_cons_succ, i64_w, i32_w]
            rfl
          refine pure_ (i := 13) (N := some 20) (v := ?_) (a' := ?_) #[true, true, true, true, true, true, true, true, true, true, true, true, true, true, true, true, false, false, false, false, false, false, false, false, false, false, false, false, false, false, false, false, false, false, false, false, false, false, false] rfl rfl (any_of HT_.out (by kernel_rfl)) (fun _ _ _ h => h) (Or.inl ⟨by rfl, ?_⟩) ?_ ?_
          rotate_left
          · intro w'
            go_simp
            with_reducible rfl
          rotate_left
          · simp only [Act.put, List.setIfInBounds_toArray, List.set_cons_zero, List.set_cons_succ, i64_w, i32_w]
            rfl
          refine one_ (i := 16) (N := some 23) #[true, true, true, true, true, true, true, true, true, true, true, true, true, true, true, true, true, false, false, false, false, false, false, false, false, false, false, false, false, false, false, false, false, false, false, false, false, false, false] rfl rfl (one_of HT_.out (by kernel_rfl)) (by decide) (fun K hK => ?_)
          refine goes_ Try.func43 (by kernel_rfl) rfl #[.agg #[.int .u64 a0_0, .int .i64 a0_1, .int .u64 a0_2, .int .i64 a0_3], .agg #[.int .u64 a1_0, .int .i64 a1_1, .int .u64 a1_2, .int .i64 a1_3]] (by rfl) rfl rfl (by (try simp only [List.map_toArray, List.map_cons, List.map_nil]); first | done | rfl | (simp only [List.length_drop, List.length_take]; rfl)) ?_
          with_reducible refine (folkmootref05_Less.calls k a0_0 a0_1 a0_2 a0_3 a1_0 a1_1 a1_2 a1_3 t495 _ A18.out).mono ?_
          rintro e w25 ⟨rfl, hb⟩
          refine ⟨_, rfl, ?_⟩
          have n0_ := Aside0.mk (blk_below (g := gb488) (o := .cells #[.int .u64 a0_0, .int .i64 a0_1, .int .u64 a0_2, .int .i64 a0_3] 27 (0, 0)) (by (with_reducible repeat (first | refine blk_drewN ?_ _ | refine blk_drew ?_ | refine blk_alloc ?_ _)); exact BK488.out) hb)
          have n1_ := Aside0.mk (blk_below (g := gb489) (o := .cells #[.int .u64 a1_0, .int .i64 a1_1, .int .u64 a1_2, .int .i64 a1_3] 27 (0, 0)) (by (with_reducible repeat (first | refine blk_drewN ?_ _ | refine blk_drew ?_ | refine blk_alloc ?_ _)); exact BK489.out) hb)
          have n2_ := Aside0.mk (blk_below (g := gb490) (o := .cells #[.int .u64 a2_0, .int .i64 a2_1, .int .u64 a2_2, .int .i64 a2_3] 27 (0, 0)) (by (with_reducible repeat (first | refine blk_drewN ?_ _ | refine blk_drew ?_ | refine blk_alloc ?_ _)); exact BK490.out) hb)
          have n3_ := Aside0.mk (below_step (by repeat (first | (with_reducible first | exact HB.out | apply below_alloc | apply pw_below_drewN | apply below_drew1 | refine below_set ?_ GE488.out | refine below_set ?_ GE489.out | refine below_set ?_ GE490.out) | exact HB.out)) hb)
          clear BK488
          clear BK489
          clear BK490
          clear HB
          have BK488 := n0_
          have BK489 := n1_
          have BK490 := n2_
          have HB := n3_
          clear n0_ n1_ n2_ n3_
          (try clear hb)
          (try clear hb2)
          (try clear hk)
          (try clear hi)
          refine hK.out _ _ ⟨(blk_cell BK488.out 0).trans rfl, (blk_cell BK488.out 1).trans rfl, (blk_cell BK488.out 2).trans rfl, (blk_cell BK488.out 3).trans rfl, (blk_cell BK489.out 0).trans rfl, (blk_cell BK489.out 1).trans rfl, (blk_cell BK489.out 2).trans rfl, (blk_cell BK489.out 3).trans rfl⟩ (fun hHeld => ?_)
          clear hK K
          refine norm_ (a' := ?_) ?_ ?_
          rotate_left
          · show Act.put _ (some 23) _ = _
            simp only [Act.put, List.setIfInBounds_toArray, List.set_cons_zero, List.set_cons_succ, i64_w, i32_w]
            rfl
          refine pure_ (i := 17) (N := some 24) (v := ?_) (a' := ?_) #[true, true, true, true, true, true, true, true, true, true, true, true, true, true, true, true, true, true, false, false, false, false, false, false, false, false, false, false, false, false, false, false, false, false, false, false, false, false, false] rfl rfl (any_of HT_.out (by kernel_rfl)) (fun _ _ _ h => h) (Or.inl ⟨by rfl, ?_⟩) ?_ ?_
          rotate_left
          · intro w'
            go_simp
            with_reducible rfl
          rotate_left
          · simp only [Act.put, List.setIfInBounds_toArray, List.set_cons_zero, List.set_cons_succ, i64_w, i32_w]
            rfl
          refine pure_ (i := 18) (N := some 25) (v := ?_) (a' := ?_) #[true, true, true, true, true, true, true, true, true, true, true, true, true, true, true, true, true, true, true, false, false, false, false, false, false, false, false, false, false, false, false, false, false, false, false, false, false, false, false] rfl rfl (any_of HT_.out (by kernel_rfl)) (fun _ _ _ h => h) (Or.inl ⟨by rfl, ?_⟩) ?_ ?_
          rotate_left
          · intro w'
            go_simp
            with_reducible rfl
          rotate_left
          · simp only [Act.put, List.setIfInBounds_toArray, List.set_cons_zero, List.set_cons_succ, i64_w, i32_w]
            rfl
          refine pure_ (i := 19) (N := some 26) (v := ?_) (a' := ?_) #[true, true, true, true, true, true, true, true, true, true, true, true, true, true, true, true, true, true, true, true, false, false, false, false, false, false, false, false, false, false, false, false, false, false, false, false, false, false, false] rfl rfl (any_of HT_.out (by kernel_rfl)) (fun _ _ _ h => h) (Or.inl ⟨by rfl, ?_⟩) ?_ ?_
          rotate_left
          · intro w'
            go_simp
            with_reducible rfl
          rotate_left
          · simp only [Act.put, List.setIfInBounds_toArray, List.set_cons_zero, List.set_cons_succ, i64_w, i32_w]
            rfl
          refine pure_ (i := 20) (N := some 27) (v := undef) (a' := ?_) #[true, true, true, true, true, true, true, true, true, true, true, true, true, true, true, true, true, true, true, true, true, false, false, false, false, false, false, false, false, false, false, false, false, false, false, false, false, false, false] rfl rfl (any_of HT_.out (by kernel_rfl)) (fun _ _ _ h => h) (Or.inr ⟨by rfl, rfl⟩) ?_ ?_
          rotate_left
          · simp only [Act.put, List.setIfInBounds_toArray, List.set_cons_zero, List.set_cons_succ, i64_w, i32_w]
            rfl
          refine pure_ (i := 21) (N := some 28) (v := undef) (a' := ?_) #[true, true, true, true, true, true, true, true, true, true, true, true, true, true, true, true, true, true, true, true, true, true, false, false, false, false, false, false, false, false, false, false, false, false, false, false, false, false, false] rfl rfl (any_of HT_.out (by kernel_rfl)) (fun _ _ _ h => h) (Or.inr ⟨by rfl, rfl⟩) ?_ ?_
          rotate_left
          · simp only [Act.put, List.setIfInBounds_toArray, List.set_cons_zero, List.set_cons_succ, i64_w, i32_w]
            rfl
          refine pure_ (i := 22) (N := some 29) (v := undef) (a' := ?_) #[true, true, true, true, true, true, true, true, true, true, true, true, true, true, true, true, true, true, true, true, true, true, true, false, false, false, false, false, false, false, false, false, false, false, false, false, false, false, false] rfl rfl (any_of HT_.out (by kernel_rfl)) (fun _ _ _ h => h) (Or.inr ⟨by rfl, rfl⟩) ?_ ?_
          rotate_left
          · simp only [Act.put, List.setIfInBounds_toArray, List.set_cons_zero, List.set_cons_succ, i64_w, i32_w]
            rfl
          refine pure_ (i := 23) (N := some 30) (v := undef) (a' := ?_) #[true, true, true, true, true, true, true, true, true, true, true, true, true, true, true, true, true, true, true, true, true, true, true, true, false, false, false, false, false, false, false, false, false, false, false, false, false, false, false] rfl rfl (any_of HT_.out (by kernel_rfl)) (fun _ _ _ h => h) (Or.inr ⟨by rfl, rfl⟩) ?_ ?_
          rotate_left
          · simp only [Act.put, List.setIfInBounds_toArray, List.set_cons_zero, List.set_cons_succ, i64_w, i32_w]
            rfl
          refine pure_ (i := 24) (N := some 31) (v := undef) (a' := ?_) #[true, true, true, true, true, true, true, true, true, true, true, true, true, true, true, true, true, true, true, true, true, true, true, true, true, false, false, false, false, false, false, false, false, false, false, false, false, false, false] rfl rfl (any_of HT_.out (by kernel_rfl)) (fun _ _ _ h => h) (Or.inr ⟨by rfl, rfl⟩) ?_ ?_
          rotate_left
          · simp only [Act.put, List.setIfInBounds_toArray, List.set_cons_zero, List.set_cons_succ, i64_w, i32_w]
            rfl
          refine pure_ (i := 25) (N := some 32) (v := undef) (a' := ?_) #[true, true, true, true, true, true, true, true, true, true, true, true, true, true, true, true, true, true, true, true, true, true, true, true, true, true, false, false, false, false, false, false, false, false, false, false, false, false, false] rfl rfl (any_of HT_.out (by kernel_rfl)) (fun _ _ _ h => h) (Or.inr ⟨by rfl, rfl⟩) ?_ ?_
          rotate_left
          · simp only [Act.put, List.setIfInBounds_toArray, List.set_cons_zero, List.set_cons_succ, i64_w, i32_w]
            rfl
          refine pure_ (i := 26) (N := some 33) (v := undef) (a' := ?_) #[true, true, true, true, true, true, true, true, true, true, true, true, true, true, true, true, true, true, true, true, true, true, true, true, true, true, true, false, false, false, false, false, false, false, false, false, false, false, false] rfl rfl (any_of HT_.out (by kernel_rfl)) (fun _ _ _ h => h) (Or.inr ⟨by rfl, rfl⟩) ?_ ?_
          rotate_left
          · simp only [Act.put, List.setIfInBounds_toArray, List.set_cons_zero, List.set_cons_succ, i64_w, i32_w]
            rfl
          refine pure_ (i := 27) (N := some 34) (v := undef) (a' := ?_) #[true, true, true, true, true, true, true, true, true, true, true, true, true, true, true, true, true, true, true, true, true, true, true, true, true, true, true, true, false, false, false, false, false, false, false, false, false, false, false] rfl rfl (any_of HT_.out (by kernel_rfl)) (fun _ _ _ h => h) (Or.inr ⟨by rfl, rfl⟩) ?_ ?_
          rotate_left
          · simp only [Act.put, List.setIfInBounds_toArray, List.set_cons_zero, List.set_cons_succ, i64_w, i32_w]
            rfl
          refine pure_ (i := 28) (N := some 35) (v := ?_) (a' := ?_) #[true, true, true, true, true, true, true, true, true, true, true, true, true, true, true, true, true, true, true, true, true, true, true, true, true, true, true, true, true, false, false, false, false, false, false, false, false, false, false] rfl rfl (any_of HT_.out (by kernel_rfl)) (fun _ _ _ h => h) (Or.inl ⟨by rfl, ?_⟩) ?_ ?_
          rotate_left
          · intro w'
            go_simp
            with_reducible rfl
          rotate_left
          · simp only [Act.put, List.setIfInBounds_toArray, List.set_cons_zero, List.set_cons_succ, i64_w, i32_w]
            rfl
          refine pure_ (i := 29) (N := some 36) (v := ?_) (a' := ?_) #[true, true, true, true, true, true, true, true, true, true, true, true, true, true, true, true, true, true, true, true, true, true, true, true, true, true, true, true, true, true, false, false, false, false, false, false, false, false, false] rfl rfl (any_of HT_.out (by kernel_rfl)) (fun _ _ _ h => h) (Or.inl ⟨by rfl, ?_⟩) ?_ ?_
          rotate_left
          · intro w'
            go_simp
            with_reducible rfl
          rotate_left
          · simp only [Act.put, List.setIfInBounds_toArray, List.set_cons_zero, List.set_cons_succ, i64_w, i32_w]
            rfl
          refine pure_ (i := 30) (N := some 37) (v := undef) (a' := ?_) #[true, true, true, true, true, true, true, true, true, true, true, true, true, true, true, true, true, true, true, true, true, true, true, true, true, true, true, true, true, true, true, false, false, false, false, false, false, false, false] rfl rfl (any_of HT_.out (by kernel_rfl)) (fun _ _ _ h => h) (Or.inr ⟨by rfl, rfl⟩) ?_ ?_
          rotate_left
          · simp only [Act.put, List.setIfInBounds_toArray, List.set_cons_zero, List.set_cons_succ, i64_w, i32_w]
            rfl
          refine pure_ (i := 31) (N := some 38) (v := undef) (a' := ?_) #[true, true, true, true, true, true, true, true, true, true, true, true, true, true, true, true, true, true, true, true, true, true, true, true, true, true, true, true, true, true, true, true, false, false, false, false, false, false, false] rfl rfl (any_of HT_.out (by kernel_rfl)) (fun _ _ _ h => h) (Or.inr ⟨by rfl, rfl⟩) ?_ ?_
          rotate_left
          · simp only [Act.put, List.setIfInBounds_toArray, List.set_cons_zero, List.set_cons_succ, i64_w, i32_w]
            rfl
          refine pure_ (i := 32) (N := some 39) (v := undef) (a' := ?_) #[true, true, true, true, true, true, true, true, true, true, true, true, true, true, true, true, true, true, true, true, true, true, true, true, true, true, true, true, true, true, true, true, true, false, false, false, false, false, false] rfl rfl (any_of HT_.out (by kernel_rfl)) (fun _ _ _ h => h) (Or.inr ⟨by rfl, rfl⟩) ?_ ?_
          rotate_left
          · simp only [Act.put, List.setIfInBounds_toArray, List.set_cons_zero, List.set_cons_succ, i64_w, i32_w]
            rfl
          refine pure_ (i := 33) (N := some 40) (v := undef) (a' := ?_) #[true, true, true, true, true, true, true, true, true, true, true, true, true, true, true, true, true, true, true, true, true, true, true, true, true, true, true, true, true, true, true, true, true, true, false, false, false, false, false] rfl rfl (any_of HT_.out (by kernel_rfl)) (fun _ _ _ h => h) (Or.inr ⟨by rfl, rfl⟩) ?_ ?_
          rotate_left
          · simp only [Act.put, List.setIfInBounds_toArray, List.set_cons_zero, List.set_cons_succ, i64_w, i32_w]
            rfl
          refine pure_ (i := 34) (N := some 41) (v := undef) (a' := ?_) #[true, true, true, true, true, true, true, true, true, true, true, true, true, true, true, true, true, true, true, true, true, true, true, true, true, true, true, true, true, true, true, true, true, true, true, false, false, false, false] rfl rfl (any_of HT_.out (by kernel_rfl)) (fun _ _ _ h => h) (Or.inr ⟨by rfl, rfl⟩) ?_ ?_
          rotate_left
          · simp only [Act.put, List.setIfInBounds_toArray, List.set_cons_zero, List.set_cons_succ, i64_w, i32_w]
            rfl
          refine pure_ (i := 35) (N := some 42) (v := undef) (a' := ?_) #[true, true, true, true, true, true, true, true, true, true, true, true, true, true, true, true, true, true, true, true, true, true, true, true, true, true, true, true, true, true, true, true, true, true, true, true, false, false, false] rfl rfl (any_of HT_.out (by kernel_rfl)) (fun _ _ _ h => h) (Or.inr ⟨by rfl, rfl⟩) ?_ ?_
          rotate_left
          · simp only [Act.put, List.setIfInBounds_toArray, List.set_cons_zero, List.set_cons_succ, i64_w, i32_w]
            rfl
          refine pure_ (i := 36) (N := some 43) (v := undef) (a' := ?_) #[true, true, true, true, true, true, true, true, true, true, true, true, true, true, true, true, true, true, true, true, true, true, true, true, true, true, true, true, true, true, true, true, true, true, true, true, true, false, false] rfl rfl (any_of HT_.out (by kernel_rfl)) (fun _ _ _ h => h) (Or.inr ⟨by rfl, rfl⟩) ?_ ?_
          rotate_left
          · simp only [Act.put, List.setIfInBounds_toArray, List.set_cons_zero, List.set_cons_succ, i64_w, i32_w]
            rfl
          refine pure_ (i := 37) (N := some 44) (v := undef) (a' := ?_) #[true, true, true, true, true, true, true, true, true, true, true, true, true, true, true, true, true, true, true, true, true, true, true, true, true, true, true, true, true, true, true, true, true, true, true, true, true, true, false] rfl rfl (any_of HT_.out (by kernel_rfl)) (fun _ _ _ h => h) (Or.inr ⟨by rfl, rfl⟩) ?_ ?_
          rotate_left
          · simp only [Act.put, List.setIfInBounds_toArray, List.set_cons_zero, List.set_cons_succ, i64_w, i32_w]
            rfl
          refine pure_ (i := 38) (N := some 45) (v := ?_) (a' := ?_) #[true, true, true, true, true, true, true, true, true, true, true, true, true, true, true, true, true, true, true, true, true, true, true, true, true, true, true, true, true, true, true, true, true, true, true, true, true, true, true] rfl rfl (any_of HT_.out (by kernel_rfl)) (fun _ _ _ h => h) (Or.inl ⟨by rfl, ?_⟩) ?_ ?_
          rotate_left
          · intro w'
            go_simp
            with_reducible rfl
          rotate_left
          · simp only [Act.put, List.setIfInBounds_toArray, List.set_cons_zero, List.set_cons_succ, i64_w, i32_w]
            rfl
          refine done_ (done_of HT_.out (by kernel_rfl)) ?_
          (try clear hHeld); (try clear HS0_)
          try go_wp2
          go_meet
          case rel => exact ⟨_, (true), (by first | rfl | (simp; done) | (simp [*]; done)), H', ⟨by first | omega | exact Nat.le_refl _⟩, ⟨by (with_reducible repeat (first | refine blk_drewN ?_ _ | refine blk_drew ?_ | refine blk_alloc ?_ _)); exact BK488.out⟩, ⟨by (with_reducible repeat (first | refine blk_drewN ?_ _ | refine blk_drew ?_ | refine blk_alloc ?_ _)); exact BK489.out⟩, ⟨by (with_reducible repeat (first | refine blk_drewN ?_ _ | refine blk_drew ?_ | refine blk_alloc ?_ _)); exact BK490.out⟩, ⟨by repeat (first | (with_reducible first | exact HB.out | apply below_alloc | apply pw_below_drewN | apply below_drew1 | refine below_set ?_ GE488.out | refine below_set ?_ GE489.out | refine below_set ?_ GE490.out) | exact HB.out)⟩⟩
        · rw [if_neg c19] at H
          have c19b0 : ((decide (t494 < 0)) != t495) = false := by simpa using c19
          (try (have c19b1 : decide ((decide (t494 < 0)) = t495) = true := by simpa using c19))
          (try (have c19b2 : ((decide (t494 < 0)) == t495) = true := by simpa using c19))
          clear c19
          replace H := Option.bind_eq_some_iff.mp H
          obtain ⟨t496, A260, H⟩ := H
          replace H : (if ((t496 == 0) != ((a0_0 == a1_0 && (a0_1 == a1_1)) && (a0_2 == a1_2 && (a0_3 == a1_3)))) = true then (folkmootlaw05_LabelOrder.j0 k true a0_0 a0_1 a0_2 a0_3 a1_0 a1_1 a1_2 a1_3 a2_0 a2_1 a2_2 a2_3) else ((label_Compare.f k a0_0 a0_1 a0_2 a0_3 a1_0 a1_1 a1_2 a1_3).bind fun t497 => ((label_Compare.f k a1_0 a1_1 a1_2 a1_3 a0_0 a0_1 a0_2 a0_3).bind fun t498 => (folkmootlaw05_LabelOrder.j0 k (t497 != (wrap64 (-t498))) a0_0 a0_1 a0_2 a0_3 a1_0 a1_1 a1_2 a1_3 a2_0 a2_1 a2_2 a2_3)))) = some r := H
          have A26 := Aside0.mk A260
          clear A260
          by_cases c27 : ((t496 == 0) != ((a0_0 == a1_0 && (a0_1 == a1_1)) && (a0_2 == a1_2 && (a0_3 == a1_3)))) = true
          · rw [if_pos c27] at H
            have c27b0 : ((t496 == 0) != ((a0_0 == a1_0 && (a0_1 == a1_1)) && (a0_2 == a1_2 && (a0_3 == a1_3)))) = true := c27
            (try (have c27b1 : decide ((t496 == 0) = ((a0_0 == a1_0 && (a0_1 == a1_1)) && (a0_2 == a1_2 && (a0_3 == a1_3)))) = false := by simpa using c27))
            (try (have c27b2 : ((t496 == 0) == ((a0_0 == a1_0 && (a0_1 == a1_1)) && (a0_2 == a1_2 && (a0_3 == a1_3)))) = false := by simpa using c27))
            (try (have c27b3 : ¬ ((t496 == 0) = ((a0_0 == a1_0 && (a0_1 == a1_1)) && (a0_2 == a1_2 && (a0_3 == a1_3)))) := by simpa using c27))
            clear c27
            have H' := Aside0.mk H
            clear H
            try go_wp2
            have n0_ := Aside0.mk (blk_drew BK488.out)
            have n1_ := Aside0.mk (blk_drew BK489.out)
            have n2_ := Aside0.mk (blk_drew BK490.out)
            have n3_ := Aside0.mk (below_drew1 HB.out)
            clear BK488
            clear BK489
            clear BK490
            clear HB
            have BK488 := n0_
            have BK489 := n1_
            have BK490 := n2_
            have HB := n3_
            clear n0_ n1_ n2_ n3_
            refine start_ (n := 39) (S := fun w' => w'.cell? ⟨gb488, 0, none⟩ = some (.int .u64 a0_0) ∧ w'.cell? ⟨gb488, 1, none⟩ = some (.int .i64 a0_1) ∧ w'.cell? ⟨gb488, 2, none⟩ = some (.int .u64 a0_2) ∧ w'.cell? ⟨gb488, 3, none⟩ = some (.int .i64 a0_3) ∧ w'.cell? ⟨gb489, 0, none⟩ = some (.int .u64 a1_0) ∧ w'.cell? ⟨gb489, 1, none⟩ = some (.int .i64 a1_1) ∧ w'.cell? ⟨gb489, 2, none⟩ = some (.int .u64 a1_2) ∧ w'.cell? ⟨gb489, 3, none⟩ = some (.int .i64 a1_3)) (ds := []) #[false, false, false, false, false, false, false, false, false, false, false, false, false, false, false, false, false, false, false, false, false, false, false, false, false, false, false, false, false, false, false, false, false, false, false, false, false, false, false] (by kernel_rfl) rfl rfl ⟨(blk_cell BK488.out 0).trans rfl, (blk_cell BK488.out 1).trans rfl, (blk_cell BK488.out 2).trans rfl, (blk_cell BK488.out 3).trans rfl, (blk_cell BK489.out 0).trans rfl, (blk_cell BK489.out 1).trans rfl, (blk_cell BK489.out 2).trans rfl, (blk_cell BK489.out 3).trans rfl⟩ (fun hHeld => ?_); refine with_tabW folkmootlaw05_LabelOrder.tab1 folkmootlaw05_LabelOrder.bits1 (fun HT_ HW_ => ?_)
            generalize w7.drew = w28 at BK488 BK489 BK490 HB hHeld ⊢
            refine one_ (i := 0) (N := some 7) #[true, false, false, false, false, false, false, false, false, false, false, false, false, false, false, false, false, false, false, false, false, false, false, false, false, false, false, false, false, false, false, false, false, false, false, false, false, false, false] rfl rfl (one_of HT_.out (by kernel_rfl)) (by decide) (fun K hK => ?_)
            refine goes_ Try.func33 (by kernel_rfl) rfl #[] (by rfl) rfl rfl (by (try simp only [List.map_toArray, List.map_cons, List.map_nil]); first | done | rfl | (simp only [List.length_drop, List.length_take]; rfl)) ?_
            with_reducible refine (folkmootlaw05_awake.calls  true _ A8.out).mono ?_
            rintro e w29 ⟨rfl, hb⟩
            refine ⟨_, rfl, ?_⟩
            have n0_ := Aside0.mk (blk_below (g := gb488) (o := .cells #[.int .u64 a0_0, .int .i64 a0_1, .int .u64 a0_2, .int .i64 a0_3] 27 (0, 0)) (by (with_reducible repeat (first | refine blk_drewN ?_ _ | refine blk_drew ?_ | refine blk_alloc ?_ _)); exact BK488.out) hb)
            have n1_ := Aside0.mk (blk_below (g := gb489) (o := .cells #[.int .u64 a1_0, .int .i64 a1_1, .int .u64 a1_2, .int .i64 a1_3] 27 (0, 0)) (by (with_reducible repeat (first | refine blk_drewN ?_ _ | refine blk_drew ?_ | refine blk_alloc ?_ _)); exact BK489.out) hb)
            have n2_ := Aside0.mk (blk_below (g := gb490) (o := .cells #[.int .u64 a2_0, .int .i64 a2_1, .int .u64 a2_2, .int .i64 a2_3] 27 (0, 0)) (by (with_reducible repeat (first | refine blk_drewN ?_ _ | refine blk_drew ?_ | refine blk_alloc ?_ _)); exact BK490.out) hb)
            have n3_ := Aside0.mk (below_step (by repeat (first | (with_reducible first | exact HB.out | apply below_alloc | apply pw_below_drewN | apply below_drew1 | refine below_set ?_ GE488.out | refine below_set ?_ GE489.out | refine below_set ?_ GE490.out) | exact HB.out)) hb)
            clear BK488
            clear BK489
            clear BK490
            clear HB
            have BK488 := n0_
            have BK489 := n1_
            have BK490 := n2_
            have HB := n3_
            clear n0_ n1_ n2_ n3_
            (try clear hb)
            (try clear hb2)
            (try clear hk)
            (try clear hi)
            refine hK.out _ _ ⟨(blk_cell BK488.out 0).trans rfl, (blk_cell BK488.out 1).trans rfl, (blk_cell BK488.out 2).trans rfl, (blk_cell BK488.out 3).trans rfl, (blk_cell BK489.out 0).trans rfl, (blk_cell BK489.out 1).trans rfl, (blk_cell BK489.out 2).trans rfl, (blk_cell BK489.out 3).trans rfl⟩ (fun hHeld => ?_)
            clear hK K
            refine norm_ (a' := ?_) ?_ ?_
            rotate_left
            · show Act.put _ (some 7) _ = _
              simp only [Act.put, List.setIfInBounds_toArray, List.set_cons_zero, List.set_cons_succ, i64_w, i32_w]
              rfl
            refine pure_ (i := 1) (N := some 8) (v := ?_) (a' := ?_) #[true, true, false, false, false, false, false, false, false, false, false, false, false, false, false, false, false, false, false, false, false, false, false, false, false, false, false, false, false, false, false, false, false, false, false, false, false, false, false] rfl rfl (any_of HT_.out (by kernel_rfl)) (fun _ _ _ h => h) (Or.inl ⟨by rfl, ?_⟩) ?_ ?_
            rotate_left
            · intro w'
              go_simp
              with_reducible rfl
            rotate_left
            · simp only [Act.put, List.setIfInBounds_toArray, List.set_cons_zero, List.set_cons_succ, i64_w, i32_w]
              rfl
            refine pure_ (i := 2) (N := some 9) (v := ?_) (a' := ?_) #[true, true, true, false, false, false, false, false, false, false, false, false, false, false, false, false, false, false, false, false, false, false, false, false, false, false, false, false, false, false, false, false, false, false, false, false, false, false, false] rfl rfl (any_of HT_.out (by kernel_rfl)) (fun _ _ _ h => h) (Or.inl ⟨by rfl, ?_⟩) ?_ ?_
            rotate_left
            · intro w'
              go_simp
              with_reducible rfl
            rotate_left
            · simp only [Act.put, List.setIfInBounds_toArray, List.set_cons_zero, List.set_cons_succ, i64_w, i32_w]
              rfl
            refine take_ (i := 3) (N := some 10) (v := ?_) (a' := ?_) #[true, true, true, true, false, false, false, false, false, false, false, false, false, false, false, false, false, false, false, false, false, false, false, false, false, false, false, false, false, false, false, false, false, false, false, false, false, false, false] rfl rfl (take_ofW HT_.out HW_.out (by kernel_rfl)) (fun _ _ _ h => h) (Or.inl ⟨by rfl, ?_⟩) hHeld ?_ ?_
            rotate_left
            · rintro w' ⟨s0, s1, s2, s3, s4, s5, s6, s7⟩
              go_simp
              with_reducible rfl
            rotate_left
            · simp only [Act.put, List.setIfInBounds_toArray, List.set_cons_zero, List.set_cons_succ, i64_w, i32_w]
              rfl
            refine take_ (i := 5) (N := some 12) (v := ?_) (a' := ?_) #[true, true, true, true, false, true, false, false, false, false, false, false, false, false, false, false, false, false, false, false, false, false, false, false, false, false, false, false, false, false, false, false, false, false, false, false, false, false, false] rfl rfl (take_ofW HT_.out HW_.out (by kernel_rfl)) (fun _ _ _ h => h) (Or.inl ⟨by rfl, ?_⟩) hHeld ?_ ?_
            rotate_left
            · rintro w' ⟨s0, s1, s2, s3, s4, s5, s6, s7⟩
              go_simp
              with_reducible rfl
            rotate_left
            · simp only [Act.put, List.setIfInBounds_toArray, List.set_cons_zero, List.set_cons_succ, i64_w, i32_w]
              rfl
            refine one_ (i := 4) (N := some 11) #[true, true, true, true, true, true, false, false, false, false, false, false, false, false, false, false, false, false, false, false, false, false, false, false, false, false, false, false, false, false, false, false, false, false, false, false, false, false, false] rfl rfl (one_of HT_.out (by kernel_rfl)) (by decide) (fun K hK => ?_)
            refine goes_ Try.func40 (by kernel_rfl) rfl #[.agg #[.int .u64 a0_0, .int .i64 a0_1, .int .u64 a0_2, .int .i64 a0_3]] (by rfl) rfl rfl (by (try simp only [List.map_toArray, List.map_cons, List.map_nil]); first | done | rfl | (simp only [List.length_drop, List.length_take]; rfl)) ?_
            with_reducible refine (label_Form.calls a0_0 a0_1 a0_2 a0_3 t492 _ A10.out).mono ?_
            rintro e w30 ⟨rfl, hb⟩
            refine ⟨_, rfl, ?_⟩
            have n0_ := Aside0.mk (blk_below (g := gb488) (o := .cells #[.int .u64 a0_0, .int .i64 a0_1, .int .u64 a0_2, .int .i64 a0_3] 27 (0, 0)) (by (with_reducible repeat (first | refine blk_drewN ?_ _ | refine blk_drew ?_ | refine blk_alloc ?_ _)); exact BK488.out) hb)
            have n1_ := Aside0.mk (blk_below (g := gb489) (o := .cells #[.int .u64 a1_0, .int .i64 a1_1, .int .u64 a1_2, .int .i64 a1_3] 27 (0, 0)) (by (with_reducible repeat (first | refine blk_drewN ?_ _ | refine blk_drew ?_ | refine blk_alloc ?_ _)); exact BK489.out) hb)
            have n2_ := Aside0.mk (blk_below (g := gb490) (o := .cells #[.int .u64 a2_0, .int .i64 a2_1, .int .u64 a2_2, .int .i64 a2_3] 27 (0, 0)) (by (with_reducible repeat (first | refine blk_drewN ?_ _ | refine blk_drew ?_ | refine blk_alloc ?_ _)); exact BK490.out) hb)
            have n3_ := Aside0.mk (below_step (by repeat (first | (with_reducible first | exact HB.out | apply below_alloc | apply pw_below_drewN | apply below_drew1 | refine below_set ?_ GE488.out | refine below_set ?_ GE489.out | refine below_set ?_ GE490.out) | exact HB.out)) hb)
            clear BK488
            clear BK489
            clear BK490
            clear HB
            have BK488 := n0_
            have BK489 := n1_
            have BK490 := n2_
            have HB := n3_
            clear n0_ n1_ n2_ n3_
            (try clear hb)
            (try clear hb2)
            (try clear hk)
            (try clear hi)
            refine hK.out _ _ ⟨(blk_cell BK488.out 0).trans rfl, (blk_cell BK488.out 1).trans rfl, (blk_cell BK488.out 2).trans rfl, (blk_cell BK488.out 3).trans rfl, (blk_cell BK489.out 0).trans rfl, (blk_cell BK489.out 1).trans rfl, (blk_cell BK489.out 2).trans rfl, (blk_cell BK489.out 3).trans rfl⟩ (fun hHeld => ?_)
            clear hK K
            refine norm_ (a' := ?_) ?_ ?_
            rotate_left
            · show Act.put _ (some 11) _ = _
              simp only [Act.put, List.setIfInBounds_toArray, List.set_cons_zero, List.set_cons_succ, i64_w, i32_w]
              rfl
            refine one_ (i := 6) (N := some 13) #[true, true, true, true, true, true, true, false, false, false, false, false, false, false, false, false, false, false, false, false, false, false, false, false, false, false, false, false, false, false, false, false, false, false, false, false, false, false, false] rfl rfl (one_of HT_.out (by kernel_rfl)) (by decide) (fun K hK => ?_)
            refine goes_ Try.func41 (by kernel_rfl) rfl #[.agg #[.int .u64 a0_0, .int .i64 a0_1, .int .u64 a0_2, .int .i64 a0_3]] (by rfl) rfl rfl (by (try simp only [List.map_toArray, List.map_cons, List.map_nil]); first | done | rfl | (simp only [List.length_drop, List.length_take]; rfl)) ?_
            with_reducible refine (folkmootref05_Form.calls a0_0 a0_1 a0_2 a0_3 t493 _ A11.out).mono ?_
            rintro e w31 ⟨rfl, hb⟩
            refine ⟨_, rfl, ?_⟩
            have n0_ := Aside0.mk (blk_below (g := gb488) (o := .cells #[.int .u64 a0_0, .int .i64 a0_1, .int .u64 a0_2, .int .i64 a0_3] 27 (0, 0)) (by (with_reducible repeat (first | refine blk_drewN ?_ _ | refine blk_drew ?_ | refine blk_alloc ?_ _)); exact BK488.out) hb)
            have n1_ := Aside0.mk (blk_below (g := gb489) (o := .cells #[.int .u64 a1_0, .int .i64 a1_1, .int .u64 a1_2, .int .i64 a1_3] 27 (0, 0)) (by (with_reducible repeat (first | refine blk_drewN ?_ _ | refine blk_drew ?_ | refine blk_alloc ?_ _)); exact BK489.out) hb)
            have n2_ := Aside0.mk (blk_below (g := gb490) (o := .cells #[.int .u64 a2_0, .int .i64 a2_1, .int .u64 a2_2, .int .i64 a2_3] 27 (0, 0)) (by (with_reducible repeat (first | refine blk_drewN ?_ _ | refine blk_drew ?_ | refine blk_alloc ?_ _)); exact BK490.out) hb)
            have n3_ := Aside0.mk (below_step (by repeat (first | (with_reducible first | exact HB.out | apply below_alloc | apply pw_below_drewN | apply below_drew1 | refine below_set ?_ GE488.out | refine below_set ?_ GE489.out | refine below_set ?_ GE490.out) | exact HB.out)) hb)
            clear BK488
            clear BK489
            clear BK490
            clear HB
            have BK488 := n0_
            have BK489 := n1_
            have BK490 := n2_
            have HB := n3_
            clear n0_ n1_ n2_ n3_
            (try clear hb)
            (try clear hb2)
            (try clear hk)
            (try clear hi)
            refine hK.out _ _ ⟨(blk_cell BK488.out 0).trans rfl, (blk_cell BK488.out 1).trans rfl, (blk_cell BK488.out 2).trans rfl, (blk_cell BK488.out 3).trans rfl, (blk_cell BK489.out 0).trans rfl, (blk_cell BK489.out 1).trans rfl, (blk_cell BK489.out 2).trans rfl, (blk_cell BK489.out 3).trans rfl⟩ (fun hHeld => ?_)
            clear hK K
            refine norm_ (a' := ?_) ?_ ?_
            rotate_left
            · show Act.put _ (some 13) _ = _
              simp only [Act.put, List.setIfInBounds_toArray, List.set_cons_zero, List.set_cons_succ, i64_w, i32_w]
              rfl
            refine pure_ (i := 7) (N := some 14) (v := ?_) (a' := ?_) #[true, true, true, true, true, true, true, true, false, false, false, false, false, false, false, false, false, false, false, false, false, false, false, false, false, false, false, false, false, false, false, false, false, false, false, false, false, false, false] rfl rfl (any_of HT_.out (by kernel_rfl)) (fun _ _ _ h => h) (Or.inl ⟨by rfl, ?_⟩) ?_ ?_
            rotate_left
            · intro w'
              go_simp
              with_reducible rfl
            rotate_left
            · simp only [Act.put, List.setIfInBounds_toArray, List.set_cons_zero, List.set_cons_succ, i64_w, i32_w]
              rfl
            refine pure_ (i := 8) (N := some 15) (v := ?_) (a' := ?_) #[true, true, true, true, true, true, true, true, true, false, false, false, false, false, false, false, false, false, false, false, false, false, false, false, false, false, false, false, false, false, false, false, false, false, false, false, false, false, false] rfl rfl (any_of HT_.out (by kernel_rfl)) (fun _ _ _ h => h) (Or.inl ⟨by rfl, ?_⟩) ?_ ?_
            rotate_left
            · intro w'
              go_simp
              with_reducible rfl
            rotate_left
            · simp only [Act.put, List.setIfInBounds_toArray, List.set_cons_zero, List.set_cons_succ, i64_w, i32_w]
              rfl
            refine pure_ (i := 9) (N := some 16) (v := ?_) (a' := ?_) #[true, true, true, true, true, true, true, true, true, true, false, false, false, false, false, false, false, false, false, false, false, false, false, false, false, false, false, false, false, false, false, false, false, false, false, false, false, false, false] rfl rfl (any_of HT_.out (by kernel_rfl)) (fun _ _ _ h => h) (Or.inl ⟨by rfl, ?_⟩) ?_ ?_
            rotate_left
            · intro w'
              go_simp
              with_reducible rfl
            rotate_left
            · simp only [Act.put, List.setIfInBounds_toArray, List.set_cons_zero, List.set_cons_succ, i64_w, i32_w]
              rfl
            refine take_ (i := 10) (N := some 17) (v := ?_) (a' := ?_) #[true, true, true, true, true, true, true, true, true, true, true, false, false, false, false, false, false, false, false, false, false, false, false, false, false, false, false, false, false, false, false, false, false, false, false, false, false, false, false] rfl rfl (take_ofW HT_.out HW_.out (by kernel_rfl)) (fun _ _ _ h => h) (Or.inl ⟨by rfl, ?_⟩) hHeld ?_ ?_
            rotate_left
            · rintro w' ⟨s0, s1, s2, s3, s4, s5, s6, s7⟩
              go_simp
              with_reducible rfl
            rotate_left
            · simp only [Act.put, List.setIfInBounds_toArray, List.set_cons_zero, List.set_cons_succ, i64_w, i32_w]
              rfl
            refine take_ (i := 11) (N := some 18) (v := ?_) (a' := ?_) #[true, true, true, true, true, true, true, true, true, true, true, true, false, false, false, false, false, false, false, false, false, false, false, false, false, false, false, false, false, false, false, false, false, false, false, false, false, false, false] rfl rfl (take_ofW HT_.out HW_.out (by kernel_rfl)) (fun _ _ _ h => h) (Or.inl ⟨by rfl, ?_⟩) hHeld ?_ ?_
            rotate_left
            · rintro w' ⟨s0, s1, s2, s3, s4, s5, s6, s7⟩
              go_simp
              with_reducible rfl
            rotate_left
            · simp only [Act.put, List.setIfInBounds_toArray, List.set_cons_zero, List.set_cons_succ, i64_w, i32_w]
              rfl
            refine take_ (i := 14) (N := some 21) (v := ?_) (a' := ?_) #[true, true, true, true, true, true, true, true, true, true, true, true, false, false, true, false, false, false, false, false, false, false, false, false, false, false, false, false, false, false, false, false, false, false, false, false, false, false, false] rfl rfl (take_ofW HT_.out HW_.out (by kernel_rfl)) (fun _ _ _ h => h) (Or.inl ⟨by rfl, ?_⟩) hHeld ?_ ?_
            rotate_left
            · rintro w' ⟨s0, s1, s2, s3, s4, s5, s6, s7⟩
              go_simp
              with_reducible rfl
            rotate_left
            · simp only [Act.put, List.setIfInBounds_toArray, List.set_cons_zero, List.set_cons_succ, i64_w, i32_w]
              rfl
            refine take_ (i := 15) (N := some 22) (v := ?_) (a' := ?_) #[true, true, true, true, true, true, true, true, true, true, true, true, false, false, true, true, false, false, false, false, false, false, false, false, false, false, false, false, false, false, false, false, false, false, false, false, false, false, false] rfl rfl (take_ofW HT_.out HW_.out (by kernel_rfl)) (fun _ _ _ h => h) (Or.inl ⟨by rfl, ?_⟩) hHeld ?_ ?_
            rotate_left
            · rintro w' ⟨s0, s1, s2, s3, s4, s5, s6, s7⟩
              go_simp
              with_reducible rfl
            rotate_left
            · simp only [Act.put, List.setIfInBounds_toArray, List.set_cons_zero, List.set_cons_succ, i64_w, i32_w]
              rfl
            refine one_ (i := 12) (N := some 19) #[true, true, true, true, true, true, true, true, true, true, true, true, true, false, true, true, false, false, false, false, false, false, false, false, false, false, false, false, false, false, false, false, false, false, false, false, false, false, false] rfl rfl (one_of HT_.out (by kernel_rfl)) (by decide) (fun K hK => ?_)
            refine goes_ Try.func42 (by kernel_rfl) rfl #[.agg #[.int .u64 a0_0, .int .i64 a0_1, .int .u64 a0_2, .int .i64 a0_3], .agg #[.int .u64 a1_0, .int .i64 a1_1, .int .u64 a1_2, .int .i64 a1_3]] (by rfl) rfl rfl (by (try simp only [List.map_toArray, List.map_cons, List.map_nil]); first | done | rfl | (simp only [List.length_drop, List.length_take]; rfl)) ?_
            with_reducible refine (label_Compare.calls k a0_0 a0_1 a0_2 a0_3 a1_0 a1_1 a1_2 a1_3 t494 _ A17.out).mono ?_
            rintro e w32 ⟨rfl, hb⟩
            refine ⟨_, rfl, ?_⟩
            have n0_ := Aside0.mk (blk_below (g := gb488) (o := .cells #[.int .u64 a0_0, .int .i64 a0_1, .int .u64 a0_2, .int .i64 a0_3] 27 (0, 0)) (by (with_reducible repeat (first | refine blk_drewN ?_ _ | refine blk_drew ?_ | refine blk_alloc ?_ _)); exact BK488.out) hb)
            have n1_ := Aside0.mk (blk_below (g := gb489) (o := .cells #[.int .u64 a1_0, .int .i64 a1_1, .int .u64 a1_2, .int .i64 a1_3] 27 (0, 0)) (by (with_reducible repeat (first | refine blk_drewN ?_ _ | refine blk_drew ?_ | refine blk_alloc ?_ _)); exact BK489.out) hb)
            have n2_ := Aside0.mk (blk_below (g := gb490) (o := .cells #[.int .u64 a2_0, .int .i64 a2_1, .int .u64 a2_2, .int .i64 a2_3] 27 (0, 0)) (by (with_reducible repeat (first | refine blk_drewN ?_ _ | refine blk_drew ?_ | refine blk_alloc ?_ _)); exact BK490.out) hb)
            have n3_ := Aside0.mk (below_step (by repeat (first | (with_reducible first | exact HB.out | apply below_alloc | apply pw_below_drewN | apply below_drew1 | refine below_set ?_ GE488.out | refine below_set ?_ GE489.out | refine below_set ?_ GE490.out) | exact HB.out)) hb)
            clear BK488
            clear BK489
            clear BK490
            clear HB
            have BK488 := n0_
            have BK489 := n1_
            have BK490 := n2_
            have HB := n3_
            clear n0_ n1_ n2_ n3_
            (try clear hb)
            (try clear hb2)
            (try clear hk)
            (try clear hi)
            refine hK.out _ _ ⟨(blk_cell BK488.out 0).trans rfl, (blk_cell BK488.out 1).trans rfl, (blk_cell BK488.out 2).trans rfl, (blk_cell BK488.out 3).trans rfl, (blk_cell BK489.out 0).trans rfl, (blk_cell BK489.out 1).trans rfl, (blk_cell BK489.out 2).trans rfl, (blk_cell BK489.out 3).trans rfl⟩ (fun hHeld => ?_)
            clear hK K
            refine norm_ (a' := ?_) ?_ ?_
            rotate_left
            · show Act.put _ (some 19) _ = _
              simp only [Act.put, List.setIfInBounds_toArray, List.set_cons_zero, List.set_cons_succ, i64_w, i32_w]
              rfl
            refine pure_ (i := 13) (N := some 20) (v := ?_) (a' := ?_) #[true, true, true, true, true, true, true, true, true, true, true, true, true, true, true, true, false, false, false, false, false, false, false, false, false, false, false, false, false, false, false, false, false, false, false, false, false, false, false] rfl rfl (any_of HT_.out (by kernel_rfl)) (fun _ _ _ h => h) (Or.inl ⟨by rfl, ?_⟩) ?_ ?_
            rotate_left
            · intro w'
              go_simp
              with_reducible rfl
            rotate_left
            · simp only [Act.put, List.setIfInBounds_toArray, List.set_cons_zero, List.set_cons_succ, i64_w, i32_w]
              rfl
            refine one_ (i := 16) (N := some 23) #[true, true, true, true, true, true, true, true, true, true, true, true, true, true, true, true, true, false, false, false, false, false, false, false, false, false, false, false, false, false, false, false, false, false, false, false, false, false, false] rfl rfl (one_of HT_.out (by kernel_rfl)) (by decide) (fun K hK => ?_)
            refine goes_ Try.func43 (by kernel_rfl) rfl #[.agg #[.int .u64 a0_0, .int .i64 a0_1, .int .u64 a0_2, .int .i64 a0_3], .agg #[.int .u64 a1_0, .int .i64 a1_1, .int .u64 a1_2, .int .i64 a1_3]] (by rfl) rfl rfl (by (try simp only [List.map_toArray, List.map_cons, List.map_nil]); first | done | rfl | (simp only [List.length_drop, List.length_take]; rfl)) ?_
            with_reducible refine (folkmootref05_Less.calls k a0_0 a0_1 a0_2 a0_3 a1_0 a1_1 a1_2 a1_3 t495 _ A18.out).mono ?_
            rintro e w33 ⟨rfl, hb⟩
            refine ⟨_, rfl, ?_⟩
            have n0_ := Aside0.mk (blk_below (g := gb488) (o := .cells #[.int .u64 a0_0, .int .i64 a0_1, .int .u64 a0_2, .int .i64 a0_3] 27 (0, 0)) (by (with_reducible repeat (first | refine blk_drewN ?_ _ | refine blk_drew ?_ | refine blk_alloc ?_ _)); exact BK488.out) hb)
            have n1_ := Aside0.mk (blk_below (g := gb489) (o := .cells #[.int .u64 a1_0, .int .i64 a1_1, .int .u64 a1_2, .int .i64 a1_3] 27 (0, 0)) (by (with_reducible repeat (first | refine blk_drewN ?_ _ | refine blk_drew ?_ | refine blk_alloc ?_ _)); exact BK489.out) hb)
            have n2_ := Aside0.mk (blk_below (g := gb490) (o := .cells #[.int .u64 a2_0, .int .i64 a2_1, .int .u64 a2_2, .int .i64 a2_3] 27 (0, 0)) (by (with_reducible repeat (first | refine blk_drewN ?_ _ | refine blk_drew ?_ | refine blk_alloc ?_ _)); exact BK490.out) hb)
            have n3_ := Aside0.mk (below_step (by repeat (first | (with_reducible first | exact HB.out | apply below_alloc | apply pw_below_drewN | apply below_drew1 | refine below_set ?_ GE488.out | refine below_set ?_ GE489.out | refine below_set ?_ GE490.out) | exact HB.out)) hb)
            clear BK488
            clear BK489
            clear BK490
            clear HB
            have BK488 := n0_
            have BK489 := n1_
            have BK490 := n2_
            have HB := n3_
            clear n0_ n1_ n2_ n3_
            (try clear hb)
            (try clear hb2)
            (try clear hk)
            (try clear hi)
            refine hK.out _ _ ⟨(blk_cell BK488.out 0).trans rfl, (blk_cell BK488.out 1).trans rfl, (blk_cell BK488.out 2).trans rfl, (blk_cell BK488.out 3).trans rfl, (blk_cell BK489.out 0).trans rfl, (blk_cell BK489.out 1).trans rfl, (blk_cell BK489.out 2).trans rfl, (blk_cell BK489.out 3).trans rfl⟩ (fun hHeld => ?_)
            clear hK K
            refine norm_ (a' := ?_) ?_ ?_
            rotate_left
            · show Act.put _ (some 23) _ = _
              simp only [Act.put, List.setIfInBounds_toArray, List.set_cons_zero, List.set_cons_succ, i64_w, i32_w]
              rfl
            refine pure_ (i := 17) (N := some 24) (v := ?_) (a' := ?_) #[true, true, true, true, true, true, true, true, true, true, true, true, true, true, true, true, true, true, false, false, false, false, false, false, false, false, false, false, false, false, false, false, false, false, false, false, false, false, false] rfl rfl (any_of HT_.out (by kernel_rfl)) (fun _ _ _ h => h) (Or.inl ⟨by rfl, ?_⟩) ?_ ?_
            rotate_left
            · intro w'
              go_simp
              with_reducible rfl
            rotate_left
            · simp only [Act.put, List.setIfInBounds_toArray, List.set_cons_zero, List.set_cons_succ, i64_w, i32_w]
              rfl
            refine pure_ (i := 18) (N := some 25) (v := ?_) (a' := ?_) #[true, true, true, true, true, true, true, true, true, true, true, true, true, true, true, true, true, true, true, false, false, false, false, false, false, false, false, false, false, false, false, false, false, false, false, false, false, false, false] rfl rfl (any_of HT_.out (by kernel_rfl)) (fun _ _ _ h => h) (Or.inl ⟨by rfl, ?_⟩) ?_ ?_
            rotate_left
            · intro w'
              go_simp
              with_reducible rfl
            rotate_left
            · simp only [Act.put, List.setIfInBounds_toArray, List.set_cons_zero, List.set_cons_succ, i64_w, i32_w]
              rfl
            refine pure_ (i := 19) (N := some 26) (v := ?_) (a' := ?_) #[true, true, true, true, true, true, true, true, true, true, true, true, true, true, true, true, true, true, true, true, false, false, false, false, false, false, false, false, false, false, false, false, false, false, false, false, false, false, false] rfl rfl (any_of HT_.out (by kernel_rfl)) (fun _ _ _ h => h) (Or.inl ⟨by rfl, ?_⟩) ?_ ?_
            rotate_left
            · intro w'
              go_simp
              with_reducible rfl
            rotate_left
            · simp only [Act.put, List.setIfInBounds_toArray, List.set_cons_zero, List.set_cons_succ, i64_w, i32_w]
              rfl
            refine take_ (i := 20) (N := some 27) (v := ?_) (a' := ?_) #[true, true, true, true, true, true, true, true, true, true, true, true, true, true, true, true, true, true, true, true, true, false, false, false, false, false, false, false, false, false, false, false, false, false, false, false, false, false, false] rfl rfl (take_ofW HT_.out HW_.out (by kernel_rfl)) (fun _ _ _ h => h) (Or.inl ⟨by rfl, ?_⟩) hHeld ?_ ?_
            rotate_left
            · rintro w' ⟨s0, s1, s2, s3, s4, s5, s6, s7⟩
              go_simp
              with_reducible rfl
            rotate_left
            · simp only [Act.put, List.setIfInBounds_toArray, List.set_cons_zero, List.set_cons_succ, i64_w, i32_w]
              rfl
            refine take_ (i := 21) (N := some 28) (v := ?_) (a' := ?_) #[true, true, true, true, true, true, true, true, true, true, true, true, true, true, true, true, true, true, true, true, true, true, false, false, false, false, false, false, false, false, false, false, false, false, false, false, false, false, false] rfl rfl (take_ofW HT_.out HW_.out (by kernel_rfl)) (fun _ _ _ h => h) (Or.inl ⟨by rfl, ?_⟩) hHeld ?_ ?_
            rotate_left
            · rintro w' ⟨s0, s1, s2, s3, s4, s5, s6, s7⟩
              go_simp
              with_reducible rfl
            rotate_left
            · simp only [Act.put, List.setIfInBounds_toArray, List.set_cons_zero, List.set_cons_succ, i64_w, i32_w]
              rfl
            refine take_ (i := 24) (N := some 31) (v := ?_) (a' := ?_) #[true, true, true, true, true, true, true, true, true, true, true, true, true, true, true, true, true, true, true, true, true, true, false, false, true, false, false, false, false, false, false, false, false, false, false, false, false, false, false] rfl rfl (take_ofW HT_.out HW_.out (by kernel_rfl)) (fun _ _ _ h => h) (Or.inl ⟨by rfl, ?_⟩) hHeld ?_ ?_
            rotate_left
            · rintro w' ⟨s0, s1, s2, s3, s4, s5, s6, s7⟩
              go_simp
              with_reducible rfl
            rotate_left
            · simp only [Act.put, List.setIfInBounds_toArray, List.set_cons_zero, List.set_cons_succ, i64_w, i32_w]
              rfl
            refine take_ (i := 25) (N := some 32) (v := ?_) (a' := ?_) #[true, true, true, true, true, true, true, true, true, true, true, true, true, true, true, true, true, true, true, true, true, true, false, false, true, true, false, false, false, false, false, false, false, false, false, false, false, false, false] rfl rfl (take_ofW HT_.out HW_.out (by kernel_rfl)) (fun _ _ _ h => h) (Or.inl ⟨by rfl, ?_⟩) hHeld ?_ ?_
            rotate_left
            · rintro w' ⟨s0, s1, s2, s3, s4, s5, s6, s7⟩
              go_simp
              with_reducible rfl
            rotate_left
            · simp only [Act.put, List.setIfInBounds_toArray, List.set_cons_zero, List.set_cons_succ, i64_w, i32_w]
              rfl
            refine pure_ (i := 26) (N := some 33) (v := ?_) (a' := ?_) #[true, true, true, true, true, true, true, true, true, true, true, true, true, true, true, true, true, true, true, true, true, true, false, false, true, true, true, false, false, false, false, false, false, false, false, false, false, false, false] rfl rfl (any_of HT_.out (by kernel_rfl)) (fun _ _ _ h => h) (Or.inl ⟨by rfl, ?_⟩) ?_ ?_
            rotate_left
            · intro w'
              go_simp
              with_reducible rfl
            rotate_left
            · simp only [Act.put, List.setIfInBounds_toArray, List.set_cons_zero, List.set_cons_succ, i64_w, i32_w]
              rfl
            refine one_ (i := 22) (N := some 29) #[true, true, true, true, true, true, true, true, true, true, true, true, true, true, true, true, true, true, true, true, true, true, true, false, true, true, true, false, false, false, false, false, false, false, false, false, false, false, false] rfl rfl (one_of HT_.out (by kernel_rfl)) (by decide) (fun K hK => ?_)
            refine goes_ Try.func42 (by kernel_rfl) rfl #[.agg #[.int .u64 a0_0, .int .i64 a0_1, .int .u64 a0_2, .int .i64 a0_3], .agg #[.int .u64 a1_0, .int .i64 a1_1, .int .u64 a1_2, .int .i64 a1_3]] (by rfl) rfl rfl (by (try simp only [List.map_toArray, List.map_cons, List.map_nil]); first | done | rfl | (simp only [List.length_drop, List.length_take]; rfl)) ?_
            with_reducible refine (label_Compare.calls k a0_0 a0_1 a0_2 a0_3 a1_0 a1_1 a1_2 a1_3 t496 _ A26.out).mono ?_
            rintro e w34 ⟨rfl, hb⟩
            refine ⟨_, rfl, ?_⟩
            have n0_ := Aside0.mk (blk_below (g := gb488) (o := .cells #[.int .u64 a0_0, .int .i64 a0_1, .int .u64 a0_2, .int .i64 a0_3] 27 (0, 0)) (by (with_reducible repeat (first | refine blk_drewN ?_ _ | refine blk_drew ?_ | refine blk_alloc ?_ _)); exact BK488.out) hb)
            have n1_ := Aside0.mk (blk_below (g := gb489) (o := .cells #[.int .u64 a1_0, .int .i64 a1_1, .int .u64 a1_2, .int .i64 a1_3] 27 (0, 0)) (by (with_reducible repeat (first | refine blk_drewN ?_ _ | refine blk_drew ?_ | refine blk_alloc ?_ _)); exact BK489.out) hb)
            have n2_ := Aside0.mk (blk_below (g := gb490) (o := .cells #[.int .u64 a2_0, .int .i64 a2_1, .int .u64 a2_2, .int .i64 a2_3] 27 (0, 0)) (by (with_reducible repeat (first | refine blk_drewN ?_ _ | refine blk_drew ?_ | refine blk_alloc ?_ _)); exact BK490.out) hb)
            have n3_ := Aside0.mk (below_step (by repeat (first | (with_reducible first | exact HB.out | apply below_alloc | apply pw_below_drewN | apply below_drew1 | refine below_set ?_ GE488.out | refine below_set ?_ GE489.out | refine below_set ?_ GE490.out) | exact HB.out)) hb)
            clear BK488
            clear BK489
            clear BK490
            clear HB
            have BK488 := n0_
            have BK489 := n1_
            have BK490 := n2_
            have HB := n3_
            clear n0_ n1_ n2_ n3_
            (try clear hb)
            (try clear hb2)
            (try clear hk)
            (try clear hi)
            refine hK.out _ _ ⟨(blk_cell BK488.out 0).trans rfl, (blk_cell BK488.out 1).trans rfl, (blk_cell BK488.out 2).trans rfl, (blk_cell BK488.out 3).trans rfl, (blk_cell BK489.out 0).trans rfl, (blk_cell BK489.out 1).trans rfl, (blk_cell BK489.out 2).trans rfl, (blk_cell BK489.out 3).trans rfl⟩ (fun hHeld => ?_)
            clear hK K
            refine norm_ (a' := ?_) ?_ ?_
            rotate_left
            · show Act.put _ (some 29) _ = _
              simp only [Act.put, List.setIfInBounds_toArray, List.set_cons_zero, List.set_cons_succ, i64_w, i32_w]
              rfl
            refine pure_ (i := 23) (N := some 30) (v := ?_) (a' := ?_) #[true, true, true, true, true, true, true, true, true, true, true, true, true, true, true, true, true, true, true, true, true, true, true, true, true, true, true, false, false, false, false, false, false, false, false, false, false, false, false] rfl rfl (any_of HT_.out (by kernel_rfl)) (fun _ _ _ h => h) (Or.inl ⟨by rfl, ?_⟩) ?_ ?_
            rotate_left
            · intro w'
              go_simp
              with_reducible rfl
            rotate_left
            · simp only [Act.put, List.setIfInBounds_toArray, List.set_cons_zero, List.set_cons_succ, i64_w, i32_w]
              rfl
            refine pure_ (i := 27) (N := some 34) (v := ?_) (a' := ?_) #[true, true, true, true, true, true, true, true, true, true, true, true, true, true, true, true, true, true, true, true, true, true, true, true, true, true, true, true, false, false, false, false, false, false, false, false, false, false, false] rfl rfl (any_of HT_.out (by kernel_rfl)) (fun _ _ _ h => h) (Or.inl ⟨by rfl, ?_⟩) ?_ ?_
            rotate_left
            · intro w'
              go_simp
              with_reducible rfl
            rotate_left
            · simp only [Act.put, List.setIfInBounds_toArray, List.set_cons_zero, List.set_cons_succ, i64_w, i32_w]
              rfl
            refine pure_ (i := 28) (N := some 35) (v := ?_) (a' := ?_) #[true, true, true, true, true, true, true, true, true, true, true, true, true, true, true, true, true, true, true, true, true, true, true, true, true, true, true, true, true, false, false, false, false, false, false, false, false, false, false] rfl rfl (any_of HT_.out (by kernel_rfl)) (fun _ _ _ h => h) (Or.inl ⟨by rfl, ?_⟩) ?_ ?_
            rotate_left
            · intro w'
              go_simp
              with_reducible rfl
            rotate_left
            · simp only [Act.put, List.setIfInBounds_toArray, List.set_cons_zero, List.set_cons_succ, i64_w, i32_w]
              rfl
            refine pure_ (i := 29) (N := some 36) (v := ?_) (a' := ?_) #[true, true, true, true, true, true, true, true, true, true, true, true, true, true, true, true, true, true, true, true, true, true, true, true, true, true, true, true, true, true, false, false, false, false, false, false, false, false, false] rfl rfl (any_of HT_.out (by kernel_rfl)) (fun _ _ _ h => h) (Or.inl ⟨by rfl, ?_⟩) ?_ ?_
            rotate_left
            · intro w'
              go_simp
              with_reducible rfl
            rotate_left
            · simp only [Act.put, List.setIfInBounds_toArray, List.set_cons_zero, List.set_cons_succ, i64_w, i32_w]
              rfl
            refine pure_ (i := 30) (N := some 37) (v := undef) (a' := ?_) #[true, true, true, true, true, true, true, true, true, true, true, true, true, true, true, true, true, true, true, true, true, true, true, true, true, true, true, true, true, true, true, false, false, false, false, false, false, false, false] rfl rfl (any_of HT_.out (by kernel_rfl)) (fun _ _ _ h => h) (Or.inr ⟨by rfl, rfl⟩) ?_ ?_
            rotate_left
            · simp only [Act.put, List.setIfInBounds_toArray, List.set_cons_zero, List.set_cons_succ, i64_w, i32_w]
              rfl
            refine pure_ (i := 31) (N := some 38) (v := undef) (a' := ?_) #[true, true, true, true, true, true, true, true, true, true, true, true, true, true, true, true, true, true, true, true, true, true, true, true, true, true, true, true, true, true, true, true, false, false, false, false, false, false, false] rfl rfl (any_of HT_.out (by kernel_rfl)) (fun _ _ _ h => h) (Or.inr ⟨by rfl, rfl⟩) ?_ ?_
            rotate_left
            · simp only [Act.put, List.setIfInBounds_toArray, List.set_cons_zero, List.set_cons_succ, i64_w, i32_w]
              rfl
            refine pure_ (i := 32) (N := some 39) (v := undef) (a' := ?_) #[true, true, true, true, true, true, true, true, true, true, true, true, true, true, true, true, true, true, true, true, true, true, true, true, true, true, true, true, true, true, true, true, true, false, false, false, false, false, false] rfl rfl (any_of HT_.out (by kernel_rfl)) (fun _ _ _ h => h) (Or.inr ⟨by rfl, rfl⟩) ?_ ?_
            rotate_left
            · simp only [Act.put, List.setIfInBounds_toArray, List.set_cons_zero, List.set_cons_succ, i64_w, i32_w]
              rfl
            refine pure_ (i := 33) (N := some 40) (v := undef) (a' := ?_) #[true, true, true, true, true, true, true, true, true, true, true, true, true, true, true, true, true, true, true, true, true, true, true, true, true, true, true, true, true, true, true, true, true, true, false, false, false, false, false] rfl rfl (any_of HT_.out (by kernel_rfl)) (fun _ _ _ h => h) (Or.inr ⟨by rfl, rfl⟩) ?_ ?_
            rotate_left
            · simp only [Act.put, List.setIfInBounds_toArray, List.set_cons_zero, List.set_cons_succ, i64_w, i32_w]
              rfl
            refine pure_ (i := 34) (N := some 41) (v := undef) (a' := ?_) #[true, true, true, true, true, true, true, true, true, true, true, true, true, true, true, true, true, true, true, true, true, true, true, true, true, true, true, true, true, true, true, true, true, true, true, false, false, false, false] rfl rfl (any_of HT_.out (by kernel_rfl)) (fun _ _ _ h => h) (Or.inr ⟨by rfl, rfl⟩) ?_ ?_
            rotate_left
            · simp only [Act.put, List.setIfInBounds_toArray, List.set_cons_zero, List.set_cons_succ, i64_w, i32_w]
              rfl
            refine pure_ (i := 35) (N := some 42) (v := undef) (a' := ?_) #[true, true, true, true, true, true, true, true, true, true, true, true, true, true, true, true, true, true, true, true, true, true, true, true, true, true, true, true, true, true, true, true, true, true, true, true, false, false, false] rfl rfl (any_of HT_.out (by kernel_rfl)) (fun _ _ _ h => h) (Or.inr ⟨by rfl, rfl⟩) ?_ ?_
            rotate_left
            · simp only [Act.put, List.setIfInBounds_toArray, List.set_cons_zero, List.set_cons_succ, i64_w, i32_w]
              rfl
            refine pure_ (i := 36) (N := some 43) (v := undef) (a' := ?_) #[true, true, true, true, true, true, true, true, true, true, true, true, true, true, true, true, true, true, true, true, true, true, true, true, true, true, true, true, true, true, true, true, true, true, true, true, true, false, false] rfl rfl (any_of HT_.out (by kernel_rfl)) (fun _ _ _ h => h) (Or.inr ⟨by rfl, rfl⟩) ?_ ?_
            rotate_left
            · simp only [Act.put, List.setIfInBounds_toArray, List.set_cons_zero, List.set_cons_succ, i64_w, i32_w]
              rfl
            refine pure_ (i := 37) (N := some 44) (v := undef) (a' := ?_) #[true, true, true, true, true, true, true, true, true, true, true, true, true, true, true, true, true, true, true, true, true, true, true, true, true, true, true, true, true, true, true, true, true, true, true, true, true, true, false] rfl rfl (any_of HT_.out (by kernel_rfl)) (fun _ _ _ h => h) (Or.inr ⟨by rfl, rfl⟩) ?_ ?_
            rotate_left
            · simp only [Act.put, List.setIfInBounds_toArray, List.set_cons_zero, List.set_cons_succ, i64_w, i32_w]
              rfl
            refine pure_ (i := 38) (N := some 45) (v := ?_) (a' := ?_) #[true, true, true, true, true, true, true, true, true, true, true, true, true, true, true, true, true, true, true, true, true, true, true, true, true, true, true, true, true, true, true, true, true, true, true, true, true, true, true] rfl rfl (any_of HT_.out (by kernel_rfl)) (fun _ _ _ h => h) (Or.inl ⟨by rfl, ?_⟩) ?_ ?_
            rotate_left
            · intro w'
              go_simp
              with_reducible rfl
            rotate_left
            · simp only [Act.put, List.setIfInBounds_toArray, List.set_cons_zero, List.set_cons_succ, i64_w, i32_w]
              rfl
            refine done_ (done_of HT_.out (by kernel_rfl)) ?_
            (try clear hHeld); (try clear HS0_)
            try go_wp2
            go_meet
            case rel => exact ⟨_, (true), (by first | rfl | (simp; done) | (simp [*]; done)), H', ⟨by first | omega | exact Nat.le_refl _⟩, ⟨by (with_reducible repeat (first | refine blk_drewN ?_ _ | refine blk_drew ?_ | refine blk_alloc ?_ _)); exact BK488.out⟩, ⟨by (with_reducible repeat (first | refine blk_drewN ?_ _ | refine blk_drew ?_ | refine blk_alloc ?_ _)); exact BK489.out⟩, ⟨by (with_reducible repeat (first | refine blk_drewN ?_ _ | refine blk_drew ?_ | refine blk_alloc ?_ _)); exact BK490.out⟩, ⟨by repeat (first | (with_reducible first | exact HB.out | apply below_alloc | apply pw_below_drewN | apply below_drew1 | refine below_set ?_ GE488.out | refine below_set ?_ GE489.out | refine below_set ?_ GE490.out) | exact HB.out)⟩⟩
          · rw [if_neg c27] at H
            have c27b0 : ((t496 == 0) != ((a0_0 == a1_0 && (a0_1 == a1_1)) && (a0_2 == a1_2 && (a0_3 == a1_3)))) = false := by simpa using c27
            (try (have c27b1 : decide ((t496 == 0) = ((a0_0 == a1_0 && (a0_1 == a1_1)) && (a0_2 == a1_2 && (a0_3 == a1_3)))) = true := by simpa using c27))
            (try (have c27b2 : ((t496 == 0) == ((a0_0 == a1_0 && (a0_1 == a1_1)) && (a0_2 == a1_2 && (a0_3 == a1_3)))) = true := by simpa using c27))
            clear c27
            replace H := Option.bind_eq_some_iff.mp H
            obtain ⟨t497, A350, H⟩ := H
            replace H : ((label_Compare.f k a1_0 a1_1 a1_2 a1_3 a0_0 a0_1 a0_2 a0_3).bind fun t498 => (folkmootlaw05_LabelOrder.j0 k (t497 != (wrap64 (-t498))) a0_0 a0_1 a0_2 a0_3 a1_0 a1_1 a1_2 a1_3 a2_0 a2_1 a2_2 a2_3)) = some r := H
            have A35 := Aside0.mk A350
            clear A350
            replace H := Option.bind_eq_some_iff.mp H
            obtain ⟨t498, A360, H⟩ := H
            replace H : (folkmootlaw05_LabelOrder.j0 k (t497 != (wrap64 (-t498))) a0_0 a0_1 a0_2 a0_3 a1_0 a1_1 a1_2 a1_3 a2_0 a2_1 a2_2 a2_3) = some r := H
            have A36 := Aside0.mk A360
            clear A360
            have H' := Aside0.mk H
            clear H
            try go_wp2
            have n0_ := Aside0.mk (blk_drew BK488.out)
            have n1_ := Aside0.mk (blk_drew BK489.out)
            have n2_ := Aside0.mk (blk_drew BK490.out)
            have n3_ := Aside0.mk (below_drew1 HB.out)
            clear BK488
            clear BK489
            clear BK490
            clear HB
            have BK488 := n0_
            have BK489 := n1_
            have BK490 := n2_
            have HB := n3_
            clear n0_ n1_ n2_ n3_
            refine start_ (n := 39) (S := fun w' => w'.cell? ⟨gb488, 0, none⟩ = some (.int .u64 a0_0) ∧ w'.cell? ⟨gb488, 1, none⟩ = some (.int .i64 a0_1) ∧ w'.cell? ⟨gb488, 2, none⟩ = some (.int .u64 a0_2) ∧ w'.cell? ⟨gb488, 3, none⟩ = some (.int .i64 a0_3) ∧ w'.cell? ⟨gb489, 0, none⟩ = some (.int .u64 a1_0) ∧ w'.cell? ⟨gb489, 1, none⟩ = some (.int .i64 a1_1) ∧ w'.cell? ⟨gb489, 2, none⟩ = some (.int .u64 a1_2) ∧ w'.cell? ⟨gb489, 3, none⟩ = some (.int .i64 a1_3)) (ds := []) #[false, false, false, false, false, false, false, false, false, false, false, false, false, false, false, false, false, false, false, false, false, false, false, false, false, false, false, false, false, false, false, false, false, false, false, false, false, false, false] (by kernel_rfl) rfl rfl ⟨(blk_cell BK488.out 0).trans rfl, (blk_cell BK488.out 1).trans rfl, (blk_cell BK488.out 2).trans rfl, (blk_cell BK488.out 3).trans rfl, (blk_cell BK489.out 0).trans rfl, (blk_cell BK489.out 1).trans rfl, (blk_cell BK489.out 2).trans rfl, (blk_cell BK489.out 3).trans rfl⟩ (fun hHeld => ?_); refine with_tabW folkmootlaw05_LabelOrder.tab1 folkmootlaw05_LabelOrder.bits1 (fun HT_ HW_ => ?_)
            generalize w7.drew = w37 at BK488 BK489 BK490 HB hHeld ⊢
            refine one_ (i := 0) (N := some 7) #[true, false, false, false, false, false, false, false, false, false, false, false, false, false, false, false, false, false, false, false, false, false, false, false, false, false, false, false, false, false, false, false, false, false, false, false, false, false, false] rfl rfl (one_of HT_.out (by kernel_rfl)) (by decide) (fun K hK => ?_)
            refine goes_ Try.func33 (by kernel_rfl) rfl #[] (by rfl) rfl rfl (by (try simp only [List.map_toArray, List.map_cons, List.map_nil]); first | done | rfl | (simp only [List.length_drop, List.length_take]; rfl)) ?_
            with_reducible refine (folkmootlaw05_awake.calls  true _ A8.out).mono ?_
            rintro e w38 ⟨rfl, hb⟩
            refine ⟨_, rfl, ?_⟩
            have n0_ := Aside0.mk (blk_below (g := gb488) (o := .cells #[.int .u64 a0_0, .int .i64 a0_1, .int .u64 a0_2, .int .i64 a0_3] 27 (0, 0)) (by (with_reducible repeat (first | refine blk_drewN ?_ _ | refine blk_drew ?_ | refine blk_alloc ?_ _)); exact BK488.out) hb)
            have n1_ := Aside0.mk (blk_below (g := gb489) (o := .cells #[.int .u64 a1_0, .int .i64 a1_1, .int .u64 a1_2, .int .i64 a1_3] 27 (0, 0)) (by (with_reducible repeat (first | refine blk_drewN ?_ _ | refine blk_drew ?_ | refine blk_alloc ?_ _)); exact BK489.out) hb)
            have n2_ := Aside0.mk (blk_below (g := gb490) (o := .cells #[.int .u64 a2_0, .int .i64 a2_1, .int .u64 a2_2, .int .i64 a2_3] 27 (0, 0)) (by (with_reducible repeat (first | refine blk_drewN ?_ _ | refine blk_drew ?_ | refine blk_alloc ?_ _)); exact BK490.out) hb)
            have n3_ := Aside0.mk (below_step (by repeat (first | (with_reducible first | exact HB.out | apply below_alloc | apply pw_below_drewN | apply below_drew1 | refine below_set ?_ GE488.out | refine below_set ?_ GE489.out | refine below_set ?_ GE490.out) | exact HB.out)) hb)
            clear BK488
            clear BK489
            clear BK490
            clear HB
            have BK488 := n0_
            have BK489 := n1_
            have BK490 := n2_
            have HB := n3_
            clear n0_ n1_ n2_ n3_
            (try clear hb)
            (try clear hb2)
            (try clear hk)
            (try clear hi)
            refine hK.out _ _ ⟨(blk_cell BK488.out 0).trans rfl, (blk_cell BK488.out 1).trans rfl, (blk_cell BK488.out 2).trans rfl, (blk_cell BK488.out 3).trans rfl, (blk_cell BK489.out 0).trans rfl, (blk_cell BK489.out 1).trans rfl, (blk_cell BK489.out 2).trans rfl, (blk_cell BK489.out 3).trans rfl⟩ (fun hHeld => ?_)
            clear hK K
            refine norm_ (a' := ?_) ?_ ?_
            rotate_left
            · show Act.put _ (some 7) _ = _
              simp only [Act.put, List.setIfInBounds_toArray, List.set_cons_zero, List.set_cons_succ, i64_w, i32_w]
              rfl
            refine pure_ (i := 1) (N := some 8) (v := ?_) (a' := ?_) #[true, true, false, false, false, false, false, false, false, false, false, false, false, false, false, false, false, false, false, false, false, false, false, false, false, false, false, false, false, false, false, false, false, false, false, false, false, false, false] rfl rfl (any_of HT_.out (by kernel_rfl)) (fun _ _ _ h => h) (Or.inl ⟨by rfl, ?_⟩) ?_ ?_
            rotate_left
            · intro w'
              go_simp
              with_reducible rfl
            rotate_left
            · simp only [Act.put, List.setIfInBounds_toArray, List.set_cons_zero, List.set_cons_succ, i64_w, i32_w]
              rfl
            refine pure_ (i := 2) (N := some 9) (v := ?_) (a' := ?_) #[true, true, true, false, false, false, false, false, false, false, false, false, false, false, false, false, false, false, false, false, false, false, false, false, false, false, false, false, false, false, false, false, false, false, false, false, false, false, false] rfl rfl (any_of HT_.out (by kernel_rfl)) (fun _ _ _ h => h) (Or.inl ⟨by rfl, ?_⟩) ?_ ?_
            rotate_left
            · intro w'
              go_simp
              with_reducible rfl
            rotate_left
            · simp only [Act.put, List.setIfInBounds_toArray, List.set_cons_zero, List.set_cons_succ, i64_w, i32_w]
              rfl
            refine take_ (i := 3) (N := some 10) (v := ?_) (a' := ?_) #[true, true, true, true, false, false, false, false, false, false, false, false, false, false, false, false, false, false, false, false, false, false, false, false, false, false, false, false, false, false, false, false, false, false, false, false, false, false, false] rfl rfl (take_ofW HT_.out HW_.out (by kernel_rfl)) (fun _ _ _ h => h) (Or.inl ⟨by rfl, ?_⟩) hHeld ?_ ?_
            rotate_left
            · rintro w' ⟨s0, s1, s2, s3, s4, s5, s6, s7⟩
              go_simp
              with_reducible rfl
            rotate_left
            · simp only [Act.put, List.setIfInBounds_toArray, List.set_cons_zero, List.set_cons_succ, i64_w, i32_w]
              rfl
            refine take_ (i := 5) (N := some 12) (v := ?_) (a' := ?_) #[true, true, true, true, false, true, false, false, false, false, false, false, false, false, false, false, false, false, false, false, false, false, false, false, false, false, false, false, false, false, false, false, false, false, false, false, false, false, false] rfl rfl (take_ofW HT_.out HW_.out (by kernel_rfl)) (fun _ _ _ h => h) (Or.inl ⟨by rfl, ?_⟩) hHeld ?_ ?_
            rotate_left
            · rintro w' ⟨s0, s1, s2, s3, s4, s5, s6, s7⟩
              go_simp
              with_reducible rfl
            rotate_left
            · simp only [Act.put, List.setIfInBounds_toArray, List.set_cons_zero, List.set_cons_succ, i64_w, i32_w]
              rfl
            refine one_ (i := 4) (N := some 11) #[true, true, true, true, true, true, false, false, false, false, false, false, false, false, false, false, false, false, false, false, false, false, false, false, false, false, false, false, false, false, false, false, false, false, false, false, false, false, false] rfl rfl (one_of HT_.out (by kernel_rfl)) (by decide) (fun K hK => ?_)
            refine goes_ Try.func40 (by kernel_rfl) rfl #[.agg #[.int .u64 a0_0, .int .i64 a0_1, .int .u64 a0_2, .int .i64 a0_3]] (by rfl) rfl rfl (by (try simp only [List.map_toArray, List.map_cons, List.map_nil]); first | done | rfl | (simp only [List.length_drop, List.length_take]; rfl)) ?_
            with_reducible refine (label_Form.calls a0_0 a0_1 a0_2 a0_3 t492 _ A10.out).mono ?_
            rintro e w39 ⟨rfl, hb⟩
            refine ⟨_, rfl, ?_⟩
            have n0_ := Aside0.mk (blk_below (g := gb488) (o := .cells #[.int .u64 a0_0, .int .i64 a0_1, .int .u64 a0_2, .int .i64 a0_3] 27 (0, 0)) (by (with_reducible repeat (first | refine blk_drewN ?_ _ | refine blk_drew ?_ | refine blk_alloc ?_ _)); exact BK488.out) hb)
            have n1_ := Aside0.mk (blk_below (g := gb489) (o := .cells #[.int .u64 a1_0, .int .i64 a1_1, .int .u64 a1_2, .int .i64 a1_3] 27 (0, 0)) (by (with_reducible repeat (first | refine blk_drewN ?_ _ | refine blk_drew ?_ | refine blk_alloc ?_ _)); exact BK489.out) hb)
            have n2_ := Aside0.mk (blk_below (g := gb490) (o := .cells #[.int .u64 a2_0, .int .i64 a2_1, .int .u64 a2_2, .int .i64 a2_3] 27 (0, 0)) (by (with_reducible repeat (first | refine blk_drewN ?_ _ | refine blk_drew ?_ | refine blk_alloc ?_ _)); exact BK490.out) hb)
            have n3_ := Aside0.mk (below_step (by repeat (first | (with_reducible first | exact HB.out | apply below_alloc | apply pw_below_drewN | apply below_drew1 | refine below_set ?_ GE488.out | refine below_set ?_ GE489.out | refine below_set ?_ GE490.out) | exact HB.out)) hb)
            clear BK488
            clear BK489
            clear BK490
            clear HB
            have BK488 := n0_
            have BK489 := n1_
            have BK490 := n2_
            have HB := n3_
            clear n0_ n1_ n2_ n3_
            (try clear hb)
            (try clear hb2)
            (try clear hk)
            (try clear hi)
            refine hK.out _ _ ⟨(blk_cell BK488.out 0).trans rfl, (blk_cell BK488.out 1).trans rfl, (blk_cell BK488.out 2).trans rfl, (blk_cell BK488.out 3).trans rfl, (blk_cell BK489.out 0).trans rfl, (blk_cell BK489.out 1).trans rfl, (blk_cell BK489.out 2).trans rfl, (blk_cell BK489.out 3).trans rfl⟩ (fun hHeld => ?_)
            clear hK K
            refine norm_ (a' := ?_) ?_ ?_
            rotate_left
            · show Act.put _ (some 11) _ = _
              simp only [Act.put, List.setIfInBounds_toArray, List.set_cons_zero, List.set_cons_succ, i64_w, i32_w]
              rfl
            refine one_ (i := 6) (N := some 13) #[true, true, true, true, true, true, true, false, false, false, false, false, false, false, false, false, false, false, false, false, false, false, false, false, false, false, false, false, false, false, false, false, false, false, false, false, false, false, false] rfl rfl (one_of HT_.out (by kernel_rfl)) (by decide) (fun K hK => ?_)
            refine goes_ Try.func41 (by kernel_rfl) rfl #[.agg #[.int .u64 a0_0, .int .i64 a0_1, .int .u64 a0_2, .int .i64 a0_3]] (by rfl) rfl rfl (by (try simp only [List.map_toArray, List.map_cons, List.map_nil]); first | done | rfl | (simp only [List.length_drop, List.length_take]; rfl)) ?_
            with_reducible refine (folkmootref05_Form.calls a0_0 a0_1 a0_2 a0_3 t493 _ A11.out).mono ?_
            rintro e w40 ⟨rfl, hb⟩
            refine ⟨_, rfl, ?_⟩
            have n0_ := Aside0.mk (blk_below (g := gb488) (o := .cells #[.int .u64 a0_0, .int .i64 a0_1, .int .u64 a0_2, .int .i64 a0_3] 27 (0, 0)) (by (with_reducible repeat (first | refine blk_drewN ?_ _ | refine blk_drew ?_ | refine blk_alloc ?_ _)); exact BK488.out) hb)
            have n1_ := Aside0.mk (blk_below (g := gb489) (o := .cells #[.int .u64 a1_0, .int .i64 a1_1, .int .u64 a1_2, .int .i64 a1_3] 27 (0, 0)) (by (with_reducible repeat (first | refine blk_drewN ?_ _ | refine blk_drew ?_ | refine blk_alloc ?_ _)); exact BK489.out) hb)
            have n2_ := Aside0.mk (blk_below (g := gb490) (o := .cells #[.int .u64 a2_0, .int .i64 a2_1, .int .u64 a2_2, .int .i64 a2_3] 27 (0, 0)) (by (with_reducible repeat (first | refine blk_drewN ?_ _ | refine blk_drew ?_ | refine blk_alloc ?_ _)); exact BK490.out) hb)
            have n3_ := Aside0.mk (below_step (by repeat (first | (with_reducible first | exact HB.out | apply below_alloc | apply pw_below_drewN | apply below_drew1 | refine below_set ?_ GE488.out | refine below_set ?_ GE489.out | refine below_set ?_ GE490.out) | exact HB.out)) hb)
            clear BK488
            clear BK489
            clear BK490
            clear HB
            have BK488 := n0_
            have BK489 := n1_
            have BK490 := n2_
            have HB := n3_
            clear n0_ n1_ n2_ n3_
            (try clear hb)
            (try clear hb2)
            (try clear hk)
            (try clear hi)
            refine hK.out _ _ ⟨(blk_cell BK488.out 0).trans rfl, (blk_cell BK488.out 1).trans rfl, (blk_cell BK488.out 2).trans rfl, (blk_cell BK488.out 3).trans rfl, (blk_cell BK489.out 0).trans rfl, (blk_cell BK489.out 1).trans rfl, (blk_cell BK489.out 2).trans rfl, (blk_cell BK489.out 3).trans rfl⟩ (fun hHeld => ?_)
            clear hK K
            refine norm_ (a' := ?_) ?_ ?_
            rotate_left
            · show Act.put _ (some 13) _ = _
              simp only [Act.put, List.setIfInBounds_toArray, List.set_cons_zero, List.set_cons_succ, i64_w, i32_w]
              rfl
            refine pure_ (i := 7) (N := some 14) (v := ?_) (a' := ?_) #[true, true, true, true, true, true, true, true, false, false, false, false, false, false, false, false, false, false, false, false, false, false, false, false, false, false, false, false, false, false, false, false, false, false, false, false, false, false, false] rfl rfl (any_of HT_.out (by kernel_rfl)) (fun _ _ _ h => h) (Or.inl ⟨by rfl, ?_⟩) ?_ ?_
            rotate_left
            · intro w'
              go_simp
              with_reducible rfl
            rotate_left
            · simp only [Act.put, List.setIfInBounds_toArray, List.set_cons_zero, List.set_cons_succ, i64_w, i32_w]
              rfl
            refine pure_ (i := 8) (N := some 15) (v := ?_) (a' := ?_) #[true, true, true, true, true, true, true, true, true, false, false, false, false, false, false, false, false, false, false, false, false, false, false, false, false, false, false, false, false, false, false, false, false, false, false, false, false, false, false] rfl rfl (any_of HT_.out (by kernel_rfl)) (fun _ _ _ h => h) (Or.inl ⟨by rfl, ?_⟩) ?_ ?_
            rotate_left
            · intro w'
              go_simp
              with_reducible rfl
            rotate_left
            · simp only [Act.put, List.setIfInBounds_toArray, List.set_cons_zero, List.set_cons_succ, i64_w, i32_w]
              rfl
            refine pure_ (i := 9) (N := some 16) (v := ?_) (a' := ?_) #[true, true, true, true, true, true, true, true, true, true, false, false, false, false, false, false, false, false, false, false, false, false, false, false, false, false, false, false, false, false, false, false, false, false, false, false, false, false, false] rfl rfl (any_of HT_.out (by kernel_rfl)) (fun _ _ _ h => h) (Or.inl ⟨by rfl, ?_⟩) ?_ ?_
            rotate_left
            · intro w'
              go_simp
              with_reducible rfl
            rotate_left
            · simp only [Act.put, List.setIfInBounds_toArray, List.set_cons_zero, List.set_cons_succ, i64_w, i32_w]
              rfl
            refine take_ (i := 10) (N := some 17) (v := ?_) (a' := ?_) #[true, true, true, true, true, true, true, true, true, true, true, false, false, false, false, false, false, false, false, false, false, false, false, false, false, false, false, false, false, false, false, false, false, false, false, false, false, false, false] rfl rfl (take_ofW HT_.out HW_.out (by kernel_rfl)) (fun _ _ _ h => h) (Or.inl ⟨by rfl, ?_⟩) hHeld ?_ ?_
            rotate_left
            · rintro w' ⟨s0, s1, s2, s3, s4, s5, s6, s7⟩
              go_simp
              with_reducible rfl
            rotate_left
            · simp only [Act.put, List.setIfInBounds_toArray, List.set_cons_zero, List.set_cons_succ, i64_w, i32_w]
              rfl
            refine take_ (i := 11) (N := some 18) (v := ?_) (a' := ?_) #[true, true, true, true, true, true, true, true, true, true, true, true, false, false, false, false, false, false, false, false, false, false, false, false, false, false, false, false, false, false, false, false, false, false, false, false, false, false, false] rfl rfl (take_ofW HT_.out HW_.out (by kernel_rfl)) (fun _ _ _ h => h) (Or.inl ⟨by rfl, ?_⟩) hHeld ?_ ?_
            rotate_left
            · rintro w' ⟨s0, s1, s2, s3, s4, s5, s6, s7⟩
              go_simp
              with_reducible rfl
            rotate_left
            · simp only [Act.put, List.setIfInBounds_toArray, List.set_cons_zero, List.set_cons_succ, i64_w, i32_w]
              rfl
            refine take_ (i := 14) (N := some 21) (v := ?_) (a' := ?_) #[true, true, true, true, true, true, true, true, true, true, true, true, false, false, true, false, false, false, false, false, false, false, false, false, false, false, false, false, false, false, false, false, false, false, false, false, false, false, false] rfl rfl (take_ofW HT_.out HW_.out (by kernel_rfl)) (fun _ _ _ h => h) (Or.inl ⟨by rfl, ?_⟩) hHeld ?_ ?_
            rotate_left
            · rintro w' ⟨s0, s1, s2, s3, s4, s5, s6, s7⟩
              go_simp
              with_reducible rfl
            rotate_left
            · simp only [Act.put, List.setIfInBounds_toArray, List.set_cons_zero, List.set_cons_succ, i64_w, i32_w]
              rfl
            refine take_ (i := 15) (N := some 22) (v := ?_) (a' := ?_) #[true, true, true, true, true, true, true, true, true, true, true, true, false, false, true, true, false, false, false, false, false, false, false, false, false, false, false, false, false, false, false, false, false, false, false, false, false, false, false] rfl rfl (take_ofW HT_.out HW_.out (by kernel_rfl)) (fun _ _ _ h => h) (Or.inl ⟨by rfl, ?_⟩) hHeld ?_ ?_
            rotate_left
            · rintro w' ⟨s0, s1, s2, s3, s4, s5, s6, s7⟩
              go_simp
              with_reducible rfl
            rotate_left
            · simp only [Act.put, List.setIfInBounds_toArray, List.set_cons_zero, List.set_cons_succ, i64_w, i32_w]
              rfl
            refine one_ (i := 12) (N := some 19) #[true, true, true, true, true, true, true, true, true, true, true, true, true, false, true, true, false, false, false, false, false, false, false, false, false, false, false, false, false, false, false, false, false, false, false, false, false, false, false] rfl rfl (one_of HT_.out (by kernel_rfl)) (by decide) (fun K hK => ?_)
            refine goes_ Try.func42 (by kernel_rfl) rfl #[.agg #[.int .u64 a0_0, .int .i64 a0_1, .int .u64 a0_2, .int .i64 a0_3], .agg #[.int .u64 a1_0, .int .i64 a1_1, .int .u64 a1_2, .int .i64 a1_3]] (by rfl) rfl rfl (by (try simp only [List.map_toArray, List.map_cons, List.map_nil]); first | done | rfl | (simp only [List.length_drop, List.length_take]; rfl)) ?_
            with_reducible refine (label_Compare.calls k a0_0 a0_1 a0_2 a0_3 a1_0 a1_1 a1_2 a1_3 t494 _ A17.out).mono ?_
            rintro e w41 ⟨rfl, hb⟩
            refine ⟨_, rfl, ?_⟩
            have n0_ := Aside0.mk (blk_below (g := gb488) (o := .cells #[.int .u64 a0_0, .int .i64 a0_1, .int .u64 a0_2, .int .i64 a0_3] 27 (0, 0)) (by (with_reducible repeat (first | refine blk_drewN ?_ _ | refine blk_drew ?_ | refine blk_alloc ?_ _)); exact BK488.out) hb)
            have n1_ := Aside0.mk (blk_below (g := gb489) (o := .cells #[.int .u64 a1_0, .int .i64 a1_1, .int .u64 a1_2, .int .i64 a1_3] 27 (0, 0)) (by (with_reducible repeat (first | refine blk_drewN ?_ _ | refine blk_drew ?_ | refine blk_alloc ?_ _)); exact BK489.out) hb)
            have n2_ := Aside0.mk (blk_below (g := gb490) (o := .cells #[.int .u64 a2_0, .int .i64 a2_1, .int .u64 a2_2, .int .i64 a2_3] 27 (0, 0)) (by (with_reducible repeat (first | refine blk_drewN ?_ _ | refine blk_drew ?_ | refine blk_alloc ?_ _)); exact BK490.out) hb)
            have n3_ := Aside0.mk (below_step (by repeat (first | (with_reducible first | exact HB.out | apply below_alloc | apply pw_below_drewN | apply below_drew1 | refine below_set ?_ GE488.out | refine below_set ?_ GE489.out | refine below_set ?_ GE490.out) | exact HB.out)) hb)
            clear BK488
            clear BK489
            clear BK490
            clear HB
            have BK488 := n0_
            have BK489 := n1_
            have BK490 := n2_
            have HB := n3_
            clear n0_ n1_ n2_ n3_
            (try clear hb)
            (try clear hb2)
            (try clear hk)
            (try clear hi)
            refine hK.out _ _ ⟨(blk_cell BK488.out 0).trans rfl, (blk_cell BK488.out 1).trans rfl, (blk_cell BK488.out 2).trans rfl, (blk_cell BK488.out 3).trans rfl, (blk_cell BK489.out 0).trans rfl, (blk_cell BK489.out 1).trans rfl, (blk_cell BK489.out 2).trans rfl, (blk_cell BK489.out 3).trans rfl⟩ (fun hHeld => ?_)
            clear hK K
            refine norm_ (a' := ?_) ?_ ?_
            rotate_left
            · show Act.put _ (some 19) _ = _
              simp only [Act.put, List.setIfInBounds_toArray, List.set_cons_zero, List.set_cons_succ, i64_w, i32_w]
              rfl
            refine pure_ (i := 13) (N := some 20) (v := ?_) (a' := ?_) #[true, true, true, true, true, true, true, true, true, true, true, true, true, true, true, true, false, false, false, false, false, false, false, false, false, false, false, false, false, false, false, false, false, false, false, false, false, false, false] rfl rfl (any_of HT_.out (by kernel_rfl)) (fun _ _ _ h => h) (Or.inl ⟨by rfl, ?_⟩) ?_ ?_
            rotate_left
            · intro w'
              go_simp
              with_reducible rfl
            rotate_left
            · simp only [Act.put, List.setIfInBounds_toArray, List.set_cons_zero, List.set_cons_succ, i64_w, i32_w]
              rfl
            refine one_ (i := 16) (N := some 23) #[true, true, true, true, true, true, true, true, true, true, true, true, true, true, true, true, true, false, false, false, false, false, false, false, false, false, false, false, false, false, false, false, false, false, false, false, false, false, false] rfl rfl (one_of HT_.out (by kernel_rfl)) (by decide) (fun K hK => ?_)
            refine goes_ Try.func43 (by kernel_rfl) rfl #[.agg #[.int .u64 a0_0, .int .i64 a0_1, .int .u64 a0_2, .int .i64 a0_3], .agg #[.int .u64 a1_0, .int .i64 a1_1, .int .u64 a1_2, .int .i64 a1_3]] (by rfl) rfl rfl (by (try simp only [List.map_toArray, List.map_cons, List.map_nil]); first | done | rfl | (simp only [List.length_drop, List.length_take]; rfl)) ?_
            with_reducible refine (folkmootref05_Less.calls k a0_0 a0_1 a0_2 a0_3 a1_0 a1_1 a1_2 a1_3 t495 _ A18.out).mono ?_
            rintro e w42 ⟨rfl, hb⟩
            refine ⟨_, rfl, ?_⟩
            have n0_ := Aside0.mk (blk_below (g := gb488) (o := .cells #[.int .u64 a0_0, .int .i64 a0_1, .int .u64 a0_2, .int .i64 a0_3] 27 (0, 0)) (by (with_reducible repeat (first | refine blk_drewN ?_ _ | refine blk_drew ?_ | refine blk_alloc ?_ _)); exact BK488.out) hb)
            have n1_ := Aside0.mk (blk_below (g := gb489) (o := .cells #[.int .u64 a1_0, .int .i64 a1_1, .int .u64 a1_2, .int .i64 a1_3] 27 (0, 0)) (by (with_reducible repeat (first | refine blk_drewN ?_ _ | refine blk_drew ?_ | refine blk_alloc ?_ _)); exact BK489.out) hb)
            have n2_ := Aside0.mk (blk_below (g := gb490) (o := .cells #[.int .u64 a2_0, .int .i64 a2_1, .int .u64 a2_2, .int .i64 a2_3] 27 (0, 0)) (by (with_reducible repeat (first | refine blk_drewN ?_ _ | refine blk_drew ?_ | refine blk_alloc ?_ _)); exact BK490.out) hb)
            have n3_ := Aside0.mk (below_step (by repeat (first | (with_reducible first | exact HB.out | apply below_alloc | apply pw_below_drewN | apply below_drew1 | refine below_set ?_ GE488.out | refine below_set ?_ GE489.out | refine below_set ?_ GE490.out) | exact HB.out)) hb)
            clear BK488
            clear BK489
            clear BK490
            clear HB
            have BK488 := n0_
            have BK489 := n1_
            have BK490 := n2_
            have HB := n3_
            clear n0_ n1_ n2_ n3_
            (try clear hb)
            (try clear hb2)
            (try clear hk)
            (try clear hi)
            refine hK.out _ _ ⟨(blk_cell BK488.out 0).trans rfl, (blk_cell BK488.out 1).trans rfl, (blk_cell BK488.out 2).trans rfl, (blk_cell BK488.out 3).trans rfl, (blk_cell BK489.out 0).trans rfl, (blk_cell BK489.out 1).trans rfl, (blk_cell BK489.out 2).trans rfl, (blk_cell BK489.out 3).trans rfl⟩ (fun hHeld => ?_)
            clear hK K
            refine norm_ (a' := ?_) ?_ ?_
            rotate_left
            · show Act.put _ (some 23) _ = _
              simp only [Act.put, List.setIfInBounds_toArray, List.set_cons_zero, List.set_cons_succ, i64_w, i32_w]
              rfl
            refine pure_ (i := 17) (N := some 24) (v := ?_) (a' := ?_) #[true, true, true, true, true, true, true, true, true, true, true, true, true, true, true, true, true, true, false, false, false, false, false, false, false, false, false, false, false, false, false, false, false, false, false, false, false, false, false] rfl rfl (any_of HT_.out (by kernel_rfl)) (fun _ _ _ h => h) (Or.inl ⟨by rfl, ?_⟩) ?_ ?_
            rotate_left
            · intro w'
              go_simp
              with_reducible rfl
            rotate_left
            · simp only [Act.put, List.setIfInBounds_toArray, List.set_cons_zero, List.set_cons_succ, i64_w, i32_w]
              rfl
            refine pure_ (i := 18) (N := some 25) (v := ?_) (a' := ?_) #[true, true, true, true, true, true, true, true, true, true, true, true, true, true, true, true, true, true, true, false, false, false, false, false, false, false, false, false, false, false, false, false, false, false, false, false, false, false, false] rfl rfl (any_of HT_.out (by kernel_rfl)) (fun _ _ _ h => h) (Or.inl ⟨by rfl, ?_⟩) ?_ ?_
            rotate_left
            · intro w'
              go_simp
              with_reducible rfl
            rotate_left
            · simp only [Act.put, List.setIfInBounds_toArray, List.set_cons_zero, List.set_cons_succ, i64_w, i32_w]
              rfl
            refine pure_ (i := 19) (N := some 26) (v := ?_) (a' := ?_) #[true, true, true, true, true, true, true, true, true, true, true, true, true, true, true, true, true, true, true, true, false, false, false, false, false, false, false, false, false, false, false, false, false, false, false, false, false, false, false] rfl rfl (any_of HT_.out (by kernel_rfl)) (fun _ _ _ h => h) (Or.inl ⟨by rfl, ?_⟩) ?_ ?_
            rotate_left
            · intro w'
              go_simp
              with_reducible rfl
            rotate_left
            · simp only [Act.put, List.setIfInBounds_toArray, List.set_cons_zero, List.set_cons_succ, i64_w, i32_w]
              rfl
            refine take_ (i := 20) (N := some 27) (v := ?_) (a' := ?_) #[true, true, true, true, true, true, true, true, true, true, true, true, true, true, true, true, true, true, true, true, true, false, false, false, false, false, false, false, false, false, false, false, false, false, false, false, false, false, false] rfl rfl (take_ofW HT_.out HW_.out (by kernel_rfl)) (fun _ _ _ h => h) (Or.inl ⟨by rfl, ?_⟩) hHeld ?_ ?_
            rotate_left
            · rintro w' ⟨s0, s1, s2, s3, s4, s5, s6, s7⟩
              go_simp
              with_reducible rfl
            rotate_left
            · simp only [Act.put, List.setIfInBounds_toArray, List.set_cons_zero, List.set_cons_succ, i64_w, i32_w]
              rfl
            refine take_ (i := 21) (N := some 28) (v := ?_) (a' := ?_) #[true, true, true, true, true, true, true, true, true, true, true, true, true, true, true, true, true, true, true, true, true, true, false, false, false, false, false, false, false, false, false, false, false, false, false, false, false, false, false] rfl rfl (take_ofW HT_.out HW_.out (by kernel_rfl)) (fun _ _ _ h => h) (Or.inl ⟨by rfl, ?_⟩) hHeld ?_ ?_
            rotate_left
            · rintro w' ⟨s0, s1, s2, s3, s4, s5, s6, s7⟩
              go_simp
              with_reducible rfl
            rotate_left
            · simp only [Act.put, List.setIfInBounds_toArray, List.set_cons_zero, List.set_cons_succ, i64_w, i32_w]
              rfl
            refine take_ (i := 24) (N := some 31) (v := ?_) (a' := ?_) #[true, true, true, true, true, true, true, true, true, true, true, true, true, true, true, true, true, true, true, true, true, true, false, false, true, false, false, false, false, false, false, false, false, false, false, false, false, false, false] rfl rfl (take_ofW HT_.out HW_.out (by kernel_rfl)) (fun _ _ _ h => h) (Or.inl ⟨by rfl, ?_⟩) hHeld ?_ ?_
            rotate_left
            · rintro w' ⟨s0, s1, s2, s3, s4, s5, s6, s7⟩
              go_simp
              with_reducible rfl
            rotate_left
            · simp only [Act.put, List.setIfInBounds_toArray, List.set_cons_zero, List.set_cons_succ, i64_w, i32_w]
              rfl
            refine take_ (i := 25) (N := some 32) (v := ?_) (a' := ?_) #[true, true, true, true, true, true, true, true, true, true, true, true, true, true, true, true, true, true, true, true, true, true, false, false, true, true, false, false, false, false, false, false, false, false, false, false, false, false, false] rfl rfl (take_ofW HT_.out HW_.out (by kernel_rfl)) (fun _ _ _ h => h) (Or.inl ⟨by rfl, ?_⟩) hHeld ?_ ?_
            rotate_left
            · rintro w' ⟨s0, s1, s2, s3, s4, s5, s6, s7⟩
              go_simp
              with_reducible rfl
            rotate_left
            · simp only [Act.put, List.setIfInBounds_toArray, List.set_cons_zero, List.set_cons_succ, i64_w, i32_w]
              rfl
            refine pure_ (i := 26) (N := some 33) (v := ?_) (a' := ?_) #[true, true, true, true, true, true, true, true, true, true, true, true, true, true, true, true, true, true, true, true, true, true, false, false, true, true, true, false, false, false, false, false, false, false, false, false, false, false, false] rfl rfl (any_of HT_.out (by kernel_rfl)) (fun _ _ _ h => h) (Or.inl ⟨by rfl, ?_⟩) ?_ ?_
            rotate_left
            · intro w'
              go_simp
              with_reducible rfl
            rotate_left
            · simp only [Act.put, List.setIfInBounds_toArray, List.set_cons_zero, List.set_cons_succ, i64_w, i32_w]
              rfl
            refine one_ (i := 22) (N := some 29) #[true, true, true, true, true, true, true, true, true, true, true, true, true, true, true, true, true, true, true, true, true, true, true, false, true, true, true, false, false, false, false, false, false, false, false, false, false, false, false] rfl rfl (one_of HT_.out (by kernel_rfl)) (by decide) (fun K hK => ?_)
            refine goes_ Try.func42 (by kernel_rfl) rfl #[.agg #[.int .u64 a0_0, .int .i64 a0_1, .int .u64 a0_2, .int .i64 a0_3], .agg #[.int .u64 a1_0, .int .i64 a1_1, .int .u64 a1_2, .int .i64 a1_3]] (by rfl) rfl rfl (by (try simp only [List.map_toArray, List.map_cons, List.map_nil]); first | done | rfl | (simp only [List.length_drop, List.length_take]; rfl)) ?_
            with_reducible refine (label_Compare.calls k a0_0 a0_1 a0_2 a0_3 a1_0 a1_1 a1_2 a1_3 t496 _ A26.out).mono ?_
            rintro e w43 ⟨rfl, hb⟩
            refine ⟨_, rfl, ?_⟩
            have n0_ := Aside0.mk (blk_below (g := gb488) (o := .cells #[.int .u64 a0_0, .int .i64 a0_1, .int .u64 a0_2, .int .i64 a0_3] 27 (0, 0)) (by (with_reducible repeat (first | refine blk_drewN ?_ _ | refine blk_drew ?_ | refine blk_alloc ?_ _)); exact BK488.out) hb)
            have n1_ := Aside0.mk (blk_below (g := gb489) (o := .cells #[.int .u64 a1_0, .int .i64 a1_1, .int .u64 a1_2, .int .i64 a1_3] 27 (0, 0)) (by (with_reducible repeat (first | refine blk_drewN ?_ _ | refine blk_drew ?_ | refine blk_alloc ?_ _)); exact BK489.out) hb)
            have n2_ := Aside0.mk (blk_below (g := gb490) (o := .cells #[.int .u64 a2_0, .int .i64 a2_1, .int .u64 a2_2, .int .i64 a2_3] 27 (0, 0)) (by (with_reducible repeat (first | refine blk_drewN ?_ _ | refine blk_drew ?_ | refine blk_alloc ?_ _)); exact BK490.out) hb)
            have n3_ := Aside0.mk (below_step (by repeat (first | (with_reducible first | exact HB.out | apply below_alloc | apply pw_below_drewN | apply below_drew1 | refine below_set ?_ GE488.out | refine below_set ?_ GE489.out | refine below_set ?_ GE490.out) | exact HB.out)) hb)
            clear BK488
            clear BK489
            clear BK490
            clear HB
            have BK488 := n0_
            have BK489 := n1_
            have BK490 := n2_
            have HB := n3_
            clear n0_ n1_ n2_ n3_
            (try clear hb)
            (try clear hb2)
            (try clear hk)
            (try clear hi)
            refine hK.out _ _ ⟨(blk_cell BK488.out 0).trans rfl, (blk_cell BK488.out 1).trans rfl, (blk_cell BK488.out 2).trans rfl, (blk_cell BK488.out 3).trans rfl, (blk_cell BK489.out 0).trans rfl, (blk_cell BK489.out 1).trans rfl, (blk_cell BK489.out 2).trans rfl, (blk_cell BK489.out 3).trans rfl⟩ (fun hHeld => ?_)
            clear hK K
            refine norm_ (a' := ?_) ?_ ?_
            rotate_left
            · show Act.put _ (some 29) _ = _
              simp only [Act.put, List.setIfInBounds_toArray, List.set_cons_zero, List.set_cons_succ, i64_w, i32_w]
              rfl
            refine pure_ (i := 23) (N := some 30) (v := ?_) (a' := ?_) #[true, true, true, true, true, true, true, true, true, true, true, true, true, true, true, true, true, true, true, true, true, true, true, true, true, true, true, false, false, false, false, false, false, false, false, false, false, false, false] rfl rfl (any_of HT_.out (by kernel_rfl)) (fun _ _ _ h => h) (Or.inl ⟨by rfl, ?_⟩) ?_ ?_
            rotate_left
            · intro w'
              go_simp
              with_reducible rfl
            rotate_left
            · simp only [Act.put, List.setIfInBounds_toArray, List.set_cons_zero, List.set_cons_succ, i64_w, i32_w]
              rfl
            refine pure_ (i := 27) (N := some 34) (v := ?_) (a' := ?_) #[true, true, true, true, true, true, true, true, true, true, true, true, true, true, true, true, true, true, true, true, true, true, true, true, true, true, true, true, false, false, false, false, false, false, false, false, false, false, false] rfl rfl (any_of HT_.out (by kernel_rfl)) (fun _ _ _ h => h) (Or.inl ⟨by rfl, ?_⟩) ?_ ?_
            rotate_left
            · intro w'
              go_simp
              with_reducible rfl
            rotate_left
            · simp only [Act.put, List.setIfInBounds_toArray, List.set_cons_zero, List.set_cons_succ, i64_w, i32_w]
              rfl
            refine pure_ (i := 28) (N := some 35) (v := ?_) (a' := ?_) #[true, true, true, true, true, true, true, true, true, true, true, true, true, true, true, true, true, true, true, true, true, true, true, true, true, true, true, true, true, false, false, false, false, false, false, false, false, false, false] rfl rfl (any_of HT_.out (by kernel_rfl)) (fun _ _ _ h => h) (Or.inl ⟨by rfl, ?_⟩) ?_ ?_
            rotate_left
            · intro w'
              go_simp
              with_reducible rfl
            rotate_left
            · simp only [Act.put, List.setIfInBounds_toArray, List.set_cons_zero, List.set_cons_succ, i64_w, i32_w]
              rfl
            refine pure_ (i := 29) (N := some 36) (v := ?_) (a' := ?_) #[true, true, true, true, true, true, true, true, true, true, true, true, true, true, true, true, true, true, true, true, true, true, true, true, true, true, true, true, true, true, false, false, false, false, false, false, false, false, false] rfl rfl (any_of HT_.out (by kernel_rfl)) (fun _ _ _ h => h) (Or.inl ⟨by rfl, ?_⟩) ?_ ?_
            rotate_left
            · intro w'
              go_simp
              with_reducible rfl
            rotate_left
            · simp only [Act.put, List.setIfInBounds_toArray, List.set_cons_zero, List.set_cons_succ, i64_w, i32_w]
              rfl
            refine take_ (i := 30) (N := some 37) (v := ?_) (a' := ?_) #[true, true, true, true, true, true, true, true, true, true, true, true, true, true, true, true, true, true, true, true, true, true, true, true, true, true, true, true, true, true, true, false, false, false, false, false, false, false, false] rfl rfl (take_ofW HT_.out HW_.out (by kernel_rfl)) (fun _ _ _ h => h) (Or.inl ⟨by rfl, ?_⟩) hHeld ?_ ?_
            rotate_left
            · rintro w' ⟨s0, s1, s2, s3, s4, s5, s6, s7⟩
              go_simp
              with_reducible rfl
            rotate_left
            · simp only [Act.put, List.setIfInBounds_toArray, List.set_cons_zero, List.set_cons_succ, i64_w, i32_w]
              rfl
            refine take_ (i := 31) (N := some 38) (v := ?_) (a' := ?_) #[true, true, true, true, true, true, true, true, true, true, true, true, true, true, true, true, true, true, true, true, true, true, true, true, true, true, true, true, true, true, true, true, false, false, false, false, false, false, false] rfl rfl (take_ofW HT_.out HW_.out (by kernel_rfl)) (fun _ _ _ h => h) (Or.inl ⟨by rfl, ?_⟩) hHeld ?_ ?_
            rotate_left
            · rintro w' ⟨s0, s1, s2, s3, s4, s5, s6, s7⟩
              go_simp
              with_reducible rfl
            rotate_left
            · simp only [Act.put, List.setIfInBounds_toArray, List.set_cons_zero, List.set_cons_succ, i64_w, i32_w]
              rfl
            refine take_ (i := 33) (N := some 40) (v := ?_) (a' := ?_) #[true, true, true, true, true, true, true, true, true, true, true, true, true, true, true, true, true, true, true, true, true, true, true, true, true, true, true, true, true, true, true, true, false, true, false, false, false, false, false] rfl rfl (take_ofW HT_.out HW_.out (by kernel_rfl)) (fun _ _ _ h => h) (Or.inl ⟨by rfl, ?_⟩) hHeld ?_ ?_
            rotate_left
            · rintro w' ⟨s0, s1, s2, s3, s4, s5, s6, s7⟩
              go_simp
              with_reducible rfl
            rotate_left
            · simp only [Act.put, List.setIfInBounds_toArray, List.set_cons_zero, List.set_cons_succ, i64_w, i32_w]
              rfl
            refine take_ (i := 34) (N := some 41) (v := ?_) (a' := ?_) #[true, true, true, true, true, true, true, true, true, true, true, true, true, true, true, true, true, true, true, true, true, true, true, true, true, true, true, true, true, true, true, true, false, true, true, false, false, false, false] rfl rfl (take_ofW HT_.out HW_.out (by kernel_rfl)) (fun _ _ _ h => h) (Or.inl ⟨by rfl, ?_⟩) hHeld ?_ ?_
            rotate_left
            · rintro w' ⟨s0, s1, s2, s3, s4, s5, s6, s7⟩
              go_simp
              with_reducible rfl
            rotate_left
            · simp only [Act.put, List.setIfInBounds_toArray, List.set_cons_zero, List.set_cons_succ, i64_w, i32_w]
              rfl
            refine one_ (i := 32) (N := some 39) #[true, true, true, true, true, true, true, true, true, true, true, true, true, true, true, true, true, true, true, true, true, true, true, true, true, true, true, true, true, true, true, true, true, true, true, false, false, false, false] rfl rfl (one_of HT_.out (by kernel_rfl)) (by decide) (fun K hK => ?_)
            refine goes_ Try.func42 (by kernel_rfl) rfl #[.agg #[.int .u64 a0_0, .int .i64 a0_1, .int .u64 a0_2, .int .i64 a0_3], .agg #[.int .u64 a1_0, .int .i64 a1_1, .int .u64 a1_2, .int .i64 a1_3]] (by rfl) rfl rfl (by (try simp only [List.map_toArray, List.map_cons, List.map_nil]); first | done | rfl | (simp only [List.length_drop, List.length_take]; rfl)) ?_
            with_reducible refine (label_Compare.calls k a0_0 a0_1 a0_2 a0_3 a1_0 a1_1 a1_2 a1_3 t497 _ A35.out).mono ?_
            rintro e w44 ⟨rfl, hb⟩
            refine ⟨_, rfl, ?_⟩
            have n0_ := Aside0.mk (blk_below (g := gb488) (o := .cells #[.int .u64 a0_0, .int .i64 a0_1, .int .u64 a0_2, .int .i64 a0_3] 27 (0, 0)) (by (with_reducible repeat (first | refine blk_drewN ?_ _ | refine blk_drew ?_ | refine blk_alloc ?_ _)); exact BK488.out) hb)
            have n1_ := Aside0.mk (blk_below (g := gb489) (o := .cells #[.int .u64 a1_0, .int .i64 a1_1, .int .u64 a1_2, .int .i64 a1_3] 27 (0, 0)) (by (with_reducible repeat (first | refine blk_drewN ?_ _ | refine blk_drew ?_ | refine blk_alloc ?_ _)); exact BK489.out) hb)
            have n2_ := Aside0.mk (blk_below (g := gb490) (o := .cells #[.int .u64 a2_0, .int .i64 a2_1, .int .u64 a2_2, .int .i64 a2_3] 27 (0, 0)) (by (with_reducible repeat (first | refine blk_drewN ?_ _ | refine blk_drew ?_ | refine blk_alloc ?_ _)); exact BK490.out) hb)
            have n3_ := Aside0.mk (below_step (by repeat (first | (with_reducible first | exact HB.out | apply below_alloc | apply pw_below_drewN | apply below_drew1 | refine below_set ?_ GE488.out | refine below_set ?_ GE489.out | refine below_set ?_ GE490.out) | exact HB.out)) hb)
            clear BK488
            clear BK489
            clear BK490
            clear HB
            have BK488 := n0_
            have BK489 := n1_
            have BK490 := n2_
            have HB := n3_
            clear n0_ n1_ n2_ n3_
            (try clear hb)
            (try clear hb2)
            (try clear hk)
            (try clear hi)
            refine hK.out _ _ ⟨(blk_cell BK488.out 0).trans rfl, (blk_cell BK488.out 1).trans rfl, (blk_cell BK488.out 2).trans rfl, (blk_cell BK488.out 3).trans rfl, (blk_cell BK489.out 0).trans rfl, (blk_cell BK489.out 1).trans rfl, (blk_cell BK489.out 2).trans rfl, (blk_cell BK489.out 3).trans rfl⟩ (fun hHeld => ?_)
            clear hK K
            refine norm_ (a' := ?_) ?_ ?_
            rotate_left
            · show Act.put _ (some 39) _ = _
              simp only [Act.put, List.setIfInBounds_toArray, List.set_cons_zero, List.set_cons_succ, i64_w, i32_w]
              rfl
            refine one_ (i := 35) (N := some 42) #[true, true, true, true, true, true, true, true, true, true, true, true, true, true, true, true, true, true, true, true, true, true, true, true, true, true, true, true, true, true, true, true, true, true, true, true, false, false, false] rfl rfl (one_of HT_.out (by kernel_rfl)) (by decide) (fun K hK => ?_)
            refine goes_ Try.func42 (by kernel_rfl) rfl #[.agg #[.int .u64 a1_0, .int .i64 a1_1, .int .u64 a1_2, .int .i64 a1_3], .agg #[.int .u64 a0_0, .int .i64 a0_1, .int .u64 a0_2, .int .i64 a0_3]] (by rfl) rfl rfl (by (try simp only [List.map_toArray, List.map_cons, List.map_nil]); first | done | rfl | (simp only [List.length_drop, List.length_take]; rfl)) ?_
            with_reducible refine (label_Compare.calls k a1_0 a1_1 a1_2 a1_3 a0_0 a0_1 a0_2 a0_3 t498 _ A36.out).mono ?_
            rintro e w45 ⟨rfl, hb⟩
            refine ⟨_, rfl, ?_⟩
            have n0_ := Aside0.mk (blk_below (g := gb488) (o := .cells #[.int .u64 a0_0, .int .i64 a0_1, .int .u64 a0_2, .int .i64 a0_3] 27 (0, 0)) (by (with_reducible repeat (first | refine blk_drewN ?_ _ | refine blk_drew ?_ | refine blk_alloc ?_ _)); exact BK488.out) hb)
            have n1_ := Aside0.mk (blk_below (g := gb489) (o := .cells #[.int .u64 a1_0, .int .i64 a1_1, .int .u64 a1_2, .int .i64 a1_3] 27 (0, 0)) (by (with_reducible repeat (first | refine blk_drewN ?_ _ | refine blk_drew ?_ | refine blk_alloc ?_ _)); exact BK489.out) hb)
            have n2_ := Aside0.mk (blk_below (g := gb490) (o := .cells #[.int .u64 a2_0, .int .i64 a2_1, .int .u64 a2_2, .int .i64 a2_3] 27 (0, 0)) (by (with_reducible repeat (first | refine blk_drewN ?_ _ | refine blk_drew ?_ | refine blk_alloc ?_ _)); exact BK490.out) hb)
            have n3_ := Aside0.mk (below_step (by repeat (first | (with_reducible first | exact HB.out | apply below_alloc | apply pw_below_drewN | apply below_drew1 | refine below_set ?_ GE488.out | refine below_set ?_ GE489.out | refine below_set ?_ GE490.out) | exact HB.out)) hb)
            clear BK488
            clear BK489
            clear BK490
            clear HB
            have BK488 := n0_
            have BK489 := n1_
            have BK490 := n2_
            have HB := n3_
            clear n0_ n1_ n2_ n3_
            (try clear hb)
            (try clear hb2)
            (try clear hk)
            (try clear hi)
            refine hK.out _ _ ⟨(blk_cell BK488.out 0).trans rfl, (blk_cell BK488.out 1).trans rfl, (blk_cell BK488.out 2).trans rfl, (blk_cell BK488.out 3).trans rfl, (blk_cell BK489.out 0).trans rfl, (blk_cell BK489.out 1).trans rfl, (blk_cell BK489.out 2).trans rfl, (blk_cell BK489.out 3).trans rfl⟩ (fun hHeld => ?_)
            clear hK K
            refine norm_ (a' := ?_) ?_ ?_
            rotate_left
            · show Act.put _ (some 42) _ = _
              simp only [Act.put, List.setIfInBounds_toArray, List.set_cons_zero, List.set_cons_succ, i64_w, i32_w]
              rfl
            refine pure_ (i := 36) (N := some 43) (v := ?_) (a' := ?_) #[true, true, true, true, true, true, true, true, true, true, true, true, true, true, true, true, true, true, true, true, true, true, true, true, true, true, true, true, true, true, true, true, true, true, true, true, true, false, false] rfl rfl (any_of HT_.out (by kernel_rfl)) (fun _ _ _ h => h) (Or.inl ⟨by rfl, ?_⟩) ?_ ?_
            rotate_left
            · intro w'
              go_simp
              with_reducible rfl
            rotate_left
            · simp only [Act.put, List.setIfInBounds_toArray, List.set_cons_zero, List.set_cons_succ, i64_w, i32_w]
              rfl
            refine pure_ (i := 37) (N := some 44) (v := ?_) (a' := ?_) #[true, true, true, true, true, true, true, true, true, true, true, true, true, true, true, true, true, true, true, true, true, true, true, true, true, true, true, true, true, true, true, true, true, true, true, true, true, true, false] rfl rfl (any_of HT_.out (by kernel_rfl)) (fun _ _ _ h => h) (Or.inl ⟨by rfl, ?_⟩) ?_ ?_
            rotate_left
            · intro w'
              go_simp
              with_reducible rfl
            rotate_left
            · simp only [Act.put, List.setIfInBounds_toArray, List.set_cons_zero, List.set_cons_succ, i64_w, i32_w]
              rfl
            refine pure_ (i := 38) (N := some 45) (v := ?_) (a' := ?_) #[true, true, true, true, true, true, true, true, true, true, true, true, true, true, true, true, true, true, true, true, true, true, true, true, true, true, true, true, true, true, true, true, true, true, true, true, true, true, true] rfl rfl (any_of HT_.out (by kernel_rfl)) (fun _ _ _ h => h) (Or.inl ⟨by rfl, ?_⟩) ?_ ?_
            rotate_left
            · intro w'
              go_simp
              with_reducible rfl
            rotate_left
            · simp only [Act.put, List.setIfInBounds_toArray, List.set_cons_zero, List.set_cons_succ, i64_w, i32_w]
              rfl
            refine done_ (done_of HT_.out (by kernel_rfl)) ?_
            (try clear hHeld); (try clear HS0_)
            try go_wp2
            go_meet
            case rel => exact ⟨_, ((t497 != (wrap64 (-t498)))), (by first | rfl | (simp; done) | (simp [*]; done)), H', ⟨by first | omega | exact Nat.le_refl _⟩, ⟨by (with_reducible repeat (first | refine blk_drewN ?_ _ | refine blk_drew ?_ | refine blk_alloc ?_ _)); exact BK488.out⟩, ⟨by (with_reducible repeat (first | refine blk_drewN ?_ _ | refine blk_drew ?_ | refine blk_alloc ?_ _)); exact BK489.out⟩, ⟨by (with_reducible repeat (first | refine blk_drewN ?_ _ | refine blk_drew ?_ | refine blk_alloc ?_ _)); exact BK490.out⟩, ⟨by repeat (first | (with_reducible first | exact HB.out | apply below_alloc | apply pw_below_drewN | apply below_drew1 | refine below_set ?_ GE488.out | refine below_set ?_ GE489.out | refine below_set ?_ GE490.out) | exact HB.out)⟩⟩
    · replace c9 := Bool.eq_false_iff.mpr c9
      subst c9
      have H1 : (folkmootlaw05_LabelOrder.j0 k true a0_0 a0_1 a0_2 a0_3 a1_0 a1_1 a1_2 a1_3 a2_0 a2_1 a2_2 a2_3) = some r := by rw [if_neg (show ¬ (false = true) by decide)] at H; exact H
      clear H
      have H := H1
      clear H1
      have H' := Aside0.mk H
      clear H
      try go_wp2
      have n0_ := Aside0.mk (blk_drew BK488.out)
      have n1_ := Aside0.mk (blk_drew BK489.out)
      have n2_ := Aside0.mk (blk_drew BK490.out)
      have n3_ := Aside0.mk (below_drew1 HB.out)
      clear BK488
      clear BK489
      clear BK490
      clear HB
      have BK488 := n0_
      have BK489 := n1_
      have BK490 := n2_
      have HB := n3_
      clear n0_ n1_ n2_ n3_
      refine start_ (n := 39) (S := fun w' => True) (ds := []) #[false, false, false, false, false, false, false, false, false, false, false, false, false, false, false, false, false, false, false, false, false, false, false, false, false, false, false, false, false, false, false, false, false, false, false, false, false, false, false] (by kernel_rfl) rfl rfl trivial (fun hHeld => ?_); refine with_tabW folkmootlaw05_LabelOrder.tab1 folkmootlaw05_LabelOrder.bits1 (fun HT_ HW_ => ?_)
      generalize w7.drew = w46 at BK488 BK489 BK490 HB hHeld ⊢
      refine one_ (i := 0) (N := some 7) #[true, false, false, false, false, false, false, false, false, false, false, false, false, false, false, false, false, false, false, false, false, false, false, false, false, false, false, false, false, false, false, false, false, false, false, false, false, false, false] rfl rfl (one_of HT_.out (by kernel_rfl)) (by decide) (fun K hK => ?_)
      refine goes_ Try.func33 (by kernel_rfl) rfl #[] (by rfl) rfl rfl (by (try simp only [List.map_toArray, List.map_cons, List.map_nil]); first | done | rfl | (simp only [List.length_drop, List.length_take]; rfl)) ?_
      with_reducible refine (folkmootlaw05_awake.calls  false _ A8.out).mono ?_
      rintro e w47 ⟨rfl, hb⟩
      refine ⟨_, rfl, ?_⟩
      have n0_ := Aside0.mk (blk_below (g := gb488) (o := .cells #[.int .u64 a0_0, .int .i64 a0_1, .int .u64 a0_2, .int .i64 a0_3] 27 (0, 0)) (by (with_reducible repeat (first | refine blk_drewN ?_ _ | refine blk_drew ?_ | refine blk_alloc ?_ _)); exact BK488.out) hb)
      have n1_ := Aside0.mk (blk_below (g := gb489) (o := .cells #[.int .u64 a1_0, .int .i64 a1_1, .int .u64 a1_2, .int .i64 a1_3] 27 (0, 0)) (by (with_reducible repeat (first | refine blk_drewN ?_ _ | refine blk_drew ?_ | refine blk_alloc ?_ _)); exact BK489.out) hb)
      have n2_ := Aside0.mk (blk_below (g := gb490) (o := .cells #[.int .u64 a2_0, .int .i64 a2_1, .int .u64 a2_2, .int .i64 a2_3] 27 (0, 0)) (by (with_reducible repeat (first | refine blk_drewN ?_ _ | refine blk_drew ?_ | refine blk_alloc ?_ _)); exact BK490.out) hb)
      have n3_ := Aside0.mk (below_step (by repeat (first | (with_reducible first | exact HB.out | apply below_alloc | apply pw_below_drewN | apply below_drew1 | refine below_set ?_ GE488.out | refine below_set ?_ GE489.out | refine below_set ?_ GE490.out) | exact HB.out)) hb)
      clear BK488
      clear BK489
      clear BK490
      clear HB
      have BK488 := n0_
      have BK489 := n1_
      have BK490 := n2_
      have HB := n3_
      clear n0_ n1_ n2_ n3_
      (try clear hb)
      (try clear hb2)
      (try clear hk)
      (try clear hi)
      refine hK.out _ _ trivial (fun hHeld => ?_)
      clear hK K
      refine norm_ (a' := ?_) ?_ ?_
      rotate_left
      · show Act.put _ (some 7) _ = _
        simp only [Act.put, List.setIfInBounds_toArray, List.set_cons_zero, List.set_cons_succ, i64_w, i32_w]
        rfl
      refine pure_ (i := 1) (N := some 8) (v := ?_) (a' := ?_) #[true, true, false, false, false, false, false, false, false, false, false, false, false, false, false, false, false, false, false, false, false, false, false, false, false, false, false, false, false, false, false, false, false, false, false, false, false, false, false] rfl rfl (any_of HT_.out (by kernel_rfl)) (fun _ _ _ h => h) (Or.inl ⟨by rfl, ?_⟩) ?_ ?_
      rotate_left
      · intro w'
        go_simp
        with_reducible rfl
      rotate_left
      · simp only [Act.put, List.setIfInBounds_toArray, List.set_cons_zero, List.set_cons_succ, i64_w, i32_w]
        rfl
      refine pure_ (i := 2) (N := some 9) (v := ?_) (a' := ?_) #[true, true, true, false, false, false, false, false, false, false, false, false, false, false, false, false, false, false, false, false, false, false, false, false, false, false, false, false, false, false, false, false, false, false, false, false, false, false, false] rfl rfl (any_of HT_.out (by kernel_rfl)) (fun _ _ _ h => h) (Or.inl ⟨by rfl, ?_⟩) ?_ ?_
      rotate_left
      · intro w'
        go_simp
        with_reducible rfl
      rotate_left
      · simp only [Act.put, List.setIfInBounds_toArray, List.set_cons_zero, List.set_cons_succ, i64_w, i32_w]
        rfl
      refine pure_ (i := 3) (N := some 10) (v := undef) (a' := ?_) #[true, true, true, true, false, false, false, false, false, false, false, false, false, false, false, false, false, false, false, false, false, false, false, false, false, false, false, false, false, false, false, false, false, false, false, false, false, false, false] rfl rfl (any_of HT_.out (by kernel_rfl)) (fun _ _ _ h => h) (Or.inr ⟨by rfl, rfl⟩) ?_ ?_
      rotate_left
      · simp only [Act.put, List.setIfInBounds_toArray, List.set_cons_zero, List.set_cons_succ, i64_w, i32_w]
        rfl
      refine pure_ (i := 4) (N := some 11) (v := undef) (a' := ?_) #[true, true, true, true, true, false, false, false, false, false, false, false, false, false, false, false, false, false, false, false, false, false, false, false, false, false, false, false, false, false, false, false, false, false, false, false, false, false, false] rfl rfl (any_of HT_.out (by kernel_rfl)) (fun _ _ _ h => h) (Or.inr ⟨by rfl, rfl⟩) ?_ ?_
      rotate_left
      · simp only [Act.put, List.setIfInBounds_toArray, List.set_cons_zero, List.set_cons_succ, i64_w, i32_w]
        rfl
      refine pure_ (i := 5) (N := some 12) (v := undef) (a' := ?_) #[true, true, true, true, true, true, false, false, false, false, false, false, false, false, false, false, false, false, false, false, false, false, false, false, false, false, false, false, false, false, false, false, false, false, false, false, false, false, false] rfl rfl (any_of HT_.out (by kernel_rfl)) (fun _ _ _ h => h) (Or.inr ⟨by rfl, rfl⟩) ?_ ?_
      rotate_left
      · simp only [Act.put, List.setIfInBounds_toArray, List.set_cons_zero, List.set_cons_succ, i64_w, i32_w]
        rfl
      refine pure_ (i := 6) (N := some 13) (v := undef) (a' := ?_) #[true, true, true, true, true, true, true, false, false, false, false, false, false, false, false, false, false, false, false, false, false, false, false, false, false, false, false, false, false, false, false, false, false, false, false, false, false, false, false] rfl rfl (any_of HT_.out (by kernel_rfl)) (fun _ _ _ h => h) (Or.inr ⟨by rfl, rfl⟩) ?_ ?_
      rotate_left
      · simp only [Act.put, List.setIfInBounds_toArray, List.set_cons_zero, List.set_cons_succ, i64_w, i32_w]
        rfl
      refine pure_ (i := 7) (N := some 14) (v := undef) (a' := ?_) #[true, true, true, true, true, true, true, true, false, false, false, false, false, false, false, false, false, false, false, false, false, false, false, false, false, false, false, false, false, false, false, false, false, false, false, false, false, false, false] rfl rfl (any_of HT_.out (by kernel_rfl)) (fun _ _ _ h => h) (Or.inr ⟨by rfl, rfl⟩) ?_ ?_
      rotate_left
      · simp only [Act.put, List.setIfInBounds_toArray, List.set_cons_zero, List.set_cons_succ, i64_w, i32_w]
        rfl
      refine pure_ (i := 8) (N := some 15) (v := ?_) (a' := ?_) #[true, true, true, true, true, true, true, true, true, false, false, false, false, false, false, false, false, false, false, false, false, false, false, false, false, false, false, false, false, false, false, false, false, false, false, false, false, false, false] rfl rfl (any_of HT_.out (by kernel_rfl)) (fun _ _ _ h => h) (Or.inl ⟨by rfl, ?_⟩) ?_ ?_
      rotate_left
      · intro w'
        go_simp
        with_reducible rfl
      rotate_left
      · simp only [Act.put, List.setIfInBounds_toArray, List.set_cons_zero, List.set_cons_succ, i64_w, i32_w]
        rfl
      refine pure_ (i := 9) (N := some 16) (v := ?_) (a' := ?_) #[true, true, true, true, true, true, true, true, true, true, false, false, false, false, false, false, false, false, false, false, false, false, false, false, false, false, false, false, false, false, false, false, false, false, false, false, false, false, false] rfl rfl (any_of HT_.out (by kernel_rfl)) (fun _ _ _ h => h) (Or.inl ⟨by rfl, ?_⟩) ?_ ?_
      rotate_left
      · intro w'
        go_simp
        with_reducible rfl
      rotate_left
      · simp only [Act.put, List.setIfInBounds_toArray, List.set_cons_zero, List.set_cons_succ, i64_w, i32_w]
        rfl
      refine pure_ (i := 10) (N := some 17) (v := undef) (a' := ?_) #[true, true, true, true, true, true, true, true, true, true, true, false, false, false, false, false, false, false, false, false, false, false, false, false, false, false, false, false, false, false, false, false, false, false, false, false, false, false, false] rfl rfl (any_of HT_.out (by kernel_rfl)) (fun _ _ _ h => h) (Or.inr ⟨by rfl, rfl⟩) ?_ ?_
      rotate_left
      · simp only [Act.put, List.setIfInBounds_toArray, List.set_cons_zero, List.set_cons_succ, i64_w, i32_w]
        rfl
      refine pure_ (i := 11) (N := some 18) (v := undef) (a' := ?_) #[true, true, true, true, true, true, true, true, true, true, true, true, false, false, false, false, false, false, false, false, false, false, false, false, false, false, false, false, false, false, false, false, false, false, false, false, false, false, false] rfl rfl (any_of HT_.out (by kernel_rfl)) (fun _ _ _ h => h) (Or.inr ⟨by rfl, rfl⟩) ?_ ?_
      rotate_left
      · simp only [Act.put, List.setIfInBounds_toArray, List.set_cons_zero, List.set_cons_succ, i64_w, i32_w]
        rfl
      refine pure_ (i := 12) (N := some 19) (v := undef) (a' := ?_) #[true, true, true, true, true, true, true, true, true, true, true, true, true, false, false, false, false, false, false, false, false, false, false, false, false, false, false, false, false, false, false, false, false, false, false, false, false, false, false] rfl rfl (any_of HT_.out (by kernel_rfl)) (fun _ _ _ h => h) (Or.inr ⟨by rfl, rfl⟩) ?_ ?_
      rotate_left
      · simp only [Act.put, List.setIfInBounds_toArray, List.set_cons_zero, List.set_cons_succ, i64_w, i32_w]
        rfl
      refine pure_ (i := 13) (N := some 20) (v := undef) (a' := ?_) #[true, true, true, true, true, true, true, true, true, true, true, true, true, true, false, false, false, false, false, false, false, false, false, false, false, false, false, false, false, false, false, false, false, false, false, false, false, false, false] rfl rfl (any_of HT_.out (by kernel_rfl)) (fun _ _ _ h => h) (Or.inr ⟨by rfl, rfl⟩) ?_ ?_
      rotate_left
      · simp only [Act.put, List.setIfInBounds_toArray, List.set_cons_zero, List.set_cons_succ, i64_w, i32_w]
        rfl
      refine pure_ (i := 14) (N := some 21) (v := undef) (a' := ?_) #[true, true, true, true, true, true, true, true, true, true, true, true, true, true, true, false, false, false, false, false, false, false, false, false, false, false, false, false, false, false, false, false, false, false, false, false, false, false, false] rfl rfl (any_of HT_.out (by kernel_rfl)) (fun _ _ _ h => h) (Or.inr ⟨by rfl, rfl⟩) ?_ ?_
      rotate_left
      · simp only [Act.put, List.setIfInBounds_toArray, List.set_cons_zero, List.set_cons_succ, i64_w, i32_w]
        rfl
      refine pure_ (i := 15) (N := some 22) (v := undef) (a' := ?_) #[true, true, true, true, true, true, true, true, true, true, true, true, true, true, true, true, false, false, false, false, false, false, false, false, false, false, false, false, false, false, false, false, false, false, false, false, false, false, false] rfl rfl (any_of HT_.out (by kernel_rfl)) (fun _ _ _ h => h) (Or.inr ⟨by rfl, rfl⟩) ?_ ?_
      rotate_left
      · simp only [Act.put, List.setIfInBounds_toArray, List.set_cons_zero, List.set_cons_succ, i64_w, i32_w]
        rfl
      refine pure_ (i := 16) (N := some 23) (v := undef) (a' := ?_) #[true, true, true, true, true, true, true, true, true, true, true, true, true, true, true, true, true, false, false, false, false, false, false, false, false, false, false, false, false, false, false, false, false, false, false, false, false, false, false] rfl rfl (any_of HT_.out (by kernel_rfl)) (fun _ _ _ h => h) (Or.inr ⟨by rfl, rfl⟩) ?_ ?_
      rotate_left
      · simp only [Act.put, List.setIfInBounds_toArray, List.set_cons_zero, List.set_cons_succ, i64_w, i32_w]
        rfl
      refine pure_ (i := 17) (N := some 24) (v := undef) (a' := ?_) #[true, true, true, true, true, true, true, true, true, true, true, true, true, true, true, true, true, true, false, false, false, false, false, false, false, false, false, false, false, false, false, false, false, false, false, false, false, false, false] rfl rfl (any_of HT_.out (by kernel_rfl)) (fun _ _ _ h => h) (Or.inr ⟨by rfl, rfl⟩) ?_ ?_
      rotate_left
      · simp only [Act.put, List.setIfInBounds_toArray, List.set_cons_zero, List.set_cons_succ, i64_w, i32_w]
        rfl
      refine pure_ (i := 18) (N := some 25) (v := ?_) (a' := ?_) #[true, true, true, true, true, true, true, true, true, true, true, true, true, true, true, true, true, true, true, false, false, false, false, false, false, false, false, false, false, false, false, false, false, false, false, false, false, false, false] rfl rfl (any_of HT_.out (by kernel_rfl)) (fun _ _ _ h => h) (Or.inl ⟨by rfl, ?_⟩) ?_ ?_
      rotate_left
      · intro w'
        go_simp
        with_reducible rfl
      rotate_left
      · simp only [Act.put, List.setIfInBounds_toArray, List.set_cons_zero, List.set_cons_succ, i64_w, i32_w]
        rfl
      refine pure_ (i := 19) (N := some 26) (v := ?_) (a' := ?_) #[true, true, true, true, true, true, true, true, true, true, true, true, true, true, true, true, true, true, true, true, false, false, false, false, false, false, false, false, false, false, false, false, false, false, false, false, false, false, false] rfl rfl (any_of HT_.out (by kernel_rfl)) (fun _ _ _ h => h) (Or.inl ⟨by rfl, ?_⟩) ?_ ?_
      rotate_left
      · intro w'
        go_simp
        with_reducible rfl
      rotate_left
      · simp only [Act.put, List.setIfInBounds_toArray, List.set_cons_zero, List.set_cons_succ, i64_w, i32_w]
        rfl
      refine pure_ (i := 20) (N := some 27) (v := undef) (a' := ?_) #[true, true, true, true, true, true, true, true, true, true, true, true, true, true, true, true, true, true, true, true, true, false, false, false, false, false, false, false, false, false, false, false, false, false, false, false, false, false, false] rfl rfl (any_of HT_.out (by kernel_rfl)) (fun _ _ _ h => h) (Or.inr ⟨by rfl, rfl⟩) ?_ ?_
      rotate_left
      · simp only [Act.put, List.setIfInBounds_toArray, List.set_cons_zero, List.set_cons_succ, i64_w, i32_w]
        rfl
      refine pure_ (i := 21) (N := some 28) (v := undef) (a' := ?_) #[true, true, true, true, true, true, true, true, true, true, true, true, true, true, true, true, true, true, true, true, true, true, false, false, false, false, false, false, false, false, false, false, false, false, false, false, false, false, false] rfl rfl (any_of HT_.out (by kernel_rfl)) (fun _ _ _ h => h) (Or.inr ⟨by rfl, rfl⟩) ?_ ?_
      rotate_left
      · simp only [Act.put, List.setIfInBounds_toArray, List.set_cons_zero, List.set_cons_succ, i64_w, i32_w]
        rfl
      refine pure_ (i := 22) (N := some 29) (v := undef) (a' := ?_) #[true, true, true, true, true, true, true, true, true, true, true, true, true, true, true, true, true, true, true, true, true, true, true, false, false, false, false, false, false, false, false, false, false, false, false, false, false, false, false] rfl rfl (any_of HT_.out (by kernel_rfl)) (fun _ _ _ h => h) (Or.inr ⟨by rfl, rfl⟩) ?_ ?_
      rotate_left
      · simp only [Act.put, List.setIfInBounds_toArray, List.set_cons_zero, List.set_cons_succ, i64_w, i32_w]
        rfl
      refine pure_ (i := 23) (N := some 30) (v := undef) (a' := ?_) #[true, true, true, true, true, true, true, true, true, true, true, true, true, true, true, true, true, true, true, true, true, true, true, true, false, false, false, false, false, false, false, false, false, false, false, false, false, false, false] rfl rfl (any_of HT_.out (by kernel_rfl)) (fun _ _ _ h => h) (Or.inr ⟨by rfl, rfl⟩) ?_ ?_
      rotate_left
      · simp only [Act.put, List.setIfInBounds_toArray, List.set_cons_zero, List.set_cons_succ, i64_w, i32_w]
        rfl
      refine pure_ (i := 24) (N := some 31) (v := undef) (a' := ?_) #[true, true, true, true, true, true, true, true, true, true, true, true, true, true, true, true, true, true, true, true, true, true, true, true, true, false, false, false, false, false, false, false, false, false, false, false, false, false, false] rfl rfl (any_of HT_.out (by kernel_rfl)) (fun _ _ _ h => h) (Or.inr ⟨by rfl, rfl⟩) ?_ ?_
      rotate_left
      · simp only [Act.put, List.setIfInBounds_toArray, List.set_cons_zero, List.set_cons_succ, i64_w, i32_w]
        rfl
      refine pure_ (i := 25) (N := some 32) (v := undef) (a' := ?_) #[true, true, true, true, true, true, true, true, true, true, true, true, true, true, true, true, true, true, true, true, true, true, true, true, true, true, false, false, false, false, false, false, false, false, false, false, false, false, false] rfl rfl (any_of HT_.out (by kernel_rfl)) (fun _ _ _ h => h) (Or.inr ⟨by rfl, rfl⟩) ?_ ?_
      rotate_left
      · simp only [Act.put, List.setIfInBounds_toArray, List.set_cons_zero, List.set_cons_succ, i64_w, i32_w]
        rfl
      refine pure_ (i := 26) (N := some 33) (v := undef) (a' := ?_) #[true, true, true, true, true, true, true, true, true, true, true, true, true, true, true, true, true, true, true, true, true, true, true, true, true, true, true, false, false, false, false, false, false, false, false, false, false, false, false] rfl rfl (any_of HT_.out (by kernel_rfl)) (fun _ _ _ h => h) (Or.inr ⟨by rfl, rfl⟩) ?_ ?_
      rotate_left
      · simp only [Act.put, List.setIfInBounds_toArray, List.set_cons_zero, List.set_cons_succ, i64_w, i32_w]
        rfl
      refine pure_ (i := 27) (N := some 34) (v := undef) (a' := ?_) #[true, true, true, true, true, true, true, true, true, true, true, true, true, true, true, true, true, true, true, true, true, true, true, true, true, true, true, true, false, false, false, false, false, false, false, false, false, false, false] rfl rfl (any_of HT_.out (by kernel_rfl)) (fun _ _ _ h => h) (Or.inr ⟨by rfl, rfl⟩) ?_ ?_
      rotate_left
      · simp only [Act.put, List.setIfInBounds_toArray, List.set_cons_zero, List.set_cons_succ, i64_w, i32_w]
        rfl
      refine pure_ (i := 28) (N := some 35) (v := ?_) (a' := ?_) #[true, true, true, true, true, true, true, true, true, true, true, true, true, true, true, true, true, true, true, true, true, true, true, true, true, true, true, true, true, false, false, false, false, false, false, false, false, false, false] rfl rfl (any_of HT_.out (by kernel_rfl)) (fun _ _ _ h => h) (Or.inl ⟨by rfl, ?_⟩) ?_ ?_
      rotate_left
      · intro w'
        go_simp
        with_reducible rfl
      rotate_left
      · simp only [Act.put, List.setIfInBounds_toArray, List.set_cons_zero, List.set_cons_succ, i64_w, i32_w]
        rfl
      refine pure_ (i := 29) (N := some 36) (v := ?_) (a' := ?_) #[true, true, true, true, true, true, true, true, true, true, true, true, true, true, true, true, true, true, true, true, true, true, true, true, true, true, true, true, true, true, false, false, false, false, false, false, false, false, false] rfl rfl (any_of HT_.out (by kernel_rfl)) (fun _ _ _ h => h) (Or.inl ⟨by rfl, ?_⟩) ?_ ?_
      rotate_left
      · intro w'
        go_simp
        with_reducible rfl
      rotate_left
      · simp only [Act.put, List.setIfInBounds_toArray, List.set_cons_zero, List.set_cons_succ, i64_w, i32_w]
        rfl
      refine pure_ (i := 30) (N := some 37) (v := undef) (a' := ?_) #[true, true, true, true, true, true, true, true, true, true, true, true, true, true, true, true, true, true, true, true, true, true, true, true, true, true, true, true, true, true, true, false, false, false, false, false, false, false, false] rfl rfl (any_of HT_.out (by kernel_rfl)) (fun _ _ _ h => h) (Or.inr ⟨by rfl, rfl⟩) ?_ ?_
      rotate_left
      · simp only [Act.put, List.setIfInBounds_toArray, List.set_cons_zero, List.set_cons_succ, i64_w, i32_w]
        rfl
      refine pure_ (i := 31) (N := some 38) (v := undef) (a' := ?_) #[true, true, true, true, true, true, true, true, true, true, true, true, true, true, true, true, true, true, true, true, true, true, true, true, true, true, true, true, true, true, true, true, false, false, false, false, false, false, false] rfl rfl (any_of HT_.out (by kernel_rfl)) (fun _ _ _ h => h) (Or.inr ⟨by rfl, rfl⟩) ?_ ?_
      rotate_left
      · simp only [Act.put, List.setIfInBounds_toArray, List.set_cons_zero, List.set_cons_succ, i64_w, i32_w]
        rfl
      refine pure_ (i := 32) (N := some 39) (v := undef) (a' := ?_) #[true, true, true, true, true, true, true, true, true, true, true, true, true, true, true, true, true, true, true, true, true, true, true, true, true, true, true, true, true, true, true, true, true, false, false, false, false, false, false] rfl rfl (any_of HT_.out (by kernel_rfl)) (fun _ _ _ h => h) (Or.inr ⟨by rfl, rfl⟩) ?_ ?_
      rotate_left
      · simp only [Act.put, List.setIfInBounds_toArray, List.set_cons_zero, List.set_cons_succ, i64_w, i32_w]
        rfl
      refine pure_ (i := 33) (N := some 40) (v := undef) (a' := ?_) #[true, true, true, true, true, true, true, true, true, true, true, true, true, true, true, true, true, true, true, true, true, true, true, true, true, true, true, true, true, true, true, true, true, true, false, false, false, false, false] rfl rfl (any_of HT_.out (by kernel_rfl)) (fun _ _ _ h => h) (Or.inr ⟨by rfl, rfl⟩) ?_ ?_
      rotate_left
      · simp only [Act.put, List.setIfInBounds_toArray, List.set_cons_zero, List.set_cons_succ, i64_w, i32_w]
        rfl
      refine pure_ (i := 34) (N := some 41) (v := undef) (a' := ?_) #[true, true, true, true, true, true, true, true, true, true, true, true, true, true, true, true, true, true, true, true, true, true, true, true, true, true, true, true, true, true, true, true, true, true, true, false, false, false, false] rfl rfl (any_of HT_.out (by kernel_rfl)) (fun _ _ _ h => h) (Or.inr ⟨by rfl, rfl⟩) ?_ ?_
      rotate_left
      · simp only [Act.put, List.setIfInBounds_toArray, List.set_cons_zero, List.set_cons_succ, i64_w, i32_w]
        rfl
      refine pure_ (i := 35) (N := some 42) (v := undef) (a' := ?_) #[true, true, true, true, true, true, true, true, true, true, true, true, true, true, true, true, true, true, true, true, true, true, true, true, true, true, true, true, true, true, true, true, true, true, true, true, false, false, false] rfl rfl (any_of HT_.out (by kernel_rfl)) (fun _ _ _ h => h) (Or.inr ⟨by rfl, rfl⟩) ?_ ?_
      rotate_left
      · simp only [Act.put, List.setIfInBounds_toArray, List.set_cons_zero, List.set_cons_succ, i64_w, i32_w]
        rfl
      refine pure_ (i := 36) (N := some 43) (v := undef) (a' := ?_) #[true, true, true, true, true, true, true, true, true, true, true, true, true, true, true, true, true, true, true, true, true, true, true, true, true, true, true, true, true, true, true, true, true, true, true, true, true, false, false] rfl rfl (any_of HT_.out (by kernel_rfl)) (fun _ _ _ h => h) (Or.inr ⟨by rfl, rfl⟩) ?_ ?_
      rotate_left
      · simp only [Act.put, List.setIfInBounds_toArray, List.set_cons_zero, List.set_cons_succ, i64_w, i32_w]
        rfl
      refine pure_ (i := 37) (N := some 44) (v := undef) (a' := ?_) #[true, true, true, true, true, true, true, true, true, true, true, true, true, true, true, true, true, true, true, true, true, true, true, true, true, true, true, true, true, true, true, true, true, true, true, true, true, true, false] rfl rfl (any_of HT_.out (by kernel_rfl)) (fun _ _ _ h => h) (Or.inr ⟨by rfl, rfl⟩) ?_ ?_
      rotate_left
      · simp only [Act.put, List.setIfInBounds_toArray, List.set_cons_zero, List.set_cons_succ, i64_w, i32_w]
        rfl
      refine pure_ (i := 38) (N := some 45) (v := ?_) (a' := ?_) #[true, true, true, true, true, true, true, true, true, true, true, true, true, true, true, true, true, true, true, true, true, true, true, true, true, true, true, true, true, true, true, true, true, true, true, true, true, true, true] rfl rfl (any_of HT_.out (by kernel_rfl)) (fun _ _ _ h => h) (Or.inl ⟨by rfl, ?_⟩) ?_ ?_
      rotate_left
      · intro w'
        go_simp
        with_reducible rfl
      rotate_left
      · simp only [Act.put, List.setIfInBounds_toArray, List.set_cons_zero, List.set_cons_succ, i64_w, i32_w]
        rfl
      refine done_ (done_of HT_.out (by kernel_rfl)) ?_
      (try clear hHeld); (try clear HS0_)
      try go_wp2
      go_meet
      case rel => exact ⟨_, (true), (by first | rfl | (simp; done) | (simp [*]; done)), H', ⟨by first | omega | exact Nat.le_refl _⟩, ⟨by (with_reducible repeat (first | refine blk_drewN ?_ _ | refine blk_drew ?_ | refine blk_alloc ?_ _)); exact BK488.out⟩, ⟨by (with_reducible repeat (first | refine blk_drewN ?_ _ | refine blk_drew ?_ | refine blk_alloc ?_ _)); exact BK489.out⟩, ⟨by (with_reducible repeat (first | refine blk_drewN ?_ _ | refine blk_drew ?_ | refine blk_alloc ?_ _)); exact BK490.out⟩, ⟨by repeat (first | (with_reducible first | exact HB.out | apply below_alloc | apply pw_below_drewN | apply below_drew1 | refine below_set ?_ GE488.out | refine below_set ?_ GE489.out | refine below_set ?_ GE490.out) | exact HB.out)⟩⟩
  case rest =>
    clear HC4
    try clear p2
    try clear c3
    try clear c4
    try clear p6
    try clear c9
    try clear c33
    try clear c42
    try clear c43
    obtain ⟨kq, x45_3, rfl, HA, HJ3, BK488, BK489, BK490, HB⟩ := hcut
    cases kq with
    | zero => exact absurd HA.out (by simp [folkmootlaw05_LabelOrder.j0])
    | succ kj3 =>
      have H := HA.out
      clear HA
      simp only [folkmootlaw05_LabelOrder.j0] at H
      by_cases c48 : x45_3 = true
      · subst c48
        have H1 : (some false) = some r := by rw [if_pos rfl] at H; exact H
        clear H
        have H := H1
        clear H1
        obtain rfl := Option.some.inj H
        go_wp2
        go_ret
        exact ⟨by first | rfl | (simp [errW_none, errW_some] <;> rfl) | (simp [*, errW_none, errW_some] <;> rfl), by repeat (first | (with_reducible first | exact HB.out | apply below_alloc | apply pw_below_drewN | apply below_drew1 | refine below_set ?_ GE488.out | refine below_set ?_ GE489.out | refine below_set ?_ GE490.out) | exact HB.out)⟩
      · replace c48 := Bool.eq_false_iff.mpr c48
        subst c48
        have H1 : ((label_Compare.f kj3 a0_0 a0_1 a0_2 a0_3 a1_0 a1_1 a1_2 a1_3).bind fun t499 => (if t499 > 0 then ((label_Compare.f kj3 a1_0 a1_1 a1_2 a1_3 a2_0 a2_1 a2_2 a2_3).bind fun t500 => (if t500 > 0 then ((label_Compare.f kj3 a0_0 a0_1 a0_2 a0_3 a2_0 a2_1 a2_2 a2_3).bind fun t501 => (some (decide (t501 > 0)))) else (some true))) else (some true))) = some r := by rw [if_neg (show ¬ (false = true) by decide)] at H; exact H
        clear H
        have H := H1
        clear H1
        replace H := Option.bind_eq_some_iff.mp H
        obtain ⟨t499, A490, H⟩ := H
        replace H : (if t499 > 0 then ((label_Compare.f kj3 a1_0 a1_1 a1_2 a1_3 a2_0 a2_1 a2_2 a2_3).bind fun t500 => (if t500 > 0 then ((label_Compare.f kj3 a0_0 a0_1 a0_2 a0_3 a2_0 a2_1 a2_2 a2_3).bind fun t501 => (some (decide (t501 > 0)))) else (some true))) else (some true)) = some r := H
        have A49 := Aside0.mk A490
        clear A490
        by_cases c50 : t499 > 0
        · rw [if_pos c50] at H
          have c50b0 : decide (0 < t499) = true := decide_eq_true c50
          clear c50
          replace H := Option.bind_eq_some_iff.mp H
          obtain ⟨t500, A510, H⟩ := H
          replace H : (if t500 > 0 then ((label_Compare.f kj3 a0_0 a0_1 a0_2 a0_3 a2_0 a2_1 a2_2 a2_3).bind fun t501 => (some (decide (t501 > 0)))) else (some true)) = some r := H
          have A51 := Aside0.mk A510
          clear A510
          by_cases c52 : t500 > 0
          · rw [if_pos c52] at H
            have c52b0 : decide (0 < t500) = true := decide_eq_true c52
            clear c52
            replace H := Option.bind_eq_some_iff.mp H
            obtain ⟨t501, A530, H⟩ := H
            replace H : (some (decide (t501 > 0))) = some r := H
            have A53 := Aside0.mk A530
            clear A530
            obtain rfl := Option.some.inj H
            have hnb54 := NB488_489.out
            have hnc54 := NB489_488.out
            have hnb55 := NB488_490.out
            have hnc55 := NB490_488.out
            have hcz56_0 : wc.cell? ⟨gb488, 0, none⟩ = some (.int .u64 a0_0) := (blk_cell BK488.out 0).trans rfl
            have hcz56_1 : wc.cell? ⟨gb488, 1, none⟩ = some (.int .i64 a0_1) := (blk_cell BK488.out 1).trans rfl
            have hcz56_2 : wc.cell? ⟨gb488, 2, none⟩ = some (.int .u64 a0_2) := (blk_cell BK488.out 2).trans rfl
            have hcz56_3 : wc.cell? ⟨gb488, 3, none⟩ = some (.int .i64 a0_3) := (blk_cell BK488.out 3).trans rfl
            have hfz56_0 := blk_frozen BK488.out 0
            have hfz56_1 := blk_frozen BK488.out 1
            have hfz56_2 := blk_frozen BK488.out 2
            have hfz56_3 := blk_frozen BK488.out 3
            have hnb57 := NB489_490.out
            have hnc57 := NB490_489.out
            have hcz58_0 : wc.cell? ⟨gb489, 0, none⟩ = some (.int .u64 a1_0) := (blk_cell BK489.out 0).trans rfl
            have hcz58_1 : wc.cell? ⟨gb489, 1, none⟩ = some (.int .i64 a1_1) := (blk_cell BK489.out 1).trans rfl
            have hcz58_2 : wc.cell? ⟨gb489, 2, none⟩ = some (.int .u64 a1_2) := (blk_cell BK489.out 2).trans rfl
            have hcz58_3 : wc.cell? ⟨gb489, 3, none⟩ = some (.int .i64 a1_3) := (blk_cell BK489.out 3).trans rfl
            have hfz58_0 := blk_frozen BK489.out 0
            have hfz58_1 := blk_frozen BK489.out 1
            have hfz58_2 := blk_frozen BK489.out 2
            have hfz58_3 := blk_frozen BK489.out 3
            go_wp2_with (first | ((with_reducible refine gate_callee (f := 42) rfl ?_); refine goesL_ (some 48) rfl rfl Try.func42 (by kernel_rfl) rfl #[.agg #[.int .u64 a0_0, .int .i64 a0_1, .int .u64 a0_2, .int .i64 a0_3], .agg #[.int .u64 a1_0, .int .i64 a1_1, .int .u64 a1_2, .int .i64 a1_3]] rfl (by (try simp only [List.map_toArray, List.map_cons, List.map_nil]); first | done | rfl | (simp only [List.length_drop, List.length_take]; rfl)) ?_; (with_reducible refine (label_Compare.calls kj3 a0_0 a0_1 a0_2 a0_3 a1_0 a1_1 a1_2 a1_3 t499 _ A49.out).mono ?_); rintro e w59 ⟨rfl, hb⟩; refine ⟨_, rfl, ?_⟩; have n0_ := Aside0.mk (blk_below (g := gb488) (o := .cells #[.int .u64 a0_0, .int .i64 a0_1, .int .u64 a0_2, .int .i64 a0_3] 27 (0, 0)) (by (with_reducible repeat (first | refine blk_drewN ?_ _ | refine blk_drew ?_ | refine blk_alloc ?_ _)); exact BK488.out) hb); have n1_ := Aside0.mk (blk_below (g := gb489) (o := .cells #[.int .u64 a1_0, .int .i64 a1_1, .int .u64 a1_2, .int .i64 a1_3] 27 (0, 0)) (by (with_reducible repeat (first | refine blk_drewN ?_ _ | refine blk_drew ?_ | refine blk_alloc ?_ _)); exact BK489.out) hb); have n2_ := Aside0.mk (blk_below (g := gb490) (o := .cells #[.int .u64 a2_0, .int .i64 a2_1, .int .u64 a2_2, .int .i64 a2_3] 27 (0, 0)) (by (with_reducible repeat (first | refine blk_drewN ?_ _ | refine blk_drew ?_ | refine blk_alloc ?_ _)); exact BK490.out) hb); have n3_ := Aside0.mk (below_step (by repeat (first | (with_reducible first | exact HB.out | apply below_alloc | apply pw_below_drewN | apply below_drew1 | refine below_set ?_ GE488.out | refine below_set ?_ GE489.out | refine below_set ?_ GE490.out) | exact HB.out)) hb); clear BK488; clear BK489; clear BK490; clear HB; have BK488 := n0_; have BK489 := n1_; have BK490 := n2_; have HB := n3_; clear n0_ n1_ n2_ n3_; (try clear hb); (try clear hb2); (try clear hk); (try clear hi); have hcz60_0 : w59.cell? ⟨gb489, 0, none⟩ = some (.int .u64 a1_0) := (blk_cell BK489.out 0).trans rfl; have hcz60_1 : w59.cell? ⟨gb489, 1, none⟩ = some (.int .i64 a1_1) := (blk_cell BK489.out 1).trans rfl; have hcz60_2 : w59.cell? ⟨gb489, 2, none⟩ = some (.int .u64 a1_2) := (blk_cell BK489.out 2).trans rfl; have hcz60_3 : w59.cell? ⟨gb489, 3, none⟩ = some (.int .i64 a1_3) := (blk_cell BK489.out 3).trans rfl; have hfz60_0 := blk_frozen BK489.out 0; have hfz60_1 := blk_frozen BK489.out 1; have hfz60_2 := blk_frozen BK489.out 2; have hfz60_3 := blk_frozen BK489.out 3; have hcz61_0 : w59.cell? ⟨gb490, 0, none⟩ = some (.int .u64 a2_0) := (blk_cell BK490.out 0).trans rfl; have hcz61_1 : w59.cell? ⟨gb490, 1, none⟩ = some (.int .i64 a2_1) := (blk_cell BK490.out 1).trans rfl; have hcz61_2 : w59.cell? ⟨gb490, 2, none⟩ = some (.int .u64 a2_2) := (blk_cell BK490.out 2).trans rfl; have hcz61_3 : w59.cell? ⟨gb490, 3, none⟩ = some (.int .i64 a2_3) := (blk_cell BK490.out 3).trans rfl; have hfz61_0 := blk_frozen BK490.out 0; have hfz61_1 := blk_frozen BK490.out 1; have hfz61_2 := blk_frozen BK490.out 2; have hfz61_3 := blk_frozen BK490.out 3) | (go_at_call 42; (with_reducible refine (label_Compare.calls kj3 a1_0 a1_1 a1_2 a1_3 a2_0 a2_1 a2_2 a2_3 t500 _ A51.out).mono ?_); rintro e w62 ⟨rfl, hb⟩; have n0_ := Aside0.mk (blk_below (g := gb488) (o := .cells #[.int .u64 a0_0, .int .i64 a0_1, .int .u64 a0_2, .int .i64 a0_3] 27 (0, 0)) (by (with_reducible repeat (first | refine blk_drewN ?_ _ | refine blk_drew ?_ | refine blk_alloc ?_ _)); exact BK488.out) hb); have n1_ := Aside0.mk (blk_below (g := gb489) (o := .cells #[.int .u64 a1_0, .int .i64 a1_1, .int .u64 a1_2, .int .i64 a1_3] 27 (0, 0)) (by (with_reducible repeat (first | refine blk_drewN ?_ _ | refine blk_drew ?_ | refine blk_alloc ?_ _)); exact BK489.out) hb); have n2_ := Aside0.mk (blk_below (g := gb490) (o := .cells #[.int .u64 a2_0, .int .i64 a2_1, .int .u64 a2_2, .int .i64 a2_3] 27 (0, 0)) (by (with_reducible repeat (first | refine blk_drewN ?_ _ | refine blk_drew ?_ | refine blk_alloc ?_ _)); exact BK490.out) hb); have n3_ := Aside0.mk (below_step (by repeat (first | (with_reducible first | exact HB.out | apply below_alloc | apply pw_below_drewN | apply below_drew1 | refine below_set ?_ GE488.out | refine below_set ?_ GE489.out | refine below_set ?_ GE490.out) | exact HB.out)) hb); clear BK488; clear BK489; clear BK490; clear HB; have BK488 := n0_; have BK489 := n1_; have BK490 := n2_; have HB := n3_; clear n0_ n1_ n2_ n3_; (try clear hb); (try clear hb2); (try clear hk); (try clear hi); have hcz63_0 : w62.cell? ⟨gb488, 0, none⟩ = some (.int .u64 a0_0) := (blk_cell BK488.out 0).trans rfl; have hcz63_1 : w62.cell? ⟨gb488, 1, none⟩ = some (.int .i64 a0_1) := (blk_cell BK488.out 1).trans rfl; have hcz63_2 : w62.cell? ⟨gb488, 2, none⟩ = some (.int .u64 a0_2) := (blk_cell BK488.out 2).trans rfl; have hcz63_3 : w62.cell? ⟨gb488, 3, none⟩ = some (.int .i64 a0_3) := (blk_cell BK488.out 3).trans rfl; have hfz63_0 := blk_frozen BK488.out 0; have hfz63_1 := blk_frozen BK488.out 1; have hfz63_2 := blk_frozen BK488.out 2; have hfz63_3 := blk_frozen BK488.out 3; have hcz64_0 : w62.cell? ⟨gb490, 0, none⟩ = some (.int .u64 a2_0) := (blk_cell BK490.out 0).trans rfl; have hcz64_1 : w62.cell? ⟨gb490, 1, none⟩ = some (.int .i64 a2_1) := (blk_cell BK490.out 1).trans rfl; have hcz64_2 : w62.cell? ⟨gb490, 2, none⟩ = some (.int .u64 a2_2) := (blk_cell BK490.out 2).trans rfl; have hcz64_3 : w62.cell? ⟨gb490, 3, none⟩ = some (.int .i64 a2_3) := (blk_cell BK490.out 3).trans rfl; have hfz64_0 := blk_frozen BK490.out 0; have hfz64_1 := blk_frozen BK490.out 1; have hfz64_2 := blk_frozen BK490.out 2; have hfz64_3 := blk_frozen BK490.out 3) | (go_at_call 42; (with_reducible refine (label_Compare.calls kj3 a0_0 a0_1 a0_2 a0_3 a2_0 a2_1 a2_2 a2_3 t501 _ A53.out).mono ?_); rintro e w65 ⟨rfl, hb⟩; have n0_ := Aside0.mk (blk_below (g := gb488) (o := .cells #[.int .u64 a0_0, .int .i64 a0_1, .int .u64 a0_2, .int .i64 a0_3] 27 (0, 0)) (by (with_reducible repeat (first | refine blk_drewN ?_ _ | refine blk_drew ?_ | refine blk_alloc ?_ _)); exact BK488.out) hb); have n1_ := Aside0.mk (blk_below (g := gb489) (o := .cells #[.int .u64 a1_0, .int .i64 a1_1, .int .u64 a1_2, .int .i64 a1_3] 27 (0, 0)) (by (with_reducible repeat (first | refine blk_drewN ?_ _ | refine blk_drew ?_ | refine blk_alloc ?_ _)); exact BK489.out) hb); have n2_ := Aside0.mk (blk_below (g := gb490) (o := .cells #[.int .u64 a2_0, .int .i64 a2_1, .int .u64 a2_2, .int .i64 a2_3] 27 (0, 0)) (by (with_reducible repeat (first | refine blk_drewN ?_ _ | refine blk_drew ?_ | refine blk_alloc ?_ _)); exact BK490.out) hb); have n3_ := Aside0.mk (below_step (by repeat (first | (with_reducible first | exact HB.out | apply below_alloc | apply pw_below_drewN | apply below_drew1 | refine below_set ?_ GE488.out | refine below_set ?_ GE489.out | refine below_set ?_ GE490.out) | exact HB.out)) hb); clear BK488; clear BK489; clear BK490; clear HB; have BK488 := n0_; have BK489 := n1_; have BK490 := n2_; have HB := n3_; clear n0_ n1_ n2_ n3_; (try clear hb); (try clear hb2); (try clear hk); (try clear hi)))
            go_ret
            exact ⟨by first | rfl | (simp [errW_none, errW_some] <;> rfl) | (simp [*, errW_none, errW_some] <;> rfl), by repeat (first | (with_reducible first | exact HB.out | apply below_alloc | apply pw_below_drewN | apply below_drew1 | refine below_set ?_ GE488.out | refine below_set ?_ GE489.out | refine below_set ?_ GE490.out) | exact HB.out)⟩
          · rw [if_neg c52] at H
            have c52b0 : decide (0 < t500) = false := decide_eq_false c52
            clear c52
            obtain rfl := Option.some.inj H
            have hnb66 := NB488_489.out
            have hnc66 := NB489_488.out
            have hnb67 := NB488_490.out
            have hnc67 := NB490_488.out
            have hcz68_0 : wc.cell? ⟨gb488, 0, none⟩ = some (.int .u64 a0_0) := (blk_cell BK488.out 0).trans rfl
            have hcz68_1 : wc.cell? ⟨gb488, 1, none⟩ = some (.int .i64 a0_1) := (blk_cell BK488.out 1).trans rfl
            have hcz68_2 : wc.cell? ⟨gb488, 2, none⟩ = some (.int .u64 a0_2) := (blk_cell BK488.out 2).trans rfl
            have hcz68_3 : wc.cell? ⟨gb488, 3, none⟩ = some (.int .i64 a0_3) := (blk_cell BK488.out 3).trans rfl
            have hfz68_0 := blk_frozen BK488.out 0
            have hfz68_1 := blk_frozen BK488.out 1
            have hfz68_2 := blk_frozen BK488.out 2
            have hfz68_3 := blk_frozen BK488.out 3
            have hnb69 := NB489_490.out
            have hnc69 := NB490_489.out
            have hcz70_0 : wc.cell? ⟨gb489, 0, none⟩ = some (.int .u64 a1_0) := (blk_cell BK489.out 0).trans rfl
            have hcz70_1 : wc.cell? ⟨gb489, 1, none⟩ = some (.int .i64 a1_1) := (blk_cell BK489.out 1).trans rfl
            have hcz70_2 : wc.cell? ⟨gb489, 2, none⟩ = some (.int .u64 a1_2) := (blk_cell BK489.out 2).trans rfl
            have hcz70_3 : wc.cell? ⟨gb489, 3, none⟩ = some (.int .i64 a1_3) := (blk_cell BK489.out 3).trans rfl
            have hfz70_0 := blk_frozen BK489.out 0
            have hfz70_1 := blk_frozen BK489.out 1
            have hfz70_2 := blk_frozen BK489.out 2
            have hfz70_3 := blk_frozen BK489.out 3
            go_wp2_with (first | ((with_reducible refine gate_callee (f := 42) rfl ?_); refine goesL_ (some 48) rfl rfl Try.func42 (by kernel_rfl) rfl #[.agg #[.int .u64 a0_0, .int .i64 a0_1, .int .u64 a0_2, .int .i64 a0_3], .agg #[.int .u64 a1_0, .int .i64 a1_1, .int .u64 a1_2, .int .i64 a1_3]] rfl (by (try simp only [List.map_toArray, List.map_cons, List.map_nil]); first | done | rfl | (simp only [List.length_drop, List.length_take]; rfl)) ?_; (with_reducible refine (label_Compare.calls kj3 a0_0 a0_1 a0_2 a0_3 a1_0 a1_1 a1_2 a1_3 t499 _ A49.out).mono ?_); rintro e w71 ⟨rfl, hb⟩; refine ⟨_, rfl, ?_⟩; have n0_ := Aside0.mk (blk_below (g := gb488) (o := .cells #[.int .u64 a0_0, .int .i64 a0_1, .int .u64 a0_2, .int .i64 a0_3] 27 (0, 0)) (by (with_reducible repeat (first | refine blk_drewN ?_ _ | refine blk_drew ?_ | refine blk_alloc ?_ _)); exact BK488.out) hb); have n1_ := Aside0.mk (blk_below (g := gb489) (o := .cells #[.int .u64 a1_0, .int .i64 a1_1, .int .u64 a1_2, .int .i64 a1_3] 27 (0, 0)) (by (with_reducible repeat (first | refine blk_drewN ?_ _ | refine blk_drew ?_ | refine blk_alloc ?_ _)); exact BK489.out) hb); have n2_ := Aside0.mk (blk_below (g := gb490) (o := .cells #[.int .u64 a2_0, .int .i64 a2_1, .int .u64 a2_2, .int .i64 a2_3] 27 (0, 0)) (by (with_reducible repeat (first | refine blk_drewN ?_ _ | refine blk_drew ?_ | refine blk_alloc ?_ _)); exact BK490.out) hb); have n3_ := Aside0.mk (below_step (by repeat (first | (with_reducible first | exact HB.out | apply below_alloc | apply pw_below_drewN | apply below_drew1 | refine below_set ?_ GE488.out | refine below_set ?_ GE489.out | refine below_set ?_ GE490.out) | exact HB.out)) hb); clear BK488; clear BK489; clear BK490; clear HB; have BK488 := n0_; have BK489 := n1_; have BK490 := n2_; have HB := n3_; clear n0_ n1_ n2_ n3_; (try clear hb); (try clear hb2); (try clear hk); (try clear hi); have hcz72_0 : w71.cell? ⟨gb489, 0, none⟩ = some (.int .u64 a1_0) := (blk_cell BK489.out 0).trans rfl; have hcz72_1 : w71.cell? ⟨gb489, 1, none⟩ = some (.int .i64 a1_1) := (blk_cell BK489.out 1).trans rfl; have hcz72_2 : w71.cell? ⟨gb489, 2, none⟩ = some (.int .u64 a1_2) := (blk_cell BK489.out 2).trans rfl; have hcz72_3 : w71.cell? ⟨gb489, 3, none⟩ = some (.int .i64 a1_3) := (blk_cell BK489.out 3).trans rfl; have hfz72_0 := blk_frozen BK489.out 0; have hfz72_1 := blk_frozen BK489.out 1; have hfz72_2 := blk_frozen BK489.out 2; have hfz72_3 := blk_frozen BK489.out 3; have hcz73_0 : w71.cell? ⟨gb490, 0, none⟩ = some (.int .u64 a2_0) := (blk_cell BK490.out 0).trans rfl; have hcz73_1 : w71.cell? ⟨gb490, 1, none⟩ = some (.int .i64 a2_1) := (blk_cell BK490.out 1).trans rfl; have hcz73_2 : w71.cell? ⟨gb490, 2, none⟩ = some (.int .u64 a2_2) := (blk_cell BK490.out 2).trans rfl; have hcz73_3 : w71.cell? ⟨gb490, 3, none⟩ = some (.int .i64 a2_3) := (blk_cell BK490.out 3).trans rfl; have hfz73_0 := blk_frozen BK490.out 0; have hfz73_1 := blk_frozen BK490.out 1; have hfz73_2 := blk_frozen BK490.out 2; have hfz73_3 := blk_frozen BK490.out 3) | (go_at_call 42; (with_reducible refine (label_Compare.calls kj3 a1_0 a1_1 a1_2 a1_3 a2_0 a2_1 a2_2 a2_3 t500 _ A51.out).mono ?_); rintro e w74 ⟨rfl, hb⟩; have n0_ := Aside0.mk (blk_below (g := gb488) (o := .cells #[.int .u64 a0_0, .int .i64 a0_1, .int .u64 a0_2, .int .i64 a0_3] 27 (0, 0)) (by (with_reducible repeat (first | refine blk_drewN ?_ _ | refine blk_drew ?_ | refine blk_alloc ?_ _)); exact BK488.out) hb); have n1_ := Aside0.mk (blk_below (g := gb489) (o := .cells #[.int .u64 a1_0, .int .i64 a1_1, .int .u64 a1_2, .int .i64 a1_3] 27 (0, 0)) (by (with_reducible repeat (first | refine blk_drewN ?_ _ | refine blk_drew ?_ | refine blk_alloc ?_ _)); exact BK489.out) hb); have n2_ := Aside0.mk (blk_below (g := gb490) (o := .cells #[.int .u64 a2_0, .int .i64 a2_1, .int .u64 a2_2, .int .i64 a2_3] 27 (0, 0)) (by (with_reducible repeat (first | refine blk_drewN ?_ _ | refine blk_drew ?_ | refine blk_alloc ?_ _)); exact BK490.out) hb); have n3_ := Aside0.mk (below_step (by repeat (first | (with_reducible first | exact HB.out | apply below_alloc | apply pw_below_drewN | apply below_drew1 | refine below_set ?_ GE488.out | refine below_set ?_ GE489.out | refine below_set ?_ GE490.out) | exact HB.out)) hb); clear BK488; clear BK489; clear BK490; clear HB; have BK488 := n0_; have BK489 := n1_; have BK490 := n2_; have HB := n3_; clear n0_ n1_ n2_ n3_; (try clear hb); (try clear hb2); (try clear hk); (try clear hi)))
            go_ret
            exact ⟨by first | rfl | (simp [errW_none, errW_some] <;> rfl) | (simp [*, errW_none, errW_some] <;> rfl), by repeat (first | (with_reducible first | exact HB.out | apply below_alloc | apply pw_below_drewN | apply below_drew1 | refine below_set ?_ GE488.out | refine below_set ?_ GE489.out | refine below_set ?_ GE490.out) | exact HB.out)⟩
        · rw [if_neg c50] at H
          have c50b0 : decide (0 < t499) = false := decide_eq_false c50
          clear c50
          obtain rfl := Option.some.inj H
          have hnb75 := NB488_489.out
          have hnc75 := NB489_488.out
          have hnb76 := NB488_490.out
          have hnc76 := NB490_488.out
          have hcz77_0 : wc.cell? ⟨gb488, 0, none⟩ = some (.int .u64 a0_0) := (blk_cell BK488.out 0).trans rfl
          have hcz77_1 : wc.cell? ⟨gb488, 1, none⟩ = some (.int .i64 a0_1) := (blk_cell BK488.out 1).trans rfl
          have hcz77_2 : wc.cell? ⟨gb488, 2, none⟩ = some (.int .u64 a0_2) := (blk_cell BK488.out 2).trans rfl
          have hcz77_3 : wc.cell? ⟨gb488, 3, none⟩ = some (.int .i64 a0_3) := (blk_cell BK488.out 3).trans rfl
          have hfz77_0 := blk_frozen BK488.out 0
          have hfz77_1 := blk_frozen BK488.out 1
          have hfz77_2 := blk_frozen BK488.out 2
          have hfz77_3 := blk_frozen BK488.out 3
          have hnb78 := NB489_490.out
          have hnc78 := NB490_489.out
          have hcz79_0 : wc.cell? ⟨gb489, 0, none⟩ = some (.int .u64 a1_0) := (blk_cell BK489.out 0).trans rfl
          have hcz79_1 : wc.cell? ⟨gb489, 1, none⟩ = some (.int .i64 a1_1) := (blk_cell BK489.out 1).trans rfl
          have hcz79_2 : wc.cell? ⟨gb489, 2, none⟩ = some (.int .u64 a1_2) := (blk_cell BK489.out 2).trans rfl
          have hcz79_3 : wc.cell? ⟨gb489, 3, none⟩ = some (.int .i64 a1_3) := (blk_cell BK489.out 3).trans rfl
          have hfz79_0 := blk_frozen BK489.out 0
          have hfz79_1 := blk_frozen BK489.out 1
          have hfz79_2 := blk_frozen BK489.out 2
          have hfz79_3 := blk_frozen BK489.out 3
          go_wp2_with (first | ((with_reducible refine gate_callee (f := 42) rfl ?_); refine goesL_ (some 48) rfl rfl Try.func42 (by kernel_rfl) rfl #[.agg #[.int .u64 a0_0, .int .i64 a0_1, .int .u64 a0_2, .int .i64 a0_3], .agg #[.int .u64 a1_0, .int .i64 a1_1, .int .u64 a1_2, .int .i64 a1_3]] rfl (by (try simp only [List.map_toArray, List.map_cons, List.map_nil]); first | done | rfl | (simp only [List.length_drop, List.length_take]; rfl)) ?_; (with_reducible refine (label_Compare.calls kj3 a0_0 a0_1 a0_2 a0_3 a1_0 a1_1 a1_2 a1_3 t499 _ A49.out).mono ?_); rintro e w80 ⟨rfl, hb⟩; refine ⟨_, rfl, ?_⟩; have n0_ := Aside0.mk (blk_below (g := gb488) (o := .cells #[.int .u64 a0_0, .int .i64 a0_1, .int .u64 a0_2, .int .i64 a0_3] 27 (0, 0)) (by (with_reducible repeat (first | refine blk_drewN ?_ _ | refine blk_drew ?_ | refine blk_alloc ?_ _)); exact BK488.out) hb); have n1_ := Aside0.mk (blk_below (g := gb489) (o := .cells #[.int .u64 a1_0, .int .i64 a1_1, .int .u64 a1_2, .int .i64 a1_3] 27 (0, 0)) (by (with_reducible repeat (first | refine blk_drewN ?_ _ | refine blk_drew ?_ | refine blk_alloc ?_ _)); exact BK489.out) hb); have n2_ := Aside0.mk (blk_below (g := gb490) (o := .cells #[.int .u64 a2_0, .int .i64 a2_1, .int .u64 a2_2, .int .i64 a2_3] 27 (0, 0)) (by (with_reducible repeat (first | refine blk_drewN ?_ _ | refine blk_drew ?_ | refine blk_alloc ?_ _)); exact BK490.out) hb); have n3_ := Aside0.mk (below_step (by repeat (first | (with_reducible first | exact HB.out | apply below_alloc | apply pw_below_drewN | apply below_drew1 | refine below_set ?_ GE488.out | refine below_set ?_ GE489.out | refine below_set ?_ GE490.out) | exact HB.out)) hb); clear BK488; clear BK489; clear BK490; clear HB; have BK488 := n0_; have BK489 := n1_; have BK490 := n2_; have HB := n3_; clear n0_ n1_ n2_ n3_; (try clear hb); (try clear hb2); (try clear hk); (try clear hi)))
          go_ret
          exact ⟨by first | rfl | (simp [errW_none, errW_some] <;> rfl) | (simp [*, errW_none, errW_some] <;> rfl), by repeat (first | (with_reducible first | exact HB.out | apply below_alloc | apply pw_below_drewN | apply below_drew1 | refine below_set ?_ GE488.out | refine below_set ?_ GE489.out | refine below_set ?_ GE490.out) | exact HB.out)⟩

end Go.Proofs.Ytioooiflpabngaa.PAll

namespace Go.Proofs.Ytioooiflpabngaa.PAll
open Go.RowKit Go.Proofs.YtioooiflpabngaaW.PrintWords
set_option linter.unusedVariables false
set_option linter.unusedSimpArgs false
theorem forms_alike (a : S27) (h : rightL a) : ∃ b, label_Form.f a.f0.f0 a.f0.f1 a.f1 a.f2 = some b ∧ folkmootref05_Form.f a.f0.f0 a.f0.f1 a.f1 a.f2 = some b := by
  have hw : 0 ≤ a.f0.f0 := by
    have h3 := h.1.1
    simp only [Lit.wf, Bool.and_eq_true, decide_eq_true_eq] at h3
    have e1 : IntKind.u64.min = 0 := by decide
    omega
  unfold label_Form.f folkmootref05_Form.f ident_Form.f folkmootref04_Form.f
  by_cases h0 : a.f0.f0 = 0
  · by_cases h1 : a.f0.f1 = 0
    · exact ⟨false, by simp [h0, h1], by simp [h0, h1]⟩
    · refine ⟨false, ?_, by simp [h0, h1]⟩
      by_cases h2 : a.f0.f1 ≥ 0 <;> by_cases h3 : a.f0.f1 < 16 <;> simp [h0, h1, h2, h3]
  · have hp : a.f0.f0 > 0 := by omega
    by_cases h2 : a.f0.f1 ≥ 0
    · by_cases h3 : a.f0.f1 < 16
      · have h4 : a.f0.f1 ≤ 15 := by omega
        by_cases h5 : a.f1 > 0
        · by_cases h6 : a.f2 ≥ 0
          · refine ⟨decide (a.f2 < 16), by simp [h0, hp, h2, h3, h5, h6], ?_⟩
            by_cases h7 : a.f2 < 16
            · have h8 : a.f2 ≤ 15 := by omega
              simp [h0, hp, h2, h4, h5, h6, h7, h8]
            · have h8 : ¬ a.f2 ≤ 15 := by omega
              simp [h0, hp, h2, h4, h5, h6, h7, h8]
          · exact ⟨false, by simp [h0, hp, h2, h3, h5, h6], by simp [h0, hp, h2, h4, h5, h6]⟩
        · exact ⟨false, by simp [h0, hp, h2, h3, h5], by simp [h0, hp, h2, h4, h5]⟩
      · have h4 : ¬ a.f0.f1 ≤ 15 := by omega
        exact ⟨false, by simp [h0, hp, h2, h3], by simp [h0, hp, h2, h4]⟩
    · exact ⟨false, by simp [h0, hp, h2], by simp [h0, hp, h2]⟩
theorem order_last (a b c : S27) : Ev (fun k => folkmootlaw05_LabelOrder.j0 k false a.f0.f0 a.f0.f1 a.f1 a.f2 b.f0.f0 b.f0.f1 b.f1 b.f2 c.f0.f0 c.f0.f1 c.f1 c.f2) true := by
  refine Ev.step (fun k => by rw [folkmootlaw05_LabelOrder.j0, if_neg (by simp)]) (Ev.bind (compare_ev a b) ?_)
  by_cases h1 : cmpL a b > 0
  · simp only [h1, if_true]
    refine Ev.bind (compare_ev b c) ?_
    by_cases h2 : cmpL b c > 0
    · simp only [h2, if_true]
      have h3 : cmpL a c > 0 := (cmpL_pos a c).2 (ltL_trans ((cmpL_pos b c).1 h2) ((cmpL_pos a b).1 h1))
      exact Ev.bind (compare_ev a c) (Ev.const fun _ => by simp [h3])
    · simp only [h2, if_false]
      exact Ev.const fun _ => rfl
  · simp only [h1, if_false]
    exact Ev.const fun _ => rfl
theorem pure_LabelOrder (a b c : S27) (ha : rightL a) (hb : rightL b) (hc : rightL c) :
    ∃ k, folkmootlaw05_LabelOrder.f k a.f0.f0 a.f0.f1 a.f1 a.f2 b.f0.f0 b.f0.f1 b.f1 b.f2 c.f0.f0 c.f0.f1 c.f1 c.f2 = some true := by
  refine Ev.get ?_
  unfold folkmootlaw05_LabelOrder.f folkmootlaw05_awake.f
  obtain ⟨f, h1, h2⟩ := forms_alike a ha
  simp only [Option.bind_some, if_true, h1, h2, bne_self_eq_false, Bool.false_eq_true, if_false]
  refine Ev.bind (compare_ev a b) (Ev.bind (refLess_ev a b) ?_)
  simp only [bne_self_eq_false, Bool.false_eq_true, if_false]
  refine Ev.bind (compare_ev a b) ?_
  have e1 : (cmpL a b == 0) = ((a.f0.f0 == b.f0.f0 && (a.f0.f1 == b.f0.f1)) && (a.f1 == b.f1 && (a.f2 == b.f2))) := by
    show _ = eqL a b
    cases h : eqL a b with
    | true => simpa using cmpL_eq.2 (eqL_iff.1 h)
    | false =>
      have : cmpL a b ≠ 0 := fun e => by rw [eqL_iff.2 (cmpL_eq.1 e)] at h; cases h
      simpa using this
  simp only [e1, bne_self_eq_false, Bool.false_eq_true, if_false]
  refine Ev.bind (compare_ev a b) (Ev.bind (compare_ev b a) ?_)
  have hbd := cmpL_bd b a
  have e2 : wrap64 (-cmpL b a) = cmpL a b := by
    rw [cmpL_swap b a]
    unfold wrap64
    omega
  simp only [e2, bne_self_eq_false]
  exact order_last a b c
end Go.Proofs.Ytioooiflpabngaa.PAll

namespace Go.Proofs.Ytioooiflpabngaa
theorem head_signs : Try.prog.initOrder.toList = [104, 97, 114, 110, 101, 115, 115, 32, 98, 100, 54, 52, 55, 100, 48, 52, 56, 99, 56, 57, 55, 50, 49, 57, 98, 52, 100, 49, 52, 51, 55, 98, 57, 48, 102, 102, 48, 56, 49, 50, 49, 53, 100, 52, 49, 53, 51, 54, 99, 100, 49, 54, 52, 54, 49, 100, 52, 97, 49, 97, 54, 54, 102, 52, 101, 56, 53, 55, 97, 101, 50, 55, 32, 99, 117, 116, 32, 97, 116, 32, 102, 111, 108, 107, 109, 111, 111, 116, 47, 102, 111, 108, 107, 109, 111, 111, 116, 108, 97, 119, 49, 53, 46, 67, 111, 110, 116, 101, 110, 116, 70, 105, 110, 100, 115, 32, 102, 111, 108, 107, 109, 111, 111, 116, 47, 102, 111, 108, 107, 109, 111, 111, 116, 108, 97, 119, 49, 53, 46, 67, 111, 110, 116, 101, 110, 116, 75, 101, 101, 112, 115, 32, 102, 111, 108, 107, 109, 111, 111, 116, 47, 102, 111, 108, 107, 109, 111, 111, 116, 108, 97, 119, 49, 53, 46, 67, 111, 110, 116, 101, 110, 116, 77, 101, 114, 103, 101, 115, 32, 102, 111, 108, 107, 109, 111, 111, 116, 47, 102, 111, 108, 107, 109, 111, 111, 116, 108, 97, 119, 49, 53, 46, 67, 111, 110, 116, 101, 110, 116, 79, 114, 100, 101, 114, 32, 102, 111, 108, 107, 109, 111, 111, 116, 47, 102, 111, 108, 107, 109, 111, 111, 116, 108, 97, 119, 48, 53, 46, 76, 97, 98, 101, 108, 75, 101, 101, 112, 115, 32, 102, 111, 108, 107, 109, 111, 111, 116, 47, 102, 111, 108, 107, 109, 111, 111, 116, 108, 97, 119, 48, 53, 46, 76, 97, 98, 101, 108, 80, 97, 114, 116, 115, 32, 102, 111, 108, 107, 109, 111, 111, 116, 47, 102, 111, 108, 107, 109, 111, 111, 116, 108, 97, 119, 48, 53, 46, 76, 97, 98, 101, 108, 83, 111, 114, 116, 115, 32, 102, 111, 108, 107, 109, 111, 111, 116, 47, 102, 111, 108, 107, 109, 111, 111, 116, 108, 97, 119, 48, 53, 46, 76, 97, 98, 101, 108, 66, 101, 104, 105, 110, 100, 32, 102, 111, 108, 107, 109, 111, 111, 116, 47, 102, 111, 108, 107, 109, 111, 111, 116, 108, 97, 119, 48, 53, 46, 76, 97, 98, 101, 108, 79, 114, 100, 101, 114, 32, 102, 111, 108, 107, 109, 111, 111, 116, 47, 102, 111, 108, 107, 109, 111, 111, 116, 108, 97, 119, 49, 53, 46, 67, 111, 110, 116, 101, 110, 116, 65, 112, 97, 114, 116, 32, 102, 111, 108, 107, 109, 111, 111, 116, 47, 102, 111, 108, 107, 109, 111, 111, 116, 108, 97, 119, 49, 53, 46, 67, 111, 110, 116, 101, 110, 116, 79, 110, 101, 32, 102, 111, 108, 107, 109, 111, 111, 116, 47, 102, 111, 108, 107, 109, 111, 111, 116, 108, 97, 119, 49, 53, 46, 67, 111, 110, 116, 101, 110, 116, 82, 101, 97, 100, 115, 32, 102, 111, 108, 107, 109, 111, 111, 116, 47, 102, 111, 108, 107, 109, 111, 111, 116, 108, 97, 119, 49, 53, 46, 67, 111, 110, 116, 101, 110, 116, 65, 108, 108, 32, 102, 111, 108, 107, 109, 111, 111, 116, 47, 102, 111, 108, 107, 109, 111, 111, 116, 108, 97, 119, 49, 54, 46, 69, 120, 99, 104, 97, 110, 103, 101, 80, 108, 97, 121, 115, 32, 102, 111, 108, 107, 109, 111, 111, 116, 47, 102, 111, 108, 107, 109, 111, 111, 116, 108, 97, 119, 49, 54, 46, 69, 120, 99, 104, 97, 110, 103, 101, 84, 117, 114, 110, 101, 100, 32, 102, 111, 108, 107, 109, 111, 111, 116, 47, 102, 111, 108, 107, 109, 111, 111, 116, 108, 97, 119, 49, 54, 46, 69, 120, 99, 104, 97, 110, 103, 101, 70, 117, 108, 108, 32, 102, 111, 108, 107, 109, 111, 111, 116, 47, 102, 111, 108, 107, 109, 111, 111, 116, 108, 97, 119, 49, 54, 46, 69, 120, 99, 104, 97, 110, 103, 101, 75, 101, 101, 112, 115, 32, 102, 111, 108, 107, 109, 111, 111, 116, 47, 102, 111, 108, 107, 109, 111, 111, 116, 108, 97, 119, 49, 54, 46, 69, 120, 99, 104, 97, 110, 103, 101, 79, 110, 101, 32, 102, 111, 108, 107, 109, 111, 111, 116, 47, 102, 111, 108, 107, 109, 111, 111, 116, 108, 97, 119, 49, 54, 46, 69, 120, 99, 104, 97, 110, 103, 101, 77, 111, 114, 101].map Char.ofNat := by
  have h : Try.prog.initOrder = String.ofList ([104, 97, 114, 110, 101, 115, 115, 32, 98, 100, 54, 52, 55, 100, 48, 52, 56, 99, 56, 57, 55, 50, 49, 57, 98, 52, 100, 49, 52, 51, 55, 98, 57, 48, 102, 102, 48, 56, 49, 50, 49, 53, 100, 52, 49, 53, 51, 54, 99, 100, 49, 54, 52, 54, 49, 100, 52, 97, 49, 97, 54, 54, 102, 52, 101, 56, 53, 55, 97, 101, 50, 55, 32, 99, 117, 116, 32, 97, 116, 32, 102, 111, 108, 107, 109, 111, 111, 116, 47, 102, 111, 108, 107, 109, 111, 111, 116, 108, 97, 119, 49, 53, 46, 67, 111, 110, 116, 101, 110, 116, 70, 105, 110, 100, 115, 32, 102, 111, 108, 107, 109, 111, 111, 116, 47, 102, 111, 108, 107, 109, 111, 111, 116, 108, 97, 119, 49, 53, 46, 67, 111, 110, 116, 101, 110, 116, 75, 101, 101, 112, 115, 32, 102, 111, 108, 107, 109, 111, 111, 116, 47, 102, 111, 108, 107, 109, 111, 111, 116, 108, 97, 119, 49, 53, 46, 67, 111, 110, 116, 101, 110, 116, 77, 101, 114, 103, 101, 115, 32, 102, 111, 108, 107, 109, 111, 111, 116, 47, 102, 111, 108, 107, 109, 111, 111, 116, 108, 97, 119, 49, 53, 46, 67, 111, 110, 116, 101, 110, 116, 79, 114, 100, 101, 114, 32, 102, 111, 108, 107, 109, 111, 111, 116, 47, 102, 111, 108, 107, 109, 111, 111, 116, 108, 97, 119, 48, 53, 46, 76, 97, 98, 101, 108, 75, 101, 101, 112, 115, 32, 102, 111, 108, 107, 109, 111, 111, 116, 47, 102, 111, 108, 107, 109, 111, 111, 116, 108, 97, 119, 48, 53, 46, 76, 97, 98, 101, 108, 80, 97, 114, 116, 115, 32, 102, 111, 108, 107, 109, 111, 111, 116, 47, 102, 111, 108, 107, 109, 111, 111, 116, 108, 97, 119, 48, 53, 46, 76, 97, 98, 101, 108, 83, 111, 114, 116, 115, 32, 102, 111, 108, 107, 109, 111, 111, 116, 47, 102, 111, 108, 107, 109, 111, 111, 116, 108, 97, 119, 48, 53, 46, 76, 97, 98, 101, 108, 66, 101, 104, 105, 110, 100, 32, 102, 111, 108, 107, 109, 111, 111, 116, 47, 102, 111, 108, 107, 109, 111, 111, 116, 108, 97, 119, 48, 53, 46, 76, 97, 98, 101, 108, 79, 114, 100, 101, 114, 32, 102, 111, 108, 107, 109, 111, 111, 116, 47, 102, 111, 108, 107, 109, 111, 111, 116, 108, 97, 119, 49, 53, 46, 67, 111, 110, 116, 101, 110, 116, 65, 112, 97, 114, 116, 32, 102, 111, 108, 107, 109, 111, 111, 116, 47, 102, 111, 108, 107, 109, 111, 111, 116, 108, 97, 119, 49, 53, 46, 67, 111, 110, 116, 101, 110, 116, 79, 110, 101, 32, 102, 111, 108, 107, 109, 111, 111, 116, 47, 102, 111, 108, 107, 109, 111, 111, 116, 108, 97, 119, 49, 53, 46, 67, 111, 110, 116, 101, 110, 116, 82, 101, 97, 100, 115, 32, 102, 111, 108, 107, 109, 111, 111, 116, 47, 102, 111, 108, 107, 109, 111, 111, 116, 108, 97, 119, 49, 53, 46, 67, 111, 110, 116, 101, 110, 116, 65, 108, 108, 32, 102, 111, 108, 107, 109, 111, 111, 116, 47, 102, 111, 108, 107, 109, 111, 111, 116, 108, 97, 119, 49, 54, 46, 69, 120, 99, 104, 97, 110, 103, 101, 80, 108, 97, 121, 115, 32, 102, 111, 108, 107, 109, 111, 111, 116, 47, 102, 111, 108, 107, 109, 111, 111, 116, 108, 97, 119, 49, 54, 46, 69, 120, 99, 104, 97, 110, 103, 101, 84, 117, 114, 110, 101, 100, 32, 102, 111, 108, 107, 109, 111, 111, 116, 47, 102, 111, 108, 107, 109, 111, 111, 116, 108, 97, 119, 49, 54, 46, 69, 120, 99, 104, 97, 110, 103, 101, 70, 117, 108, 108, 32, 102, 111, 108, 107, 109, 111, 111, 116, 47, 102, 111, 108, 107, 109, 111, 111, 116, 108, 97, 119, 49, 54, 46, 69, 120, 99, 104, 97, 110, 103, 101, 75, 101, 101, 112, 115, 32, 102, 111, 108, 107, 109, 111, 111, 116, 47, 102, 111, 108, 107, 109, 111, 111, 116, 108, 97, 119, 49, 54, 46, 69, 120, 99, 104, 97, 110, 103, 101, 79, 110, 101, 32, 102, 111, 108, 107, 109, 111, 111, 116, 47, 102, 111, 108, 107, 109, 111, 111, 116, 108, 97, 119, 49, 54, 46, 69, 120, 99, 104, 97, 110, 103, 101, 77, 111, 114, 101].map Char.ofNat) := by kernel_rfl
  rw [h, String.toList_ofList]
theorem head_words : wordsSigns ([104, 97, 114, 110, 101, 115, 115, 32, 98, 100, 54, 52, 55, 100, 48, 52, 56, 99, 56, 57, 55, 50, 49, 57, 98, 52, 100, 49, 52, 51, 55, 98, 57, 48, 102, 102, 48, 56, 49, 50, 49, 53, 100, 52, 49, 53, 51, 54, 99, 100, 49, 54, 52, 54, 49, 100, 52, 97, 49, 97, 54, 54, 102, 52, 101, 56, 53, 55, 97, 101, 50, 55, 32, 99, 117, 116, 32, 97, 116, 32, 102, 111, 108, 107, 109, 111, 111, 116, 47, 102, 111, 108, 107, 109, 111, 111, 116, 108, 97, 119, 49, 53, 46, 67, 111, 110, 116, 101, 110, 116, 70, 105, 110, 100, 115, 32, 102, 111, 108, 107, 109, 111, 111, 116, 47, 102, 111, 108, 107, 109, 111, 111, 116, 108, 97, 119, 49, 53, 46, 67, 111, 110, 116, 101, 110, 116, 75, 101, 101, 112, 115, 32, 102, 111, 108, 107, 109, 111, 111, 116, 47, 102, 111, 108, 107, 109, 111, 111, 116, 108, 97, 119, 49, 53, 46, 67, 111, 110, 116, 101, 110, 116, 77, 101, 114, 103, 101, 115, 32, 102, 111, 108, 107, 109, 111, 111, 116, 47, 102, 111, 108, 107, 109, 111, 111, 116, 108, 97, 119, 49, 53, 46, 67, 111, 110, 116, 101, 110, 116, 79, 114, 100, 101, 114, 32, 102, 111, 108, 107, 109, 111, 111, 116, 47, 102, 111, 108, 107, 109, 111, 111, 116, 108, 97, 119, 48, 53, 46, 76, 97, 98, 101, 108, 75, 101, 101, 112, 115, 32, 102, 111, 108, 107, 109, 111, 111, 116, 47, 102, 111, 108, 107, 109, 111, 111, 116, 108, 97, 119, 48, 53, 46, 76, 97, 98, 101, 108, 80, 97, 114, 116, 115, 32, 102, 111, 108, 107, 109, 111, 111, 116, 47, 102, 111, 108, 107, 109, 111, 111, 116, 108, 97, 119, 48, 53, 46, 76, 97, 98, 101, 108, 83, 111, 114, 116, 115, 32, 102, 111, 108, 107, 109, 111, 111, 116, 47, 102, 111, 108, 107, 109, 111, 111, 116, 108, 97, 119, 48, 53, 46, 76, 97, 98, 101, 108, 66, 101, 104, 105, 110, 100, 32, 102, 111, 108, 107, 109, 111, 111, 116, 47, 102, 111, 108, 107, 109, 111, 111, 116, 108, 97, 119, 48, 53, 46, 76, 97, 98, 101, 108, 79, 114, 100, 101, 114, 32, 102, 111, 108, 107, 109, 111, 111, 116, 47, 102, 111, 108, 107, 109, 111, 111, 116, 108, 97, 119, 49, 53, 46, 67, 111, 110, 116, 101, 110, 116, 65, 112, 97, 114, 116, 32, 102, 111, 108, 107, 109, 111, 111, 116, 47, 102, 111, 108, 107, 109, 111, 111, 116, 108, 97, 119, 49, 53, 46, 67, 111, 110, 116, 101, 110, 116, 79, 110, 101, 32, 102, 111, 108, 107, 109, 111, 111, 116, 47, 102, 111, 108, 107, 109, 111, 111, 116, 108, 97, 119, 49, 53, 46, 67, 111, 110, 116, 101, 110, 116, 82, 101, 97, 100, 115, 32, 102, 111, 108, 107, 109, 111, 111, 116, 47, 102, 111, 108, 107, 109, 111, 111, 116, 108, 97, 119, 49, 53, 46, 67, 111, 110, 116, 101, 110, 116, 65, 108, 108, 32, 102, 111, 108, 107, 109, 111, 111, 116, 47, 102, 111, 108, 107, 109, 111, 111, 116, 108, 97, 119, 49, 54, 46, 69, 120, 99, 104, 97, 110, 103, 101, 80, 108, 97, 121, 115, 32, 102, 111, 108, 107, 109, 111, 111, 116, 47, 102, 111, 108, 107, 109, 111, 111, 116, 108, 97, 119, 49, 54, 46, 69, 120, 99, 104, 97, 110, 103, 101, 84, 117, 114, 110, 101, 100, 32, 102, 111, 108, 107, 109, 111, 111, 116, 47, 102, 111, 108, 107, 109, 111, 111, 116, 108, 97, 119, 49, 54, 46, 69, 120, 99, 104, 97, 110, 103, 101, 70, 117, 108, 108, 32, 102, 111, 108, 107, 109, 111, 111, 116, 47, 102, 111, 108, 107, 109, 111, 111, 116, 108, 97, 119, 49, 54, 46, 69, 120, 99, 104, 97, 110, 103, 101, 75, 101, 101, 112, 115, 32, 102, 111, 108, 107, 109, 111, 111, 116, 47, 102, 111, 108, 107, 109, 111, 111, 116, 108, 97, 119, 49, 54, 46, 69, 120, 99, 104, 97, 110, 103, 101, 79, 110, 101, 32, 102, 111, 108, 107, 109, 111, 111, 116, 47, 102, 111, 108, 107, 109, 111, 111, 116, 108, 97, 119, 49, 54, 46, 69, 120, 99, 104, 97, 110, 103, 101, 77, 111, 114, 101].map Char.ofNat) = [[104, 97, 114, 110, 101, 115, 115], [98, 100, 54, 52, 55, 100, 48, 52, 56, 99, 56, 57, 55, 50, 49, 57, 98, 52, 100, 49, 52, 51, 55, 98, 57, 48, 102, 102, 48, 56, 49, 50, 49, 53, 100, 52, 49, 53, 51, 54, 99, 100, 49, 54, 52, 54, 49, 100, 52, 97, 49, 97, 54, 54, 102, 52, 101, 56, 53, 55, 97, 101, 50, 55], [99, 117, 116], [97, 116], [102, 111, 108, 107, 109, 111, 111, 116, 47, 102, 111, 108, 107, 109, 111, 111, 116, 108, 97, 119, 49, 53, 46, 67, 111, 110, 116, 101, 110, 116, 70, 105, 110, 100, 115], [102, 111, 108, 107, 109, 111, 111, 116, 47, 102, 111, 108, 107, 109, 111, 111, 116, 108, 97, 119, 49, 53, 46, 67, 111, 110, 116, 101, 110, 116, 75, 101, 101, 112, 115], [102, 111, 108, 107, 109, 111, 111, 116, 47, 102, 111, 108, 107, 109, 111, 111, 116, 108, 97, 119, 49, 53, 46, 67, 111, 110, 116, 101, 110, 116, 77, 101, 114, 103, 101, 115], [102, 111, 108, 107, 109, 111, 111, 116, 47, 102, 111, 108, 107, 109, 111, 111, 116, 108, 97, 119, 49, 53, 46, 67, 111, 110, 116, 101, 110, 116, 79, 114, 100, 101, 114], [102, 111, 108, 107, 109, 111, 111, 116, 47, 102, 111, 108, 107, 109, 111, 111, 116, 108, 97, 119, 48, 53, 46, 76, 97, 98, 101, 108, 75, 101, 101, 112, 115], [102, 111, 108, 107, 109, 111, 111, 116, 47, 102, 111, 108, 107, 109, 111, 111, 116, 108, 97, 119, 48, 53, 46, 76, 97, 98, 101, 108, 80, 97, 114, 116, 115], [102, 111, 108, 107, 109, 111, 111, 116, 47, 102, 111, 108, 107, 109, 111, 111, 116, 108, 97, 119, 48, 53, 46, 76, 97, 98, 101, 108, 83, 111, 114, 116, 115], [102, 111, 108, 107, 109, 111, 111, 116, 47, 102, 111, 108, 107, 109, 111, 111, 116, 108, 97, 119, 48, 53, 46, 76, 97, 98, 101, 108, 66, 101, 104, 105, 110, 100], [102, 111, 108, 107, 109, 111, 111, 116, 47, 102, 111, 108, 107, 109, 111, 111, 116, 108, 97, 119, 48, 53, 46, 76, 97, 98, 101, 108, 79, 114, 100, 101, 114], [102, 111, 108, 107, 109, 111, 111, 116, 47, 102, 111, 108, 107, 109, 111, 111, 116, 108, 97, 119, 49, 53, 46, 67, 111, 110, 116, 101, 110, 116, 65, 112, 97, 114, 116], [102, 111, 108, 107, 109, 111, 111, 116, 47, 102, 111, 108, 107, 109, 111, 111, 116, 108, 97, 119, 49, 53, 46, 67, 111, 110, 116, 101, 110, 116, 79, 110, 101], [102, 111, 108, 107, 109, 111, 111, 116, 47, 102, 111, 108, 107, 109, 111, 111, 116, 108, 97, 119, 49, 53, 46, 67, 111, 110, 116, 101, 110, 116, 82, 101, 97, 100, 115], [102, 111, 108, 107, 109, 111, 111, 116, 47, 102, 111, 108, 107, 109, 111, 111, 116, 108, 97, 119, 49, 53, 46, 67, 111, 110, 116, 101, 110, 116, 65, 108, 108], [102, 111, 108, 107, 109, 111, 111, 116, 47, 102, 111, 108, 107, 109, 111, 111, 116, 108, 97, 119, 49, 54, 46, 69, 120, 99, 104, 97, 110, 103, 101, 80, 108, 97, 121, 115], [102, 111, 108, 107, 109, 111, 111, 116, 47, 102, 111, 108, 107, 109, 111, 111, 116, 108, 97, 119, 49, 54, 46, 69, 120, 99, 104, 97, 110, 103, 101, 84, 117, 114, 110, 101, 100], [102, 111, 108, 107, 109, 111, 111, 116, 47, 102, 111, 108, 107, 109, 111, 111, 116, 108, 97, 119, 49, 54, 46, 69, 120, 99, 104, 97, 110, 103, 101, 70, 117, 108, 108], [102, 111, 108, 107, 109, 111, 111, 116, 47, 102, 111, 108, 107, 109, 111, 111, 116, 108, 97, 119, 49, 54, 46, 69, 120, 99, 104, 97, 110, 103, 101, 75, 101, 101, 112, 115], [102, 111, 108, 107, 109, 111, 111, 116, 47, 102, 111, 108, 107, 109, 111, 111, 116, 108, 97, 119, 49, 54, 46, 69, 120, 99, 104, 97, 110, 103, 101, 79, 110, 101], [102, 111, 108, 107, 109, 111, 111, 116, 47, 102, 111, 108, 107, 109, 111, 111, 116, 108, 97, 119, 49, 54, 46, 69, 120, 99, 104, 97, 110, 103, 101, 77, 111, 114, 101]].map (List.map Char.ofNat) := by kernel_rfl
theorem head_behind : ∃ rest, behindMainWord (wordsSigns Try.prog.initOrder.toList) = [99, 117, 116].map Char.ofNat :: rest := by
  rw [head_signs, head_words]
  exact ⟨[[99, 117, 116], [97, 116], [102, 111, 108, 107, 109, 111, 111, 116, 47, 102, 111, 108, 107, 109, 111, 111, 116, 108, 97, 119, 49, 53, 46, 67, 111, 110, 116, 101, 110, 116, 70, 105, 110, 100, 115], [102, 111, 108, 107, 109, 111, 111, 116, 47, 102, 111, 108, 107, 109, 111, 111, 116, 108, 97, 119, 49, 53, 46, 67, 111, 110, 116, 101, 110, 116, 75, 101, 101, 112, 115], [102, 111, 108, 107, 109, 111, 111, 116, 47, 102, 111, 108, 107, 109, 111, 111, 116, 108, 97, 119, 49, 53, 46, 67, 111, 110, 116, 101, 110, 116, 77, 101, 114, 103, 101, 115], [102, 111, 108, 107, 109, 111, 111, 116, 47, 102, 111, 108, 107, 109, 111, 111, 116, 108, 97, 119, 49, 53, 46, 67, 111, 110, 116, 101, 110, 116, 79, 114, 100, 101, 114], [102, 111, 108, 107, 109, 111, 111, 116, 47, 102, 111, 108, 107, 109, 111, 111, 116, 108, 97, 119, 48, 53, 46, 76, 97, 98, 101, 108, 75, 101, 101, 112, 115], [102, 111, 108, 107, 109, 111, 111, 116, 47, 102, 111, 108, 107, 109, 111, 111, 116, 108, 97, 119, 48, 53, 46, 76, 97, 98, 101, 108, 80, 97, 114, 116, 115], [102, 111, 108, 107, 109, 111, 111, 116, 47, 102, 111, 108, 107, 109, 111, 111, 116, 108, 97, 119, 48, 53, 46, 76, 97, 98, 101, 108, 83, 111, 114, 116, 115], [102, 111, 108, 107, 109, 111, 111, 116, 47, 102, 111, 108, 107, 109, 111, 111, 116, 108, 97, 119, 48, 53, 46, 76, 97, 98, 101, 108, 66, 101, 104, 105, 110, 100], [102, 111, 108, 107, 109, 111, 111, 116, 47, 102, 111, 108, 107, 109, 111, 111, 116, 108, 97, 119, 48, 53, 46, 76, 97, 98, 101, 108, 79, 114, 100, 101, 114], [102, 111, 108, 107, 109, 111, 111, 116, 47, 102, 111, 108, 107, 109, 111, 111, 116, 108, 97, 119, 49, 53, 46, 67, 111, 110, 116, 101, 110, 116, 65, 112, 97, 114, 116], [102, 111, 108, 107, 109, 111, 111, 116, 47, 102, 111, 108, 107, 109, 111, 111, 116, 108, 97, 119, 49, 53, 46, 67, 111, 110, 116, 101, 110, 116, 79, 110, 101], [102, 111, 108, 107, 109, 111, 111, 116, 47, 102, 111, 108, 107, 109, 111, 111, 116, 108, 97, 119, 49, 53, 46, 67, 111, 110, 116, 101, 110, 116, 82, 101, 97, 100, 115], [102, 111, 108, 107, 109, 111, 111, 116, 47, 102, 111, 108, 107, 109, 111, 111, 116, 108, 97, 119, 49, 53, 46, 67, 111, 110, 116, 101, 110, 116, 65, 108, 108], [102, 111, 108, 107, 109, 111, 111, 116, 47, 102, 111, 108, 107, 109, 111, 111, 116, 108, 97, 119, 49, 54, 46, 69, 120, 99, 104, 97, 110, 103, 101, 80, 108, 97, 121, 115], [102, 111, 108, 107, 109, 111, 111, 116, 47, 102, 111, 108, 107, 109, 111, 111, 116, 108, 97, 119, 49, 54, 46, 69, 120, 99, 104, 97, 110, 103, 101, 84, 117, 114, 110, 101, 100], [102, 111, 108, 107, 109, 111, 111, 116, 47, 102, 111, 108, 107, 109, 111, 111, 116, 108, 97, 119, 49, 54, 46, 69, 120, 99, 104, 97, 110, 103, 101, 70, 117, 108, 108], [102, 111, 108, 107, 109, 111, 111, 116, 47, 102, 111, 108, 107, 109, 111, 111, 116, 108, 97, 119, 49, 54, 46, 69, 120, 99, 104, 97, 110, 103, 101, 75, 101, 101, 112, 115], [102, 111, 108, 107, 109, 111, 111, 116, 47, 102, 111, 108, 107, 109, 111, 111, 116, 108, 97, 119, 49, 54, 46, 69, 120, 99, 104, 97, 110, 103, 101, 79, 110, 101], [102, 111, 108, 107, 109, 111, 111, 116, 47, 102, 111, 108, 107, 109, 111, 111, 116, 108, 97, 119, 49, 54, 46, 69, 120, 99, 104, 97, 110, 103, 101, 77, 111, 114, 101]].tail.map (List.map Char.ofNat), by kernel_rfl⟩
theorem cut_gc : (([99, 117, 116].map Char.ofNat) == "gc".toList) = false := by kernel_rfl
theorem cut_spec : (([99, 117, 116].map Char.ofNat) == "spec".toList) = false := by kernel_rfl
theorem cut_carried : (([99, 117, 116].map Char.ofNat) == "carried".toList) = false := by kernel_rfl
theorem cut_cut : (([99, 117, 116].map Char.ofNat) == "cut".toList) = true := by kernel_rfl
theorem cut_some (rest : List (List Char)) : ((([99, 117, 116].map Char.ofNat) :: rest).head? == some "cut".toList) = true := cut_cut
theorem cut_strip (rest : List (List Char)) : stripLifts liftWords (([99, 117, 116].map Char.ofNat) :: rest) = ([], ([99, 117, 116].map Char.ofNat) :: rest) := by
  simp only [liftWords, stripLifts]
  rfl
theorem make_of {P : Program} {rest : List (List Char)} (h : behindMainWord (wordsSigns P.initOrder.toList) = [99, 117, 116].map Char.ofNat :: rest) : P.make = some .cut := by
  unfold Program.make
  rw [h]
  simp only [cut_gc, cut_spec, cut_cut, Bool.or_false, Bool.true_or, Bool.false_eq_true, if_false, if_true]
theorem lifts_of {P : Program} {rest : List (List Char)} (h : behindMainWord (wordsSigns P.initOrder.toList) = [99, 117, 116].map Char.ofNat :: rest) : P.liftsFinal = false := by
  unfold Program.liftsFinal Program.headLifts
  rw [h]
  simp only [cut_strip, List.head?_cons]
  show ((([99, 117, 116].map Char.ofNat) == "carried".toList) && _ || _) = false
  rw [cut_carried]
  kernel_rfl
theorem enter_of {P : Program} {rest : List (List Char)} (h : behindMainWord (wordsSigns P.initOrder.toList) = [99, 117, 116].map Char.ofNat :: rest) (h1 : P.laysLater = false) (h2 : P.bearsReflect = false) (h3 : P.doorFits [] = true) : P.mayEnter = true := by
  unfold Program.mayEnter
  rw [h]
  simp only [cut_strip, cut_some, cut_gc, cut_spec, cut_carried, h1, h2, h3, Bool.not_false, Bool.or_true, Bool.and_true, Bool.or_false, Bool.false_and, List.contains_nil]
theorem head_make : Try.prog.make = some .cut := head_behind.elim fun _ h => make_of h
theorem head_lifts : Try.prog.liftsFinal = false := head_behind.elim fun _ h => lifts_of h
theorem head_enter : Try.prog.mayEnter = true := head_behind.elim fun _ h => enter_of h (by kernel_rfl) (by kernel_rfl) (by kernel_rfl)
end Go.Proofs.Ytioooiflpabngaa

namespace Go.Proofs.Ytioooiflpabngaa.labelOrder
open Go.ChangeShapes Go.WideShapes Go.ChangeAt Go.RowKit Go.Proofs.Ytioooiflpabngaa.PAll
set_option linter.unusedVariables false
theorem own : ownKnob Try.prog.godebug = none := by kernel_rfl
theorem laidOut : laidOutB Try.prog = true := by kernel_rfl
set_option maxRecDepth 100000 in
theorem lifted (os : Os) (started : os.Started) (H : Type) (enc : TypeId × Value → H) :
    ReturnsInHanded {} Try.checked os 11 .any (Rows.labelOrderSpec.pre6 enc Try.prog Try.f11 Rows.labelOrderRow.domain false) (Rows.labelOrderSpec.post enc Try.prog Try.f11 false true false false) := by
  refine returnsInHanded_of_change_sized (C := Try.checked) own started (by kernel_rfl) Try.func11
    (ChangeSpec.witness6 (enc := enc) (C := Try.checked) false ⟨#[], #[.agg #[.int .u64 0, .int .i64 0, .int .u64 0, .int .i64 0], .agg #[.int .u64 0, .int .i64 0, .int .u64 0, .int .i64 0], .agg #[.int .u64 0, .int .i64 0, .int .u64 0, .int .i64 0]], []⟩ 8 (by kernel_rfl) (by kernel_rfl) (by kernel_rfl) (by kernel_rfl)) ?_
  intro W base args ds gs before hval0 hW hcnd hsz0 _
  have hsz : (DataW.weightsEach Try.prog (Try.f11.params.toList ++ Rows.labelOrderSpec.plain.varTypes Try.prog) (ds ++ gs)).all (· ≤ reachBytes) = true := hsz0
  have hval : ∀ (j : Nat) t v, Try.f11.params[j]? = some t → args[j]? = some v → Value.okWide Try.prog W .any base t v := hval0
  have hW' := hW
  obtain ⟨p, q, hA0, hV, rfl, hfz, hnd⟩ := hW
  have hA : DataW.TrodAll enc Try.prog W 0 (fun _ => true) true Try.f11.params.toList args.toList ds p := hA0
  rw [Try.params11] at hA hval hsz
  obtain ⟨v0, vs0, d0, ds0, p0, q0, hargs, rfl, rfl, h0, r0⟩ := trodAll_cons hA
  obtain ⟨v1, vs1, d1, ds1, p1, q1, rfl, rfl, rfl, h1, r1⟩ := trodAll_cons r0
  obtain ⟨v2, vs2, d2, ds2, p2, q2, rfl, rfl, rfl, h2, r2⟩ := trodAll_cons r1
  obtain ⟨rfl, rfl, rfl⟩ := trodAll_nil r2
  obtain rfl : args = #[v0, v1, v2] := by cases args; simp_all
  obtain ⟨rfl, rfl⟩ := trodVars_none hV
  have z0 : ∀ n ∈ d0.weights Try.prog 27, n ≤ reachBytes := fun n hn => of_decide_eq_true (List.all_eq_true.1 hsz _ (DataW.weights_mem_each (j := 0) (t := 27) rfl rfl n hn))
  have k0 := h0
  have lt0 : ∀ x ∈ p0, x.block < W.heap.size := by obtain ⟨m, hm⟩ := k0; exact DataW.trod_lt m _ _ _ hm
  obtain ⟨cs0, rfl, _⟩ := okWide_struct Try.underlying27 (hval 0 27 v0 rfl rfl)
  obtain ⟨x0, hK0, ok0⟩ := arg_trod opensL h0 z0
  have e0 := agg_of (k27_open hK0)
  subst e0
  have z1 : ∀ n ∈ d1.weights Try.prog 27, n ≤ reachBytes := fun n hn => of_decide_eq_true (List.all_eq_true.1 hsz _ (DataW.weights_mem_each (j := 1) (t := 27) rfl rfl n hn))
  have k1 := h1
  have lt1 : ∀ x ∈ p1, x.block < W.heap.size := by obtain ⟨m, hm⟩ := k1; exact DataW.trod_lt m _ _ _ hm
  obtain ⟨cs1, rfl, _⟩ := okWide_struct Try.underlying27 (hval 1 27 v1 rfl rfl)
  obtain ⟨x1, hK1, ok1⟩ := arg_trod opensL h1 z1
  have e1 := agg_of (k27_open hK1)
  subst e1
  have z2 : ∀ n ∈ d2.weights Try.prog 27, n ≤ reachBytes := fun n hn => of_decide_eq_true (List.all_eq_true.1 hsz _ (DataW.weights_mem_each (j := 2) (t := 27) rfl rfl n hn))
  have k2 := h2
  have lt2 : ∀ x ∈ p2, x.block < W.heap.size := by obtain ⟨m, hm⟩ := k2; exact DataW.trod_lt m _ _ _ hm
  obtain ⟨cs2, rfl, _⟩ := okWide_struct Try.underlying27 (hval 2 27 v2 rfl rfl)
  obtain ⟨x2, hK2, ok2⟩ := arg_trod opensL h2 z2
  have e2 := agg_of (k27_open hK2)
  subst e2
  clear hA0 hval0 hsz0 hsz
  obtain ⟨k, hp⟩ := pure_LabelOrder x0 x1 x2 ok0 ok1 ok2
  refine (folkmootlaw05_LabelOrder.calls k x0.f0.f0 x0.f0.f1 x0.f1 x0.f2 x1.f0.f0 x1.f0.f1 x1.f1 x1.f2 x2.f0.f0 x2.f0.f1 x2.f1 x2.f2 true W  hp).mono fun e W' ⟨he, bel⟩ => ?_
  subst he
  exact ⟨_, rfl, _, _, _, [], _, [], hW', trodAll_mk1 (shut_bool Try.underlying4 _), (trodAll_cons_mk (Below.trod laidOut (by kernel_rfl) (of_decide_eq_true (by kernel_rfl)) k0 bel lt0) (trodAll_cons_mk (Below.trod laidOut (by kernel_rfl) (of_decide_eq_true (by kernel_rfl)) k1 bel lt1) (trodAll_cons_mk (Below.trod laidOut (by kernel_rfl) (of_decide_eq_true (by kernel_rfl)) k2 bel lt2) trodAll_mk0))), rfl, bel.frame _, fun h => by cases h⟩
theorem closed : joinedFacts Try.prog 11 Try.f11 Rows.labelOrderSpec Rows.labelOrderRow = true := by
  unfold joinedFacts
  rw [head_enter, head_lifts, head_make]
  kernel_rfl
theorem over : Rows.labelOrderRow.holds Try.pinned (OpenSpec.ofChange Rows.labelOrderSpec) :=
  OpenClaim.holds_of_wide 11 Try.f11 rfl rfl rfl rfl rfl rfl rfl ⟨rfl, rfl, rfl, rfl, rfl⟩ rfl rfl rfl rfl rfl (by kernel_rfl) Try.func11 closed
    (of_decide_eq_true (by kernel_rfl)) (by unfold Func.isWrapper; first | (rw [if_pos (by decide +kernel)]; kernel_rfl) | (rw [if_neg (by decide +kernel)]; exact ⟨rfl, rfl⟩))
    (fun os started H enc _ => lifted os started H enc)
theorem proved : Rows.LabelOrderSaid := over
end Go.Proofs.Ytioooiflpabngaa.labelOrder
