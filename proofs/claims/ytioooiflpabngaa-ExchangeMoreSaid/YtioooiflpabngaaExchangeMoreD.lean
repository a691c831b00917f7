/- Parts: HCompareD, Lay, HIter, HSortA, HSortB, HSort, HBehindA, HBehind, HLabels, PAllx96, EOrders, PAllx90, PAllx89. -/
import Derived.Test.YtioooiflpabngaaExchangeMoreB
import Derived.Sort.Grow
import Derived.Shelf.SlGeneric
import Derived.Shelf.SlSortCmp.NoneTotal
import Derived.Ground.SlsfProg
import Derived.Test.YtioooiflpabngaaProg
import Derived.RangeFuncNested
import Derived.RangeFuncBound
import Derived.RangeFuncCalls
import Derived.RangeFuncLeaves
import Derived.Shelf.Abstract
import Derived.Shelf.RegionOpen
import Derived.WalkKit
import Derived.OwnWalkIn
import Derived.Maps.OwnIn
import Derived.TacticsInMore
import Derived.LoopNIn
import Derived.LoopIn
import Derived.Outline
import Derived.Lib.SlicesCompact
import Derived.Carry
import Derived.Maps.OwnOps
import Derived.Test.YtioooiflpabngaaExchangeMoreC
set_option linter.unusedVariables false
set_option linter.unusedSimpArgs false
section
namespace Go.Proofs.Ytioooiflpabngaa.PAll
open Go.RowKit Go.Proofs.YtioooiflpabngaaW.PrintWords Go.Proofs.YtioooiflpabngaaW.PrintLast Go.Proofs.YtioooiflpabngaaW.PrintMore
attribute [local go_sem] max2_int min2_int max_two min_two max_three min_three max_four min_four
set_option linter.unusedVariables false
set_option linter.unusedSimpArgs false
structure BlwD (B : Nat) (w w' : World) : Prop where
 mk ::
 (b : Below B w w')
 (d : w.drawn ≤ w'.drawn)
theorem BlwD.refl (B : Nat) (w : World) : BlwD B w w := ⟨Below.refl _ _, Nat.le_refl _⟩
theorem dbelow_alloc {w W : World} (h : BlwD w.heap.size w W) (o : Obj) : BlwD w.heap.size w (W.alloc o) := ⟨below_alloc h.b o, h.d⟩
theorem dpw_below_drewN {B : Nat} {w W : World} (h : BlwD B w W) (n : Nat) : BlwD B w (W.drewN n) := ⟨pw_below_drewN h.b n, Nat.le_trans h.d (Nat.le_add_right _ _)⟩
theorem dbelow_drew1 {B : Nat} {w W : World} (h : BlwD B w W) : BlwD B w W.drew := ⟨below_drew1 h.b, Nat.le_trans h.d (Nat.le_succ _)⟩
theorem dbelow_step {w W w2 : World} (h : BlwD w.heap.size w W) (k : BlwD W.heap.size W w2) : BlwD w.heap.size w w2 := ⟨below_step h.b k.b, Nat.le_trans h.d k.d⟩
theorem dbelow_set {w W : World} {g j : Nat} {v : Value} (h : BlwD w.heap.size w W) (hg : w.heap.size ≤ g) : BlwD w.heap.size w (W.setCell ⟨g, j, none⟩ v) := ⟨below_set h.b hg, h.d⟩
theorem dbelow_size {w W : World} (h : BlwD w.heap.size w W) : w.heap.size ≤ W.heap.size := h.b.size
theorem dblk_below {w w1 : World} {g : Nat} {o : Obj} (h : w.heap[g]? = some o) (hb : BlwD w.heap.size w w1) : w1.heap[g]? = some o := blk_below h hb.b
section
variable {P : Program} {ops : Array Oper} {rest : List Oper} {o : Oper} {a : Act} {Q : Exit → Act → World → Prop} {Kc : Act → World → Prop}
theorem dbox_event {W : World} (hgd : o.guard = none) {N : Tmp} (_hd : o.dst = some N) {cs : Array Value} {t : TypeId}
  (hrun : (execOp a.eval o).run P W = .ok (.value (.pointer (some ⟨W.heap.size, 0, none⟩))) (W.alloc (.cells cs t (0, 0))))
  (h : ∀ g, g = W.heap.size → ∀ w1, w1.heap[g]? = some (.cells cs t (0, 0)) → BlwD W.heap.size W w1 → wpList P ops Q rest (a.put o.dst (.pointer (some ⟨g, 0, none⟩))) w1) : wpList P ops Q (o :: rest) a W :=
 Kd.event_run hgd hrun (h _ rfl _ (blk_new W _) (dbelow_alloc (BlwD.refl _ _) _))
theorem dR_lit_step {α : Type} (d : Kd α) {w0 W : World} (base e : Nat) (hw : Region.wanted o (yielded ops a.tmps) = true) {N : Tmp} (_hd : o.dst = some N) {xs : List α} {inner : List Value} {ok okp : Nat → Prop}
  (hrun : (execOp a.eval o).run P W = .ok (.value (.slice (some ⟨W.heap.size, 0, none⟩) xs.length xs.length)) (W.alloc (.cells inner.toArray e)))
  (hrep : Reps (d.M W base okp) d.sz xs inner) (hok : ∀ k, okp k → ok k) (hfresh : ok W.heap.size) (HB : BlwD base w0 W) (hbase : base ≤ W.heap.size) (hm : xs.length ≤ 9223372036854775807)
  (h : ∀ v1 w1, d.R e w1 base ok v1 xs → BlwD base w0 w1 → W.grownBy w1 none → (∃ b, v1.ownBlock = some b ∧ W.heap.size ≤ b) → Kc (a.put o.dst v1) w1) : if Region.wanted o (yielded ops a.tmps) = true then Oper.wp P o a W Kc Q else Kc (a.put o.dst undef) W := by
 refine event_step hw hrun (h _ _ ⟨fun k hk => ?_, inner, ?_, ?_⟩ ⟨HB.b.alloc hbase _, HB.d⟩ (World.grownBy_alloc W _ none) ⟨W.heap.size, by simp [Value.ownBlock], Nat.le_refl _⟩)
 ·
  have : W.heap.size = k := by simpa [Value.ownBlock] using hk
  subst this
  exact hfresh
 ·
  have h2 := World.ownsRow_lit (base := base) (e := e) (size := d.sz) W inner.toArray xs.length hbase (by simpa [maxLen] using hm) (by simpa using hrep.1)
  simpa using h2
 ·
  refine hrep.imp_ (fun p c hp => d.M_mono (fun k hk => ⟨hok k hk.1, fun he => ?_⟩) (Kd.M_below (d.M_bound hp) (below_alloc (Below.refl _ _) _)))
  have h3 : k = W.heap.size := by simpa [Value.ownBlock] using he
  have := hk.2.2.1
  omega
end
theorem BlwD.grow {w w' : World} (h : BlwD w.heap.size w w') : ∃ q os, w' = Go.Sort.grow (w.drewN q) os := by
 refine ⟨w'.drawn - w.drawn, w'.heap.extract w.heap.size w'.heap.size, ?_⟩
 obtain ⟨hb, hd⟩ := h
 have hh : w'.heap = w.heap ++ w'.heap.extract w.heap.size w'.heap.size := by
  apply Array.ext_getElem?
  intro i
  rcases Nat.lt_or_ge i w.heap.size with hi | hi
  ·
   rw [Array.getElem?_append_left hi, hb.block i hi]
  ·
   rw [Array.getElem?_append_right hi, Array.getElem?_extract]
   have := hb.size
   by_cases h2 : i - w.heap.size < w'.heap.size - w.heap.size
   ·
    have e : w.heap.size + (i - w.heap.size) = i := by omega
    simp [h2, e]
   ·
    have e : w'.heap[i]? = none := by rw [Array.getElem?_eq_none]; omega
    simp [h2, e]
 cases w' with
 | mk heap tape drawn os output =>
  simp only [Go.Sort.grow] at *
  have e1 := hb.tape
  have e2 := hb.os
  have e3 := hb.output
  simp only at e1 e2 e3
  subst e1 e2 e3
  have e4 : drawn = w.drawn + (drawn - w.drawn) := by omega
  show ({ heap := heap, tape := w.tape, drawn := drawn, os := w.os, output := w.output } : World) = { heap := w.heap ++ heap.extract w.heap.size, tape := w.tape, drawn := w.drawn + (drawn - w.drawn), os := w.os, output := w.output }
  rw [← hh, ← e4]
set_option maxHeartbeats 8000000 in
set_option maxRecDepth 100000 in
theorem ident_Compare.callsD (a0_0 : Int) (a0_1 : Int) (a1_0 : Int) (a1_1 : Int) (r : Int) (w : World) (h : ident_Compare.f a0_0 a0_1 a1_0 a1_1 = some r) :
  Calls Try.prog 86 #[.agg #[.int .u64 a0_0, .int .i64 a0_1], .agg #[.int .u64 a1_0, .int .i64 a1_1]] w fun e w' => e = .returned (.int .i64 r) ∧ BlwD w.heap.size w w' := by
 have hu25 := Try.underlying25
 have HB := Aside0.mk (BlwD.refl w.heap.size w)
 have H : ((cmp_Compare_uint64.f a0_0 a1_0).bind fun t199 => (if t199 = 0 then ((cmp_Compare_int.f a0_1 a1_1).bind fun t200 => (some t200)) else (some t199))) = some r := h
 clear h
 replace H := Option.bind_eq_some_iff.mp H
 obtain ⟨t199, A30, H⟩ := H
 replace H : (if t199 = 0 then ((cmp_Compare_int.f a0_1 a1_1).bind fun t200 => (some t200)) else (some t199)) = some r := H
 have A3 := Aside0.mk A30
 clear A30
 by_cases c4 : t199 = 0
 ·
  rw [if_pos c4] at H
  have c4b0 : (t199 == 0) = true := beq_iff_eq.mpr c4
  have c4b1 : (t199 != 0) = false := bne_eq_false_iff_eq.mpr c4
  clear c4
  replace H := Option.bind_eq_some_iff.mp H
  obtain ⟨t200, A50, H⟩ := H
  replace H : (some t200) = some r := H
  have A5 := Aside0.mk A50
  clear A50
  obtain rfl := Option.some.inj H
  go_enter Try.func86, Try.ntmps86
  go_wp2_with (first | ((with_reducible refine gate_dst (N := 2) rfl ?_); refine dbox_event ?hg (N := 2) ?hd (cs := #[.int .u64 a0_0, .int .i64 a0_1]) (t := 25) ?hr ?_; (case hd => rfl); (case hg => rfl); (case hr => first | (go_simp; done) | (go_simp; rfl)); intro gb197 hg w6 hbox hb; have n0_ := Aside0.mk (dbelow_step (by repeat (first | (with_reducible first | exact HB.out | apply dbelow_alloc | apply dpw_below_drewN | apply dbelow_drew1) | exact HB.out)) hb); have n1_ := Aside0.mk (hbox); have n2_ := Aside0.mk ((by rw [hg]; exact (dbelow_size (by repeat (first | (with_reducible first | exact HB.out | apply dbelow_alloc | apply dpw_below_drewN | apply dbelow_drew1) | exact HB.out))) : w.heap.size ≤ gb197)); have n3_ := Aside0.mk ((by rw [hg]; exact (dbelow_size (by repeat (first | (with_reducible first | exact HB.out | apply dbelow_alloc | apply dpw_below_drewN | apply dbelow_drew1) | exact HB.out))) : w.heap.size ≤ gb197)); clear HB; have HB := n0_; have BK197 := n1_; have GW197 := n2_; have GE197 := n3_; clear n0_ n1_ n2_ n3_; clear hb hbox hg) | ((with_reducible refine gate_dst (N := 3) rfl ?_); refine dbox_event ?hg (N := 3) ?hd (cs := #[.int .u64 a1_0, .int .i64 a1_1]) (t := 25) ?hr ?_; (case hd => rfl); (case hg => rfl); (case hr => first | (go_simp; done) | (go_simp; rfl)); intro gb198 hg w7 hbox hb; have n0_ := Aside0.mk (dblk_below (g := gb197) (o := .cells #[.int .u64 a0_0, .int .i64 a0_1] 25 (0, 0)) (by (with_reducible repeat (first | refine blk_drewN ?_ _ | refine blk_drew ?_ | refine blk_alloc ?_ _)); exact BK197.out) hb); have n1_ := Aside0.mk (dbelow_step (by repeat (first | (with_reducible first | exact HB.out | apply dbelow_alloc | apply dpw_below_drewN | apply dbelow_drew1 | refine dbelow_set ?_ GE197.out) | exact HB.out)) hb); have n2_ := Aside0.mk (hbox); have n3_ := Aside0.mk ((by rw [hg]; exact (dbelow_size (by repeat (first | (with_reducible first | exact HB.out | apply dbelow_alloc | apply dpw_below_drewN | apply dbelow_drew1 | refine dbelow_set ?_ GE197.out) | exact HB.out))) : w.heap.size ≤ gb198)); have n4_ := Aside0.mk ((by rw [hg]; exact (dbelow_size (by repeat (first | (with_reducible first | exact HB.out | apply dbelow_alloc | apply dpw_below_drewN | apply dbelow_drew1 | refine dbelow_set ?_ GE197.out) | exact HB.out))) : w.heap.size ≤ gb198)); have n5_ := Aside0.mk ((by rw [hg]; exact Nat.ne_of_lt (blk_lt (g := gb197) (o := .cells #[.int .u64 a0_0, .int .i64 a0_1] 25 (0, 0)) (by (with_reducible repeat (first | refine blk_drewN ?_ _ | refine blk_drew ?_ | refine blk_alloc ?_ _)); exact BK197.out)) : gb197 ≠ gb198)); have n6_ := Aside0.mk ((by rw [hg]; exact Nat.ne_of_gt (blk_lt (g := gb197) (o := .cells #[.int .u64 a0_0, .int .i64 a0_1] 25 (0, 0)) (by (with_reducible repeat (first | refine blk_drewN ?_ _ | refine blk_drew ?_ | refine blk_alloc ?_ _)); exact BK197.out)) : gb198 ≠ gb197)); clear BK197; clear HB; have BK197 := n0_; have HB := n1_; have BK198 := n2_; have GW198 := n3_; have GE198 := n4_; have NB197_198 := n5_; have NB198_197 := n6_; clear n0_ n1_ n2_ n3_ n4_ n5_ n6_; clear hb hbox hg; have hnb8 := NB197_198.out; have hnc8 := NB198_197.out; have hcz9_0 : w7.cell? ⟨gb197, 0, none⟩ = some (.int .u64 a0_0) := (blk_cell BK197.out 0).trans rfl; have hcz9_1 : w7.cell? ⟨gb197, 1, none⟩ = some (.int .i64 a0_1) := (blk_cell BK197.out 1).trans rfl; have hfz9_0 := blk_frozen BK197.out 0; have hfz9_1 := blk_frozen BK197.out 1; have hcz10_0 : w7.cell? ⟨gb198, 0, none⟩ = some (.int .u64 a1_0) := (blk_cell BK198.out 0).trans rfl; have hcz10_1 : w7.cell? ⟨gb198, 1, none⟩ = some (.int .i64 a1_1) := (blk_cell BK198.out 1).trans rfl; have hfz10_0 := blk_frozen BK198.out 0; have hfz10_1 := blk_frozen BK198.out 1) | ((with_reducible refine gate_callee (f := 87) rfl ?_); refine goesL_ (some 10) rfl rfl Try.func87 (by kernel_rfl) rfl #[.int .u64 a0_0, .int .u64 a1_0] rfl za_ ?_; (with_reducible refine (cmp_Compare_uint64.calls a0_0 a1_0 t199 _ A3.out).mono ?_); rintro e w' ⟨rfl, ⟨nd, rfl⟩⟩; refine ⟨_, rfl, ?_⟩) | ((with_reducible refine gate_callee (f := 88) rfl ?_); refine goesL_ (some 18) rfl rfl Try.func88 (by kernel_rfl) rfl #[.int .i64 a0_1, .int .i64 a1_1] rfl za_ ?_; (with_reducible refine (cmp_Compare_int.calls a0_1 a1_1 t200 _ A5.out).mono ?_); rintro e w' ⟨rfl, ⟨nd, rfl⟩⟩; refine ⟨_, rfl, ?_⟩))
  go_ret
  exact ⟨by first | rfl | (simp [errW_none, errW_some] <;> rfl) | (simp [*, errW_none, errW_some] <;> rfl), by repeat (first | (with_reducible first | exact HB.out | apply dbelow_alloc | apply dpw_below_drewN | apply dbelow_drew1 | refine dbelow_set ?_ GE197.out | refine dbelow_set ?_ GE198.out) | exact HB.out)⟩
 ·
  rw [if_neg c4] at H
  have c4b0 : (t199 == 0) = false := beq_eq_false_iff_ne.mpr c4
  have c4b1 : (t199 != 0) = true := bne_iff_ne.mpr c4
  obtain rfl := Option.some.inj H
  go_enter Try.func86, Try.ntmps86
  go_wp2_with (first | ((with_reducible refine gate_dst (N := 2) rfl ?_); refine dbox_event ?hg (N := 2) ?hd (cs := #[.int .u64 a0_0, .int .i64 a0_1]) (t := 25) ?hr ?_; (case hd => rfl); (case hg => rfl); (case hr => first | (go_simp; done) | (go_simp; rfl)); intro gb197 hg w11 hbox hb; have n0_ := Aside0.mk (dbelow_step (by repeat (first | (with_reducible first | exact HB.out | apply dbelow_alloc | apply dpw_below_drewN | apply dbelow_drew1) | exact HB.out)) hb); have n1_ := Aside0.mk (hbox); have n2_ := Aside0.mk ((by rw [hg]; exact (dbelow_size (by repeat (first | (with_reducible first | exact HB.out | apply dbelow_alloc | apply dpw_below_drewN | apply dbelow_drew1) | exact HB.out))) : w.heap.size ≤ gb197)); have n3_ := Aside0.mk ((by rw [hg]; exact (dbelow_size (by repeat (first | (with_reducible first | exact HB.out | apply dbelow_alloc | apply dpw_below_drewN | apply dbelow_drew1) | exact HB.out))) : w.heap.size ≤ gb197)); clear HB; have HB := n0_; have BK197 := n1_; have GW197 := n2_; have GE197 := n3_; clear n0_ n1_ n2_ n3_; clear hb hbox hg) | ((with_reducible refine gate_dst (N := 3) rfl ?_); refine dbox_event ?hg (N := 3) ?hd (cs := #[.int .u64 a1_0, .int .i64 a1_1]) (t := 25) ?hr ?_; (case hd => rfl); (case hg => rfl); (case hr => first | (go_simp; done) | (go_simp; rfl)); intro gb198 hg w12 hbox hb; have n0_ := Aside0.mk (dblk_below (g := gb197) (o := .cells #[.int .u64 a0_0, .int .i64 a0_1] 25 (0, 0)) (by (with_reducible repeat (first | refine blk_drewN ?_ _ | refine blk_drew ?_ | refine blk_alloc ?_ _)); exact BK197.out) hb); have n1_ := Aside0.mk (dbelow_step (by repeat (first | (with_reducible first | exact HB.out | apply dbelow_alloc | apply dpw_below_drewN | apply dbelow_drew1 | refine dbelow_set ?_ GE197.out) | exact HB.out)) hb); have n2_ := Aside0.mk (hbox); have n3_ := Aside0.mk ((by rw [hg]; exact (dbelow_size (by repeat (first | (with_reducible first | exact HB.out | apply dbelow_alloc | apply dpw_below_drewN | apply dbelow_drew1 | refine dbelow_set ?_ GE197.out) | exact HB.out))) : w.heap.size ≤ gb198)); have n4_ := Aside0.mk ((by rw [hg]; exact (dbelow_size (by repeat (first | (with_reducible first | exact HB.out | apply dbelow_alloc | apply dpw_below_drewN | apply dbelow_drew1 | refine dbelow_set ?_ GE197.out) | exact HB.out))) : w.heap.size ≤ gb198)); have n5_ := Aside0.mk ((by rw [hg]; exact Nat.ne_of_lt (blk_lt (g := gb197) (o := .cells #[.int .u64 a0_0, .int .i64 a0_1] 25 (0, 0)) (by (with_reducible repeat (first | refine blk_drewN ?_ _ | refine blk_drew ?_ | refine blk_alloc ?_ _)); exact BK197.out)) : gb197 ≠ gb198)); have n6_ := Aside0.mk ((by rw [hg]; exact Nat.ne_of_gt (blk_lt (g := gb197) (o := .cells #[.int .u64 a0_0, .int .i64 a0_1] 25 (0, 0)) (by (with_reducible repeat (first | refine blk_drewN ?_ _ | refine blk_drew ?_ | refine blk_alloc ?_ _)); exact BK197.out)) : gb198 ≠ gb197)); clear BK197; clear HB; have BK197 := n0_; have HB := n1_; have BK198 := n2_; have GW198 := n3_; have GE198 := n4_; have NB197_198 := n5_; have NB198_197 := n6_; clear n0_ n1_ n2_ n3_ n4_ n5_ n6_; clear hb hbox hg; have hnb13 := NB197_198.out; have hnc13 := NB198_197.out; have hcz14_0 : w12.cell? ⟨gb197, 0, none⟩ = some (.int .u64 a0_0) := (blk_cell BK197.out 0).trans rfl; have hcz14_1 : w12.cell? ⟨gb197, 1, none⟩ = some (.int .i64 a0_1) := (blk_cell BK197.out 1).trans rfl; have hfz14_0 := blk_frozen BK197.out 0; have hfz14_1 := blk_frozen BK197.out 1; have hcz15_0 : w12.cell? ⟨gb198, 0, none⟩ = some (.int .u64 a1_0) := (blk_cell BK198.out 0).trans rfl; have hcz15_1 : w12.cell? ⟨gb198, 1, none⟩ = some (.int .i64 a1_1) := (blk_cell BK198.out 1).trans rfl; have hfz15_0 := blk_frozen BK198.out 0; have hfz15_1 := blk_frozen BK198.out 1) | ((with_reducible refine gate_callee (f := 87) rfl ?_); refine goesL_ (some 10) rfl rfl Try.func87 (by kernel_rfl) rfl #[.int .u64 a0_0, .int .u64 a1_0] rfl za_ ?_; (with_reducible refine (cmp_Compare_uint64.calls a0_0 a1_0 t199 _ A3.out).mono ?_); rintro e w' ⟨rfl, ⟨nd, rfl⟩⟩; refine ⟨_, rfl, ?_⟩))
  go_ret
  exact ⟨by first | rfl | (simp [errW_none, errW_some] <;> rfl) | (simp [*, errW_none, errW_some] <;> rfl), by repeat (first | (with_reducible first | exact HB.out | apply dbelow_alloc | apply dpw_below_drewN | apply dbelow_drew1 | refine dbelow_set ?_ GE197.out | refine dbelow_set ?_ GE198.out) | exact HB.out)⟩
set_option maxHeartbeats 8000000 in
set_option maxRecDepth 100000 in
theorem label_Compare.callsD (k : Nat) (a0_0 : Int) (a0_1 : Int) (a0_2 : Int) (a0_3 : Int) (a1_0 : Int) (a1_1 : Int) (a1_2 : Int) (a1_3 : Int) (r : Int) (w : World) (h : label_Compare.f k a0_0 a0_1 a0_2 a0_3 a1_0 a1_1 a1_2 a1_3 = some r) :
  Calls Try.prog 42 #[.agg #[.int .u64 a0_0, .int .i64 a0_1, .int .u64 a0_2, .int .i64 a0_3], .agg #[.int .u64 a1_0, .int .i64 a1_1, .int .u64 a1_2, .int .i64 a1_3]] w fun e w' => e = .returned (.int .i64 r) ∧ BlwD w.heap.size w w' := by
 have hu27 := Try.underlying27
 have hu25 := Try.underlying25
 have HB := Aside0.mk (BlwD.refl w.heap.size w)
 have H : ((ident_Compare.f a0_0 a0_1 a1_0 a1_1).bind fun t203 => ((cmp_Compare_uint64.f a0_2 a1_2).bind fun t204 => ((cmp_Compare_int.f a0_3 a1_3).bind fun t205 => ((cmp_Or_int.f k (([t203, t204, t205] : List Int))).bind fun t209 => (some t209))))) = some r := h
 clear h
 replace H := Option.bind_eq_some_iff.mp H
 obtain ⟨t203, A30, H⟩ := H
 replace H : ((cmp_Compare_uint64.f a0_2 a1_2).bind fun t204 => ((cmp_Compare_int.f a0_3 a1_3).bind fun t205 => ((cmp_Or_int.f k (([t203, t204, t205] : List Int))).bind fun t209 => (some t209)))) = some r := H
 have A3 := Aside0.mk A30
 clear A30
 replace H := Option.bind_eq_some_iff.mp H
 obtain ⟨t204, A40, H⟩ := H
 replace H : ((cmp_Compare_int.f a0_3 a1_3).bind fun t205 => ((cmp_Or_int.f k (([t203, t204, t205] : List Int))).bind fun t209 => (some t209))) = some r := H
 have A4 := Aside0.mk A40
 clear A40
 replace H := Option.bind_eq_some_iff.mp H
 obtain ⟨t205, A50, H⟩ := H
 replace H : ((cmp_Or_int.f k (([t203, t204, t205] : List Int))).bind fun t209 => (some t209)) = some r := H
 have A5 := Aside0.mk A50
 clear A50
 obtain ⟨y206, hy206⟩ : ∃ y_ : List Int, y_ = (([t203, t204, t205] : List Int)) := ⟨_, rfl⟩
 replace H : ((cmp_Or_int.f k y206).bind fun t209 => (some t209)) = some r := by first | (rw [hy206]; with_reducible exact H) | (have H2_ := (Option.bind_some _ _).symm.trans H; rw [hy206]; with_reducible exact H2_) | (have H2_ := (Option.bind_some _ _).symm.trans H; with_reducible exact H2_) | with_reducible exact H | (rw [hy206]; exact H) | exact H
 have Ny206 := Aside0.mk hy206
 clear hy206
 replace H := Option.bind_eq_some_iff.mp H
 obtain ⟨t209, A60, H⟩ := H
 replace H : (some t209) = some r := H
 have A6 := Aside0.mk A60
 clear A60
 obtain rfl := Option.some.inj H
 go_enter Try.func42, Try.ntmps42
 try go_wp2_with (first | ((with_reducible refine gate_dst (N := 2) rfl ?_); refine dbox_event ?hg (N := 2) ?hd (cs := #[.int .u64 a0_0, .int .i64 a0_1, .int .u64 a0_2, .int .i64 a0_3]) (t := 27) ?hr ?_; (case hd => rfl); (case hg => rfl); (case hr => first | (go_simp; done) | (go_simp; rfl)); intro gb201 hg w7 hbox hb; have n0_ := Aside0.mk (dbelow_step (by repeat (first | (with_reducible first | exact HB.out | apply dbelow_alloc | apply dpw_below_drewN | apply dbelow_drew1) | exact HB.out)) hb); have n1_ := Aside0.mk (hbox); have n2_ := Aside0.mk ((by rw [hg]; exact (dbelow_size (by repeat (first | (with_reducible first | exact HB.out | apply dbelow_alloc | apply dpw_below_drewN | apply dbelow_drew1) | exact HB.out))) : w.heap.size ≤ gb201)); have n3_ := Aside0.mk ((by rw [hg]; exact (dbelow_size (by repeat (first | (with_reducible first | exact HB.out | apply dbelow_alloc | apply dpw_below_drewN | apply dbelow_drew1) | exact HB.out))) : w.heap.size ≤ gb201)); clear HB; have HB := n0_; have BK201 := n1_; have GW201 := n2_; have GE201 := n3_; clear n0_ n1_ n2_ n3_; clear hb hbox hg) | ((with_reducible refine gate_dst (N := 3) rfl ?_); refine dbox_event ?hg (N := 3) ?hd (cs := #[.int .u64 a1_0, .int .i64 a1_1, .int .u64 a1_2, .int .i64 a1_3]) (t := 27) ?hr ?_; (case hd => rfl); (case hg => rfl); (case hr => first | (go_simp; done) | (go_simp; rfl)); intro gb202 hg w8 hbox hb; have n0_ := Aside0.mk (dblk_below (g := gb201) (o := .cells #[.int .u64 a0_0, .int .i64 a0_1, .int .u64 a0_2, .int .i64 a0_3] 27 (0, 0)) (by (with_reducible repeat (first | refine blk_drewN ?_ _ | refine blk_drew ?_ | refine blk_alloc ?_ _)); exact BK201.out) hb); have n1_ := Aside0.mk (dbelow_step (by repeat (first | (with_reducible first | exact HB.out | apply dbelow_alloc | apply dpw_below_drewN | apply dbelow_drew1 | refine dbelow_set ?_ GE201.out) | exact HB.out)) hb); have n2_ := Aside0.mk (hbox); have n3_ := Aside0.mk ((by rw [hg]; exact (dbelow_size (by repeat (first | (with_reducible first | exact HB.out | apply dbelow_alloc | apply dpw_below_drewN | apply dbelow_drew1 | refine dbelow_set ?_ GE201.out) | exact HB.out))) : w.heap.size ≤ gb202)); have n4_ := Aside0.mk ((by rw [hg]; exact (dbelow_size (by repeat (first | (with_reducible first | exact HB.out | apply dbelow_alloc | apply dpw_below_drewN | apply dbelow_drew1 | refine dbelow_set ?_ GE201.out) | exact HB.out))) : w.heap.size ≤ gb202)); have n5_ := Aside0.mk ((by rw [hg]; exact Nat.ne_of_lt (blk_lt (g := gb201) (o := .cells #[.int .u64 a0_0, .int .i64 a0_1, .int .u64 a0_2, .int .i64 a0_3] 27 (0, 0)) (by (with_reducible repeat (first | refine blk_drewN ?_ _ | refine blk_drew ?_ | refine blk_alloc ?_ _)); exact BK201.out)) : gb201 ≠ gb202)); have n6_ := Aside0.mk ((by rw [hg]; exact Nat.ne_of_gt (blk_lt (g := gb201) (o := .cells #[.int .u64 a0_0, .int .i64 a0_1, .int .u64 a0_2, .int .i64 a0_3] 27 (0, 0)) (by (with_reducible repeat (first | refine blk_drewN ?_ _ | refine blk_drew ?_ | refine blk_alloc ?_ _)); exact BK201.out)) : gb202 ≠ gb201)); clear BK201; clear HB; have BK201 := n0_; have HB := n1_; have BK202 := n2_; have GW202 := n3_; have GE202 := n4_; have NB201_202 := n5_; have NB202_201 := n6_; clear n0_ n1_ n2_ n3_ n4_ n5_ n6_; clear hb hbox hg))
 have n0_ := Aside0.mk (blk_drew BK201.out)
 have n1_ := Aside0.mk (blk_drew BK202.out)
 have n2_ := Aside0.mk (dbelow_drew1 HB.out)
 clear BK201
 clear BK202
 clear HB
 have BK201 := n0_
 have BK202 := n1_
 have HB := n2_
 clear n0_ n1_ n2_
 refine start_ (n := 18) (S := fun w' => w'.cell? ⟨gb201, 0, none⟩ = some (.int .u64 a0_0) ∧ w'.cell? ⟨gb201, 1, none⟩ = some (.int .i64 a0_1) ∧ w'.cell? ⟨gb201, 2, none⟩ = some (.int .u64 a0_2) ∧ w'.cell? ⟨gb201, 3, none⟩ = some (.int .i64 a0_3) ∧ w'.cell? ⟨gb202, 0, none⟩ = some (.int .u64 a1_0) ∧ w'.cell? ⟨gb202, 1, none⟩ = some (.int .i64 a1_1) ∧ w'.cell? ⟨gb202, 2, none⟩ = some (.int .u64 a1_2) ∧ w'.cell? ⟨gb202, 3, none⟩ = some (.int .i64 a1_3)) (ds := []) #[F_,F_,F_,F_,F_,F_,F_,F_,F_,F_,F_,F_,F_,F_,F_,F_,F_,F_] (by kernel_rfl) rfl rfl ⟨(blk_cell BK201.out 0).trans rfl, (blk_cell BK201.out 1).trans rfl, (blk_cell BK201.out 2).trans rfl, (blk_cell BK201.out 3).trans rfl, (blk_cell BK202.out 0).trans rfl, (blk_cell BK202.out 1).trans rfl, (blk_cell BK202.out 2).trans rfl, (blk_cell BK202.out 3).trans rfl⟩ (fun hHeld => ?_); refine with_tabW label_Compare.tab1 label_Compare.bits1 (fun HT_ HW_ => ?_)
 generalize w8.drew = w9 at BK201 BK202 HB hHeld ⊢
 refine pure_ (i := 0) (N := some 5) (v := ?_) (a' := ?_) #[T_,F_,F_,F_,F_,F_,F_,F_,F_,F_,F_,F_,F_,F_,F_,F_,F_,F_] rfl rfl (any_of HT_.out (by kernel_rfl)) (fun _ _ _ h => h) (Or.inl ⟨by rfl, ?_⟩) ?_ ?_
 rotate_left
 ·
  intro w'; go_simp; with_reducible rfl
 rotate_left
 ·
  exact zp_
 refine pure_ (i := 2) (N := some 7) (v := ?_) (a' := ?_) #[T_,F_,T_,F_,F_,F_,F_,F_,F_,F_,F_,F_,F_,F_,F_,F_,F_,F_] rfl rfl (any_of HT_.out (by kernel_rfl)) (fun _ _ _ h => h) (Or.inl ⟨by rfl, ?_⟩) ?_ ?_
 rotate_left
 ·
  intro w'; go_simp; with_reducible rfl
 rotate_left
 ·
  exact zp_
 refine pure_ (i := 5) (N := some 10) (v := ?_) (a' := ?_) #[T_,F_,T_,F_,F_,T_,F_,F_,F_,F_,F_,F_,F_,F_,F_,F_,F_,F_] rfl rfl (any_of HT_.out (by kernel_rfl)) (fun _ _ _ h => h) (Or.inl ⟨by rfl, ?_⟩) ?_ ?_
 rotate_left
 ·
  intro w'; go_simp; with_reducible rfl
 rotate_left
 ·
  exact zp_
 refine pure_ (i := 7) (N := some 12) (v := ?_) (a' := ?_) #[T_,F_,T_,F_,F_,T_,F_,T_,F_,F_,F_,F_,F_,F_,F_,F_,F_,F_] rfl rfl (any_of HT_.out (by kernel_rfl)) (fun _ _ _ h => h) (Or.inl ⟨by rfl, ?_⟩) ?_ ?_
 rotate_left
 ·
  intro w'; go_simp; with_reducible rfl
 rotate_left
 ·
  exact zp_
 refine pure_ (i := 10) (N := some 15) (v := ?_) (a' := ?_) #[T_,F_,T_,F_,F_,T_,F_,T_,F_,F_,T_,F_,F_,F_,F_,F_,F_,F_] rfl rfl (any_of HT_.out (by kernel_rfl)) (fun _ _ _ h => h) (Or.inl ⟨by rfl, ?_⟩) ?_ ?_
 rotate_left
 ·
  intro w'; go_simp; with_reducible rfl
 rotate_left
 ·
  exact zp_
 refine pure_ (i := 12) (N := some 17) (v := ?_) (a' := ?_) #[T_,F_,T_,F_,F_,T_,F_,T_,F_,F_,T_,F_,T_,F_,F_,F_,F_,F_] rfl rfl (any_of HT_.out (by kernel_rfl)) (fun _ _ _ h => h) (Or.inl ⟨by rfl, ?_⟩) ?_ ?_
 rotate_left
 ·
  intro w'; go_simp; with_reducible rfl
 rotate_left
 ·
  exact zp_
 refine take_ (i := 1) (N := some 6) (v := ?_) (a' := ?_) #[T_,T_,T_,F_,F_,T_,F_,T_,F_,F_,T_,F_,T_,F_,F_,F_,F_,F_] rfl rfl (take_ofW HT_.out HW_.out (by kernel_rfl)) (fun _ _ _ h => h) (Or.inl ⟨by rfl, ?_⟩) hHeld ?_ ?_
 rotate_left
 ·
  rintro w' ⟨s0, s1, s2, s3, s4, s5, s6, s7⟩
  go_simp
  with_reducible rfl
 rotate_left
 ·
  exact zp_
 refine take_ (i := 3) (N := some 8) (v := ?_) (a' := ?_) #[T_,T_,T_,T_,F_,T_,F_,T_,F_,F_,T_,F_,T_,F_,F_,F_,F_,F_] rfl rfl (take_ofW HT_.out HW_.out (by kernel_rfl)) (fun _ _ _ h => h) (Or.inl ⟨by rfl, ?_⟩) hHeld ?_ ?_
 rotate_left
 ·
  rintro w' ⟨s0, s1, s2, s3, s4, s5, s6, s7⟩
  go_simp
  with_reducible rfl
 rotate_left
 ·
  exact zp_
 refine take_ (i := 6) (N := some 11) (v := ?_) (a' := ?_) #[T_,T_,T_,T_,F_,T_,T_,T_,F_,F_,T_,F_,T_,F_,F_,F_,F_,F_] rfl rfl (take_ofW HT_.out HW_.out (by kernel_rfl)) (fun _ _ _ h => h) (Or.inl ⟨by rfl, ?_⟩) hHeld ?_ ?_
 rotate_left
 ·
  rintro w' ⟨s0, s1, s2, s3, s4, s5, s6, s7⟩
  go_simp
  with_reducible rfl
 rotate_left
 ·
  exact zp_
 refine take_ (i := 8) (N := some 13) (v := ?_) (a' := ?_) #[T_,T_,T_,T_,F_,T_,T_,T_,T_,F_,T_,F_,T_,F_,F_,F_,F_,F_] rfl rfl (take_ofW HT_.out HW_.out (by kernel_rfl)) (fun _ _ _ h => h) (Or.inl ⟨by rfl, ?_⟩) hHeld ?_ ?_
 rotate_left
 ·
  rintro w' ⟨s0, s1, s2, s3, s4, s5, s6, s7⟩
  go_simp
  with_reducible rfl
 rotate_left
 ·
  exact zp_
 refine take_ (i := 11) (N := some 16) (v := ?_) (a' := ?_) #[T_,T_,T_,T_,F_,T_,T_,T_,T_,F_,T_,T_,T_,F_,F_,F_,F_,F_] rfl rfl (take_ofW HT_.out HW_.out (by kernel_rfl)) (fun _ _ _ h => h) (Or.inl ⟨by rfl, ?_⟩) hHeld ?_ ?_
 rotate_left
 ·
  rintro w' ⟨s0, s1, s2, s3, s4, s5, s6, s7⟩
  go_simp
  with_reducible rfl
 rotate_left
 ·
  exact zp_
 refine take_ (i := 13) (N := some 18) (v := ?_) (a' := ?_) #[T_,T_,T_,T_,F_,T_,T_,T_,T_,F_,T_,T_,T_,T_,F_,F_,F_,F_] rfl rfl (take_ofW HT_.out HW_.out (by kernel_rfl)) (fun _ _ _ h => h) (Or.inl ⟨by rfl, ?_⟩) hHeld ?_ ?_
 rotate_left
 ·
  rintro w' ⟨s0, s1, s2, s3, s4, s5, s6, s7⟩
  go_simp
  with_reducible rfl
 rotate_left
 ·
  exact zp_
 refine one_ (i := 4) (N := some 9) #[T_,T_,T_,T_,T_,T_,T_,T_,T_,F_,T_,T_,T_,T_,F_,F_,F_,F_] rfl rfl (one_of HT_.out (by kernel_rfl)) (by decide) (fun K hK => ?_)
 refine goes_ Try.func86 (by kernel_rfl) rfl #[.agg #[.int .u64 a0_0, .int .i64 a0_1], .agg #[.int .u64 a1_0, .int .i64 a1_1]] (by rfl) rfl rfl za_ ?_
 with_reducible refine (ident_Compare.callsD a0_0 a0_1 a1_0 a1_1 t203 _ A3.out).mono ?_
 rintro e w10 ⟨rfl, hb⟩
 refine ⟨_, rfl, ?_⟩
 have n0_ := Aside0.mk (dblk_below (g := gb201) (o := .cells #[.int .u64 a0_0, .int .i64 a0_1, .int .u64 a0_2, .int .i64 a0_3] 27 (0, 0)) (by (with_reducible repeat (first | refine blk_drewN ?_ _ | refine blk_drew ?_ | refine blk_alloc ?_ _)); exact BK201.out) hb)
 have n1_ := Aside0.mk (dblk_below (g := gb202) (o := .cells #[.int .u64 a1_0, .int .i64 a1_1, .int .u64 a1_2, .int .i64 a1_3] 27 (0, 0)) (by (with_reducible repeat (first | refine blk_drewN ?_ _ | refine blk_drew ?_ | refine blk_alloc ?_ _)); exact BK202.out) hb)
 have n2_ := Aside0.mk (dbelow_step (by repeat (first | (with_reducible first | exact HB.out | apply dbelow_alloc | apply dpw_below_drewN | apply dbelow_drew1 | refine dbelow_set ?_ GE201.out | refine dbelow_set ?_ GE202.out) | exact HB.out)) hb)
 clear BK201
 clear BK202
 clear HB
 have BK201 := n0_
 have BK202 := n1_
 have HB := n2_
 clear n0_ n1_ n2_
 (try clear hb)
 (try clear hb2)
 (try clear hk)
 (try clear hi)
 refine hK.out _ _ ⟨(blk_cell BK201.out 0).trans rfl, (blk_cell BK201.out 1).trans rfl, (blk_cell BK201.out 2).trans rfl, (blk_cell BK201.out 3).trans rfl, (blk_cell BK202.out 0).trans rfl, (blk_cell BK202.out 1).trans rfl, (blk_cell BK202.out 2).trans rfl, (blk_cell BK202.out 3).trans rfl⟩ (fun hHeld => ?_)
 clear hK K
 refine norm_ (a' := ?_) ?_ ?_
 rotate_left
 ·
  show Act.put _ (some 9) _ = _
  simp only [Act.put, List.setIfInBounds_toArray, List.set_cons_zero, List.set_cons_succ, i64_w, i32_w]
  rfl
 refine one_ (i := 9) (N := some 14) #[T_,T_,T_,T_,T_,T_,T_,T_,T_,T_,T_,T_,T_,T_,F_,F_,F_,F_] rfl rfl (one_of HT_.out (by kernel_rfl)) (by decide) (fun K hK => ?_)
 refine goes_ Try.func87 (by kernel_rfl) rfl #[.int .u64 a0_2, .int .u64 a1_2] (by rfl) rfl rfl za_ ?_
 with_reducible refine (cmp_Compare_uint64.calls a0_2 a1_2 t204 _ A4.out).mono ?_
 rintro e w' ⟨rfl, ⟨nd, rfl⟩⟩
 refine ⟨_, rfl, ?_⟩
 refine hK.out _ _ ⟨(blk_cell BK201.out 0).trans rfl, (blk_cell BK201.out 1).trans rfl, (blk_cell BK201.out 2).trans rfl, (blk_cell BK201.out 3).trans rfl, (blk_cell BK202.out 0).trans rfl, (blk_cell BK202.out 1).trans rfl, (blk_cell BK202.out 2).trans rfl, (blk_cell BK202.out 3).trans rfl⟩ (fun hHeld => ?_)
 clear hK K
 refine norm_ (a' := ?_) ?_ ?_
 rotate_left
 ·
  show Act.put _ (some 14) _ = _
  simp only [Act.put, List.setIfInBounds_toArray, List.set_cons_zero, List.set_cons_succ, i64_w, i32_w]
  rfl
 refine one_ (i := 14) (N := some 19) #[T_,T_,T_,T_,T_,T_,T_,T_,T_,T_,T_,T_,T_,T_,T_,F_,F_,F_] rfl rfl (one_of HT_.out (by kernel_rfl)) (by decide) (fun K hK => ?_)
 refine goes_ Try.func88 (by kernel_rfl) rfl #[.int .i64 a0_3, .int .i64 a1_3] (by rfl) rfl rfl za_ ?_
 with_reducible refine (cmp_Compare_int.calls a0_3 a1_3 t205 _ A5.out).mono ?_
 rintro e w' ⟨rfl, ⟨nd, rfl⟩⟩
 refine ⟨_, rfl, ?_⟩
 refine hK.out _ _ ⟨(blk_cell BK201.out 0).trans rfl, (blk_cell BK201.out 1).trans rfl, (blk_cell BK201.out 2).trans rfl, (blk_cell BK201.out 3).trans rfl, (blk_cell BK202.out 0).trans rfl, (blk_cell BK202.out 1).trans rfl, (blk_cell BK202.out 2).trans rfl, (blk_cell BK202.out 3).trans rfl⟩ (fun hHeld => ?_)
 clear hK K
 refine norm_ (a' := ?_) ?_ ?_
 rotate_left
 ·
  show Act.put _ (some 19) _ = _
  simp only [Act.put, List.setIfInBounds_toArray, List.set_cons_zero, List.set_cons_succ, i64_w, i32_w]
  rfl
 refine one_ (i := 15) (N := some 20) #[T_,T_,T_,T_,T_,T_,T_,T_,T_,T_,T_,T_,T_,T_,T_,T_,F_,F_] rfl rfl (one_of HT_.out (by kernel_rfl)) (by decide) (fun K hK => ?_)
 refine dR_lit_step (Kd.int .i64) _ 3 ?hg (N := 20) ?hd (xs := ([t203, t204, t205] : List Int)) (inner := [.int .i64 t203, .int .i64 t204, .int .i64 t205]) (ok := fun _ => True) (okp := fun _ => True) ?hr ?hp (fun _ hk => hk) trivial (BlwD.refl _ _) (Nat.le_refl _) (by simp) ?_; (case hd => rfl); (case hg => rfl); (case hr => first | (go_simp; done) | (go_simp; rfl)); (case hp => exact (Reps.one (show Kd.M (Kd.int .i64) _ _ _ t203 [.int .i64 t203] from rfl) (Reps.one (show Kd.M (Kd.int .i64) _ _ _ t204 [.int .i64 t204] from rfl) (Reps.one (show Kd.M (Kd.int .i64) _ _ _ t205 [.int .i64 t205] from rfl) (Reps.none _ _)))))
 intro v207 w11 ho12 hb hg_ hnew_
 clear hg_ hnew_
 (first | rw [← Ny206.out] at ho12 | (simp only [Int.reduceToNat] at ho12; rw [← Ny206.out] at ho12))
 have n0_ := Aside0.mk (Kd.R_lower ho12 (dbelow_size (by repeat (first | (with_reducible first | exact HB.out | apply dbelow_alloc | apply dpw_below_drewN | apply dbelow_drew1 | refine dbelow_set ?_ GE201.out | refine dbelow_set ?_ GE202.out) | exact HB.out))))
 have n1_ := Aside0.mk (dblk_below (g := gb201) (o := .cells #[.int .u64 a0_0, .int .i64 a0_1, .int .u64 a0_2, .int .i64 a0_3] 27 (0, 0)) (by (with_reducible repeat (first | refine blk_drewN ?_ _ | refine blk_drew ?_ | refine blk_alloc ?_ _)); exact BK201.out) hb)
 have n2_ := Aside0.mk (dblk_below (g := gb202) (o := .cells #[.int .u64 a1_0, .int .i64 a1_1, .int .u64 a1_2, .int .i64 a1_3] 27 (0, 0)) (by (with_reducible repeat (first | refine blk_drewN ?_ _ | refine blk_drew ?_ | refine blk_alloc ?_ _)); exact BK202.out) hb)
 have n3_ := Aside0.mk (dbelow_step (by repeat (first | (with_reducible first | exact HB.out | apply dbelow_alloc | apply dpw_below_drewN | apply dbelow_drew1 | refine dbelow_set ?_ GE201.out | refine dbelow_set ?_ GE202.out) | exact HB.out)) hb)
 clear BK201
 clear BK202
 clear HB
 have HO208 := n0_
 have BK201 := n1_
 have BK202 := n2_
 have HB := n3_
 clear n0_ n1_ n2_ n3_
 clear hb ho12
 obtain ⟨Ao13, co13, eo13⟩ := Kd.R_slice HO208.out
 (first | subst eo13 | (injection eo13 with f1_ f2_ f3_; have f4_ := f1_.symm; have f5_ := f3_.symm; clear f1_ f2_ f3_; subst f4_; subst f5_))
 refine hK.out _ _ ⟨(blk_cell BK201.out 0).trans rfl, (blk_cell BK201.out 1).trans rfl, (blk_cell BK201.out 2).trans rfl, (blk_cell BK201.out 3).trans rfl, (blk_cell BK202.out 0).trans rfl, (blk_cell BK202.out 1).trans rfl, (blk_cell BK202.out 2).trans rfl, (blk_cell BK202.out 3).trans rfl⟩ (fun hHeld => ?_)
 clear hK K
 refine norm_ (a' := ?_) ?_ ?_
 rotate_left
 ·
  show Act.put _ (some 20) _ = _
  simp only [Act.put, List.setIfInBounds_toArray, List.set_cons_zero, List.set_cons_succ, i64_w, i32_w]
  rfl
 refine one_ (i := 16) (N := some 21) #[T_,T_,T_,T_,T_,T_,T_,T_,T_,T_,T_,T_,T_,T_,T_,T_,T_,F_] rfl rfl (one_of HT_.out (by kernel_rfl)) (by decide) (fun K hK => ?_)
 refine goes_ Try.func85 (by kernel_rfl) rfl #[.slice Ao13 y206.length co13] (by rfl) rfl rfl za_ ?_
 with_reducible refine (cmp_Or_int.calls k _ _ y206 t209 _ ?side1 ?side2 A6.out).mono ?_
 (case side1 => exact zd_ (Kd.R_reads' HO208.out).2.2)
 (case side2 => exact (Kd.R_reads' HO208.out).2.1)
 rintro e w' ⟨rfl, ⟨nd, rfl⟩⟩
 refine ⟨_, rfl, ?_⟩
 refine hK.out _ _ ⟨(blk_cell BK201.out 0).trans rfl, (blk_cell BK201.out 1).trans rfl, (blk_cell BK201.out 2).trans rfl, (blk_cell BK201.out 3).trans rfl, (blk_cell BK202.out 0).trans rfl, (blk_cell BK202.out 1).trans rfl, (blk_cell BK202.out 2).trans rfl, (blk_cell BK202.out 3).trans rfl⟩ (fun hHeld => ?_)
 clear hK K
 refine norm_ (a' := ?_) ?_ ?_
 rotate_left
 ·
  show Act.put _ (some 21) _ = _
  simp only [Act.put, List.setIfInBounds_toArray, List.set_cons_zero, List.set_cons_succ, i64_w, i32_w]
  rfl
 refine pure_ (i := 17) (N := some 4) (v := ?_) (a' := ?_) #[T_,T_,T_,T_,T_,T_,T_,T_,T_,T_,T_,T_,T_,T_,T_,T_,T_,T_] rfl rfl (any_of HT_.out (by kernel_rfl)) (fun _ _ _ h => h) (Or.inl ⟨by rfl, ?_⟩) ?_ ?_
 rotate_left
 ·
  intro w'; go_simp; with_reducible rfl
 rotate_left
 ·
  exact zp_
 refine done_ (done_of HT_.out (by kernel_rfl)) ?_
 (try clear hHeld); (try clear HS0_)
 try go_wp2
 go_ret
 exact ⟨by first | rfl | (simp [errW_none, errW_some] <;> rfl) | (simp [*, errW_none, errW_some] <;> rfl), by repeat (first | (with_reducible first | exact HB.out | apply dbelow_alloc | apply dpw_below_drewN | apply dbelow_drew1 | refine dbelow_set ?_ GE201.out | refine dbelow_set ?_ GE202.out) | exact HB.out)⟩
end Go.Proofs.Ytioooiflpabngaa.PAll
end
section
namespace Go.Proofs
open Go.Shelf
def Try.sortLab_ren : Go.Shelf.Ren := ⟨fun | 6 => 115 | 15 => 130 | 14 => 129 | 28 => 140 | 29 => 141 | 20 => 132 | 21 => 133 | 22 => 134 | 23 => 135 | 24 => 136 | 25 => 137 | 26 => 138 | 27 => 139 | 46 => 142 | 47 => 143 | 48 => 144 | 49 => 145 | 50 => 146 | 57 => 147 | n => n, fun | 22 => 41 | 24 => 27 | 25 => 49 | 3 => 3 | 39 => 136 | 0 => 0 | 53 => 159 | 55 => 23 | 4 => 4 | 46 => 153 | 45 => 152 | 50 => 90 | 5 => 5 | 9 => 9 | 66 => 161 | 70 => 164 | 76 => 166 | 77 => 167 | n => n, fun | n => n⟩
theorem Try.sortLab : Go.Proofs.SlLaysF0.n6 Try.prog Try.sortLab_ren := {
  mixed := by kernel_rfl
  f6 := ⟨Try.f115.name, by decide, Try.func115.trans (congrArg some (by kernel_rfl))⟩
  f14 := ⟨Try.f129.name, by decide, Try.func129.trans (congrArg some (by kernel_rfl))⟩
  f15 := Try.func130.trans (congrArg some (by kernel_rfl))
  f20 := ⟨Try.f132.name, by decide, Try.func132.trans (congrArg some (by kernel_rfl))⟩
  f21 := ⟨Try.f133.name, by decide, Try.func133.trans (congrArg some (by kernel_rfl))⟩
  f22 := ⟨Try.f134.name, by decide, Try.func134.trans (congrArg some (by kernel_rfl))⟩
  f23 := ⟨Try.f135.name, by decide, Try.func135.trans (congrArg some (by kernel_rfl))⟩
  f24 := ⟨Try.f136.name, by decide, Try.func136.trans (congrArg some (by kernel_rfl))⟩
  f25 := ⟨Try.f137.name, by decide, Try.func137.trans (congrArg some (by kernel_rfl))⟩
  f26 := ⟨Try.f138.name, by decide, Try.func138.trans (congrArg some (by kernel_rfl))⟩
  f27 := ⟨Try.f139.name, by decide, Try.func139.trans (congrArg some (by kernel_rfl))⟩
  f28 := Try.func140.trans (congrArg some (by kernel_rfl))
  f29 := Try.func141.trans (congrArg some (by kernel_rfl))
  f46 := ⟨Try.f142.name, by decide, Try.func142.trans (congrArg some (by kernel_rfl))⟩
  f47 := Try.func143.trans (congrArg some (by kernel_rfl))
  f48 := Try.func144.trans (congrArg some (by kernel_rfl))
  f49 := ⟨Try.f145.name, by decide, Try.func145.trans (congrArg some (by kernel_rfl))⟩
  f50 := ⟨Try.f146.name, by decide, Try.func146.trans (congrArg some (by kernel_rfl))⟩
  f57 := ⟨Try.f147.name, by decide, Try.func147.trans (congrArg some (by kernel_rfl))⟩
  t0 := Try.underlying0
  a0 := Try.isAgg0
  z0 := Try.sizeOf0
  v0 := Try.zeroValue0
  t3 := Try.underlying3
  a3 := Try.isAgg3
  z3 := Try.sizeOf3
  v3 := Try.zeroValue3
  t4 := Try.underlying4
  a4 := Try.isAgg4
  z4 := Try.sizeOf4
  v4 := Try.zeroValue4
  t5 := Try.underlying5
  a5 := Try.isAgg5
  z5 := Try.sizeOf5
  v5 := Try.zeroValue5
  t9 := Try.underlying9
  a9 := Try.isAgg9
  z9 := Try.sizeOf9
  v9 := Try.zeroValue9
  t22 := Try.underlying41
  a22 := Try.isAgg41
  z22 := Try.sizeOf41
  v22 := Try.zeroValue41
  t25 := Try.underlying49
  a25 := Try.isAgg49
  z25 := Try.sizeOf49
  v25 := Try.zeroValue49
  t39 := Try.underlying136
  a39 := Try.isAgg136
  z39 := Try.sizeOf136
  v39 := Try.zeroValue136
  t45 := Try.underlying152
  a45 := Try.isAgg152
  z45 := Try.sizeOf152
  v45 := Try.zeroValue152
  t46 := Try.underlying153
  a46 := Try.isAgg153
  z46 := Try.sizeOf153
  v46 := Try.zeroValue153
  t50 := Try.underlying90
  a50 := Try.isAgg90
  z50 := Try.sizeOf90
  v50 := Try.zeroValue90
  t53 := Try.underlying159
  a53 := Try.isAgg159
  z53 := Try.sizeOf159
  v53 := Try.zeroValue159
  t55 := Try.underlying23
  a55 := Try.isAgg23
  z55 := Try.sizeOf23
  v55 := Try.zeroValue23
  t66 := Try.underlying161
  a66 := Try.isAgg161
  z66 := Try.sizeOf161
  v66 := Try.zeroValue161
  t70 := Try.underlying164
  a70 := Try.isAgg164
  z70 := Try.sizeOf164
  v70 := Try.zeroValue164
  t76 := Try.underlying166
  a76 := Try.isAgg166
  z76 := Try.sizeOf166
  v76 := Try.zeroValue166
  t77 := Try.underlying167
  a77 := Try.isAgg167
  z77 := Try.sizeOf167
  v77 := Try.zeroValue167 }
end Go.Proofs
end
section
namespace Go.Proofs.Ytioooiflpabngaa.PAll
open Go.RowKit Go.Shelf Go.Proofs.YtioooiflpabngaaW.PrintWords Go.Proofs.YtioooiflpabngaaW.PrintLast Go.Proofs.YtioooiflpabngaaW.PrintMore
attribute [local go_sem] Oper.semAt_some
set_option linter.unusedVariables false
set_option linter.unusedSimpArgs false
theorem R_append_run {α : Type} {P : Program} (d : Kd α) {w0 W : World} (base : Nat) (t ty e : TypeId) (z : Value) (bytes : Nat)
    (ht : P.underlying t = some (.slice e)) (hinfo : (P.info? e).map (fun i => (i.zero, i.size, i.bytes)) = some (some z, d.sz, bytes)) (hz : z.cells.size = d.sz) (hs0 : 0 < d.sz) (hb0 : 0 < bytes)
    (v : Value) (xs : List α) (p : α) (cs : List Value) (ok okp : Nat → Prop) (hp : d.M W base okp p cs) (hokp : ∀ k, okp k → ok k ∧ some k ≠ v.ownBlock) (hfresh : ∀ k, W.heap.size ≤ k → ok k)
    (HO : d.R e W base ok v xs) (HB : Below base w0 W) (hbase : base ≤ W.heap.size) (hl : (xs.length + 1) * bytes ≤ 140737488355328) :
    ∃ v1 w1, (Builtin.append_ #[t, t] ty #[v, .slice (some ⟨W.heap.size, 0, none⟩) 1 1]).run P (W.alloc (.cells cs.toArray e)) = .ok v1 w1 ∧ d.R e w1 base ok v1 (xs ++ [p]) ∧ Below base w0 w1 ∧ W.grownBy w1 v.ownBlock := by
  obtain ⟨h0, inner, hown, hr⟩ := HO
  obtain ⟨i0, hi, hzz⟩ := Option.map_eq_some_iff.1 hinfo
  simp only [Prod.mk.injEq] at hzz
  obtain ⟨hz0, hz1, hz2⟩ := hzz
  have hlen : xs.length + 1 ≤ 140737488355328 := Nat.le_trans (Nat.le_mul_of_pos_right _ hb0) hl
  have hcl := d.K_len (d.K_of_M hp)
  obtain ⟨v1, w1, hrun, hown1, hg, _, hat⟩ := run_append_own_at (P := P) (W.alloc (.cells cs.toArray e)) base t ty e i0 z d.sz bytes ht hi hz0 hz1 hz2 hz hs0 v xs.length inner (hown.alloc _) ⟨W.heap.size, 0, none⟩ 1 1 cs (by omega)
    (World.news_of_block (cs := cs.toArray) (t := e) (fr := (0, 0)) (heap_alloc_new W _)) (d.K_one (d.K_of_M hp)) (by simp only [maxLen]; omega) hl (by simp; omega)
  have hg1 : W.grownBy w1 v.ownBlock := World.grownBy.trans (World.grownBy_alloc W _ _) hg
  refine ⟨v1, w1, hrun, Kd.R_appended h0 hr hp hokp hfresh hown1 hg1 ?_, (HB.alloc hbase _).grown hg (by simp; omega) (own_base hown), hg1⟩
  rcases hat with hat | hat
  · exact .inl hat
  · exact .inr ⟨_, hat, by simp⟩
theorem RIn_append {α : Type} {F : Fence} {nF : Nat} {P : Program} {ops : Array Oper} {rest : List Oper} {o : Oper} {a : Act} {Q : Exit → Act → World → Prop} (d : Kd α) {w0 W : World} (base : Nat) (hgd : o.guard = none) (s x : Operand) (t e : TypeId) (z : Value) (bytes : Nat)
    (ho : o.op = .call { callee := .builtin .append, args := #[s, x], argTypes := #[t, t] })
    (ht : P.underlying t = some (.slice e)) (hinfo : (P.info? e).map (fun i => (i.zero, i.size, i.bytes)) = some (some z, d.sz, bytes)) (hz : z.cells.size = d.sz) (hs0 : 0 < d.sz) (hb0 : 0 < bytes)
    (v : Value) (xs : List α) (p : α) (cs : List Value) (ok okp : Nat → Prop) (hs : a.eval s = v) (hx : a.eval x = .slice (some ⟨W.heap.size, 0, none⟩) 1 1) (hp : d.M W base okp p cs) (hokp : ∀ k, okp k → ok k ∧ some k ≠ v.ownBlock) (hfresh : ∀ k, W.heap.size ≤ k → ok k)
    (HO : d.R e W base ok v xs) (HB : Below base w0 W) (hbase : base ≤ W.heap.size) (hl : (xs.length + 1) * bytes ≤ 140737488355328)
    (h : ∀ v1 w1, d.R e w1 base ok v1 (xs ++ [p]) → Below base w0 w1 → W.grownBy w1 v.ownBlock → wpListIn F nF P ops Q rest (a.put o.dst v1) w1) :
    wpListIn F nF P ops Q (o :: rest) a (W.alloc (.cells cs.toArray e)) := by
  refine wpListIn_plain hgd fun K hK => ?_
  obtain ⟨v1, w1, hr, h2, h3, h4⟩ := R_append_run (P := P) d (w0 := w0) base t o.type e z bytes ht hinfo hz hs0 hb0 v xs p cs ok okp hp hokp hfresh HO HB hbase hl
  unfold Oper.wpIn
  refine ⟨by simp [Oper.about, ho, resolve, Target.leads, Sem.run_pure], ?_⟩
  rw [Oper.semAt_plain F _ _ (by rw [ho]; intro c hc'; cases hc')]
  simp [execOp, ho, resolve, invoke, builtin, hs, hx, hr, Result.andThen]
  exact hK _ _ (h v1 w1 h2 h3 h4)
theorem valuesL (A : Option Addr) (n c : Nat) (w : World) :
    Calls Try.prog 81 #[.slice A n c] w fun e w' => e = .returned (.func (.func 116) #[] #[.pointer (some ⟨w.heap.size, 0, none⟩)]) ∧ w' = w.alloc (.cells #[.slice A n c] 41) := by
  go_enter Try.func81, Try.ntmps81
  go_wp2
  go_ret
  exact ⟨rfl, rfl⟩
def encL (x : S27) : List Value := [.int .u64 x.f0.f0, .int .i64 x.f0.f1, .int .u64 x.f1, .int .i64 x.f2]
theorem take_snocL (l : List S27) (k : Nat) (h : k < l.length) : l.take (k + 1) = l.take k ++ [rd_T27 l k] := by
  rw [List.take_succ_eq_append_getElem h]
  simp [rd_T27, h]
set_option maxRecDepth 100000 in
set_option maxHeartbeats 4000000 in
theorem values1L_in (F : Fence) (n : Nat) (h7 : F.fn 116) (hro : F.round = none) (hn : 1 ≤ n) (l Bs : Nat) (A : Option Addr) (cap : Nat) (zs : List S27) (w0 : World) (hlen : zs.length < 4398046511104) (HC : Kd.C k27 w0 A zs.length zs) (J Jx : List S27 → World → Prop)
    (hY : ∀ pre x W, J pre W → pre.length < zs.length → YieldAt F (n - 1) Try.prog l #[.agg (encL x).toArray] W fun e W' =>
      (e = .returned (.bool true) ∧ J (pre ++ [x]) W' ∧ Below w0.heap.size W W') ∨ (e = .returned (.bool false) ∧ Jx (pre ++ [x]) W'))
    (hJa : ∀ s W o, J s W → J s (W.alloc o))
    (W : World) (hW : Below w0.heap.size w0 W) (hBs : W.cell? ⟨Bs, 0, none⟩ = some (.slice A zs.length cap)) (h0 : J [] W) :
    CallsIn F n Try.prog 116 #[.func (.yield l) #[] #[], .pointer (some ⟨Bs, 0, none⟩)] W fun e W' => (∃ v, e = .returned v) ∧
      ((∃ ys, ys = zs ∧ J ys W') ∨ (∃ pre, True ∧ Jx pre W')) := by
  have HL := Aside0.mk hlen
  clear hlen
  have HC := Aside0.mk HC
  refine callsIn_of_wp Try.func116 rfl h7 ?_ hro
  simp only [Try.ntmps116, List.size_toArray, List.length_cons, List.length_nil, Nat.reduceAdd, Nat.reduceSub, Array.replicate_succ, Array.replicate_zero, List.push_toArray, List.append_toArray, List.nil_append, List.cons_append]
  gi_wp2
  gi_loopw [7] (fun i wr => ∃ k : Nat, k ≤ zs.length ∧ i = .int .i64 k ∧ J (zs.take k) wr ∧ Aside0 (Below w0.heap.size w0 wr))
    (fun i _ => zs.length - (intOf i).toNat)
  case atStart => exact ⟨0, Nat.zero_le _, rfl, by simpa using h0, ⟨hW⟩⟩
  case round =>
    obtain ⟨k, hk, rfl, hJs, hnx⟩ := hrel
    by_cases hlt : k < zs.length
    · obtain ⟨ad, e, hx0, hx1, hx2, hx3⟩ := at_T27 (Kd.C_below HC.out hnx.out) (k : Int) (by omega) (by omega)
      subst e
      rw [Int.toNat_natCast] at hx0 hx1 hx2 hx3
      obtain ⟨fn, tmps, assign, body, hy, hR⟩ := hY _ (rd_T27 zs k) (wr.alloc (.cells (encL (rd_T27 zs k)).toArray 27)) (hJa _ _ _ hJs) (by rw [List.length_take]; omega)
      simp only [encL] at hy
      have HK := Aside0.mk hk
      clear hk
      have hlt' : (k : Int) < (zs.length : Int) := by omega
      have hz2 := HL.out
      gi_wp2
      refine hR.mono ?_
      rintro e W3 (⟨rfl, hJ3, hk3⟩ | ⟨rfl, hJx3⟩)
      · gi_wp2
        go_roundw
        case rel => exact ⟨k + 1, by omega, by simp, by rw [take_snocL _ _ hlt]; exact hJ3, ⟨(hnx.out.alloc hnx.out.size _).trans hk3⟩⟩
        case measure => simp [intOf]; omega
      · gi_wp2
        refine bodyPost_ret (results_none rfl _ _ _) rfl ?_
        exact ⟨⟨_, rfl⟩, .inr ⟨_, trivial, hJx3⟩⟩
    · obtain rfl : k = zs.length := by omega
      gi_wp2
      go_end0
      exact ⟨⟨_, rfl⟩, .inl ⟨_, rfl, by simpa using hJs⟩⟩
theorem values_stopsL (F : Fence) (n : Nat) (h7 : F.fn 116) (hro : F.round = none) (hn : 1 ≤ n) (Bs : Nat) (A : Option Addr) (cap : Nat) (zs : List S27) (w : World) (hlen : zs.length < 4398046511104) (HC : Kd.C k27 w A zs.length zs) (hBs : w.cell? ⟨Bs, 0, none⟩ = some (.slice A zs.length cap)) :
    SeqStopsK F n Try.prog 116 #[.pointer (some ⟨Bs, 0, none⟩)] (fun x : S27 => #[.agg (encL x).toArray]) (Below w.heap.size) (fun ys => ys = zs) (fun _ => True) zs.length w := fun l J Jx W hW hJ _ hY h0 =>
  values1L_in F n h7 hro hn l Bs A cap zs w hlen HC J Jx hY (fun s W' o hs => hJ s W' _ none hs (World.grownBy_alloc W' o none) (fun r e => by cases e)) W hW ((hW.cell (p := ⟨Bs, 0, none⟩) (World.block_lt_of_cell? w _ hBs)).trans hBs) h0
def IApp (w0 : World) (B : Nat) (pre : List S27) (W : World) : Prop := ∃ v, Boxed W B 41 v ∧ Kd.R k27 27 W w0.heap.size (fun k => k ≠ B) v pre ∧ Below w0.heap.size w0 W
theorem R_others {α : Type} {d : Kd α} {e base B : Nat} {ok : Nat → Prop} {v : Value} {xs : List α} {W W' : World} {row : Option Nat} (h : d.R e W base ok v xs) (hg : W.grownBy W' row) (hr : ∀ r, row = some r → B ≤ r ∧ ∃ o : Obj, W.heap[r]? = some o ∧ o.isCells = false) : d.R e W' base ok v xs :=
  Kd.R_mono (Kd.R_grown (Kd.R_bound h) hg (fun k hk e => by
    obtain ⟨_, o, ho, hc⟩ := hr k e.symm
    obtain ⟨_, _, _, q, _, cells, hcell⟩ := hk
    rw [hcell] at ho
    cases ho
    cases hc)) (fun _ hk => hk.1)
theorem IApp_own (w0 : World) (B B' : Nat) (hB : B < B') (h0 : w0.heap.size ≤ B') : OwnFrom B' (IApp w0 B) := by
  rintro s W W' row ⟨v, hb, hR, hbel⟩ hg hr
  exact ⟨v, hb.kept hg (fun e => by have := (hr B e.symm).1; omega), R_others hR hg hr, hbel.grown hg hbel.size (fun k e => Nat.le_trans h0 (hr k e).1)⟩
def actApp (Bs B B5 : Nat) (x : S27) : Act :=
  { tmps := #[.slice none 0 0, .func (.func 116) #[] #[.pointer (some ⟨Bs, 0, none⟩)], .pointer (some ⟨B, 0, none⟩), undef, .slice none 0 0, .pointer (some ⟨B5, 0, none⟩), .func (.func 116) #[] #[.pointer (some ⟨Bs, 0, none⟩)], .agg (encL x).toArray, undef, undef, undef, undef, undef], defers := [] }
def AxApp (Bs B : Nat) (x : S27) (a : Act) (W : World) : Prop := ∃ B5, W.heap[B5]? = some (.cells (encL x).toArray 27 (0, 0)) ∧ a = actApp Bs B B5 x
theorem AxApp_own (B' Bs B : Nat) (x : S27) (a : Act) : OwnFrom B' (fun (_ : Unit) W => AxApp Bs B x a W) := by
  rintro _ W W' row ⟨B5, hb, he⟩ hg hr
  refine ⟨B5, (hg.block B5 (blk_lt hb) (fun e => ?_)).trans hb, he⟩
  obtain ⟨_, o, ho, hc⟩ := hr B5 e.symm
  rw [hb] at ho
  cases ho
  cases hc
theorem M_L (W : World) (base : Nat) (ok : Nat → Prop) (x : S27) : k27.M W base ok x (encL x) := k27_mkM W base ok x
theorem keeps_append {W w1 : World} {B0 B e base : Nat} {α : Type} {d : Kd α} {ok : Nat → Prop} {v v1 : Value} {xs : List α} (hR : d.R e W base ok v xs) (hg : W.grownBy w1 v.ownBlock) (hB : B < B0) : KeepsFrom B0 W (w1.setCell ⟨B, 0, none⟩ v1) := by
  refine ⟨by simpa using hg.size, fun k o hk h0 ho => ?_⟩
  have h1 : w1.heap[k]? = some o := (hg.block k (blk_lt h0) (fun e => by
    obtain ⟨inner, hown⟩ := Kd.R_own hR
    obtain ⟨cells, hc⟩ := own_typed hown k e.symm
    rw [hc] at h0
    cases h0
    cases ho)).trans h0
  exact (Below.heap_setCell w1 ⟨B, 0, none⟩ v1 k (by show k ≠ B; omega)).trans h1
set_option maxRecDepth 100000 in
set_option maxHeartbeats 4000000 in
theorem appendSeqL (Bs : Nat) (A : Option Addr) (cap : Nat) (zs : List S27) (w : World) (hlen : zs.length < 4398046511104) (HC : Kd.C k27 w A zs.length zs) (hBs : w.cell? ⟨Bs, 0, none⟩ = some (.slice A zs.length cap)) :
    Calls Try.prog 128 #[.slice none 0 0, .func (.func 116) #[] #[.pointer (some ⟨Bs, 0, none⟩)]] w fun e w' => ∃ v, e = .returned v ∧ Kd.R k27 27 w' w.heap.size (fun _ => True) v zs ∧ Below w.heap.size w w' := by
  refine (callsIn_wide (n := 6)).1 ?_
  refine callsIn_of_wp_marks Try.func128 rfl trivial ?_ rfl
  simp only [Try.ntmps128, List.size_toArray, List.length_cons, List.length_nil, Nat.reduceAdd, Nat.reduceSub, Array.replicate_succ, Array.replicate_zero, List.push_toArray, List.append_toArray, List.nil_append, List.cons_append]
  have hseq := values_stopsL Fence.wide 5 trivial rfl (by decide) Bs A cap zs w hlen HC hBs
  have HS := Aside0.mk hseq
  clear hseq HC
  have HL := Aside0.mk hlen
  clear hlen hBs
  gi_wp2
  refine wpIn_rangeFunc_ownH rfl (by decide) (gf := 116) (lb := #[.pointer (some ⟨Bs, 0, none⟩)]) rfl trivial (enters_of Try.func116 (by kernel_rfl) rfl) HS.out (fun h k => h.trans k) (belowK_b (by simp)) ((Below.refl _ _).alloc (Nat.le_refl _) _) (fun _ => rfl) (IApp w w.heap.size) (fun _ _ _ => False) ?hI (fun _ _ _ _ _ hs _ _ => hs) ?h0 (AxApp Bs w.heap.size) ?hAx ?assign ?body ?done ?stop
  case hI => exact IApp_own w _ _ (by simp) (by simp)
  case h0 => exact ⟨.slice none 0 0, Boxed.new w _ _, Kd.R_nil _ _ _ _ _, (Below.refl _ _).alloc (Nat.le_refl _) _⟩
  case hAx => exact fun x a' => AxApp_own _ _ _ x a'
  case stop => exact fun _ _ _ _ _ _ h => h.elim
  case assign =>
    intro l pre x W K hI hK
    simp only [List.zip_toArray, List.zip_cons_cons, List.zip_nil_right, List.foldl_toArray', List.foldl_cons, List.foldl_nil, List.setIfInBounds_toArray, List.set_cons_succ, List.set_cons_zero, encL]
    have HI := Aside0.mk hI
    clear hI
    have HK := Aside0.mk (fun (h : IApp w w.heap.size pre (W.alloc (.cells (encL x).toArray 27))) => hK (actApp Bs w.heap.size W.heap.size x) (W.alloc (.cells (encL x).toArray 27)) ((KeepsOthers.alloc W _).from _) ((Below.refl _ _).alloc HI.out.choose_spec.2.2.size _) h ⟨W.heap.size, heap_alloc_new W _, rfl⟩)
    clear hK
    gi_wp2
    exact HK.out (IApp_own w _ _ (Nat.lt_succ_self _) (by omega) _ _ _ none HI.out (World.grownBy_alloc W _ none) (fun r e => by cases e))
  case body =>
    rintro l pre x a' W hl - ⟨v, hbx, hR, hbel⟩ ⟨B5, hB5, rfl⟩ hlen
    have hlt := hbx.lt
    have hne : some w.heap.size ≠ v.ownBlock := fun e => hR.1 _ e.symm rfl
    have hc2 := hbx.cell
    have hx0 : W.cell? ⟨B5, 0, none⟩ = some (.int .u64 x.f0.f0) := (blk_cell hB5 0).trans rfl
    have hx1 : W.cell? ⟨B5, 1, none⟩ = some (.int .i64 x.f0.f1) := (blk_cell hB5 1).trans rfl
    have hx2 : W.cell? ⟨B5, 2, none⟩ = some (.int .u64 x.f1) := (blk_cell hB5 2).trans rfl
    have hx3 : W.cell? ⟨B5, 3, none⟩ = some (.int .i64 x.f2) := (blk_cell hB5 3).trans rfl
    have HBX := Aside0.mk hbx
    have HR := Aside0.mk hR
    have HBL := Aside0.mk hbel
    have HN := Aside0.mk hlen
    have HLT := Aside0.mk hlt
    have HNE := Aside0.mk hne
    clear hbx hR hbel hne hB5 hlt hlen hl
    simp only [actApp, encL]
    gi_wp2_with (gi_at_builtin; refine RIn_append k27 (w0 := w) (W := W) w.heap.size rfl (.tmp 8) (.tmp 10) 41 27 (.agg #[(.int .u64 0), (.int .i64 0), (.int .u64 0), (.int .i64 0)]) 32 rfl Try.underlying41 info27 rfl (by decide) (by decide) v pre x (encL x) (fun k => k ≠ w.heap.size) (fun _ => False) rfl rfl (M_L _ _ _ x) (fun _ h => h.elim) ?hfr HR.out HBL.out HBL.out.size ?hln ?_; (case hfr => intro k hk; have := HLT.out; omega); (case hln => have := HL.out; have := HN.out; omega); intro v1 w1 hR1 hB1 hg1; obtain ⟨A1, k1, e1⟩ := Kd.R_slice hR1; subst e1; have hbx1 := HBX.out.kept hg1 HNE.out; have hc1 := hbx1.cell; have hf1 := hbx1.frozen; have F1 := Aside0.mk (keeps_append (B0 := w.heap.size + 1) (B := w.heap.size) (v1 := .slice A1 (pre ++ [x]).length k1) HR.out hg1 (by omega)); have F2 := Aside0.mk (show Below w.heap.size W (w1.setCell ⟨w.heap.size, 0, none⟩ (.slice A1 (pre ++ [x]).length k1)) from ((Below.refl _ _).grown hg1 HBL.out.size (Kd.R_base HR.out)).setCell (Nat.le_refl _) _); have F3 := Aside0.mk (show IApp w w.heap.size (pre ++ [x]) (w1.setCell ⟨w.heap.size, 0, none⟩ (.slice A1 (pre ++ [x]).length k1)) from ⟨.slice A1 (pre ++ [x]).length k1, by simpa [Boxed] using blk_set hbx1 0 (.slice A1 (pre ++ [x]).length k1), Kd.R_far hR1 (fun k hk => hk) _, below_set hB1 (Nat.le_refl _)⟩); clear hbx1 hR1 hB1 hg1)
    exact ⟨by simpa using F1.out, by simpa using F2.out, by simpa using F3.out⟩
  case done =>
    rintro D xs W hD rfl ⟨v, hbx, hR, hbel⟩ hK
    have hc := hbx.cell
    have F1 := Aside0.mk hR
    have F2 := Aside0.mk hbel
    have F3 := Aside0.mk hD
    clear hbx hR hbel hD
    obtain ⟨A1, k1, e1⟩ := Kd.R_slice F1.out
    subst e1
    gi_wp2
    refine ⟨by simp, .inl ⟨_, _, rfl, run_takeDeferred hK, ?_⟩⟩
    exact ⟨.slice A1 xs.length k1, by simp [results, go_sem, Try.results128], _, rfl, Kd.R_mono (R_others (B := D) F1.out (grownBy_putObj' W D _) (fun r e => by cases e; exact ⟨Nat.le_refl _, _, hK, rfl⟩)) (fun _ _ => trivial), F2.out.grown (grownBy_putObj' W D _) F2.out.size (fun k e => by cases e; have := F3.out; simp at this; omega)⟩
end Go.Proofs.Ytioooiflpabngaa.PAll
end
section
namespace Go.Proofs.Ytioooiflpabngaa.PAll
open Go.RowKit Go.Sort Go.Shelf Go.Proofs.YtioooiflpabngaaW.PrintWords Go.Proofs.YtioooiflpabngaaW.PrintLast Go.Proofs.YtioooiflpabngaaW.PrintMore
set_option linter.unusedVariables false
set_option linter.unusedSimpArgs false
theorem swoL : SWO (ltOf cmpL) where
  irrefl x := by
    have := ltL_irrefl x
    rw [← cmpL_neg] at this
    simpa [ltOf] using this
  trans x y z h1 h2 := by
    simp only [ltOf, decide_eq_true_eq] at *
    rw [cmpL_neg] at *
    exact ltL_trans h1 h2
  ntrans x y z h1 h2 := by
    simp only [ltOf, decide_eq_false_iff_not] at *
    rw [cmpL_neg] at *
    intro h3
    rcases ltL_total x y with h | h | h
    · exact h1 h
    · subst h; exact h2 h3
    · rcases ltL_total y z with k | k | k
      · exact h2 k
      · subst k; exact h1 h3
      · exact ltL_irrefl _ (ltL_trans h3 (ltL_trans k h))
theorem totL (x y : S27) (h1 : ltOf cmpL x y = false) (h2 : ltOf cmpL y x = false) : x = y := by
  simp only [ltOf, decide_eq_false_iff_not] at *
  rw [cmpL_neg] at *
  rcases ltL_total x y with h | h | h
  · exact absurd h h1
  · exact h
  · exact absurd h h2
theorem compare_call (x y : S27) (W : World) : Calls Try.prog 42 #[.agg (encL x).toArray, .agg (encL y).toArray] W fun e w' => e = .returned (.int .i64 (cmpL x y)) ∧ BlwD W.heap.size W w' :=
  label_Compare.callsD 4 _ _ _ _ _ _ _ _ _ W (label_Compare_eq x y)
theorem compare_lays (blk off size : Nat) (w : World) : CmpLays Try.prog 42 #[] encL 4 cmpL blk off size w := fun m os dk _ x y =>
  (compare_call x y _).mono fun _ _ ⟨he, hb⟩ => ⟨he, hb.grow⟩
def sortedL (xs : List S27) : List S27 := xs.mergeSort fun x y => !(ltOf cmpL) y x
theorem sortedL_length (xs : List S27) : (sortedL xs).length = xs.length := List.length_mergeSort _
theorem encL_len (x : S27) : (encL x).length = 4 := rfl
theorem encL_one (x : S27) : ∀ v ∈ encL x, v.oneCell' = true := by
  intro v hv
  simp only [encL, List.mem_cons, List.not_mem_nil, or_false] at hv
  rcases hv with rfl | rfl | rfl | rfl <;> rfl
theorem flat_chunk (ys : List S27) (j : Nat) (p : S27) (hj : ys[j]? = some p) : (((flatK encL 4 ys.toArray).toList.drop (j * 4)).take 4) = encL p := by
  obtain ⟨hlt, hp⟩ := List.getElem?_eq_some_iff.1 hj
  have hsz : (flatK encL 4 ys.toArray).size = ys.length * 4 := by simp
  apply List.ext_getElem
  · simp [encL_len]; omega
  · intro i h1 h2
    have hi : i < 4 := by simpa [encL_len] using h2
    have hlt2 : j * 4 + i < ys.length * 4 := by omega
    rw [List.getElem_take, List.getElem_drop, Array.getElem_toList, ← getElem!_pos (flatK encL 4 ys.toArray) (j * 4 + i) (by rw [hsz]; omega), get_flatK _ _ _ _ (by simpa using hlt2)]
    have e1 : (j * 4 + i) / 4 = j := by omega
    have e2 : (j * 4 + i) % 4 = i := by omega
    rw [e1, e2]
    have e3 : ys.toArray[j]! = p := by simp [getElem!_pos, hlt, hp]
    rw [e3, getElem!_pos (encL p) i h2]
theorem flat_reps (W : World) (base : Nat) (ok : Nat → Prop) (ys : List S27) : Reps (k27.M W base ok) 4 ys (flatK encL 4 ys.toArray).toList :=
  ⟨by simp, fun j p hj => by rw [flat_chunk ys j p hj]; exact M_L W base ok p⟩
theorem inner_flat {W : World} {base : Nat} {ok : Nat → Prop} {xs : List S27} {inner : List Value} (h : Reps (k27.M W base ok) 4 xs inner) : inner = (flatK encL 4 xs.toArray).toList := by
  have hl := h.1
  apply List.ext_getElem
  · simp [hl]
  · intro t h1 h2
    have ht : t < xs.length * 4 := by omega
    have hj : t / 4 < xs.length := by omega
    have hc := h.2 (t / 4) _ (List.getElem?_eq_getElem hj)
    have hc2 := k27_openM hc
    have hf := flat_chunk xs (t / 4) _ (List.getElem?_eq_getElem hj)
    have e : (inner.drop (t / 4 * 4)).take 4 = ((flatK encL 4 xs.toArray).toList.drop (t / 4 * 4)).take 4 := by rw [hf, hc2]; rfl
    have e2 := congrArg (fun l => l[t % 4]?) e
    simp only [List.getElem?_take, List.getElem?_drop] at e2
    have e3 : t / 4 * 4 + t % 4 = t := by omega
    rw [if_pos (by omega), if_pos (by omega), e3, List.getElem?_eq_getElem h1, List.getElem?_eq_getElem h2] at e2
    exact Option.some.inj e2
theorem put_take (F c : Array Value) (h : F.size ≤ c.size) : (putCells id 0 F c).toList.take F.size = F.toList := by
  apply List.ext_getElem
  · simp [putCells]; omega
  · intro i h1 h2
    have hi : i < F.size := by simpa using h2
    simp [putCells, hi]
theorem sorted_block (w : World) (n g : Nat) (cur : Array Value) (hh : w.heap[g]? = some (.cells cur 27 (0, 0))) (d : Array S27) (os : Array Obj) :
    (sortWorldK encL 4 w g 0 n d os).heap[g]? = some (.cells (putCells id 0 (flatK encL 4 d) cur) 27 (0, 0)) := by
  unfold sortWorldK putRowK putRow
  rw [heap_grow_old _ _ (by have := blk_lt hh; simpa [mapBlock] using this)]
  simp [mapBlock, Array.getElem?_modify, hh, onCells]
theorem sorted_grown (w : World) (n g : Nat) (d : Array S27) (os : Array Obj) : w.grownBy (sortWorldK encL 4 w g 0 n d os) (some g) := by
  refine ⟨rfl, rfl, rfl, by simp [sortWorldK, putRowK], fun i hi hne => ?_⟩
  unfold sortWorldK putRowK putRow
  rw [heap_grow_old _ _ (by simpa [mapBlock] using hi)]
  have : g ≠ i := fun e => hne (by rw [e])
  simp [mapBlock, Array.getElem?_modify, this]
set_option maxRecDepth 100000 in
theorem sortFuncL (v : Value) (xs : List S27) (w : World) (base : Nat) (ok : Nat → Prop) (hR : Kd.R k27 27 w base ok v xs) (hlen : xs.length < 4398046511104) :
    Calls Try.prog 115 #[v, .func (.func 42) #[] #[]] w fun e w' => e = .returned (.tuple #[]) ∧ Kd.R k27 27 w' base ok v (sortedL xs) ∧ w.grownBy w' v.ownBlock := by
  rcases Nat.eq_zero_or_pos xs.length with h0 | h0
  · obtain rfl := List.eq_nil_of_length_eq_zero h0
    obtain ⟨A, c, rfl⟩ := Kd.R_slice hR
    have hS := AnyF.slices_SortFunc_none (P := Try.prog) Try.sortLab A c (.func (.func 42) #[] #[]) w
    change Calls Try.prog 115 _ _ _ at hS
    refine hS.mono ?_
    rintro e w' ⟨rfl, rfl⟩
    exact ⟨rfl, by simpa [sortedL] using hR, World.grownBy.refl _ _⟩
  · obtain ⟨hok, inner, ⟨hl, hown⟩, hr⟩ := hR
    rcases hown with ⟨rfl, hn⟩ | ⟨g, cap, cur, rfl, hb, hh, hnc, hcm, hcs, htk⟩
    · omega
    · have hin := inner_flat hr
      have hH : HoldsK encL 4 w g 0 xs.toArray := by
        intro t ht
        have ht4 : t < xs.length * 4 := by simpa using ht
        have hsz : k27.sz = 4 := rfl
        rw [hsz] at hcs htk
        have hcl : t < cur.size := by rw [hcs]; omega
        refine ⟨?_, by simp [World.frozen?, hh]⟩
        have e1 : cur[t]? = some (flatK encL 4 xs.toArray)[t]! := by
          have e2 : cur.toList[t]? = (flatK encL 4 xs.toArray).toList[t]? := by
            rw [← hin, ← htk, List.getElem?_take, if_pos ht4]
          rw [Array.getElem?_toList, Array.getElem?_toList] at e2
          rw [e2, getElem!_pos (flatK encL 4 xs.toArray) t ht, Array.getElem?_eq_getElem ht]
        simp [World.cell?, hh, e1]
      have eg : ∀ args w, (callFunc 42 args).run Try.prog w = .ok (.enter 42 args) w := enters_of Try.func42 (by kernel_rfl) rfl
      have hS := AnyQ.slices_SortFunc_total Try.sortLab 4 Try.isAgg27 Try.sizeOf27 encL encL_len encL_one cmpL swoL 42 #[] g 0 cap xs.toArray w eg (compare_lays g 0 _ w) hH (blk_lt hh) (by simp; omega) totL
      change Calls Try.prog 115 _ _ _ at hS
      refine hS.mono ?_
      rintro e w' ⟨rfl, n, os, rfl⟩
      have hs : sortedL xs = (xs.toArray.toList.mergeSort fun x y => !(ltOf cmpL) y x) := rfl
      rw [← hs]
      have hbk := sorted_block w n g cur hh (sortedL xs).toArray os
      refine ⟨rfl, ⟨hok, (flatK encL 4 (sortedL xs).toArray).toList, ⟨by rw [sortedL_length]; simp [sortedL_length]; rfl, .inr ⟨g, cap, _, by rw [sortedL_length], hb, hbk, by rw [sortedL_length]; exact hnc, hcm, by simpa [putCells] using hcs, ?_⟩⟩, flat_reps _ _ _ _⟩, sorted_grown w n g _ os⟩
      have h4 := put_take (flatK encL 4 (sortedL xs).toArray) cur (by rw [hcs]; simp [sortedL_length]; exact Nat.mul_le_mul_right 4 hnc)
      have e4 : (flatK encL 4 (sortedL xs).toArray).size = (sortedL xs).length * k27.sz := by simp; rfl
      rw [e4] at h4
      exact h4
end Go.Proofs.Ytioooiflpabngaa.PAll
end
section
namespace Go.Proofs.Ytioooiflpabngaa.PAll
open Go.RowKit Go.Sort Go.Shelf Go.Proofs.YtioooiflpabngaaW.PrintWords Go.Proofs.YtioooiflpabngaaW.PrintLast Go.Proofs.YtioooiflpabngaaW.PrintMore
set_option linter.unusedVariables false
set_option linter.unusedSimpArgs false
instance : DecidableEq S27 := fun a b => decidable_of_iff (eqL a b = true) eqL_iff
theorem step_callV {P : Program} {w : World} {ops : Array Oper} {o : Oper} {a : Act} {K : Act → World → Prop} {Q : Exit → Act → World → Prop} {E : Prop} (hgd : o.guard = none) {f : FuncId} {fn : Func} {as_ : Array Operand} {ts : Array TypeId} {t : Tmp} (hf : P.funcs[f]? = some fn) (hname : (fn.name == "runtime.NumGoroutine") = false) (hb : fn.body.isSome = true) (args : Array Value)
    (hop : o.op = .call { callee := .value (.tmp t), args := as_, argTypes := ts }) (hv : a.eval (.tmp t) = .func (.func f) #[] #[]) (hargs : as_.map a.eval = args)
    (h : Calls P f args w fun e w' => ∃ v, e = .returned v ∧ K (a.put o.dst v) w') : if Region.wanted o (yielded ops a.tmps) = true then Oper.wp P o a w K Q else E := by
  have hw : Region.wanted o (yielded ops a.tmps) = true := by simp [Region.wanted, hgd]
  have h2 : if Region.wanted o (yielded ops a.tmps) = true then Oper.wp P o a w K Q else K (a.put o.dst undef) w := by
    refine call_ f args hw rfl ?_ h
    have he := enters_ hf hname hb args w
    unfold execOp
    simp [hop, resolve, hv, Deferred.ofValue, invoke, hargs, he]
  rw [if_pos hw] at h2 ⊢
  exact h2
section
attribute [local go_sem high] eqA27
set_option maxRecDepth 100000 in
theorem same1 (x y : S27) (W : World) : Calls Try.prog 82 #[.agg (encL x).toArray, .agg (encL y).toArray] W fun e w' => e = .returned (.bool (eqL x y)) ∧ Below W.heap.size W w' := by
  unfold encL
  go_enter Try.func82, Try.ntmps82
  go_wp2
  go_ret
  exact ⟨rfl, by repeat (first | exact Below.refl _ _ | apply below_alloc | refine below_set ?_ (Nat.le_refl _))⟩
end
theorem rd_at (xs : List S27) (n : Nat) : rd_T27 xs (n : Int) = xs.toArray[n]! := by
  unfold rd_T27
  rw [Int.toNat_natCast, List.getD_eq_getElem?_getD]
  by_cases h : n < xs.length
  · simp [h]
  · simp [h]
    rfl
theorem sizeL : (Try.prog.info? 27).map (·.size) = some 4 := by
  obtain ⟨i, hi, he⟩ := Option.map_eq_some_iff.1 info27
  simp only [Prod.mk.injEq] at he
  rw [hi, Option.map_some, he.2.1]
theorem rd_atA (dk : Array S27) (n : Nat) : rd_T27 dk.toList (n : Int) = dk[n]! := by rw [rd_at]
theorem grown_step {w wi w3 : World} {row : Option Nat} (h : w.grownBy wi row) (hb : Below wi.heap.size wi w3) : w.grownBy w3 row :=
  ⟨hb.os.trans h.os, hb.tape.trans h.tape, hb.output.trans h.output, Nat.le_trans h.size hb.size, fun t ht hne => (hb.block t (Nat.lt_of_lt_of_le ht h.size)).trans (h.block t ht hne)⟩
theorem storeL {ops : Array Oper} {rest : List Oper} {o : Oper} {a : Act} {Q : Exit → Act → World → Prop} {W w0 : World} {base g n c : Nat} {ok : Nat → Prop} {xs : List S27} (hN : o.dst = none) (hgd : o.guard = none) (p x : Operand) (ho : o.op = .store 27 p x) (k : Nat) (y : S27) (o' : Nat)
    (haddr : a.eval p = .pointer (some ⟨g, o', none⟩)) (hoff : o' = k * 4) (hx : a.eval x = .agg #[.int .u64 y.f0.f0, .int .i64 y.f0.f1, .int .u64 y.f1, .int .i64 y.f2]) (HO : Kd.R k27 27 W base ok (.slice (some ⟨g, 0, none⟩) n c) xs) (hk : k < n) (HB : Below base w0 W)
    (h : ∀ w1, Kd.R k27 27 w1 base ok (.slice (some ⟨g, 0, none⟩) n c) (xs.set k y) → Below base w0 w1 → W.grownBy w1 (some g) → wpList Try.prog ops Q rest a w1) : wpList Try.prog ops Q (o :: rest) a W := by
  have hC := (Kd.R_reads' HO).2.2
  have hn := (Kd.R_reads' HO).1
  obtain ⟨ad, e, hz0, hz1, hz2, hz3⟩ := at_T27 hC (k : Int) (by omega) (by omega)
  obtain rfl := Option.some.inj e
  rw [Int.toNat_natCast] at hz0 hz1 hz2 hz3
  simp only [Addr.add_lit, Nat.zero_add] at hz0 hz1 hz2 hz3
  refine Kd.R_store k27 (w0 := w0) base hN hgd 27 p x ho 27 (g := g) (n := n) (cap := c) (o' := o') (k : Int) 0 xs y (.agg (encL y).toArray) (encL y) (encL (rd_T27 xs (k : Int))) ok (fun _ => False) haddr (by rw [hoff, Int.toNat_natCast]; rfl) hx rfl sizeL (encL_one y) HO (by omega) (by omega) rfl ?_ (Nat.le_refl 4) (M_L _ _ _ y) (fun _ h => h.elim) HB ?_
  · intro j u hu
    rw [Int.toNat_natCast]
    rcases j with _ | _ | _ | _ | j
    · cases hu; exact hz0
    · cases hu; exact hz1
    · cases hu; exact hz2
    · cases hu; exact hz3
    · simp [encL] at hu
  · intro w1 h1 h2 h3
    rw [Int.toNat_natCast] at h1
    exact h w1 h1 h2 h3
theorem run_clear_rows {P : Program} (w : World) (t e ty : TypeId) (z : Value) (ht : P.underlying t = some (.slice e)) (hv : (zeroValue e).run P w = .ok z w) (g o n c : Nat) (h1 : ∀ q ∈ (Builtin.zeroCells z.cells n).toList, q.oneCell' = true) (hn : 0 < n) (cur : Array Value) (hh : w.heap[g]? = some (.cells cur e (0, 0)))
    (hfit : o + (Builtin.zeroCells z.cells n).size ≤ cur.size) : (Builtin.clear_ #[t] ty #[.slice (some ⟨g, o, none⟩) n c]).run P w = .ok (.tuple #[]) (w.setCells g o (Builtin.zeroCells z.cells n).toList) := by
  have hst := run_storeCells_cells (P := P) g o (Builtin.zeroCells z.cells n).toList 0 w (fun j hj => by rw [cell_of_row w g _ cur e (0, 0) hh]; rw [Array.length_toList] at hj; simp; omega) (fun j _ => blk_frozen hh _) h1
  simp only [Nat.add_zero] at hst
  obtain ⟨m, rfl⟩ : ∃ m, n = m + 1 := ⟨n - 1, by omega⟩
  simp [Builtin.clear_, run_underlying ht, hv, hst]
theorem clear_tail {α : Type} {d : Kd α} {e g n c base : Nat} {w : World} {ok : Nat → Prop} {xs : List α} (h : d.R e w base ok (.slice (some ⟨g, 0, none⟩) n c) xs) (m : Nat) (hm : m ≤ n) (vs : List Value) (hvs : vs.length = (n - m) * d.sz) :
    d.R e (w.setCells g (m * d.sz) vs) base ok (.slice (some ⟨g, 0, none⟩) m c) (xs.take m) ∧ w.grownBy (w.setCells g (m * d.sz) vs) (some g) ∧ ∃ cur, w.heap[g]? = some (.cells cur e (0, 0)) ∧ m * d.sz + vs.length ≤ cur.size := by
  have hn : n = xs.length := (Kd.R_reads' h).1
  obtain ⟨h0, inner, hown, hr⟩ := Kd.R_take h (m := m) (by omega)
  obtain ⟨_, _, ⟨_, hown1⟩, _⟩ := h
  rcases hown1 with ⟨he, _⟩ | ⟨g1, cap1, cur1, he1, _, hh1, hnc1, _, hcs1, _⟩
  · cases he
  injection he1 with a1 a2 a3
  injection a1 with a1
  injection a1 with a1
  subst a1; subst a3
  have hfit : m * d.sz + vs.length ≤ cur1.size := by
    rw [hvs, ← Nat.add_mul, show m + (n - m) = n by omega, hcs1]
    exact Nat.mul_le_mul_right _ (by omega)
  obtain ⟨cur', hc1, hc2, hc3⟩ := setCells_row vs (m * d.sz) w cur1 hh1 hfit
  obtain ⟨o1, o2, o3, o4⟩ := setCells_same g vs (m * d.sz) w
  have hfar : ∀ k, k ≠ g → (w.setCells g (m * d.sz) vs).heap[k]? = w.heap[k]? := fun k hk => setCells_far vs _ k hk
  refine ⟨⟨h0, inner, ⟨hown.1, ?_⟩, hr.imp_ fun _ _ hp => d.M_move (fun k hk => hfar k fun he => hk.2 (by rw [he]; rfl)) hp⟩, ⟨o1, o2, o3, Nat.le_of_eq o4.symm, fun k _ hk => hfar k fun he => hk (by rw [he])⟩, cur1, hh1, hfit⟩
  rcases hown.2 with ⟨he, _⟩ | ⟨g2, cap2, cur2, he2, hb2, hh2, hnc2, hcm2, hcs2, htk2⟩
  · cases he
  injection he2 with a1 a2 a3
  injection a1 with a1
  injection a1 with a1
  subst a1; subst a3
  rw [hh1] at hh2
  injection hh2 with hh2
  injection hh2 with hh2
  subst hh2
  have hlt : (xs.take m).length = m := by rw [List.length_take]; omega
  rw [hlt] at hnc2 htk2 ⊢
  refine .inr ⟨g, c, cur', rfl, hb2, hc1, hnc2, hcm2, by rw [hc2]; exact hcs2, ?_⟩
  rw [hc3, ← htk2, List.append_assoc, List.take_append_of_le_length (by rw [List.length_take, Array.length_toList]; omega), List.take_take, Nat.min_self]
def zeroL : Value := .agg #[.int .u64 0, .int .i64 0, .int .u64 0, .int .i64 0]
theorem zeroL_run (w : World) : (zeroValue 27).run Try.prog w = .ok zeroL w := by
  obtain ⟨i, hi, he⟩ := Option.map_eq_some_iff.1 info27
  simp only [Prod.mk.injEq] at he
  simp [zeroValue, typeInfo, hi, he.1]
  rfl
theorem zeroL_size (n : Nat) : (Builtin.zeroCells zeroL.cells n).size = n * 4 := by
  simp only [Builtin.zeroCells, Array.size_map, Array.size_range]
  rfl
theorem zeroL_one (n : Nat) : ∀ q ∈ (Builtin.zeroCells zeroL.cells n).toList, q.oneCell' = true := by
  intro q hq
  simp only [Builtin.zeroCells, Array.toList_map, List.mem_map] at hq
  obtain ⟨i, _, rfl⟩ := hq
  have hm : i % zeroL.cells.size < 4 := Nat.mod_lt _ (by decide)
  generalize i % zeroL.cells.size = t at hm
  rcases t with _ | _ | _ | _ | t
  · rfl
  · rfl
  · rfl
  · rfl
  · omega
theorem inv_take {d dk : Array S27} {k : Nat} (h : Lib.CompInv d d.size k dk) : dk.toList.take k = Lib.compactUpTo d d.size := by
  have h1 := h.size
  have h2 := h.lt
  refine List.ext_getElem? fun j => ?_
  by_cases hj : j < k
  · rw [h.low j hj, List.getElem?_take, if_pos hj, Array.getElem?_toList, getElem!_pos dk j (by omega), Array.getElem?_eq_getElem]
  · rw [List.getElem?_eq_none (by rw [List.length_take]; omega), List.getElem?_eq_none (by rw [h.len]; omega)]
set_option maxHeartbeats 2000000 in
set_option maxRecDepth 100000 in
theorem compactFuncL (v : Value) (xs : List S27) (w : World) (base : Nat) (ok : Nat → Prop) (hR : Kd.R k27 27 w base ok v xs) (hlen : xs.length < 4398046511104) :
    Calls Try.prog 79 #[v, .func (.func 82) #[] #[]] w fun e w' => ∃ v', e = .returned v' ∧ Kd.R k27 27 w' base ok v' (Lib.compact xs) ∧ w.grownBy w' v.ownBlock := by
  obtain ⟨A, c, rfl⟩ := Kd.R_slice hR
  have HR := Aside0.mk hR
  clear hR
  have HL := Aside0.mk hlen
  clear hlen
  by_cases h2 : xs.length < 2
  · go_enter Try.func79, Try.ntmps79
    go_wp2
    go_ret
    exact ⟨_, rfl, by rw [Lib.compact_all xs fun j hj => Lib.keeps_lt_one _ j (by omega)]; exact HR.out, World.grownBy.refl _ _⟩
  · obtain ⟨g, rfl⟩ : ∃ g, A = some ⟨g, 0, none⟩ := by
      obtain ⟨_, inner, ho, _⟩ := HR.out
      rcases ho.2 with ⟨he, h0⟩ | ⟨g, cap, cur, he, _⟩
      · omega
      · injection he with he
        exact ⟨g, he⟩
    have hC0 := (Kd.R_reads' HR.out).2.2
    have HNC := Aside0.mk (Kd.R_reads' HR.out).2.1
    have HBS := Aside0.mk (show base ≤ w.heap.size by
      obtain ⟨_, inner, ho, _⟩ := HR.out
      have := ho.lt g rfl
      omega)
    have HBG := Aside0.mk (Kd.R_base HR.out)
    have HC := Aside0.mk hC0
    clear hC0
    have mixed : Try.prog.follows Departure.mixedOrders = true := by kernel_rfl
    go_enter Try.func79, Try.ntmps79
    go_wp2
    go_loopg [5] xs.length (fun g_ s5 wr => ∃ k : Nat, 1 ≤ k ∧ k ≤ xs.length ∧ xs.length - k ≤ g_ ∧ s5 = .int .i64 k ∧ Aside0 (Below w.heap.size w wr) ∧ Aside0 (∀ j, j < k → Lib.keeps xs.toArray j = true))
    case atStart => exact ⟨1, Nat.le_refl _, by omega, by omega, rfl, ⟨Below.refl _ _⟩, ⟨Lib.keeps_lt_one _⟩⟩
    case round =>
      obtain ⟨k, hk1, hk, hg, rfl, HB, HA⟩ := hrel
      by_cases hlt : k < xs.length
      · obtain ⟨ad, e, hx0, hx1, hx2, hx3⟩ := at_T27 (Kd.C_below HC.out HB.out) (k : Int) (by omega) (by omega)
        obtain rfl := Option.some.inj e
        obtain ⟨j, hj⟩ : ∃ j : Nat, k = j + 1 := ⟨k - 1, by omega⟩
        obtain ⟨ad, e, hy0, hy1, hy2, hy3⟩ := at_T27 (Kd.C_below HC.out HB.out) (j : Int) (by omega) (by omega)
        obtain rfl := Option.some.inj e
        rw [Int.toNat_natCast] at hx0 hx1 hx2 hx3 hy0 hy1 hy2 hy3
        have hwj : IntKind.i64.wrap ((k : Int) - 1) = (j : Int) := by have := HL.out; rw [IntKind.wrap_i64]; omega
        have hjl : (j : Int) < (xs.length : Int) := by omega
        have hnc := HNC.out
        have hck : ¬ (c = k) := by omega
        have hkc : k ≤ c := by omega
        have HE1 := Aside0.mk (show wrap64 ((k : Int) + 1) = ((k + 1 : Nat) : Int) by have := HL.out; unfold wrap64; omega)
        have HJ := Aside0.mk hj
        have HK := Aside0.mk (And.intro hk1 (And.intro hk hg))
        clear hj hk1 hk hg
        simp only [Addr.add_lit, Nat.zero_add] at hx0 hx1 hx2 hx3 hy0 hy1 hy2 hy3
        by_cases hq : rd_T27 xs (k : Int) = rd_T27 xs (j : Int)
        · have HQ := Aside0.mk hq
          have hqb : eqL (rd_T27 xs (k : Int)) (rd_T27 xs (j : Int)) = true := eqL_iff.2 hq
          clear hq
          go_wp2_with fail
          go_region_law_o (refine step_callV rfl (f := 82) Try.func82 (by kernel_rfl) rfl #[.agg (encL (rd_T27 xs (k : Int))).toArray, .agg (encL (rd_T27 xs (j : Int))).toArray] rfl (by simp [Act.eval]) (by simp [Act.eval, Act.put, encL]) ?_; refine (same1 (rd_T27 xs (k : Int)) (rd_T27 xs (j : Int)) _).mono ?_; rintro e w2 ⟨rfl, hb⟩; rw [hqb]; refine ⟨_, rfl, ?_⟩; have HB2 := Aside0.mk (show Below w.heap.size w w2 from below_step (by repeat (first | exact HB.out | apply below_drew1)) hb); clear hb)
          all_goals clear hqb hx0 hx1 hx2 hx3 hy0 hy1 hy2 hy3 hwj hjl
          all_goals go_wp2
          all_goals (
            go_loopg [5, 7] xs.length (fun g_ s5 s7 wi => ∃ (kk k2 : Nat) (dk : Array S27), s5 = .int .i64 kk ∧ s7 = .int .i64 k2 ∧ 1 ≤ k2 ∧ k + k2 ≤ xs.length ∧ xs.length - (k + k2) ≤ g_ ∧ Aside0 (Kd.R k27 27 wi base ok (.slice (some ⟨g, 0, none⟩) xs.length c) dk.toList) ∧ Aside0 (Below base w wi) ∧ Aside0 (w.grownBy wi (some g)) ∧ Aside0 (Lib.CompInv xs.toArray (k + k2) kk dk))
            case atStart => exact ⟨k, 1, xs.toArray, rfl, rfl, Nat.le_refl _, by omega, by omega, ⟨Kd.R_below HR.out HB2.out⟩, ⟨HB2.out.mono HBS.out⟩, ⟨⟨HB2.out.os, HB2.out.tape, HB2.out.output, HB2.out.size, fun t ht _ => HB2.out.block t ht⟩⟩, ⟨Lib.CompInv.start HA.out (Lib.keeps_neg (by have := HJ.out; omega) (by rw [← rd_at xs k, show k - 1 = j by have := HJ.out; omega, ← rd_at xs j]; exact HQ.out))⟩⟩
            case round =>
              obtain ⟨kk, k2, dk, rfl, rfl, h1, hle, hg2, HRn, HBn, HGn, HI⟩ := hrel
              have hdl : dk.toList.length = xs.length := by have := HI.out.size; simpa using this
              have hkk := HI.out.lt
              by_cases hlt2 : k + k2 < xs.length
              · have hCi := (Kd.R_reads' HRn.out).2.2
                obtain ⟨ad, e, hx0, hx1, hx2, hx3⟩ := at_T27 hCi ((k + k2 : Nat) : Int) (by omega) (by omega)
                obtain rfl := Option.some.inj e
                obtain ⟨j2, hj2⟩ : ∃ j2 : Nat, k2 = j2 + 1 := ⟨k2 - 1, by omega⟩
                obtain ⟨ad, e, hy0, hy1, hy2, hy3⟩ := at_T27 hCi ((k + j2 : Nat) : Int) (by omega) (by omega)
                obtain rfl := Option.some.inj e
                rw [Int.toNat_natCast, Nat.add_mul] at hx0 hx1 hx2 hx3 hy0 hy1 hy2 hy3
                have hwj : IntKind.i64.wrap ((k2 : Int) - 1) = (j2 : Int) := by have := HL.out; rw [IntKind.wrap_i64]; omega
                have hjl : (j2 : Int) < ((xs.length - k : Nat) : Int) := by omega
                have hkl : (k2 : Int) < ((xs.length - k : Nat) : Int) := by omega
                clear hCi
                simp only [Addr.add_lit, Nat.zero_add] at hx0 hx1 hx2 hx3 hy0 hy1 hy2 hy3
                have hkk2 : (kk : Int) < (xs.length : Int) := by omega
                have HJ2 := Aside0.mk hj2
                have HE2 := Aside0.mk (show wrap64 ((k2 : Int) + 1) = ((k2 + 1 : Nat) : Int) by have := HL.out; unfold wrap64; omega)
                have HE3 := Aside0.mk (show wrap64 ((kk : Int) + 1) = ((kk + 1 : Nat) : Int) by have := HL.out; unfold wrap64; omega)
                have HK2 := Aside0.mk (show 1 ≤ k2 ∧ k + k2 ≤ xs.length ∧ xs.length - (k + k2) ≤ gk ∧ kk < k + k2 ∧ k + k2 < xs.length from ⟨h1, hle, hg2, hkk, hlt2⟩)
                clear hj2 h1 hle hg2 hkk hlt2
                by_cases hq2 : rd_T27 dk.toList ((k + k2 : Nat) : Int) = rd_T27 dk.toList ((k + j2 : Nat) : Int)
                · have HQ2 := Aside0.mk hq2
                  have hqb2 : eqL (rd_T27 dk.toList ((k + k2 : Nat) : Int)) (rd_T27 dk.toList ((k + j2 : Nat) : Int)) = true := eqL_iff.2 hq2
                  clear hq2
                  go_wp2_with fail
                  go_region_law_o (refine step_callV rfl (f := 82) Try.func82 (by kernel_rfl) rfl #[.agg (encL (rd_T27 dk.toList ((k + k2 : Nat) : Int))).toArray, .agg (encL (rd_T27 dk.toList ((k + j2 : Nat) : Int))).toArray] rfl (by simp [Act.eval]) (by simp [Act.eval, Act.put, encL]) ?_; refine (same1 (rd_T27 dk.toList ((k + k2 : Nat) : Int)) (rd_T27 dk.toList ((k + j2 : Nat) : Int)) _).mono ?_; rintro e w3 ⟨rfl, hb⟩; rw [hqb2]; refine ⟨_, rfl, ?_⟩; have HB3 := Aside0.mk (show Below wr.heap.size wr w3 from below_step (by repeat (first | exact Below.refl _ _ | apply below_drew1)) hb); clear hb)
                  all_goals clear hqb2 hx0 hx1 hx2 hx3 hy0 hy1 hy2 hy3 hwj hjl
                  all_goals go_wp2
                  all_goals go_roundg (xs.length - (k + (k2 + 1)))
                  all_goals first
                    | (have := HK2.out; omega)
                    | exact ⟨kk, k2 + 1, dk, rfl, by rw [HE2.out], by omega, by have := HK2.out; omega, Nat.le_refl _, ⟨Kd.R_below HRn.out HB3.out⟩, ⟨HBn.out.trans (HB3.out.mono (Nat.le_trans HBS.out HGn.out.size))⟩, ⟨grown_step HGn.out HB3.out⟩, ⟨HI.out.skip (Lib.keeps_neg (by have := HK2.out; omega) (by rw [← HI.out.high (k + k2) (by have := HK2.out; omega), show k + k2 - 1 = k + j2 by have := HJ2.out; omega, ← HI.out.high (k + j2) (by have := HK2.out; have := HJ2.out; omega), ← rd_atA, ← rd_atA]; exact HQ2.out))⟩⟩
                · have HQ2 := Aside0.mk hq2
                  have hqb2 : eqL (rd_T27 dk.toList ((k + k2 : Nat) : Int)) (rd_T27 dk.toList ((k + j2 : Nat) : Int)) = false := by rw [← Bool.not_eq_true, eqL_iff]; exact hq2
                  clear hq2
                  go_wp2_with fail
                  go_region_law_o (refine step_callV rfl (f := 82) Try.func82 (by kernel_rfl) rfl #[.agg (encL (rd_T27 dk.toList ((k + k2 : Nat) : Int))).toArray, .agg (encL (rd_T27 dk.toList ((k + j2 : Nat) : Int))).toArray] rfl (by simp [Act.eval]) (by simp [Act.eval, Act.put, encL]) ?_; refine (same1 (rd_T27 dk.toList ((k + k2 : Nat) : Int)) (rd_T27 dk.toList ((k + j2 : Nat) : Int)) _).mono ?_; rintro e w3 ⟨rfl, hb⟩; rw [hqb2]; refine ⟨_, rfl, ?_⟩; have HB3 := Aside0.mk (show Below wr.heap.size wr w3 from below_step (by repeat (first | exact Below.refl _ _ | apply below_drew1)) hb); clear hb)
                  all_goals clear hqb2 hx0 hx1 hx2 hx3 hy0 hy1 hy2 hy3 hwj hjl
                  all_goals clear hkk2
                  all_goals (
                    have HR3 := Aside0.mk (Kd.R_below HRn.out HB3.out)
                    obtain ⟨ad, e, hx0, hx1, hx2, hx3⟩ := at_T27 (Kd.R_reads' HR3.out).2.2 ((k + k2 : Nat) : Int) (by omega) (by have := HK2.out; omega)
                    obtain rfl := Option.some.inj e
                    rw [Int.toNat_natCast, Nat.add_mul] at hx0 hx1 hx2 hx3
                    simp only [Addr.add_lit, Nat.zero_add] at hx0 hx1 hx2 hx3
                    obtain ⟨x, hgx⟩ : ∃ x, x = rd_T27 dk.toList ((k + k2 : Nat) : Int) := ⟨_, rfl⟩
                    rw [← hgx] at hx0 hx1 hx2 hx3
                    have HGX := Aside0.mk hgx
                    have hkl : (k2 : Int) < ((xs.length - k : Nat) : Int) := by have := HK2.out; omega
                    have hkk2 : (kk : Int) < (xs.length : Int) := by have := HK2.out; omega
                    clear hgx
                    go_wp2_with ((with_reducible refine gate_ (.store 27 (.tmp 56) (.tmp 55)) rfl ?_); refine storeL (w0 := w) rfl rfl (.tmp 56) (.tmp 55) rfl kk x (kk * 4) rfl rfl rfl HR3.out ?s3 ?s5 ?_; (case s3 => have := HK2.out; omega); (case s5 => exact HBn.out.trans (HB3.out.mono (Nat.le_trans HBS.out HGn.out.size))); intro w4 hR4 hB4 hG4; have HR4 := Aside0.mk hR4; have HB4 := Aside0.mk hB4; have HG4 := Aside0.mk hG4; clear hR4 hB4 hG4)
                    all_goals go_roundg (xs.length - (k + (k2 + 1)))
                    all_goals first
                      | (have := HK2.out; omega)
                      | exact ⟨kk + 1, k2 + 1, dk.setIfInBounds kk x, by rw [HE3.out], by rw [HE2.out], by omega, by have := HK2.out; omega, Nat.le_refl _, ⟨by have h4 := HR4.out; simpa using h4⟩, ⟨HB4.out⟩, ⟨(grown_step HGn.out HB3.out).trans HG4.out⟩, ⟨by
                          have e1 : x = xs.toArray[k + k2]! := by rw [HGX.out, rd_atA, HI.out.high (k + k2) (by have := HK2.out; omega)]
                          rw [e1]
                          refine HI.out.keep (by have := HK2.out; simpa using this.2.2.2.2) (Lib.keeps_pos ?_)
                          rw [← HI.out.high (k + k2) (by have := HK2.out; omega), show k + k2 - 1 = k + j2 by have := HJ2.out; omega, ← HI.out.high (k + j2) (by have := HK2.out; have := HJ2.out; omega), ← rd_atA, ← rd_atA]
                          exact HQ2.out⟩⟩)
              · have hend : k + k2 = xs.length := by omega
                obtain ⟨hRt, hGt, cur, hh, hfit⟩ := clear_tail HRn.out kk (by omega) (Builtin.zeroCells zeroL.cells (xs.length - kk)).toList (by rw [Array.length_toList, zeroL_size]; rfl)
                rw [Array.length_toList] at hfit
                have hcl : ∀ ty, (Builtin.clear_ #[41] ty #[.slice (some ⟨g, kk * 4, none⟩) (xs.length - kk) (c - kk)]).run Try.prog wr = .ok (.tuple #[]) (wr.setCells g (kk * 4) (Builtin.zeroCells zeroL.cells (xs.length - kk)).toList) :=
                  fun ty => run_clear_rows wr _ 27 ty zeroL Try.underlying41 (zeroL_run wr) g (kk * 4) (xs.length - kk) (c - kk) (zeroL_one _) (by omega) cur hh hfit
                have hck2 : ¬ (c = kk) := by omega
                have hkc2 : kk ≤ c := by omega
                have hkx : kk ≤ xs.length := by omega
                have hnk : ¬ ((k2 : Int) < ((xs.length - k : Nat) : Int)) := by omega
                have e4 : k27.sz = 4 := rfl
                rw [e4] at hRt hGt
                generalize (Builtin.zeroCells zeroL.cells (xs.length - kk)).toList = vs at hRt hGt hcl
                have HRt := Aside0.mk hRt
                have HGt := Aside0.mk hGt
                have HEND := Aside0.mk hend
                clear hRt hGt hh hfit hend h1 hle hg2 hkk hlt2 hdl hck hkc hnc
                go_wp2
                go_ret
                refine ⟨_, rfl, ?_, HGn.out.trans HGt.out⟩
                have hI := HI.out
                rw [HEND.out] at hI
                have e1 := inv_take (d := xs.toArray) (by simpa using hI)
                have e2 : Lib.compact xs = dk.toList.take kk := by rw [e1]; simp [Lib.compact]
                rw [e2]
                exact HRt.out)
        · have HQ := Aside0.mk hq
          have hqb : eqL (rd_T27 xs (k : Int)) (rd_T27 xs (j : Int)) = false := by rw [← Bool.not_eq_true, eqL_iff]; exact hq
          clear hq
          go_wp2_with fail
          go_region_law_o (refine step_callV rfl (f := 82) Try.func82 (by kernel_rfl) rfl #[.agg (encL (rd_T27 xs (k : Int))).toArray, .agg (encL (rd_T27 xs (j : Int))).toArray] rfl (by simp [Act.eval]) (by simp [Act.eval, Act.put, encL]) ?_; refine (same1 (rd_T27 xs (k : Int)) (rd_T27 xs (j : Int)) _).mono ?_; rintro e w2 ⟨rfl, hb⟩; rw [hqb]; refine ⟨_, rfl, ?_⟩; have HB2 := Aside0.mk (show Below w.heap.size w w2 from below_step (by repeat (first | exact HB.out | apply below_drew1)) hb); clear hb)
          all_goals clear hqb hx0 hx1 hx2 hx3 hy0 hy1 hy2 hy3 hwj hjl
          all_goals go_wp2
          all_goals go_roundg (xs.length - (k + 1))
          all_goals first
            | (have := HK.out; omega)
            | exact ⟨k + 1, by omega, by omega, Nat.le_refl _, by rw [HE1.out], HB2, ⟨fun t ht => by
                rcases Nat.lt_or_ge t k with h | h
                · exact HA.out t h
                · obtain rfl : t = k := by omega
                  exact Lib.keeps_pos (by rw [← rd_at xs t, show t - 1 = j by have := HJ.out; omega, ← rd_at xs j]; exact HQ.out)⟩⟩
      · obtain rfl : k = xs.length := by omega
        go_wp2
        go_ret
        exact ⟨_, rfl, by rw [Lib.compact_all xs HA.out]; exact Kd.R_below HR.out HB.out, ⟨HB.out.os, HB.out.tape, HB.out.output, HB.out.size, fun t ht _ => HB.out.block t ht⟩⟩
end Go.Proofs.Ytioooiflpabngaa.PAll
end
section
namespace Go.Proofs.Ytioooiflpabngaa.PAll
open Go.RowKit Go.Sort Go.Proofs.YtioooiflpabngaaW.PrintWords Go.Proofs.YtioooiflpabngaaW.PrintLast Go.Proofs.YtioooiflpabngaaW.PrintMore
set_option linter.unusedVariables false
set_option linter.unusedSimpArgs false
theorem collectL (Bs : Nat) (A : Option Addr) (cap : Nat) (zs : List S27) (w : World) (hlen : zs.length < 4398046511104) (HC : Kd.C k27 w A zs.length zs) (hBs : w.cell? ⟨Bs, 0, none⟩ = some (.slice A zs.length cap)) :
    Calls Try.prog 114 #[.func (.func 116) #[] #[.pointer (some ⟨Bs, 0, none⟩)]] w fun e w' => ∃ v, e = .returned v ∧ Kd.R k27 27 w' w.heap.size (fun _ => True) v zs ∧ Below w.heap.size w w' := by
  have HA := Aside0.mk (appendSeqL Bs A cap zs w hlen HC hBs)
  clear HC hBs
  go_enter Try.func114, Try.ntmps114
  go_wp2_with (go_at_call 128; refine HA.out.mono ?_; rintro e w2 ⟨v, rfl, hR, hb⟩; have HR := Aside0.mk hR; have HB := Aside0.mk hb; clear hR hb)
  go_ret
  exact ⟨_, rfl, HR.out, HB.out⟩
theorem below_grown {w w1 : World} {base : Nat} {α : Type} {d : Kd α} {e : Nat} {ok : Nat → Prop} {v : Value} {xs : List α} (hR : d.R e w base ok v xs) (hg : w.grownBy w1 v.ownBlock) (hb : base ≤ w.heap.size) : Below base w w1 :=
  (Below.refl _ _).grown hg hb (Kd.R_base hR)
theorem sortedFuncL (Bs : Nat) (A : Option Addr) (cap : Nat) (zs : List S27) (w : World) (hlen : zs.length < 4398046511104) (HC : Kd.C k27 w A zs.length zs) (hBs : w.cell? ⟨Bs, 0, none⟩ = some (.slice A zs.length cap)) :
    Calls Try.prog 80 #[.func (.func 116) #[] #[.pointer (some ⟨Bs, 0, none⟩)], .func (.func 42) #[] #[]] w fun e w' => ∃ v, e = .returned v ∧ Kd.R k27 27 w' w.heap.size (fun _ => True) v (sortedL zs) ∧ Below w.heap.size w w' := by
  have HA := Aside0.mk (collectL Bs A cap zs w hlen HC hBs)
  have HL := Aside0.mk hlen
  clear HC hBs hlen
  go_enter Try.func80, Try.ntmps80
  go_wp2_with (first | (go_at_call 114; refine HA.out.mono ?_; rintro e w2 ⟨v, rfl, hR, hb⟩; have HR := Aside0.mk hR; have HB := Aside0.mk hb; clear hR hb) | (go_at_call 115; refine (sortFuncL v zs _ w.heap.size (fun _ => True) HR.out HL.out).mono ?_; rintro e w3 ⟨rfl, hR3, hg3⟩; have HR3 := Aside0.mk hR3; have HG3 := Aside0.mk hg3; clear hR3 hg3))
  go_ret
  exact ⟨_, rfl, HR3.out, HB.out.trans (below_grown HR.out HG3.out HB.out.size)⟩
theorem label_Sort_calls (A0 : Option Addr) (c0 : Nat) (l0 : List S27) (w : World) (hr0 : Kd.C k27 w A0 l0.length l0) (hlen : l0.length < 4398046511104) :
    Calls Try.prog 35 #[.slice A0 l0.length c0] w fun e w' => ∃ v0_ : Value, e = .returned (v0_) ∧ Kd.R k27 27 w' w.heap.size (fun _ => True) v0_ (Lib.compact (sortedL l0)) ∧ Below w.heap.size w w' := by
  have HC := Aside0.mk hr0
  have HL := Aside0.mk hlen
  clear hr0 hlen
  go_enter Try.func35, Try.ntmps35
  go_wp2_with (first
    | (go_at_call 81; refine (valuesL A0 l0.length c0 _).mono ?_; rintro e w1 ⟨rfl, rfl⟩)
    | (go_at_call 80; refine (sortedFuncL w.heap.size A0 c0 l0 _ HL.out (Kd.C_alloc HC.out _) (by simp)).mono ?_; rintro e w2 ⟨v, rfl, hR, hb⟩; have HR := Aside0.mk hR; have HB := Aside0.mk hb; clear hR hb)
    | (go_at_call 79; refine (compactFuncL v (sortedL l0) _ _ (fun _ => True) HR.out (by rw [sortedL_length]; exact HL.out)).mono ?_; rintro e w3 ⟨v3, rfl, hR3, hg3⟩; have HR3 := Aside0.mk hR3; have HG3 := Aside0.mk hg3; clear hR3 hg3))
  go_ret
  refine ⟨_, rfl, ?_, ?_⟩
  · exact Kd.R_lower HR3.out (by simp)
  · exact ((Below.refl _ w).alloc (Nat.le_refl _) _).trans ((HB.out.mono (by simp)).trans (below_grown (Kd.R_lower HR.out (show w.heap.size ≤ _ by simp)) HG3.out (Nat.le_trans (by simp) HB.out.size)))
theorem mem_compact (zs : List S27) (x : S27) : x ∈ Lib.compact zs ↔ x ∈ zs := by
  unfold Lib.compact Lib.compactUpTo
  simp only [List.mem_map, List.mem_filter, List.mem_range]
  constructor
  · rintro ⟨i, ⟨hi, _⟩, rfl⟩
    simp [hi]
  · intro hx
    obtain ⟨i, hi, rfl⟩ := List.getElem_of_mem hx
    induction i with
    | zero => exact ⟨0, ⟨hi, Lib.keeps_lt_one _ 0 (by omega)⟩, by simp [hi]⟩
    | succ i ih =>
      by_cases hk : Lib.keeps zs.toArray (i + 1) = true
      · exact ⟨i + 1, ⟨hi, hk⟩, by simp [hi]⟩
      · have hi2 : i < zs.length := by omega
        have e : zs[i + 1] = zs[i] := by
          simp only [Lib.keeps, decide_eq_true_eq, not_or, Decidable.not_not] at hk
          have h2 := hk.2
          simpa [hi, hi2] using h2
        rw [e]
        exact ih hi2 (List.getElem_mem _)
theorem compact_rise {zs : List S27} (h : zs.Pairwise fun x y => ¬ ltL y x) : RiseL (Lib.compact zs) := by
  unfold Lib.compact Lib.compactUpTo RiseL
  refine List.pairwise_map.2 (List.Pairwise.imp_of_mem (fun {i j} hi hj hij => ?_) ((List.pairwise_lt_range (n := zs.length)).filter _))
  simp only [List.mem_filter, List.mem_range] at hi hj
  have hk := hj.2
  simp only [Lib.keeps, decide_eq_true_eq] at hk
  rcases hk with hk | hk
  · omega
  have hjl := hj.1
  have hil := hi.1
  have hj1 : j - 1 < zs.length := by omega
  have hp := List.pairwise_iff_getElem.1 h
  have e0 : zs.toArray[i]! = zs[i] := by simp [hil]
  have e1 : zs.toArray[j]! = zs[j] := by simp [hjl]
  have e2 : zs.toArray[j - 1]! = zs[j - 1] := by simp [hj1]
  rw [e1, e2] at hk
  rw [e0, e1]
  have h1 : ltL zs[j - 1] zs[j] := by
    rcases ltL_total zs[j - 1] zs[j] with a | a | a
    · exact a
    · exact absurd a.symm hk
    · exact absurd a (hp (j - 1) j hj1 hjl (by omega))
  rcases Nat.lt_or_ge i (j - 1) with hlt | hge
  · rcases ltL_total zs[i] zs[j - 1] with a | a | a
    · exact ltL_trans a h1
    · rw [a]; exact h1
    · exact absurd a (hp i (j - 1) hil hj1 hlt)
  · have : i = j - 1 := by omega
    subst this
    exact h1
theorem sortedL_pairwise (l : List S27) : (sortedL l).Pairwise fun x y => ¬ ltL y x := by
  unfold sortedL
  have := List.pairwise_mergeSort (le := fun x y => !(ltOf cmpL) y x) (fun a b c h1 h2 => by
    simp only [ltOf, Bool.not_eq_true', decide_eq_false_iff_not] at *
    rw [cmpL_neg] at *
    intro h3
    rcases ltL_total a b with h | h | h
    · rcases ltL_total b c with k | k | k
      · exact ltL_irrefl _ (ltL_trans h3 (ltL_trans h k))
      · subst k; exact h1 h3
      · exact h2 k
    · subst h; exact h2 h3
    · exact h1 h) (fun a b => by
    simp only [ltOf, Bool.or_eq_true, Bool.not_eq_true', decide_eq_false_iff_not]
    rw [cmpL_neg, cmpL_neg]
    rcases ltL_total a b with h | h | h
    · exact .inl fun k => ltL_irrefl _ (ltL_trans h k)
    · subst h; exact .inl (ltL_irrefl _)
    · exact .inr fun k => ltL_irrefl _ (ltL_trans h k)) l
  refine this.imp fun {x y} h => ?_
  simp only [ltOf, Bool.not_eq_true', decide_eq_false_iff_not] at h
  rwa [cmpL_neg] at h
theorem compact_sorted (l : List S27) : Lib.compact (sortedL l) = sortL l :=
  riseL_ext (compact_rise (sortedL_pairwise l)) (sortL_rise l) fun x => by
    rw [mem_compact, mem_sortL]
    unfold sortedL
    exact List.mem_mergeSort
theorem label_Sort.calls (A0 : Option Addr) (c0 : Nat) (l0 : List S27) (r : List S27) (w : World) (hr0 : Kd.C k27 w A0 l0.length l0) (hc0 : l0.length ≤ c0) (h : label_Sort.f l0 = some r) :
    Calls Try.prog 35 #[.slice A0 l0.length c0] w fun e w' => ∃ v0_ : Value, e = .returned (v0_) ∧ Kd.R k27 27 w' w.heap.size (fun _ => True) v0_ r ∧ Below w.heap.size w w' := by
  obtain ⟨hl, rfl⟩ := of_if_some h
  rw [← compact_sorted]
  exact label_Sort_calls A0 c0 l0 w hr0 hl
end Go.Proofs.Ytioooiflpabngaa.PAll
end
section
namespace Go.Proofs.Ytioooiflpabngaa.PAll
open Go.RowKit Go.Sort Go.Proofs.YtioooiflpabngaaW.PrintWords Go.Proofs.YtioooiflpabngaaW.PrintLast Go.Proofs.YtioooiflpabngaaW.PrintMore
set_option linter.unusedVariables false
set_option linter.unusedSimpArgs false
def keyV (x : S27) : Value := .agg #[.int .u64 x.f0.f0, .int .i64 x.f0.f1, .int .u64 x.f1, .int .i64 x.f2]
theorem key_equal (x y : S27) (w : World) : (Op.equal 27 (keyV x) (keyV y)).run Try.prog w = .ok (eqL x y) w := by
  unfold Op.equal
  exact eqA27 9997 w _ _ _ _ _ _ _ _
theorem find_asking (x : S27) (w : World) : ∀ (es : List MapEntry) (i : Nat), (∀ e ∈ es, ∃ y, e.key = keyV y) →
    ((Instr.findAsking 27 (keyV x) es i).run Try.prog w = .ok none w ∧ ∀ e ∈ es, e.key ≠ keyV x) ∨
    ∃ j e, (Instr.findAsking 27 (keyV x) es i).run Try.prog w = .ok (some (i + j, e.val)) w ∧ es[j]? = some e ∧ e.key = keyV x
  | [], i, _ => .inl ⟨by simp [Instr.findAsking], by simp⟩
  | e :: es, i, hall => by
    obtain ⟨y, hy⟩ := hall e (by simp)
    have hr := key_equal x y w
    rw [← hy] at hr
    cases he : eqL x y with
    | false =>
      rw [he] at hr
      have hne : e.key ≠ keyV x := fun h => by
        rw [hy] at h
        simp only [keyV, Value.agg.injEq] at h
        have : x = y := by
          simp only [List.toArray_inj, Array.mk.injEq, List.cons.injEq, Value.int.injEq, true_and, and_true] at h
          obtain ⟨h1, h2, h3, h4⟩ := h
          exact (extL ⟨h1, h2, h3, h4⟩).symm
        rw [eqL_iff.2 this] at he
        cases he
      rcases find_asking x w es (i + 1) (fun y hy => hall y (by simp [hy])) with ⟨h1, h2⟩ | ⟨j, e', h1, h2, h3⟩
      · left
        refine ⟨by simp [Instr.findAsking, hr, h1], fun y hy => ?_⟩
        rcases List.mem_cons.1 hy with rfl | hy
        · exact hne
        · exact h2 y hy
      · right
        exact ⟨j + 1, e', by simp [Instr.findAsking, hr, h1, Nat.add_assoc, Nat.add_comm 1 j], by simpa using h2, h3⟩
    | true =>
      rw [he] at hr
      right
      exact ⟨0, e, by simp [Instr.findAsking, hr], rfl, by rw [hy, eqL_iff.1 he]⟩
theorem find_key (x : S27) (w : World) (es : List MapEntry) (hall : ∀ e ∈ es, ∃ y, e.key = keyV y) :
    ((Instr.findKey 27 (keyV x) es).run Try.prog w = .ok none w ∧ ∀ e ∈ es, e.key ≠ keyV x) ∨
    ∃ j e, (Instr.findKey 27 (keyV x) es).run Try.prog w = .ok (some (j, e.val)) w ∧ es[j]? = some e ∧ e.key = keyV x := by
  cases es with
  | nil => exact .inl ⟨by simp [Instr.findKey, Instr.findNow, run_underlying Try.underlying27], by simp⟩
  | cons e es =>
    have hn : ∀ fs, Instr.findNow (.struct fs) (keyV x) (e :: es) 0 = none := fun fs => by simp [Instr.findNow, Instr.sameNow]
    rcases find_asking x w (e :: es) 0 hall with ⟨h1, h2⟩ | ⟨j, e', h1, h2, h3⟩
    · exact .inl ⟨by simp [Instr.findKey, run_underlying Try.underlying27, hn, h1], h2⟩
    · exact .inr ⟨j, e', by simp [Instr.findKey, run_underlying Try.underlying27, hn, h1], h2, h3⟩
theorem check_leaf (em : Bool) (n : Nat) (t : TypeId) (k k' : IntKind) (ht : Try.prog.underlying t = some (.int k)) (a : Int) (w : World) : (Instr.checkKey em (n + 1) t (.int k' a)).run Try.prog w = .ok () w := by
  simp [Instr.checkKey, run_underlying ht]
theorem check_view (em : Bool) (n : Nat) (a b : Int) (w : World) : (Instr.checkKey em (n + 2) 25 (.agg #[.int .u64 a, .int .i64 b])).run Try.prog w = .ok () w := by
  rw [Instr.checkKey]
  simp only [run_underlying Try.underlying25, Sem.run_bind, Result.andThen_ok]
  go_simp
  simp [check_leaf em n 23 .u64 .u64 Try.underlying23, check_leaf em n 3 .i64 .i64 Try.underlying3, Result.andThen]
theorem check_key (em : Bool) (x : S27) (w : World) : (Instr.checkKey em 10000 27 (keyV x)).run Try.prog w = .ok () w := by
  show (Instr.checkKey em (9997 + 2 + 1) 27 (keyV x)).run Try.prog w = .ok () w
  unfold keyV
  rw [Instr.checkKey]
  simp only [run_underlying Try.underlying27, Sem.run_bind, Result.andThen_ok]
  go_simp
  simp [check_leaf em 9998 23 .u64 .u64 Try.underlying23, check_leaf em 9998 3 .i64 .i64 Try.underlying3, check_view em 9997, Result.andThen]
theorem zero_bool (w : World) : (zeroValue 4).run Try.prog w = .ok (.bool false) w := by
  kernel_rfl
def SetL (W : World) (b : Nat) (ys : List S27) : Prop := ∃ es clock, W.heap[b]? = some (.map es clock) ∧ (∀ e ∈ es.toList, ∃ y ∈ ys, e.key = keyV y ∧ e.val = .bool true) ∧ ∀ y ∈ ys, ∃ e ∈ es.toList, e.key = keyV y
theorem keyV_inj {x y : S27} (h : keyV x = keyV y) : x = y := by
  simp only [keyV, Value.agg.injEq] at h
  simp only [List.toArray_inj, Array.mk.injEq, List.cons.injEq, Value.int.injEq, true_and, and_true] at h
  obtain ⟨h1, h2, h3, h4⟩ := h
  exact extL ⟨h1, h2, h3, h4⟩
theorem set_has {W : World} {b : Nat} {ys : List S27} (h : SetL W b ys) (x : S27) : (Instr.lookup 100 (.map (some b)) (keyV x) false).run Try.prog W = .ok (.bool (memL x ys)) W := by
  obtain ⟨es, clock, hb, h1, h2⟩ := h
  rcases find_key x W es.toList (fun e he => by obtain ⟨y, _, h3, _⟩ := h1 e he; exact ⟨y, h3⟩) with ⟨hr, hne⟩ | ⟨j, e, hr, hj, hk⟩
  · have hm : memL x ys = false := by
      cases hc : memL x ys with
      | false => rfl
      | true =>
        obtain ⟨y, hy, he⟩ := List.any_eq_true.1 hc
        obtain ⟨e, he2, he3⟩ := h2 y hy
        rw [eqL_iff.1 he] at he3
        exact absurd he3 (hne e he2)
    rw [hm]
    simp [Instr.lookup, run_underlying Try.underlying100, MapKept.run_getObj_map hb, check_key, hr, zero_bool, Result.andThen]
  · obtain ⟨y, hy, h3, h4⟩ := h1 e (List.mem_of_getElem? hj)
    have hm : memL x ys = true := List.any_eq_true.2 ⟨y, hy, eqL_iff.2 (keyV_inj (h3.symm.trans hk))⟩
    rw [hm]
    simp [Instr.lookup, run_underlying Try.underlying100, MapKept.run_getObj_map hb, check_key, hr, h4, Result.andThen]
theorem set_put {W : World} {b : Nat} {ys : List S27} (h : SetL W b ys) (x : S27) : ∃ W1, (Instr.mapUpdate 100 (.map (some b)) (keyV x) (.bool true)).run Try.prog W = .ok () W1 ∧ SetL W1 b (ys ++ [x]) ∧ W.grownBy W1 (some b) := by
  obtain ⟨es, clock, hb, h1, h2⟩ := h
  rcases find_key x W es.toList (fun e he => by obtain ⟨y, _, h3, _⟩ := h1 e he; exact ⟨y, h3⟩) with ⟨hr, hne⟩ | ⟨j, e, hr, hj, hk⟩
  · refine ⟨ChangeMaps.setBlock W b (.map (es.push { key := keyV x, val := .bool true, born := clock }) (clock + 1)), by simp [Instr.mapUpdate, run_underlying Try.underlying100, MapKept.run_getObj_map hb, check_key, hr, MapKept.run_setObj_map _ hb, Result.andThen, ChangeMaps.setBlock], ⟨_, _, ChangeMaps.heap_setBlock_same hb _, ?_, ?_⟩, ⟨rfl, rfl, rfl, by simp [ChangeMaps.setBlock], fun i _ hi => ChangeMaps.heap_setBlock_other hb _ (fun e => hi (by rw [e]))⟩⟩
    · intro e he
      simp only [Array.toList_push, List.mem_append, List.mem_singleton] at he
      rcases he with he | rfl
      · obtain ⟨y, hy, h3⟩ := h1 e he
        exact ⟨y, List.mem_append_left _ hy, h3⟩
      · exact ⟨x, by simp, rfl, rfl⟩
    · intro y hy
      simp only [Array.toList_push, List.mem_append, List.mem_singleton] at hy ⊢
      rcases hy with hy | rfl
      · obtain ⟨e, he, h3⟩ := h2 y hy
        exact ⟨e, .inl he, h3⟩
      · exact ⟨_, .inr rfl, rfl⟩
  · have hst : (Instr.keyThatStays (keyV x) (keyV x)).run Try.prog W = .ok (keyV x) W := by simp [Instr.keyThatStays, keyV, Instr.sameBits]
    have hj2 : es[j]? = some e := by simpa using hj
    refine ⟨ChangeMaps.setBlock W b (.map (es.modify j fun e => { e with key := keyV x, val := .bool true }) clock), by simp [Instr.mapUpdate, run_underlying Try.underlying100, MapKept.run_getObj_map hb, check_key, hr, hj2, hk, hst, MapKept.run_setObj_map _ hb, Result.andThen, ChangeMaps.setBlock], ⟨_, _, ChangeMaps.heap_setBlock_same hb _, ?_, ?_⟩, ⟨rfl, rfl, rfl, by simp [ChangeMaps.setBlock], fun i _ hi => ChangeMaps.heap_setBlock_other hb _ (fun e => hi (by rw [e]))⟩⟩
    · intro e' he
      obtain ⟨i, hi, rfl⟩ := List.getElem_of_mem he
      simp only [Array.length_toList, Array.size_modify] at hi
      have he1 : es[i] ∈ es.toList := by simp
      obtain ⟨y, hy, h3, h4⟩ := h1 es[i] he1
      simp only [Array.getElem_toList, Array.getElem_modify]
      split
      · exact ⟨x, by simp, rfl, rfl⟩
      · exact ⟨y, List.mem_append_left _ hy, h3, h4⟩
    · intro y hy
      have hy2 : y ∈ ys := by
        rcases List.mem_append.1 hy with hy | hy
        · exact hy
        · rw [List.mem_singleton] at hy
          subst hy
          obtain ⟨z, hz, h3, _⟩ := h1 e (List.mem_of_getElem? hj)
          rw [← keyV_inj (h3.symm.trans hk)]
          exact hz
      obtain ⟨e0, he0, h3⟩ := h2 y hy2
      obtain ⟨i, hi, rfl⟩ := List.getElem_of_mem he0
      have hi2 : i < es.size := by simpa using hi
      refine ⟨(es.modify j fun e => { e with key := keyV x, val := .bool true })[i]'(by simpa using hi2), by rw [← Array.getElem_toList]; exact List.getElem_mem _, ?_⟩
      rw [Array.getElem_modify]
      split
      · rename_i hij
        subst hij
        have : es[j] = e := by rw [Array.getElem?_eq_getElem hi2] at hj2; exact Option.some.inj hj2
        show keyV x = keyV y
        rw [← hk, ← h3, Array.getElem_toList, this]
      · simpa using h3
theorem SetL.kept {w w' : World} {b : Nat} {ys : List S27} {row : Option Nat} (h : SetL w b ys) (hg : w.grownBy w' row) (hne : some b ≠ row) : SetL w' b ys := by
  obtain ⟨es, clock, hb, h1, h2⟩ := h
  exact ⟨es, clock, (hg.block b (blk_lt hb) hne).trans hb, h1, h2⟩
theorem SetL.lt {w : World} {b : Nat} {ys : List S27} (h : SetL w b ys) : b < w.heap.size := by
  obtain ⟨es, clock, hb, _⟩ := h
  exact blk_lt hb
theorem SetL.below {w w' : World} {b : Nat} {ys : List S27} (h : SetL w b ys) (hb : Below w.heap.size w w') : SetL w' b ys := by
  have hlt := h.lt
  obtain ⟨es, clock, hh, h1, h2⟩ := h
  exact ⟨es, clock, (hb.block b hlt).trans hh, h1, h2⟩
theorem SetL.alloc {w : World} {b : Nat} {ys : List S27} (h : SetL w b ys) (o : Obj) : SetL (w.alloc o) b ys := h.below (below_alloc (Below.refl _ _) o)
theorem SetL.made (w : World) : SetL (w.alloc (.map #[] 0)) w.heap.size [] := ⟨#[], 0, heap_alloc_new w _, by simp, by simp⟩
section
variable {ops : Array Oper} {rest : List Oper} {o : Oper} {a : Act} {Q : Exit → Act → World → Prop}
theorem wpList_put {w : World} (hg : o.guard = none) (m x v : Operand) (hop : o.op = Op.mapUpdate 100 m x v) {b : Nat} {ys : List S27} (y : S27) (hm : a.eval m = .map (some b)) (hx : a.eval x = keyV y) (hv : a.eval v = .bool true) (h : SetL w b ys)
    (hK : ∀ w1, SetL w1 b (ys ++ [y]) → w.grownBy w1 (some b) → wpList Try.prog ops Q rest (a.put o.dst undef) w1) : wpList Try.prog ops Q (o :: rest) a w := by
  refine wpList_plain hg fun K' hK' => ?_
  obtain ⟨w', hrun, r1, r2⟩ := set_put h y
  unfold Oper.wp
  simp [execOp, hop, hm, hx, hv, hrun, Result.andThen]
  exact hK' _ _ (hK w' r1 r2)
theorem wpList_has {w : World} (hg : o.guard = none) (m x : Operand) (hop : o.op = Op.lookup 100 m x false) {b : Nat} {ys : List S27} (y : S27) (hm : a.eval m = .map (some b)) (hx : a.eval x = keyV y) (h : SetL w b ys)
    (hK : wpList Try.prog ops Q rest (a.put o.dst (.bool (memL y ys))) w) : wpList Try.prog ops Q (o :: rest) a w := by
  refine wpList_plain hg fun K' hK' => ?_
  have hrun := set_has h y
  unfold Oper.wp
  simp [execOp, hop, hm, hx, hrun, Result.andThen]
  exact hK' _ _ hK
end
end Go.Proofs.Ytioooiflpabngaa.PAll
end
section
namespace Go.Proofs.Ytioooiflpabngaa.PAll
open Go.RowKit Go.Sort Go.Proofs.YtioooiflpabngaaW.PrintWords Go.Proofs.YtioooiflpabngaaW.PrintLast Go.Proofs.YtioooiflpabngaaW.PrintMore
set_option linter.unusedVariables false
set_option linter.unusedSimpArgs false
set_option maxHeartbeats 4000000 in
set_option maxRecDepth 100000 in
theorem behind_walk (A0 : Option Addr) (c0 : Nat) (l0 : List S27) (A1 : Option Addr) (c1 : Nat) (l1 : List S27) (w : World) (hr0 : Kd.C k27 w A0 l0.length l0) (hc0 : l0.length ≤ c0) (hr1 : Kd.C k27 w A1 l1.length l1) (hc1 : l1.length ≤ c1) (hlen : l0.length + l1.length < 4398046511104) :
    Calls Try.prog 34 #[.slice A0 l0.length c0, .slice A1 l1.length c1] w fun e w' => ∃ v0_ : Value, e = .returned (v0_) ∧ Kd.R k27 27 w' w.heap.size (fun _ => True) v0_ (behindL l0 l1) ∧ Below w.heap.size w w' := by
  have H0 := Aside0.mk hr0
  have H1 := Aside0.mk hr1
  have C0 := Aside0.mk hc0
  have C1 := Aside0.mk hc1
  have HL := Aside0.mk hlen
  clear hr0 hr1 hc0 hc1 hlen
  have hmm := @run_makeMap Try.prog
  go_enter Try.func34, Try.ntmps34
  go_wp2
  go_loopw [14] (fun i wr => ∃ k : Nat, k ≤ l0.length ∧ i = .int .i64 k ∧ Aside0 (SetL wr w.heap.size (l0.take k)) ∧ Aside0 (Below w.heap.size w wr))
    (fun i _ => l0.length - (intOf i).toNat)
  case atStart => exact ⟨0, Nat.zero_le _, rfl, ⟨SetL.made w⟩, ⟨(Below.refl _ _).alloc (Nat.le_refl _) _⟩⟩
  case round =>
    obtain ⟨k, hk, rfl, HS, HB⟩ := hrel
    by_cases hlt : k < l0.length
    · obtain ⟨ad, e, hx0, hx1, hx2, hx3⟩ := at_T27 (Kd.C_below H0.out HB.out) (k : Int) (by omega) (by omega)
      subst e
      rw [Int.toNat_natCast] at hx0 hx1 hx2 hx3
      have HK := Aside0.mk hk
      clear hk
      have hlt' : (k : Int) < (l0.length : Int) := by omega
      have hz2 := HL.out
      go_wp2_with (at_mapUpdate; refine wpList_put rfl (.tmp 18) (.tmp 19) (.const (.bool true)) rfl (rd_T27 l0 (k : Int)) rfl rfl rfl (HS.out.alloc _) ?_; intro w1 hs1 hg1; have HS1 := Aside0.mk hs1; have HG1 := Aside0.mk hg1; clear hs1 hg1)
      refine ⟨⟨k + 1, by omega, by simp, ⟨by rw [take_snocL _ _ hlt]; exact HS1.out⟩, ⟨(HB.out.alloc HB.out.size _).grown HG1.out (Nat.le_trans HB.out.size (by simp)) (fun r e => by cases e; exact Nat.le_refl _)⟩⟩, by simp [intOf]; omega⟩
    · obtain rfl : k = l0.length := by omega
      have HS2 := Aside0.mk (show SetL wr w.heap.size l0 by have := HS.out; rwa [List.take_length] at this)
      clear HS hk
      go_wp2_with (first
        | (go_at_call 78; refine (slices_Clone_Label.calls A0 c0 l0 l0 _ (Kd.C_below H0.out HB.out) C0.out (by unfold slices_Clone_Label.f; rw [if_pos (by have := HL.out; omega)])).mono ?_; rintro e w2 ⟨v, rfl, hR, hb⟩; have HRO := Aside0.mk hR; have HB2 := Aside0.mk hb; clear hR hb)
        | (go_at_call 35; refine (label_Sort.calls A1 c1 l1 (sortL l1) _ (Kd.C_below H1.out (HB.out.trans (HB2.out.mono HB.out.size))) C1.out (by unfold label_Sort.f; rw [if_pos (by have := HL.out; omega)])).mono ?_; rintro e w3 ⟨v3, rfl, hR, hb⟩; obtain ⟨A3, c3, rfl⟩ := Kd.R_slice hR; have HRS := Aside0.mk hR; have HB3 := Aside0.mk hb; clear hR hb))
      have hv2 : ∀ r, v.ownBlock = some r → wr.heap.size ≤ r ∧ r < w2.heap.size := by
        obtain ⟨_, inn, ho, _⟩ := HRO.out
        intro r hr
        have := ho.lt r hr
        omega
      have hv3 : ∀ r, (Value.slice A3 (sortL l1).length c3).ownBlock = some r → w2.heap.size ≤ r ∧ r < w3.heap.size := by
        obtain ⟨_, inn, ho, _⟩ := HRS.out
        intro r hr
        have := ho.lt r hr
        omega
      have hbl := HS2.out.lt
      have hs2 := HB2.out.size
      have hs3 := HB3.out.size
      have hs1 := HB.out.size
      obtain ⟨Ao, co, rfl⟩ := Kd.R_slice HRO.out
      have hout : Kd.R k27 27 w3 w.heap.size (fun r => r ≠ w.heap.size ∧ some r ≠ (Value.slice A3 (sortL l1).length c3).ownBlock) (.slice Ao l0.length co) l0 :=
        Kd.R_lower (Kd.R_below (Kd.R_mono (Kd.R_tight rfl HRO.out) (fun r hr => ⟨by have := hv2 r hr.symm; omega, fun e => by have h1 := hv2 r hr.symm; have h2 := hv3 r e.symm; omega⟩)) HB3.out) hs1
      have hsrt : Kd.R k27 27 w3 w.heap.size (fun r => some r = (Value.slice A3 (sortL l1).length c3).ownBlock) (.slice A3 (sortL l1).length c3) (sortL l1) :=
        Kd.R_lower (Kd.R_tight rfl HRS.out) (Nat.le_trans hs1 hs2)
      have hset : SetL w3 w.heap.size l0 := (HS2.out.below HB2.out).below HB3.out
      have hbw : Below w.heap.size w w3 := (HB.out.trans (HB2.out.mono hs1)).trans (HB3.out.mono (Nat.le_trans hs1 hs2))
      have HLS := Aside0.mk (show l0.length + (sortL l1).length < 4398046511104 from by have := sortL_length l1; have := HL.out; omega)
      clear HS2 HB HRO HB2 HRS HB3 hv2 hv3 hs2 hs3 hs1
      go_loopw [8, 26] (fun s8 s26 wr => ∃ (k : Nat) (Ao : Option Addr) (co : Nat), k ≤ (sortL l1).length ∧ s26 = .int .i64 k ∧ s8 = .slice Ao (l0 ++ ((sortL l1).take k).filter fun x => !memL x l0).length co ∧ Aside0 (SetL wr w.heap.size l0) ∧
          Aside0 (Kd.R k27 27 wr w.heap.size (fun r => r ≠ w.heap.size ∧ some r ≠ (Value.slice A3 (sortL l1).length c3).ownBlock) (.slice Ao (l0 ++ ((sortL l1).take k).filter fun x => !memL x l0).length co) (l0 ++ ((sortL l1).take k).filter fun x => !memL x l0)) ∧
          Aside0 (Kd.R k27 27 wr w.heap.size (fun r => some r = (Value.slice A3 (sortL l1).length c3).ownBlock) (.slice A3 (sortL l1).length c3) (sortL l1)) ∧ Aside0 (Below w.heap.size w wr))
        (fun _ i _ => (sortL l1).length - (intOf i).toNat)
      case atStart => exact ⟨0, Ao, co, Nat.zero_le _, rfl, by simp, ⟨hset⟩, ⟨by simpa using hout⟩, ⟨hsrt⟩, ⟨hbw⟩⟩
      case round =>
        obtain ⟨k, Ao, co, hk, rfl, rfl, HS, HO, HV, HB⟩ := hrel
        by_cases hlt : k < (sortL l1).length
        · generalize houts : (l0 ++ ((sortL l1).take k).filter fun x => !memL x l0) = outs at HO ⊢
          have HOU := Aside0.mk houts
          clear houts
          obtain ⟨ad, e, hx0, hx1, hx2, hx3⟩ := at_T27 (Kd.R_reads' HV.out).2.2 (k : Int) (by omega) (by omega)
          subst e
          rw [Int.toNat_natCast] at hx0 hx1 hx2 hx3
          have HK := Aside0.mk (And.intro hk hlt)
          have HBL := Aside0.mk HS.out.lt
          have HVB := Aside0.mk (show ∀ r, (Value.slice (some ad) (sortL l1).length c3).ownBlock = some r → r < wr.heap.size from by
            obtain ⟨_, inn, ho, _⟩ := HV.out
            intro r hr
            exact (ho.lt r hr).2)
          have hlt' : (k : Int) < ((sortL l1).length : Int) := by omega
          have hz2 := HLS.out
          clear hk
          cases hm : memL (rd_T27 (sortL l1) (k : Int)) l0 with
          | true =>
            have HM := Aside0.mk hm
            clear hm
            go_wp2_with (at_lookup; refine wpList_has rfl (.tmp 30) (.tmp 31) rfl (rd_T27 (sortL l1) (k : Int)) rfl rfl (HS.out.alloc _) ?_; rw [HM.out])
            have e5 : l0 ++ ((sortL l1).take (k + 1)).filter (fun x => !memL x l0) = outs := by
              rw [← HOU.out, take_snocL _ _ hlt, List.filter_append]
              simp [HM.out]
            refine ⟨⟨k + 1, Ao, co, by omega, by simp, ?_, ⟨HS.out.alloc _⟩, ⟨?_⟩, ⟨Kd.R_alloc HV.out _⟩, ⟨HB.out.alloc HB.out.size _⟩⟩, by simp [intOf]; omega⟩
            · rw [e5]
            · rw [e5]; exact Kd.R_alloc HO.out _
          | false =>
            have HM := Aside0.mk hm
            clear hm
            go_wp2_with (first
              | (at_lookup; refine wpList_has rfl (.tmp 30) (.tmp 31) rfl (rd_T27 (sortL l1) (k : Int)) rfl rfl (HS.out.alloc _) ?_; rw [HM.out])
              | (at_builtin; refine Kd.R_append k27 (w0 := w) w.heap.size rfl (.tmp 34) (.tmp 36) 41 27 (.agg #[(.int .u64 0), (.int .i64 0), (.int .u64 0), (.int .i64 0)]) 32 rfl Try.underlying41 info27 rfl (by decide) (by omega) (.slice Ao outs.length co) outs (rd_T27 (sortL l1) (k : Int)) (encL (rd_T27 (sortL l1) (k : Int))) (fun r => r ≠ w.heap.size ∧ some r ≠ (Value.slice (some ad) (sortL l1).length c3).ownBlock) (fun _ => False) rfl ?aX ?aP (fun _ hk => hk.elim) ?aF ?aO ?aB ?aS ?aL ?_; (case aX => simp [Act.eval]); (case aP => exact M_L _ _ _ _); (case aO => exact Kd.R_alloc HO.out _); (case aB => exact HB.out.alloc HB.out.size _); (case aF => intro r hr; have h1 := HBL.out; rw [World.size_alloc] at hr; exact ⟨by omega, fun e => by have := HVB.out r e.symm; omega⟩); (case aS => have := HB.out.size; rw [World.size_alloc]; omega); (case aL => have h1 := List.length_filter_le (fun x => !memL x l0) ((sortL l1).take k); have h2 := HLS.out; rw [List.length_take] at h1; rw [← HOU.out, List.length_append]; have h3 := HK.out; omega); intro v1 w5 ho hb hg hat; have HO5 := Aside0.mk ho; have HB5 := Aside0.mk hb; have HG5 := Aside0.mk hg; clear ho hb hg hat))
            have hne : ∀ r, (Value.slice Ao outs.length co).ownBlock = some r → r ≠ w.heap.size ∧ some r ≠ (Value.slice (some ad) (sortL l1).length c3).ownBlock := HO.out.1
            have e5 : l0 ++ ((sortL l1).take (k + 1)).filter (fun x => !memL x l0) = outs ++ [rd_T27 (sortL l1) (k : Int)] := by
              rw [← HOU.out, take_snocL _ _ hlt, List.filter_append, List.append_assoc]
              congr 2
              simp [HM.out]
            obtain ⟨A5, c5, rfl⟩ := Kd.R_slice HO5.out
            refine ⟨⟨k + 1, A5, c5, by omega, by simp, ?_, ⟨(HS.out.alloc _).kept HG5.out (fun e => (hne _ e.symm).1 rfl)⟩, ⟨?_⟩, ⟨Kd.R_grown (Kd.R_alloc HV.out _) HG5.out (fun r hr e => (hne r e.symm).2 hr)⟩, ⟨HB5.out⟩⟩, by simp [intOf]; omega⟩
            · rw [e5]
            · rw [e5]; exact HO5.out
        · obtain rfl : k = (sortL l1).length := by omega
          have HO2 := Aside0.mk HO.out
          go_wp2
          go_ret
          refine ⟨_, rfl, ?_, HB.out⟩
          rw [show behindL l0 l1 = l0 ++ ((sortL l1).take (sortL l1).length).filter (fun x => !memL x l0) from by rw [List.take_length]; rfl]
          exact Kd.R_mono HO.out (fun _ _ => trivial)
theorem label_Behind.calls (A0 : Option Addr) (c0 : Nat) (l0 : List S27) (A1 : Option Addr) (c1 : Nat) (l1 : List S27) (r : List S27) (w : World) (hr0 : Kd.C k27 w A0 l0.length l0) (hc0 : l0.length ≤ c0) (hr1 : Kd.C k27 w A1 l1.length l1) (hc1 : l1.length ≤ c1) (h : label_Behind.f l0 l1 = some r) :
    Calls Try.prog 34 #[.slice A0 l0.length c0, .slice A1 l1.length c1] w fun e w' => ∃ v0_ : Value, e = .returned (v0_) ∧ Kd.R k27 27 w' w.heap.size (fun _ => True) v0_ r ∧ Below w.heap.size w w' := by
  obtain ⟨hl, rfl⟩ := of_if_some h
  exact behind_walk A0 c0 l0 A1 c1 l1 w hr0 hc0 hr1 hc1 hl
end Go.Proofs.Ytioooiflpabngaa.PAll
end
section
namespace Go.Proofs.Ytioooiflpabngaa.PAll
open Go.RowKit Go.Shelf Go.Proofs.YtioooiflpabngaaW.PrintWords Go.Proofs.YtioooiflpabngaaW.PrintLast Go.Proofs.YtioooiflpabngaaW.PrintMore
attribute [local go_sem] Oper.semAt_some
set_option linter.unusedVariables false
set_option linter.unusedSimpArgs false
abbrev PE := S27 × (Option Addr × Nat × Nat)
def encP (x : PE) : List Value := [.int .u64 x.1.f0.f0, .int .i64 x.1.f0.f1, .int .u64 x.1.f1, .int .i64 x.1.f2, .slice x.2.1 x.2.2.1 x.2.2.2]
def rdP (l : List PE) (k : Nat) : PE := l.getD k (z27, none, 0, 0)
def AtP (w : World) (A : Option Addr) (zs : List PE) : Prop := ∀ k, k < zs.length → ∃ ad, A = some ad ∧ w.cell? (ad.add (k * 5)) = some (.int .u64 (rdP zs k).1.f0.f0) ∧ w.cell? ⟨(ad.add (k * 5)).block, (ad.add (k * 5)).off + 1, none⟩ = some (.int .i64 (rdP zs k).1.f0.f1) ∧ w.cell? ⟨(ad.add (k * 5)).block, (ad.add (k * 5)).off + 2, none⟩ = some (.int .u64 (rdP zs k).1.f1) ∧ w.cell? ⟨(ad.add (k * 5)).block, (ad.add (k * 5)).off + 3, none⟩ = some (.int .i64 (rdP zs k).1.f2) ∧ w.cell? ⟨(ad.add (k * 5)).block, (ad.add (k * 5)).off + 4, none⟩ = some (.slice (rdP zs k).2.1 (rdP zs k).2.2.1 (rdP zs k).2.2.2)
theorem atP_below {w W : World} {A : Option Addr} {zs : List PE} (h : AtP w A zs) (hb : Below w.heap.size w W) : AtP W A zs := fun k hk => by
  obtain ⟨ad, e, h0, h1, h2, h3, h4⟩ := h k hk
  exact ⟨ad, e, pw_cell_below hb h0, pw_cell_below hb h1, pw_cell_below hb h2, pw_cell_below hb h3, pw_cell_below hb h4⟩
theorem atP_of {w : World} {A : Option Addr} {l : List S32} (h : Kd.C k32 w A l.length l) : ∃ zs : List PE, zs.length = l.length ∧ zs.map (·.1) = l.map (·.f0) ∧ AtP w A zs := by
  have hx : ∀ k, ∃ p : Option Addr × Nat × Nat, k < l.length → ∃ ad, A = some ad ∧ w.cell? (ad.add (k * 5)) = some (.int .u64 (rd_T32 l (k : Int)).f0.f0.f0) ∧ w.cell? ⟨(ad.add (k * 5)).block, (ad.add (k * 5)).off + 1, none⟩ = some (.int .i64 (rd_T32 l (k : Int)).f0.f0.f1) ∧ w.cell? ⟨(ad.add (k * 5)).block, (ad.add (k * 5)).off + 2, none⟩ = some (.int .u64 (rd_T32 l (k : Int)).f0.f1) ∧ w.cell? ⟨(ad.add (k * 5)).block, (ad.add (k * 5)).off + 3, none⟩ = some (.int .i64 (rd_T32 l (k : Int)).f0.f2) ∧ w.cell? ⟨(ad.add (k * 5)).block, (ad.add (k * 5)).off + 4, none⟩ = some (.slice p.1 p.2.1 p.2.2) := fun k => by
    by_cases hk : k < l.length
    · obtain ⟨ad, A4, c4, e, h0, h1, h2, h3, h4, _, _⟩ := at_T32 h (k : Int) (by omega) (by omega)
      rw [Int.toNat_natCast] at h0 h1 h2 h3 h4
      exact ⟨(A4, (rd_T32 l (k : Int)).f1.length, c4), fun _ => ⟨ad, e, h0, h1, h2, h3, h4⟩⟩
    · exact ⟨(none, 0, 0), fun h => absurd h hk⟩
  let f : Nat → Option Addr × Nat × Nat := fun k => Classical.choose (hx k)
  refine ⟨(List.range l.length).map fun (k : Nat) => ((rd_T32 l (k : Int)).f0, f k), by simp, ?_, fun k hk => ?_⟩
  · rw [List.map_map]
    refine List.ext_getElem (by simp) fun i h1 h2 => ?_
    have h3 : i < l.length := by simpa using h2
    simp [rd_T32, h3]
  · have hk2 : k < l.length := by simpa using hk
    have e : rdP ((List.range l.length).map fun (k : Nat) => ((rd_T32 l (k : Int)).f0, f k)) k = ((rd_T32 l (k : Int)).f0, f k) := by simp [rdP, hk2]
    rw [e]
    exact Classical.choose_spec (hx k) hk2
theorem take_snocP (l : List PE) (k : Nat) (h : k < l.length) : l.take (k + 1) = l.take k ++ [rdP l k] := by
  rw [List.take_succ_eq_append_getElem h]
  simp [rdP, h]
theorem valuesE (A : Option Addr) (n c : Nat) (w : World) :
    Calls Try.prog 76 #[.slice A n c] w fun e w' => e = .returned (.func (.func 113) #[] #[.pointer (some ⟨w.heap.size, 0, none⟩)]) ∧ w' = w.alloc (.cells #[.slice A n c] 22) := by
  go_enter Try.func76, Try.ntmps76
  go_wp2
  go_ret
  exact ⟨rfl, rfl⟩
set_option maxRecDepth 100000 in
set_option maxHeartbeats 4000000 in
theorem values1E_in (F : Fence) (n : Nat) (h7 : F.fn 113) (hro : F.round = none) (hn : 1 ≤ n) (l Bs : Nat) (A : Option Addr) (cap : Nat) (zs : List PE) (w0 : World) (hlen : zs.length < 4398046511104) (HC : AtP w0 A zs) (J Jx : List PE → World → Prop)
    (hY : ∀ pre x W, J pre W → pre.length < zs.length → YieldAt F (n - 1) Try.prog l #[.agg (encP x).toArray] W fun e W' =>
      (e = .returned (.bool true) ∧ J (pre ++ [x]) W' ∧ Below w0.heap.size W W') ∨ (e = .returned (.bool false) ∧ Jx (pre ++ [x]) W'))
    (hJa : ∀ s W o, J s W → J s (W.alloc o))
    (W : World) (hW : Below w0.heap.size w0 W) (hBs : W.cell? ⟨Bs, 0, none⟩ = some (.slice A zs.length cap)) (h0 : J [] W) :
    CallsIn F n Try.prog 113 #[.func (.yield l) #[] #[], .pointer (some ⟨Bs, 0, none⟩)] W fun e W' => (∃ v, e = .returned v) ∧
      ((∃ ys, ys = zs ∧ J ys W') ∨ (∃ pre, True ∧ Jx pre W')) := by
  have HL := Aside0.mk hlen
  clear hlen
  have HC := Aside0.mk HC
  refine callsIn_of_wp Try.func113 rfl h7 ?_ hro
  simp only [Try.ntmps113, List.size_toArray, List.length_cons, List.length_nil, Nat.reduceAdd, Nat.reduceSub, Array.replicate_succ, Array.replicate_zero, List.push_toArray, List.append_toArray, List.nil_append, List.cons_append]
  gi_wp2
  gi_loopw [7] (fun i wr => ∃ k : Nat, k ≤ zs.length ∧ i = .int .i64 k ∧ J (zs.take k) wr ∧ Aside0 (Below w0.heap.size w0 wr))
    (fun i _ => zs.length - (intOf i).toNat)
  case atStart => exact ⟨0, Nat.zero_le _, rfl, by simpa using h0, ⟨hW⟩⟩
  case round =>
    obtain ⟨k, hk, rfl, hJs, hnx⟩ := hrel
    by_cases hlt : k < zs.length
    · obtain ⟨ad, e, hx0, hx1, hx2, hx3, hx4⟩ := atP_below HC.out hnx.out k hlt
      subst e
      obtain ⟨fn, tmps, assign, body, hy, hR⟩ := hY _ (rdP zs k) (wr.alloc (.cells (encP (rdP zs k)).toArray 32)) (hJa _ _ _ hJs) (by rw [List.length_take]; omega)
      simp only [encP] at hy
      have HK := Aside0.mk hk
      clear hk
      have hlt' : (k : Int) < (zs.length : Int) := by omega
      have hz2 := HL.out
      gi_wp2
      refine hR.mono ?_
      rintro e W3 (⟨rfl, hJ3, hk3⟩ | ⟨rfl, hJx3⟩)
      · gi_wp2
        go_roundw
        case rel => exact ⟨k + 1, by omega, by simp, by rw [take_snocP _ _ hlt]; exact hJ3, ⟨(hnx.out.alloc hnx.out.size _).trans hk3⟩⟩
        case measure => simp [intOf]; omega
      · gi_wp2
        refine bodyPost_ret (results_none rfl _ _ _) rfl ?_
        exact ⟨⟨_, rfl⟩, .inr ⟨_, trivial, hJx3⟩⟩
    · obtain rfl : k = zs.length := by omega
      gi_wp2
      go_end0
      exact ⟨⟨_, rfl⟩, .inl ⟨_, rfl, by simpa using hJs⟩⟩
theorem values_stopsE (F : Fence) (n : Nat) (h7 : F.fn 113) (hro : F.round = none) (hn : 1 ≤ n) (Bs : Nat) (A : Option Addr) (cap : Nat) (zs : List PE) (w0 w : World) (h0w : Below w0.heap.size w0 w) (hlen : zs.length < 4398046511104) (HC : AtP w0 A zs) (hBs : w.cell? ⟨Bs, 0, none⟩ = some (.slice A zs.length cap)) :
    SeqStopsK F n Try.prog 113 #[.pointer (some ⟨Bs, 0, none⟩)] (fun x : PE => #[.agg (encP x).toArray]) (Below w0.heap.size) (fun ys => ys = zs) (fun _ => True) zs.length w := fun l J Jx W hW hJ _ hY h0 =>
  values1E_in F n h7 hro hn l Bs A cap zs w0 hlen HC J Jx hY (fun s W' o hs => hJ s W' _ none hs (World.grownBy_alloc W' o none) (fun r e => by cases e)) W (h0w.trans (hW.mono h0w.size)) ((hW.cell (p := ⟨Bs, 0, none⟩) (World.block_lt_of_cell? w _ hBs)).trans hBs) h0
def actLab (A : Option Addr) (n c Bs B B5 : Nat) (x : PE) : Act :=
  { tmps := #[.slice A n c, undef, .slice none 0 0, .pointer (some ⟨B, 0, none⟩), .pointer (some ⟨B5, 0, none⟩), .slice A n c, .func (.func 113) #[] #[.pointer (some ⟨Bs, 0, none⟩)], .agg (encP x).toArray, undef, undef, undef, undef, undef, undef], defers := [] }
def AxLab (A : Option Addr) (n c Bs B : Nat) (x : PE) (a : Act) (W : World) : Prop := ∃ B5, W.heap[B5]? = some (.cells (encP x).toArray 32 (0, 0)) ∧ a = actLab A n c Bs B B5 x
theorem AxLab_own (B' : Nat) (A : Option Addr) (n c Bs B : Nat) (x : PE) (a : Act) : OwnFrom B' (fun (_ : Unit) W => AxLab A n c Bs B x a W) := by
  rintro _ W W' row ⟨B5, hb, he⟩ hg hr
  refine ⟨B5, (hg.block B5 (blk_lt hb) (fun e => ?_)).trans hb, he⟩
  obtain ⟨_, o, ho, hc⟩ := hr B5 e.symm
  rw [hb] at ho
  cases ho
  cases hc
def ILab (w0 : World) (B : Nat) (pre : List PE) (W : World) : Prop := IApp w0 B (pre.map (·.1)) W
theorem ILab_own (w0 : World) (B B' : Nat) (hB : B < B') (h0 : w0.heap.size ≤ B') : OwnFrom B' (ILab w0 B) := fun s W W' row h hg hr => IApp_own w0 B B' hB h0 _ W W' row h hg hr
set_option maxRecDepth 100000 in
set_option maxHeartbeats 4000000 in
theorem labelsP (A : Option Addr) (c : Nat) (zs : List PE) (w : World) (hlen : zs.length < 4398046511104) (HC : AtP w A zs) :
    Calls Try.prog 31 #[.slice A zs.length c] w fun e w' => ∃ v, e = .returned v ∧ Kd.R k27 27 w' w.heap.size (fun _ => True) v (zs.map (·.1)) ∧ Below w.heap.size w w' := by
  refine (callsIn_wide (n := 6)).1 ?_
  refine callsIn_of_wp_marks Try.func31 rfl trivial ?_ rfl
  simp only [Try.ntmps31, List.size_toArray, List.length_cons, List.length_nil, Nat.reduceAdd, Nat.reduceSub, Array.replicate_succ, Array.replicate_zero, List.push_toArray, List.append_toArray, List.nil_append, List.cons_append]
  have HAT := Aside0.mk HC
  clear HC
  have HL := Aside0.mk hlen
  clear hlen
  gi_wp2_with ((refine ⟨trivial, ?_⟩); gi_at_call 76; refine (callsIn_wide.2 (valuesE _ _ _ _)).mono ?_; rintro e w' ⟨rfl, rfl⟩)
  have HS := Aside0.mk (values_stopsE Fence.wide 5 trivial rfl (by decide) (w.heap.size + 1) A c zs w ((w.alloc (.cells #[.slice none 0 0] 41)).alloc (.cells #[.slice A zs.length c] 22)) (by repeat (first | exact Below.refl _ _ | apply below_alloc)) HL.out HAT.out (by simp))
  refine wpIn_rangeFunc_ownH rfl (by decide) (gf := 113) (lb := #[.pointer (some ⟨w.heap.size + 1, 0, none⟩)]) rfl trivial (enters_of Try.func113 (by kernel_rfl) rfl) HS.out (fun h k => h.trans k) (belowK_b (by simp only [World.size_alloc]; omega)) (Below.refl _ _) (fun _ => rfl) (ILab w w.heap.size) (fun _ _ _ => False) ?hI (fun _ _ _ _ _ hs _ _ => hs) ?h0 (AxLab A zs.length c (w.heap.size + 1) w.heap.size) ?hAx ?assign ?body ?done ?stop
  case hI => exact ILab_own w _ _ (by simp only [World.size_alloc]; omega) (by simp only [World.size_alloc]; omega)
  case h0 => exact ⟨.slice none 0 0, by simpa [Boxed] using blk_alloc (blk_new w (.cells #[.slice none 0 0] 41)) _, Kd.R_nil _ _ _ _ _, by repeat (first | exact Below.refl _ _ | apply below_alloc)⟩
  case hAx => exact fun x a' => AxLab_own _ _ _ _ _ _ x a'
  case stop => exact fun _ _ _ _ _ _ h => h.elim
  case assign =>
    intro l pre x W K hI hK
    simp only [List.zip_toArray, List.zip_cons_cons, List.zip_nil_right, List.foldl_toArray', List.foldl_cons, List.foldl_nil, List.setIfInBounds_toArray, List.set_cons_succ, List.set_cons_zero, encP]
    have HI := Aside0.mk hI
    clear hI
    have HK := Aside0.mk (fun (h : ILab w w.heap.size pre (W.alloc (.cells (encP x).toArray 32))) => hK (actLab A zs.length c (w.heap.size + 1) w.heap.size W.heap.size x) (W.alloc (.cells (encP x).toArray 32)) ((KeepsOthers.alloc W _).from _) ((Below.refl _ _).alloc HI.out.choose_spec.2.2.size _) h ⟨W.heap.size, heap_alloc_new W _, rfl⟩)
    clear hK
    gi_wp2
    exact HK.out (ILab_own w _ _ (Nat.lt_succ_self _) (by omega) _ _ _ none HI.out (World.grownBy_alloc W _ none) (fun r e => by cases e))
  case body =>
    rintro l pre x a' W hl - ⟨v, hbx, hR, hbel⟩ ⟨B5, hB5, rfl⟩ hlen
    have hlt := hbx.lt
    have hne : some w.heap.size ≠ v.ownBlock := fun e => hR.1 _ e.symm rfl
    have hc2 := hbx.cell
    have hx0 : W.cell? ⟨B5, 0, none⟩ = some (.int .u64 x.1.f0.f0) := (blk_cell hB5 0).trans rfl
    have hx1 : W.cell? ⟨B5, 1, none⟩ = some (.int .i64 x.1.f0.f1) := (blk_cell hB5 1).trans rfl
    have hx2 : W.cell? ⟨B5, 2, none⟩ = some (.int .u64 x.1.f1) := (blk_cell hB5 2).trans rfl
    have hx3 : W.cell? ⟨B5, 3, none⟩ = some (.int .i64 x.1.f2) := (blk_cell hB5 3).trans rfl
    have HBX := Aside0.mk hbx
    have HR := Aside0.mk hR
    have HBL := Aside0.mk hbel
    have HN := Aside0.mk hlen
    have HLT := Aside0.mk hlt
    have HNE := Aside0.mk hne
    clear hbx hR hbel hne hB5 hlt hlen hl
    simp only [actLab, encP]
    gi_wp2_with (gi_at_builtin; refine RIn_append k27 (w0 := w) (W := W) w.heap.size rfl (.tmp 8) (.tmp 11) 41 27 (.agg #[(.int .u64 0), (.int .i64 0), (.int .u64 0), (.int .i64 0)]) 32 rfl Try.underlying41 info27 rfl (by decide) (by decide) v (pre.map (·.1)) x.1 (encL x.1) (fun k => k ≠ w.heap.size) (fun _ => False) rfl rfl (M_L _ _ _ x.1) (fun _ h => h.elim) ?hfr HR.out HBL.out HBL.out.size ?hln ?_; (case hfr => intro k hk; have := HLT.out; omega); (case hln => have := HL.out; have := HN.out; rw [List.length_map]; omega); intro v1 w1 hR1 hB1 hg1; obtain ⟨A1, k1, e1⟩ := Kd.R_slice hR1; subst e1; have hbx1 := HBX.out.kept hg1 HNE.out; have hc1 := hbx1.cell; have hf1 := hbx1.frozen; have F1 := Aside0.mk (keeps_append (B0 := w.heap.size + 1 + 1) (B := w.heap.size) (v1 := .slice A1 (pre.map (·.1) ++ [x.1]).length k1) HR.out hg1 (by omega)); have F2 := Aside0.mk (show Below w.heap.size W (w1.setCell ⟨w.heap.size, 0, none⟩ (.slice A1 (pre.map (·.1) ++ [x.1]).length k1)) from ((Below.refl _ _).grown hg1 HBL.out.size (Kd.R_base HR.out)).setCell (Nat.le_refl _) _); have F3 := Aside0.mk (show IApp w w.heap.size (pre.map (·.1) ++ [x.1]) (w1.setCell ⟨w.heap.size, 0, none⟩ (.slice A1 (pre.map (·.1) ++ [x.1]).length k1)) from ⟨.slice A1 (pre.map (·.1) ++ [x.1]).length k1, by simpa [Boxed] using blk_set hbx1 0 (.slice A1 (pre.map (·.1) ++ [x.1]).length k1), Kd.R_far hR1 (fun k hk => hk) _, below_set hB1 (Nat.le_refl _)⟩); clear hbx1 hR1 hB1 hg1)
    exact ⟨by simpa using F1.out, by simpa using F2.out, by simpa [ILab] using F3.out⟩
  case done =>
    rintro D xs W hD rfl ⟨v, hbx, hR, hbel⟩ hK
    have hc := hbx.cell
    have F1 := Aside0.mk hR
    have F2 := Aside0.mk hbel
    have F3 := Aside0.mk hD
    clear hbx hR hbel hD
    obtain ⟨A1, k1, e1⟩ := Kd.R_slice F1.out
    subst e1
    gi_wp2
    refine ⟨by simp, .inl ⟨_, _, rfl, run_takeDeferred hK, ?_⟩⟩
    have F4 := F1.out
    rw [List.length_map] at F4
    exact ⟨.slice A1 xs.length k1, by simp [results, go_sem, Try.results31], _, rfl, Kd.R_mono (R_others (B := D) F4 (grownBy_putObj' W D _) (fun r e => by cases e; exact ⟨Nat.le_refl _, _, hK, rfl⟩)) (fun _ _ => trivial), F2.out.grown (grownBy_putObj' W D _) F2.out.size (fun k e => by cases e; have := F3.out; simp only [World.size_alloc] at this; omega)⟩
theorem content_Labels.calls (A0 : Option Addr) (c0 : Nat) (l0 : List S32) (r : List S27) (w : World) (hr0 : Kd.C k32 w A0 l0.length l0) (hc0 : l0.length ≤ c0) (h : content_Labels.f l0 = some r) :
    Calls Try.prog 31 #[.slice A0 l0.length c0] w fun e w' => ∃ v0_ : Value, e = .returned (v0_) ∧ Kd.R k27 27 w' w.heap.size (fun _ => True) v0_ r ∧ Below w.heap.size w w' := by
  obtain ⟨hl, rfl⟩ := of_if_some h
  obtain ⟨zs, h1, h2, h3⟩ := atP_of hr0
  have := labelsP A0 c0 zs w (by omega) h3
  rw [h1, h2] at this
  exact this
end Go.Proofs.Ytioooiflpabngaa.PAll
end
section
namespace Go.Proofs.Ytioooiflpabngaa.PAll
open Go.RowKit Go.Proofs.YtioooiflpabngaaW.PrintWords Go.Proofs.YtioooiflpabngaaW.PrintLast Go.Proofs.YtioooiflpabngaaW.PrintMore
attribute [local go_sem] max2_int min2_int max_two min_two max_three min_three max_four min_four   -- for this text's walks alone
set_option linter.unusedVariables false
set_option linter.unusedSimpArgs false
def exchange_Full.f (k : Nat) (l0 : List (S87)) : Option ((List (S27))) := (exchange_Short.f k l0).bind fun t809 => ((exchange_Known.f k l0).bind fun t812 => ((content_Labels.f t812).bind fun t815 => ((label_Behind.f t809 t815).bind fun t818 => (some t818))))
set_option maxHeartbeats 8000000 in
set_option maxRecDepth 100000 in
theorem exchange_Full.calls (k : Nat) (A0 : Option Addr) (c0 : Nat) (l0 : List (S87)) (r : List (S27)) (w : World) (hr0 : Kd.C k87 w A0 l0.length l0) (hc0 : l0.length ≤ c0) (h : exchange_Full.f k l0 = some r) :
  Calls Try.prog 66 #[.slice A0 l0.length c0] w fun e w' => ∃ v0_ : Value, e = .returned (v0_) ∧ Kd.R k27 27 w' w.heap.size (fun _ => True) v0_ r ∧ Below w.heap.size w w' := by
 have HR0 := Aside0.mk hr0
 have HC0 := Aside0.mk hc0
 clear hr0 hc0
 have HB := Aside0.mk (Below.refl w.heap.size w)
 have H : ((exchange_Short.f k l0).bind fun t809 => ((exchange_Known.f k l0).bind fun t812 => ((content_Labels.f t812).bind fun t815 => ((label_Behind.f t809 t815).bind fun t818 => (some t818))))) = some r := h
 clear h
 replace H := Option.bind_eq_some_iff.mp H
 obtain ⟨t809, A20, H⟩ := H
 replace H : ((exchange_Known.f k l0).bind fun t812 => ((content_Labels.f t812).bind fun t815 => ((label_Behind.f t809 t815).bind fun t818 => (some t818)))) = some r := H
 have A2 := Aside0.mk A20
 clear A20
 replace H := Option.bind_eq_some_iff.mp H
 obtain ⟨t812, A30, H⟩ := H
 replace H : ((content_Labels.f t812).bind fun t815 => ((label_Behind.f t809 t815).bind fun t818 => (some t818))) = some r := H
 have A3 := Aside0.mk A30
 clear A30
 replace H := Option.bind_eq_some_iff.mp H
 obtain ⟨t815, A40, H⟩ := H
 replace H : ((label_Behind.f t809 t815).bind fun t818 => (some t818)) = some r := H
 have A4 := Aside0.mk A40
 clear A40
 replace H := Option.bind_eq_some_iff.mp H
 obtain ⟨t818, A50, H⟩ := H
 replace H : (some t818) = some r := H
 have A5 := Aside0.mk A50
 clear A50
 obtain rfl := Option.some.inj H
 go_enter Try.func66, Try.ntmps66
 go_wp2_with (first | ((with_reducible refine gate_callee (f := 62) rfl ?_); refine goesL_ (some 4) rfl rfl Try.func62 (by kernel_rfl) rfl #[.slice A0 l0.length c0] rfl za_ ?_; (with_reducible refine (exchange_Short.calls k _ _ l0 t809 _ ?side1 ?side2 A2.out).mono ?_); (case side1 => repeat (first | exact HR0.out | (with_reducible refine Kd.C_alloc ?_ _) | (with_reducible refine Kd.C_drewN ?_ _) | (with_reducible refine Kd.C_drew ?_))); (case side2 => exact HC0.out); rintro e w6 ⟨v810, rfl, ho0, hb⟩; refine ⟨_, rfl, ?_⟩; have n0_ := Aside0.mk (Kd.R_lower ho0 (below_size zb_)); have n1_ := Aside0.mk (below_step zb_ hb); clear HB; have HO811 := n0_; have HB := n1_; clear n0_ n1_; (try clear hb); (try clear hb2); (try clear hk); (try clear hi); (try clear ho0)) | ((with_reducible refine gate_callee (f := 64) rfl ?_); refine goesL_ (some 6) rfl rfl Try.func64 (by kernel_rfl) rfl #[.slice A0 l0.length c0] rfl za_ ?_; (with_reducible refine (exchange_Known.calls k _ _ l0 t812 _ ?side1 ?side2 A3.out).mono ?_); (case side1 => exact zc_ HR0 HB); (case side2 => exact HC0.out); rintro e w7 ⟨v813, rfl, ho0, hb⟩; refine ⟨_, rfl, ?_⟩; have n0_ := Aside0.mk (Kd.R_below (zr_ HO811) hb); have n1_ := Aside0.mk (Kd.V_lower (Kd.V_mono (ok' := fun k_ => some k_ ≠ (v810 : Value).ownBlock) ho0 (fun k_ hk_ => (Kd.fresh' (Kd.R_lt (zr_ HO811)) k_ hk_))) (below_size zb_)); have n2_ := Aside0.mk (below_step zb_ hb); clear HO811; clear HB; have HO811 := n0_; have HO814 := n1_; have HB := n2_; clear n0_ n1_ n2_; (try clear hb); (try clear hb2); (try clear hk); (try clear hi); (try clear ho0); obtain ⟨Ao8, co8, eo8⟩ := Kd.V_slice HO814.out; subst eo8) | ((with_reducible refine gate_callee (f := 31) rfl ?_); refine goesL_ (some 7) rfl rfl Try.func31 (by kernel_rfl) rfl #[.slice Ao8 t812.length co8] rfl za_ ?_; (with_reducible refine (content_Labels.calls _ _ t812 t815 _ ?side1 ?side2 A4.out).mono ?_); (case side1 => exact zd_ (Kd.V_reads' HO814.out).2.2); (case side2 => exact (Kd.V_reads' HO814.out).2.1); rintro e w9 ⟨v816, rfl, ho0, hb⟩; refine ⟨_, rfl, ?_⟩; have n0_ := Aside0.mk (Kd.R_elder' (zr_ HO811) (Kd.R_base ho0) hb); have n1_ := Aside0.mk (Kd.V_elder' (zv_ HO814) (Kd.R_base ho0) hb); have n2_ := Aside0.mk (Kd.R_lower (Kd.R_new' ho0 (Kd.R_lt (zr_ HO811))) (below_size zb_)); have n3_ := Aside0.mk (below_step zb_ hb); clear HO811; clear HO814; clear HB; have HO811 := n0_; have HO814 := n1_; have HO817 := n2_; have HB := n3_; clear n0_ n1_ n2_ n3_; (try clear hb); (try clear hb2); (try clear hk); (try clear hi); (try clear ho0); obtain ⟨Ao10, co10, eo10⟩ := Kd.R_slice HO811.out; subst eo10; obtain ⟨Ao11, co11, eo11⟩ := Kd.R_slice HO817.out; subst eo11) | ((with_reducible refine gate_callee (f := 34) rfl ?_); refine goesL_ (some 8) rfl rfl Try.func34 (by kernel_rfl) rfl #[.slice Ao10 t809.length co10, .slice Ao11 t815.length co11] rfl za_ ?_; (with_reducible refine (label_Behind.calls _ _ t809 _ _ t815 t818 _ ?side1 ?side2 ?side3 ?side4 A5.out).mono ?_); (case side1 => exact zd_ (Kd.R_reads' HO811.out).2.2); (case side2 => exact (Kd.R_reads' HO811.out).2.1); (case side3 => exact zd_ (Kd.R_reads' HO817.out).2.2); (case side4 => exact (Kd.R_reads' HO817.out).2.1); rintro e w12 ⟨v819, rfl, ho0, hb⟩; refine ⟨_, rfl, ?_⟩; have n0_ := Aside0.mk (Kd.R_elder' (zr_ HO811) (Kd.R_base ho0) hb); have n1_ := Aside0.mk (Kd.V_elder' (zv_ HO814) (Kd.R_base ho0) hb); have n2_ := Aside0.mk (Kd.R_elder' (zr_ HO817) (Kd.R_base ho0) hb); have n3_ := Aside0.mk (Kd.R_lower (Kd.R_new' (Kd.R_new' ho0 (Kd.R_lt (zr_ HO811))) (Kd.R_lt (zr_ HO817))) (below_size zb_)); have n4_ := Aside0.mk (below_step zb_ hb); clear HO811; clear HO814; clear HO817; clear HB; have HO811 := n0_; have HO814 := n1_; have HO817 := n2_; have HO820 := n3_; have HB := n4_; clear n0_ n1_ n2_ n3_ n4_; (try clear hb); (try clear hb2); (try clear hk); (try clear hi); (try clear ho0)))
 go_ret
 exact ⟨_, by first | rfl | (simp [errW_none, errW_some] <;> rfl) | (simp [*, errW_none, errW_some] <;> rfl), by (with_reducible repeat (first | apply Kd.R_alloc | apply Kd.R_drewN | apply Kd.R_drew)); exact Kd.R_mono HO820.out (fun _ hk => trivial), by repeat (first | (with_reducible first | exact HB.out | apply below_alloc | apply pw_below_drewN | apply below_drew1) | exact HB.out)⟩
end Go.Proofs.Ytioooiflpabngaa.PAll
end
section
namespace Go.Proofs.Ytioooiflpabngaa.PAll
open Go.RowKit Go.Proofs.YtioooiflpabngaaW.PrintWords Go.Proofs.YtioooiflpabngaaW.PrintMore
set_option linter.unusedVariables false
set_option linter.unusedSimpArgs false
def shortT (l : List S87) : List S27 := match l.find? (fun t => decide (t.f0 = chosenT l)) with | some t => t.f1.f1 | none => []
theorem short_loop (l : List S87) (hl : l.length < 9223372036854775807) (ho : ∀ t ∈ l, t.f1.f1.length < 4398046511104) : ∀ (d i : Nat), d = l.length - i → i ≤ l.length →
    Ev (fun k => exchange_Short.l0 k l l (l.length : Int) (i : Int)) (match (l.drop i).find? (fun t => decide (t.f0 = chosenT l)) with | some t => t.f1.f1 | none => []) := by
  intro d
  induction d with
  | zero =>
    intro i hd hi
    have : i = l.length := by omega
    subst this
    rw [List.drop_length]
    exact Ev.step (fun k => by rw [exchange_Short.l0, if_neg (by omega)]; rfl) (Ev.const fun _ => rfl)
  | succ d ih =>
    intro i hd hi
    have hlt : i < l.length := by omega
    rw [List.drop_eq_getElem_cons hlt, List.find?_cons]
    refine Ev.step (b := fun k => (exchange_Chosen.f k l).bind fun t => if l[i].f0 = t then ((slices_Clone_Label.f l[i].f1.f1).bind fun x => some x) else exchange_Short.l0 k l l (l.length : Int) ((i + 1 : Nat) : Int)) (fun k => ?_) (Ev.bind (chosen_ev l hl) ?_)
    · rw [exchange_Short.l0, if_pos (by omega), if_pos (by omega), if_pos (by omega), rdT_nat hlt, wrap_nat (by omega)]
    · by_cases hc : l[i].f0 = chosenT l
      · simp only [hc, if_true, decide_true]
        refine Ev.const fun _ => ?_
        unfold slices_Clone_Label.f
        rw [if_pos (ho _ (List.getElem_mem _))]
        rfl
      · simp only [hc, if_false, decide_false]
        exact ih (i + 1) (by omega) (by omega)
theorem short_ev (l : List S87) (hl : l.length < 9223372036854775807) (ho : ∀ t ∈ l, t.f1.f1.length < 4398046511104) : Ev (fun k => exchange_Short.f k l) (shortT l) := by
  have := short_loop l hl ho l.length 0 (by omega) (by omega)
  simpa [exchange_Short.f, shortT] using this
theorem shortT_length (l : List S87) (b : Nat) (ho : ∀ t ∈ l, t.f1.f1.length ≤ b) : (shortT l).length ≤ b := by
  unfold shortT
  split
  · rename_i t h
    exact ho t (List.mem_of_find?_eq_some h)
  · exact Nat.zero_le _
def knownC (l : List (List S32)) : List S32 := l.foldl mergeR []
def sizeC (l : List (List S32)) : Nat := (l.map List.length).sum
theorem knownF_length : ∀ (l : List (List S32)) (acc : List S32), (l.foldl mergeR acc).length ≤ acc.length + sizeC l
  | [], acc => by simp [sizeC]
  | x :: l, acc => by
    have h1 := knownF_length l (mergeR acc x)
    have h2 := mergeR_length x acc
    simp only [sizeC, List.map_cons, List.sum_cons, List.foldl_cons] at h1 ⊢
    omega
theorem known_loop (l : List S87) (hl : l.length < 9223372036854775807) (hb : ∀ t ∈ l, ∀ x ∈ t.f1.f0, x.f1.length < 140737488355328) : ∀ (d i : Nat) (acc : List S32), d = l.length - i → i ≤ l.length → Rise acc → acc.length + sizeC ((l.drop i).map fun t => t.f1.f0) < 2513169434916 →
    Ev (fun k => exchange_Known.l0 k acc l (l.length : Int) (i : Int)) (((l.drop i).map fun t => t.f1.f0).foldl mergeR acc) := by
  intro d
  induction d with
  | zero =>
    intro i acc hd hi hr hs
    have : i = l.length := by omega
    subst this
    rw [List.drop_length]
    exact Ev.step (fun k => by rw [exchange_Known.l0, if_neg (by omega)]; rfl) (Ev.const fun _ => rfl)
  | succ d ih =>
    intro i acc hd hi hr hs
    have hlt : i < l.length := by omega
    rw [List.drop_eq_getElem_cons hlt] at hs ⊢
    simp only [sizeC, List.map_cons, List.sum_cons] at hs
    rw [List.map_cons, List.foldl_cons]
    have h2 := mergeR_length l[i].f1.f0 acc
    refine Ev.step (b := fun k => (content_Merge.f k acc l[i].f1.f0).bind fun t => exchange_Known.l0 k t l (l.length : Int) ((i + 1 : Nat) : Int)) (fun k => ?_) (Ev.bind (merge_ev acc l[i].f1.f0 hr (by omega) (hb _ (List.getElem_mem _))) (ih (i + 1) (mergeR acc l[i].f1.f0) (by omega) (by omega) (mergeR_rise hr) (by simp only [sizeC]; omega)))
    rw [exchange_Known.l0, if_pos (by omega), if_pos (by omega), if_pos (by omega), rdT_nat hlt, wrap_nat (by omega)]
theorem known_ev (l : List S87) (hl : l.length < 9223372036854775807) (hb : ∀ t ∈ l, ∀ x ∈ t.f1.f0, x.f1.length < 140737488355328) (hs : sizeC (l.map fun t => t.f1.f0) < 2513169434916) : Ev (fun k => exchange_Known.f k l) (knownC (l.map fun t => t.f1.f0)) := by
  have := known_loop l hl hb l.length 0 [] (by omega) (by omega) rise_nil (by simpa using hs)
  simpa [exchange_Known.f, knownC] using this
theorem knownC_length (l : List (List S32)) : (knownC l).length ≤ sizeC l := by
  have := knownF_length l []
  simpa [knownC] using this
def fullT (l : List S87) : List S27 := behindL (shortT l) ((knownC (l.map fun t => t.f1.f0)).map (·.f0))
theorem full_ev (l : List S87) (hl : l.length < 9223372036854775807) (ho : ∀ t ∈ l, t.f1.f1.length ≤ 1000000) (hb : ∀ t ∈ l, ∀ x ∈ t.f1.f0, x.f1.length < 140737488355328) (hs : sizeC (l.map fun t => t.f1.f0) ≤ 1000000) : Ev (fun k => exchange_Full.f k l) (fullT l) := by
  unfold exchange_Full.f
  have h1 := knownC_length (l.map fun t => t.f1.f0)
  have h2 := shortT_length l 1000000 ho
  refine Ev.bind (short_ev l hl (fun t ht => by have := ho t ht; omega)) (Ev.bind (known_ev l hl hb (by omega)) ?_)
  rw [labels_eq (by omega)]
  simp only [Option.bind_some]
  rw [behind_eq (by rw [List.length_map]; omega)]
  exact Ev.const fun _ => rfl
end Go.Proofs.Ytioooiflpabngaa.PAll
end
section
namespace Go.Proofs.Ytioooiflpabngaa.PAll
open Go.RowKit Go.Proofs.YtioooiflpabngaaW.PrintWords Go.Proofs.YtioooiflpabngaaW.PrintLast Go.Proofs.YtioooiflpabngaaW.PrintMore
attribute [local go_sem] max2_int min2_int max_two min_two max_three min_three max_four min_four   -- for this text's walks alone
set_option linter.unusedVariables false
set_option linter.unusedSimpArgs false
def folkmootlaw16_told.l0 : Nat → List (S53) → Int → List (S87) → List Int → List (S53) → Int → Option ((List (S87)) × List Int × (List (S53)))
 | 0, _, _, _, _, _, _ => none
 | k + 1, x0, x1, x7, x8, x9, x10 => if x10 < (x0.length : Int) then (if (x0.length : Int) = 0 then (none) else (if 0 ≤ (Int.tmod (wrap64 (x10 + (wrap64 (x1)))) (x0.length : Int)) then (if (Int.tmod (wrap64 (x10 + (wrap64 (x1)))) (x0.length : Int)) < (x0.length : Int) then ((folkmootref15_Merge.f k ([] : List (S32)) ((rd_T53 x0 (Int.tmod (wrap64 (x10 + (wrap64 (x1)))) (x0.length : Int))).f0)).bind fun t775 => (if x7.length < 1759218604441 then (if x8.length < 17592186044416 then (if x9.length < 1954687338268 then (folkmootlaw16_told.l0 k x0 x1 (x7 ++ [(⟨Int.tmod (wrap64 (x10 + (wrap64 (x1)))) (x0.length : Int), (⟨t775, (rd_T53 x0 (Int.tmod (wrap64 (x10 + (wrap64 (x1)))) (x0.length : Int))).f1, (rd_T53 x0 (Int.tmod (wrap64 (x10 + (wrap64 (x1)))) (x0.length : Int))).f2, (⟨(rd_T53 x0 (Int.tmod (wrap64 (x10 + (wrap64 (x1)))) (x0.length : Int))).f3.f0, (rd_T53 x0 (Int.tmod (wrap64 (x10 + (wrap64 (x1)))) (x0.length : Int))).f3.f1⟩ : S25)⟩ : S53)⟩ : S87)]) (x8 ++ [Int.tmod (wrap64 (x10 + (wrap64 (x1)))) (x0.length : Int)]) (x9 ++ [(⟨t775, (rd_T53 x0 (Int.tmod (wrap64 (x10 + (wrap64 (x1)))) (x0.length : Int))).f1, (rd_T53 x0 (Int.tmod (wrap64 (x10 + (wrap64 (x1)))) (x0.length : Int))).f2, (⟨(rd_T53 x0 (Int.tmod (wrap64 (x10 + (wrap64 (x1)))) (x0.length : Int))).f3.f0, (rd_T53 x0 (Int.tmod (wrap64 (x10 + (wrap64 (x1)))) (x0.length : Int))).f3.f1⟩ : S25)⟩ : S53)]) (wrap64 (x10 + 1))) else (none)) else (none)) else (none))) else (none)) else (none))) else (some (x7, x8, x9))
def folkmootlaw16_told.f (k : Nat) (l0 : List (S53)) (a1 : Int) : Option ((List (S87)) × List Int × (List (S53))) := folkmootlaw16_told.l0 k l0 a1 ([] : List (S87)) ([] : List Int) ([] : List (S53)) 0
set_option maxHeartbeats 8000000 in
set_option maxRecDepth 100000 in
theorem folkmootlaw16_told.calls (k : Nat) (P0_ : Nat → Prop) (A0 : Option Addr) (c0 : Nat) (l0 : List (S53)) (a1 : Int) (r1 : List (S87)) (r2 : List Int) (r3 : List (S53)) (w : World) (hs0 : Kd.V k53 53 w w.heap.size (fun k_ => P0_ k_) (.slice A0 l0.length c0) l0) (h : folkmootlaw16_told.f k l0 a1 = some (r1, r2, r3)) :
  Calls Try.prog 57 #[.slice A0 l0.length c0, .int .u8 a1] w fun e w' => ∃ v0_ v1_ v2_ : Value, e = .returned (.tuple #[v0_, v1_, v2_]) ∧ Kd.N k87 87 w' w.heap.size (fun k_ => (P0_ k_ ∨ w.heap.size ≤ k_) ∧ some k_ ≠ (v1_ : Value).ownBlock ∧ some k_ ≠ (v2_ : Value).ownBlock) v0_ r1 ∧ Kd.R (Kd.int .i64) 3 w' w.heap.size (fun k_ => (w.heap.size ≤ k_)) v1_ r2 ∧ Kd.N k53 53 w' w.heap.size (fun k_ => (P0_ k_ ∨ w.heap.size ≤ k_) ∧ some k_ ≠ (v0_ : Value).ownBlock ∧ some k_ ≠ (v1_ : Value).ownBlock) v2_ r3 ∧ Below w.heap.size w w' := by
 have hu53 := Try.underlying53
 have hu87 := Try.underlying87
 have HO0 := Aside0.mk (show Kd.V k53 53 w w.heap.size (fun k_ => (P0_ k_ ∨ w.heap.size ≤ k_)) (.slice A0 l0.length c0) l0 from Kd.V_mono hs0 (fun k_ hk => .inl hk))
 have HB := Aside0.mk (Below.refl w.heap.size w)
 have H : (folkmootlaw16_told.l0 k l0 a1 ([] : List (S87)) ([] : List Int) ([] : List (S53)) 0) = some (r1, r2, r3) := h
 clear h
 have H' := Aside0.mk H
 clear H
 go_enter Try.func57, Try.ntmps57
 go_wp2
 go_loopg [7, 8, 9, 10] k (fun kq v7 v8 v9 v10 w' => ∃ (x7_1 : List (S87)) (x8_1 : List Int) (x9_1 : List (S53)) (x10_1 : Int), v10 = .int .i64 x10_1 ∧ Aside0 (folkmootlaw16_told.l0 kq l0 a1 x7_1 x8_1 x9_1 x10_1 = some (r1, r2, r3)) ∧ Aside0 (kq ≤ k) ∧ Aside0 (Kd.V k53 53 w' w.heap.size (fun k_ => (P0_ k_ ∨ w.heap.size ≤ k_) ∧ some k_ ≠ (v7 : Value).ownBlock ∧ some k_ ≠ (v8 : Value).ownBlock ∧ some k_ ≠ (v9 : Value).ownBlock) (.slice A0 l0.length c0) l0) ∧ Aside0 (Kd.N k87 87 w' w.heap.size (fun k_ => (P0_ k_ ∨ w.heap.size ≤ k_) ∧ some k_ ≠ (v8 : Value).ownBlock ∧ some k_ ≠ (v9 : Value).ownBlock) v7 x7_1) ∧ Aside0 (Kd.R (Kd.int .i64) 3 w' w.heap.size (fun k_ => (w.heap.size ≤ k_)) v8 x8_1) ∧ Aside0 (Kd.N k53 53 w' w.heap.size (fun k_ => (P0_ k_ ∨ w.heap.size ≤ k_) ∧ some k_ ≠ (v7 : Value).ownBlock ∧ some k_ ≠ (v8 : Value).ownBlock) v9 x9_1) ∧ Aside0 (Below w.heap.size w w'))
 case atStart => exact ⟨(([] : List (S87))), (([] : List Int)), (([] : List (S53))), (0), (by first | rfl | (simp; done) | (simp [*]; done)), H', ⟨Nat.le_refl _⟩, ⟨by (with_reducible repeat (first | apply Kd.V_alloc | apply Kd.V_drewN | apply Kd.V_drew)); exact Kd.V_mono HO0.out (fun _ hk => ⟨hk, ⟨(by simp [Value.ownBlock]), ⟨(by simp [Value.ownBlock]), (by simp [Value.ownBlock])⟩⟩⟩)⟩, ⟨by first | exact Kd.R_nil _ _ _ _ _ | exact Kd.N_nil _ _ _ _ _ | exact Kd.V_nil _ _ _ _ _ | exact Kd.Q_nil _ _ _ _ _ | exact Kd.S_nil _ _ _ _ _⟩, ⟨by first | exact Kd.R_nil _ _ _ _ _ | exact Kd.N_nil _ _ _ _ _ | exact Kd.V_nil _ _ _ _ _ | exact Kd.Q_nil _ _ _ _ _ | exact Kd.S_nil _ _ _ _ _⟩, ⟨by first | exact Kd.R_nil _ _ _ _ _ | exact Kd.N_nil _ _ _ _ _ | exact Kd.V_nil _ _ _ _ _ | exact Kd.Q_nil _ _ _ _ _ | exact Kd.S_nil _ _ _ _ _⟩, ⟨by repeat (first | (with_reducible first | exact HB.out | apply below_alloc | apply pw_below_drewN | apply below_drew1) | exact HB.out)⟩⟩
 case round =>
  clear H'
  try clear p2
  obtain ⟨x7_1, x8_1, x9_1, x10_1, rfl, HA, HK1, HO_0, HO_7, HO_8, HO_9, HB⟩ := hrel
  cases gk with
  | zero => exact absurd HA.out (by simp [folkmootlaw16_told.l0])
  | succ k1 =>
   have H := HA.out
   clear HA
   simp only [folkmootlaw16_told.l0] at H
   by_cases c3 : x10_1 < (l0.length : Int)
   ·
    rw [if_pos c3] at H
    have c3b0 : decide (x10_1 < (l0.length : Int)) = true := decide_eq_true c3
    clear c3
    by_cases c4 : (l0.length : Int) = 0
    ·
     rw [if_pos c4] at H
     exact absurd H (by simp)
    ·
     rw [if_neg c4] at H
     have c4b0 : ((l0.length : Int) == 0) = false := beq_eq_false_iff_ne.mpr c4
     have c4b1 : ((l0.length : Int) != 0) = true := bne_iff_ne.mpr c4
     have c4b2 : ¬ (l0 = []) := fun h_ => c4 (by rw [h_]; rfl)
     obtain ⟨ji5, hji5⟩ : ∃ j_ : Int, (Int.tmod (wrap64 (x10_1 + (wrap64 (a1)))) (l0.length : Int)) = j_ := ⟨_, rfl⟩
     replace H : (if 0 ≤ (ji5) then (if (ji5) < (l0.length : Int) then ((folkmootref15_Merge.f k1 ([] : List (S32)) ((rd_T53 l0 (ji5)).f0)).bind fun t775 => (if x7_1.length < 1759218604441 then (if x8_1.length < 17592186044416 then (if x9_1.length < 1954687338268 then (folkmootlaw16_told.l0 k1 l0 a1 (x7_1 ++ [(⟨ji5, (⟨t775, (rd_T53 l0 (ji5)).f1, (rd_T53 l0 (ji5)).f2, (⟨(rd_T53 l0 (ji5)).f3.f0, (rd_T53 l0 (ji5)).f3.f1⟩ : S25)⟩ : S53)⟩ : S87)]) (x8_1 ++ [ji5]) (x9_1 ++ [(⟨t775, (rd_T53 l0 (ji5)).f1, (rd_T53 l0 (ji5)).f2, (⟨(rd_T53 l0 (ji5)).f3.f0, (rd_T53 l0 (ji5)).f3.f1⟩ : S25)⟩ : S53)]) (wrap64 (x10_1 + 1))) else (none)) else (none)) else (none))) else (none)) else (none)) = some (r1, r2, r3) := by first | (rw [hji5] at H; exact H) | (simp only [hji5] at H ⊢; exact H)
     by_cases c6 : 0 ≤ (ji5)
     ·
      rw [if_pos c6] at H
      have c6b0 : decide (0 ≤ (ji5)) = true := decide_eq_true c6
      clear c6
      by_cases c7 : (ji5) < (l0.length : Int)
      ·
       rw [if_pos c7] at H
       have c7b0 : decide ((ji5) < (l0.length : Int)) = true := decide_eq_true c7
       clear c7
       replace H := Option.bind_eq_some_iff.mp H
       obtain ⟨t775, A80, H⟩ := H
       replace H : (if x7_1.length < 1759218604441 then (if x8_1.length < 17592186044416 then (if x9_1.length < 1954687338268 then (folkmootlaw16_told.l0 k1 l0 a1 (x7_1 ++ [(⟨ji5, (⟨t775, (rd_T53 l0 (ji5)).f1, (rd_T53 l0 (ji5)).f2, (⟨(rd_T53 l0 (ji5)).f3.f0, (rd_T53 l0 (ji5)).f3.f1⟩ : S25)⟩ : S53)⟩ : S87)]) (x8_1 ++ [ji5]) (x9_1 ++ [(⟨t775, (rd_T53 l0 (ji5)).f1, (rd_T53 l0 (ji5)).f2, (⟨(rd_T53 l0 (ji5)).f3.f0, (rd_T53 l0 (ji5)).f3.f1⟩ : S25)⟩ : S53)]) (wrap64 (x10_1 + 1))) else (none)) else (none)) else (none)) = some (r1, r2, r3) := H
       have A8 := Aside0.mk A80
       clear A80
       by_cases c9 : x7_1.length < 1759218604441
       ·
        rw [if_pos c9] at H
        have LMc9 := Aside0.mk c9
        clear c9
        obtain ⟨y778, hy778⟩ : ∃ y_ : List (S87), y_ = (x7_1 ++ [(⟨ji5, (⟨t775, (rd_T53 l0 (ji5)).f1, (rd_T53 l0 (ji5)).f2, (⟨(rd_T53 l0 (ji5)).f3.f0, (rd_T53 l0 (ji5)).f3.f1⟩ : S25)⟩ : S53)⟩ : S87)]) := ⟨_, rfl⟩
        replace H : (if x8_1.length < 17592186044416 then (if x9_1.length < 1954687338268 then (folkmootlaw16_told.l0 k1 l0 a1 y778 (x8_1 ++ [ji5]) (x9_1 ++ [(⟨t775, (rd_T53 l0 (ji5)).f1, (rd_T53 l0 (ji5)).f2, (⟨(rd_T53 l0 (ji5)).f3.f0, (rd_T53 l0 (ji5)).f3.f1⟩ : S25)⟩ : S53)]) (wrap64 (x10_1 + 1))) else (none)) else (none)) = some (r1, r2, r3) := by first | (rw [hy778]; with_reducible exact H) | (have H2_ := (Option.bind_some _ _).symm.trans H; rw [hy778]; with_reducible exact H2_) | (have H2_ := (Option.bind_some _ _).symm.trans H; with_reducible exact H2_) | with_reducible exact H | (rw [hy778]; exact H) | exact H
        have Ny778 := Aside0.mk hy778
        clear hy778
        by_cases c10 : x8_1.length < 17592186044416
        ·
         rw [if_pos c10] at H
         have LMc10 := Aside0.mk c10
         clear c10
         obtain ⟨y781, hy781⟩ : ∃ y_ : List Int, y_ = (x8_1 ++ [ji5]) := ⟨_, rfl⟩
         replace H : (if x9_1.length < 1954687338268 then (folkmootlaw16_told.l0 k1 l0 a1 y778 y781 (x9_1 ++ [(⟨t775, (rd_T53 l0 (ji5)).f1, (rd_T53 l0 (ji5)).f2, (⟨(rd_T53 l0 (ji5)).f3.f0, (rd_T53 l0 (ji5)).f3.f1⟩ : S25)⟩ : S53)]) (wrap64 (x10_1 + 1))) else (none)) = some (r1, r2, r3) := by first | (rw [hy781]; with_reducible exact H) | (have H2_ := (Option.bind_some _ _).symm.trans H; rw [hy781]; with_reducible exact H2_) | (have H2_ := (Option.bind_some _ _).symm.trans H; with_reducible exact H2_) | with_reducible exact H | (rw [hy781]; exact H) | exact H
         have Ny781 := Aside0.mk hy781
         clear hy781
         by_cases c11 : x9_1.length < 1954687338268
         ·
          rw [if_pos c11] at H
          have LMc11 := Aside0.mk c11
          clear c11
          obtain ⟨y784, hy784⟩ : ∃ y_ : List (S53), y_ = (x9_1 ++ [(⟨t775, (rd_T53 l0 (ji5)).f1, (rd_T53 l0 (ji5)).f2, (⟨(rd_T53 l0 (ji5)).f3.f0, (rd_T53 l0 (ji5)).f3.f1⟩ : S25)⟩ : S53)]) := ⟨_, rfl⟩
          replace H : (folkmootlaw16_told.l0 k1 l0 a1 y778 y781 y784 (wrap64 (x10_1 + 1))) = some (r1, r2, r3) := by first | (rw [hy784]; with_reducible exact H) | (have H2_ := (Option.bind_some _ _).symm.trans H; rw [hy784]; with_reducible exact H2_) | (have H2_ := (Option.bind_some _ _).symm.trans H; with_reducible exact H2_) | with_reducible exact H | (rw [hy784]; exact H) | exact H
          have Ny784 := Aside0.mk hy784
          clear hy784
          have H' := Aside0.mk H
          clear H
          have p773 : 0 ≤ ((ji5) : Int) := of_decide_eq_true zs_
          have q773 : (ji5) < (l0.length : Int) := of_decide_eq_true zs_
          obtain ⟨ad773, A773_0, c773_0, A773_1, c773_1, e773, hx773_0, hx773_1, hx773_2, hx773_3, hx773_4, hl773_0, hi773_0, hl773_1, hi773_1⟩ := at_T53 (Kd.V_reads' HO_0.out).2.2 (ji5) p773 q773
          cases e773
          obtain ⟨ce773, hce773, hMe773, hcc773⟩ := Kd.V_get HO_0.out z53 (ji5) p773 (by first | exact q773 | exact of_decide_eq_true zs_ | (have e_ := (Kd.V_reads' HO_0.out).1; omega))
          obtain ⟨ua773_0, uc773_0, ua773_1, uc773_1, rfl, ul773_0, ge773_0, ul773_1, ge773_1⟩ := k53_openF hMe773
          have hv773_0 := hcc773 0 _ rfl
          rw [Nat.add_zero] at hv773_0
          replace hv773_0 := Option.some.inj (hv773_0.symm.trans hx773_0)
          injection hv773_0 with hva_ hvn_ hvc_
          rw [hva_] at ge773_0
          rw [hvc_] at ul773_0
          have HL773_0 := Aside0.mk (show Kd.V k32 32 _ w.heap.size _ _ ((rd_T53 l0 (ji5)).f0) from Kd.V_mk ul773_0 ge773_0)
          clear hva_ hvn_ hvc_ ge773_0 ul773_0
          have hv773_1 := hcc773 1 _ rfl
          rw [add_field _ _ 1 (by omega)] at hv773_1
          replace hv773_1 := Option.some.inj (hv773_1.symm.trans hx773_1)
          injection hv773_1 with hva_ hvn_ hvc_
          rw [hva_] at ge773_1
          rw [hvc_] at ul773_1
          have HL773_1 := Aside0.mk (show Kd.V k27 27 _ w.heap.size _ _ ((rd_T53 l0 (ji5)).f1) from Kd.V_mk ul773_1 ge773_1)
          clear hva_ hvn_ hvc_ ge773_1 ul773_1
          clear hcc773 hce773
          have HR773_0 := Aside0.mk hi773_0
          have HC773_0 := Aside0.mk hl773_0
          clear hi773_0 hl773_0
          have HR773_1 := Aside0.mk hi773_1
          have HC773_1 := Aside0.mk hl773_1
          clear hi773_1 hl773_1
          replace p773 := eq_true p773
          replace q773 := eq_true q773
          go_wp2_with (first | ((with_reducible refine gate_dst (N := 12) rfl ?_); refine box_event ?hg (N := 12) ?hd (cs := #[.slice none 0 0, .slice none 0 0, .int .i64 0, .int .u64 0, .int .i64 0]) (t := 53) ?hr ?_; (case hd => rfl); (case hg => rfl); (case hr => first | (go_simp; done) | (go_simp; rfl)); intro gb774 hg w12 hbox hb; have n0_ := Aside0.mk (Kd.V_below (Kd.V_elderB (zv_ HO_0) gb774 (Nat.le_of_eq hg.symm)) hb); have n1_ := Aside0.mk (Kd.N_below (Kd.N_elderB (zn_ HO_7) gb774 (Nat.le_of_eq hg.symm)) hb); have n2_ := Aside0.mk (Kd.R_below (zr_ HO_8) hb); have n3_ := Aside0.mk (Kd.N_below (Kd.N_elderB (zn_ HO_9) gb774 (Nat.le_of_eq hg.symm)) hb); have n4_ := Aside0.mk (Kd.V_below (Kd.V_elderB (zv_ HL773_0) gb774 (Nat.le_of_eq hg.symm)) hb); have n5_ := Aside0.mk (Kd.V_below (Kd.V_elderB (zv_ HL773_1) gb774 (Nat.le_of_eq hg.symm)) hb); have n6_ := Aside0.mk (Kd.C_below (by repeat (first | (with_reducible exact HR773_0.out) | (with_reducible refine Kd.C_alloc ?_ _) | (with_reducible refine Kd.C_drewN ?_ _) | (with_reducible refine Kd.C_drew ?_) | exact HR773_0.out | exact (Kd.V_reads' HL773_0.out).2.2)) hb); have n7_ := Aside0.mk (Kd.C_below (by repeat (first | (with_reducible exact HR773_1.out) | (with_reducible refine Kd.C_alloc ?_ _) | (with_reducible refine Kd.C_drewN ?_ _) | (with_reducible refine Kd.C_drew ?_) | exact HR773_1.out | exact (Kd.V_reads' HL773_1.out).2.2)) hb); have n8_ := Aside0.mk (below_step zb_ hb); have n9_ := Aside0.mk (hbox); have n10_ := Aside0.mk ((by rw [hg]; exact (below_size zb_) : w.heap.size ≤ gb774)); have n11_ := Aside0.mk ((by rw [hg]; exact (below_size zb_) : w.heap.size ≤ gb774)); clear HO_0; clear HO_7; clear HO_8; clear HO_9; clear HL773_0; clear HL773_1; clear HR773_0; clear HR773_1; clear HB; have HO_0 := n0_; have HO_7 := n1_; have HO_8 := n2_; have HO_9 := n3_; have HL773_0 := n4_; have HL773_1 := n5_; have HR773_0 := n6_; have HR773_1 := n7_; have HB := n8_; have BK774 := n9_; have GW774 := n10_; have GE774 := n11_; clear n0_ n1_ n2_ n3_ n4_ n5_ n6_ n7_ n8_ n9_ n10_ n11_; clear hb hbox hg; have hcz13_0 : w12.cell? ⟨gb774, 0, none⟩ = some (.slice none 0 0) := (blk_cell BK774.out 0).trans rfl; have hcz13_1 : w12.cell? ⟨gb774, 1, none⟩ = some (.slice none 0 0) := (blk_cell BK774.out 1).trans rfl; have hcz13_2 : w12.cell? ⟨gb774, 2, none⟩ = some (.int .i64 0) := (blk_cell BK774.out 2).trans rfl; have hcz13_3 : w12.cell? ⟨gb774, 3, none⟩ = some (.int .u64 0) := (blk_cell BK774.out 3).trans rfl; have hcz13_4 : w12.cell? ⟨gb774, 4, none⟩ = some (.int .i64 0) := (blk_cell BK774.out 4).trans rfl; have hfz13_0 := blk_frozen BK774.out 0; have hfz13_1 := blk_frozen BK774.out 1; have hfz13_2 := blk_frozen BK774.out 2; have hfz13_3 := blk_frozen BK774.out 3; have hfz13_4 := blk_frozen BK774.out 4) | ((with_reducible refine gate_store (t := 53) (p := 12) rfl ?_); refine store_event (t := 53) (p := 12) (v := ?vo_w14) (w1 := (((((w12.setCell ⟨gb774, 0, none⟩ (.slice A773_0 ((rd_T53 l0 (ji5)).f0).length c773_0)).setCell ⟨gb774, 1, none⟩ (.slice A773_1 ((rd_T53 l0 (ji5)).f1).length c773_1)).setCell ⟨gb774, 2, none⟩ (.int .i64 ((rd_T53 l0 (ji5)).f2))).setCell ⟨gb774, 3, none⟩ (.int .u64 ((rd_T53 l0 (ji5)).f3.f0))).setCell ⟨gb774, 4, none⟩ (.int .i64 ((rd_T53 l0 (ji5)).f3.f1)))) ?hg ?ho ?hn ?hr ?_; (case ho => rfl); (case hg => rfl); (case hn => rfl); (case hr => first | (go_simp; done) | (go_simp; rfl)); intro w14 hw; have n0_ : Aside0 (Kd.V k53 53 w14 w.heap.size (fun k_ => (P0_ k_ ∨ w.heap.size ≤ k_) ∧ some k_ ≠ (u7 : Value).ownBlock ∧ some k_ ≠ (u8 : Value).ownBlock ∧ some k_ ≠ (u9 : Value).ownBlock ∧ k_ ≠ gb774) (.slice (some ad773) l0.length c0) l0) := ⟨(by rw [hw]; exact (by (with_reducible repeat (first | apply Kd.V_alloc | apply Kd.V_drewN | apply Kd.V_drew)); exact Kd.V_mono (Kd.V_far (p := ⟨gb774, 4, none⟩) (Kd.V_far (p := ⟨gb774, 3, none⟩) (Kd.V_far (p := ⟨gb774, 2, none⟩) (Kd.V_far (p := ⟨gb774, 1, none⟩) (Kd.V_far (p := ⟨gb774, 0, none⟩) (Kd.V_mono HO_0.out (fun k_ hk => (⟨hk, hk.2⟩ : _ ∧ k_ ≠ gb774))) (fun _ hk => hk.2) (.slice A773_0 ((rd_T53 l0 (ji5)).f0).length c773_0)) (fun _ hk => hk.2) (.slice A773_1 ((rd_T53 l0 (ji5)).f1).length c773_1)) (fun _ hk => hk.2) (.int .i64 ((rd_T53 l0 (ji5)).f2))) (fun _ hk => hk.2) (.int .u64 ((rd_T53 l0 (ji5)).f3.f0))) (fun _ hk => hk.2) (.int .i64 ((rd_T53 l0 (ji5)).f3.f1))) (fun _ hk => ⟨hk.1.1.1, ⟨hk.1.1.2.1, ⟨hk.1.1.2.2.1, ⟨hk.1.1.2.2.2, hk.1.2⟩⟩⟩⟩)))⟩; have n1_ : Aside0 (Kd.N k87 87 w14 w.heap.size (fun k_ => (P0_ k_ ∨ w.heap.size ≤ k_) ∧ some k_ ≠ (u8 : Value).ownBlock ∧ some k_ ≠ (u9 : Value).ownBlock ∧ k_ ≠ gb774) u7 x7_1) := ⟨(by rw [hw]; exact (by (with_reducible repeat (first | apply Kd.N_alloc | apply Kd.N_drewN | apply Kd.N_drew)); exact Kd.N_mono (Kd.N_far (p := ⟨gb774, 4, none⟩) (Kd.N_far (p := ⟨gb774, 3, none⟩) (Kd.N_far (p := ⟨gb774, 2, none⟩) (Kd.N_far (p := ⟨gb774, 1, none⟩) (Kd.N_far (p := ⟨gb774, 0, none⟩) (Kd.N_mono HO_7.out (fun k_ hk => (⟨hk, hk.2⟩ : _ ∧ k_ ≠ gb774))) (fun _ hk => hk.2) (.slice A773_0 ((rd_T53 l0 (ji5)).f0).length c773_0)) (fun _ hk => hk.2) (.slice A773_1 ((rd_T53 l0 (ji5)).f1).length c773_1)) (fun _ hk => hk.2) (.int .i64 ((rd_T53 l0 (ji5)).f2))) (fun _ hk => hk.2) (.int .u64 ((rd_T53 l0 (ji5)).f3.f0))) (fun _ hk => hk.2) (.int .i64 ((rd_T53 l0 (ji5)).f3.f1))) (fun _ hk => ⟨hk.1.1.1, ⟨hk.1.1.2.1, ⟨hk.1.1.2.2, hk.1.2⟩⟩⟩)))⟩; have n2_ : Aside0 (Kd.R (Kd.int .i64) 3 w14 w.heap.size (fun k_ => (w.heap.size ≤ k_)) u8 x8_1) := ⟨(by rw [hw]; exact (by (with_reducible repeat (first | apply Kd.R_alloc | apply Kd.R_drewN | apply Kd.R_drew)); exact Kd.R_mono (Kd.R_far (p := ⟨gb774, 4, none⟩) (Kd.R_far (p := ⟨gb774, 3, none⟩) (Kd.R_far (p := ⟨gb774, 2, none⟩) (Kd.R_far (p := ⟨gb774, 1, none⟩) (Kd.R_far (p := ⟨gb774, 0, none⟩) (Kd.R_types HO_8.out BK774.out (by decide)) (fun _ hk => hk.2) (.slice A773_0 ((rd_T53 l0 (ji5)).f0).length c773_0)) (fun _ hk => hk.2) (.slice A773_1 ((rd_T53 l0 (ji5)).f1).length c773_1)) (fun _ hk => hk.2) (.int .i64 ((rd_T53 l0 (ji5)).f2))) (fun _ hk => hk.2) (.int .u64 ((rd_T53 l0 (ji5)).f3.f0))) (fun _ hk => hk.2) (.int .i64 ((rd_T53 l0 (ji5)).f3.f1))) (fun _ hk => hk.1)))⟩; have n3_ : Aside0 (Kd.N k53 53 w14 w.heap.size (fun k_ => (P0_ k_ ∨ w.heap.size ≤ k_) ∧ some k_ ≠ (u7 : Value).ownBlock ∧ some k_ ≠ (u8 : Value).ownBlock ∧ k_ ≠ gb774) u9 x9_1) := ⟨(by rw [hw]; exact (by (with_reducible repeat (first | apply Kd.N_alloc | apply Kd.N_drewN | apply Kd.N_drew)); exact Kd.N_mono (Kd.N_far (p := ⟨gb774, 4, none⟩) (Kd.N_far (p := ⟨gb774, 3, none⟩) (Kd.N_far (p := ⟨gb774, 2, none⟩) (Kd.N_far (p := ⟨gb774, 1, none⟩) (Kd.N_far (p := ⟨gb774, 0, none⟩) (Kd.N_mono HO_9.out (fun k_ hk => (⟨hk, hk.2⟩ : _ ∧ k_ ≠ gb774))) (fun _ hk => hk.2) (.slice A773_0 ((rd_T53 l0 (ji5)).f0).length c773_0)) (fun _ hk => hk.2) (.slice A773_1 ((rd_T53 l0 (ji5)).f1).length c773_1)) (fun _ hk => hk.2) (.int .i64 ((rd_T53 l0 (ji5)).f2))) (fun _ hk => hk.2) (.int .u64 ((rd_T53 l0 (ji5)).f3.f0))) (fun _ hk => hk.2) (.int .i64 ((rd_T53 l0 (ji5)).f3.f1))) (fun _ hk => ⟨hk.1.1.1, ⟨hk.1.1.2.1, ⟨hk.1.1.2.2, hk.1.2⟩⟩⟩)))⟩; have n4_ : Aside0 (Kd.V k32 32 w14 w.heap.size (fun k_ => (P0_ k_ ∨ w.heap.size ≤ k_) ∧ some k_ ≠ (u7 : Value).ownBlock ∧ some k_ ≠ (u8 : Value).ownBlock ∧ some k_ ≠ (u9 : Value).ownBlock ∧ k_ ≠ gb774) (.slice A773_0 ((rd_T53 l0 (ji5)).f0).length c773_0) ((rd_T53 l0 (ji5)).f0)) := ⟨(by rw [hw]; exact (by (with_reducible repeat (first | apply Kd.V_alloc | apply Kd.V_drewN | apply Kd.V_drew)); exact Kd.V_mono (Kd.V_far (p := ⟨gb774, 4, none⟩) (Kd.V_far (p := ⟨gb774, 3, none⟩) (Kd.V_far (p := ⟨gb774, 2, none⟩) (Kd.V_far (p := ⟨gb774, 1, none⟩) (Kd.V_far (p := ⟨gb774, 0, none⟩) (Kd.V_mono HL773_0.out (fun k_ hk => (⟨hk, hk.2⟩ : _ ∧ k_ ≠ gb774))) (fun _ hk => hk.2) (.slice A773_0 ((rd_T53 l0 (ji5)).f0).length c773_0)) (fun _ hk => hk.2) (.slice A773_1 ((rd_T53 l0 (ji5)).f1).length c773_1)) (fun _ hk => hk.2) (.int .i64 ((rd_T53 l0 (ji5)).f2))) (fun _ hk => hk.2) (.int .u64 ((rd_T53 l0 (ji5)).f3.f0))) (fun _ hk => hk.2) (.int .i64 ((rd_T53 l0 (ji5)).f3.f1))) (fun _ hk => ⟨hk.1.1.1, ⟨hk.1.1.2.1, ⟨hk.1.1.2.2.1, ⟨hk.1.1.2.2.2, hk.1.2⟩⟩⟩⟩)))⟩; have n5_ : Aside0 (Kd.V k27 27 w14 w.heap.size (fun k_ => (P0_ k_ ∨ w.heap.size ≤ k_) ∧ some k_ ≠ (u7 : Value).ownBlock ∧ some k_ ≠ (u8 : Value).ownBlock ∧ some k_ ≠ (u9 : Value).ownBlock ∧ k_ ≠ gb774) (.slice A773_1 ((rd_T53 l0 (ji5)).f1).length c773_1) ((rd_T53 l0 (ji5)).f1)) := ⟨(by rw [hw]; exact (by (with_reducible repeat (first | apply Kd.V_alloc | apply Kd.V_drewN | apply Kd.V_drew)); exact Kd.V_mono (Kd.V_far (p := ⟨gb774, 4, none⟩) (Kd.V_far (p := ⟨gb774, 3, none⟩) (Kd.V_far (p := ⟨gb774, 2, none⟩) (Kd.V_far (p := ⟨gb774, 1, none⟩) (Kd.V_far (p := ⟨gb774, 0, none⟩) (Kd.V_mono HL773_1.out (fun k_ hk => (⟨hk, hk.2⟩ : _ ∧ k_ ≠ gb774))) (fun _ hk => hk.2) (.slice A773_0 ((rd_T53 l0 (ji5)).f0).length c773_0)) (fun _ hk => hk.2) (.slice A773_1 ((rd_T53 l0 (ji5)).f1).length c773_1)) (fun _ hk => hk.2) (.int .i64 ((rd_T53 l0 (ji5)).f2))) (fun _ hk => hk.2) (.int .u64 ((rd_T53 l0 (ji5)).f3.f0))) (fun _ hk => hk.2) (.int .i64 ((rd_T53 l0 (ji5)).f3.f1))) (fun _ hk => ⟨hk.1.1.1, ⟨hk.1.1.2.1, ⟨hk.1.1.2.2.1, ⟨hk.1.1.2.2.2, hk.1.2⟩⟩⟩⟩)))⟩; have n6_ : Aside0 (w14.heap[gb774]? = some (.cells #[.slice A773_0 ((rd_T53 l0 (ji5)).f0).length c773_0, .slice A773_1 ((rd_T53 l0 (ji5)).f1).length c773_1, .int .i64 ((rd_T53 l0 (ji5)).f2), .int .u64 ((rd_T53 l0 (ji5)).f3.f0), .int .i64 ((rd_T53 l0 (ji5)).f3.f1)] 53 (0, 0))) := ⟨(by rw [hw]; exact (by (with_reducible repeat (first | refine blk_drewN ?_ _ | refine blk_drew ?_ | refine blk_alloc ?_ _)); refine blk_put (cs := #[.slice A773_0 ((rd_T53 l0 (ji5)).f0).length c773_0, .slice A773_1 ((rd_T53 l0 (ji5)).f1).length c773_1, .int .i64 ((rd_T53 l0 (ji5)).f2), .int .u64 ((rd_T53 l0 (ji5)).f3.f0), .int .i64 0]) ?_ 4 _ rfl; (with_reducible repeat (first | refine blk_drewN ?_ _ | refine blk_drew ?_ | refine blk_alloc ?_ _)); refine blk_put (cs := #[.slice A773_0 ((rd_T53 l0 (ji5)).f0).length c773_0, .slice A773_1 ((rd_T53 l0 (ji5)).f1).length c773_1, .int .i64 ((rd_T53 l0 (ji5)).f2), .int .u64 0, .int .i64 0]) ?_ 3 _ rfl; (with_reducible repeat (first | refine blk_drewN ?_ _ | refine blk_drew ?_ | refine blk_alloc ?_ _)); refine blk_put (cs := #[.slice A773_0 ((rd_T53 l0 (ji5)).f0).length c773_0, .slice A773_1 ((rd_T53 l0 (ji5)).f1).length c773_1, .int .i64 0, .int .u64 0, .int .i64 0]) ?_ 2 _ rfl; (with_reducible repeat (first | refine blk_drewN ?_ _ | refine blk_drew ?_ | refine blk_alloc ?_ _)); refine blk_put (cs := #[.slice A773_0 ((rd_T53 l0 (ji5)).f0).length c773_0, .slice none 0 0, .int .i64 0, .int .u64 0, .int .i64 0]) ?_ 1 _ rfl; (with_reducible repeat (first | refine blk_drewN ?_ _ | refine blk_drew ?_ | refine blk_alloc ?_ _)); refine blk_put (cs := #[.slice none 0 0, .slice none 0 0, .int .i64 0, .int .u64 0, .int .i64 0]) ?_ 0 _ rfl; (with_reducible repeat (first | refine blk_drewN ?_ _ | refine blk_drew ?_ | refine blk_alloc ?_ _)); exact BK774.out))⟩; have n7_ : Aside0 (Below w.heap.size w w14) := ⟨(by rw [hw]; exact zb_)⟩; clear hw; clear HO_0; clear HO_7; clear HO_8; clear HO_9; clear HL773_0; clear HL773_1; clear BK774; clear HB; have HO_0 := n0_; have HO_7 := n1_; have HO_8 := n2_; have HO_9 := n3_; have HL773_0 := n4_; have HL773_1 := n5_; have BK774 := n6_; have HB := n7_; clear n0_ n1_ n2_ n3_ n4_ n5_ n6_ n7_; have hcz15_0 : w14.cell? ⟨gb774, 0, none⟩ = some (.slice A773_0 ((rd_T53 l0 (ji5)).f0).length c773_0) := (blk_cell BK774.out 0).trans rfl; have hcz15_1 : w14.cell? ⟨gb774, 1, none⟩ = some (.slice A773_1 ((rd_T53 l0 (ji5)).f1).length c773_1) := (blk_cell BK774.out 1).trans rfl; have hcz15_2 : w14.cell? ⟨gb774, 2, none⟩ = some (.int .i64 ((rd_T53 l0 (ji5)).f2)) := (blk_cell BK774.out 2).trans rfl; have hcz15_3 : w14.cell? ⟨gb774, 3, none⟩ = some (.int .u64 ((rd_T53 l0 (ji5)).f3.f0)) := (blk_cell BK774.out 3).trans rfl; have hcz15_4 : w14.cell? ⟨gb774, 4, none⟩ = some (.int .i64 ((rd_T53 l0 (ji5)).f3.f1)) := (blk_cell BK774.out 4).trans rfl; have hfz15_0 := blk_frozen BK774.out 0; have hfz15_1 := blk_frozen BK774.out 1; have hfz15_2 := blk_frozen BK774.out 2; have hfz15_3 := blk_frozen BK774.out 3; have hfz15_4 := blk_frozen BK774.out 4) | ((with_reducible refine gate_callee (f := 23) rfl ?_); refine goesL_ (some 32) rfl rfl Try.func23 (by kernel_rfl) rfl #[.slice none 0 0, .slice A773_0 ((rd_T53 l0 (ji5)).f0).length c773_0] rfl (by (try simp only [List.map_toArray, List.map_cons, List.map_nil]); first | done | (simp only [hji5]; rfl) | rfl | (simp only [List.length_drop, List.length_take]; rfl)) ?_; (refine (folkmootref15_Merge.calls k1 (fun k_ => False) _ _ ([] : List (S32)) (fun k_ => ((P0_ k_ ∨ w.heap.size ≤ k_) ∧ (some k_ ≠ (u7 : Value).ownBlock ∧ (some k_ ≠ (u8 : Value).ownBlock ∧ (some k_ ≠ (u9 : Value).ownBlock ∧ k_ ≠ gb774))))) _ _ ((rd_T53 l0 (ji5)).f0) t775 _ ?side1 ?side2 A8.out).mono ?_); (case side1 => exact Kd.V_nil _ _ _ _ _); (case side2 => exact HL773_0.out); rintro e w16 ⟨v776, rfl, ho0, hb⟩; refine ⟨_, rfl, ?_⟩; have n0_ := Aside0.mk (Kd.V_below (zv_ HO_0) hb); have n1_ := Aside0.mk (Kd.N_below (zn_ HO_7) hb); have n2_ := Aside0.mk (Kd.R_below (zr_ HO_8) hb); have n3_ := Aside0.mk (Kd.N_below (zn_ HO_9) hb); have n4_ := Aside0.mk (Kd.V_below (zv_ HL773_0) hb); have n5_ := Aside0.mk (Kd.V_below (zv_ HL773_1) hb); have n6_ := Aside0.mk (Kd.V_lower (Kd.V_mono (ok' := fun k_ => (P0_ k_ ∨ w.heap.size ≤ k_) ∧ some k_ ≠ (u7 : Value).ownBlock ∧ some k_ ≠ (u8 : Value).ownBlock ∧ some k_ ≠ (u9 : Value).ownBlock ∧ k_ ≠ gb774) ho0 (fun k_ hk_ => ⟨Or.elim hk_ (fun hs_ => Or.elim hs_ (fun hs_ => (hs_).elim) (fun hs_ => hs_.1)) (fun hn_ => (.inr (Nat.le_trans (below_size zb_) hn_))), Or.elim hk_ (fun hs_ => Or.elim hs_ (fun hs_ => (hs_).elim) (fun hs_ => hs_.2.1)) (fun hn_ => (Kd.fresh' (Kd.N_lt (zn_ HO_7)) k_ hn_)), Or.elim hk_ (fun hs_ => Or.elim hs_ (fun hs_ => (hs_).elim) (fun hs_ => hs_.2.2.1)) (fun hn_ => (Kd.fresh' (Kd.R_lt (zr_ HO_8)) k_ hn_)), Or.elim hk_ (fun hs_ => Or.elim hs_ (fun hs_ => (hs_).elim) (fun hs_ => hs_.2.2.2.1)) (fun hn_ => (Kd.fresh' (Kd.N_lt (zn_ HO_9)) k_ hn_)), Or.elim hk_ (fun hs_ => Or.elim hs_ (fun hs_ => (hs_).elim) (fun hs_ => hs_.2.2.2.2)) (fun hn_ => (Kd.freshB (g := gb774) (o := .cells #[.slice A773_0 ((rd_T53 l0 (ji5)).f0).length c773_0, .slice A773_1 ((rd_T53 l0 (ji5)).f1).length c773_1, .int .i64 ((rd_T53 l0 (ji5)).f2), .int .u64 ((rd_T53 l0 (ji5)).f3.f0), .int .i64 ((rd_T53 l0 (ji5)).f3.f1)] 53 (0, 0)) (by (with_reducible repeat (first | refine blk_drewN ?_ _ | refine blk_drew ?_ | refine blk_alloc ?_ _)); exact BK774.out) k_ hn_))⟩)) (below_size zb_)); have n7_ := Aside0.mk (Kd.C_below (by repeat (first | (with_reducible exact HR773_0.out) | (with_reducible refine Kd.C_alloc ?_ _) | (with_reducible refine Kd.C_drewN ?_ _) | (with_reducible refine Kd.C_drew ?_) | exact HR773_0.out | exact (Kd.V_reads' HL773_0.out).2.2)) hb); have n8_ := Aside0.mk (Kd.C_below (by repeat (first | (with_reducible exact HR773_1.out) | (with_reducible refine Kd.C_alloc ?_ _) | (with_reducible refine Kd.C_drewN ?_ _) | (with_reducible refine Kd.C_drew ?_) | exact HR773_1.out | exact (Kd.V_reads' HL773_1.out).2.2)) hb); have n9_ := zk_ BK774 hb; have n10_ := Aside0.mk (below_step zb_ hb); clear HO_0; clear HO_7; clear HO_8; clear HO_9; clear HL773_0; clear HL773_1; clear HR773_0; clear HR773_1; clear BK774; clear HB; have HO_0 := n0_; have HO_7 := n1_; have HO_8 := n2_; have HO_9 := n3_; have HL773_0 := n4_; have HL773_1 := n5_; have HO777 := n6_; have HR773_0 := n7_; have HR773_1 := n8_; have BK774 := n9_; have HB := n10_; clear n0_ n1_ n2_ n3_ n4_ n5_ n6_ n7_ n8_ n9_ n10_; (try clear hb); (try clear hb2); (try clear hk); (try clear hi); (try clear ho0); obtain ⟨Ao17, co17, eo17⟩ := Kd.V_slice HO777.out; subst eo17; have hcz18_0 : w16.cell? ⟨gb774, 0, none⟩ = some (.slice A773_0 ((rd_T53 l0 (ji5)).f0).length c773_0) := (blk_cell BK774.out 0).trans rfl; have hcz18_1 : w16.cell? ⟨gb774, 1, none⟩ = some (.slice A773_1 ((rd_T53 l0 (ji5)).f1).length c773_1) := (blk_cell BK774.out 1).trans rfl; have hcz18_2 : w16.cell? ⟨gb774, 2, none⟩ = some (.int .i64 ((rd_T53 l0 (ji5)).f2)) := (blk_cell BK774.out 2).trans rfl; have hcz18_3 : w16.cell? ⟨gb774, 3, none⟩ = some (.int .u64 ((rd_T53 l0 (ji5)).f3.f0)) := (blk_cell BK774.out 3).trans rfl; have hcz18_4 : w16.cell? ⟨gb774, 4, none⟩ = some (.int .i64 ((rd_T53 l0 (ji5)).f3.f1)) := (blk_cell BK774.out 4).trans rfl; have hfz18_0 := blk_frozen BK774.out 0; have hfz18_1 := blk_frozen BK774.out 1; have hfz18_2 := blk_frozen BK774.out 2; have hfz18_3 := blk_frozen BK774.out 3; have hfz18_4 := blk_frozen BK774.out 4) | ((with_reducible refine gate_store (t := 22) (p := 33) rfl ?_); refine store_event (t := 22) (p := 33) (v := ?vo_w19) (w1 := (w16.setCell ⟨gb774, 0, none⟩ (.slice Ao17 t775.length co17))) ?hg ?ho ?hn ?hr ?_; (case ho => rfl); (case hg => rfl); (case hn => rfl); (case hr => first | (go_simp; done) | (go_simp; rfl)); intro w19 hw; have n0_ : Aside0 (Kd.V k53 53 w19 w.heap.size (fun k_ => (P0_ k_ ∨ w.heap.size ≤ k_) ∧ some k_ ≠ (u7 : Value).ownBlock ∧ some k_ ≠ (u8 : Value).ownBlock ∧ some k_ ≠ (u9 : Value).ownBlock ∧ k_ ≠ gb774) (.slice (some ad773) l0.length c0) l0) := ⟨(by rw [hw]; exact (by (with_reducible repeat (first | apply Kd.V_alloc | apply Kd.V_drewN | apply Kd.V_drew)); exact Kd.V_mono (Kd.V_far (p := ⟨gb774, 0, none⟩) (Kd.V_mono HO_0.out (fun k_ hk => (⟨hk, hk.2.2.2.2⟩ : _ ∧ k_ ≠ gb774))) (fun _ hk => hk.2) (.slice Ao17 t775.length co17)) (fun _ hk => ⟨hk.1.1, ⟨hk.1.2.1, ⟨hk.1.2.2.1, ⟨hk.1.2.2.2.1, hk.1.2.2.2.2⟩⟩⟩⟩)))⟩; have n1_ : Aside0 (Kd.N k87 87 w19 w.heap.size (fun k_ => (P0_ k_ ∨ w.heap.size ≤ k_) ∧ some k_ ≠ (u8 : Value).ownBlock ∧ some k_ ≠ (u9 : Value).ownBlock ∧ k_ ≠ gb774) u7 x7_1) := ⟨(by rw [hw]; exact (by (with_reducible repeat (first | apply Kd.N_alloc | apply Kd.N_drewN | apply Kd.N_drew)); exact Kd.N_mono (Kd.N_far (p := ⟨gb774, 0, none⟩) (Kd.N_mono HO_7.out (fun k_ hk => (⟨hk, hk.2.2.2⟩ : _ ∧ k_ ≠ gb774))) (fun _ hk => hk.2) (.slice Ao17 t775.length co17)) (fun _ hk => ⟨hk.1.1, ⟨hk.1.2.1, ⟨hk.1.2.2.1, hk.1.2.2.2⟩⟩⟩)))⟩; have n2_ : Aside0 (Kd.R (Kd.int .i64) 3 w19 w.heap.size (fun k_ => (w.heap.size ≤ k_)) u8 x8_1) := ⟨(by rw [hw]; exact (by (with_reducible repeat (first | apply Kd.R_alloc | apply Kd.R_drewN | apply Kd.R_drew)); exact Kd.R_mono (Kd.R_far (p := ⟨gb774, 0, none⟩) (Kd.R_types HO_8.out BK774.out (by decide)) (fun _ hk => hk.2) (.slice Ao17 t775.length co17)) (fun _ hk => hk.1)))⟩; have n3_ : Aside0 (Kd.N k53 53 w19 w.heap.size (fun k_ => (P0_ k_ ∨ w.heap.size ≤ k_) ∧ some k_ ≠ (u7 : Value).ownBlock ∧ some k_ ≠ (u8 : Value).ownBlock ∧ k_ ≠ gb774) u9 x9_1) := ⟨(by rw [hw]; exact (by (with_reducible repeat (first | apply Kd.N_alloc | apply Kd.N_drewN | apply Kd.N_drew)); exact Kd.N_mono (Kd.N_far (p := ⟨gb774, 0, none⟩) (Kd.N_mono HO_9.out (fun k_ hk => (⟨hk, hk.2.2.2⟩ : _ ∧ k_ ≠ gb774))) (fun _ hk => hk.2) (.slice Ao17 t775.length co17)) (fun _ hk => ⟨hk.1.1, ⟨hk.1.2.1, ⟨hk.1.2.2.1, hk.1.2.2.2⟩⟩⟩)))⟩; have n4_ : Aside0 (Kd.V k32 32 w19 w.heap.size (fun k_ => (P0_ k_ ∨ w.heap.size ≤ k_) ∧ some k_ ≠ (u7 : Value).ownBlock ∧ some k_ ≠ (u8 : Value).ownBlock ∧ some k_ ≠ (u9 : Value).ownBlock ∧ k_ ≠ gb774) (.slice A773_0 ((rd_T53 l0 (ji5)).f0).length c773_0) ((rd_T53 l0 (ji5)).f0)) := ⟨(by rw [hw]; exact (by (with_reducible repeat (first | apply Kd.V_alloc | apply Kd.V_drewN | apply Kd.V_drew)); exact Kd.V_mono (Kd.V_far (p := ⟨gb774, 0, none⟩) (Kd.V_mono HL773_0.out (fun k_ hk => (⟨hk, hk.2.2.2.2⟩ : _ ∧ k_ ≠ gb774))) (fun _ hk => hk.2) (.slice Ao17 t775.length co17)) (fun _ hk => ⟨hk.1.1, ⟨hk.1.2.1, ⟨hk.1.2.2.1, ⟨hk.1.2.2.2.1, hk.1.2.2.2.2⟩⟩⟩⟩)))⟩; have n5_ : Aside0 (Kd.V k27 27 w19 w.heap.size (fun k_ => (P0_ k_ ∨ w.heap.size ≤ k_) ∧ some k_ ≠ (u7 : Value).ownBlock ∧ some k_ ≠ (u8 : Value).ownBlock ∧ some k_ ≠ (u9 : Value).ownBlock ∧ k_ ≠ gb774) (.slice A773_1 ((rd_T53 l0 (ji5)).f1).length c773_1) ((rd_T53 l0 (ji5)).f1)) := ⟨(by rw [hw]; exact (by (with_reducible repeat (first | apply Kd.V_alloc | apply Kd.V_drewN | apply Kd.V_drew)); exact Kd.V_mono (Kd.V_far (p := ⟨gb774, 0, none⟩) (Kd.V_mono HL773_1.out (fun k_ hk => (⟨hk, hk.2.2.2.2⟩ : _ ∧ k_ ≠ gb774))) (fun _ hk => hk.2) (.slice Ao17 t775.length co17)) (fun _ hk => ⟨hk.1.1, ⟨hk.1.2.1, ⟨hk.1.2.2.1, ⟨hk.1.2.2.2.1, hk.1.2.2.2.2⟩⟩⟩⟩)))⟩; have n6_ : Aside0 (Kd.V k32 32 w19 w.heap.size (fun k_ => (P0_ k_ ∨ w.heap.size ≤ k_) ∧ some k_ ≠ (u7 : Value).ownBlock ∧ some k_ ≠ (u8 : Value).ownBlock ∧ some k_ ≠ (u9 : Value).ownBlock ∧ k_ ≠ gb774) (.slice Ao17 t775.length co17) t775) := ⟨(by rw [hw]; exact (by (with_reducible repeat (first | apply Kd.V_alloc | apply Kd.V_drewN | apply Kd.V_drew)); exact Kd.V_mono (Kd.V_far (p := ⟨gb774, 0, none⟩) (Kd.V_mono HO777.out (fun k_ hk => (⟨hk, hk.2.2.2.2⟩ : _ ∧ k_ ≠ gb774))) (fun _ hk => hk.2) (.slice Ao17 t775.length co17)) (fun _ hk => ⟨hk.1.1, ⟨hk.1.2.1, ⟨hk.1.2.2.1, ⟨hk.1.2.2.2.1, hk.1.2.2.2.2⟩⟩⟩⟩)))⟩; have n7_ : Aside0 (w19.heap[gb774]? = some (.cells #[.slice Ao17 t775.length co17, .slice A773_1 ((rd_T53 l0 (ji5)).f1).length c773_1, .int .i64 ((rd_T53 l0 (ji5)).f2), .int .u64 ((rd_T53 l0 (ji5)).f3.f0), .int .i64 ((rd_T53 l0 (ji5)).f3.f1)] 53 (0, 0))) := ⟨(by rw [hw]; exact (by (with_reducible repeat (first | refine blk_drewN ?_ _ | refine blk_drew ?_ | refine blk_alloc ?_ _)); refine blk_put (cs := #[.slice A773_0 ((rd_T53 l0 (ji5)).f0).length c773_0, .slice A773_1 ((rd_T53 l0 (ji5)).f1).length c773_1, .int .i64 ((rd_T53 l0 (ji5)).f2), .int .u64 ((rd_T53 l0 (ji5)).f3.f0), .int .i64 ((rd_T53 l0 (ji5)).f3.f1)]) ?_ 0 _ rfl; (with_reducible repeat (first | refine blk_drewN ?_ _ | refine blk_drew ?_ | refine blk_alloc ?_ _)); exact BK774.out))⟩; have n8_ : Aside0 (Below w.heap.size w w19) := ⟨(by rw [hw]; exact zb_)⟩; clear hw; clear HO_0; clear HO_7; clear HO_8; clear HO_9; clear HL773_0; clear HL773_1; clear HO777; clear BK774; clear HB; have HO_0 := n0_; have HO_7 := n1_; have HO_8 := n2_; have HO_9 := n3_; have HL773_0 := n4_; have HL773_1 := n5_; have HO777 := n6_; have BK774 := n7_; have HB := n8_; clear n0_ n1_ n2_ n3_ n4_ n5_ n6_ n7_ n8_; have hcz20_0 : w19.cell? ⟨gb774, 0, none⟩ = some (.slice Ao17 t775.length co17) := (blk_cell BK774.out 0).trans rfl; have hcz20_1 : w19.cell? ⟨gb774, 1, none⟩ = some (.slice A773_1 ((rd_T53 l0 (ji5)).f1).length c773_1) := (blk_cell BK774.out 1).trans rfl; have hcz20_2 : w19.cell? ⟨gb774, 2, none⟩ = some (.int .i64 ((rd_T53 l0 (ji5)).f2)) := (blk_cell BK774.out 2).trans rfl; have hcz20_3 : w19.cell? ⟨gb774, 3, none⟩ = some (.int .u64 ((rd_T53 l0 (ji5)).f3.f0)) := (blk_cell BK774.out 3).trans rfl; have hcz20_4 : w19.cell? ⟨gb774, 4, none⟩ = some (.int .i64 ((rd_T53 l0 (ji5)).f3.f1)) := (blk_cell BK774.out 4).trans rfl; have hfz20_0 := blk_frozen BK774.out 0; have hfz20_1 := blk_frozen BK774.out 1; have hfz20_2 := blk_frozen BK774.out 2; have hfz20_3 := blk_frozen BK774.out 3; have hfz20_4 := blk_frozen BK774.out 4) | ((with_reducible refine gate_builtin (b := .append) (xs := #[.tmp 34, .tmp 38]) rfl ?_); at_builtin; refine Kd.N_append k87 (w0 := w) w.heap.size rfl (.tmp 34) (.tmp 38) 71 87 (.agg #[(.int .i64 0), (.slice none 0 0), (.slice none 0 0), (.int .i64 0), (.int .u64 0), (.int .i64 0)]) 80 rfl Try.underlying71 info87 rfl (by decide) (by omega) u7 x7_1 (⟨ji5, (⟨t775, (rd_T53 l0 (ji5)).f1, (rd_T53 l0 (ji5)).f2, (⟨(rd_T53 l0 (ji5)).f3.f0, (rd_T53 l0 (ji5)).f3.f1⟩ : S25)⟩ : S53)⟩ : S87) [.int .i64 ji5, .slice Ao17 t775.length co17, .slice A773_1 ((rd_T53 l0 (ji5)).f1).length c773_1, .int .i64 ((rd_T53 l0 (ji5)).f2), .int .u64 ((rd_T53 l0 (ji5)).f3.f0), .int .i64 ((rd_T53 l0 (ji5)).f3.f1)] (fun k_ => (P0_ k_ ∨ w.heap.size ≤ k_) ∧ some k_ ≠ (u8 : Value).ownBlock ∧ some k_ ≠ (u9 : Value).ownBlock ∧ k_ ≠ gb774) (fun k_ => ((fun k_ => (P0_ k_ ∨ w.heap.size ≤ k_) ∧ some k_ ≠ (u8 : Value).ownBlock ∧ some k_ ≠ (u9 : Value).ownBlock ∧ k_ ≠ gb774)) k_ ∧ some k_ ≠ (u7 : Value).ownBlock) rfl rfl ?aP (fun _ hk => hk) ?aF ?aO ?aB ?aS ?aL ?_; (case aP => first | exact (k87_mkF _ _ (⟨ji5, (⟨t775, (rd_T53 l0 (ji5)).f1, (rd_T53 l0 (ji5)).f2, (⟨(rd_T53 l0 (ji5)).f3.f0, (rd_T53 l0 (ji5)).f3.f1⟩ : S25)⟩ : S53)⟩ : S87) (Kd.V_reads' (Kd.V_mono (ok' := (fun k_ => ((fun k_ => (P0_ k_ ∨ w.heap.size ≤ k_) ∧ some k_ ≠ (u8 : Value).ownBlock ∧ some k_ ≠ (u9 : Value).ownBlock ∧ k_ ≠ gb774)) k_ ∧ some k_ ≠ (u7 : Value).ownBlock)) (HO777.out) (fun k_ hk => ⟨⟨hk.1, ⟨hk.2.2.1, ⟨hk.2.2.2.1, hk.2.2.2.2⟩⟩⟩, hk.2.1⟩))).2.1 (Kd.V_F (Kd.V_mono (ok' := (fun k_ => ((fun k_ => (P0_ k_ ∨ w.heap.size ≤ k_) ∧ some k_ ≠ (u8 : Value).ownBlock ∧ some k_ ≠ (u9 : Value).ownBlock ∧ k_ ≠ gb774)) k_ ∧ some k_ ≠ (u7 : Value).ownBlock)) (HO777.out) (fun k_ hk => ⟨⟨hk.1, ⟨hk.2.2.1, ⟨hk.2.2.2.1, hk.2.2.2.2⟩⟩⟩, hk.2.1⟩))) (Kd.V_reads' (Kd.V_mono (ok' := (fun k_ => ((fun k_ => (P0_ k_ ∨ w.heap.size ≤ k_) ∧ some k_ ≠ (u8 : Value).ownBlock ∧ some k_ ≠ (u9 : Value).ownBlock ∧ k_ ≠ gb774)) k_ ∧ some k_ ≠ (u7 : Value).ownBlock)) (HL773_1.out) (fun k_ hk => ⟨⟨hk.1, ⟨hk.2.2.1, ⟨hk.2.2.2.1, hk.2.2.2.2⟩⟩⟩, hk.2.1⟩))).2.1 (Kd.V_F (Kd.V_mono (ok' := (fun k_ => ((fun k_ => (P0_ k_ ∨ w.heap.size ≤ k_) ∧ some k_ ≠ (u8 : Value).ownBlock ∧ some k_ ≠ (u9 : Value).ownBlock ∧ k_ ≠ gb774)) k_ ∧ some k_ ≠ (u7 : Value).ownBlock)) (HL773_1.out) (fun k_ hk => ⟨⟨hk.1, ⟨hk.2.2.1, ⟨hk.2.2.2.1, hk.2.2.2.2⟩⟩⟩, hk.2.1⟩)))) | exact (k87_mkF _ _ (⟨ji5, (⟨t775, (rd_T53 l0 (ji5)).f1, (rd_T53 l0 (ji5)).f2, (⟨(rd_T53 l0 (ji5)).f3.f0, (rd_T53 l0 (ji5)).f3.f1⟩ : S25)⟩ : S53)⟩ : S87) (Kd.V_reads' (Kd.V_mono (ok' := (fun k_ => ((fun k_ => (P0_ k_ ∨ w.heap.size ≤ k_) ∧ some k_ ≠ (u8 : Value).ownBlock ∧ some k_ ≠ (u9 : Value).ownBlock ∧ k_ ≠ gb774)) k_ ∧ some k_ ≠ (u7 : Value).ownBlock)) (HO777.out) (fun k_ hk => ⟨⟨hk.1, ⟨hk.2.2.1, ⟨hk.2.2.2.1, hk.2.2.2.2⟩⟩⟩, hk.2.1⟩))).2.1 (Kd.V_F (Kd.V_mono (ok' := (fun k_ => ((fun k_ => (P0_ k_ ∨ w.heap.size ≤ k_) ∧ some k_ ≠ (u8 : Value).ownBlock ∧ some k_ ≠ (u9 : Value).ownBlock ∧ k_ ≠ gb774)) k_ ∧ some k_ ≠ (u7 : Value).ownBlock)) (Kd.V_drewN HO777.out _) (fun k_ hk => ⟨⟨hk.1, ⟨hk.2.2.1, ⟨hk.2.2.2.1, hk.2.2.2.2⟩⟩⟩, hk.2.1⟩))) (Kd.V_reads' (Kd.V_mono (ok' := (fun k_ => ((fun k_ => (P0_ k_ ∨ w.heap.size ≤ k_) ∧ some k_ ≠ (u8 : Value).ownBlock ∧ some k_ ≠ (u9 : Value).ownBlock ∧ k_ ≠ gb774)) k_ ∧ some k_ ≠ (u7 : Value).ownBlock)) (HL773_1.out) (fun k_ hk => ⟨⟨hk.1, ⟨hk.2.2.1, ⟨hk.2.2.2.1, hk.2.2.2.2⟩⟩⟩, hk.2.1⟩))).2.1 (Kd.V_F (Kd.V_mono (ok' := (fun k_ => ((fun k_ => (P0_ k_ ∨ w.heap.size ≤ k_) ∧ some k_ ≠ (u8 : Value).ownBlock ∧ some k_ ≠ (u9 : Value).ownBlock ∧ k_ ≠ gb774)) k_ ∧ some k_ ≠ (u7 : Value).ownBlock)) (Kd.V_drewN HL773_1.out _) (fun k_ hk => ⟨⟨hk.1, ⟨hk.2.2.1, ⟨hk.2.2.2.1, hk.2.2.2.2⟩⟩⟩, hk.2.1⟩))))); (case aB => exact zb_); (case aF => exact (fun k_ hk => ⟨(.inr (Nat.le_trans (below_size zb_) hk)), Kd.fresh' (Kd.R_lt (zr_ HO_8)) k_ hk, Kd.fresh' (Kd.N_lt (zn_ HO_9)) k_ hk, Kd.freshB (g := gb774) (o := .cells #[.slice Ao17 t775.length co17, .slice A773_1 ((rd_T53 l0 (ji5)).f1).length c773_1, .int .i64 ((rd_T53 l0 (ji5)).f2), .int .u64 ((rd_T53 l0 (ji5)).f3.f0), .int .i64 ((rd_T53 l0 (ji5)).f3.f1)] 53 (0, 0)) (by (with_reducible repeat (first | refine blk_drewN ?_ _ | refine blk_drew ?_ | refine blk_alloc ?_ _)); exact BK774.out) k_ hk⟩)); (case aO => exact (zn_ HO_7)); (case aS => exact (below_size zb_)); (case aL => have := LMc9.out; omega); intro v779 w21 ho hb hg hat; rw [← Ny778.out] at ho; have n0_ := Aside0.mk (Kd.V_afterv (ok := (fun k_ => (P0_ k_ ∨ w.heap.size ≤ k_) ∧ some k_ ≠ (u8 : Value).ownBlock ∧ some k_ ≠ (u9 : Value).ownBlock ∧ k_ ≠ gb774)) (by (with_reducible repeat (first | apply Kd.V_alloc | apply Kd.V_drewN | apply Kd.V_drew)); exact Kd.V_mono HO_0.out (fun _ hk => ⟨⟨hk.1, ⟨hk.2.2.1, ⟨hk.2.2.2.1, hk.2.2.2.2⟩⟩⟩, hk.2.1⟩)) hg hat); have n1_ := Aside0.mk (Kd.R_over' (zr_ HO_8) (Kd.N_typed (zn_ HO_7)) (by decide) hg); have n2_ := Aside0.mk (Kd.N_afterv (ok := (fun k_ => (P0_ k_ ∨ w.heap.size ≤ k_) ∧ some k_ ≠ (u8 : Value).ownBlock ∧ k_ ≠ gb774)) (by (with_reducible repeat (first | apply Kd.N_alloc | apply Kd.N_drewN | apply Kd.N_drew)); exact Kd.N_mono HO_9.out (fun _ hk => ⟨⟨hk.1, ⟨hk.2.2.1, hk.2.2.2⟩⟩, hk.2.1⟩)) hg hat); have n3_ := Aside0.mk (Kd.V_afterv (ok := (fun k_ => (P0_ k_ ∨ w.heap.size ≤ k_) ∧ some k_ ≠ (u8 : Value).ownBlock ∧ some k_ ≠ (u9 : Value).ownBlock ∧ k_ ≠ gb774)) (by (with_reducible repeat (first | apply Kd.V_alloc | apply Kd.V_drewN | apply Kd.V_drew)); exact Kd.V_mono HL773_0.out (fun _ hk => ⟨⟨hk.1, ⟨hk.2.2.1, ⟨hk.2.2.2.1, hk.2.2.2.2⟩⟩⟩, hk.2.1⟩)) hg hat); have n4_ := Aside0.mk (Kd.V_afterv (ok := (fun k_ => (P0_ k_ ∨ w.heap.size ≤ k_) ∧ some k_ ≠ (u8 : Value).ownBlock ∧ some k_ ≠ (u9 : Value).ownBlock ∧ k_ ≠ gb774)) (by (with_reducible repeat (first | apply Kd.V_alloc | apply Kd.V_drewN | apply Kd.V_drew)); exact Kd.V_mono HL773_1.out (fun _ hk => ⟨⟨hk.1, ⟨hk.2.2.1, ⟨hk.2.2.2.1, hk.2.2.2.2⟩⟩⟩, hk.2.1⟩)) hg hat); have n5_ := Aside0.mk (blk_grown (g := gb774) (o := .cells #[.slice Ao17 t775.length co17, .slice A773_1 ((rd_T53 l0 (ji5)).f1).length c773_1, .int .i64 ((rd_T53 l0 (ji5)).f2), .int .u64 ((rd_T53 l0 (ji5)).f3.f0), .int .i64 ((rd_T53 l0 (ji5)).f3.f1)] 53 (0, 0)) (by (with_reducible repeat (first | refine blk_drewN ?_ _ | refine blk_drew ?_ | refine blk_alloc ?_ _)); exact BK774.out) hg (Kd.N_ne HO_7.out BK774.out (by decide))); have n6_ := Aside0.mk (Kd.V_afterv (ok := (fun k_ => (P0_ k_ ∨ w.heap.size ≤ k_) ∧ some k_ ≠ (u8 : Value).ownBlock ∧ some k_ ≠ (u9 : Value).ownBlock ∧ k_ ≠ gb774)) (by (with_reducible repeat (first | apply Kd.V_alloc | apply Kd.V_drewN | apply Kd.V_drew)); exact Kd.V_mono HO777.out (fun _ hk => ⟨⟨hk.1, ⟨hk.2.2.1, ⟨hk.2.2.2.1, hk.2.2.2.2⟩⟩⟩, hk.2.1⟩)) hg hat); have n7_ := Aside0.mk (hb); have n8_ := Aside0.mk (ho); clear HO_0; clear HO_8; clear HO_9; clear HL773_0; clear HL773_1; clear BK774; clear HO777; clear HB; clear HO_7; have HO_0 := n0_; have HO_8 := n1_; have HO_9 := n2_; have HL773_0 := n3_; have HL773_1 := n4_; have BK774 := n5_; have HO777 := n6_; have HB := n7_; have HO780 := n8_; clear n0_ n1_ n2_ n3_ n4_ n5_ n6_ n7_ n8_; clear ho hb hg hat) | ((with_reducible refine gate_builtin (b := .append) (xs := #[.tmp 40, .tmp 42]) rfl ?_); at_builtin; refine Kd.R_append (Kd.int .i64) (w0 := w) w.heap.size rfl (.tmp 40) (.tmp 42) 72 3 (.int .i64 0) 8 rfl Try.underlying72 info3 rfl (by decide) (by omega) u8 x8_1 ji5 [.int .i64 ji5] (fun k_ => (w.heap.size ≤ k_)) (fun _ => False) rfl rfl ?aP (fun _ hk => hk.elim) ?aF ?aO ?aB ?aS ?aL ?_; (case aP => exact rfl); (case aB => exact zb_); (case aF => exact (fun k_ hk => (Nat.le_trans (below_size zb_) hk))); (case aO => exact (zr_ HO_8)); (case aS => exact (below_size zb_)); (case aL => have := LMc10.out; omega); intro v782 w22 ho hb hg hat; rw [← Ny781.out] at ho; have n0_ := Aside0.mk (Kd.V_afterv (ok := (fun k_ => (P0_ k_ ∨ w.heap.size ≤ k_) ∧ some k_ ≠ (u9 : Value).ownBlock ∧ some k_ ≠ (v779 : Value).ownBlock ∧ k_ ≠ gb774)) (by (with_reducible repeat (first | apply Kd.V_alloc | apply Kd.V_drewN | apply Kd.V_drew)); exact Kd.V_mono HO_0.out (fun _ hk => ⟨⟨hk.1.1, ⟨hk.1.2.2.1, ⟨hk.2, hk.1.2.2.2⟩⟩⟩, hk.1.2.1⟩)) hg hat); have n1_ := Aside0.mk (Kd.N_afterv (ok := (fun k_ => (P0_ k_ ∨ w.heap.size ≤ k_) ∧ some k_ ≠ (v779 : Value).ownBlock ∧ k_ ≠ gb774)) (by (with_reducible repeat (first | apply Kd.N_alloc | apply Kd.N_drewN | apply Kd.N_drew)); exact Kd.N_mono HO_9.out (fun _ hk => ⟨⟨hk.1.1, ⟨hk.2, hk.1.2.2⟩⟩, hk.1.2.1⟩)) hg hat); have n2_ := Aside0.mk (Kd.V_afterv (ok := (fun k_ => (P0_ k_ ∨ w.heap.size ≤ k_) ∧ some k_ ≠ (u9 : Value).ownBlock ∧ some k_ ≠ (v779 : Value).ownBlock ∧ k_ ≠ gb774)) (by (with_reducible repeat (first | apply Kd.V_alloc | apply Kd.V_drewN | apply Kd.V_drew)); exact Kd.V_mono HL773_0.out (fun _ hk => ⟨⟨hk.1.1, ⟨hk.1.2.2.1, ⟨hk.2, hk.1.2.2.2⟩⟩⟩, hk.1.2.1⟩)) hg hat); have n3_ := Aside0.mk (Kd.V_afterv (ok := (fun k_ => (P0_ k_ ∨ w.heap.size ≤ k_) ∧ some k_ ≠ (u9 : Value).ownBlock ∧ some k_ ≠ (v779 : Value).ownBlock ∧ k_ ≠ gb774)) (by (with_reducible repeat (first | apply Kd.V_alloc | apply Kd.V_drewN | apply Kd.V_drew)); exact Kd.V_mono HL773_1.out (fun _ hk => ⟨⟨hk.1.1, ⟨hk.1.2.2.1, ⟨hk.2, hk.1.2.2.2⟩⟩⟩, hk.1.2.1⟩)) hg hat); have n4_ := Aside0.mk (blk_grown (g := gb774) (o := .cells #[.slice Ao17 t775.length co17, .slice A773_1 ((rd_T53 l0 (ji5)).f1).length c773_1, .int .i64 ((rd_T53 l0 (ji5)).f2), .int .u64 ((rd_T53 l0 (ji5)).f3.f0), .int .i64 ((rd_T53 l0 (ji5)).f3.f1)] 53 (0, 0)) (by (with_reducible repeat (first | refine blk_drewN ?_ _ | refine blk_drew ?_ | refine blk_alloc ?_ _)); exact BK774.out) hg (Kd.R_ne HO_8.out BK774.out (by decide))); have n5_ := Aside0.mk (Kd.V_afterv (ok := (fun k_ => (P0_ k_ ∨ w.heap.size ≤ k_) ∧ some k_ ≠ (u9 : Value).ownBlock ∧ some k_ ≠ (v779 : Value).ownBlock ∧ k_ ≠ gb774)) (by (with_reducible repeat (first | apply Kd.V_alloc | apply Kd.V_drewN | apply Kd.V_drew)); exact Kd.V_mono HO777.out (fun _ hk => ⟨⟨hk.1.1, ⟨hk.1.2.2.1, ⟨hk.2, hk.1.2.2.2⟩⟩⟩, hk.1.2.1⟩)) hg hat); have n6_ := Aside0.mk (Kd.N_afterv (ok := (fun k_ => (P0_ k_ ∨ w.heap.size ≤ k_) ∧ some k_ ≠ (u9 : Value).ownBlock ∧ k_ ≠ gb774)) (by (with_reducible repeat (first | apply Kd.N_alloc | apply Kd.N_drewN | apply Kd.N_drew)); exact Kd.N_mono HO780.out (fun _ hk => ⟨⟨hk.1, ⟨hk.2.2.1, hk.2.2.2⟩⟩, hk.2.1⟩)) hg hat); have n7_ := Aside0.mk (hb); have n8_ := Aside0.mk (ho); clear HO_0; clear HO_9; clear HL773_0; clear HL773_1; clear BK774; clear HO777; clear HO780; clear HB; clear HO_8; have HO_0 := n0_; have HO_9 := n1_; have HL773_0 := n2_; have HL773_1 := n3_; have BK774 := n4_; have HO777 := n5_; have HO780 := n6_; have HB := n7_; have HO783 := n8_; clear n0_ n1_ n2_ n3_ n4_ n5_ n6_ n7_ n8_; clear ho hb hg hat; have hcz23_0 : w22.cell? ⟨gb774, 0, none⟩ = some (.slice Ao17 t775.length co17) := (blk_cell BK774.out 0).trans rfl; have hcz23_1 : w22.cell? ⟨gb774, 1, none⟩ = some (.slice A773_1 ((rd_T53 l0 (ji5)).f1).length c773_1) := (blk_cell BK774.out 1).trans rfl; have hcz23_2 : w22.cell? ⟨gb774, 2, none⟩ = some (.int .i64 ((rd_T53 l0 (ji5)).f2)) := (blk_cell BK774.out 2).trans rfl; have hcz23_3 : w22.cell? ⟨gb774, 3, none⟩ = some (.int .u64 ((rd_T53 l0 (ji5)).f3.f0)) := (blk_cell BK774.out 3).trans rfl; have hcz23_4 : w22.cell? ⟨gb774, 4, none⟩ = some (.int .i64 ((rd_T53 l0 (ji5)).f3.f1)) := (blk_cell BK774.out 4).trans rfl; have hfz23_0 := blk_frozen BK774.out 0; have hfz23_1 := blk_frozen BK774.out 1; have hfz23_2 := blk_frozen BK774.out 2; have hfz23_3 := blk_frozen BK774.out 3; have hfz23_4 := blk_frozen BK774.out 4) | ((with_reducible refine gate_builtin (b := .append) (xs := #[.tmp 44, .tmp 46]) rfl ?_); at_builtin; refine Kd.N_append k53 (w0 := w) w.heap.size rfl (.tmp 44) (.tmp 46) 69 53 (.agg #[(.slice none 0 0), (.slice none 0 0), (.int .i64 0), (.int .u64 0), (.int .i64 0)]) 72 rfl Try.underlying69 info53 rfl (by decide) (by omega) u9 x9_1 (⟨t775, (rd_T53 l0 (ji5)).f1, (rd_T53 l0 (ji5)).f2, (⟨(rd_T53 l0 (ji5)).f3.f0, (rd_T53 l0 (ji5)).f3.f1⟩ : S25)⟩ : S53) [.slice Ao17 t775.length co17, .slice A773_1 ((rd_T53 l0 (ji5)).f1).length c773_1, .int .i64 ((rd_T53 l0 (ji5)).f2), .int .u64 ((rd_T53 l0 (ji5)).f3.f0), .int .i64 ((rd_T53 l0 (ji5)).f3.f1)] (fun k_ => (P0_ k_ ∨ w.heap.size ≤ k_) ∧ some k_ ≠ (v779 : Value).ownBlock ∧ some k_ ≠ (v782 : Value).ownBlock ∧ k_ ≠ gb774) (fun k_ => ((fun k_ => (P0_ k_ ∨ w.heap.size ≤ k_) ∧ some k_ ≠ (v779 : Value).ownBlock ∧ some k_ ≠ (v782 : Value).ownBlock ∧ k_ ≠ gb774)) k_ ∧ some k_ ≠ (u9 : Value).ownBlock) rfl rfl ?aP (fun _ hk => hk) ?aF ?aO ?aB ?aS ?aL ?_; (case aP => first | exact (k53_mkF _ _ (⟨t775, (rd_T53 l0 (ji5)).f1, (rd_T53 l0 (ji5)).f2, (⟨(rd_T53 l0 (ji5)).f3.f0, (rd_T53 l0 (ji5)).f3.f1⟩ : S25)⟩ : S53) (Kd.V_reads' (Kd.V_mono (ok' := (fun k_ => ((fun k_ => (P0_ k_ ∨ w.heap.size ≤ k_) ∧ some k_ ≠ (v779 : Value).ownBlock ∧ some k_ ≠ (v782 : Value).ownBlock ∧ k_ ≠ gb774)) k_ ∧ some k_ ≠ (u9 : Value).ownBlock)) (HO777.out) (fun k_ hk => ⟨⟨hk.1.1, ⟨hk.1.2.2.1, ⟨hk.2, hk.1.2.2.2⟩⟩⟩, hk.1.2.1⟩))).2.1 (Kd.V_F (Kd.V_mono (ok' := (fun k_ => ((fun k_ => (P0_ k_ ∨ w.heap.size ≤ k_) ∧ some k_ ≠ (v779 : Value).ownBlock ∧ some k_ ≠ (v782 : Value).ownBlock ∧ k_ ≠ gb774)) k_ ∧ some k_ ≠ (u9 : Value).ownBlock)) (HO777.out) (fun k_ hk => ⟨⟨hk.1.1, ⟨hk.1.2.2.1, ⟨hk.2, hk.1.2.2.2⟩⟩⟩, hk.1.2.1⟩))) (Kd.V_reads' (Kd.V_mono (ok' := (fun k_ => ((fun k_ => (P0_ k_ ∨ w.heap.size ≤ k_) ∧ some k_ ≠ (v779 : Value).ownBlock ∧ some k_ ≠ (v782 : Value).ownBlock ∧ k_ ≠ gb774)) k_ ∧ some k_ ≠ (u9 : Value).ownBlock)) (HL773_1.out) (fun k_ hk => ⟨⟨hk.1.1, ⟨hk.1.2.2.1, ⟨hk.2, hk.1.2.2.2⟩⟩⟩, hk.1.2.1⟩))).2.1 (Kd.V_F (Kd.V_mono (ok' := (fun k_ => ((fun k_ => (P0_ k_ ∨ w.heap.size ≤ k_) ∧ some k_ ≠ (v779 : Value).ownBlock ∧ some k_ ≠ (v782 : Value).ownBlock ∧ k_ ≠ gb774)) k_ ∧ some k_ ≠ (u9 : Value).ownBlock)) (HL773_1.out) (fun k_ hk => ⟨⟨hk.1.1, ⟨hk.1.2.2.1, ⟨hk.2, hk.1.2.2.2⟩⟩⟩, hk.1.2.1⟩)))) | exact (k53_mkF _ _ (⟨t775, (rd_T53 l0 (ji5)).f1, (rd_T53 l0 (ji5)).f2, (⟨(rd_T53 l0 (ji5)).f3.f0, (rd_T53 l0 (ji5)).f3.f1⟩ : S25)⟩ : S53) (Kd.V_reads' (Kd.V_mono (ok' := (fun k_ => ((fun k_ => (P0_ k_ ∨ w.heap.size ≤ k_) ∧ some k_ ≠ (v779 : Value).ownBlock ∧ some k_ ≠ (v782 : Value).ownBlock ∧ k_ ≠ gb774)) k_ ∧ some k_ ≠ (u9 : Value).ownBlock)) (HO777.out) (fun k_ hk => ⟨⟨hk.1.1, ⟨hk.1.2.2.1, ⟨hk.2, hk.1.2.2.2⟩⟩⟩, hk.1.2.1⟩))).2.1 (Kd.V_F (Kd.V_mono (ok' := (fun k_ => ((fun k_ => (P0_ k_ ∨ w.heap.size ≤ k_) ∧ some k_ ≠ (v779 : Value).ownBlock ∧ some k_ ≠ (v782 : Value).ownBlock ∧ k_ ≠ gb774)) k_ ∧ some k_ ≠ (u9 : Value).ownBlock)) (Kd.V_drewN HO777.out _) (fun k_ hk => ⟨⟨hk.1.1, ⟨hk.1.2.2.1, ⟨hk.2, hk.1.2.2.2⟩⟩⟩, hk.1.2.1⟩))) (Kd.V_reads' (Kd.V_mono (ok' := (fun k_ => ((fun k_ => (P0_ k_ ∨ w.heap.size ≤ k_) ∧ some k_ ≠ (v779 : Value).ownBlock ∧ some k_ ≠ (v782 : Value).ownBlock ∧ k_ ≠ gb774)) k_ ∧ some k_ ≠ (u9 : Value).ownBlock)) (HL773_1.out) (fun k_ hk => ⟨⟨hk.1.1, ⟨hk.1.2.2.1, ⟨hk.2, hk.1.2.2.2⟩⟩⟩, hk.1.2.1⟩))).2.1 (Kd.V_F (Kd.V_mono (ok' := (fun k_ => ((fun k_ => (P0_ k_ ∨ w.heap.size ≤ k_) ∧ some k_ ≠ (v779 : Value).ownBlock ∧ some k_ ≠ (v782 : Value).ownBlock ∧ k_ ≠ gb774)) k_ ∧ some k_ ≠ (u9 : Value).ownBlock)) (Kd.V_drewN HL773_1.out _) (fun k_ hk => ⟨⟨hk.1.1, ⟨hk.1.2.2.1, ⟨hk.2, hk.1.2.2.2⟩⟩⟩, hk.1.2.1⟩))))); (case aB => exact zb_); (case aF => exact (fun k_ hk => ⟨(.inr (Nat.le_trans (below_size zb_) hk)), Kd.fresh' (Kd.N_lt (zn_ HO780)) k_ hk, Kd.fresh' (Kd.R_lt (zr_ HO783)) k_ hk, Kd.freshB (g := gb774) (o := .cells #[.slice Ao17 t775.length co17, .slice A773_1 ((rd_T53 l0 (ji5)).f1).length c773_1, .int .i64 ((rd_T53 l0 (ji5)).f2), .int .u64 ((rd_T53 l0 (ji5)).f3.f0), .int .i64 ((rd_T53 l0 (ji5)).f3.f1)] 53 (0, 0)) (by (with_reducible repeat (first | refine blk_drewN ?_ _ | refine blk_drew ?_ | refine blk_alloc ?_ _)); exact BK774.out) k_ hk⟩)); (case aO => exact (by (with_reducible repeat (first | apply Kd.N_alloc | apply Kd.N_drewN | apply Kd.N_drew)); exact Kd.N_mono HO_9.out (fun _ hk => ⟨hk.1.1, ⟨hk.1.2.1, ⟨hk.2, hk.1.2.2⟩⟩⟩))); (case aS => exact (below_size zb_)); (case aL => have := LMc11.out; omega); intro v785 w24 ho hb hg hat; rw [← Ny784.out] at ho; have n0_ := Aside0.mk (Kd.V_afterv (ok := (fun k_ => (P0_ k_ ∨ w.heap.size ≤ k_) ∧ some k_ ≠ (v779 : Value).ownBlock ∧ some k_ ≠ (v782 : Value).ownBlock ∧ k_ ≠ gb774)) (by (with_reducible repeat (first | apply Kd.V_alloc | apply Kd.V_drewN | apply Kd.V_drew)); exact Kd.V_mono HO_0.out (fun _ hk => ⟨⟨hk.1.1, ⟨hk.1.2.2.1, ⟨hk.2, hk.1.2.2.2⟩⟩⟩, hk.1.2.1⟩)) hg hat); have n1_ := Aside0.mk (Kd.V_afterv (ok := (fun k_ => (P0_ k_ ∨ w.heap.size ≤ k_) ∧ some k_ ≠ (v779 : Value).ownBlock ∧ some k_ ≠ (v782 : Value).ownBlock ∧ k_ ≠ gb774)) (by (with_reducible repeat (first | apply Kd.V_alloc | apply Kd.V_drewN | apply Kd.V_drew)); exact Kd.V_mono HL773_0.out (fun _ hk => ⟨⟨hk.1.1, ⟨hk.1.2.2.1, ⟨hk.2, hk.1.2.2.2⟩⟩⟩, hk.1.2.1⟩)) hg hat); have n2_ := Aside0.mk (Kd.V_afterv (ok := (fun k_ => (P0_ k_ ∨ w.heap.size ≤ k_) ∧ some k_ ≠ (v779 : Value).ownBlock ∧ some k_ ≠ (v782 : Value).ownBlock ∧ k_ ≠ gb774)) (by (with_reducible repeat (first | apply Kd.V_alloc | apply Kd.V_drewN | apply Kd.V_drew)); exact Kd.V_mono HL773_1.out (fun _ hk => ⟨⟨hk.1.1, ⟨hk.1.2.2.1, ⟨hk.2, hk.1.2.2.2⟩⟩⟩, hk.1.2.1⟩)) hg hat); have n3_ := Aside0.mk (blk_grown (g := gb774) (o := .cells #[.slice Ao17 t775.length co17, .slice A773_1 ((rd_T53 l0 (ji5)).f1).length c773_1, .int .i64 ((rd_T53 l0 (ji5)).f2), .int .u64 ((rd_T53 l0 (ji5)).f3.f0), .int .i64 ((rd_T53 l0 (ji5)).f3.f1)] 53 (0, 0)) (by (with_reducible repeat (first | refine blk_drewN ?_ _ | refine blk_drew ?_ | refine blk_alloc ?_ _)); exact BK774.out) hg (Kd.N_away HO_9.out (fun _ hk => hk.1.2.2))); have n4_ := Aside0.mk (Kd.V_afterv (ok := (fun k_ => (P0_ k_ ∨ w.heap.size ≤ k_) ∧ some k_ ≠ (v779 : Value).ownBlock ∧ some k_ ≠ (v782 : Value).ownBlock ∧ k_ ≠ gb774)) (by (with_reducible repeat (first | apply Kd.V_alloc | apply Kd.V_drewN | apply Kd.V_drew)); exact Kd.V_mono HO777.out (fun _ hk => ⟨⟨hk.1.1, ⟨hk.1.2.2.1, ⟨hk.2, hk.1.2.2.2⟩⟩⟩, hk.1.2.1⟩)) hg hat); have n5_ := Aside0.mk (Kd.N_afterv (ok := (fun k_ => (P0_ k_ ∨ w.heap.size ≤ k_) ∧ some k_ ≠ (v782 : Value).ownBlock ∧ k_ ≠ gb774)) (by (with_reducible repeat (first | apply Kd.N_alloc | apply Kd.N_drewN | apply Kd.N_drew)); exact Kd.N_mono HO780.out (fun _ hk => ⟨⟨hk.1.1, ⟨hk.2, hk.1.2.2⟩⟩, hk.1.2.1⟩)) hg hat); have n6_ := Aside0.mk (Kd.R_over' (zr_ HO783) (Kd.N_typed (zn_ HO_9)) (by decide) hg); have n7_ := Aside0.mk (hb); have n8_ := Aside0.mk (ho); clear HO_0; clear HL773_0; clear HL773_1; clear BK774; clear HO777; clear HO780; clear HO783; clear HB; clear HO_9; have HO_0 := n0_; have HL773_0 := n1_; have HL773_1 := n2_; have BK774 := n3_; have HO777 := n4_; have HO780 := n5_; have HO783 := n6_; have HB := n7_; have HO786 := n8_; clear n0_ n1_ n2_ n3_ n4_ n5_ n6_ n7_ n8_; clear ho hb hg hat))
          go_roundg k1
          case measure => have := HK1.out; omega
          case rel => exact ⟨(y778), (y781), (y784), (wrap64 (x10_1 + 1)), (by first | rfl | (simp; done) | (simp [*]; done)), H', ⟨by have := HK1.out; omega⟩, ⟨by (with_reducible repeat (first | apply Kd.V_alloc | apply Kd.V_drewN | apply Kd.V_drew)); exact Kd.V_mono HO_0.out (fun _ hk => ⟨hk.1.1, ⟨hk.1.2.1, ⟨hk.1.2.2.1, hk.2⟩⟩⟩)⟩, ⟨by (with_reducible repeat (first | apply Kd.N_alloc | apply Kd.N_drewN | apply Kd.N_drew)); exact Kd.N_mono HO780.out (fun _ hk => ⟨hk.1.1, ⟨hk.1.2.1, hk.2⟩⟩)⟩, ⟨by (with_reducible repeat (first | apply Kd.R_alloc | apply Kd.R_drewN | apply Kd.R_drew)); exact HO783.out⟩, ⟨by (with_reducible repeat (first | apply Kd.N_alloc | apply Kd.N_drewN | apply Kd.N_drew)); exact Kd.N_mono HO786.out (fun _ hk => ⟨hk.1, ⟨hk.2.1, hk.2.2.1⟩⟩)⟩, ⟨by repeat (first | (with_reducible first | exact HB.out | apply below_alloc | apply pw_below_drewN | apply below_drew1 | refine below_set ?_ GE774.out) | exact HB.out)⟩⟩
         ·
          rw [if_neg c11] at H
          exact absurd H (by simp)
        ·
         rw [if_neg c10] at H
         exact absurd H (by simp)
       ·
        rw [if_neg c9] at H
        exact absurd H (by simp)
      ·
       rw [if_neg c7] at H
       exact absurd H (by simp)
     ·
      rw [if_neg c6] at H
      exact absurd H (by simp)
   ·
    rw [if_neg c3] at H
    have c3b0 : decide (x10_1 < (l0.length : Int)) = false := decide_eq_false c3
    clear c3
    simp only [Option.some.injEq, Prod.mk.injEq] at H
    obtain ⟨rfl, rfl, rfl⟩ := H
    go_wp2
    go_ret3
    exact ⟨_, _, _, by first | rfl | (simp [errW_none, errW_some] <;> rfl) | (simp [*, errW_none, errW_some] <;> rfl), by (with_reducible repeat (first | apply Kd.N_alloc | apply Kd.N_drewN | apply Kd.N_drew)); exact HO_7.out, by (with_reducible repeat (first | apply Kd.R_alloc | apply Kd.R_drewN | apply Kd.R_drew)); exact HO_8.out, by (with_reducible repeat (first | apply Kd.N_alloc | apply Kd.N_drewN | apply Kd.N_drew)); exact HO_9.out, by repeat (first | (with_reducible first | exact HB.out | apply below_alloc | apply pw_below_drewN | apply below_drew1) | exact HB.out)⟩
end Go.Proofs.Ytioooiflpabngaa.PAll
end
section
namespace Go.Proofs.Ytioooiflpabngaa.PAll
open Go.RowKit Go.Proofs.YtioooiflpabngaaW.PrintWords Go.Proofs.YtioooiflpabngaaW.PrintLast Go.Proofs.YtioooiflpabngaaW.PrintMore
attribute [local go_sem] max2_int min2_int max_two min_two max_three min_three max_four min_four   -- for this text's walks alone
set_option linter.unusedVariables false
set_option linter.unusedSimpArgs false
def folkmootlaw16_few.l0 : Nat → List (S53) → Int → Int → Option (Bool)
 | 0, _, _, _ => none
 | k + 1, x0, x3, x4 => if x4 < (x0.length : Int) then (if 0 ≤ x4 then (folkmootlaw16_few.l0 k x0 (wrap64 (x3 + (wrap64 ((((rd_T53 x0 x4).f0).length : Int) + (((rd_T53 x0 x4).f1).length : Int))))) (wrap64 (x4 + 1))) else (none)) else (if (x0.length : Int) ≤ 16 then (some (decide (x3 ≤ 150))) else (some false))
def folkmootlaw16_few.f (k : Nat) (l0 : List (S53)) : Option (Bool) := folkmootlaw16_few.l0 k l0 0 0
set_option maxHeartbeats 8000000 in
set_option maxRecDepth 100000 in
theorem folkmootlaw16_few.calls (k : Nat) (A0 : Option Addr) (c0 : Nat) (l0 : List (S53)) (r : Bool) (w : World) (hr0 : Kd.C k53 w A0 l0.length l0) (hc0 : l0.length ≤ c0) (h : folkmootlaw16_few.f k l0 = some r) :
  Calls Try.prog 56 #[.slice A0 l0.length c0] w fun e w' => e = .returned (.bool r) ∧ Drawn0 w w' := by
 have HR0 := Aside0.mk hr0
 have HC0 := Aside0.mk hc0
 clear hr0 hc0
 have H : (folkmootlaw16_few.l0 k l0 0 0) = some r := h
 clear h
 have H' := Aside0.mk H
 clear H
 go_enter Try.func56, Try.ntmps56
 go_wp2
 repeat (go_quiet (fail); try go_wp2)
 go_loopg [3, 4] k (fun kq v3 v4 w' => ∃ (x3_1 : Int) (x4_1 : Int), v3 = .int .i64 x3_1 ∧ v4 = .int .i64 x4_1 ∧ Aside0 (folkmootlaw16_few.l0 kq l0 x3_1 x4_1 = some r) ∧ Aside0 (kq ≤ k) ∧ Drawn0 w w')
 case atStart => exact ⟨(0), (0), (by first | rfl | (simp; done) | (simp [*]; done)), (by first | rfl | (simp; done) | (simp [*]; done)), H', ⟨Nat.le_refl _⟩, by repeat (first | exact Drawn0.refl _ | apply Drawn0.step)⟩
 case round =>
  clear H'
  obtain ⟨x3_1, x4_1, rfl, rfl, HA, HK1, ⟨m1, rfl⟩⟩ := hrel
  cases gk with
  | zero => exact absurd HA.out (by simp [folkmootlaw16_few.l0])
  | succ k1 =>
   have H := HA.out
   clear HA
   simp only [folkmootlaw16_few.l0] at H
   by_cases c2 : x4_1 < (l0.length : Int)
   ·
    rw [if_pos c2] at H
    have c2b0 : decide (x4_1 < (l0.length : Int)) = true := decide_eq_true c2
    clear c2
    by_cases c3 : 0 ≤ x4_1
    ·
     rw [if_pos c3] at H
     have c3b0 : decide (0 ≤ x4_1) = true := decide_eq_true c3
     clear c3
     have H' := Aside0.mk H
     clear H
     have p771 : 0 ≤ (x4_1 : Int) := of_decide_eq_true zs_
     have q771 : x4_1 < (l0.length : Int) := of_decide_eq_true zs_
     obtain ⟨ad771, A771_0, c771_0, A771_1, c771_1, e771, hx771_0, hx771_1, hx771_2, hx771_3, hx771_4, hl771_0, hi771_0, hl771_1, hi771_1⟩ := at_T53 HR0.out x4_1 p771 q771
     cases e771
     have HR771_0 := Aside0.mk hi771_0
     have HC771_0 := Aside0.mk hl771_0
     clear hi771_0 hl771_0
     have HR771_1 := Aside0.mk hi771_1
     have HC771_1 := Aside0.mk hl771_1
     clear hi771_1 hl771_1
     replace p771 := eq_true p771
     replace q771 := eq_true q771
     have p772 : 0 ≤ (x4_1 : Int) := of_decide_eq_true zs_
     have q772 : x4_1 < (l0.length : Int) := of_decide_eq_true zs_
     obtain ⟨ad772, A772_0, c772_0, A772_1, c772_1, e772, hx772_0, hx772_1, hx772_2, hx772_3, hx772_4, hl772_0, hi772_0, hl772_1, hi772_1⟩ := at_T53 HR0.out x4_1 p772 q772
     obtain rfl : ad771 = ad772 := (by injection e772)
     have HR772_0 := Aside0.mk hi772_0
     have HC772_0 := Aside0.mk hl772_0
     clear hi772_0 hl772_0
     have HR772_1 := Aside0.mk hi772_1
     have HC772_1 := Aside0.mk hl772_1
     clear hi772_1 hl772_1
     replace p772 := eq_true p772
     replace q772 := eq_true q772
     have ea_ := Option.some.inj (hx771_0.symm.trans hx772_0)
     injection ea_ with ea_ en_ ec_
     subst ea_
     subst ec_
     clear en_
     have ea_ := Option.some.inj (hx771_1.symm.trans hx772_1)
     injection ea_ with ea_ en_ ec_
     subst ea_
     subst ec_
     clear en_
     go_wp2
     repeat (go_quiet (fail); try go_wp2)
     go_roundg k1
     case measure => have := HK1.out; omega
     case rel => exact ⟨(wrap64 (x3_1 + (wrap64 ((((rd_T53 l0 x4_1).f0).length : Int) + (((rd_T53 l0 x4_1).f1).length : Int))))), (wrap64 (x4_1 + 1)), (by first | rfl | (simp; done) | (simp [*]; done)), (by first | rfl | (simp; done) | (simp [*]; done)), H', ⟨by have := HK1.out; omega⟩, by repeat (first | exact Drawn0.refl _ | apply Drawn0.step)⟩
    ·
     rw [if_neg c3] at H
     exact absurd H (by simp)
   ·
    rw [if_neg c2] at H
    have c2b0 : decide (x4_1 < (l0.length : Int)) = false := decide_eq_false c2
    clear c2
    by_cases c4 : (l0.length : Int) ≤ 16
    ·
     rw [if_pos c4] at H
     have c4b0 : decide ((l0.length : Int) ≤ 16) = true := decide_eq_true c4
     have c4b1 : decide (l0.length ≤ 16) = true := decide_eq_true (by omega)
     clear c4
     obtain rfl := Option.some.inj H
     go_wp2
     repeat (go_quiet (fail); try go_wp2)
     go_ret
     exact ⟨by first | rfl | (simp; done) | (simp [*]; done), by repeat (first | exact Drawn0.refl _ | apply Drawn0.step)⟩
    ·
     rw [if_neg c4] at H
     have c4b0 : decide ((l0.length : Int) ≤ 16) = false := decide_eq_false c4
     have c4b1 : decide (l0.length ≤ 16) = false := decide_eq_false (by omega)
     clear c4
     obtain rfl := Option.some.inj H
     go_wp2
     repeat (go_quiet (fail); try go_wp2)
     go_ret
     exact ⟨by first | rfl | (simp; done) | (simp [*]; done), by repeat (first | exact Drawn0.refl _ | apply Drawn0.step)⟩
end Go.Proofs.Ytioooiflpabngaa.PAll
end
