/- Parts: PAllx21, HCompare, PAllx22, PAllx23, HClone, PAllx24, EFind, HOpen, ERise, HInsert, HPutA, HSearchP, HPut, PAllx28, PAllx26. -/
import Derived.Test.YtioooiflpabngaaContentOrderA
import Derived.WalkSpells
import Derived.Deep.Slices
import Derived.SizedLaws
import Derived.Lib.Overlaps
import Derived.Lib.AppendZerosOnto
import Derived.Laws.CopyOwn
import Derived.Shelf.RegionOpenPlain
import Derived.Lib.Walk
import Derived.Lib.JoinLaws
import Derived.Laws.NewBlocks
set_option linter.unusedVariables false
set_option linter.unusedSimpArgs false
namespace Go.Proofs.Ytioooiflpabngaa.PAll
open Go.RowKit Go.Proofs.YtioooiflpabngaaW.PrintWords Go.Proofs.YtioooiflpabngaaW.PrintLast Go.Proofs.YtioooiflpabngaaW.PrintMore
attribute [local go_sem] max2_int min2_int max_two min_two max_three min_three max_four min_four   -- for this text's walks alone
set_option linter.unusedVariables false
set_option linter.unusedSimpArgs false

/-! ### label_Compare: function 42 -/
def label_Compare.f (k : Nat) (a0_0 : Int) (a0_1 : Int) (a0_2 : Int) (a0_3 : Int) (a1_0 : Int) (a1_1 : Int) (a1_2 : Int) (a1_3 : Int) : Option (Int) := (ident_Compare.f a0_0 a0_1 a1_0 a1_1).bind fun t203 => ((cmp_Compare_uint64.f a0_2 a1_2).bind fun t204 => ((cmp_Compare_int.f a0_3 a1_3).bind fun t205 => ((cmp_Or_int.f k (([t203, t204, t205] : List Int))).bind fun t209 => (some t209))))
theorem label_Compare.mono : ∀ a0 a1 a2 a3 a4 a5 a6 a7 k, LeO (label_Compare.f k a0 a1 a2 a3 a4 a5 a6 a7) (label_Compare.f (k + 1) a0 a1 a2 a3 a4 a5 a6 a7) := by
  intro a0 a1 a2 a3 a4 a5 a6 a7 k
  unfold label_Compare.f
  repeat' first
      | (with_reducible exact cmp_Or_int.mono _ _)
      | (with_reducible exact LeO.refl _)
      | (with_reducible exact LeO.none _)
      | (with_reducible refine LeO.ite ?_ ?_)
      | (with_reducible refine LeO.bind ?_ (fun _ => ?_))
      | exact cmp_Or_int.mono _ _
      | exact LeO.none _
      | refine LeO.ite ?_ ?_
      | refine LeO.bind ?_ (fun _ => ?_)
def label_Compare.T1 : Bool × List (List Nat × List Nat) := (true, [([], []), ([0], [0]), ([], []), ([2], [2]), ([1, 3], [1, 3]), ([], []), ([5], [5]), ([], []), ([7], [7]), ([6, 8, 4], [6, 8]), ([], []), ([10], [10]), ([], []), ([12], [12]), ([11, 13, 9], [11, 13]), ([4, 9, 14], [4, 9, 14]), ([15, 14], [15]), ([16, 16, 0, 1, 2, 3, 4, 5, 6, 7, 8, 9, 10, 11, 12, 13, 14, 15, 16], [16])])
def label_Compare.B1 : List Nat := [0, 1, 0, 4, 15, 0, 32, 0, 128, 511, 0, 1024, 0, 4096, 16383, 32767, 65535, 131071]
theorem label_Compare.tab1 : rtab .any (opsOf Try.f42 1) = label_Compare.T1 := by kernel_rfl
theorem label_Compare.bits1 : waitsOk label_Compare.T1.2 label_Compare.B1 = true := by kernel_rfl
set_option maxHeartbeats 8000000 in
set_option maxRecDepth 100000 in
theorem label_Compare.calls (k : Nat) (a0_0 : Int) (a0_1 : Int) (a0_2 : Int) (a0_3 : Int) (a1_0 : Int) (a1_1 : Int) (a1_2 : Int) (a1_3 : Int) (r : Int) (w : World) (h : label_Compare.f k a0_0 a0_1 a0_2 a0_3 a1_0 a1_1 a1_2 a1_3 = some r) :
    Calls Try.prog 42 #[.agg #[.int .u64 a0_0, .int .i64 a0_1, .int .u64 a0_2, .int .i64 a0_3], .agg #[.int .u64 a1_0, .int .i64 a1_1, .int .u64 a1_2, .int .i64 a1_3]] w fun e w' => e = .returned (.int .i64 r) ∧ Below w.heap.size w w' := by
  have hu27 := Try.underlying27
  have hu25 := Try.underlying25
  have HB := Aside0.mk (Below.refl w.heap.size w)
  have H : ((ident_Compare.f a0_0 a0_1 a1_0 a1_1).bind fun t203 => ((cmp_Compare_uint64.f a0_2 a1_2).bind fun t204 => ((cmp_Compare_int.f a0_3 a1_3).bind fun t205 => ((cmp_Or_int.f k (([t203, t204, t205] : List Int))).bind fun t209 => (some t209))))) = some r := h
  clear h
  replace H := Option.bind_eq_some_iff.mp H
  obtain ⟨t203, A30, H⟩ := H
  replace H : ((cmp_Compare_uint64.f a0_2 a1_2).bind fun t204 => ((cmp_Compare_int.f a0_3 a1_3).bind fun t205 => ((cmp_Or_int.f k (([t203, t204, t205] : List Int))).bind fun t209 => (some t209)))) = some r := H
  have A3 := Aside0.mk A30
  clear A30
  replace H := Option.bind_eq_some_iff.mp H
  obtain ⟨t204, A40, H⟩ := H
  replace H : ((cmp_Compare_int.f a0_3 a1_3).bind fun t205 => ((cmp_Or_int.f k (([t203, t204, t205] : List Int))).bind fun t209 => (some t209))) = some r := H
  have A4 := Aside0.mk A40
  clear A40
  replace H := Option.bind_eq_some_iff.mp H
  obtain ⟨t205, A50, H⟩ := H
  replace H : ((cmp_Or_int.f k (([t203, t204, t205] : List Int))).bind fun t209 => (some t209)) = some r := H
  have A5 := Aside0.mk A50
  clear A50
  obtain ⟨y206, hy206⟩ : ∃ y_ : List Int, y_ = (([t203, t204, t205] : List Int)) := ⟨_, rfl⟩
  replace H : ((cmp_Or_int.f k y206).bind fun t209 => (some t209)) = some r := by first | (rw [hy206]; with_reducible exact H) | (have H2_ := (Option.bind_some _ _).symm.trans H; rw [hy206]; with_reducible exact H2_) | (have H2_ := (Option.bind_some _ _).symm.trans H; with_reducible exact H2_) | with_reducible exact H | (rw [hy206]; exact H) | exact H
  have Ny206 := Aside0.mk hy206
  clear hy206
  replace H := Option.bind_eq_some_iff.mp H
  obtain ⟨t209, A60, H⟩ := H
  replace H : (some t209) = some r := H
  have A6 := Aside0.mk A60
  clear A60
  obtain rfl := Option.some.inj H
  go_enter Try.func42, Try.ntmps42
  try go_wp2_with (first | ((with_reducible refine gate_dst (N := 2) rfl ?_); refine box_event ?hg (N := 2) ?hd (cs := #[.int .u64 a0_0, .int .i64 a0_1, .int .u64 a0_2, .int .i64 a0_3]) (t := 27) ?hr ?_; (case hd => rfl); (case hg => rfl); (case hr => first | (go_simp; done) | (go_simp; rfl)); intro gb201 hg w7 hbox hb; have n0_ := Aside0.mk (below_step (by repeat (first | (with_reducible first | exact HB.out | apply below_alloc | apply pw_below_drewN | apply below_drew1) | exact HB.out)) hb); have n1_ := Aside0.mk (hbox); have n2_ := Aside0.mk ((by rw [hg]; exact (below_size (by repeat (first | (with_reducible first | exact HB.out | apply below_alloc | apply pw_below_drewN | apply below_drew1) | exact HB.out))) : w.heap.size ≤ gb201)); have n3_ := Aside0.mk ((by rw [hg]; exact (below_size (by repeat (first | (with_reducible first | exact HB.out | apply below_alloc | apply pw_below_drewN | apply below_drew1) | exact HB.out))) : w.heap.size ≤ gb201)); clear HB; have HB := n0_; have BK201 := n1_; have GW201 := n2_; have GE201 := n3_; clear n0_ n1_ n2_ n3_; clear hb hbox hg) | ((with_reducible refine gate_dst (N := 3) rfl ?_); refine box_event ?hg (N := 3) ?hd (cs := #[.int .u64 a1_0, .int .i64 a1_1, .int .u64 a1_2, .int .i64 a1_3]) (t := 27) ?hr ?_; (case hd => rfl); (case hg => rfl); (case hr => first | (go_simp; done) | (go_simp; rfl)); intro gb202 hg w8 hbox hb; have n0_ := Aside0.mk (blk_below (g := gb201) (o := .cells #[.int .u64 a0_0, .int .i64 a0_1, .int .u64 a0_2, .int .i64 a0_3] 27 (0, 0)) (by (with_reducible repeat (first | refine blk_drewN ?_ _ | refine blk_drew ?_ | refine blk_alloc ?_ _)); exact BK201.out) hb); have n1_ := Aside0.mk (below_step (by repeat (first | (with_reducible first | exact HB.out | apply below_alloc | apply pw_below_drewN | apply below_drew1 | refine below_set ?_ GE201.out) | exact HB.out)) hb); have n2_ := Aside0.mk (hbox); have n3_ := Aside0.mk ((by rw [hg]; exact (below_size (by repeat (first | (with_reducible first | exact HB.out | apply below_alloc | apply pw_below_drewN | apply below_drew1 | refine below_set ?_ GE201.out) | exact HB.out))) : w.heap.size ≤ gb202)); have n4_ := Aside0.mk ((by rw [hg]; exact (below_size (by repeat (first | (with_reducible first | exact HB.out | apply below_alloc | apply pw_below_drewN | apply below_drew1 | refine below_set ?_ GE201.out) | exact HB.out))) : w.heap.size ≤ gb202)); have n5_ := Aside0.mk ((by rw [hg]; exact Nat.ne_of_lt (blk_lt (g := gb201) (o := .cells #[.int .u64 a0_0, .int .i64 a0_1, .int .u64 a0_2, .int .i64 a0_3] 27 (0, 0)) (by (with_reducible repeat (first | refine blk_drewN ?_ _ | refine blk_drew ?_ | refine blk_alloc ?_ _)); exact BK201.out)) : gb201 ≠ gb202)); have n6_ := Aside0.mk ((by rw [hg]; exact Nat.ne_of_gt (blk_lt (g := gb201) (o := .cells #[.int .u64 a0_0, .int .i64 a0_1, .int .u64 a0_2, .int .i64 a0_3] 27 (0, 0)) (by (with_reducible repeat (first | refine blk_drewN ?_ _ | refine blk_drew ?_ | refine blk_alloc ?_ _)); exact BK201.out)) : gb202 ≠ gb201)); clear BK201; clear HB; have BK201 := n0_; have HB := n1_; have BK202 := n2_; have GW202 := n3_; have GE202 := n4_; have NB201_202 := n5_; have NB202_201 := n6_; clear n0_ n1_ n2_ n3_ n4_ n5_ n6_; clear hb hbox hg))
  have n0_ := Aside0.mk (blk_drew BK201.out)
  have n1_ := Aside0.mk (blk_drew BK202.out)
  have n2_ := Aside0.mk (below_drew1 HB.out)
  clear BK201
  clear BK202
  clear HB
  have BK201 := n0_
  have BK202 := n1_
  have HB := n2_
  clear n0_ n1_ n2_
  refine start_ (n := 18) (S := fun w' => w'.cell? ⟨gb201, 0, none⟩ = some (.int .u64 a0_0) ∧ w'.cell? ⟨gb201, 1, none⟩ = some (.int .i64 a0_1) ∧ w'.cell? ⟨gb201, 2, none⟩ = some (.int .u64 a0_2) ∧ w'.cell? ⟨gb201, 3, none⟩ = some (.int .i64 a0_3) ∧ w'.cell? ⟨gb202, 0, none⟩ = some (.int .u64 a1_0) ∧ w'.cell? ⟨gb202, 1, none⟩ = some (.int .i64 a1_1) ∧ w'.cell? ⟨gb202, 2, none⟩ = some (.int .u64 a1_2) ∧ w'.cell? ⟨gb202, 3, none⟩ = some (.int .i64 a1_3)) (ds := []) #[false, false, false, false, false, false, false, false, false, false, false, false, false, false, false, false, false, false] (by kernel_rfl) rfl rfl ⟨(blk_cell BK201.out 0).trans rfl, (blk_cell BK201.out 1).trans rfl, (blk_cell BK201.out 2).trans rfl, (blk_cell BK201.out 3).trans rfl, (blk_cell BK202.out 0).trans rfl, (blk_cell BK202.out 1).trans rfl, (blk_cell BK202.out 2).trans rfl, (blk_cell BK202.out 3).trans rfl⟩ (fun hHeld => ?_); refine with_tabW label_Compare.tab1 label_Compare.bits1 (fun HT_ HW_ => ?_)
  generalize w8.drew = w9 at BK201 BK202 HB hHeld ⊢
  refine pure_ (i := 0) (N := some 5) (v := ?_) (a' := ?_) #[true, false, false, false, false, false, false, false, false, false, false, false, false, false, false, false, false, false] rfl rfl (any_of HT_.out (by kernel_rfl)) (fun _ _ _ h => h) (Or.inl ⟨by rfl, ?_⟩) ?_ ?_
  rotate_left
  · intro w'
    go_simp
    with_reducible rfl
  rotate_left
  · simp only [Act.put, List.setIfInBounds_toArray, List.set_cons_zero, List.set_cons_succ, i64_w, i32_w]
    rfl
  refine pure_ (i := 2) (N := some 7) (v := ?_) (a' := ?_) #[true, false, true, false, false, false, false, false, false, false, false, false, false, false, false, false, false, false] rfl rfl (any_of HT_.out (by kernel_rfl)) (fun _ _ _ h => h) (Or.inl ⟨by rfl, ?_⟩) ?_ ?_
  rotate_left
  · intro w'
    go_simp
    with_reducible rfl
  rotate_left
  · simp only [Act.put, List.setIfInBounds_toArray, List.set_cons_zero, List.set_cons_succ, i64_w, i32_w]
    rfl
  refine pure_ (i := 5) (N := some 10) (v := ?_) (a' := ?_) #[true, false, true, false, false, true, false, false, false, false, false, false, false, false, false, false, false, false] rfl rfl (any_of HT_.out (by kernel_rfl)) (fun _ _ _ h => h) (Or.inl ⟨by rfl, ?_⟩) ?_ ?_
  rotate_left
  · intro w'
    go_simp
    with_reducible rfl
  rotate_left
  · simp only [Act.put, List.setIfInBounds_toArray, List.set_cons_zero, List.set_cons_succ, i64_w, i32_w]
    rfl
  refine pure_ (i := 7) (N := some 12) (v := ?_) (a' := ?_) #[true, false, true, false, false, true, false, true, false, false, false, false, false, false, false, false, false, false] rfl rfl (any_of HT_.out (by kernel_rfl)) (fun _ _ _ h => h) (Or.inl ⟨by rfl, ?_⟩) ?_ ?_
  rotate_left
  · intro w'
    go_simp
    with_reducible rfl
  rotate_left
  · simp only [Act.put, List.setIfInBounds_toArray, List.set_cons_zero, List.set_cons_succ, i64_w, i32_w]
    rfl
  refine pure_ (i := 10) (N := some 15) (v := ?_) (a' := ?_) #[true, false, true, false, false, true, false, true, false, false, true, false, false, false, false, false, false, false] rfl rfl (any_of HT_.out (by kernel_rfl)) (fun _ _ _ h => h) (Or.inl ⟨by rfl, ?_⟩) ?_ ?_
  rotate_left
  · intro w'
    go_simp
    with_reducible rfl
  rotate_left
  · simp only [Act.put, List.setIfInBounds_toArray, List.set_cons_zero, List.set_cons_succ, i64_w, i32_w]
    rfl
  refine pure_ (i := 12) (N := some 17) (v := ?_) (a' := ?_) #[true, false, true, false, false, true, false, true, false, false, true, false, true, false, false, false, false, false] rfl rfl (any_of HT_.out (by kernel_rfl)) (fun _ _ _ h => h) (Or.inl ⟨by rfl, ?_⟩) ?_ ?_
  rotate_left
  · intro w'
    go_simp
    with_reducible rfl
  rotate_left
  · simp only [Act.put, List.setIfInBounds_toArray, List.set_cons_zero, List.set_cons_succ, i64_w, i32_w]
    rfl
  refine take_ (i := 1) (N := some 6) (v := ?_) (a' := ?_) #[true, true, true, false, false, true, false, true, false, false, true, false, true, false, false, false, false, false] rfl rfl (take_ofW HT_.out HW_.out (by kernel_rfl)) (fun _ _ _ h => h) (Or.inl ⟨by rfl, ?_⟩) hHeld ?_ ?_
  rotate_left
  · rintro w' ⟨s0, s1, s2, s3, s4, s5, s6, s7⟩
    go_simp
    with_reducible rfl
  rotate_left
  · simp only [Act.put, List.setIfInBounds_toArray, List.set_cons_zero, List.set_cons_succ, i64_w, i32_w]
    rfl
  refine take_ (i := 3) (N := some 8) (v := ?_) (a' := ?_) #[true, true, true, true, false, true, false, true, false, false, true, false, true, false, false, false, false, false] rfl rfl (take_ofW HT_.out HW_.out (by kernel_rfl)) (fun _ _ _ h => h) (Or.inl ⟨by rfl, ?_⟩) hHeld ?_ ?_
  rotate_left
  · rintro w' ⟨s0, s1, s2, s3, s4, s5, s6, s7⟩
    go_simp
    with_reducible rfl
  rotate_left
  · simp only [Act.put, List.setIfInBounds_toArray, List.set_cons_zero, List.set_cons_succ, i64_w, i32_w]
    rfl
  refine take_ (i := 6) (N := some 11) (v := ?_) (a' := ?_) #[true, true, true, true, false, true, true, true, false, false, true, false, true, false, false, false, false, false] rfl rfl (take_ofW HT_.out HW_.out (by kernel_rfl)) (fun _ _ _ h => h) (Or.inl ⟨by rfl, ?_⟩) hHeld ?_ ?_
  rotate_left
  · rintro w' ⟨s0, s1, s2, s3, s4, s5, s6, s7⟩
    go_simp
    with_reducible rfl
  rotate_left
  · simp only [Act.put, List.setIfInBounds_toArray, List.set_cons_zero, List.set_cons_succ, i64_w, i32_w]
    rfl
  refine take_ (i := 8) (N := some 13) (v := ?_) (a' := ?_) #[true, true, true, true, false, true, true, true, true, false, true, false, true, false, false, false, false, false] rfl rfl (take_ofW HT_.out HW_.out (by kernel_rfl)) (fun _ _ _ h => h) (Or.inl ⟨by rfl, ?_⟩) hHeld ?_ ?_
  rotate_left
  · rintro w' ⟨s0, s1, s2, s3, s4, s5, s6, s7⟩
    go_simp
    with_reducible rfl
  rotate_left
  · simp only [Act.put, List.setIfInBounds_toArray, List.set_cons_zero, List.set_cons_succ, i64_w, i32_w]
    rfl
  refine take_ (i := 11) (N := some 16) (v := ?_) (a' := ?_) #[true, true, true, true, false, true, true, true, true, false, true, true, true, false, false, false, false, false] rfl rfl (take_ofW HT_.out HW_.out (by kernel_rfl)) (fun _ _ _ h => h) (Or.inl ⟨by rfl, ?_⟩) hHeld ?_ ?_
  rotate_left
  · rintro w' ⟨s0, s1, s2, s3, s4, s5, s6, s7⟩
    go_simp
    with_reducible rfl
  rotate_left
  · simp only [Act.put, List.setIfInBounds_toArray, List.set_cons_zero, List.set_cons_succ, i64_w, i32_w]
    rfl
  refine take_ (i := 13) (N := some 18) (v := ?_) (a' := ?_) #[true, true, true, true, false, true, true, true, true, false, true, true, true, true, false, false, false, false] rfl rfl (take_ofW HT_.out HW_.out (by kernel_rfl)) (fun _ _ _ h => h) (Or.inl ⟨by rfl, ?_⟩) hHeld ?_ ?_
  rotate_left
  · rintro w' ⟨s0, s1, s2, s3, s4, s5, s6, s7⟩
    go_simp
    with_reducible rfl
  rotate_left
  · simp only [Act.put, List.setIfInBounds_toArray, List.set_cons_zero, List.set_cons_succ, i64_w, i32_w]
    rfl
  refine one_ (i := 4) (N := some 9) #[true, true, true, true, true, true, true, true, true, false, true, true, true, true, false, false, false, false] rfl rfl (one_of HT_.out (by kernel_rfl)) (by decide) (fun K hK => ?_)
  refine goes_ Try.func86 (by kernel_rfl) rfl #[.agg #[.int .u64 a0_0, .int .i64 a0_1], .agg #[.int .u64 a1_0, .int .i64 a1_1]] (by rfl) rfl rfl (by (try simp only [List.map_toArray, List.map_cons, List.map_nil]); first | done | rfl | (simp only [List.length_drop, List.length_take]; rfl)) ?_
  with_reducible refine (ident_Compare.calls a0_0 a0_1 a1_0 a1_1 t203 _ A3.out).mono ?_
  rintro e w10 ⟨rfl, hb⟩
  refine ⟨_, rfl, ?_⟩
  have n0_ := Aside0.mk (blk_below (g := gb201) (o := .cells #[.int .u64 a0_0, .int .i64 a0_1, .int .u64 a0_2, .int .i64 a0_3] 27 (0, 0)) (by (with_reducible repeat (first | refine blk_drewN ?_ _ | refine blk_drew ?_ | refine blk_alloc ?_ _)); exact BK201.out) hb)
  have n1_ := Aside0.mk (blk_below (g := gb202) (o := .cells #[.int .u64 a1_0, .int .i64 a1_1, .int .u64 a1_2, .int .i64 a1_3] 27 (0, 0)) (by (with_reducible repeat (first | refine blk_drewN ?_ _ | refine blk_drew ?_ | refine blk_alloc ?_ _)); exact BK202.out) hb)
  have n2_ := Aside0.mk (below_step (by repeat (first | (with_reducible first | exact HB.out | apply below_alloc | apply pw_below_drewN | apply below_drew1 | refine below_set ?_ GE201.out | refine below_set ?_ GE202.out) | exact HB.out)) hb)
  clear BK201
  clear BK202
  clear HB
  have BK201 := n0_
  have BK202 := n1_
  have HB := n2_
  clear n0_ n1_ n2_
  (try clear hb)
  (try clear hb2)
  (try clear hk)
  (try clear hi)
  refine hK.out _ _ ⟨(blk_cell BK201.out 0).trans rfl, (blk_cell BK201.out 1).trans rfl, (blk_cell BK201.out 2).trans rfl, (blk_cell BK201.out 3).trans rfl, (blk_cell BK202.out 0).trans rfl, (blk_cell BK202.out 1).trans rfl, (blk_cell BK202.out 2).trans rfl, (blk_cell BK202.out 3).trans rfl⟩ (fun hHeld => ?_)
  clear hK K
  refine norm_ (a' := ?_) ?_ ?_
  rotate_left
  · show Act.put _ (some 9) _ = _
    simp only [Act.put, List.setIfInBounds_toArray, List.set_cons_zero, List.set_cons_succ, i64_w, i32_w]
    rfl
  refine one_ (i := 9) (N := some 14) #[true, true, true, true, true, true, true, true, true, true, true, true, true, true, false, false, false, false] rfl rfl (one_of HT_.out (by kernel_rfl)) (by decide) (fun K hK => ?_)
  refine goes_ Try.func87 (by kernel_rfl) rfl #[.int .u64 a0_2, .int .u64 a1_2] (by rfl) rfl rfl (by (try simp only [List.map_toArray, List.map_cons, List.map_nil]); first | done | rfl | (simp only [List.length_drop, List.length_take]; rfl)) ?_
  with_reducible refine (cmp_Compare_uint64.calls a0_2 a1_2 t204 _ A4.out).mono ?_
  rintro e w' ⟨rfl, ⟨nd, rfl⟩⟩
  refine ⟨_, rfl, ?_⟩
  refine hK.out _ _ ⟨(blk_cell BK201.out 0).trans rfl, (blk_cell BK201.out 1).trans rfl, (blk_cell BK201.out 2).trans rfl, (blk_cell BK201.out 3).trans rfl, (blk_cell BK202.out 0).trans rfl, (blk_cell BK202.out 1).trans rfl, (blk_cell BK202.out 2).trans rfl, (blk_cell BK202.out 3).trans rfl⟩ (fun hHeld => ?_)
  clear hK K
  refine norm_ (a' := ?_) ?_ ?_
  rotate_left
  · show Act.put _ (some 14) _ = _
    simp only [Act.put, List.setIfInBounds_toArray, List.set_cons_zero, List.set_cons_succ, i64_w, i32_w]
    rfl
  refine one_ (i := 14) (N := some 19) #[true, true, true, true, true, true, true, true, true, true, true, true, true, true, true, false, false, false] rfl rfl (one_of HT_.out (by kernel_rfl)) (by decide) (fun K hK => ?_)
  refine goes_ Try.func88 (by kernel_rfl) rfl #[.int .i64 a0_3, .int .i64 a1_3] (by rfl) rfl rfl (by (try simp only [List.map_toArray, List.map_cons, List.map_nil]); first | done | rfl | (simp only [List.length_drop, List.length_take]; rfl)) ?_
  with_reducible refine (cmp_Compare_int.calls a0_3 a1_3 t205 _ A5.out).mono ?_
  rintro e w' ⟨rfl, ⟨nd, rfl⟩⟩
  refine ⟨_, rfl, ?_⟩
  refine hK.out _ _ ⟨(blk_cell BK201.out 0).trans rfl, (blk_cell BK201.out 1).trans rfl, (blk_cell BK201.out 2).trans rfl, (blk_cell BK201.out 3).trans rfl, (blk_cell BK202.out 0).trans rfl, (blk_cell BK202.out 1).trans rfl, (blk_cell BK202.out 2).trans rfl, (blk_cell BK202.out 3).trans rfl⟩ (fun hHeld => ?_)
  clear hK K
  refine norm_ (a' := ?_) ?_ ?_
  rotate_left
  · show Act.put _ (some 19) _ = _
    simp only [Act.put, List.setIfInBounds_toArray, List.set_cons_zero, List.set_cons_succ, i64_w, i32_w]
    rfl
  refine one_ (i := 15) (N := some 20) #[true, true, true, true, true, true, true, true, true, true, true, true, true, true, true, true, false, false] rfl rfl (one_of HT_.out (by kernel_rfl)) (by decide) (fun K hK => ?_)
  refine Kd.R_lit_step (Kd.int .i64) _ 3 ?hg (N := 20) ?hd (xs := ([t203, t204, t205] : List Int)) (inner := [.int .i64 t203, .int .i64 t204, .int .i64 t205]) (ok := fun _ => True) (okp := fun _ => True) ?hr ?hp (fun _ hk => hk) trivial (Below.refl _ _) (Nat.le_refl _) (by simp) ?_; (case hd => rfl); (case hg => rfl); (case hr => first | (go_simp; done) | (go_simp; rfl)); (case hp => exact (Reps.one (show Kd.M (Kd.int .i64) _ _ _ t203 [.int .i64 t203] from rfl) (Reps.one (show Kd.M (Kd.int .i64) _ _ _ t204 [.int .i64 t204] from rfl) (Reps.one (show Kd.M (Kd.int .i64) _ _ _ t205 [.int .i64 t205] from rfl) (Reps.none _ _)))))
  intro v207 w11 ho12 hb hg_ hnew_
  clear hg_ hnew_
  (first | rw [← Ny206.out] at ho12 | (simp only [Int.reduceToNat] at ho12; rw [← Ny206.out] at ho12))
  have n0_ := Aside0.mk (Kd.R_lower ho12 (below_size (by repeat (first | (with_reducible first | exact HB.out | apply below_alloc | apply pw_below_drewN | apply below_drew1 | refine below_set ?_ GE201.out | refine below_set ?_ GE202.out) | exact HB.out))))
  have n1_ := Aside0.mk (blk_below (g := gb201) (o := .cells #[.int .u64 a0_0, .int .i64 a0_1, .int .u64 a0_2, .int .i64 a0_3] 27 (0, 0)) (by (with_reducible repeat (first | refine blk_drewN ?_ _ | refine blk_drew ?_ | refine blk_alloc ?_ _)); exact BK201.out) hb)
  have n2_ := Aside0.mk (blk_below (g := gb202) (o := .cells #[.int .u64 a1_0, .int .i64 a1_1, .int .u64 a1_2, .int .i64 a1_3] 27 (0, 0)) (by (with_reducible repeat (first | refine blk_drewN ?_ _ | refine blk_drew ?_ | refine blk_alloc ?_ _)); exact BK202.out) hb)
  have n3_ := Aside0.mk (below_step (by repeat (first | (with_reducible first | exact HB.out | apply below_alloc | apply pw_below_drewN | apply below_drew1 | refine below_set ?_ GE201.out | refine below_set ?_ GE202.out) | exact HB.out)) hb)
  clear BK201
  clear BK202
  clear HB
  have HO208 := n0_
  have BK201 := n1_
  have BK202 := n2_
  have HB := n3_
  clear n0_ n1_ n2_ n3_
  clear hb ho12
  obtain ⟨Ao13, co13, eo13⟩ := Kd.R_slice HO208.out
  (first | subst eo13 | (injection eo13 with f1_ f2_ f3_; have f4_ := f1_.symm; have f5_ := f3_.symm; clear f1_ f2_ f3_; subst f4_; subst f5_))
  refine hK.out _ _ ⟨(blk_cell BK201.out 0).trans rfl, (blk_cell BK201.out 1).trans rfl, (blk_cell BK201.out 2).trans rfl, (blk_cell BK201.out 3).trans rfl, (blk_cell BK202.out 0).trans rfl, (blk_cell BK202.out 1).trans rfl, (blk_cell BK202.out 2).trans rfl, (blk_cell BK202.out 3).trans rfl⟩ (fun hHeld => ?_)
  clear hK K
  refine norm_ (a' := ?_) ?_ ?_
  rotate_left
  · show Act.put _ (some 20) _ = _
    simp only [Act.put, List.setIfInBounds_toArray, List.set_cons_zero, List.set_cons_succ, i64_w, i32_w]
    rfl
  refine one_ (i := 16) (N := some 21) #[true, true, true, true, true, true, true, true, true, true, true, true, true, true, true, true, true, false] rfl rfl (one_of HT_.out (by kernel_rfl)) (by decide) (fun K hK => ?_)
  refine goes_ Try.func85 (by kernel_rfl) rfl #[.slice Ao13 y206.length co13] (by rfl) rfl rfl (by (try simp only [List.map_toArray, List.map_cons, List.map_nil]); first | done | rfl | (simp only [List.length_drop, List.length_take]; rfl)) ?_
  with_reducible refine (cmp_Or_int.calls k _ _ y206 t209 _ ?side1 ?side2 A6.out).mono ?_
  (case side1 => repeat (first | exact (Kd.R_reads' HO208.out).2.2 | (with_reducible refine Kd.C_alloc ?_ _) | (with_reducible refine Kd.C_drewN ?_ _) | (with_reducible refine Kd.C_drew ?_)))
  (case side2 => exact (Kd.R_reads' HO208.out).2.1)
  rintro e w' ⟨rfl, ⟨nd, rfl⟩⟩
  refine ⟨_, rfl, ?_⟩
  refine hK.out _ _ ⟨(blk_cell BK201.out 0).trans rfl, (blk_cell BK201.out 1).trans rfl, (blk_cell BK201.out 2).trans rfl, (blk_cell BK201.out 3).trans rfl, (blk_cell BK202.out 0).trans rfl, (blk_cell BK202.out 1).trans rfl, (blk_cell BK202.out 2).trans rfl, (blk_cell BK202.out 3).trans rfl⟩ (fun hHeld => ?_)
  clear hK K
  refine norm_ (a' := ?_) ?_ ?_
  rotate_left
  · show Act.put _ (some 21) _ = _
    simp only [Act.put, List.setIfInBounds_toArray, List.set_cons_zero, List.set_cons_succ, i64_w, i32_w]
    rfl
  refine pure_ (i := 17) (N := some 4) (v := ?_) (a' := ?_) #[true, true, true, true, true, true, true, true, true, true, true, true, true, true, true, true, true, true] rfl rfl (any_of HT_.out (by kernel_rfl)) (fun _ _ _ h => h) (Or.inl ⟨by rfl, ?_⟩) ?_ ?_
  rotate_left
  · intro w'
    go_simp
    with_reducible rfl
  rotate_left
  · simp only [Act.put, List.setIfInBounds_toArray, List.set_cons_zero, List.set_cons_succ, i64_w, i32_w]
    rfl
  refine done_ (done_of HT_.out (by kernel_rfl)) ?_
  (try clear hHeld); (try clear HS0_)
  try go_wp2
  go_ret
  exact ⟨by first | rfl | (simp [errW_none, errW_some] <;> rfl) | (simp [*, errW_none, errW_some] <;> rfl), by repeat (first | (with_reducible first | exact HB.out | apply below_alloc | apply pw_below_drewN | apply below_drew1 | refine below_set ?_ GE201.out | refine below_set ?_ GE202.out) | exact HB.out)⟩

end Go.Proofs.Ytioooiflpabngaa.PAll

namespace Go.Proofs.Ytioooiflpabngaa.PAll
open Go.RowKit Go.Proofs.YtioooiflpabngaaW.PrintWords
set_option linter.unusedVariables false
set_option linter.unusedSimpArgs false

theorem compare64 (a b : Int) : cmp_Compare_uint64.f a b = some (cmpI a b) := by
  unfold cmp_Compare_uint64.f cmp_isNaN_uint64.f cmpI
  simp
  split <;> (try split) <;> simp_all
theorem compare_int (a b : Int) : cmp_Compare_int.f a b = some (cmpI a b) := by
  unfold cmp_Compare_int.f cmp_isNaN_int.f cmpI
  simp
  split <;> (try split) <;> simp_all
theorem ident_Compare_eq (a b : S25) : ident_Compare.f a.f0 a.f1 b.f0 b.f1 = some (cmpV a b) := by
  unfold ident_Compare.f cmpV
  rw [compare64, compare_int]
  simp only [Option.bind_some]
  by_cases h : cmpI a.f0 b.f0 = 0 <;> simp [h]
theorem or_three (a b c : Int) : cmp_Or_int.f 4 [a, b, c] = some (if a = 0 then (if b = 0 then c else b) else a) := by
  by_cases ha : a = 0 <;> by_cases hb : b = 0 <;> by_cases hc : c = 0 <;> simp [cmp_Or_int.f, cmp_Or_int.l0, YtioooiflpabngaaW.PrintWords.rd, ha, hb, hc, wrap64]
theorem label_Compare_eq (a b : S27) : label_Compare.f 4 a.f0.f0 a.f0.f1 a.f1 a.f2 b.f0.f0 b.f0.f1 b.f1 b.f2 = some (cmpL a b) := by
  unfold label_Compare.f
  rw [ident_Compare_eq, compare64, compare_int]
  simp only [Option.bind_some]
  rw [or_three]
  rfl
end Go.Proofs.Ytioooiflpabngaa.PAll

namespace Go.Proofs.Ytioooiflpabngaa.PAll
open Go.RowKit Go.Proofs.YtioooiflpabngaaW.PrintWords Go.Proofs.YtioooiflpabngaaW.PrintLast Go.Proofs.YtioooiflpabngaaW.PrintMore
attribute [local go_sem] max2_int min2_int max_two min_two max_three min_three max_four min_four   -- for this text's walks alone
set_option linter.unusedVariables false
set_option linter.unusedSimpArgs false

/-! ### content_Find_1: function 71 -/
def content_Find_1.f (k : Nat) (a0_0 : Int) (a0_1 : Int) (a0_2 : Int) (a0_3 : Int) (l0_4 : List Int) (a1_0 : Int) (a1_1 : Int) (a1_2 : Int) (a1_3 : Int) : Option (Int) := (label_Compare.f k a0_0 a0_1 a0_2 a0_3 a1_0 a1_1 a1_2 a1_3).bind fun t212 => (some t212)
theorem content_Find_1.mono : ∀ a0 a1 a2 a3 a4 a5 a6 a7 a8 k, LeO (content_Find_1.f k a0 a1 a2 a3 a4 a5 a6 a7 a8) (content_Find_1.f (k + 1) a0 a1 a2 a3 a4 a5 a6 a7 a8) := by
  intro a0 a1 a2 a3 a4 a5 a6 a7 a8 k
  unfold content_Find_1.f
  repeat' first
      | (with_reducible exact label_Compare.mono _ _ _ _ _ _ _ _ _)
      | (with_reducible exact LeO.refl _)
      | (with_reducible exact LeO.none _)
      | (with_reducible refine LeO.ite ?_ ?_)
      | (with_reducible refine LeO.bind ?_ (fun _ => ?_))
      | exact label_Compare.mono _ _ _ _ _ _ _ _ _
      | exact LeO.none _
      | refine LeO.ite ?_ ?_
      | refine LeO.bind ?_ (fun _ => ?_)
set_option maxHeartbeats 8000000 in
set_option maxRecDepth 100000 in
theorem content_Find_1.calls (k : Nat) (a0_0 : Int) (a0_1 : Int) (a0_2 : Int) (a0_3 : Int) (A0_4 : Option Addr) (c0_4 : Nat) (l0_4 : List Int) (a1_0 : Int) (a1_1 : Int) (a1_2 : Int) (a1_3 : Int) (r : Int) (w : World) (hr0_4 : Kd.C (Kd.int .u8) w A0_4 l0_4.length l0_4) (hc0_4 : l0_4.length ≤ c0_4) (h : content_Find_1.f k a0_0 a0_1 a0_2 a0_3 l0_4 a1_0 a1_1 a1_2 a1_3 = some r) :
    Calls Try.prog 71 #[.agg #[.int .u64 a0_0, .int .i64 a0_1, .int .u64 a0_2, .int .i64 a0_3, .slice A0_4 l0_4.length c0_4], .agg #[.int .u64 a1_0, .int .i64 a1_1, .int .u64 a1_2, .int .i64 a1_3]] w fun e w' => e = .returned (.int .i64 r) ∧ Below w.heap.size w w' := by
  have hu32 := Try.underlying32
  have hu27 := Try.underlying27
  have HR0_4 := Aside0.mk hr0_4
  have HC0_4 := Aside0.mk hc0_4
  clear hr0_4 hc0_4
  have HB := Aside0.mk (Below.refl w.heap.size w)
  have H : ((label_Compare.f k a0_0 a0_1 a0_2 a0_3 a1_0 a1_1 a1_2 a1_3).bind fun t212 => (some t212)) = some r := h
  clear h
  replace H := Option.bind_eq_some_iff.mp H
  obtain ⟨t212, A30, H⟩ := H
  replace H : (some t212) = some r := H
  have A3 := Aside0.mk A30
  clear A30
  obtain rfl := Option.some.inj H
  go_enter Try.func71, Try.ntmps71
  go_wp2_with (first | ((with_reducible refine gate_dst (N := 2) rfl ?_); refine box_event ?hg (N := 2) ?hd (cs := #[.int .u64 a0_0, .int .i64 a0_1, .int .u64 a0_2, .int .i64 a0_3, .slice A0_4 l0_4.length c0_4]) (t := 32) ?hr ?_; (case hd => rfl); (case hg => rfl); (case hr => first | (go_simp; done) | (go_simp; rfl)); intro gb210 hg w4 hbox hb; have n0_ := Aside0.mk (below_step (by repeat (first | (with_reducible first | exact HB.out | apply below_alloc | apply pw_below_drewN | apply below_drew1) | exact HB.out)) hb); have n1_ := Aside0.mk (hbox); have n2_ := Aside0.mk ((by rw [hg]; exact (below_size (by repeat (first | (with_reducible first | exact HB.out | apply below_alloc | apply pw_below_drewN | apply below_drew1) | exact HB.out))) : w.heap.size ≤ gb210)); have n3_ := Aside0.mk ((by rw [hg]; exact (below_size (by repeat (first | (with_reducible first | exact HB.out | apply below_alloc | apply pw_below_drewN | apply below_drew1) | exact HB.out))) : w.heap.size ≤ gb210)); clear HB; have HB := n0_; have BK210 := n1_; have GW210 := n2_; have GE210 := n3_; clear n0_ n1_ n2_ n3_; clear hb hbox hg) | ((with_reducible refine gate_dst (N := 3) rfl ?_); refine box_event ?hg (N := 3) ?hd (cs := #[.int .u64 a1_0, .int .i64 a1_1, .int .u64 a1_2, .int .i64 a1_3]) (t := 27) ?hr ?_; (case hd => rfl); (case hg => rfl); (case hr => first | (go_simp; done) | (go_simp; rfl)); intro gb211 hg w5 hbox hb; have n0_ := Aside0.mk (blk_below (g := gb210) (o := .cells #[.int .u64 a0_0, .int .i64 a0_1, .int .u64 a0_2, .int .i64 a0_3, .slice A0_4 l0_4.length c0_4] 32 (0, 0)) (by (with_reducible repeat (first | refine blk_drewN ?_ _ | refine blk_drew ?_ | refine blk_alloc ?_ _)); exact BK210.out) hb); have n1_ := Aside0.mk (below_step (by repeat (first | (with_reducible first | exact HB.out | apply below_alloc | apply pw_below_drewN | apply below_drew1 | refine below_set ?_ GE210.out) | exact HB.out)) hb); have n2_ := Aside0.mk (hbox); have n3_ := Aside0.mk ((by rw [hg]; exact (below_size (by repeat (first | (with_reducible first | exact HB.out | apply below_alloc | apply pw_below_drewN | apply below_drew1 | refine below_set ?_ GE210.out) | exact HB.out))) : w.heap.size ≤ gb211)); have n4_ := Aside0.mk ((by rw [hg]; exact (below_size (by repeat (first | (with_reducible first | exact HB.out | apply below_alloc | apply pw_below_drewN | apply below_drew1 | refine below_set ?_ GE210.out) | exact HB.out))) : w.heap.size ≤ gb211)); have n5_ := Aside0.mk ((by rw [hg]; exact Nat.ne_of_lt (blk_lt (g := gb210) (o := .cells #[.int .u64 a0_0, .int .i64 a0_1, .int .u64 a0_2, .int .i64 a0_3, .slice A0_4 l0_4.length c0_4] 32 (0, 0)) (by (with_reducible repeat (first | refine blk_drewN ?_ _ | refine blk_drew ?_ | refine blk_alloc ?_ _)); exact BK210.out)) : gb210 ≠ gb211)); have n6_ := Aside0.mk ((by rw [hg]; exact Nat.ne_of_gt (blk_lt (g := gb210) (o := .cells #[.int .u64 a0_0, .int .i64 a0_1, .int .u64 a0_2, .int .i64 a0_3, .slice A0_4 l0_4.length c0_4] 32 (0, 0)) (by (with_reducible repeat (first | refine blk_drewN ?_ _ | refine blk_drew ?_ | refine blk_alloc ?_ _)); exact BK210.out)) : gb211 ≠ gb210)); clear BK210; clear HB; have BK210 := n0_; have HB := n1_; have BK211 := n2_; have GW211 := n3_; have GE211 := n4_; have NB210_211 := n5_; have NB211_210 := n6_; clear n0_ n1_ n2_ n3_ n4_ n5_ n6_; clear hb hbox hg; have hnb6 := NB210_211.out; have hnc6 := NB211_210.out; have hcz7_0 : w5.cell? ⟨gb210, 0, none⟩ = some (.int .u64 a0_0) := (blk_cell BK210.out 0).trans rfl; have hcz7_1 : w5.cell? ⟨gb210, 1, none⟩ = some (.int .i64 a0_1) := (blk_cell BK210.out 1).trans rfl; have hcz7_2 : w5.cell? ⟨gb210, 2, none⟩ = some (.int .u64 a0_2) := (blk_cell BK210.out 2).trans rfl; have hcz7_3 : w5.cell? ⟨gb210, 3, none⟩ = some (.int .i64 a0_3) := (blk_cell BK210.out 3).trans rfl; have hcz7_4 : w5.cell? ⟨gb210, 4, none⟩ = some (.slice A0_4 l0_4.length c0_4) := (blk_cell BK210.out 4).trans rfl; have hfz7_0 := blk_frozen BK210.out 0; have hfz7_1 := blk_frozen BK210.out 1; have hfz7_2 := blk_frozen BK210.out 2; have hfz7_3 := blk_frozen BK210.out 3; have hfz7_4 := blk_frozen BK210.out 4; have hcz8_0 : w5.cell? ⟨gb211, 0, none⟩ = some (.int .u64 a1_0) := (blk_cell BK211.out 0).trans rfl; have hcz8_1 : w5.cell? ⟨gb211, 1, none⟩ = some (.int .i64 a1_1) := (blk_cell BK211.out 1).trans rfl; have hcz8_2 : w5.cell? ⟨gb211, 2, none⟩ = some (.int .u64 a1_2) := (blk_cell BK211.out 2).trans rfl; have hcz8_3 : w5.cell? ⟨gb211, 3, none⟩ = some (.int .i64 a1_3) := (blk_cell BK211.out 3).trans rfl; have hfz8_0 := blk_frozen BK211.out 0; have hfz8_1 := blk_frozen BK211.out 1; have hfz8_2 := blk_frozen BK211.out 2; have hfz8_3 := blk_frozen BK211.out 3) | ((with_reducible refine gate_callee (f := 42) rfl ?_); refine goesL_ (some 8) rfl rfl Try.func42 (by kernel_rfl) rfl #[.agg #[.int .u64 a0_0, .int .i64 a0_1, .int .u64 a0_2, .int .i64 a0_3], .agg #[.int .u64 a1_0, .int .i64 a1_1, .int .u64 a1_2, .int .i64 a1_3]] rfl (by (try simp only [List.map_toArray, List.map_cons, List.map_nil]); first | done | rfl | (simp only [List.length_drop, List.length_take]; rfl)) ?_; (with_reducible refine (label_Compare.calls k a0_0 a0_1 a0_2 a0_3 a1_0 a1_1 a1_2 a1_3 t212 _ A3.out).mono ?_); rintro e w9 ⟨rfl, hb⟩; refine ⟨_, rfl, ?_⟩; have n0_ := Aside0.mk (blk_below (g := gb210) (o := .cells #[.int .u64 a0_0, .int .i64 a0_1, .int .u64 a0_2, .int .i64 a0_3, .slice A0_4 l0_4.length c0_4] 32 (0, 0)) (by (with_reducible repeat (first | refine blk_drewN ?_ _ | refine blk_drew ?_ | refine blk_alloc ?_ _)); exact BK210.out) hb); have n1_ := Aside0.mk (blk_below (g := gb211) (o := .cells #[.int .u64 a1_0, .int .i64 a1_1, .int .u64 a1_2, .int .i64 a1_3] 27 (0, 0)) (by (with_reducible repeat (first | refine blk_drewN ?_ _ | refine blk_drew ?_ | refine blk_alloc ?_ _)); exact BK211.out) hb); have n2_ := Aside0.mk (below_step (by repeat (first | (with_reducible first | exact HB.out | apply below_alloc | apply pw_below_drewN | apply below_drew1 | refine below_set ?_ GE210.out | refine below_set ?_ GE211.out) | exact HB.out)) hb); clear BK210; clear BK211; clear HB; have BK210 := n0_; have BK211 := n1_; have HB := n2_; clear n0_ n1_ n2_; (try clear hb); (try clear hb2); (try clear hk); (try clear hi)))
  go_ret
  exact ⟨by first | rfl | (simp [errW_none, errW_some] <;> rfl) | (simp [*, errW_none, errW_some] <;> rfl), by repeat (first | (with_reducible first | exact HB.out | apply below_alloc | apply pw_below_drewN | apply below_drew1 | refine below_set ?_ GE210.out | refine below_set ?_ GE211.out) | exact HB.out)⟩

end Go.Proofs.Ytioooiflpabngaa.PAll

namespace Go.Proofs.Ytioooiflpabngaa.PAll
open Go.RowKit Go.Proofs.YtioooiflpabngaaW.PrintWords Go.Proofs.YtioooiflpabngaaW.PrintLast Go.Proofs.YtioooiflpabngaaW.PrintMore
attribute [local go_sem] max2_int min2_int max_two min_two max_three min_three max_four min_four   -- for this text's walks alone
set_option linter.unusedVariables false
set_option linter.unusedSimpArgs false

/-! ### api_Label_70: function 70 -/
def api_Label_70.l0 : Nat → List (S32) → Int → Int → Int → Int → Int → Int → Int → Option (Int × Bool)
  | 0, _, _, _, _, _, _, _, _ => none
  | k + 1, x0, x8, x9, x10, x214000, x214001, x214002, x214003 => if x9 < x10 then (if 0 ≤ (wrap64 ((IntKind.u64.wrap (wrap64 (x9 + x10))) / 2)) then (if (wrap64 ((IntKind.u64.wrap (wrap64 (x9 + x10))) / 2)) < (x0.length : Int) then ((content_Find_1.f k ((rd_T32 x0 (wrap64 ((IntKind.u64.wrap (wrap64 (x9 + x10))) / 2))).f0.f0.f0) ((rd_T32 x0 (wrap64 ((IntKind.u64.wrap (wrap64 (x9 + x10))) / 2))).f0.f0.f1) ((rd_T32 x0 (wrap64 ((IntKind.u64.wrap (wrap64 (x9 + x10))) / 2))).f0.f1) ((rd_T32 x0 (wrap64 ((IntKind.u64.wrap (wrap64 (x9 + x10))) / 2))).f0.f2) ((rd_T32 x0 (wrap64 ((IntKind.u64.wrap (wrap64 (x9 + x10))) / 2))).f1) x214000 x214001 x214002 x214003).bind fun t215 => (if t215 < 0 then (api_Label_70.l0 k x0 x8 (wrap64 ((wrap64 ((IntKind.u64.wrap (wrap64 (x9 + x10))) / 2)) + 1)) x10 x214000 x214001 x214002 x214003) else (api_Label_70.l0 k x0 x8 x9 (wrap64 ((IntKind.u64.wrap (wrap64 (x9 + x10))) / 2)) x214000 x214001 x214002 x214003))) else (none)) else (none)) else (if x9 < x8 then (if 0 ≤ x9 then (if x9 < (x0.length : Int) then ((content_Find_1.f k ((rd_T32 x0 x9).f0.f0.f0) ((rd_T32 x0 x9).f0.f0.f1) ((rd_T32 x0 x9).f0.f1) ((rd_T32 x0 x9).f0.f2) ((rd_T32 x0 x9).f1) x214000 x214001 x214002 x214003).bind fun t217 => (some (x9, (t217 == 0)))) else (none)) else (none)) else (some (x9, false)))
def api_Label_70.f (k : Nat) (l0 : List (S32)) (a1_0 : Int) (a1_1 : Int) (a1_2 : Int) (a1_3 : Int) : Option (Int × Bool) := api_Label_70.l0 k l0 (l0.length : Int) 0 (l0.length : Int) a1_0 a1_1 a1_2 a1_3
theorem api_Label_70.mono_l : ∀ k, (∀ y0 y1 y2 y3 y4 y5 y6 y7, LeO (api_Label_70.l0 k y0 y1 y2 y3 y4 y5 y6 y7) (api_Label_70.l0 (k + 1) y0 y1 y2 y3 y4 y5 y6 y7))
  | 0 => fun _ _ _ _ _ _ _ _ r h => by simp [api_Label_70.l0] at h
  | k + 1 => by
    have ih0 := api_Label_70.mono_l k
    · intro y0 y1 y2 y3 y4 y5 y6 y7
      unfold api_Label_70.l0
      repeat' first
      | (with_reducible exact ih0 _ _ _ _ _ _ _ _)
      | (with_reducible exact content_Find_1.mono _ _ _ _ _ _ _ _ _ _)
      | (with_reducible exact LeO.refl _)
      | (with_reducible exact LeO.none _)
      | (with_reducible refine LeO.ite ?_ ?_)
      | (with_reducible refine LeO.bind ?_ (fun _ => ?_))
      | exact ih0 _ _ _ _ _ _ _ _
      | exact content_Find_1.mono _ _ _ _ _ _ _ _ _ _
      | exact LeO.none _
      | refine LeO.ite ?_ ?_
      | refine LeO.bind ?_ (fun _ => ?_)
theorem api_Label_70.mono : ∀ a0 a1 a2 a3 a4 k, LeO (api_Label_70.f k a0 a1 a2 a3 a4) (api_Label_70.f (k + 1) a0 a1 a2 a3 a4) := by
  intro a0 a1 a2 a3 a4 k
  have ih0 := api_Label_70.mono_l k
  unfold api_Label_70.f
  repeat' first
      | (with_reducible exact ih0 _ _ _ _ _ _ _ _)
      | (with_reducible exact content_Find_1.mono _ _ _ _ _ _ _ _ _ _)
      | (with_reducible exact LeO.refl _)
      | (with_reducible exact LeO.none _)
      | (with_reducible refine LeO.ite ?_ ?_)
      | (with_reducible refine LeO.bind ?_ (fun _ => ?_))
      | exact ih0 _ _ _ _ _ _ _ _
      | exact content_Find_1.mono _ _ _ _ _ _ _ _ _ _
      | exact LeO.none _
      | refine LeO.ite ?_ ?_
      | refine LeO.bind ?_ (fun _ => ?_)
def api_Label_70.T5 : Bool × List (List Nat × List Nat) := (true, [([], []), ([], []), ([], []), ([1, 2], [1, 2]), ([3], [3]), ([], []), ([0, 4, 5], [0, 4, 5]), ([6], [6])])
def api_Label_70.B5 : List Nat := [0, 0, 0, 6, 14, 0, 63, 127]
theorem api_Label_70.tab5 : rtab .any (opsOf Try.f70 5) = api_Label_70.T5 := by kernel_rfl
theorem api_Label_70.bits5 : waitsOk api_Label_70.T5.2 api_Label_70.B5 = true := by kernel_rfl
def api_Label_70.T8 : Bool × List (List Nat × List Nat) := (true, [([], []), ([], []), ([], []), ([1, 2], [1, 2]), ([3], [3]), ([4], [4]), ([4], [4]), ([4], [4]), ([6, 7, 4], [4, 6, 7]), ([8, 4], [4, 8]), ([4], [4]), ([5, 9, 10, 4, 4], [4, 5, 9, 10]), ([11, 4], [4, 11]), ([4, 12], [4, 12]), ([0, 11, 0], [0]), ([13, 14, 0, 1, 2, 3, 4, 5, 6, 7, 8, 9, 10, 11, 12, 13, 14], [13])])
def api_Label_70.B8 : List Nat := [0, 0, 0, 6, 14, 30, 30, 30, 222, 478, 30, 2046, 4094, 8190, 4095, 32767]
theorem api_Label_70.tab8 : rtab .any (opsOf Try.f70 8) = api_Label_70.T8 := by kernel_rfl
theorem api_Label_70.bits8 : waitsOk api_Label_70.T8.2 api_Label_70.B8 = true := by kernel_rfl
set_option maxHeartbeats 8000000 in
set_option maxRecDepth 100000 in
theorem api_Label_70.calls (k : Nat) (A0 : Option Addr) (c0 : Nat) (l0 : List (S32)) (a1_0 : Int) (a1_1 : Int) (a1_2 : Int) (a1_3 : Int) (r1 : Int) (r2 : Bool) (w : World) (hr0 : Kd.C k32 w A0 l0.length l0) (hc0 : l0.length ≤ c0) (h : api_Label_70.f k l0 a1_0 a1_1 a1_2 a1_3 = some (r1, r2)) :
    Calls Try.prog 70 #[.slice A0 l0.length c0, .agg #[.int .u64 a1_0, .int .i64 a1_1, .int .u64 a1_2, .int .i64 a1_3], .func (.func 71) #[] #[]] w fun e w' => e = .returned (.tuple #[.int .i64 r1, .bool r2]) ∧ Below w.heap.size w w' := by
  have hu27 := Try.underlying27
  have hu32 := Try.underlying32
  have HR0 := Aside0.mk hr0
  have HC0 := Aside0.mk hc0
  clear hr0 hc0
  have HB := Aside0.mk (Below.refl w.heap.size w)
  have H : (api_Label_70.l0 k l0 (l0.length : Int) 0 (l0.length : Int) a1_0 a1_1 a1_2 a1_3) = some (r1, r2) := h
  clear h
  have H' := Aside0.mk H
  clear H
  go_enter Try.func70, Try.ntmps70
  go_wp2_with (first | ((with_reducible refine gate_dst (N := 4) rfl ?_); refine box_event ?hg (N := 4) ?hd (cs := #[.int .u64 a1_0, .int .i64 a1_1, .int .u64 a1_2, .int .i64 a1_3]) (t := 27) ?hr ?_; (case hd => rfl); (case hg => rfl); (case hr => first | (go_simp; done) | (go_simp; rfl)); intro gb213 hg w3 hbox hb; have n0_ := Aside0.mk (below_step (by repeat (first | (with_reducible first | exact HB.out | apply below_alloc | apply pw_below_drewN | apply below_drew1) | exact HB.out)) hb); have n1_ := Aside0.mk (hbox); have n2_ := Aside0.mk ((by rw [hg]; exact (below_size (by repeat (first | (with_reducible first | exact HB.out | apply below_alloc | apply pw_below_drewN | apply below_drew1) | exact HB.out))) : w.heap.size ≤ gb213)); have n3_ := Aside0.mk ((by rw [hg]; exact (below_size (by repeat (first | (with_reducible first | exact HB.out | apply below_alloc | apply pw_below_drewN | apply below_drew1) | exact HB.out))) : w.heap.size ≤ gb213)); clear HB; have HB := n0_; have BK213 := n1_; have GW213 := n2_; have GE213 := n3_; clear n0_ n1_ n2_ n3_; clear hb hbox hg))
  go_loopg [9, 10] k (fun kq v9 v10 w' => ∃ (x9_1 : Int) (x10_1 : Int), v9 = .int .i64 x9_1 ∧ v10 = .int .i64 x10_1 ∧ Aside0 (api_Label_70.l0 kq l0 (l0.length : Int) x9_1 x10_1 a1_0 a1_1 a1_2 a1_3 = some (r1, r2)) ∧ Aside0 (kq ≤ k) ∧ Aside0 (w'.heap[gb213]? = some (.cells #[.int .u64 a1_0, .int .i64 a1_1, .int .u64 a1_2, .int .i64 a1_3] 27 (0, 0))) ∧ Aside0 (Below w.heap.size w w'))
  case atStart => exact ⟨(0), ((l0.length : Int)), (by first | rfl | (simp; done) | (simp [*]; done)), (by first | rfl | (simp; done) | (simp [*]; done)), H', ⟨Nat.le_refl _⟩, ⟨by (with_reducible repeat (first | refine blk_drewN ?_ _ | refine blk_drew ?_ | refine blk_alloc ?_ _)); exact BK213.out⟩, ⟨by repeat (first | (with_reducible first | exact HB.out | apply below_alloc | apply pw_below_drewN | apply below_drew1 | refine below_set ?_ GE213.out) | exact HB.out)⟩⟩
  case round =>
    clear H'
    try clear p2
    obtain ⟨x9_1, x10_1, rfl, rfl, HA, HK1, BK213, HB⟩ := hrel
    cases gk with
    | zero => exact absurd HA.out (by simp [api_Label_70.l0])
    | succ k1 =>
      have H := HA.out
      clear HA
      simp only [api_Label_70.l0] at H
      by_cases c4 : x9_1 < x10_1
      · rw [if_pos c4] at H
        have c4b0 : decide (x9_1 < x10_1) = true := decide_eq_true c4
        clear c4
        obtain ⟨ji5, hji5⟩ : ∃ j_ : Int, (wrap64 ((IntKind.u64.wrap (wrap64 (x9_1 + x10_1))) / 2)) = j_ := ⟨_, rfl⟩
        replace H : (if 0 ≤ (ji5) then (if (ji5) < (l0.length : Int) then ((content_Find_1.f k1 ((rd_T32 l0 (ji5)).f0.f0.f0) ((rd_T32 l0 (ji5)).f0.f0.f1) ((rd_T32 l0 (ji5)).f0.f1) ((rd_T32 l0 (ji5)).f0.f2) ((rd_T32 l0 (ji5)).f1) a1_0 a1_1 a1_2 a1_3).bind fun t215 => (if t215 < 0 then (api_Label_70.l0 k1 l0 (l0.length : Int) (wrap64 ((ji5) + 1)) x10_1 a1_0 a1_1 a1_2 a1_3) else (api_Label_70.l0 k1 l0 (l0.length : Int) x9_1 ji5 a1_0 a1_1 a1_2 a1_3))) else (none)) else (none)) = some (r1, r2) := by first | (rw [hji5] at H; exact H) | (simp only [hji5] at H ⊢; exact H)
        have hji5w : (IntKind.i64.wrap ((IntKind.u64.wrap (wrap64 (x9_1 + x10_1))) / 2)) = ji5 := (i64_w _).trans hji5
        by_cases c6 : 0 ≤ (ji5)
        · rw [if_pos c6] at H
          have c6b0 : decide (0 ≤ (ji5)) = true := decide_eq_true c6
          clear c6
          by_cases c7 : (ji5) < (l0.length : Int)
          · rw [if_pos c7] at H
            have c7b0 : decide ((ji5) < (l0.length : Int)) = true := decide_eq_true c7
            clear c7
            replace H := Option.bind_eq_some_iff.mp H
            obtain ⟨t215, A80, H⟩ := H
            replace H : (if t215 < 0 then (api_Label_70.l0 k1 l0 (l0.length : Int) (wrap64 ((ji5) + 1)) x10_1 a1_0 a1_1 a1_2 a1_3) else (api_Label_70.l0 k1 l0 (l0.length : Int) x9_1 ji5 a1_0 a1_1 a1_2 a1_3)) = some (r1, r2) := H
            have A8 := Aside0.mk A80
            clear A80
            by_cases c9 : t215 < 0
            · rw [if_pos c9] at H
              have c9b0 : decide (t215 < 0) = true := decide_eq_true c9
              clear c9
              have H' := Aside0.mk H
              clear H
              try go_wp2
              have n0_ := Aside0.mk (blk_drew BK213.out)
              have n1_ := Aside0.mk (below_drew1 HB.out)
              clear BK213
              clear HB
              have BK213 := n0_
              have HB := n1_
              clear n0_ n1_
              have p214 : 0 ≤ ((ji5) : Int) := of_decide_eq_true (by first | (with_reducible assumption) | assumption)
              have q214 : (ji5) < (l0.length : Int) := of_decide_eq_true (by first | (with_reducible assumption) | assumption)
              obtain ⟨ad214, A214_4, c214_4, e214, hx214_0, hx214_1, hx214_2, hx214_3, hx214_4, hl214_4, hi214_4⟩ := at_T32 HR0.out (ji5) p214 q214
              have hw214_4 := hx214_4
              have hw214_3 := hx214_3
              have hw214_2 := hx214_2
              have hw214_1 := hx214_1
              have hw214_0 := hx214_0
              cases e214
              replace hx214_0 := (HB.out.cell (World.block_lt_of_cell? w _ hx214_0)).trans hx214_0
              replace hx214_1 := (HB.out.cell (World.block_lt_of_cell? w _ hx214_1)).trans hx214_1
              replace hx214_2 := (HB.out.cell (World.block_lt_of_cell? w _ hx214_2)).trans hx214_2
              replace hx214_3 := (HB.out.cell (World.block_lt_of_cell? w _ hx214_3)).trans hx214_3
              replace hx214_4 := (HB.out.cell (World.block_lt_of_cell? w _ hx214_4)).trans hx214_4
              have HR214_4 := Aside0.mk hi214_4
              have HC214_4 := Aside0.mk hl214_4
              clear hi214_4 hl214_4
              replace p214 := eq_true p214
              replace q214 := eq_true q214
              refine start_ (n := 8) (S := fun w' => w'.cell? ⟨gb213, 0, none⟩ = some (.int .u64 a1_0) ∧ w'.cell? ⟨gb213, 1, none⟩ = some (.int .i64 a1_1) ∧ w'.cell? ⟨gb213, 2, none⟩ = some (.int .u64 a1_2) ∧ w'.cell? ⟨gb213, 3, none⟩ = some (.int .i64 a1_3) ∧ w'.cell? (ad214.add (((ji5)).toNat * 5)) = some (.int .u64 ((rd_T32 l0 (ji5)).f0.f0.f0)) ∧ w'.cell? ⟨(ad214.add (((ji5)).toNat * 5)).block, (ad214.add (((ji5)).toNat * 5)).off + 1, none⟩ = some (.int .i64 ((rd_T32 l0 (ji5)).f0.f0.f1)) ∧ w'.cell? ⟨(ad214.add (((ji5)).toNat * 5)).block, (ad214.add (((ji5)).toNat * 5)).off + 2, none⟩ = some (.int .u64 ((rd_T32 l0 (ji5)).f0.f1)) ∧ w'.cell? ⟨(ad214.add (((ji5)).toNat * 5)).block, (ad214.add (((ji5)).toNat * 5)).off + 3, none⟩ = some (.int .i64 ((rd_T32 l0 (ji5)).f0.f2)) ∧ w'.cell? ⟨(ad214.add (((ji5)).toNat * 5)).block, (ad214.add (((ji5)).toNat * 5)).off + 4, none⟩ = some (.slice A214_4 ((rd_T32 l0 (ji5)).f1).length c214_4)) (ds := []) #[false, false, false, false, false, false, false, false] (by kernel_rfl) rfl rfl ⟨(blk_cell BK213.out 0).trans rfl, (blk_cell BK213.out 1).trans rfl, (blk_cell BK213.out 2).trans rfl, (blk_cell BK213.out 3).trans rfl, ((HB.out.cell (World.block_lt_of_cell? w _ hw214_0)).trans hw214_0), ((HB.out.cell (World.block_lt_of_cell? w _ hw214_1)).trans hw214_1), ((HB.out.cell (World.block_lt_of_cell? w _ hw214_2)).trans hw214_2), ((HB.out.cell (World.block_lt_of_cell? w _ hw214_3)).trans hw214_3), ((HB.out.cell (World.block_lt_of_cell? w _ hw214_4)).trans hw214_4)⟩ (fun hHeld => ?_); refine with_tabW api_Label_70.tab5 api_Label_70.bits5 (fun HT_ HW_ => ?_)
              generalize wr.drew = w10 at BK213 HB HR214_4 hx214_0 hx214_1 hx214_2 hx214_3 hx214_4 hHeld ⊢
              refine pure_ (i := 0) (N := some 24) (v := ?_) (a' := ?_) #[true, false, false, false, false, false, false, false] rfl rfl (any_of HT_.out (by kernel_rfl)) (fun _ _ _ h => h) (Or.inl ⟨by rfl, ?_⟩) ?_ ?_
              rotate_left
              · intro w'
                go_simp
                with_reducible rfl
              rotate_left
              · simp only [Act.put, List.setIfInBounds_toArray, List.set_cons_zero, List.set_cons_succ, i64_w, i32_w]
                rfl
              refine pure_ (i := 1) (N := some 25) (v := ?_) (a' := ?_) #[true, true, false, false, false, false, false, false] rfl rfl (any_of HT_.out (by kernel_rfl)) (fun _ _ _ h => h) (Or.inl ⟨by rfl, ?_⟩) ?_ ?_
              rotate_left
              · intro w'
                go_simp
                with_reducible rfl
              rotate_left
              · simp only [Act.put, List.setIfInBounds_toArray, List.set_cons_zero, List.set_cons_succ, i64_w, i32_w]
                rfl
              refine pure_ (i := 2) (N := some 26) (v := ?_) (a' := ?_) #[true, true, true, false, false, false, false, false] rfl rfl (any_of HT_.out (by kernel_rfl)) (fun _ _ _ h => h) (Or.inl ⟨by rfl, ?_⟩) ?_ ?_
              rotate_left
              · intro w'
                go_simp
                with_reducible rfl
              rotate_left
              · simp only [Act.put, List.setIfInBounds_toArray, List.set_cons_zero, List.set_cons_succ, i64_w, i32_w]
                rfl
              refine pure_ (i := 3) (N := some 27) (v := ?_) (a' := ?_) #[true, true, true, true, false, false, false, false] rfl rfl (any_of HT_.out (by kernel_rfl)) (fun _ _ _ h => h) (Or.inl ⟨by rfl, ?_⟩) ?_ ?_
              rotate_left
              · intro w'
                go_simp
                with_reducible rfl
              rotate_left
              · simp only [Act.put, List.setIfInBounds_toArray, List.set_cons_zero, List.set_cons_succ, i64_w, i32_w]
                rfl
              refine take_ (i := 4) (N := some 28) (v := ?_) (a' := ?_) #[true, true, true, true, true, false, false, false] rfl rfl (take_ofW HT_.out HW_.out (by kernel_rfl)) (fun _ _ _ h => h) (Or.inl ⟨by rfl, ?_⟩) hHeld ?_ ?_
              rotate_left
              · rintro w' ⟨s0, s1, s2, s3, s4, s5, s6, s7, s8⟩
                go_simp
                with_reducible rfl
              rotate_left
              · simp only [Act.put, List.setIfInBounds_toArray, List.set_cons_zero, List.set_cons_succ, i64_w, i32_w]
                rfl
              refine take_ (i := 5) (N := some 29) (v := ?_) (a' := ?_) #[true, true, true, true, true, true, false, false] rfl rfl (take_ofW HT_.out HW_.out (by kernel_rfl)) (fun _ _ _ h => h) (Or.inl ⟨by rfl, ?_⟩) hHeld ?_ ?_
              rotate_left
              · rintro w' ⟨s0, s1, s2, s3, s4, s5, s6, s7, s8⟩
                go_simp
                with_reducible rfl
              rotate_left
              · simp only [Act.put, List.setIfInBounds_toArray, List.set_cons_zero, List.set_cons_succ, i64_w, i32_w]
                rfl
              refine one_ (i := 6) (N := some 30) #[true, true, true, true, true, true, true, false] rfl rfl (one_of HT_.out (by kernel_rfl)) (by decide) (fun K hK => ?_)
              refine goesV_ Try.func71 (by kernel_rfl) rfl #[.agg #[.int .u64 ((rd_T32 l0 (ji5)).f0.f0.f0), .int .i64 ((rd_T32 l0 (ji5)).f0.f0.f1), .int .u64 ((rd_T32 l0 (ji5)).f0.f1), .int .i64 ((rd_T32 l0 (ji5)).f0.f2), .slice A214_4 ((rd_T32 l0 (ji5)).f1).length c214_4], .agg #[.int .u64 a1_0, .int .i64 a1_1, .int .u64 a1_2, .int .i64 a1_3]] (by rfl) rfl rfl rfl (by (try simp only [List.map_toArray, List.map_cons, List.map_nil]); first | done | (simp only [hji5]; rfl) | rfl | (simp only [List.length_drop, List.length_take]; rfl)) ?_
              with_reducible refine (content_Find_1.calls k1 ((rd_T32 l0 (ji5)).f0.f0.f0) ((rd_T32 l0 (ji5)).f0.f0.f1) ((rd_T32 l0 (ji5)).f0.f1) ((rd_T32 l0 (ji5)).f0.f2) _ _ ((rd_T32 l0 (ji5)).f1) a1_0 a1_1 a1_2 a1_3 t215 _ ?side1 ?side2 A8.out).mono ?_
              (case side1 => repeat (first | exact (Kd.C_below HR214_4.out HB.out) | (with_reducible refine Kd.C_alloc ?_ _) | (with_reducible refine Kd.C_drewN ?_ _) | (with_reducible refine Kd.C_drew ?_)))
              (case side2 => exact HC214_4.out)
              rintro e w11 ⟨rfl, hb⟩
              refine ⟨_, rfl, ?_⟩
              have n0_ := Aside0.mk (blk_below (g := gb213) (o := .cells #[.int .u64 a1_0, .int .i64 a1_1, .int .u64 a1_2, .int .i64 a1_3] 27 (0, 0)) (by (with_reducible repeat (first | refine blk_drewN ?_ _ | refine blk_drew ?_ | refine blk_alloc ?_ _)); exact BK213.out) hb)
              have n1_ := Aside0.mk (below_step (by repeat (first | (with_reducible first | exact HB.out | apply below_alloc | apply pw_below_drewN | apply below_drew1 | refine below_set ?_ GE213.out) | exact HB.out)) hb)
              clear BK213
              clear HB
              have BK213 := n0_
              have HB := n1_
              clear n0_ n1_
              (try clear hb)
              (try clear hb2)
              (try clear hk)
              (try clear hi)
              refine hK.out _ _ ⟨(blk_cell BK213.out 0).trans rfl, (blk_cell BK213.out 1).trans rfl, (blk_cell BK213.out 2).trans rfl, (blk_cell BK213.out 3).trans rfl, ((HB.out.cell (World.block_lt_of_cell? w _ hw214_0)).trans hw214_0), ((HB.out.cell (World.block_lt_of_cell? w _ hw214_1)).trans hw214_1), ((HB.out.cell (World.block_lt_of_cell? w _ hw214_2)).trans hw214_2), ((HB.out.cell (World.block_lt_of_cell? w _ hw214_3)).trans hw214_3), ((HB.out.cell (World.block_lt_of_cell? w _ hw214_4)).trans hw214_4)⟩ (fun hHeld => ?_)
              clear hK K
              refine norm_ (a' := ?_) ?_ ?_
              rotate_left
              · show Act.put _ (some 30) _ = _
                simp only [Act.put, List.setIfInBounds_toArray, List.set_cons_zero, List.set_cons_succ, i64_w, i32_w]
                rfl
              refine pure_ (i := 7) (N := some 31) (v := ?_) (a' := ?_) #[true, true, true, true, true, true, true, true] rfl rfl (any_of HT_.out (by kernel_rfl)) (fun _ _ _ h => h) (Or.inl ⟨by rfl, ?_⟩) ?_ ?_
              rotate_left
              · intro w'
                go_simp
                with_reducible rfl
              rotate_left
              · simp only [Act.put, List.setIfInBounds_toArray, List.set_cons_zero, List.set_cons_succ, i64_w, i32_w]
                rfl
              refine done_ (done_of HT_.out (by kernel_rfl)) ?_
              (try clear hHeld); (try clear HS0_)
              try go_wp2
              go_roundg k1
              case measure => have := HK1.out; omega
              case rel => exact ⟨(wrap64 ((ji5) + 1)), (x10_1), (by first | rfl | (simp; done) | (simp only [← hji5] <;> (first | rfl | simp)) | (simp [*]; done)), (by first | rfl | (simp; done) | (simp [*]; done)), H', ⟨by have := HK1.out; omega⟩, ⟨by (with_reducible repeat (first | refine blk_drewN ?_ _ | refine blk_drew ?_ | refine blk_alloc ?_ _)); exact BK213.out⟩, ⟨by repeat (first | (with_reducible first | exact HB.out | apply below_alloc | apply pw_below_drewN | apply below_drew1 | refine below_set ?_ GE213.out) | exact HB.out)⟩⟩
            · rw [if_neg c9] at H
              have c9b0 : decide (t215 < 0) = false := decide_eq_false c9
              clear c9
              have H' := Aside0.mk H
              clear H
              try go_wp2
              have n0_ := Aside0.mk (blk_drew BK213.out)
              have n1_ := Aside0.mk (below_drew1 HB.out)
              clear BK213
              clear HB
              have BK213 := n0_
              have HB := n1_
              clear n0_ n1_
              have p214 : 0 ≤ ((ji5) : Int) := of_decide_eq_true (by first | (with_reducible assumption) | assumption)
              have q214 : (ji5) < (l0.length : Int) := of_decide_eq_true (by first | (with_reducible assumption) | assumption)
              obtain ⟨ad214, A214_4, c214_4, e214, hx214_0, hx214_1, hx214_2, hx214_3, hx214_4, hl214_4, hi214_4⟩ := at_T32 HR0.out (ji5) p214 q214
              have hw214_4 := hx214_4
              have hw214_3 := hx214_3
              have hw214_2 := hx214_2
              have hw214_1 := hx214_1
              have hw214_0 := hx214_0
              cases e214
              replace hx214_0 := (HB.out.cell (World.block_lt_of_cell? w _ hx214_0)).trans hx214_0
              replace hx214_1 := (HB.out.cell (World.block_lt_of_cell? w _ hx214_1)).trans hx214_1
              replace hx214_2 := (HB.out.cell (World.block_lt_of_cell? w _ hx214_2)).trans hx214_2
              replace hx214_3 := (HB.out.cell (World.block_lt_of_cell? w _ hx214_3)).trans hx214_3
              replace hx214_4 := (HB.out.cell (World.block_lt_of_cell? w _ hx214_4)).trans hx214_4
              have HR214_4 := Aside0.mk hi214_4
              have HC214_4 := Aside0.mk hl214_4
              clear hi214_4 hl214_4
              replace p214 := eq_true p214
              replace q214 := eq_true q214
              refine start_ (n := 8) (S := fun w' => w'.cell? ⟨gb213, 0, none⟩ = some (.int .u64 a1_0) ∧ w'.cell? ⟨gb213, 1, none⟩ = some (.int .i64 a1_1) ∧ w'.cell? ⟨gb213, 2, none⟩ = some (.int .u64 a1_2) ∧ w'.cell? ⟨gb213, 3, none⟩ = some (.int .i64 a1_3) ∧ w'.cell? (ad214.add (((ji5)).toNat * 5)) = some (.int .u64 ((rd_T32 l0 (ji5)).f0.f0.f0)) ∧ w'.cell? ⟨(ad214.add (((ji5)).toNat * 5)).block, (ad214.add (((ji5)).toNat * 5)).off + 1, none⟩ = some (.int .i64 ((rd_T32 l0 (ji5)).f0.f0.f1)) ∧ w'.cell? ⟨(ad214.add (((ji5)).toNat * 5)).block, (ad214.add (((ji5)).toNat * 5)).off + 2, none⟩ = some (.int .u64 ((rd_T32 l0 (ji5)).f0.f1)) ∧ w'.cell? ⟨(ad214.add (((ji5)).toNat * 5)).block, (ad214.add (((ji5)).toNat * 5)).off + 3, none⟩ = some (.int .i64 ((rd_T32 l0 (ji5)).f0.f2)) ∧ w'.cell? ⟨(ad214.add (((ji5)).toNat * 5)).block, (ad214.add (((ji5)).toNat * 5)).off + 4, none⟩ = some (.slice A214_4 ((rd_T32 l0 (ji5)).f1).length c214_4)) (ds := []) #[false, false, false, false, false, false, false, false] (by kernel_rfl) rfl rfl ⟨(blk_cell BK213.out 0).trans rfl, (blk_cell BK213.out 1).trans rfl, (blk_cell BK213.out 2).trans rfl, (blk_cell BK213.out 3).trans rfl, ((HB.out.cell (World.block_lt_of_cell? w _ hw214_0)).trans hw214_0), ((HB.out.cell (World.block_lt_of_cell? w _ hw214_1)).trans hw214_1), ((HB.out.cell (World.block_lt_of_cell? w _ hw214_2)).trans hw214_2), ((HB.out.cell (World.block_lt_of_cell? w _ hw214_3)).trans hw214_3), ((HB.out.cell (World.block_lt_of_cell? w _ hw214_4)).trans hw214_4)⟩ (fun hHeld => ?_); refine with_tabW api_Label_70.tab5 api_Label_70.bits5 (fun HT_ HW_ => ?_)
              generalize wr.drew = w12 at BK213 HB HR214_4 hx214_0 hx214_1 hx214_2 hx214_3 hx214_4 hHeld ⊢
              refine pure_ (i := 0) (N := some 24) (v := ?_) (a' := ?_) #[true, false, false, false, false, false, false, false] rfl rfl (any_of HT_.out (by kernel_rfl)) (fun _ _ _ h => h) (Or.inl ⟨by rfl, ?_⟩) ?_ ?_
              rotate_left
              · intro w'
                go_simp
                with_reducible rfl
              rotate_left
              · simp only [Act.put, List.setIfInBounds_toArray, List.set_cons_zero, List.set_cons_succ, i64_w, i32_w]
                rfl
              refine pure_ (i := 1) (N := some 25) (v := ?_) (a' := ?_) #[true, true, false, false, false, false, false, false] rfl rfl (any_of HT_.out (by kernel_rfl)) (fun _ _ _ h => h) (Or.inl ⟨by rfl, ?_⟩) ?_ ?_
              rotate_left
              · intro w'
                go_simp
                with_reducible rfl
              rotate_left
              · simp only [Act.put, List.setIfInBounds_toArray, List.set_cons_zero, List.set_cons_succ, i64_w, i32_w]
                rfl
              refine pure_ (i := 2) (N := some 26) (v := ?_) (a' := ?_) #[true, true, true, false, false, false, false, false] rfl rfl (any_of HT_.out (by kernel_rfl)) (fun _ _ _ h => h) (Or.inl ⟨by rfl, ?_⟩) ?_ ?_
              rotate_left
              · intro w'
                go_simp
                with_reducible rfl
              rotate_left
              · simp only [Act.put, List.setIfInBounds_toArray, List.set_cons_zero, List.set_cons_succ, i64_w, i32_w]
                rfl
              refine pure_ (i := 3) (N := some 27) (v := ?_) (a' := ?_) #[true, true, true, true, false, false, false, false] rfl rfl (any_of HT_.out (by kernel_rfl)) (fun _ _ _ h => h) (Or.inl ⟨by rfl, ?_⟩) ?_ ?_
              rotate_left
              · intro w'
                go_simp
                with_reducible rfl
              rotate_left
              · simp only [Act.put, List.setIfInBounds_toArray, List.set_cons_zero, List.set_cons_succ, i64_w, i32_w]
                rfl
              refine take_ (i := 4) (N := some 28) (v := ?_) (a' := ?_) #[true, true, true, true, true, false, false, false] rfl rfl (take_ofW HT_.out HW_.out (by kernel_rfl)) (fun _ _ _ h => h) (Or.inl ⟨by rfl, ?_⟩) hHeld ?_ ?_
              rotate_left
              · rintro w' ⟨s0, s1, s2, s3, s4, s5, s6, s7, s8⟩
                go_simp
                with_reducible rfl
              rotate_left
              · simp only [Act.put, List.setIfInBounds_toArray, List.set_cons_zero, List.set_cons_succ, i64_w, i32_w]
                rfl
              refine take_ (i := 5) (N := some 29) (v := ?_) (a' := ?_) #[true, true, true, true, true, true, false, false] rfl rfl (take_ofW HT_.out HW_.out (by kernel_rfl)) (fun _ _ _ h => h) (Or.inl ⟨by rfl, ?_⟩) hHeld ?_ ?_
              rotate_left
              · rintro w' ⟨s0, s1, s2, s3, s4, s5, s6, s7, s8⟩
                go_simp
                with_reducible rfl
              rotate_left
              · simp only [Act.put, List.setIfInBounds_toArray, List.set_cons_zero, List.set_cons_succ, i64_w, i32_w]
                rfl
              refine one_ (i := 6) (N := some 30) #[true, true, true, true, true, true, true, false] rfl rfl (one_of HT_.out (by kernel_rfl)) (by decide) (fun K hK => ?_)
              refine goesV_ Try.func71 (by kernel_rfl) rfl #[.agg #[.int .u64 ((rd_T32 l0 (ji5)).f0.f0.f0), .int .i64 ((rd_T32 l0 (ji5)).f0.f0.f1), .int .u64 ((rd_T32 l0 (ji5)).f0.f1), .int .i64 ((rd_T32 l0 (ji5)).f0.f2), .slice A214_4 ((rd_T32 l0 (ji5)).f1).length c214_4], .agg #[.int .u64 a1_0, .int .i64 a1_1, .int .u64 a1_2, .int .i64 a1_3]] (by rfl) rfl rfl rfl (by (try simp only [List.map_toArray, List.map_cons, List.map_nil]); first | done | (simp only [hji5]; rfl) | rfl | (simp only [List.length_drop, List.length_take]; rfl)) ?_
              with_reducible refine (content_Find_1.calls k1 ((rd_T32 l0 (ji5)).f0.f0.f0) ((rd_T32 l0 (ji5)).f0.f0.f1) ((rd_T32 l0 (ji5)).f0.f1) ((rd_T32 l0 (ji5)).f0.f2) _ _ ((rd_T32 l0 (ji5)).f1) a1_0 a1_1 a1_2 a1_3 t215 _ ?side1 ?side2 A8.out).mono ?_
              (case side1 => repeat (first | exact (Kd.C_below HR214_4.out HB.out) | (with_reducible refine Kd.C_alloc ?_ _) | (with_reducible refine Kd.C_drewN ?_ _) | (with_reducible refine Kd.C_drew ?_)))
              (case side2 => exact HC214_4.out)
              rintro e w13 ⟨rfl, hb⟩
              refine ⟨_, rfl, ?_⟩
              have n0_ := Aside0.mk (blk_below (g := gb213) (o := .cells #[.int .u64 a1_0, .int .i64 a1_1, .int .u64 a1_2, .int .i64 a1_3] 27 (0, 0)) (by (with_reducible repeat (first | refine blk_drewN ?_ _ | refine blk_drew ?_ | refine blk_alloc ?_ _)); exact BK213.out) hb)
              have n1_ := Aside0.mk (below_step (by repeat (first | (with_reducible first | exact HB.out | apply below_alloc | apply pw_below_drewN | apply below_drew1 | refine below_set ?_ GE213.out) | exact HB.out)) hb)
              clear BK213
              clear HB
              have BK213 := n0_
              have HB := n1_
              clear n0_ n1_
              (try clear hb)
              (try clear hb2)
              (try clear hk)
              (try clear hi)
              refine hK.out _ _ ⟨(blk_cell BK213.out 0).trans rfl, (blk_cell BK213.out 1).trans rfl, (blk_cell BK213.out 2).trans rfl, (blk_cell BK213.out 3).trans rfl, ((HB.out.cell (World.block_lt_of_cell? w _ hw214_0)).trans hw214_0), ((HB.out.cell (World.block_lt_of_cell? w _ hw214_1)).trans hw214_1), ((HB.out.cell (World.block_lt_of_cell? w _ hw214_2)).trans hw214_2), ((HB.out.cell (World.block_lt_of_cell? w _ hw214_3)).trans hw214_3), ((HB.out.cell (World.block_lt_of_cell? w _ hw214_4)).trans hw214_4)⟩ (fun hHeld => ?_)
              clear hK K
              refine norm_ (a' := ?_) ?_ ?_
              rotate_left
              · show Act.put _ (some 30) _ = _
                simp only [Act.put, List.setIfInBounds_toArray, List.set_cons_zero, List.set_cons_succ, i64_w, i32_w]
                rfl
              refine pure_ (i := 7) (N := some 31) (v := ?_) (a' := ?_) #[true, true, true, true, true, true, true, true] rfl rfl (any_of HT_.out (by kernel_rfl)) (fun _ _ _ h => h) (Or.inl ⟨by rfl, ?_⟩) ?_ ?_
              rotate_left
              · intro w'
                go_simp
                with_reducible rfl
              rotate_left
              · simp only [Act.put, List.setIfInBounds_toArray, List.set_cons_zero, List.set_cons_succ, i64_w, i32_w]
                rfl
              refine done_ (done_of HT_.out (by kernel_rfl)) ?_
              (try clear hHeld); (try clear HS0_)
              try go_wp2
              go_roundg k1
              case measure => have := HK1.out; omega
              case rel => exact ⟨(x9_1), (ji5), (by first | rfl | (simp; done) | (simp [*]; done)), (by first | rfl | (simp; done) | (simp only [← hji5] <;> (first | rfl | simp)) | (simp [*]; done)), H', ⟨by have := HK1.out; omega⟩, ⟨by (with_reducible repeat (first | refine blk_drewN ?_ _ | refine blk_drew ?_ | refine blk_alloc ?_ _)); exact BK213.out⟩, ⟨by repeat (first | (with_reducible first | exact HB.out | apply below_alloc | apply pw_below_drewN | apply below_drew1 | refine below_set ?_ GE213.out) | exact HB.out)⟩⟩
          · rw [if_neg c7] at H
            exact absurd H (by simp)
        · rw [if_neg c6] at H
          exact absurd H (by simp)
      · rw [if_neg c4] at H
        have c4b0 : decide (x9_1 < x10_1) = false := decide_eq_false c4
        clear c4
        by_cases c14 : x9_1 < (l0.length : Int)
        · rw [if_pos c14] at H
          have c14b0 : decide (x9_1 < (l0.length : Int)) = true := decide_eq_true c14
          clear c14
          by_cases c15 : 0 ≤ x9_1
          · rw [if_pos c15] at H
            have c15b0 : decide (0 ≤ x9_1) = true := decide_eq_true c15
            clear c15
            by_cases c16 : x9_1 < (l0.length : Int)
            · rw [if_pos c16] at H
              have c16b0 : decide (x9_1 < (l0.length : Int)) = true := decide_eq_true c16
              clear c16
              replace H := Option.bind_eq_some_iff.mp H
              obtain ⟨t217, A170, H⟩ := H
              replace H : (some (x9_1, (t217 == 0))) = some (r1, r2) := H
              have A17 := Aside0.mk A170
              clear A170
              simp only [Option.some.injEq, Prod.mk.injEq] at H
              obtain ⟨rfl, rfl⟩ := H
              try go_wp2
              have n0_ := Aside0.mk (blk_drew BK213.out)
              have n1_ := Aside0.mk (below_drew1 HB.out)
              clear BK213
              clear HB
              have BK213 := n0_
              have HB := n1_
              clear n0_ n1_
              have p216 : 0 ≤ (x9_1 : Int) := of_decide_eq_true (by first | (with_reducible assumption) | assumption)
              have q216 : x9_1 < (l0.length : Int) := of_decide_eq_true (by first | (with_reducible assumption) | assumption)
              obtain ⟨ad216, A216_4, c216_4, e216, hx216_0, hx216_1, hx216_2, hx216_3, hx216_4, hl216_4, hi216_4⟩ := at_T32 HR0.out x9_1 p216 q216
              have hw216_4 := hx216_4
              have hw216_3 := hx216_3
              have hw216_2 := hx216_2
              have hw216_1 := hx216_1
              have hw216_0 := hx216_0
              cases e216
              replace hx216_0 := (HB.out.cell (World.block_lt_of_cell? w _ hx216_0)).trans hx216_0
              replace hx216_1 := (HB.out.cell (World.block_lt_of_cell? w _ hx216_1)).trans hx216_1
              replace hx216_2 := (HB.out.cell (World.block_lt_of_cell? w _ hx216_2)).trans hx216_2
              replace hx216_3 := (HB.out.cell (World.block_lt_of_cell? w _ hx216_3)).trans hx216_3
              replace hx216_4 := (HB.out.cell (World.block_lt_of_cell? w _ hx216_4)).trans hx216_4
              have HR216_4 := Aside0.mk hi216_4
              have HC216_4 := Aside0.mk hl216_4
              clear hi216_4 hl216_4
              replace p216 := eq_true p216
              replace q216 := eq_true q216
              refine start_ (n := 16) (S := fun w' => w'.cell? ⟨gb213, 0, none⟩ = some (.int .u64 a1_0) ∧ w'.cell? ⟨gb213, 1, none⟩ = some (.int .i64 a1_1) ∧ w'.cell? ⟨gb213, 2, none⟩ = some (.int .u64 a1_2) ∧ w'.cell? ⟨gb213, 3, none⟩ = some (.int .i64 a1_3) ∧ w'.cell? (ad216.add ((x9_1).toNat * 5)) = some (.int .u64 ((rd_T32 l0 x9_1).f0.f0.f0)) ∧ w'.cell? ⟨(ad216.add ((x9_1).toNat * 5)).block, (ad216.add ((x9_1).toNat * 5)).off + 1, none⟩ = some (.int .i64 ((rd_T32 l0 x9_1).f0.f0.f1)) ∧ w'.cell? ⟨(ad216.add ((x9_1).toNat * 5)).block, (ad216.add ((x9_1).toNat * 5)).off + 2, none⟩ = some (.int .u64 ((rd_T32 l0 x9_1).f0.f1)) ∧ w'.cell? ⟨(ad216.add ((x9_1).toNat * 5)).block, (ad216.add ((x9_1).toNat * 5)).off + 3, none⟩ = some (.int .i64 ((rd_T32 l0 x9_1).f0.f2)) ∧ w'.cell? ⟨(ad216.add ((x9_1).toNat * 5)).block, (ad216.add ((x9_1).toNat * 5)).off + 4, none⟩ = some (.slice A216_4 ((rd_T32 l0 x9_1).f1).length c216_4)) (ds := []) #[false, false, false, false, false, false, false, false, false, false, false, false, false, false, false, false] (by kernel_rfl) rfl rfl ⟨(blk_cell BK213.out 0).trans rfl, (blk_cell BK213.out 1).trans rfl, (blk_cell BK213.out 2).trans rfl, (blk_cell BK213.out 3).trans rfl, ((HB.out.cell (World.block_lt_of_cell? w _ hw216_0)).trans hw216_0), ((HB.out.cell (World.block_lt_of_cell? w _ hw216_1)).trans hw216_1), ((HB.out.cell (World.block_lt_of_cell? w _ hw216_2)).trans hw216_2), ((HB.out.cell (World.block_lt_of_cell? w _ hw216_3)).trans hw216_3), ((HB.out.cell (World.block_lt_of_cell? w _ hw216_4)).trans hw216_4)⟩ (fun hHeld => ?_); refine with_tabW api_Label_70.tab8 api_Label_70.bits8 (fun HT_ HW_ => ?_)
              generalize wr.drew = w18 at BK213 HB HR216_4 hx216_0 hx216_1 hx216_2 hx216_3 hx216_4 hHeld ⊢
              refine pure_ (i := 0) (N := some 35) (v := ?_) (a' := ?_) #[true, false, false, false, false, false, false, false, false, false, false, false, false, false, false, false] rfl rfl (any_of HT_.out (by kernel_rfl)) (fun _ _ _ h => h) (Or.inl ⟨by rfl, ?_⟩) ?_ ?_
              rotate_left
              · intro w'
                go_simp
                with_reducible rfl
              rotate_left
              · simp only [Act.put, List.setIfInBounds_toArray, List.set_cons_zero, List.set_cons_succ, i64_w, i32_w]
                rfl
              refine pure_ (i := 1) (N := some 36) (v := ?_) (a' := ?_) #[true, true, false, false, false, false, false, false, false, false, false, false, false, false, false, false] rfl rfl (any_of HT_.out (by kernel_rfl)) (fun _ _ _ h => h) (Or.inl ⟨by rfl, ?_⟩) ?_ ?_
              rotate_left
              · intro w'
                go_simp
                with_reducible rfl
              rotate_left
              · simp only [Act.put, List.setIfInBounds_toArray, List.set_cons_zero, List.set_cons_succ, i64_w, i32_w]
                rfl
              refine pure_ (i := 2) (N := some 37) (v := ?_) (a' := ?_) #[true, true, true, false, false, false, false, false, false, false, false, false, false, false, false, false] rfl rfl (any_of HT_.out (by kernel_rfl)) (fun _ _ _ h => h) (Or.inl ⟨by rfl, ?_⟩) ?_ ?_
              rotate_left
              · intro w'
                go_simp
                with_reducible rfl
              rotate_left
              · simp only [Act.put, List.setIfInBounds_toArray, List.set_cons_zero, List.set_cons_succ, i64_w, i32_w]
                rfl
              refine pure_ (i := 3) (N := some 38) (v := ?_) (a' := ?_) #[true, true, true, true, false, false, false, false, false, false, false, false, false, false, false, false] rfl rfl (any_of HT_.out (by kernel_rfl)) (fun _ _ _ h => h) (Or.inl ⟨by rfl, ?_⟩) ?_ ?_
              rotate_left
              · intro w'
                go_simp
                with_reducible rfl
              rotate_left
              · simp only [Act.put, List.setIfInBounds_toArray, List.set_cons_zero, List.set_cons_succ, i64_w, i32_w]
                rfl
              refine pure_ (i := 4) (N := some 39) (v := ?_) (a' := ?_) #[true, true, true, true, true, false, false, false, false, false, false, false, false, false, false, false] rfl rfl (any_of HT_.out (by kernel_rfl)) (fun _ _ _ h => h) (Or.inl ⟨by rfl, ?_⟩) ?_ ?_
              rotate_left
              · intro w'
                go_simp
                with_reducible rfl
              rotate_left
              · simp only [Act.put, List.setIfInBounds_toArray, List.set_cons_zero, List.set_cons_succ, i64_w, i32_w]
                rfl
              refine pure_ (i := 5) (N := some 40) (v := ?_) (a' := ?_) #[true, true, true, true, true, true, false, false, false, false, false, false, false, false, false, false] rfl rfl (any_of HT_.out (by kernel_rfl)) (fun _ _ _ h => h) (Or.inl ⟨by rfl, ?_⟩) ?_ ?_
              rotate_left
              · intro w'
                go_simp
                with_reducible rfl
              rotate_left
              · simp only [Act.put, List.setIfInBounds_toArray, List.set_cons_zero, List.set_cons_succ, i64_w, i32_w]
                rfl
              refine pure_ (i := 6) (N := some 41) (v := ?_) (a' := ?_) #[true, true, true, true, true, true, true, false, false, false, false, false, false, false, false, false] rfl rfl (any_of HT_.out (by kernel_rfl)) (fun _ _ _ h => h) (Or.inl ⟨by rfl, ?_⟩) ?_ ?_
              rotate_left
              · intro w'
                go_simp
                with_reducible rfl
              rotate_left
              · simp only [Act.put, List.setIfInBounds_toArray, List.set_cons_zero, List.set_cons_succ, i64_w, i32_w]
                rfl
              refine pure_ (i := 7) (N := some 42) (v := ?_) (a' := ?_) #[true, true, true, true, true, true, true, true, false, false, false, false, false, false, false, false] rfl rfl (any_of HT_.out (by kernel_rfl)) (fun _ _ _ h => h) (Or.inl ⟨by rfl, ?_⟩) ?_ ?_
              rotate_left
              · intro w'
                go_simp
                with_reducible rfl
              rotate_left
              · simp only [Act.put, List.setIfInBounds_toArray, List.set_cons_zero, List.set_cons_succ, i64_w, i32_w]
                rfl
              refine pure_ (i := 8) (N := some 43) (v := ?_) (a' := ?_) #[true, true, true, true, true, true, true, true, true, false, false, false, false, false, false, false] rfl rfl (any_of HT_.out (by kernel_rfl)) (fun _ _ _ h => h) (Or.inl ⟨by rfl, ?_⟩) ?_ ?_
              rotate_left
              · intro w'
                go_simp
                with_reducible rfl
              rotate_left
              · simp only [Act.put, List.setIfInBounds_toArray, List.set_cons_zero, List.set_cons_succ, i64_w, i32_w]
                rfl
              refine take_ (i := 9) (N := some 44) (v := ?_) (a' := ?_) #[true, true, true, true, true, true, true, true, true, true, false, false, false, false, false, false] rfl rfl (take_ofW HT_.out HW_.out (by kernel_rfl)) (fun _ _ _ h => h) (Or.inl ⟨by rfl, ?_⟩) hHeld ?_ ?_
              rotate_left
              · rintro w' ⟨s0, s1, s2, s3, s4, s5, s6, s7, s8⟩
                go_simp
                with_reducible rfl
              rotate_left
              · simp only [Act.put, List.setIfInBounds_toArray, List.set_cons_zero, List.set_cons_succ, i64_w, i32_w]
                rfl
              refine take_ (i := 10) (N := some 45) (v := ?_) (a' := ?_) #[true, true, true, true, true, true, true, true, true, true, true, false, false, false, false, false] rfl rfl (take_ofW HT_.out HW_.out (by kernel_rfl)) (fun _ _ _ h => h) (Or.inl ⟨by rfl, ?_⟩) hHeld ?_ ?_
              rotate_left
              · rintro w' ⟨s0, s1, s2, s3, s4, s5, s6, s7, s8⟩
                go_simp
                with_reducible rfl
              rotate_left
              · simp only [Act.put, List.setIfInBounds_toArray, List.set_cons_zero, List.set_cons_succ, i64_w, i32_w]
                rfl
              refine one_ (i := 11) (N := some 46) #[true, true, true, true, true, true, true, true, true, true, true, true, false, false, false, false] rfl rfl (one_of HT_.out (by kernel_rfl)) (by decide) (fun K hK => ?_)
              refine goesV_ Try.func71 (by kernel_rfl) rfl #[.agg #[.int .u64 ((rd_T32 l0 x9_1).f0.f0.f0), .int .i64 ((rd_T32 l0 x9_1).f0.f0.f1), .int .u64 ((rd_T32 l0 x9_1).f0.f1), .int .i64 ((rd_T32 l0 x9_1).f0.f2), .slice A216_4 ((rd_T32 l0 x9_1).f1).length c216_4], .agg #[.int .u64 a1_0, .int .i64 a1_1, .int .u64 a1_2, .int .i64 a1_3]] (by rfl) rfl rfl rfl (by (try simp only [List.map_toArray, List.map_cons, List.map_nil]); first | done | rfl | (simp only [List.length_drop, List.length_take]; rfl)) ?_
              with_reducible refine (content_Find_1.calls k1 ((rd_T32 l0 x9_1).f0.f0.f0) ((rd_T32 l0 x9_1).f0.f0.f1) ((rd_T32 l0 x9_1).f0.f1) ((rd_T32 l0 x9_1).f0.f2) _ _ ((rd_T32 l0 x9_1).f1) a1_0 a1_1 a1_2 a1_3 t217 _ ?side1 ?side2 A17.out).mono ?_
              (case side1 => repeat (first | exact (Kd.C_below HR216_4.out HB.out) | (with_reducible refine Kd.C_alloc ?_ _) | (with_reducible refine Kd.C_drewN ?_ _) | (with_reducible refine Kd.C_drew ?_)))
              (case side2 => exact HC216_4.out)
              rintro e w19 ⟨rfl, hb⟩
              refine ⟨_, rfl, ?_⟩
              have n0_ := Aside0.mk (blk_below (g := gb213) (o := .cells #[.int .u64 a1_0, .int .i64 a1_1, .int .u64 a1_2, .int .i64 a1_3] 27 (0, 0)) (by (with_reducible repeat (first | refine blk_drewN ?_ _ | refine blk_drew ?_ | refine blk_alloc ?_ _)); exact BK213.out) hb)
              have n1_ := Aside0.mk (below_step (by repeat (first | (with_reducible first | exact HB.out | apply below_alloc | apply pw_below_drewN | apply below_drew1 | refine below_set ?_ GE213.out) | exact HB.out)) hb)
              clear BK213
              clear HB
              have BK213 := n0_
              have HB := n1_
              clear n0_ n1_
              (try clear hb)
              (try clear hb2)
              (try clear hk)
              (try clear hi)
              refine hK.out _ _ ⟨(blk_cell BK213.out 0).trans rfl, (blk_cell BK213.out 1).trans rfl, (blk_cell BK213.out 2).trans rfl, (blk_cell BK213.out 3).trans rfl, ((HB.out.cell (World.block_lt_of_cell? w _ hw216_0)).trans hw216_0), ((HB.out.cell (World.block_lt_of_cell? w _ hw216_1)).trans hw216_1), ((HB.out.cell (World.block_lt_of_cell? w _ hw216_2)).trans hw216_2), ((HB.out.cell (World.block_lt_of_cell? w _ hw216_3)).trans hw216_3), ((HB.out.cell (World.block_lt_of_cell? w _ hw216_4)).trans hw216_4)⟩ (fun hHeld => ?_)
              clear hK K
              refine norm_ (a' := ?_) ?_ ?_
              rotate_left
              · show Act.put _ (some 46) _ = _
                simp only [Act.put, List.setIfInBounds_toArray, List.set_cons_zero, List.set_cons_succ, i64_w, i32_w]
                rfl
              refine pure_ (i := 12) (N := some 47) (v := ?_) (a' := ?_) #[true, true, true, true, true, true, true, true, true, true, true, true, true, false, false, false] rfl rfl (any_of HT_.out (by kernel_rfl)) (fun _ _ _ h => h) (Or.inl ⟨by rfl, ?_⟩) ?_ ?_
              rotate_left
              · intro w'
                go_simp
                with_reducible rfl
              rotate_left
              · simp only [Act.put, List.setIfInBounds_toArray, List.set_cons_zero, List.set_cons_succ, i64_w, i32_w]
                rfl
              refine pure_ (i := 13) (N := some 48) (v := ?_) (a' := ?_) #[true, true, true, true, true, true, true, true, true, true, true, true, true, true, false, false] rfl rfl (any_of HT_.out (by kernel_rfl)) (fun _ _ _ h => h) (Or.inl ⟨by rfl, ?_⟩) ?_ ?_
              rotate_left
              · intro w'
                go_simp
                with_reducible rfl
              rotate_left
              · simp only [Act.put, List.setIfInBounds_toArray, List.set_cons_zero, List.set_cons_succ, i64_w, i32_w]
                rfl
              refine pure_ (i := 14) (N := some 6) (v := ?_) (a' := ?_) #[true, true, true, true, true, true, true, true, true, true, true, true, true, true, true, false] rfl rfl (any_of HT_.out (by kernel_rfl)) (fun _ _ _ h => h) (Or.inl ⟨by rfl, ?_⟩) ?_ ?_
              rotate_left
              · intro w'
                go_simp
                with_reducible rfl
              rotate_left
              · simp only [Act.put, List.setIfInBounds_toArray, List.set_cons_zero, List.set_cons_succ, i64_w, i32_w]
                rfl
              refine pure_ (i := 15) (N := some 7) (v := ?_) (a' := ?_) #[true, true, true, true, true, true, true, true, true, true, true, true, true, true, true, true] rfl rfl (any_of HT_.out (by kernel_rfl)) (fun _ _ _ h => h) (Or.inl ⟨by rfl, ?_⟩) ?_ ?_
              rotate_left
              · intro w'
                go_simp
                with_reducible rfl
              rotate_left
              · simp only [Act.put, List.setIfInBounds_toArray, List.set_cons_zero, List.set_cons_succ, i64_w, i32_w]
                rfl
              refine done_ (done_of HT_.out (by kernel_rfl)) ?_
              (try clear hHeld); (try clear HS0_)
              try go_wp2
              go_ret2
              exact ⟨by first | rfl | (simp [errW_none, errW_some] <;> rfl) | (simp [*, errW_none, errW_some] <;> rfl), by repeat (first | (with_reducible first | exact HB.out | apply below_alloc | apply pw_below_drewN | apply below_drew1 | refine below_set ?_ GE213.out) | exact HB.out)⟩
            · rw [if_neg c16] at H
              exact absurd H (by simp)
          · rw [if_neg c15] at H
            exact absurd H (by simp)
        · rw [if_neg c14] at H
          have c14b0 : decide (x9_1 < (l0.length : Int)) = false := decide_eq_false c14
          clear c14
          simp only [Option.some.injEq, Prod.mk.injEq] at H
          obtain ⟨rfl, rfl⟩ := H
          try go_wp2
          have n0_ := Aside0.mk (blk_drew BK213.out)
          have n1_ := Aside0.mk (below_drew1 HB.out)
          clear BK213
          clear HB
          have BK213 := n0_
          have HB := n1_
          clear n0_ n1_
          refine start_ (n := 16) (S := fun w' => True) (ds := []) #[false, false, false, false, false, false, false, false, false, false, false, false, false, false, false, false] (by kernel_rfl) rfl rfl trivial (fun hHeld => ?_); refine with_tabW api_Label_70.tab8 api_Label_70.bits8 (fun HT_ HW_ => ?_)
          generalize wr.drew = w20 at BK213 HB hHeld ⊢
          refine pure_ (i := 0) (N := some 35) (v := ?_) (a' := ?_) #[true, false, false, false, false, false, false, false, false, false, false, false, false, false, false, false] rfl rfl (any_of HT_.out (by kernel_rfl)) (fun _ _ _ h => h) (Or.inl ⟨by rfl, ?_⟩) ?_ ?_
          rotate_left
          · intro w'
            go_simp
            with_reducible rfl
          rotate_left
          · simp only [Act.put, List.setIfInBounds_toArray, List.set_cons_zero, List.set_cons_succ, i64_w, i32_w]
            rfl
          refine pure_ (i := 1) (N := some 36) (v := ?_) (a' := ?_) #[true, true, false, false, false, false, false, false, false, false, false, false, false, false, false, false] rfl rfl (any_of HT_.out (by kernel_rfl)) (fun _ _ _ h => h) (Or.inl ⟨by rfl, ?_⟩) ?_ ?_
          rotate_left
          · intro w'
            go_simp
            with_reducible rfl
          rotate_left
          · simp only [Act.put, List.setIfInBounds_toArray, List.set_cons_zero, List.set_cons_succ, i64_w, i32_w]
            rfl
          refine pure_ (i := 2) (N := some 37) (v := ?_) (a' := ?_) #[true, true, true, false, false, false, false, false, false, false, false, false, false, false, false, false] rfl rfl (any_of HT_.out (by kernel_rfl)) (fun _ _ _ h => h) (Or.inl ⟨by rfl, ?_⟩) ?_ ?_
          rotate_left
          · intro w'
            go_simp
            with_reducible rfl
          rotate_left
          · simp only [Act.put, List.setIfInBounds_toArray, List.set_cons_zero, List.set_cons_succ, i64_w, i32_w]
            rfl
          refine pure_ (i := 3) (N := some 38) (v := ?_) (a' := ?_) #[true, true, true, true, false, false, false, false, false, false, false, false, false, false, false, false] rfl rfl (any_of HT_.out (by kernel_rfl)) (fun _ _ _ h => h) (Or.inl ⟨by rfl, ?_⟩) ?_ ?_
          rotate_left
          · intro w'
            go_simp
            with_reducible rfl
          rotate_left
          · simp only [Act.put, List.setIfInBounds_toArray, List.set_cons_zero, List.set_cons_succ, i64_w, i32_w]
            rfl
          refine pure_ (i := 4) (N := some 39) (v := ?_) (a' := ?_) #[true, true, true, true, true, false, false, false, false, false, false, false, false, false, false, false] rfl rfl (any_of HT_.out (by kernel_rfl)) (fun _ _ _ h => h) (Or.inl ⟨by rfl, ?_⟩) ?_ ?_
          rotate_left
          · intro w'
            go_simp
            with_reducible rfl
          rotate_left
          · simp only [Act.put, List.setIfInBounds_toArray, List.set_cons_zero, List.set_cons_succ, i64_w, i32_w]
            rfl
          refine pure_ (i := 5) (N := some 40) (v := undef) (a' := ?_) #[true, true, true, true, true, true, false, false, false, false, false, false, false, false, false, false] rfl rfl (any_of HT_.out (by kernel_rfl)) (fun _ _ _ h => h) (Or.inr ⟨by rfl, rfl⟩) ?_ ?_
          rotate_left
          · simp only [Act.put, List.setIfInBounds_toArray, List.set_cons_zero, List.set_cons_succ, i64_w, i32_w]
            rfl
          refine pure_ (i := 6) (N := some 41) (v := undef) (a' := ?_) #[true, true, true, true, true, true, true, false, false, false, false, false, false, false, false, false] rfl rfl (any_of HT_.out (by kernel_rfl)) (fun _ _ _ h => h) (Or.inr ⟨by rfl, rfl⟩) ?_ ?_
          rotate_left
          · simp only [Act.put, List.setIfInBounds_toArray, List.set_cons_zero, List.set_cons_succ, i64_w, i32_w]
            rfl
          refine pure_ (i := 7) (N := some 42) (v := undef) (a' := ?_) #[true, true, true, true, true, true, true, true, false, false, false, false, false, false, false, false] rfl rfl (any_of HT_.out (by kernel_rfl)) (fun _ _ _ h => h) (Or.inr ⟨by rfl, rfl⟩) ?_ ?_
          rotate_left
          · simp only [Act.put, List.setIfInBounds_toArray, List.set_cons_zero, List.set_cons_succ, i64_w, i32_w]
            rfl
          refine pure_ (i := 8) (N := some 43) (v := undef) (a' := ?_) #[true, true, true, true, true, true, true, true, true, false, false, false, false, false, false, false] rfl rfl (any_of HT_.out (by kernel_rfl)) (fun _ _ _ h => h) (Or.inr ⟨by rfl, rfl⟩) ?_ ?_
          rotate_left
          · simp only [Act.put, List.setIfInBounds_toArray, List.set_cons_zero, List.set_cons_succ, i64_w, i32_w]
            rfl
          refine pure_ (i := 9) (N := some 44) (v := undef) (a' := ?_) #[true, true, true, true, true, true, true, true, true, true, false, false, false, false, false, false] rfl rfl (any_of HT_.out (by kernel_rfl)) (fun _ _ _ h => h) (Or.inr ⟨by rfl, rfl⟩) ?_ ?_
          rotate_left
          · simp only [Act.put, List.setIfInBounds_toArray, List.set_cons_zero, List.set_cons_succ, i64_w, i32_w]
            rfl
          refine pure_ (i := 10) (N := some 45) (v := undef) (a' := ?_) #[true, true, true, true, true, true, true, true, true, true, true, false, false, false, false, false] rfl rfl (any_of HT_.out (by kernel_rfl)) (fun _ _ _ h => h) (Or.inr ⟨by rfl, rfl⟩) ?_ ?_
          rotate_left
          · simp only [Act.put, List.setIfInBounds_toArray, List.set_cons_zero, List.set_cons_succ, i64_w, i32_w]
            rfl
          refine pure_ (i := 11) (N := some 46) (v := undef) (a' := ?_) #[true, true, true, true, true, true, true, true, true, true, true, true, false, false, false, false] rfl rfl (any_of HT_.out (by kernel_rfl)) (fun _ _ _ h => h) (Or.inr ⟨by rfl, rfl⟩) ?_ ?_
          rotate_left
          · simp only [Act.put, List.setIfInBounds_toArray, List.set_cons_zero, List.set_cons_succ, i64_w, i32_w]
            rfl
          refine pure_ (i := 12) (N := some 47) (v := undef) (a' := ?_) #[true, true, true, true, true, true, true, true, true, true, true, true, true, false, false, false] rfl rfl (any_of HT_.out (by kernel_rfl)) (fun _ _ _ h => h) (Or.inr ⟨by rfl, rfl⟩) ?_ ?_
          rotate_left
          · simp only [Act.put, List.setIfInBounds_toArray, List.set_cons_zero, List.set_cons_succ, i64_w, i32_w]
            rfl
          refine pure_ (i := 13) (N := some 48) (v := ?_) (a' := ?_) #[true, true, true, true, true, true, true, true, true, true, true, true, true, true, false, false] rfl rfl (any_of HT_.out (by kernel_rfl)) (fun _ _ _ h => h) (Or.inl ⟨by rfl, ?_⟩) ?_ ?_
          rotate_left
          · intro w'
            go_simp
            with_reducible rfl
          rotate_left
          · simp only [Act.put, List.setIfInBounds_toArray, List.set_cons_zero, List.set_cons_succ, i64_w, i32_w]
            rfl
          refine pure_ (i := 14) (N := some 6) (v := ?_) (a' := ?_) #[true, true, true, true, true, true, true, true, true, true, true, true, true, true, true, false] rfl rfl (any_of HT_.out (by kernel_rfl)) (fun _ _ _ h => h) (Or.inl ⟨by rfl, ?_⟩) ?_ ?_
          rotate_left
          · intro w'
            go_simp
            with_reducible rfl
          rotate_left
          · simp only [Act.put, List.setIfInBounds_toArray, List.set_cons_zero, List.set_cons_succ, i64_w, i32_w]
            rfl
          refine pure_ (i := 15) (N := some 7) (v := ?_) (a' := ?_) #[true, true, true, true, true, true, true, true, true, true, true, true, true, true, true, true] rfl rfl (any_of HT_.out (by kernel_rfl)) (fun _ _ _ h => h) (Or.inl ⟨by rfl, ?_⟩) ?_ ?_
          rotate_left
          · intro w'
            go_simp
            with_reducible rfl
          rotate_left
          · simp only [Act.put, List.setIfInBounds_toArray, List.set_cons_zero, List.set_cons_succ, i64_w, i32_w]
            rfl
          refine done_ (done_of HT_.out (by kernel_rfl)) ?_
          (try clear hHeld); (try clear HS0_)
          try go_wp2
          go_ret2
          exact ⟨by first | rfl | (simp [errW_none, errW_some] <;> rfl) | (simp [*, errW_none, errW_some] <;> rfl), by repeat (first | (with_reducible first | exact HB.out | apply below_alloc | apply pw_below_drewN | apply below_drew1 | refine below_set ?_ GE213.out) | exact HB.out)⟩

end Go.Proofs.Ytioooiflpabngaa.PAll

namespace Go.Proofs.Ytioooiflpabngaa.PAll
open Go.RowKit Go.Proofs.YtioooiflpabngaaW.PrintWords Go.Proofs.YtioooiflpabngaaW.PrintLast Go.Proofs.YtioooiflpabngaaW.PrintMore
set_option linter.unusedVariables false
set_option linter.unusedSimpArgs false

theorem C_none {α : Type} {d : Kd α} {w : World} {xs : List α} (h : Kd.C d w none xs.length xs) : xs = [] := by
  rcases Nat.eq_zero_or_pos xs.length with h0 | h0
  · exact List.eq_nil_of_length_eq_zero h0
  · obtain ⟨ad, e, _⟩ := h.2.2 h0
    cases e

theorem R_empty {α : Type} (d : Kd α) (e : Nat) (W : World) (base : Nat) (hb : base ≤ W.heap.size) : d.R e (W.alloc (.cells #[] e)) base (fun _ => True) (.slice (some ⟨W.heap.size, 0, none⟩) 0 0) [] := by
  refine ⟨fun _ _ => trivial, [], ?_, Reps.none _ _⟩
  have h2 := World.ownsRow_lit (base := base) (e := e) (size := d.sz) W #[] 0 hb (by simp [maxLen]) (by simp)
  simpa using h2

set_option maxHeartbeats 8000000 in
set_option maxRecDepth 100000 in
theorem bytes_Clone.calls (A0 : Option Addr) (c0 : Nat) (l0 : List Int) (r : List Int) (w : World) (hr0 : Kd.C (Kd.int .u8) w A0 l0.length l0) (hc0 : l0.length ≤ c0) (h : bytes_Clone.f l0 = some r) :
    Calls Try.prog 72 #[.slice A0 l0.length c0] w fun e w' => ∃ v0_ : Value, e = .returned (v0_) ∧ Kd.R (Kd.int .u8) 5 w' w.heap.size (fun _ => True) v0_ r ∧ Below w.heap.size w w' := by
  obtain ⟨hl, rfl⟩ := of_if_some h
  clear h
  have HL := Aside0.mk hl
  clear hl
  have HC0 := Aside0.mk hc0
  clear hc0
  have he := fun W : World => Lib.run_eql_slice_nil (P := Try.prog) W 30 5 A0 l0.length c0 0 0 Try.underlying30
  rcases A0 with _ | ad
  · obtain rfl := C_none hr0
    have he2 : ∀ W : World, (binOp .eql 30 (.slice none 0 c0) (.slice none 0 0)).run Try.prog W = .ok (.bool true) W := fun W => he W
    clear he hr0
    go_enter Try.func72, Try.ntmps72
    go_wp2
    go_ret
    exact ⟨_, rfl, Kd.R_nil _ _ _ _ _, Below.refl _ _⟩
  · have HR0 := Aside0.mk hr0
    clear hr0
    have he2 : ∀ W : World, (binOp .eql 30 (.slice (some ad) l0.length c0) (.slice none 0 0)).run Try.prog W = .ok (.bool false) W := fun W => he W
    clear he
    go_enter Try.func72, Try.ntmps72
    go_wp2_with ((with_reducible refine gate_builtin (b := .append) (xs := #[.tmp 5, .tmp 6]) rfl ?_); at_builtin; refine Kd.R_append_rows (Kd.int .u8) (w0 := w) w.heap.size rfl (.tmp 5) (.tmp 6) 30 5 (.int .u8 0) 1 rfl Try.underlying30 info5 rfl (by decide) (by omega) (.slice (some ⟨w.heap.size, 0, none⟩) 0 0) ([] : List Int) l0 _ _ _ (fun _ => True) (fun _ => False) rfl rfl ?aO ?aR (fun _ _ h => h) (fun _ h => h.elim) ?aF ?aB ?aS ?aL ?_; (case aR => exact Kd.C_alloc HR0.out _); (case aB => exact below_alloc (Below.refl _ _) _); (case aF => exact (fun _ _ => trivial)); (case aO => exact R_empty _ _ _ _ (Nat.le_refl _)); (case aS => simp); (case aL => have := HL.out; simp; omega); intro v481 w5 ho hb hg hat; clear hg hat)
    go_ret
    exact ⟨_, rfl, by simpa using ho, hb⟩
set_option maxHeartbeats 8000000 in
set_option maxRecDepth 100000 in
theorem slices_Clone_Label.calls (A0 : Option Addr) (c0 : Nat) (l0 : List S27) (r : List S27) (w : World) (hr0 : Kd.C k27 w A0 l0.length l0) (hc0 : l0.length ≤ c0) (h : slices_Clone_Label.f l0 = some r) :
    Calls Try.prog 78 #[.slice A0 l0.length c0] w fun e w' => ∃ v0_ : Value, e = .returned (v0_) ∧ Kd.R k27 27 w' w.heap.size (fun _ => True) v0_ r ∧ Below w.heap.size w w' := by
  obtain ⟨hl, rfl⟩ := of_if_some h
  clear h
  have HL := Aside0.mk hl
  clear hl
  have HC0 := Aside0.mk hc0
  clear hc0
  have he := fun W : World => Lib.run_eql_slice_nil (P := Try.prog) W 41 27 A0 l0.length c0 0 0 Try.underlying41
  rcases A0 with _ | ad
  · obtain rfl := C_none hr0
    have he2 : ∀ W : World, (binOp .eql 41 (.slice none 0 c0) (.slice none 0 0)).run Try.prog W = .ok (.bool true) W := fun W => he W
    clear he hr0
    go_enter Try.func78, Try.ntmps78
    go_wp2
    go_ret
    exact ⟨_, rfl, Kd.R_nil _ _ _ _ _, Below.refl _ _⟩
  · have HR0 := Aside0.mk hr0
    clear hr0
    have he2 : ∀ W : World, (binOp .eql 41 (.slice (some ad) l0.length c0) (.slice none 0 0)).run Try.prog W = .ok (.bool false) W := fun W => he W
    clear he
    go_enter Try.func78, Try.ntmps78
    go_wp2_with ((with_reducible refine gate_builtin (b := .append) (xs := #[.tmp 5, .tmp 6]) rfl ?_); at_builtin; refine Kd.R_append_rows k27 (w0 := w) w.heap.size rfl (.tmp 5) (.tmp 6) 41 27 (.agg #[(.int .u64 0), (.int .i64 0), (.int .u64 0), (.int .i64 0)]) 32 rfl Try.underlying41 info27 rfl (by decide) (by omega) (.slice (some ⟨w.heap.size, 0, none⟩) 0 0) ([] : List S27) l0 _ _ _ (fun _ => True) (fun _ => False) rfl rfl ?aO ?aR (fun _ _ h => h) (fun _ h => h.elim) ?aF ?aB ?aS ?aL ?_; (case aR => exact Kd.C_alloc HR0.out _); (case aB => exact below_alloc (Below.refl _ _) _); (case aF => exact (fun _ _ => trivial)); (case aO => exact R_empty _ _ _ _ (Nat.le_refl _)); (case aS => simp); (case aL => have := HL.out; simp; omega); intro v481 w5 ho hb hg hat; clear hg hat)
    go_ret
    exact ⟨_, rfl, by simpa using ho, hb⟩
end Go.Proofs.Ytioooiflpabngaa.PAll

namespace Go.Proofs.Ytioooiflpabngaa.PAll
open Go.RowKit Go.Proofs.YtioooiflpabngaaW.PrintWords Go.Proofs.YtioooiflpabngaaW.PrintLast Go.Proofs.YtioooiflpabngaaW.PrintMore
attribute [local go_sem] max2_int min2_int max_two min_two max_three min_three max_four min_four   -- for this text's walks alone
set_option linter.unusedVariables false
set_option linter.unusedSimpArgs false

/-! ### content_Find: function 24 -/
def content_Find.f (k : Nat) (l0 : List (S32)) (a1_0 : Int) (a1_1 : Int) (a1_2 : Int) (a1_3 : Int) : Option (List Int × Bool) := (api_Label_70.f k l0 a1_0 a1_1 a1_2 a1_3).bind fun bt219 => (if bt219.2 = true then (if 0 ≤ bt219.1 then (if bt219.1 < (l0.length : Int) then ((bytes_Clone.f ((rd_T32 l0 bt219.1).f1)).bind fun t222 => (some (t222, true))) else (none)) else (none)) else (some (([] : List Int), false)))
theorem content_Find.mono : ∀ a0 a1 a2 a3 a4 k, LeO (content_Find.f k a0 a1 a2 a3 a4) (content_Find.f (k + 1) a0 a1 a2 a3 a4) := by
  intro a0 a1 a2 a3 a4 k
  unfold content_Find.f
  repeat' first
      | (with_reducible exact api_Label_70.mono _ _ _ _ _ _)
      | (with_reducible exact LeO.refl _)
      | (with_reducible exact LeO.none _)
      | (with_reducible refine LeO.ite ?_ ?_)
      | (with_reducible refine LeO.bind ?_ (fun _ => ?_))
      | exact api_Label_70.mono _ _ _ _ _ _
      | exact LeO.none _
      | refine LeO.ite ?_ ?_
      | refine LeO.bind ?_ (fun _ => ?_)
set_option maxHeartbeats 8000000 in
set_option maxRecDepth 100000 in
theorem content_Find.calls (k : Nat) (A0 : Option Addr) (c0 : Nat) (l0 : List (S32)) (a1_0 : Int) (a1_1 : Int) (a1_2 : Int) (a1_3 : Int) (r1 : List Int) (r2 : Bool) (w : World) (hr0 : Kd.C k32 w A0 l0.length l0) (hc0 : l0.length ≤ c0) (h : content_Find.f k l0 a1_0 a1_1 a1_2 a1_3 = some (r1, r2)) :
    Calls Try.prog 24 #[.slice A0 l0.length c0, .agg #[.int .u64 a1_0, .int .i64 a1_1, .int .u64 a1_2, .int .i64 a1_3]] w fun e w' => ∃ v0_ : Value, e = .returned (.tuple #[v0_, .bool r2]) ∧ Kd.R (Kd.int .u8) 5 w' w.heap.size (fun _ => True) v0_ r1 ∧ Below w.heap.size w w' := by
  have hu27 := Try.underlying27
  have HR0 := Aside0.mk hr0
  have HC0 := Aside0.mk hc0
  clear hr0 hc0
  have HB := Aside0.mk (Below.refl w.heap.size w)
  have H : ((api_Label_70.f k l0 a1_0 a1_1 a1_2 a1_3).bind fun bt219 => (if bt219.2 = true then (if 0 ≤ bt219.1 then (if bt219.1 < (l0.length : Int) then ((bytes_Clone.f ((rd_T32 l0 bt219.1).f1)).bind fun t222 => (some (t222, true))) else (none)) else (none)) else (some (([] : List Int), false)))) = some (r1, r2) := h
  clear h
  replace H := Option.bind_eq_some_iff.mp H
  obtain ⟨⟨t219, t220⟩, A30, H⟩ := H
  replace H : (if t220 = true then (if 0 ≤ t219 then (if t219 < (l0.length : Int) then ((bytes_Clone.f ((rd_T32 l0 t219).f1)).bind fun t222 => (some (t222, true))) else (none)) else (none)) else (some (([] : List Int), false))) = some (r1, r2) := H
  have A3 := Aside0.mk A30
  clear A30
  by_cases c4 : t220 = true
  · subst c4
    have H1 : (if 0 ≤ t219 then (if t219 < (l0.length : Int) then ((bytes_Clone.f ((rd_T32 l0 t219).f1)).bind fun t222 => (some (t222, true))) else (none)) else (none)) = some (r1, r2) := by rw [if_pos rfl] at H; exact H
    clear H
    have H := H1
    clear H1
    by_cases c5 : 0 ≤ t219
    · rw [if_pos c5] at H
      have c5b0 : decide (0 ≤ t219) = true := decide_eq_true c5
      clear c5
      by_cases c6 : t219 < (l0.length : Int)
      · rw [if_pos c6] at H
        have c6b0 : decide (t219 < (l0.length : Int)) = true := decide_eq_true c6
        clear c6
        replace H := Option.bind_eq_some_iff.mp H
        obtain ⟨t222, A70, H⟩ := H
        replace H : (some (t222, true)) = some (r1, r2) := H
        have A7 := Aside0.mk A70
        clear A70
        simp only [Option.some.injEq, Prod.mk.injEq] at H
        obtain ⟨rfl, rfl⟩ := H
        go_enter Try.func24, Try.ntmps24
        go_wp2_with (first | ((with_reducible refine gate_dst (N := 3) rfl ?_); refine box_event ?hg (N := 3) ?hd (cs := #[.int .u64 a1_0, .int .i64 a1_1, .int .u64 a1_2, .int .i64 a1_3]) (t := 27) ?hr ?_; (case hd => rfl); (case hg => rfl); (case hr => first | (go_simp; done) | (go_simp; rfl)); intro gb218 hg w8 hbox hb; have n0_ := Aside0.mk (below_step (by repeat (first | (with_reducible first | exact HB.out | apply below_alloc | apply pw_below_drewN | apply below_drew1) | exact HB.out)) hb); have n1_ := Aside0.mk (hbox); have n2_ := Aside0.mk ((by rw [hg]; exact (below_size (by repeat (first | (with_reducible first | exact HB.out | apply below_alloc | apply pw_below_drewN | apply below_drew1) | exact HB.out))) : w.heap.size ≤ gb218)); have n3_ := Aside0.mk ((by rw [hg]; exact (below_size (by repeat (first | (with_reducible first | exact HB.out | apply below_alloc | apply pw_below_drewN | apply below_drew1) | exact HB.out))) : w.heap.size ≤ gb218)); clear HB; have HB := n0_; have BK218 := n1_; have GW218 := n2_; have GE218 := n3_; clear n0_ n1_ n2_ n3_; clear hb hbox hg; have hcz9_0 : w8.cell? ⟨gb218, 0, none⟩ = some (.int .u64 a1_0) := (blk_cell BK218.out 0).trans rfl; have hcz9_1 : w8.cell? ⟨gb218, 1, none⟩ = some (.int .i64 a1_1) := (blk_cell BK218.out 1).trans rfl; have hcz9_2 : w8.cell? ⟨gb218, 2, none⟩ = some (.int .u64 a1_2) := (blk_cell BK218.out 2).trans rfl; have hcz9_3 : w8.cell? ⟨gb218, 3, none⟩ = some (.int .i64 a1_3) := (blk_cell BK218.out 3).trans rfl; have hfz9_0 := blk_frozen BK218.out 0; have hfz9_1 := blk_frozen BK218.out 1; have hfz9_2 := blk_frozen BK218.out 2; have hfz9_3 := blk_frozen BK218.out 3) | ((with_reducible refine gate_callee (f := 70) rfl ?_); refine goesL_ (some 11) rfl rfl Try.func70 (by kernel_rfl) rfl #[.slice A0 l0.length c0, .agg #[.int .u64 a1_0, .int .i64 a1_1, .int .u64 a1_2, .int .i64 a1_3], .func (.func 71) #[] #[]] rfl (by (try simp only [List.map_toArray, List.map_cons, List.map_nil]); first | done | rfl | (simp only [List.length_drop, List.length_take]; rfl)) ?_; (with_reducible refine (api_Label_70.calls k _ _ l0 a1_0 a1_1 a1_2 a1_3 t219 true _ ?side1 ?side2 A3.out).mono ?_); (case side1 => repeat (first | exact (Kd.C_below HR0.out HB.out) | (with_reducible refine Kd.C_alloc ?_ _) | (with_reducible refine Kd.C_drewN ?_ _) | (with_reducible refine Kd.C_drew ?_))); (case side2 => exact HC0.out); rintro e w10 ⟨rfl, hb⟩; refine ⟨_, rfl, ?_⟩; have n0_ := Aside0.mk (blk_below (g := gb218) (o := .cells #[.int .u64 a1_0, .int .i64 a1_1, .int .u64 a1_2, .int .i64 a1_3] 27 (0, 0)) (by (with_reducible repeat (first | refine blk_drewN ?_ _ | refine blk_drew ?_ | refine blk_alloc ?_ _)); exact BK218.out) hb); have n1_ := Aside0.mk (below_step (by repeat (first | (with_reducible first | exact HB.out | apply below_alloc | apply pw_below_drewN | apply below_drew1 | refine below_set ?_ GE218.out) | exact HB.out)) hb); clear BK218; clear HB; have BK218 := n0_; have HB := n1_; clear n0_ n1_; (try clear hb); (try clear hb2); (try clear hk); (try clear hi); have p221 : 0 ≤ (t219 : Int) := of_decide_eq_true (by first | (with_reducible assumption) | assumption); have q221 : t219 < (l0.length : Int) := of_decide_eq_true (by first | (with_reducible assumption) | assumption); obtain ⟨ad221, A221_4, c221_4, e221, hx221_0, hx221_1, hx221_2, hx221_3, hx221_4, hl221_4, hi221_4⟩ := at_T32 HR0.out t219 p221 q221; cases e221; replace hx221_0 := (HB.out.cell (World.block_lt_of_cell? w _ hx221_0)).trans hx221_0; replace hx221_1 := (HB.out.cell (World.block_lt_of_cell? w _ hx221_1)).trans hx221_1; replace hx221_2 := (HB.out.cell (World.block_lt_of_cell? w _ hx221_2)).trans hx221_2; replace hx221_3 := (HB.out.cell (World.block_lt_of_cell? w _ hx221_3)).trans hx221_3; replace hx221_4 := (HB.out.cell (World.block_lt_of_cell? w _ hx221_4)).trans hx221_4; have HR221_4 := Aside0.mk hi221_4; have HC221_4 := Aside0.mk hl221_4; clear hi221_4 hl221_4; replace p221 := eq_true p221; replace q221 := eq_true q221) | ((with_reducible refine gate_callee (f := 72) rfl ?_); refine goesL_ (some 21) rfl rfl Try.func72 (by kernel_rfl) rfl #[.slice A221_4 ((rd_T32 l0 t219).f1).length c221_4] rfl (by (try simp only [List.map_toArray, List.map_cons, List.map_nil]); first | done | rfl | (simp only [List.length_drop, List.length_take]; rfl)) ?_; (with_reducible refine (bytes_Clone.calls _ _ ((rd_T32 l0 t219).f1) t222 _ ?side1 ?side2 A7.out).mono ?_); (case side1 => repeat (first | exact (Kd.C_below HR221_4.out HB.out) | (with_reducible refine Kd.C_alloc ?_ _) | (with_reducible refine Kd.C_drewN ?_ _) | (with_reducible refine Kd.C_drew ?_))); (case side2 => exact HC221_4.out); rintro e w11 ⟨v223, rfl, ho0, hb⟩; refine ⟨_, rfl, ?_⟩; have n0_ := Aside0.mk (Kd.R_lower ho0 (below_size (by repeat (first | (with_reducible first | exact HB.out | apply below_alloc | apply pw_below_drewN | apply below_drew1 | refine below_set ?_ GE218.out) | exact HB.out)))); have n1_ := Aside0.mk (blk_below (g := gb218) (o := .cells #[.int .u64 a1_0, .int .i64 a1_1, .int .u64 a1_2, .int .i64 a1_3] 27 (0, 0)) (by (with_reducible repeat (first | refine blk_drewN ?_ _ | refine blk_drew ?_ | refine blk_alloc ?_ _)); exact BK218.out) hb); have n2_ := Aside0.mk (below_step (by repeat (first | (with_reducible first | exact HB.out | apply below_alloc | apply pw_below_drewN | apply below_drew1 | refine below_set ?_ GE218.out) | exact HB.out)) hb); clear BK218; clear HB; have HO224 := n0_; have BK218 := n1_; have HB := n2_; clear n0_ n1_ n2_; (try clear hb); (try clear hb2); (try clear hk); (try clear hi); (try clear ho0)))
        go_ret2
        exact ⟨_, by first | rfl | (simp [errW_none, errW_some] <;> rfl) | (simp [*, errW_none, errW_some] <;> rfl), by (with_reducible repeat (first | apply Kd.R_alloc | apply Kd.R_drewN | apply Kd.R_drew)); exact HO224.out, by repeat (first | (with_reducible first | exact HB.out | apply below_alloc | apply pw_below_drewN | apply below_drew1 | refine below_set ?_ GE218.out) | exact HB.out)⟩
      · rw [if_neg c6] at H
        exact absurd H (by simp)
    · rw [if_neg c5] at H
      exact absurd H (by simp)
  · replace c4 := Bool.eq_false_iff.mpr c4
    subst c4
    have H1 : (some (([] : List Int), false)) = some (r1, r2) := by rw [if_neg (show ¬ (false = true) by decide)] at H; exact H
    clear H
    have H := H1
    clear H1
    simp only [Option.some.injEq, Prod.mk.injEq] at H
    obtain ⟨rfl, rfl⟩ := H
    go_enter Try.func24, Try.ntmps24
    go_wp2_with (first | ((with_reducible refine gate_dst (N := 3) rfl ?_); refine box_event ?hg (N := 3) ?hd (cs := #[.int .u64 a1_0, .int .i64 a1_1, .int .u64 a1_2, .int .i64 a1_3]) (t := 27) ?hr ?_; (case hd => rfl); (case hg => rfl); (case hr => first | (go_simp; done) | (go_simp; rfl)); intro gb218 hg w12 hbox hb; have n0_ := Aside0.mk (below_step (by repeat (first | (with_reducible first | exact HB.out | apply below_alloc | apply pw_below_drewN | apply below_drew1) | exact HB.out)) hb); have n1_ := Aside0.mk (hbox); have n2_ := Aside0.mk ((by rw [hg]; exact (below_size (by repeat (first | (with_reducible first | exact HB.out | apply below_alloc | apply pw_below_drewN | apply below_drew1) | exact HB.out))) : w.heap.size ≤ gb218)); have n3_ := Aside0.mk ((by rw [hg]; exact (below_size (by repeat (first | (with_reducible first | exact HB.out | apply below_alloc | apply pw_below_drewN | apply below_drew1) | exact HB.out))) : w.heap.size ≤ gb218)); clear HB; have HB := n0_; have BK218 := n1_; have GW218 := n2_; have GE218 := n3_; clear n0_ n1_ n2_ n3_; clear hb hbox hg; have hcz13_0 : w12.cell? ⟨gb218, 0, none⟩ = some (.int .u64 a1_0) := (blk_cell BK218.out 0).trans rfl; have hcz13_1 : w12.cell? ⟨gb218, 1, none⟩ = some (.int .i64 a1_1) := (blk_cell BK218.out 1).trans rfl; have hcz13_2 : w12.cell? ⟨gb218, 2, none⟩ = some (.int .u64 a1_2) := (blk_cell BK218.out 2).trans rfl; have hcz13_3 : w12.cell? ⟨gb218, 3, none⟩ = some (.int .i64 a1_3) := (blk_cell BK218.out 3).trans rfl; have hfz13_0 := blk_frozen BK218.out 0; have hfz13_1 := blk_frozen BK218.out 1; have hfz13_2 := blk_frozen BK218.out 2; have hfz13_3 := blk_frozen BK218.out 3) | ((with_reducible refine gate_callee (f := 70) rfl ?_); refine goesL_ (some 11) rfl rfl Try.func70 (by kernel_rfl) rfl #[.slice A0 l0.length c0, .agg #[.int .u64 a1_0, .int .i64 a1_1, .int .u64 a1_2, .int .i64 a1_3], .func (.func 71) #[] #[]] rfl (by (try simp only [List.map_toArray, List.map_cons, List.map_nil]); first | done | rfl | (simp only [List.length_drop, List.length_take]; rfl)) ?_; (with_reducible refine (api_Label_70.calls k _ _ l0 a1_0 a1_1 a1_2 a1_3 t219 false _ ?side1 ?side2 A3.out).mono ?_); (case side1 => repeat (first | exact (Kd.C_below HR0.out HB.out) | (with_reducible refine Kd.C_alloc ?_ _) | (with_reducible refine Kd.C_drewN ?_ _) | (with_reducible refine Kd.C_drew ?_))); (case side2 => exact HC0.out); rintro e w14 ⟨rfl, hb⟩; refine ⟨_, rfl, ?_⟩; have n0_ := Aside0.mk (blk_below (g := gb218) (o := .cells #[.int .u64 a1_0, .int .i64 a1_1, .int .u64 a1_2, .int .i64 a1_3] 27 (0, 0)) (by (with_reducible repeat (first | refine blk_drewN ?_ _ | refine blk_drew ?_ | refine blk_alloc ?_ _)); exact BK218.out) hb); have n1_ := Aside0.mk (below_step (by repeat (first | (with_reducible first | exact HB.out | apply below_alloc | apply pw_below_drewN | apply below_drew1 | refine below_set ?_ GE218.out) | exact HB.out)) hb); clear BK218; clear HB; have BK218 := n0_; have HB := n1_; clear n0_ n1_; (try clear hb); (try clear hb2); (try clear hk); (try clear hi)))
    go_ret2
    exact ⟨_, by first | rfl | (simp [errW_none, errW_some] <;> rfl) | (simp [*, errW_none, errW_some] <;> rfl), by first | exact Kd.R_nil _ _ _ _ _ | exact Kd.N_nil _ _ _ _ _ | exact Kd.V_nil _ _ _ _ _ | exact Kd.Q_nil _ _ _ _ _ | exact Kd.S_nil _ _ _ _ _, by repeat (first | (with_reducible first | exact HB.out | apply below_alloc | apply pw_below_drewN | apply below_drew1 | refine below_set ?_ GE218.out) | exact HB.out)⟩

end Go.Proofs.Ytioooiflpabngaa.PAll

namespace Go.Proofs.Ytioooiflpabngaa.PAll
open Go.RowKit Go.Proofs.YtioooiflpabngaaW.PrintWords
set_option linter.unusedVariables false
set_option linter.unusedSimpArgs false

theorem Ev.of_mono {α : Type} {g : Nat → Option α} {r : α} (hm : ∀ k, LeO (g k) (g (k + 1))) {K : Nat} (h : g K = some r) : Ev g r := by
  refine ⟨K, fun k hk => ?_⟩
  obtain ⟨d, rfl⟩ : ∃ d, k = K + d := ⟨k - K, by omega⟩
  clear hk
  induction d with
  | zero => exact h
  | succ d ih => exact hm _ _ ih
theorem compare_ev (a b : S27) : Ev (fun k => label_Compare.f k a.f0.f0 a.f0.f1 a.f1 a.f2 b.f0.f0 b.f0.f1 b.f1 b.f2) (cmpL a b) :=
  Ev.of_mono (fun k => label_Compare.mono _ _ _ _ _ _ _ _ k) (label_Compare_eq a b)
theorem findCmp_ev (x : S32) (b : S27) : Ev (fun k => content_Find_1.f k x.f0.f0.f0 x.f0.f0.f1 x.f0.f1 x.f0.f2 x.f1 b.f0.f0 b.f0.f1 b.f1 b.f2) (cmpL x.f0 b) := by
  unfold content_Find_1.f
  exact Ev.bind (compare_ev x.f0 b) (Ev.const fun _ => rfl)
/-- Rising by their labels. -/
def Rise (l : List S32) : Prop := l.Pairwise fun a b => ltL a.f0 b.f0
theorem half {lo hi : Nat} (h : lo < hi) (hh : hi < 4611686018427387904) : wrap64 (IntKind.u64.wrap (wrap64 ((lo : Int) + (hi : Int))) / 2) = (((lo + hi) / 2 : Nat) : Int) := by
  have e1 : wrap64 ((lo : Int) + (hi : Int)) = ((lo + hi : Nat) : Int) := by unfold wrap64; omega
  rw [e1]
  have e2 : IntKind.u64.wrap ((lo + hi : Nat) : Int) = ((lo + hi : Nat) : Int) := by
    show ((lo + hi : Nat) : Int) % 18446744073709551616 = _
    omega
  rw [e2]
  unfold wrap64
  omega
theorem rise_lt {l : List S32} (h : Rise l) {i j : Nat} (hij : i < j) (hj : j < l.length) : ltL (l[i]'(by omega)).f0 l[j].f0 := List.pairwise_iff_getElem.1 h i j (by omega) hj hij
set_option maxHeartbeats 1000000 in
theorem search_loop (l : List S32) (b : S27) (hr : Rise l) (hl : l.length < 4611686018427387904) : ∀ (d lo hi : Nat), hi - lo ≤ d → lo ≤ hi → hi ≤ l.length →
    (∀ t (ht : t < l.length), t < lo → cmpL l[t].f0 b < 0) → (∀ t (ht : t < l.length), hi ≤ t → ¬ cmpL l[t].f0 b < 0) →
    ∃ n, n ≤ l.length ∧ (∀ t (ht : t < l.length), t < n → cmpL l[t].f0 b < 0) ∧ (∀ t (ht : t < l.length), n ≤ t → ¬ cmpL l[t].f0 b < 0) ∧
      Ev (fun k => api_Label_70.l0 k l (l.length : Int) (lo : Int) (hi : Int) b.f0.f0 b.f0.f1 b.f1 b.f2) ((n : Int), if h : n < l.length then decide (cmpL l[n].f0 b = 0) else false) := by
  intro d
  induction d with
  | zero =>
    intro lo hi hd h1 h2 hA hB
    obtain rfl : lo = hi := by omega
    refine ⟨lo, h2, hA, hB, ?_⟩
    by_cases hlt : lo < l.length
    · refine Ev.step (b := fun k => (content_Find_1.f k l[lo].f0.f0.f0 l[lo].f0.f0.f1 l[lo].f0.f1 l[lo].f0.f2 l[lo].f1 b.f0.f0 b.f0.f1 b.f1 b.f2).bind fun t => some ((lo : Int), (t == 0))) (fun k => ?_) (Ev.bind (findCmp_ev l[lo] b) (Ev.const fun _ => ?_))
      · rw [api_Label_70.l0, if_neg (by omega), if_pos (by omega), if_pos (by omega), if_pos (by omega), rdE_nat hlt]
      · rw [dif_pos hlt]
        by_cases h0 : cmpL l[lo].f0 b = 0 <;> simp [h0]
    · refine Ev.step (b := fun k => some ((lo : Int), false)) (fun k => ?_) (Ev.const fun _ => ?_)
      · rw [api_Label_70.l0, if_neg (by omega), if_neg (by omega)]
      · rw [dif_neg hlt]
  | succ d ih =>
    intro lo hi hd h1 h2 hA hB
    by_cases hlt : lo < hi
    · obtain ⟨m, hme⟩ : ∃ m, m = (lo + hi) / 2 := ⟨_, rfl⟩
      have hm1 : lo ≤ m := by omega
      have hm2 : m < hi := by omega
      have hm : m < l.length := by omega
      have hhalf := half hlt (by omega)
      rw [← hme] at hhalf
      clear hme
      have hstep : ∀ n : Nat, ∀ r, Ev (fun k => if cmpL l[m].f0 b < 0 then api_Label_70.l0 k l (l.length : Int) ((m + 1 : Nat) : Int) (hi : Int) b.f0.f0 b.f0.f1 b.f1 b.f2 else api_Label_70.l0 k l (l.length : Int) (lo : Int) ((m : Nat) : Int) b.f0.f0 b.f0.f1 b.f1 b.f2) r →
          Ev (fun k => api_Label_70.l0 k l (l.length : Int) (lo : Int) (hi : Int) b.f0.f0 b.f0.f1 b.f1 b.f2) r := by
        intro _ r hr'
        refine Ev.step (b := fun k => (content_Find_1.f k l[m].f0.f0.f0 l[m].f0.f0.f1 l[m].f0.f1 l[m].f0.f2 l[m].f1 b.f0.f0 b.f0.f1 b.f1 b.f2).bind fun t => if t < 0 then api_Label_70.l0 k l (l.length : Int) ((m + 1 : Nat) : Int) (hi : Int) b.f0.f0 b.f0.f1 b.f1 b.f2 else api_Label_70.l0 k l (l.length : Int) (lo : Int) ((m : Nat) : Int) b.f0.f0 b.f0.f1 b.f1 b.f2) (fun k => ?_) (Ev.bind (findCmp_ev l[m] b) hr')
        rw [api_Label_70.l0, if_pos (by omega), hhalf, if_pos (by omega), if_pos (by omega), rdE_nat hm, wrap_nat (by omega)]
      by_cases hc : cmpL l[m].f0 b < 0
      · obtain ⟨n, a1, a2, a3, a4⟩ := ih (m + 1) hi (by omega) (by omega) h2 (fun t ht htl => by
          rcases Nat.lt_or_ge t m with h | h
          · exact (cmpL_neg _ _).2 (ltL_trans (rise_lt hr h hm) ((cmpL_neg _ _).1 hc))
          · have e : t = m := by omega
            subst e; exact hc) hB
        refine ⟨n, a1, a2, a3, hstep n _ ?_⟩
        simp only [hc, if_true]
        exact a4
      · obtain ⟨n, a1, a2, a3, a4⟩ := ih lo m (by omega) (by omega) (by omega) hA (fun t ht htl => by
          rcases Nat.lt_or_ge m t with h | h
          · intro h4
            exact hc ((cmpL_neg _ _).2 (ltL_trans (rise_lt hr h ht) ((cmpL_neg _ _).1 h4)))
          · have e : t = m := by omega
            subst e; exact hc)
        refine ⟨n, a1, a2, a3, hstep n _ ?_⟩
        simp only [hc, if_false]
        exact a4
    · exact ih lo hi (by omega) h1 h2 hA hB
theorem search_ev (l : List S32) (b : S27) (hr : Rise l) (hl : l.length < 4611686018427387904) : ∃ n, n ≤ l.length ∧ (∀ t (ht : t < l.length), t < n → cmpL l[t].f0 b < 0) ∧ (∀ t (ht : t < l.length), n ≤ t → ¬ cmpL l[t].f0 b < 0) ∧
      Ev (fun k => api_Label_70.f k l b.f0.f0 b.f0.f1 b.f1 b.f2) ((n : Int), if h : n < l.length then decide (cmpL l[n].f0 b = 0) else false) := by
  obtain ⟨n, h1, h2, h3, h4⟩ := search_loop l b hr hl l.length 0 l.length (by omega) (by omega) (Nat.le_refl _) (fun t ht h => absurd h (by omega)) (fun t ht h => absurd ht (by omega))
  exact ⟨n, h1, h2, h3, h4⟩
theorem foundE_at {l : List S32} (hr : Rise l) {n : Nat} (hn : n < l.length) : foundE l l[n].f0 = (l[n].f1, true) := by
  induction l generalizing n with
  | nil => simp at hn
  | cons a l ih =>
    rw [foundE_cons]
    cases n with
    | zero => rw [if_pos (by rw [eqL_iff]; rfl)]; rfl
    | succ n =>
      have h1 := rise_lt hr (i := 0) (j := n + 1) (by omega) hn
      rw [if_neg]
      · exact ih (List.pairwise_cons.1 hr).2 (by simpa using hn)
      · rw [eqL_iff]
        intro e
        simp only [List.getElem_cons_zero] at h1
        rw [e] at h1
        exact ltL_irrefl _ h1
theorem foundE_none {l : List S32} {b : S27} (h : ∀ x ∈ l, x.f0 ≠ b) : foundE l b = ([], false) := by
  induction l with
  | nil => rfl
  | cons a l ih =>
    rw [foundE_cons, if_neg (by rw [eqL_iff]; exact h a (List.mem_cons_self ..))]
    exact ih fun x hx => h x (List.mem_cons_of_mem _ hx)
theorem find_ev (l : List S32) (b : S27) (hr : Rise l) (hl : l.length < 4611686018427387904) (hb : ∀ x ∈ l, x.f1.length < 140737488355328) : Ev (fun k => content_Find.f k l b.f0.f0 b.f0.f1 b.f1 b.f2) (foundE l b) := by
  obtain ⟨n, h1, h2, h3, h4⟩ := search_ev l b hr hl
  unfold content_Find.f
  refine Ev.bind h4 ?_
  by_cases hn : n < l.length
  · by_cases hc : cmpL l[n].f0 b = 0
    · have e := cmpL_eq.1 hc
      subst e
      simp only [dif_pos hn, hc, decide_true, if_true]
      rw [foundE_at hr hn]
      refine Ev.const fun _ => ?_
      rw [if_pos (by omega), if_pos (by omega), rdE_nat hn, bytes_Clone.f, if_pos (hb _ (List.getElem_mem hn))]
      rfl
    · simp only [dif_pos hn, hc, decide_false]
      rw [foundE_none]
      · exact Ev.const fun _ => rfl
      · intro x hx e
        obtain ⟨t, ht, rfl⟩ := List.getElem_of_mem hx
        have e2 := cmpL_eq.2 e
        rcases Nat.lt_trichotomy t n with h | h | h
        · have := h2 t ht h; omega
        · subst h; exact hc e2
        · have h5 := rise_lt hr h ht
          rw [e, ← cmpL_neg] at h5
          exact h3 n hn (Nat.le_refl _) h5
  · simp only [dif_neg hn]
    rw [foundE_none]
    · exact Ev.const fun _ => rfl
    · intro x hx e
      obtain ⟨t, ht, rfl⟩ := List.getElem_of_mem hx
      have := h2 t ht (by omega)
      have e2 := cmpL_eq.2 e
      omega
end Go.Proofs.Ytioooiflpabngaa.PAll

namespace Go.Proofs.Ytioooiflpabngaa.PAll
open Go.RowKit Go.Deep Go.ChangeShapes Go.WideShapes Go.Proofs.YtioooiflpabngaaW.PrintWords
set_option linter.unusedVariables false

def Opens {α : Type} (P : Program) (t : TypeId) (d : Kd α) (ok : α → Prop) : Prop :=
  P.cellsOf t = d.sz ∧ ∀ (H : Type) (enc : TypeId × Value → H) (w : World) (base : Nat) (spare : Nat → Bool) (held : Bool) (fuel : Nat) (cs : List Value) (x : DataW H × List MemPlace),
    DataW.trod enc P w base spare held fuel t cs = some x → (∀ n ∈ x.1.weights P t, n ≤ reachBytes) → ∃ a : α, d.K w a cs ∧ ok a
def OpensF {α : Type} (P : Program) (fs : List Field) (start : Nat) (d : Kd α) (ok : α → Prop) : Prop :=
  ∀ (H : Type) (enc : TypeId × Value → H) (w : World) (base : Nat) (spare : Nat → Bool) (held : Bool) (n : Nat) (cs : List Value) (xs : List (DataW H × List MemPlace)), cs.length = start + d.sz → xs.length = fs.length →
    (∀ (i : Nat) (f : Field), fs[i]? = some f → DataW.trod enc P w base spare held n f.type ((cs.drop f.offset).take (P.cellsOf f.type)) = xs[i]?) →
    (∀ q ∈ DataW.weightsEach P (fs.map fun f : Field => f.type) (xs.map (·.1)), q ≤ reachBytes) → ∃ a : α, d.K w a (cs.drop start) ∧ ok a

theorem opens_int {P : Program} {t : TypeId} {k : IntKind} (ht : P.underlying t = some (.int k)) (hc : P.cellsOf t = 1) : Opens P t (Kd.int k) (fun n => (Lit.int k n).wf = true) :=
  ⟨hc, fun H enc w base spare held fuel cs x h _ => by
    obtain ⟨n, rfl, _, hw⟩ := DataW.trod_int ht h
    exact ⟨n, rfl, hw⟩⟩
theorem weights_all {H : Type} {P : Program} {e : TypeId} : ∀ {ds : List (DataW H)} {d : DataW H}, d ∈ ds → ∀ n ∈ d.weights P e, n ∈ DataW.weightsAll P e ds
  | d0 :: ds, d, hd, n, hn => by
    simp only [DataW.weightsAll, List.mem_append]
    rcases List.mem_cons.1 hd with rfl | h
    · exact .inl hn
    · exact .inr (weights_all h n hn)
theorem opens_slice {α : Type} [Inhabited α] {P : Program} {t e : TypeId} {E : Nat} {d : Kd α} {ok : α → Prop} (ht : P.underlying t = some (.slice e)) (hc : P.cellsOf t = 1) (he : Opens P e d ok) :
    Opens P t (Kd.slice E d) (fun xs => xs.length * P.bytesOf e ≤ reachBytes ∧ ∀ x ∈ xs, ok x) := by
  refine ⟨hc, fun H enc w base spare held fuel cs x h hw => ?_⟩
  rcases Go.Deep.open_slice ht h with ⟨rfl, rfl⟩ | ⟨a, len, cap, m, n, D, Pl, rfl, hb, hl, hm, hmm, rfl, hx⟩
  · exact ⟨[], ⟨none, 0, rfl, Nat.le_refl _, rfl, by simp, fun h => by simp at h⟩, by simp, by simp⟩
  · have hlm : len ≤ m := by rw [hmm]; split <;> omega
    simp only [DataW.weights, ht] at hw
    have hwl := hw _ (List.mem_cons_self ..)
    have hf : ∀ i, i < len → ∃ y : α, (∃ c : List Value, c.length = d.sz ∧ d.K w y c ∧ ∀ j u, c[j]? = some u → w.cell? (a.add (i * d.sz + j)) = some u) ∧ ok y := by
      intro i hi
      obtain ⟨cs', h1, h2⟩ := hx i (by omega)
      obtain ⟨y, hy, hok⟩ := he.2 H enc w base spare held n cs' _ h2 (fun q hq => hw q (List.mem_cons_of_mem _ (List.mem_append.2 (.inl (weights_all (List.mem_map.2 ⟨i, List.mem_range.2 hi, rfl⟩) q hq)))))
      obtain ⟨_, hlen, hcell⟩ := World.cells?_some h1
      refine ⟨y, ⟨cs', hlen.trans he.1, hy, fun j u hj => ?_⟩, hok⟩
      have hj2 : j < P.cellsOf e := by rw [← hlen]; exact (List.getElem?_eq_some_iff.1 hj).1
      have h3 := hcell j hj2
      rw [Go.Deep.add_add, he.1] at h3
      rw [h3]; exact hj
    obtain ⟨f, hf⟩ := Go.Deep.choose_lt hf
    refine ⟨(List.range len).map f, ⟨some a, cap, by simp, by simpa using hl, by simp, by simp; simp [maxLen] at hm; omega, fun _ => ⟨a, rfl, fun j p hj => ?_⟩⟩, ?_, ?_⟩
    · obtain ⟨hlt, hp⟩ := List.getElem?_eq_some_iff.1 hj
      have hjl : j < len := by simpa using hlt
      have hpe : p = f j := by simpa using hp.symm
      subst hpe
      exact (hf j hjl).1
    · simp only [List.length_map, List.length_range] at hwl ⊢
      exact Nat.le_trans (Nat.mul_le_mul_right _ (by omega)) hwl
    · intro x hx
      obtain ⟨i, hi, rfl⟩ := List.mem_map.1 hx
      exact (hf i (List.mem_range.1 hi)).2
theorem opensF_one {α : Type} {P : Program} {f : Field} {start : Nat} {d : Kd α} {ok : α → Prop} (ho : f.offset = start) (h : Opens P f.type d ok) : OpensF P [f] start d ok := by
  intro H enc w base spare held n cs xs hcs hxs hx hw
  match xs, hxs with
  | [x], _ =>
    have h0 := hx 0 f rfl
    rw [ho, h.1, List.take_of_length_le (by simp; omega)] at h0
    simp only [List.map_cons, List.map_nil, DataW.weightsEach, List.append_nil] at hw
    exact h.2 H enc w base spare held n _ x h0 hw
theorem opensF_cons {α β : Type} {P : Program} {f : Field} {fs : List Field} {start : Nat} {da : Kd α} {db : Kd β} {oka : α → Prop} {okb : β → Prop} (ho : f.offset = start) (h : Opens P f.type da oka) (hr : OpensF P fs (start + da.sz) db okb) :
    OpensF P (f :: fs) start (Kd.pair da db) (fun p => oka p.1 ∧ okb p.2) := by
  intro H enc w base spare held n cs xs hcs hxs hx hw
  match xs, hxs with
  | x :: xs, hxs =>
    have hcs2 : cs.length = start + (da.sz + db.sz) := hcs
    have h0 := hx 0 f rfl
    rw [ho, h.1] at h0
    simp only [List.map_cons, DataW.weightsEach, List.mem_append] at hw
    obtain ⟨a, ha, hoa⟩ := h.2 H enc w base spare held n _ x h0 (fun q hq => hw q (.inl hq))
    obtain ⟨b, hb, hob⟩ := hr H enc w base spare held n cs xs (by omega) (by simpa using hxs) (fun i f' hf => hx (i + 1) f' hf) (fun q hq => hw q (.inr hq))
    refine ⟨(a, b), ⟨_, _, ?_, ha, hb⟩, hoa, hob⟩
    rw [← List.drop_drop, List.take_append_drop]
theorem opens_struct {α : Type} {P : Program} {t : TypeId} {fs : Array Field} {d : Kd α} {ok : α → Prop} (ht : P.underlying t = some (.struct fs)) (hc : P.cellsOf t = d.sz) (h : OpensF P fs.toList 0 d ok) : Opens P t d ok := by
  refine ⟨hc, fun H enc w base spare held fuel cs x hx hw => ?_⟩
  obtain ⟨xs, n, rfl, rfl, hl, hxl, hf⟩ := DataW.trod_struct ht hx
  simp only [DataW.weights, ht] at hw
  have := h H enc w base spare held n cs xs (by omega) (by simpa using hxl) (fun i f hi => hf i f (by simpa using hi)) hw
  simpa using this
theorem opens_iso {α β : Type} {P : Program} {t : TypeId} {d : Kd α} {f : β → α} {ok : α → Prop} (g : α → β) (hg : ∀ a, f (g a) = a) (h : Opens P t d ok) : Opens P t (Kd.iso d f) (fun b => ok (f b)) :=
  ⟨h.1, fun H enc w base spare held fuel cs x hx hw => by
    obtain ⟨a, ha, ho⟩ := h.2 H enc w base spare held fuel cs x hx hw
    refine ⟨g a, ?_, ?_⟩
    · show d.K w (f (g a)) cs
      rw [hg]; exact ha
    · show ok (f (g a))
      rw [hg]; exact ho⟩
theorem Opens.imp {α : Type} {P : Program} {t : TypeId} {d : Kd α} {ok ok' : α → Prop} (h : Opens P t d ok) (k : ∀ a, ok a → ok' a) : Opens P t d ok' :=
  ⟨h.1, fun H enc w base spare held fuel cs x hx hw => by
    obtain ⟨a, ha, ho⟩ := h.2 H enc w base spare held fuel cs x hx hw
    exact ⟨a, ha, k _ ho⟩⟩

/-! The values that come in: whole numbers in their types' bounds, rows no longer than memory lets them be. -/
def rightV (v : S25) : Prop := (Lit.int .u64 v.f0).wf = true ∧ (Lit.int .i64 v.f1).wf = true
def rightL (x : S27) : Prop := rightV x.f0 ∧ (Lit.int .u64 x.f1).wf = true ∧ (Lit.int .i64 x.f2).wf = true
def rightB (b : List Int) : Prop := b.length * 1 ≤ reachBytes ∧ ∀ n ∈ b, (Lit.int .u8 n).wf = true
def rightE (x : S32) : Prop := rightL x.f0 ∧ rightB x.f1
def rightEs (l : List S32) : Prop := l.length * 56 ≤ reachBytes ∧ ∀ x ∈ l, rightE x
def rightLs (l : List S27) : Prop := l.length * 32 ≤ reachBytes ∧ ∀ x ∈ l, rightL x
def rightS (s : S53) : Prop := rightEs s.f0 ∧ rightLs s.f1 ∧ (Lit.int .i64 s.f2).wf = true ∧ rightV s.f3
def rightT (t : S87) : Prop := (Lit.int .i64 t.f0).wf = true ∧ rightS t.f1
def rightTs (l : List S87) : Prop := l.length * 80 ≤ reachBytes ∧ ∀ x ∈ l, rightT x
theorem opensV : Opens Try.prog 25 k25 rightV :=
  opens_iso (fun p => ⟨p.1, p.2⟩) (fun _ => rfl) (opens_struct Try.underlying25 (by kernel_rfl) (opensF_cons rfl (opens_int (by kernel_rfl) (by kernel_rfl)) (opensF_one rfl (opens_int (by kernel_rfl) (by kernel_rfl)))))
theorem opensL : Opens Try.prog 27 k27 rightL :=
  opens_iso (fun p => ⟨p.1, p.2.1, p.2.2⟩) (fun _ => rfl) (opens_struct Try.underlying27 (by kernel_rfl) (opensF_cons rfl opensV (opensF_cons rfl (opens_int (by kernel_rfl) (by kernel_rfl)) (opensF_one rfl (opens_int (by kernel_rfl) (by kernel_rfl))))))
theorem opensB {E : Nat} : Opens Try.prog 30 (Kd.slice E (Kd.int .u8)) rightB :=
  (opens_slice Try.underlying30 (by kernel_rfl) (opens_int (k := .u8) (by kernel_rfl) (by kernel_rfl))).imp fun _ h => ⟨(show Try.prog.bytesOf 5 = 1 by kernel_rfl) ▸ h.1, h.2⟩
theorem opensE : Opens Try.prog 32 k32 rightE :=
  opens_iso (fun p => ⟨p.1, p.2⟩) (fun _ => rfl) (opens_struct Try.underlying32 (by kernel_rfl) (opensF_cons rfl opensL (opensF_one rfl opensB)))
theorem opensEs : Opens Try.prog 22 (Kd.slice 32 k32) rightEs :=
  (opens_slice Try.underlying22 (by kernel_rfl) opensE).imp fun _ h => ⟨(show Try.prog.bytesOf 32 = 56 by kernel_rfl) ▸ h.1, h.2⟩
theorem opensLs : Opens Try.prog 41 (Kd.slice 27 k27) rightLs :=
  (opens_slice Try.underlying41 (by kernel_rfl) opensL).imp fun _ h => ⟨(show Try.prog.bytesOf 27 = 32 by kernel_rfl) ▸ h.1, h.2⟩
theorem opensS : Opens Try.prog 53 k53 rightS :=
  opens_iso (fun p => ⟨p.1, p.2.1, p.2.2.1, p.2.2.2⟩) (fun _ => rfl) (opens_struct Try.underlying53 (by kernel_rfl) (opensF_cons rfl opensEs (opensF_cons rfl opensLs (opensF_cons rfl (opens_int (by kernel_rfl) (by kernel_rfl)) (opensF_one rfl opensV)))))
theorem opensSs : Opens Try.prog 69 (Kd.slice 53 k53) (fun l => l.length * 72 ≤ reachBytes ∧ ∀ x ∈ l, rightS x) :=
  (opens_slice Try.underlying69 (by kernel_rfl) opensS).imp fun _ h => ⟨(show Try.prog.bytesOf 53 = 72 by kernel_rfl) ▸ h.1, h.2⟩
/-! An argument's value, out of the row's facts. -/
theorem arg_trod {α : Type} {P : Program} {t : TypeId} {d : Kd α} {ok : α → Prop} (h : Opens P t d ok) {H : Type} {enc : TypeId × Value → H} {W : World} {base : Nat} {spare : Nat → Bool} {held : Bool} {v : Value} {dd : DataW H} {ps : List MemPlace}
    (ht : DataW.Trod enc P W base spare held t v dd ps) (hw : ∀ n ∈ dd.weights P t, n ≤ reachBytes) : ∃ a : α, d.K W a v.cells.toList ∧ ok a := by
  obtain ⟨fuel, hf⟩ := ht
  exact h.2 H enc W base spare held fuel _ _ hf hw
theorem arg_slice {α : Type} {d : Kd α} {E : Nat} {W : World} {xs : List α} {A : Option Addr} {len cap : Nat} (h : (Kd.slice E d).K W xs (Value.slice A len cap).cells.toList) : len = xs.length ∧ xs.length ≤ cap ∧ Kd.C d W A xs.length xs := by
  obtain ⟨A', c', he, hl, hr⟩ := h
  simp only [Value.cells, List.cons.injEq, Value.slice.injEq, and_true] at he
  obtain ⟨rfl, rfl, rfl⟩ := he
  exact ⟨rfl, hl, hr⟩
theorem agg_of {cs : Array Value} {l : List Value} (h : (Value.agg cs).cells.toList = l) : cs = l.toArray := by
  cases cs
  simpa [Value.cells] using h
/-- An argument that is shared, as what is read: it stands in blocks that are there. -/
theorem V_of_C {α : Type} {d : Kd α} {e : Nat} {W : World} {A : Option Addr} {c : Nat} {l : List α} (h : Kd.C d W A l.length l) (hc : l.length ≤ c)
    (hd : Kd.Heap d := by first | exact k32_heap | exact k27_heap | exact k53_heap | exact k87_heap | exact Go.Proofs.YtioooiflpabngaaW.PrintWords.Kd.heap_int _) : Kd.V d e W W.heap.size (fun k => k < W.heap.size) (.slice A l.length c) l :=
  ⟨A, c, rfl, hc, Kd.C_F hd h⟩
end Go.Proofs.Ytioooiflpabngaa.PAll

namespace Go.Proofs.Ytioooiflpabngaa.PAll
open Go.RowKit Go.Proofs.YtioooiflpabngaaW.PrintWords
set_option linter.unusedVariables false
set_option linter.unusedSimpArgs false

theorem foundE_false {l : List S32} {b : S27} : (foundE l b).2 = false ↔ ∀ x ∈ l, x.f0 ≠ b := by
  induction l with
  | nil => simp [foundE, findE]
  | cons a l ih =>
    rw [foundE_cons]
    by_cases h : eqL a.f0 b = true
    · rw [if_pos h]
      simp only [Bool.true_eq_false, false_iff]
      intro hx
      exact hx a (List.mem_cons_self ..) (eqL_iff.1 h)
    · rw [if_neg h, ih]
      refine ⟨fun hx x hm => ?_, fun hx x hm => hx x (List.mem_cons_of_mem _ hm)⟩
      rcases List.mem_cons.1 hm with rfl | hm
      · exact fun e => h (eqL_iff.2 e)
      · exact hx x hm
theorem foundE_mem {l : List S32} {b : S27} {m : List Int} (h : foundE l b = (m, true)) : ∃ x ∈ l, x.f0 = b ∧ x.f1 = m := by
  induction l with
  | nil => simp [foundE, findE] at h
  | cons a l ih =>
    rw [foundE_cons] at h
    by_cases hc : eqL a.f0 b = true
    · rw [if_pos hc] at h
      exact ⟨a, List.mem_cons_self .., eqL_iff.1 hc, congrArg Prod.fst h⟩
    · rw [if_neg hc] at h
      obtain ⟨x, hx, h1, h2⟩ := ih h
      exact ⟨x, List.mem_cons_of_mem _ hx, h1, h2⟩
theorem mem_aheadE {x y : S32} {l : List S32} : y ∈ aheadE x l ↔ y = x ∨ y ∈ l := by
  induction l with
  | nil => simp [aheadE]
  | cons a l ih =>
    unfold aheadE
    split
    · simp
    · simp only [List.mem_cons, ih]
      constructor
      · rintro (h | h | h)
        · exact .inr (.inl h)
        · exact .inl h
        · exact .inr (.inr h)
      · rintro (h | h | h)
        · exact .inr (.inl h)
        · exact .inl h
        · exact .inr (.inr h)
theorem aheadE_rise {x : S32} {l : List S32} (h : Rise l) (hx : ∀ y ∈ l, y.f0 ≠ x.f0) : Rise (aheadE x l) := by
  induction l with
  | nil => exact List.pairwise_singleton _ _
  | cons a l ih =>
    obtain ⟨h1, h2⟩ := List.pairwise_cons.1 h
    unfold aheadE
    split
    · rename_i hc
      rw [cmpL_neg] at hc
      refine List.pairwise_cons.2 ⟨fun y hy => ?_, h⟩
      rcases List.mem_cons.1 hy with rfl | hy
      · exact hc
      · exact ltL_trans hc (h1 y hy)
    · rename_i hc
      rw [cmpL_neg] at hc
      refine List.pairwise_cons.2 ⟨fun y hy => ?_, ih h2 fun y hy => hx y (List.mem_cons_of_mem _ hy)⟩
      rcases mem_aheadE.1 hy with rfl | hy
      · rcases ltL_total a.f0 y.f0 with h | h | h
        · exact h
        · exact absurd h (hx a (List.mem_cons_self ..))
        · exact absurd h hc
      · exact h1 y hy
theorem putR_rise {x : S32} {l : List S32} (h : Rise l) : Rise (putR l x) := by
  unfold putR
  split
  · exact h
  · rename_i hc
    exact aheadE_rise h (foundE_false.1 (by simpa using hc))
theorem mem_putR {x y : S32} {l : List S32} (h : y ∈ putR l x) : y = x ∨ y ∈ l := by
  unfold putR at h
  split at h
  · exact .inr h
  · exact mem_aheadE.1 h
theorem mergeR_rise : ∀ {more l : List S32}, Rise l → Rise (mergeR l more)
  | [], l, h => h
  | x :: more, l, h => mergeR_rise (more := more) (putR_rise h)
theorem mergeR_length : ∀ (more l : List S32), (mergeR l more).length ≤ l.length + more.length
  | [], l => by simp [mergeR]
  | x :: more, l => by
    have h1 := mergeR_length more (putR l x)
    have h2 := putR_length l x
    show (mergeR (putR l x) more).length ≤ _
    simp only [List.length_cons]
    omega
theorem mem_mergeR : ∀ {more l : List S32} {y : S32}, y ∈ mergeR l more → y ∈ l ∨ y ∈ more
  | [], l, y, h => .inl h
  | x :: more, l, y, h => by
    rcases mem_mergeR (more := more) (l := putR l x) h with h | h
    · rcases mem_putR h with rfl | h
      · exact .inr (List.mem_cons_self ..)
      · exact .inl h
    · exact .inr (List.mem_cons_of_mem _ h)
theorem rise_nil : Rise [] := List.Pairwise.nil
theorem rightB_len {b : List Int} (h : rightB b) : b.length < 140737488355328 := by
  have h1 := h.1
  have h2 := reachBytes_lt
  have e : (2 : Nat) ^ 47 = 140737488355328 := by decide
  rw [e] at h2
  omega
theorem rightEs_len {l : List S32} (h : rightEs l) : l.length < 2513169434917 := by
  have h1 := h.1
  have h2 := reachBytes_lt
  have e : (2 : Nat) ^ 47 = 140737488355328 := by decide
  rw [e] at h2
  omega
theorem rightLs_len {l : List S27} (h : rightLs l) : l.length < 4398046511104 := by
  have h1 := h.1
  have h2 := reachBytes_lt
  have e : (2 : Nat) ^ 47 = 140737488355328 := by decide
  rw [e] at h2
  omega
end Go.Proofs.Ytioooiflpabngaa.PAll

namespace Go.Proofs.Ytioooiflpabngaa.PAll
open Go.RowKit Go.Proofs.YtioooiflpabngaaW.PrintWords Go.Proofs.YtioooiflpabngaaW.PrintLast Go.Proofs.YtioooiflpabngaaW.PrintMore
set_option linter.unusedVariables false
set_option linter.unusedSimpArgs false

theorem run_copy_rowS {P : Program} (w : World) (dT sT ty elem : TypeId) (sz g o dLen dCap : Nat) (a : Addr) (sLen sCap : Nat) (cur : Array Value) (t : TypeId) (cs : List Value)
    (hu : P.underlying dT = some (.slice elem)) (hs : (P.info? elem).map (·.size) = some sz)
    (hg : w.heap[g]? = some (.cells cur t (0, 0))) (hn : cs.length = Nat.min sLen dLen * sz)
    (hsrc : ∀ j v, cs[j]? = some v → w.cell? (a.add j) = some v) (hfit : o + cs.length ≤ cur.size) (h1 : ∀ v ∈ cs, v.oneCell' = true) :
    (Builtin.copy_ #[dT, sT] ty #[.slice (some ⟨g, o, none⟩) dLen dCap, .slice (some a) sLen sCap]).run P w =
      .ok (goInt (Nat.min sLen dLen)) (w.setRow g (cur.toList.take o ++ cs ++ cur.toList.drop (o + cs.length)).toArray) := by
  have hl := run_loadCells_list (P := P) w a cs hsrc
  have hst := run_storeCells_at P g o t cs 0 cur w hg (by simpa using hfit) h1
  cases hq : P.info? elem with
  | none => simp [hq] at hs
  | some i =>
    have hi : i.size = sz := by simpa [hq] using hs
    rw [hn] at hl
    simp [Builtin.copy_, run_underlying hu, Builtin.lenOf, Builtin.firstCells, sizeOf, typeInfo, hq, hi, hl, hst]

/-- 'copy' into a row that is known whole, as a step of the walk: the row behind it, and all other memory as it was. -/
theorem wpList_copyS {P : Program} {w : World} {ops : Array Oper} {rest : List Oper} {o : Oper} {a : Act} {Q : Exit → Act → World → Prop} (hgd : o.guard = none) (d s : Operand) (dT sT : TypeId)
    (ho : o.op = .call { callee := .builtin .copy, args := #[d, s], argTypes := #[dT, sT] }) (elem : TypeId) (sz : Nat) (hu : P.underlying dT = some (.slice elem)) (hsz : (P.info? elem).map (·.size) = some sz)
    (g off dLen dCap : Nat) (ad : Addr) (sLen sCap : Nat) (hd : a.eval d = .slice (some ⟨g, off, none⟩) dLen dCap) (hs : a.eval s = .slice (some ad) sLen sCap)
    (cur : Array Value) (t : TypeId) (cs : List Value) (hg : w.heap[g]? = some (.cells cur t (0, 0))) (hn : cs.length = Nat.min sLen dLen * sz)
    (hsrc : ∀ j v, cs[j]? = some v → w.cell? (ad.add j) = some v) (hfit : off + cs.length ≤ cur.size) (h1 : ∀ v ∈ cs, v.oneCell' = true)
    (h : ∀ w', Aside0 (w'.heap[g]? = some (.cells (splice cur.toList off cs).toArray t (0, 0))) → Aside0 (w.grownBy w' (some g)) → wpList P ops Q rest (a.put o.dst (goInt (Nat.min sLen dLen))) w') : wpList P ops Q (o :: rest) a w := by
  refine wpList_plain hgd fun K hK => ?_
  have hrun := run_copy_rowS (P := P) w dT sT o.type elem sz g off dLen dCap ad sLen sCap cur t cs hu hsz hg hn hsrc hfit h1
  unfold Oper.wp
  simp [execOp, ho, resolve, invoke, builtin, hd, hs, hrun, Result.andThen]
  refine hK _ _ (h _ ⟨?_⟩ ⟨?_⟩)
  · rw [setRow_heap w g cur _ t _ hg, splice]
  · exact ⟨rfl, rfl, rfl, by simp [World.setRow], fun k hk hne => setRow_other w g k _ (fun e => hne (by rw [e]))⟩
theorem step_copyS {P : Program} {w : World} {ops : Array Oper} {o : Oper} {a : Act} {K : Act → World → Prop} {Q : Exit → Act → World → Prop} {E : Prop} (hgd : o.guard = none) (d s : Operand) (dT sT : TypeId)
    (ho : o.op = .call { callee := .builtin .copy, args := #[d, s], argTypes := #[dT, sT] }) (elem : TypeId) (sz : Nat) (hu : P.underlying dT = some (.slice elem)) (hsz : (P.info? elem).map (·.size) = some sz)
    (g off dLen dCap : Nat) (ad : Addr) (sLen sCap : Nat) (hd : a.eval d = .slice (some ⟨g, off, none⟩) dLen dCap) (hs : a.eval s = .slice (some ad) sLen sCap)
    (cur : Array Value) (t : TypeId) (cs : List Value) (hg : w.heap[g]? = some (.cells cur t (0, 0))) (hn : cs.length = Nat.min sLen dLen * sz)
    (hsrc : ∀ j v, cs[j]? = some v → w.cell? (ad.add j) = some v) (hfit : off + cs.length ≤ cur.size) (h1 : ∀ v ∈ cs, v.oneCell' = true)
    (h : ∀ w', Aside0 (w'.heap[g]? = some (.cells (splice cur.toList off cs).toArray t (0, 0))) → Aside0 (w.grownBy w' (some g)) → K (a.put o.dst (goInt (Nat.min sLen dLen))) w') :
    if Region.wanted o (yielded ops a.tmps) = true then Oper.wp P o a w K Q else E := by
  have hw : Region.wanted o (yielded ops a.tmps) = true := by simp [Region.wanted, hgd]
  rw [if_pos hw]
  have hrun := run_copy_rowS (P := P) w dT sT o.type elem sz g off dLen dCap ad sLen sCap cur t cs hu hsz hg hn hsrc hfit h1
  unfold Oper.wp
  simp [execOp, ho, resolve, invoke, builtin, hd, hs, hrun, Result.andThen]
  refine h _ ⟨?_⟩ ⟨?_⟩
  · rw [setRow_heap w g cur _ t _ hg, splice]
  · exact ⟨rfl, rfl, rfl, by simp [World.setRow], fun k hk hne => setRow_other w g k _ (fun e => hne (by rw [e]))⟩
theorem row_cells {w : World} {g : Nat} {cur : Array Value} {t : TypeId} (hh : w.heap[g]? = some (.cells cur t (0, 0))) {m o j : Nat} {v : Value} (h : ((cur.toList.take m).drop o)[j]? = some v) : w.cell? ((⟨g, o, none⟩ : Addr).add j) = some v := by
  rw [Addr.add_lit]
  rw [List.getElem?_drop, List.getElem?_take] at h
  split at h
  · simp only [World.cell?, hh]
    simpa using h
  · cases h
theorem vec_cells {w : World} {g : Nat} {vs : List Value} {t : TypeId} (hh : w.heap[g]? = some (.cells vs.toArray t (0, 0))) {j : Nat} {v : Value} (h : vs[j]? = some v) : w.cell? ((⟨g, 0, none⟩ : Addr).add j) = some v := by
  rw [Addr.add_lit, Nat.zero_add]
  simp only [World.cell?, hh]
  simpa using h
theorem splice_two (cur vs : List Value) (i n : Nat) (hi : i < n) (hl : (n + 1) * 5 ≤ cur.length) (hv : vs.length = 5) :
    (splice (splice cur ((i + 1) * 5) ((cur.take (n * 5)).drop (i * 5))) (i * 5) vs).take ((n + 1) * 5) = (cur.take (n * 5)).take (i * 5) ++ vs ++ (cur.take (n * 5)).drop (i * 5) := by
  have hcs : ((cur.take (n * 5)).drop (i * 5)).length = (n - i) * 5 := by simp; omega
  generalize hC : (cur.take (n * 5)).drop (i * 5) = C at hcs ⊢
  unfold splice
  have e1 : (List.take ((i + 1) * 5) cur ++ (C ++ List.drop ((i + 1) * 5 + C.length) cur)).take (i * 5) = cur.take (i * 5) := by
    rw [List.take_append_of_le_length (by simp; omega), List.take_take, Nat.min_eq_left (by omega)]
  have e2 : (List.take ((i + 1) * 5) cur ++ (C ++ List.drop ((i + 1) * 5 + C.length) cur)).drop (i * 5 + vs.length) = C ++ List.drop ((i + 1) * 5 + C.length) cur := by
    rw [hv, show i * 5 + 5 = (List.take ((i + 1) * 5) cur).length by simp; omega, List.drop_left]
  rw [e1, e2, List.take_take, Nat.min_eq_left (by omega)]
  rw [show (n + 1) * 5 = (cur.take (i * 5) ++ (vs ++ C)).length by simp [hv, hcs]; omega]
  rw [show cur.take (i * 5) ++ (vs ++ (C ++ List.drop ((i + 1) * 5 + C.length) cur)) = (cur.take (i * 5) ++ (vs ++ C)) ++ List.drop ((i + 1) * 5 + C.length) cur by simp, List.take_left]
  simp
theorem splice_new (ROW vs C X : List Value) (i n : Nat) (hi : i < n) (hR : (n + 1) * 5 ≤ ROW.length) (hv : vs.length = 5) (hC : C.length = (n - i) * 5) (hT : ROW.take (i * 5) = X) : (splice (splice ROW (i * 5) vs) ((i + 1) * 5) C).take ((n + 1) * 5) = X ++ vs ++ C := by
  subst hT
  unfold splice
  have e1 : (ROW.take (i * 5) ++ (vs ++ ROW.drop (i * 5 + vs.length))).take ((i + 1) * 5) = ROW.take (i * 5) ++ vs := by
    rw [← List.append_assoc, List.take_left']
    simp [hv]; omega
  rw [e1, ← List.append_assoc, List.take_left']
  simp [hv, hC]; omega
def zeroE : Value := .agg #[(.int .u64 0), (.int .i64 0), (.int .u64 0), (.int .i64 0), (.slice none 0 0)]
theorem infoE : ∃ i0 : TypeInfo, Try.prog.info? 32 = some i0 ∧ i0.zero = some zeroE ∧ i0.size = 5 ∧ i0.bytes = 56 := by
  obtain ⟨i0, hi, h⟩ := Option.map_eq_some_iff.1 info32
  injection h with h1 h2
  injection h2 with h2 h3
  exact ⟨i0, hi, h1, h2, h3⟩
theorem sizeE : (Try.prog.info? 32).map (·.size) = some 5 := by
  obtain ⟨i0, h, _, h2, _⟩ := infoE
  rw [h]; simp [h2]
set_option maxHeartbeats 8000000 in
set_option maxRecDepth 100000 in
theorem insert_end (v : Value) (n vb : Nat) (xs vs : List Value) (base : Nat) (w : World) (hown : w.ownsRow base 32 5 v n xs) (hbase : base ≤ w.heap.size) (hv : ∀ j u, vs[j]? = some u → w.cell? ⟨vb, j, none⟩ = some u) (hvl : vs.length = 5)
    (h1 : ∀ u ∈ vs, u.oneCell' = true) (hn : n + 1 < 2513169434916) :
    Calls Try.prog 74 #[v, .int .i64 n, .slice (some ⟨vb, 0, none⟩) 1 1] w fun e w' => ∃ v', e = .returned v' ∧ w'.ownsRow base 32 5 v' (n + 1) (xs ++ vs) ∧ Below base w w' ∧ ∀ k, k < w.heap.size → some k ≠ v.ownBlock → w'.heap[k]? = w.heap[k]? := by
  have HN := Aside0.mk hn
  clear hn
  have HV := Aside0.mk hv
  clear hv
  have H1 := Aside0.mk h1
  clear h1
  have HB := Aside0.mk hbase
  clear hbase
  obtain ⟨i0, hI⟩ := infoE
  have HI := Aside0.mk hI
  clear hI
  rcases hown.2 with ⟨rfl, rfl⟩ | ⟨g, cap, cur, rfl, hg, hh, hnc, hcm, hcs, htk⟩
  · have HO := Aside0.mk hown
    clear hown
    go_enter Try.func74, Try.ntmps74
    go_wp2_with (at_builtin; refine wpList_append_own _ rfl _ _ 22 rfl base 32 i0 zeroE 5 56 Try.underlying22 HI.out.1 HI.out.2.1 HI.out.2.2.1 HI.out.2.2.2 rfl (by decide) _ _ _ rfl HO.out ⟨vb, 0, none⟩ 1 1 vs rfl hvl ?qc2 H1.out ?qc4 ?qc5 HB.out ?_; (case qc2 => exact fun j u hj => by rw [Addr.add_lit, Nat.zero_add]; exact HV.out j u hj); (case qc4 => have := HN.out; simp [maxLen]); (case qc5 => have := HN.out; omega); intro v' w1 hown hgrow hnil; have HOW := Aside0.mk hown; have HGR := Aside0.mk hgrow; clear hown hgrow hnil)
    all_goals (go_ret; exact ⟨_, rfl, by simpa using HOW.out, (Below.refl _ w).grown HGR.out HB.out (by intro k hk; cases hk), HGR.out.block⟩)
  · have HO := Aside0.mk hown
    clear hown hh hcs htk
    have hcl : 0 ≤ (n : Int) := by omega
    have hncI : (n : Int) ≤ (cap : Int) := by omega
    go_enter Try.func74, Try.ntmps74
    go_wp2_with (at_builtin; refine wpList_append_own _ rfl _ _ 22 rfl base 32 i0 zeroE 5 56 Try.underlying22 HI.out.1 HI.out.2.1 HI.out.2.2.1 HI.out.2.2.2 rfl (by decide) _ _ _ rfl HO.out ⟨vb, 0, none⟩ 1 1 vs rfl hvl ?qc2 H1.out ?qc4 ?qc5 HB.out ?_; (case qc2 => exact fun j u hj => by rw [Addr.add_lit, Nat.zero_add]; exact HV.out j u hj); (case qc4 => have := HN.out; simp [maxLen]; omega); (case qc5 => have := HN.out; omega); intro v' w1 hown hgrow hnil; have HOW := Aside0.mk hown; have HGR := Aside0.mk hgrow; clear hown hgrow hnil)
    all_goals (go_ret; exact ⟨_, rfl, by simpa using HOW.out, (Below.refl _ w).grown HGR.out HB.out (by intro k hk; have hk2 : some g = some k := hk; injection hk2 with hk2; omega), HGR.out.block⟩)

set_option maxHeartbeats 1000000 in
set_option maxRecDepth 100000 in
theorem insert_shift (n i cap g vb : Nat) (cur : Array Value) (vs : List Value) (w : World) (hi : i < n) (hroom : n + 1 ≤ cap) (hcm : cap ≤ maxLen) (hh : w.heap[g]? = some (.cells cur 32 (0, 0))) (hcs : cur.size = cap * 5)
    (hv : w.heap[vb]? = some (.cells vs.toArray 32 (0, 0))) (hne : vb ≠ g) (hvl : vs.length = 5) (h1 : ∀ u ∈ vs, u.oneCell' = true) (h1c : ∀ u ∈ cur.toList.take (n * 5), u.oneCell' = true) (hn : n + 1 < 2513169434916) :
    Calls Try.prog 74 #[.slice (some ⟨g, 0, none⟩) n cap, .int .i64 i, .slice (some ⟨vb, 0, none⟩) 1 1] w fun e w' => e = .returned (.slice (some ⟨g, 0, none⟩) (n + 1) cap) ∧
      ∃ cur' : Array Value, w'.heap[g]? = some (.cells cur' 32 (0, 0)) ∧ cur'.size = cur.size ∧ cur'.toList.take ((n + 1) * 5) = (cur.toList.take (n * 5)).take (i * 5) ++ vs ++ (cur.toList.take (n * 5)).drop (i * 5) ∧ w.grownBy w' (some g) := by
  have hov : ∀ (W : World) lb cb, W.heap = w.heap → (callFunc 111 #[.slice (some ⟨vb, 0, none⟩) 1 1, .slice (some ⟨g, (i + 1) * 5, none⟩) lb cb]).run Try.prog W = .ok (.value (.bool false)) W := by
    intro W lb cb hW
    rw [run_callFunc_extern Try.func111 (by kernel_rfl) (by kernel_rfl) (by kernel_rfl) (e := Extern.SlicesOverlaps.overlaps #[22, 22] #[4]) (by kernel_rfl),
      Lib.run_overlaps_apart W 22 4 32 Try.underlying22 5 Try.sizeOf32 ⟨vb, 0, none⟩ ⟨g, (i + 1) * 5, none⟩ 1 1 lb cb hne 32 32 vs.length cur.size (by simp [World.shape?, hW, hv]) (by simp [World.shape?, hW, hh]) (by rw [hcs]; omega) (by simp [World.frozen?, hW, hv]) (by simp [World.frozen?, hW, hv])]
    rfl
  have mixed : Try.prog.follows Departure.mixedOrders = true := by kernel_rfl
  have hovI := fun lb cb => hov w lb cb rfl
  have hw1 : IntKind.i64.wrap ((i : Int) + 1) = (i : Int) + 1 := by rw [IntKind.wrap_i64]; omega
  have hw2 : IntKind.i64.wrap ((n : Int) + 1) = (n : Int) + 1 := by rw [IntKind.wrap_i64]; omega
  have hb1 : (0 : Int) ≤ (i : Int) + 1 := by omega
  have htn : ((i : Int) + 1).toNat = i + 1 := by omega
  have htn2 : ((n : Int) + 1).toNat = n + 1 := by omega
  have hb0 : (0 : Int) ≤ (n : Int) + 1 := by omega
  have hb2 : ¬ (cap = i + 1) := by omega
  have hb3 : (i : Int) ≤ (n : Int) + 1 := by omega
  have hb4 : ¬ (cap = i) := by omega
  have hb5 : ¬ ((i : Int) = (n : Int)) := by omega
  have hb6 : ¬ ((cap : Int) < (n : Int) + 1) := by omega
  have hb7 : (n : Int) + 1 ≤ (cap : Int) := by omega
  have hb8 : (i : Int) ≤ (n : Int) := by omega
  have hb9 : (i : Int) + 1 ≤ (n : Int) + 1 := by omega
  have hb10 : i ≤ n := by omega
  have HH := Aside0.mk hh
  have HV := Aside0.mk hv
  have H1 := Aside0.mk h1
  have H1C := Aside0.mk h1c
  have HI := Aside0.mk hi
  have HR := Aside0.mk hroom
  have HCS := Aside0.mk hcs
  clear hh hv h1 h1c hcs hov
  go_enter Try.func74, Try.ntmps74
  go_wp2_with (simp only [hovI])
  have hcl : ((cur.toList.take (n * 5)).drop (i * 5)).length = (n - i) * 5 := by rw [List.length_drop, List.length_take, Array.length_toList, HCS.out]; omega
  have HCL := Aside0.mk hcl
  clear hcl
  go_region_law_o (refine step_copyS rfl _ _ 22 22 rfl 32 5 Try.underlying22 sizeE g ((i + 1) * 5) (n + 1 - (i + 1)) (cap - (i + 1)) ⟨g, i * 5, none⟩ (n + 1 - i) (cap - i) (by simp [Act.eval, Act.put]) (by simp [Act.eval, Act.put]) cur 32 ((cur.toList.take (n * 5)).drop (i * 5)) HH.out ?hn ?hsrc ?hfit ?h1 ?_; (case hn => rw [HCL.out, show n + 1 - (i + 1) = n - i by omega, show Nat.min (n + 1 - i) (n - i) = n - i from Nat.min_eq_right (by omega)]); (case hsrc => exact fun j v hj => row_cells (w := w.drew) HH.out hj); (case hfit => rw [HCL.out, HCS.out]; omega); (case h1 => exact fun v hv => H1C.out v (List.mem_of_mem_drop hv)); intro w1 HG1 HB1)
  have hL1 : (splice cur.toList ((i + 1) * 5) ((cur.toList.take (n * 5)).drop (i * 5))).length = cap * 5 := by rw [length_splice _ _ _ (by rw [HCL.out, Array.length_toList, HCS.out]; omega), Array.length_toList, HCS.out]
  have HL1 := Aside0.mk hL1
  clear hL1
  obtain ⟨w2, hcp2, HG2, HB2⟩ : ∃ w2, (Builtin.copy_ #[22, 22] 3 #[.slice (some ⟨g, i * 5, none⟩) (n + 1 - i) (cap - i), .slice (some ⟨vb, 0, none⟩) 1 1]).run Try.prog w1 = .ok (goInt 1) w2 ∧
      Aside0 (w2.heap[g]? = some (.cells (splice (splice cur.toList ((i + 1) * 5) ((cur.toList.take (n * 5)).drop (i * 5))) (i * 5) vs).toArray 32 (0, 0))) ∧ Aside0 (w1.grownBy w2 (some g)) := by
    have hr := run_copy_rowS (P := Try.prog) w1 22 22 3 32 5 g (i * 5) (n + 1 - i) (cap - i) ⟨vb, 0, none⟩ 1 1 _ 32 vs Try.underlying22 sizeE HG1.out (by rw [hvl, show Nat.min 1 (n + 1 - i) = 1 from Nat.min_eq_left (by omega)])
      (fun j v hj => vec_cells ((HB1.out.block vb (by have := blk_lt HV.out; exact this) (fun e => hne (Option.some.inj e))).trans HV.out) hj) (by rw [List.size_toArray, HL1.out, hvl]; omega) H1.out
    rw [show Nat.min 1 (n + 1 - i) = 1 from Nat.min_eq_left (by omega)] at hr
    refine ⟨_, hr, ⟨?_⟩, ⟨rfl, rfl, rfl, by simp [World.setRow], fun k hk hne => setRow_other w1 g k _ (fun e => hne (by rw [e]))⟩⟩
    rw [setRow_heap w1 g _ _ 32 _ HG1.out]
    simp [splice]
  go_wp2
  go_ret
  refine ⟨rfl, _, HG2.out, ?_, ?_, ?_⟩
  · rw [List.size_toArray, length_splice _ _ _ (by rw [HL1.out, hvl]; omega), HL1.out, HCS.out]
  · exact splice_two _ _ _ _ HI.out (by rw [Array.length_toList, HCS.out]; have := HR.out; omega) hvl
  · exact ⟨HB2.out.os.trans HB1.out.os, HB2.out.tape.trans HB1.out.tape, HB2.out.output.trans HB1.out.output, Nat.le_trans HB1.out.size HB2.out.size, fun k hk hn => (HB2.out.block k (Nat.lt_of_lt_of_le hk HB1.out.size) hn).trans (HB1.out.block k hk hn)⟩

set_option maxHeartbeats 1000000 in
set_option maxRecDepth 100000 in
theorem insert_grow (n i cap g vb : Nat) (cur : Array Value) (vs : List Value) (w : World) (hi : i < n) (hroom : ¬ n + 1 ≤ cap) (hnc : n ≤ cap) (hh : w.heap[g]? = some (.cells cur 32 (0, 0))) (hcs : cur.size = cap * 5)
    (hv : w.heap[vb]? = some (.cells vs.toArray 32 (0, 0))) (hvl : vs.length = 5) (h1 : ∀ u ∈ vs, u.oneCell' = true) (h1c : ∀ u ∈ cur.toList.take (n * 5), u.oneCell' = true) (hn : n + 1 < 2513169434916) :
    Calls Try.prog 74 #[.slice (some ⟨g, 0, none⟩) n cap, .int .i64 i, .slice (some ⟨vb, 0, none⟩) 1 1] w fun e w' => ∃ v', e = .returned v' ∧
      w'.ownsRow w.heap.size 32 5 v' (n + 1) ((cur.toList.take (n * 5)).take (i * 5) ++ vs ++ (cur.toList.take (n * 5)).drop (i * 5)) ∧ Below w.heap.size w w' := by
  obtain rfl : cap = n := by omega
  have mixed : Try.prog.follows Departure.mixedOrders = true := by kernel_rfl
  obtain ⟨i0, hi0, hz0, hs0, hb0⟩ := infoE
  have hrz : ∃ G ROW, cap + 1 ≤ G ∧ G ≤ maxLen ∧ ROW.size = G * 5 ∧ (ROW.toList.take (i * 5) = cur.toList.take (i * 5)) ∧ ∀ ty, (Builtin.append_ #[22, 3] ty #[.slice (some ⟨g, 0, none⟩) i cap, .int .i64 ((cap : Int) + 1 - (i : Int))]).run Try.prog w =
      .ok (.slice (some ⟨w.heap.size, 0, none⟩) (cap + 1) G) (w.drew.alloc (.cells ROW 32)) := by
    have hik : i + (cap + 1 - i) = cap + 1 := by omega
    have hkk : (cap : Int) + 1 - (i : Int) = ((cap + 1 - i : Nat) : Int) := by omega
    have holdl : (cur.toList.take (i * 5)).length = i * 5 := by rw [List.length_take, Array.length_toList, hcs]; omega
    have hold : (Builtin.firstCells i0.size i (.slice (some ⟨g, 0, none⟩) i cap)).run Try.prog w.drew = .ok (cur.toList.take (i * 5)).toArray w.drew := by
      rw [hs0]
      exact run_firstCells_some w.drew 5 i ⟨g, 0, none⟩ i cap (cur.toList.take (i * 5)) holdl (fun j v hj => row_cells (w := w.drew) (m := i * 5) (o := 0) hh (by simpa using hj))
    have hG1 : cap + 1 ≤ grownCap w (cap + 1) cap 32 := grownCap_ge w _ _ _
    have hG2 : grownCap w (cap + 1) cap 32 ≤ maxLen := grownCap_le_maxLen w _ _ _ (by unfold maxLen; omega)
    refine ⟨grownCap w (cap + 1) cap 32, (cur.toList.take (i * 5)).toArray ++ Builtin.zeroCells zeroE.cells (cap + 1 - i) ++ Builtin.zeroCells zeroE.cells (grownCap w (cap + 1) cap 32 - (cap + 1)), hG1, hG2, ?_, ?_, fun ty => ?_⟩
    · simp only [Array.size_append, List.size_toArray, holdl]
      simp [Builtin.zeroCells, zeroE, Value.cells]
      omega
    · rw [Array.toList_append, Array.toList_append, List.append_assoc]
      exact List.take_left' (by simpa using holdl)
    · have h := Lib.run_append_grow_zeros (P := Try.prog) w 22 3 ty 32 i0 zeroE .i64 .i64 Try.underlying22 Try.underlying3 hi0 hz0 (some ⟨g, 0, none⟩) i cap (cur.toList.take (i * 5)) hold (cap + 1 - i) (by omega) (by omega) (by omega) (by omega) (by rw [hb0]; omega) (by rw [hb0, hik]; exact growslice_fits (by omega) (by omega))
      rw [hik] at h
      rw [hkk]
      exact h
  obtain ⟨G, ROW, hG1, hG2, hRs, hRt, hrz⟩ := hrz
  have hgN : g < w.heap.size := blk_lt hh
  have hvN : vb < w.heap.size := blk_lt hv
  obtain ⟨W1, HW1, HWN, HWB⟩ : ∃ W1, W1 = w.drew.alloc (.cells ROW 32) ∧ Aside0 (W1.heap[w.heap.size]? = some (.cells ROW 32 (0, 0))) ∧ Aside0 (Below w.heap.size w W1) := ⟨_, rfl, ⟨blk_new w.drew _⟩, ⟨(Below.refl _ w).drew.alloc (Nat.le_refl _) _⟩⟩
  rw [← HW1] at hrz
  clear HW1
  obtain ⟨N, hN⟩ : ∃ N, N = w.heap.size := ⟨_, rfl⟩
  rw [← hN] at hrz HWN HWB hgN hvN ⊢
  obtain ⟨W2, hcpA, HA2, HB2⟩ : ∃ W2, (Builtin.copy_ #[22, 22] 3 #[.slice (some ⟨N, i * 5, none⟩) (cap + 1 - i) (G - i), .slice (some ⟨vb, 0, none⟩) 1 1]).run Try.prog W1 = .ok (goInt 1) W2 ∧
      Aside0 (W2.heap[N]? = some (.cells (splice ROW.toList (i * 5) vs).toArray 32 (0, 0))) ∧ Aside0 (W1.grownBy W2 (some N)) := by
    have hr := run_copy_rowS (P := Try.prog) W1 22 22 3 32 5 N (i * 5) (cap + 1 - i) (G - i) ⟨vb, 0, none⟩ 1 1 _ 32 vs Try.underlying22 sizeE HWN.out (by rw [hvl, show Nat.min 1 (cap + 1 - i) = 1 from Nat.min_eq_left (by omega)])
      (fun j v hj => vec_cells ((HWB.out.block vb hvN).trans hv) hj) (by rw [hRs, hvl]; omega) h1
    rw [show Nat.min 1 (cap + 1 - i) = 1 from Nat.min_eq_left (by omega)] at hr
    refine ⟨_, hr, ⟨?_⟩, ⟨rfl, rfl, rfl, by simp [World.setRow], fun k hk hne => setRow_other W1 N k _ (fun e => hne (by rw [e]))⟩⟩
    rw [setRow_heap W1 N _ _ 32 _ HWN.out]
    simp [splice]
  have hL1 : (splice ROW.toList (i * 5) vs).length = G * 5 := by rw [length_splice _ _ _ (by rw [hvl, Array.length_toList, hRs]; omega), Array.length_toList, hRs]
  have hcl : ((cur.toList.take (cap * 5)).drop (i * 5)).length = (cap - i) * 5 := by rw [List.length_drop, List.length_take, Array.length_toList, hcs]; omega
  have HCL := Aside0.mk hcl
  have HL1 := Aside0.mk hL1
  have HH := Aside0.mk hh
  have HV := Aside0.mk hv
  have H1 := Aside0.mk h1
  have H1C := Aside0.mk h1c
  have HCS := Aside0.mk hcs
  have HRS := Aside0.mk hRs
  have HRT := Aside0.mk hRt
  have HNN := Aside0.mk hN
  have HG2 := Aside0.mk hG2
  clear hcl hL1 hh hv h1 h1c hcs hRs hRt hN hi0 hz0 hs0 hb0 hG2
  have hw1 : IntKind.i64.wrap ((i : Int) + 1) = (i : Int) + 1 := by rw [IntKind.wrap_i64]; omega
  have hw2 : IntKind.i64.wrap ((cap : Int) + 1) = (cap : Int) + 1 := by rw [IntKind.wrap_i64]; omega
  have hw3 : IntKind.i64.wrap ((cap : Int) + 1 - (i : Int)) = (cap : Int) + 1 - (i : Int) := by rw [IntKind.wrap_i64]; omega
  have hb1 : (0 : Int) ≤ (i : Int) + 1 := by omega
  have htn : ((i : Int) + 1).toNat = i + 1 := by omega
  have hb2 : ¬ (G = i + 1) := by omega
  have hb4 : ¬ (G = i) := by omega
  have hb5 : ¬ ((i : Int) = (cap : Int)) := by omega
  have hb6 : ((cap : Int) < (cap : Int) + 1) := by omega
  have hb8 : (i : Int) ≤ (cap : Int) := by omega
  have hb9 : (i : Int) + 1 ≤ (cap : Int) + 1 := by omega
  have hb10 : i ≤ cap := by omega
  have hb11 : ¬ (cap = i) := by omega
  have hb12 : (i : Int) ≤ (cap : Int) + 1 := by omega
  go_enter Try.func74, Try.ntmps74
  go_wp2_with (at_builtin; refine Lib.wpList_append_run _ rfl _ _ _ _ rfl _ _ rfl rfl _ _ (hrz _) ?_)
  go_region_law_o (refine step_copyS rfl _ _ 22 22 rfl 32 5 Try.underlying22 sizeE N ((i + 1) * 5) (cap + 1 - (i + 1)) (G - (i + 1)) ⟨g, i * 5, none⟩ (cap - i) (cap - i) (by simp [Act.eval, Act.put]) (by simp [Act.eval, Act.put]) (splice ROW.toList (i * 5) vs).toArray 32 ((cur.toList.take (cap * 5)).drop (i * 5)) HA2.out ?hn ?hsrc ?hfit ?h1 ?_; (case hn => rw [HCL.out, show cap + 1 - (i + 1) = cap - i by omega, show Nat.min (cap - i) (cap - i) = cap - i from Nat.min_self _]); (case hsrc => exact fun j v hj => row_cells (w := W2.drew) (((HB2.out.block g (Nat.lt_of_lt_of_le hgN (by rw [HNN.out]; exact HWB.out.size)) (fun e => by have := Option.some.inj e; omega)).trans (HWB.out.block g hgN)).trans HH.out) hj); (case hfit => rw [HCL.out, List.size_toArray, HL1.out]; omega); (case h1 => exact fun v hv => H1C.out v (List.mem_of_mem_drop hv)); intro w3 HG3 HB3)
  go_wp2
  go_ret
  have hB1 : Below N w W2 := HWB.out.grown HB2.out (by have := HWB.out.size; rw [← HNN.out] at this; exact this) (fun k hk => by injection hk with hk; omega)
  refine ⟨_, rfl, ⟨?_, .inr ⟨N, G, _, rfl, Nat.le_refl _, HG3.out, hG1, HG2.out, ?_, ?_⟩⟩, ?_⟩
  · simp only [List.length_append, HCL.out, hvl, List.length_take, Array.length_toList, HCS.out]; omega
  · rw [List.size_toArray, length_splice _ _ _ (by rw [HL1.out, HCL.out]; omega), HL1.out]
  · have ht : ROW.toList.take (i * 5) = (cur.toList.take (cap * 5)).take (i * 5) := by rw [HRT.out, List.take_take, Nat.min_eq_left (by omega)]
    rw [List.toList_toArray]
    rw [← List.append_assoc]
    exact splice_new _ _ _ _ i cap hi (by rw [Array.length_toList, HRS.out]; omega) hvl HCL.out ht
  · exact (hB1.drew).grown HB3.out (by have := hB1.size; rw [← HNN.out] at this; exact this) (fun k hk => by injection hk with hk; omega)

/-- slices.Insert(s, i, v), s a row of the call's own, v one element in a row of its own. -/
theorem insert_one (v : Value) (n i vb : Nat) (xs vs : List Value) (base : Nat) (w : World) (hi : i ≤ n) (hown : w.ownsRow base 32 5 v n xs) (hbase : base ≤ w.heap.size) (hv : w.heap[vb]? = some (.cells vs.toArray 32 (0, 0))) (hvl : vs.length = 5)
    (hne : v.ownBlock ≠ some vb) (h1 : ∀ u ∈ vs, u.oneCell' = true) (h1c : ∀ u ∈ xs, u.oneCell' = true) (hn : n + 1 < 2513169434916) :
    Calls Try.prog 74 #[v, .int .i64 i, .slice (some ⟨vb, 0, none⟩) 1 1] w fun e w' => ∃ v', e = .returned v' ∧ w'.ownsRow base 32 5 v' (n + 1) (xs.take (i * 5) ++ vs ++ xs.drop (i * 5)) ∧ Below base w w' ∧ ∀ k, k < w.heap.size → some k ≠ v.ownBlock → w'.heap[k]? = w.heap[k]? := by
  rcases Nat.lt_or_ge i n with hlt | hge
  · rcases hown.2 with ⟨_, rfl⟩ | ⟨g, cap, cur, rfl, hg, hh, hnc, hcm, hcs, htk⟩
    · omega
    · have hxl := hown.1
      subst htk
      by_cases hr : n + 1 ≤ cap
      · refine (insert_shift n i cap g vb cur vs w hlt hr hcm hh hcs hv (fun e => hne (by rw [e]; rfl)) hvl h1 h1c hn).mono ?_
        rintro e w' ⟨rfl, cur', hh', hs', ht', hb'⟩
        refine ⟨_, rfl, ⟨?_, .inr ⟨g, cap, cur', rfl, hg, hh', hr, hcm, by rw [hs', hcs], ht'⟩⟩, (Below.refl _ w).grown hb' hbase (fun k hk => by injection hk with hk; omega), hb'.block⟩
        rw [List.length_append, List.length_append, List.length_take, List.length_drop, hxl, hvl]; omega
      · refine (insert_grow n i cap g vb cur vs w hlt hr hnc hh hcs hv hvl h1 h1c hn).mono ?_
        rintro e w' ⟨v', rfl, hown', hb'⟩
        refine ⟨v', rfl, ⟨hown'.1, ?_⟩, hb'.mono hbase, fun k hk _ => hb'.block k hk⟩
        rcases hown'.2 with h0 | ⟨g', cap', cur', e', hg', r⟩
        · exact .inl h0
        · exact .inr ⟨g', cap', cur', e', Nat.le_trans hbase hg', r⟩
  · obtain rfl : i = n := by omega
    have hxl := hown.1
    rw [show xs.take (i * 5) = xs from List.take_of_length_le (by omega), show xs.drop (i * 5) = [] from List.drop_of_length_le (by omega), List.append_nil]
    exact insert_end v i vb xs vs base w hown hbase (fun j u hj => by have h := vec_cells hv hj; rwa [Addr.add_lit, Nat.zero_add] at h) hvl h1 hn
end Go.Proofs.Ytioooiflpabngaa.PAll

namespace Go.Proofs.Ytioooiflpabngaa.PAll
open Go.RowKit Go.Proofs.YtioooiflpabngaaW.PrintWords Go.Proofs.YtioooiflpabngaaW.PrintLast Go.Proofs.YtioooiflpabngaaW.PrintMore
set_option linter.unusedVariables false
set_option linter.unusedSimpArgs false

set_option maxHeartbeats 8000000 in
set_option maxRecDepth 100000 in
theorem clone_E (A0 : Option Addr) (n c0 : Nat) (news : List Value) (w : World) (hl : news.length = n * 5) (hA : A0 = none → n = 0) (hc : ∀ ad, A0 = some ad → ∀ j u, news[j]? = some u → w.cell? (ad.add j) = some u) (h1 : ∀ u ∈ news, u.oneCell' = true) (hn : n + 1 < 2513169434916) :
    Calls Try.prog 75 #[.slice A0 n c0] w fun e w' => ∃ v', e = .returned v' ∧ w'.ownsRow w.heap.size 32 5 v' n news ∧ Below w.heap.size w w' := by
  have HN := Aside0.mk hn
  clear hn
  have HL := Aside0.mk hl
  clear hl
  have H1 := Aside0.mk h1
  clear h1
  obtain ⟨i0, hI⟩ := infoE
  have HI := Aside0.mk hI
  clear hI
  have he := fun W : World => Lib.run_eql_slice_nil (P := Try.prog) W 22 32 A0 n c0 0 0 Try.underlying22
  rcases A0 with _ | ad
  · obtain rfl := hA rfl
    have hnil : news = [] := List.eq_nil_of_length_eq_zero (by rw [HL.out])
    have he2 : ∀ W : World, (binOp .eql 22 (.slice none 0 c0) (.slice none 0 0)).run Try.prog W = .ok (.bool true) W := fun W => he W
    clear he hA hc
    go_enter Try.func75, Try.ntmps75
    go_wp2
    go_ret
    exact ⟨_, rfl, by rw [hnil]; exact World.ownsRow_nil _ _ _ _, Below.refl _ _⟩
  · have HC := Aside0.mk (hc ad rfl)
    have he2 : ∀ W : World, (binOp .eql 22 (.slice (some ad) n c0) (.slice none 0 0)).run Try.prog W = .ok (.bool false) W := fun W => he W
    clear he hA hc
    go_enter Try.func75, Try.ntmps75
    go_wp2_with (at_builtin; refine wpList_append_own _ rfl _ _ 22 rfl w.heap.size 32 i0 zeroE 5 56 Try.underlying22 HI.out.1 HI.out.2.1 HI.out.2.2.1 HI.out.2.2.2 rfl (by decide) _ _ _ rfl (World.ownsRow_made w #[] 0 (Nat.le_refl _) (Nat.zero_le _) (by simp)) ad n c0 news rfl HL.out ?qc2 H1.out ?qc4 ?qc5 ?qc6 ?_; (case qc2 => exact fun j u hj => Lib.cell?_alloc_some _ (HC.out j u hj)); (case qc4 => have := HN.out; simp [maxLen]; omega); (case qc5 => have := HN.out; omega); (case qc6 => simp); intro v' w1 hown hgrow hnil; have HOW := Aside0.mk hown; have HGR := Aside0.mk hgrow; clear hown hgrow hnil)
    go_ret
    exact ⟨_, rfl, by simpa using HOW.out, ((Below.refl _ w).alloc (Nat.le_refl _) _).grown HGR.out (by simp) (fun k hk => by have hk2 : some w.heap.size = some k := hk; injection hk2 with hk2; omega)⟩
/-- A row of the call's own whose elements lead to what is shared, as a row that is read. -/
theorem V_of_own {α : Type} {d : Kd α} {e base n : Nat} {w : World} {v : Value} {inner : List Value} {xs : List α} {ok ok' : Nat → Prop} (hown : w.ownsRow base e d.sz v n inner) (hn : n = xs.length) (hr : Reps (fun x c => Kd.FK d w ok x c) d.sz xs inner)
    (hok : ∀ k, ok k → ok' k) (hbase : ∀ k, base ≤ k → ok' k) (hm : n ≤ 9223372036854775807) : Kd.V d e w base ok' v xs := by
  subst hn
  rcases hown.2 with ⟨rfl, h0⟩ | ⟨g, cap, cur, rfl, hg, hh, hnc, hcm, hcs, htk⟩
  · obtain rfl := List.eq_nil_of_length_eq_zero h0
    exact Kd.V_nil _ _ _ _ _
  · refine ⟨some ⟨g, 0, none⟩, cap, rfl, hnc, fun W' hW => ⟨rfl, hm, fun hp => ⟨_, rfl, fun j p hj => ?_⟩⟩⟩
    have hK := hr.2 j p hj
    have hjl : j < xs.length := (List.getElem?_eq_some_iff.1 hj).1
    have hgl : g < w.heap.size := blk_lt hh
    have hW2 := (hW g (hbase g hg) hgl).trans hh
    have hlen := hr.1
    have hmul : (j + 1) * d.sz ≤ xs.length * d.sz := Nat.mul_le_mul_right _ hjl
    rw [Nat.add_mul, Nat.one_mul] at hmul
    refine ⟨(inner.drop (j * d.sz)).take d.sz, by rw [List.length_take, List.length_drop, hlen]; omega, hK W' (fun k hk hlt => hW k (hok k hk) hlt), fun i u hu => ?_⟩
    rw [List.getElem?_take] at hu
    split at hu
    · rename_i hi
      rw [List.getElem?_drop, ← htk, List.getElem?_take] at hu
      split at hu
      · rw [Addr.add_lit, Nat.zero_add]
        simp only [World.cell?, hW2]
        simpa using hu
      · cases hu
    · cases hu
end Go.Proofs.Ytioooiflpabngaa.PAll

namespace Go.Proofs.Ytioooiflpabngaa.PAll
open Go.RowKit Go.Proofs.YtioooiflpabngaaW.PrintWords Go.Proofs.YtioooiflpabngaaW.PrintLast Go.Proofs.YtioooiflpabngaaW.PrintMore
attribute [local go_sem] max2_int min2_int max_two min_two max_three min_three max_four min_four   -- for this text's walks alone
set_option linter.unusedVariables false
set_option linter.unusedSimpArgs false

set_option maxHeartbeats 8000000 in
set_option maxRecDepth 100000 in
theorem content_Put_1.calls (k : Nat) (a0_0 : Int) (a0_1 : Int) (a0_2 : Int) (a0_3 : Int) (A0_4 : Option Addr) (c0_4 : Nat) (l0_4 : List Int) (a1_0 : Int) (a1_1 : Int) (a1_2 : Int) (a1_3 : Int) (r : Int) (w : World) (hr0_4 : Kd.C (Kd.int .u8) w A0_4 l0_4.length l0_4) (hc0_4 : l0_4.length ≤ c0_4) (h : content_Find_1.f k a0_0 a0_1 a0_2 a0_3 l0_4 a1_0 a1_1 a1_2 a1_3 = some r) :
    Calls Try.prog 73 #[.agg #[.int .u64 a0_0, .int .i64 a0_1, .int .u64 a0_2, .int .i64 a0_3, .slice A0_4 l0_4.length c0_4], .agg #[.int .u64 a1_0, .int .i64 a1_1, .int .u64 a1_2, .int .i64 a1_3]] w fun e w' => e = .returned (.int .i64 r) ∧ Below w.heap.size w w' := by
  have hu32 := Try.underlying32
  have hu27 := Try.underlying27
  have HR0_4 := Aside0.mk hr0_4
  have HC0_4 := Aside0.mk hc0_4
  clear hr0_4 hc0_4
  have HB := Aside0.mk (Below.refl w.heap.size w)
  have H : ((label_Compare.f k a0_0 a0_1 a0_2 a0_3 a1_0 a1_1 a1_2 a1_3).bind fun t212 => (some t212)) = some r := h
  clear h
  replace H := Option.bind_eq_some_iff.mp H
  obtain ⟨t212, A30, H⟩ := H
  replace H : (some t212) = some r := H
  have A3 := Aside0.mk A30
  clear A30
  obtain rfl := Option.some.inj H
  go_enter Try.func73, Try.ntmps73
  go_wp2_with (first | ((with_reducible refine gate_dst (N := 2) rfl ?_); refine box_event ?hg (N := 2) ?hd (cs := #[.int .u64 a0_0, .int .i64 a0_1, .int .u64 a0_2, .int .i64 a0_3, .slice A0_4 l0_4.length c0_4]) (t := 32) ?hr ?_; (case hd => rfl); (case hg => rfl); (case hr => first | (go_simp; done) | (go_simp; rfl)); intro gb210 hg w4 hbox hb; have n0_ := Aside0.mk (below_step (by repeat (first | (with_reducible first | exact HB.out | apply below_alloc | apply pw_below_drewN | apply below_drew1) | exact HB.out)) hb); have n1_ := Aside0.mk (hbox); have n2_ := Aside0.mk ((by rw [hg]; exact (below_size (by repeat (first | (with_reducible first | exact HB.out | apply below_alloc | apply pw_below_drewN | apply below_drew1) | exact HB.out))) : w.heap.size ≤ gb210)); have n3_ := Aside0.mk ((by rw [hg]; exact (below_size (by repeat (first | (with_reducible first | exact HB.out | apply below_alloc | apply pw_below_drewN | apply below_drew1) | exact HB.out))) : w.heap.size ≤ gb210)); clear HB; have HB := n0_; have BK210 := n1_; have GW210 := n2_; have GE210 := n3_; clear n0_ n1_ n2_ n3_; clear hb hbox hg) | ((with_reducible refine gate_dst (N := 3) rfl ?_); refine box_event ?hg (N := 3) ?hd (cs := #[.int .u64 a1_0, .int .i64 a1_1, .int .u64 a1_2, .int .i64 a1_3]) (t := 27) ?hr ?_; (case hd => rfl); (case hg => rfl); (case hr => first | (go_simp; done) | (go_simp; rfl)); intro gb211 hg w5 hbox hb; have n0_ := Aside0.mk (blk_below (g := gb210) (o := .cells #[.int .u64 a0_0, .int .i64 a0_1, .int .u64 a0_2, .int .i64 a0_3, .slice A0_4 l0_4.length c0_4] 32 (0, 0)) (by (with_reducible repeat (first | refine blk_drewN ?_ _ | refine blk_drew ?_ | refine blk_alloc ?_ _)); exact BK210.out) hb); have n1_ := Aside0.mk (below_step (by repeat (first | (with_reducible first | exact HB.out | apply below_alloc | apply pw_below_drewN | apply below_drew1 | refine below_set ?_ GE210.out) | exact HB.out)) hb); have n2_ := Aside0.mk (hbox); have n3_ := Aside0.mk ((by rw [hg]; exact (below_size (by repeat (first | (with_reducible first | exact HB.out | apply below_alloc | apply pw_below_drewN | apply below_drew1 | refine below_set ?_ GE210.out) | exact HB.out))) : w.heap.size ≤ gb211)); have n4_ := Aside0.mk ((by rw [hg]; exact (below_size (by repeat (first | (with_reducible first | exact HB.out | apply below_alloc | apply pw_below_drewN | apply below_drew1 | refine below_set ?_ GE210.out) | exact HB.out))) : w.heap.size ≤ gb211)); have n5_ := Aside0.mk ((by rw [hg]; exact Nat.ne_of_lt (blk_lt (g := gb210) (o := .cells #[.int .u64 a0_0, .int .i64 a0_1, .int .u64 a0_2, .int .i64 a0_3, .slice A0_4 l0_4.length c0_4] 32 (0, 0)) (by (with_reducible repeat (first | refine blk_drewN ?_ _ | refine blk_drew ?_ | refine blk_alloc ?_ _)); exact BK210.out)) : gb210 ≠ gb211)); have n6_ := Aside0.mk ((by rw [hg]; exact Nat.ne_of_gt (blk_lt (g := gb210) (o := .cells #[.int .u64 a0_0, .int .i64 a0_1, .int .u64 a0_2, .int .i64 a0_3, .slice A0_4 l0_4.length c0_4] 32 (0, 0)) (by (with_reducible repeat (first | refine blk_drewN ?_ _ | refine blk_drew ?_ | refine blk_alloc ?_ _)); exact BK210.out)) : gb211 ≠ gb210)); clear BK210; clear HB; have BK210 := n0_; have HB := n1_; have BK211 := n2_; have GW211 := n3_; have GE211 := n4_; have NB210_211 := n5_; have NB211_210 := n6_; clear n0_ n1_ n2_ n3_ n4_ n5_ n6_; clear hb hbox hg; have hnb6 := NB210_211.out; have hnc6 := NB211_210.out; have hcz7_0 : w5.cell? ⟨gb210, 0, none⟩ = some (.int .u64 a0_0) := (blk_cell BK210.out 0).trans rfl; have hcz7_1 : w5.cell? ⟨gb210, 1, none⟩ = some (.int .i64 a0_1) := (blk_cell BK210.out 1).trans rfl; have hcz7_2 : w5.cell? ⟨gb210, 2, none⟩ = some (.int .u64 a0_2) := (blk_cell BK210.out 2).trans rfl; have hcz7_3 : w5.cell? ⟨gb210, 3, none⟩ = some (.int .i64 a0_3) := (blk_cell BK210.out 3).trans rfl; have hcz7_4 : w5.cell? ⟨gb210, 4, none⟩ = some (.slice A0_4 l0_4.length c0_4) := (blk_cell BK210.out 4).trans rfl; have hfz7_0 := blk_frozen BK210.out 0; have hfz7_1 := blk_frozen BK210.out 1; have hfz7_2 := blk_frozen BK210.out 2; have hfz7_3 := blk_frozen BK210.out 3; have hfz7_4 := blk_frozen BK210.out 4; have hcz8_0 : w5.cell? ⟨gb211, 0, none⟩ = some (.int .u64 a1_0) := (blk_cell BK211.out 0).trans rfl; have hcz8_1 : w5.cell? ⟨gb211, 1, none⟩ = some (.int .i64 a1_1) := (blk_cell BK211.out 1).trans rfl; have hcz8_2 : w5.cell? ⟨gb211, 2, none⟩ = some (.int .u64 a1_2) := (blk_cell BK211.out 2).trans rfl; have hcz8_3 : w5.cell? ⟨gb211, 3, none⟩ = some (.int .i64 a1_3) := (blk_cell BK211.out 3).trans rfl; have hfz8_0 := blk_frozen BK211.out 0; have hfz8_1 := blk_frozen BK211.out 1; have hfz8_2 := blk_frozen BK211.out 2; have hfz8_3 := blk_frozen BK211.out 3) | ((with_reducible refine gate_callee (f := 42) rfl ?_); refine goesL_ (some 8) rfl rfl Try.func42 (by kernel_rfl) rfl #[.agg #[.int .u64 a0_0, .int .i64 a0_1, .int .u64 a0_2, .int .i64 a0_3], .agg #[.int .u64 a1_0, .int .i64 a1_1, .int .u64 a1_2, .int .i64 a1_3]] rfl (by (try simp only [List.map_toArray, List.map_cons, List.map_nil]); first | done | rfl | (simp only [List.length_drop, List.length_take]; rfl)) ?_; (with_reducible refine (label_Compare.calls k a0_0 a0_1 a0_2 a0_3 a1_0 a1_1 a1_2 a1_3 t212 _ A3.out).mono ?_); rintro e w9 ⟨rfl, hb⟩; refine ⟨_, rfl, ?_⟩; have n0_ := Aside0.mk (blk_below (g := gb210) (o := .cells #[.int .u64 a0_0, .int .i64 a0_1, .int .u64 a0_2, .int .i64 a0_3, .slice A0_4 l0_4.length c0_4] 32 (0, 0)) (by (with_reducible repeat (first | refine blk_drewN ?_ _ | refine blk_drew ?_ | refine blk_alloc ?_ _)); exact BK210.out) hb); have n1_ := Aside0.mk (blk_below (g := gb211) (o := .cells #[.int .u64 a1_0, .int .i64 a1_1, .int .u64 a1_2, .int .i64 a1_3] 27 (0, 0)) (by (with_reducible repeat (first | refine blk_drewN ?_ _ | refine blk_drew ?_ | refine blk_alloc ?_ _)); exact BK211.out) hb); have n2_ := Aside0.mk (below_step (by repeat (first | (with_reducible first | exact HB.out | apply below_alloc | apply pw_below_drewN | apply below_drew1 | refine below_set ?_ GE210.out | refine below_set ?_ GE211.out) | exact HB.out)) hb); clear BK210; clear BK211; clear HB; have BK210 := n0_; have BK211 := n1_; have HB := n2_; clear n0_ n1_ n2_; (try clear hb); (try clear hb2); (try clear hk); (try clear hi)))
  go_ret
  exact ⟨by first | rfl | (simp [errW_none, errW_some] <;> rfl) | (simp [*, errW_none, errW_some] <;> rfl), by repeat (first | (with_reducible first | exact HB.out | apply below_alloc | apply pw_below_drewN | apply below_drew1 | refine below_set ?_ GE210.out | refine below_set ?_ GE211.out) | exact HB.out)⟩

set_option maxHeartbeats 8000000 in
set_option maxRecDepth 100000 in
theorem api_Label_70p.calls (k : Nat) (A0 : Option Addr) (c0 : Nat) (l0 : List (S32)) (a1_0 : Int) (a1_1 : Int) (a1_2 : Int) (a1_3 : Int) (r1 : Int) (r2 : Bool) (w : World) (hr0 : Kd.C k32 w A0 l0.length l0) (hc0 : l0.length ≤ c0) (h : api_Label_70.f k l0 a1_0 a1_1 a1_2 a1_3 = some (r1, r2)) :
    Calls Try.prog 70 #[.slice A0 l0.length c0, .agg #[.int .u64 a1_0, .int .i64 a1_1, .int .u64 a1_2, .int .i64 a1_3], .func (.func 73) #[] #[]] w fun e w' => e = .returned (.tuple #[.int .i64 r1, .bool r2]) ∧ Below w.heap.size w w' := by
  have hu27 := Try.underlying27
  have hu32 := Try.underlying32
  have HR0 := Aside0.mk hr0
  have HC0 := Aside0.mk hc0
  clear hr0 hc0
  have HB := Aside0.mk (Below.refl w.heap.size w)
  have H : (api_Label_70.l0 k l0 (l0.length : Int) 0 (l0.length : Int) a1_0 a1_1 a1_2 a1_3) = some (r1, r2) := h
  clear h
  have H' := Aside0.mk H
  clear H
  go_enter Try.func70, Try.ntmps70
  go_wp2_with (first | ((with_reducible refine gate_dst (N := 4) rfl ?_); refine box_event ?hg (N := 4) ?hd (cs := #[.int .u64 a1_0, .int .i64 a1_1, .int .u64 a1_2, .int .i64 a1_3]) (t := 27) ?hr ?_; (case hd => rfl); (case hg => rfl); (case hr => first | (go_simp; done) | (go_simp; rfl)); intro gb213 hg w3 hbox hb; have n0_ := Aside0.mk (below_step (by repeat (first | (with_reducible first | exact HB.out | apply below_alloc | apply pw_below_drewN | apply below_drew1) | exact HB.out)) hb); have n1_ := Aside0.mk (hbox); have n2_ := Aside0.mk ((by rw [hg]; exact (below_size (by repeat (first | (with_reducible first | exact HB.out | apply below_alloc | apply pw_below_drewN | apply below_drew1) | exact HB.out))) : w.heap.size ≤ gb213)); have n3_ := Aside0.mk ((by rw [hg]; exact (below_size (by repeat (first | (with_reducible first | exact HB.out | apply below_alloc | apply pw_below_drewN | apply below_drew1) | exact HB.out))) : w.heap.size ≤ gb213)); clear HB; have HB := n0_; have BK213 := n1_; have GW213 := n2_; have GE213 := n3_; clear n0_ n1_ n2_ n3_; clear hb hbox hg))
  go_loopg [9, 10] k (fun kq v9 v10 w' => ∃ (x9_1 : Int) (x10_1 : Int), v9 = .int .i64 x9_1 ∧ v10 = .int .i64 x10_1 ∧ Aside0 (api_Label_70.l0 kq l0 (l0.length : Int) x9_1 x10_1 a1_0 a1_1 a1_2 a1_3 = some (r1, r2)) ∧ Aside0 (kq ≤ k) ∧ Aside0 (w'.heap[gb213]? = some (.cells #[.int .u64 a1_0, .int .i64 a1_1, .int .u64 a1_2, .int .i64 a1_3] 27 (0, 0))) ∧ Aside0 (Below w.heap.size w w'))
  case atStart => exact ⟨(0), ((l0.length : Int)), (by first | rfl | (simp; done) | (simp [*]; done)), (by first | rfl | (simp; done) | (simp [*]; done)), H', ⟨Nat.le_refl _⟩, ⟨by (with_reducible repeat (first | refine blk_drewN ?_ _ | refine blk_drew ?_ | refine blk_alloc ?_ _)); exact BK213.out⟩, ⟨by repeat (first | (with_reducible first | exact HB.out | apply below_alloc | apply pw_below_drewN | apply below_drew1 | refine below_set ?_ GE213.out) | exact HB.out)⟩⟩
  case round =>
    clear H'
    try clear p2
    obtain ⟨x9_1, x10_1, rfl, rfl, HA, HK1, BK213, HB⟩ := hrel
    cases gk with
    | zero => exact absurd HA.out (by simp [api_Label_70.l0])
    | succ k1 =>
      have H := HA.out
      clear HA
      simp only [api_Label_70.l0] at H
      by_cases c4 : x9_1 < x10_1
      · rw [if_pos c4] at H
        have c4b0 : decide (x9_1 < x10_1) = true := decide_eq_true c4
        clear c4
        obtain ⟨ji5, hji5⟩ : ∃ j_ : Int, (wrap64 ((IntKind.u64.wrap (wrap64 (x9_1 + x10_1))) / 2)) = j_ := ⟨_, rfl⟩
        replace H : (if 0 ≤ (ji5) then (if (ji5) < (l0.length : Int) then ((content_Find_1.f k1 ((rd_T32 l0 (ji5)).f0.f0.f0) ((rd_T32 l0 (ji5)).f0.f0.f1) ((rd_T32 l0 (ji5)).f0.f1) ((rd_T32 l0 (ji5)).f0.f2) ((rd_T32 l0 (ji5)).f1) a1_0 a1_1 a1_2 a1_3).bind fun t215 => (if t215 < 0 then (api_Label_70.l0 k1 l0 (l0.length : Int) (wrap64 ((ji5) + 1)) x10_1 a1_0 a1_1 a1_2 a1_3) else (api_Label_70.l0 k1 l0 (l0.length : Int) x9_1 ji5 a1_0 a1_1 a1_2 a1_3))) else (none)) else (none)) = some (r1, r2) := by first | (rw [hji5] at H; exact H) | (simp only [hji5] at H ⊢; exact H)
        have hji5w : (IntKind.i64.wrap ((IntKind.u64.wrap (wrap64 (x9_1 + x10_1))) / 2)) = ji5 := (i64_w _).trans hji5
        by_cases c6 : 0 ≤ (ji5)
        · rw [if_pos c6] at H
          have c6b0 : decide (0 ≤ (ji5)) = true := decide_eq_true c6
          clear c6
          by_cases c7 : (ji5) < (l0.length : Int)
          · rw [if_pos c7] at H
            have c7b0 : decide ((ji5) < (l0.length : Int)) = true := decide_eq_true c7
            clear c7
            replace H := Option.bind_eq_some_iff.mp H
            obtain ⟨t215, A80, H⟩ := H
            replace H : (if t215 < 0 then (api_Label_70.l0 k1 l0 (l0.length : Int) (wrap64 ((ji5) + 1)) x10_1 a1_0 a1_1 a1_2 a1_3) else (api_Label_70.l0 k1 l0 (l0.length : Int) x9_1 ji5 a1_0 a1_1 a1_2 a1_3)) = some (r1, r2) := H
            have A8 := Aside0.mk A80
            clear A80
            by_cases c9 : t215 < 0
            · rw [if_pos c9] at H
              have c9b0 : decide (t215 < 0) = true := decide_eq_true c9
              clear c9
              have H' := Aside0.mk H
              clear H
              try go_wp2
              have n0_ := Aside0.mk (blk_drew BK213.out)
              have n1_ := Aside0.mk (below_drew1 HB.out)
              clear BK213
              clear HB
              have BK213 := n0_
              have HB := n1_
              clear n0_ n1_
              have p214 : 0 ≤ ((ji5) : Int) := of_decide_eq_true (by first | (with_reducible assumption) | assumption)
              have q214 : (ji5) < (l0.length : Int) := of_decide_eq_true (by first | (with_reducible assumption) | assumption)
              obtain ⟨ad214, A214_4, c214_4, e214, hx214_0, hx214_1, hx214_2, hx214_3, hx214_4, hl214_4, hi214_4⟩ := at_T32 HR0.out (ji5) p214 q214
              have hw214_4 := hx214_4
              have hw214_3 := hx214_3
              have hw214_2 := hx214_2
              have hw214_1 := hx214_1
              have hw214_0 := hx214_0
              cases e214
              replace hx214_0 := (HB.out.cell (World.block_lt_of_cell? w _ hx214_0)).trans hx214_0
              replace hx214_1 := (HB.out.cell (World.block_lt_of_cell? w _ hx214_1)).trans hx214_1
              replace hx214_2 := (HB.out.cell (World.block_lt_of_cell? w _ hx214_2)).trans hx214_2
              replace hx214_3 := (HB.out.cell (World.block_lt_of_cell? w _ hx214_3)).trans hx214_3
              replace hx214_4 := (HB.out.cell (World.block_lt_of_cell? w _ hx214_4)).trans hx214_4
              have HR214_4 := Aside0.mk hi214_4
              have HC214_4 := Aside0.mk hl214_4
              clear hi214_4 hl214_4
              replace p214 := eq_true p214
              replace q214 := eq_true q214
              refine start_ (n := 8) (S := fun w' => w'.cell? ⟨gb213, 0, none⟩ = some (.int .u64 a1_0) ∧ w'.cell? ⟨gb213, 1, none⟩ = some (.int .i64 a1_1) ∧ w'.cell? ⟨gb213, 2, none⟩ = some (.int .u64 a1_2) ∧ w'.cell? ⟨gb213, 3, none⟩ = some (.int .i64 a1_3) ∧ w'.cell? (ad214.add (((ji5)).toNat * 5)) = some (.int .u64 ((rd_T32 l0 (ji5)).f0.f0.f0)) ∧ w'.cell? ⟨(ad214.add (((ji5)).toNat * 5)).block, (ad214.add (((ji5)).toNat * 5)).off + 1, none⟩ = some (.int .i64 ((rd_T32 l0 (ji5)).f0.f0.f1)) ∧ w'.cell? ⟨(ad214.add (((ji5)).toNat * 5)).block, (ad214.add (((ji5)).toNat * 5)).off + 2, none⟩ = some (.int .u64 ((rd_T32 l0 (ji5)).f0.f1)) ∧ w'.cell? ⟨(ad214.add (((ji5)).toNat * 5)).block, (ad214.add (((ji5)).toNat * 5)).off + 3, none⟩ = some (.int .i64 ((rd_T32 l0 (ji5)).f0.f2)) ∧ w'.cell? ⟨(ad214.add (((ji5)).toNat * 5)).block, (ad214.add (((ji5)).toNat * 5)).off + 4, none⟩ = some (.slice A214_4 ((rd_T32 l0 (ji5)).f1).length c214_4)) (ds := []) #[false, false, false, false, false, false, false, false] (by kernel_rfl) rfl rfl ⟨(blk_cell BK213.out 0).trans rfl, (blk_cell BK213.out 1).trans rfl, (blk_cell BK213.out 2).trans rfl, (blk_cell BK213.out 3).trans rfl, ((HB.out.cell (World.block_lt_of_cell? w _ hw214_0)).trans hw214_0), ((HB.out.cell (World.block_lt_of_cell? w _ hw214_1)).trans hw214_1), ((HB.out.cell (World.block_lt_of_cell? w _ hw214_2)).trans hw214_2), ((HB.out.cell (World.block_lt_of_cell? w _ hw214_3)).trans hw214_3), ((HB.out.cell (World.block_lt_of_cell? w _ hw214_4)).trans hw214_4)⟩ (fun hHeld => ?_); refine with_tabW api_Label_70.tab5 api_Label_70.bits5 (fun HT_ HW_ => ?_)
              generalize wr.drew = w10 at BK213 HB HR214_4 hx214_0 hx214_1 hx214_2 hx214_3 hx214_4 hHeld ⊢
              refine pure_ (i := 0) (N := some 24) (v := ?_) (a' := ?_) #[true, false, false, false, false, false, false, false] rfl rfl (any_of HT_.out (by kernel_rfl)) (fun _ _ _ h => h) (Or.inl ⟨by rfl, ?_⟩) ?_ ?_
              rotate_left
              · intro w'
                go_simp
                with_reducible rfl
              rotate_left
              · simp only [Act.put, List.setIfInBounds_toArray, List.set_cons_zero, List.set_cons_succ, i64_w, i32_w]
                rfl
              refine pure_ (i := 1) (N := some 25) (v := ?_) (a' := ?_) #[true, true, false, false, false, false, false, false] rfl rfl (any_of HT_.out (by kernel_rfl)) (fun _ _ _ h => h) (Or.inl ⟨by rfl, ?_⟩) ?_ ?_
              rotate_left
              · intro w'
                go_simp
                with_reducible rfl
              rotate_left
              · simp only [Act.put, List.setIfInBounds_toArray, List.set_cons_zero, List.set_cons_succ, i64_w, i32_w]
                rfl
              refine pure_ (i := 2) (N := some 26) (v := ?_) (a' := ?_) #[true, true, true, false, false, false, false, false] rfl rfl (any_of HT_.out (by kernel_rfl)) (fun _ _ _ h => h) (Or.inl ⟨by rfl, ?_⟩) ?_ ?_
              rotate_left
              · intro w'
                go_simp
                with_reducible rfl
              rotate_left
              · simp only [Act.put, List.setIfInBounds_toArray, List.set_cons_zero, List.set_cons_succ, i64_w, i32_w]
                rfl
              refine pure_ (i := 3) (N := some 27) (v := ?_) (a' := ?_) #[true, true, true, true, false, false, false, false] rfl rfl (any_of HT_.out (by kernel_rfl)) (fun _ _ _ h => h) (Or.inl ⟨by rfl, ?_⟩) ?_ ?_
              rotate_left
              · intro w'
                go_simp
                with_reducible rfl
              rotate_left
              · simp only [Act.put, List.setIfInBounds_toArray, List.set_cons_zero, List.set_cons_succ, i64_w, i32_w]
                rfl
              refine take_ (i := 4) (N := some 28) (v := ?_) (a' := ?_) #[true, true, true, true, true, false, false, false] rfl rfl (take_ofW HT_.out HW_.out (by kernel_rfl)) (fun _ _ _ h => h) (Or.inl ⟨by rfl, ?_⟩) hHeld ?_ ?_
              rotate_left
              · rintro w' ⟨s0, s1, s2, s3, s4, s5, s6, s7, s8⟩
                go_simp
                with_reducible rfl
              rotate_left
              · simp only [Act.put, List.setIfInBounds_toArray, List.set_cons_zero, List.set_cons_succ, i64_w, i32_w]
                rfl
              refine take_ (i := 5) (N := some 29) (v := ?_) (a' := ?_) #[true, true, true, true, true, true, false, false] rfl rfl (take_ofW HT_.out HW_.out (by kernel_rfl)) (fun _ _ _ h => h) (Or.inl ⟨by rfl, ?_⟩) hHeld ?_ ?_
              rotate_left
              · rintro w' ⟨s0, s1, s2, s3, s4, s5, s6, s7, s8⟩
                go_simp
                with_reducible rfl
              rotate_left
              · simp only [Act.put, List.setIfInBounds_toArray, List.set_cons_zero, List.set_cons_succ, i64_w, i32_w]
                rfl
              refine one_ (i := 6) (N := some 30) #[true, true, true, true, true, true, true, false] rfl rfl (one_of HT_.out (by kernel_rfl)) (by decide) (fun K hK => ?_)
              refine goesV_ Try.func73 (by kernel_rfl) rfl #[.agg #[.int .u64 ((rd_T32 l0 (ji5)).f0.f0.f0), .int .i64 ((rd_T32 l0 (ji5)).f0.f0.f1), .int .u64 ((rd_T32 l0 (ji5)).f0.f1), .int .i64 ((rd_T32 l0 (ji5)).f0.f2), .slice A214_4 ((rd_T32 l0 (ji5)).f1).length c214_4], .agg #[.int .u64 a1_0, .int .i64 a1_1, .int .u64 a1_2, .int .i64 a1_3]] (by rfl) rfl rfl rfl (by (try simp only [List.map_toArray, List.map_cons, List.map_nil]); first | done | (simp only [hji5]; rfl) | rfl | (simp only [List.length_drop, List.length_take]; rfl)) ?_
              with_reducible refine (content_Put_1.calls k1 ((rd_T32 l0 (ji5)).f0.f0.f0) ((rd_T32 l0 (ji5)).f0.f0.f1) ((rd_T32 l0 (ji5)).f0.f1) ((rd_T32 l0 (ji5)).f0.f2) _ _ ((rd_T32 l0 (ji5)).f1) a1_0 a1_1 a1_2 a1_3 t215 _ ?side1 ?side2 A8.out).mono ?_
              (case side1 => repeat (first | exact (Kd.C_below HR214_4.out HB.out) | (with_reducible refine Kd.C_alloc ?_ _) | (with_reducible refine Kd.C_drewN ?_ _) | (with_reducible refine Kd.C_drew ?_)))
              (case side2 => exact HC214_4.out)
              rintro e w11 ⟨rfl, hb⟩
              refine ⟨_, rfl, ?_⟩
              have n0_ := Aside0.mk (blk_below (g := gb213) (o := .cells #[.int .u64 a1_0, .int .i64 a1_1, .int .u64 a1_2, .int .i64 a1_3] 27 (0, 0)) (by (with_reducible repeat (first | refine blk_drewN ?_ _ | refine blk_drew ?_ | refine blk_alloc ?_ _)); exact BK213.out) hb)
              have n1_ := Aside0.mk (below_step (by repeat (first | (with_reducible first | exact HB.out | apply below_alloc | apply pw_below_drewN | apply below_drew1 | refine below_set ?_ GE213.out) | exact HB.out)) hb)
              clear BK213
              clear HB
              have BK213 := n0_
              have HB := n1_
              clear n0_ n1_
              (try clear hb)
              (try clear hb2)
              (try clear hk)
              (try clear hi)
              refine hK.out _ _ ⟨(blk_cell BK213.out 0).trans rfl, (blk_cell BK213.out 1).trans rfl, (blk_cell BK213.out 2).trans rfl, (blk_cell BK213.out 3).trans rfl, ((HB.out.cell (World.block_lt_of_cell? w _ hw214_0)).trans hw214_0), ((HB.out.cell (World.block_lt_of_cell? w _ hw214_1)).trans hw214_1), ((HB.out.cell (World.block_lt_of_cell? w _ hw214_2)).trans hw214_2), ((HB.out.cell (World.block_lt_of_cell? w _ hw214_3)).trans hw214_3), ((HB.out.cell (World.block_lt_of_cell? w _ hw214_4)).trans hw214_4)⟩ (fun hHeld => ?_)
              clear hK K
              refine norm_ (a' := ?_) ?_ ?_
              rotate_left
              · show Act.put _ (some 30) _ = _
                simp only [Act.put, List.setIfInBounds_toArray, List.set_cons_zero, List.set_cons_succ, i64_w, i32_w]
                rfl
              refine pure_ (i := 7) (N := some 31) (v := ?_) (a' := ?_) #[true, true, true, true, true, true, true, true] rfl rfl (any_of HT_.out (by kernel_rfl)) (fun _ _ _ h => h) (Or.inl ⟨by rfl, ?_⟩) ?_ ?_
              rotate_left
              · intro w'
                go_simp
                with_reducible rfl
              rotate_left
              · simp only [Act.put, List.setIfInBounds_toArray, List.set_cons_zero, List.set_cons_succ, i64_w, i32_w]
                rfl
              refine done_ (done_of HT_.out (by kernel_rfl)) ?_
              (try clear hHeld); (try clear HS0_)
              try go_wp2
              go_roundg k1
              case measure => have := HK1.out; omega
              case rel => exact ⟨(wrap64 ((ji5) + 1)), (x10_1), (by first | rfl | (simp; done) | (simp only [← hji5] <;> (first | rfl | simp)) | (simp [*]; done)), (by first | rfl | (simp; done) | (simp [*]; done)), H', ⟨by have := HK1.out; omega⟩, ⟨by (with_reducible repeat (first | refine blk_drewN ?_ _ | refine blk_drew ?_ | refine blk_alloc ?_ _)); exact BK213.out⟩, ⟨by repeat (first | (with_reducible first | exact HB.out | apply below_alloc | apply pw_below_drewN | apply below_drew1 | refine below_set ?_ GE213.out) | exact HB.out)⟩⟩
            · rw [if_neg c9] at H
              have c9b0 : decide (t215 < 0) = false := decide_eq_false c9
              clear c9
              have H' := Aside0.mk H
              clear H
              try go_wp2
              have n0_ := Aside0.mk (blk_drew BK213.out)
              have n1_ := Aside0.mk (below_drew1 HB.out)
              clear BK213
              clear HB
              have BK213 := n0_
              have HB := n1_
              clear n0_ n1_
              have p214 : 0 ≤ ((ji5) : Int) := of_decide_eq_true (by first | (with_reducible assumption) | assumption)
              have q214 : (ji5) < (l0.length : Int) := of_decide_eq_true (by first | (with_reducible assumption) | assumption)
              obtain ⟨ad214, A214_4, c214_4, e214, hx214_0, hx214_1, hx214_2, hx214_3, hx214_4, hl214_4, hi214_4⟩ := at_T32 HR0.out (ji5) p214 q214
              have hw214_4 := hx214_4
              have hw214_3 := hx214_3
              have hw214_2 := hx214_2
              have hw214_1 := hx214_1
              have hw214_0 := hx214_0
              cases e214
              replace hx214_0 := (HB.out.cell (World.block_lt_of_cell? w _ hx214_0)).trans hx214_0
              replace hx214_1 := (HB.out.cell (World.block_lt_of_cell? w _ hx214_1)).trans hx214_1
              replace hx214_2 := (HB.out.cell (World.block_lt_of_cell? w _ hx214_2)).trans hx214_2
              replace hx214_3 := (HB.out.cell (World.block_lt_of_cell? w _ hx214_3)).trans hx214_3
              replace hx214_4 := (HB.out.cell (World.block_lt_of_cell? w _ hx214_4)).trans hx214_4
              have HR214_4 := Aside0.mk hi214_4
              have HC214_4 := Aside0.mk hl214_4
              clear hi214_4 hl214_4
              replace p214 := eq_true p214
              replace q214 := eq_true q214
              refine start_ (n := 8) (S := fun w' => w'.cell? ⟨gb213, 0, none⟩ = some (.int .u64 a1_0) ∧ w'.cell? ⟨gb213, 1, none⟩ = some (.int .i64 a1_1) ∧ w'.cell? ⟨gb213, 2, none⟩ = some (.int .u64 a1_2) ∧ w'.cell? ⟨gb213, 3, none⟩ = some (.int .i64 a1_3) ∧ w'.cell? (ad214.add (((ji5)).toNat * 5)) = some (.int .u64 ((rd_T32 l0 (ji5)).f0.f0.f0)) ∧ w'.cell? ⟨(ad214.add (((ji5)).toNat * 5)).block, (ad214.add (((ji5)).toNat * 5)).off + 1, none⟩ = some (.int .i64 ((rd_T32 l0 (ji5)).f0.f0.f1)) ∧ w'.cell? ⟨(ad214.add (((ji5)).toNat * 5)).block, (ad214.add (((ji5)).toNat * 5)).off + 2, none⟩ = some (.int .u64 ((rd_T32 l0 (ji5)).f0.f1)) ∧ w'.cell? ⟨(ad214.add (((ji5)).toNat * 5)).block, (ad214.add (((ji5)).toNat * 5)).off + 3, none⟩ = some (.int .i64 ((rd_T32 l0 (ji5)).f0.f2)) ∧ w'.cell? ⟨(ad214.add (((ji5)).toNat * 5)).block, (ad214.add (((ji5)).toNat * 5)).off + 4, none⟩ = some (.slice A214_4 ((rd_T32 l0 (ji5)).f1).length c214_4)) (ds := []) #[false, false, false, false, false, false, false, false] (by kernel_rfl) rfl rfl ⟨(blk_cell BK213.out 0).trans rfl, (blk_cell BK213.out 1).trans rfl, (blk_cell BK213.out 2).trans rfl, (blk_cell BK213.out 3).trans rfl, ((HB.out.cell (World.block_lt_of_cell? w _ hw214_0)).trans hw214_0), ((HB.out.cell (World.block_lt_of_cell? w _ hw214_1)).trans hw214_1), ((HB.out.cell (World.block_lt_of_cell? w _ hw214_2)).trans hw214_2), ((HB.out.cell (World.block_lt_of_cell? w _ hw214_3)).trans hw214_3), ((HB.out.cell (World.block_lt_of_cell? w _ hw214_4)).trans hw214_4)⟩ (fun hHeld => ?_); refine with_tabW api_Label_70.tab5 api_Label_70.bits5 (fun HT_ HW_ => ?_)
              generalize wr.drew = w12 at BK213 HB HR214_4 hx214_0 hx214_1 hx214_2 hx214_3 hx214_4 hHeld ⊢
              refine pure_ (i := 0) (N := some 24) (v := ?_) (a' := ?_) #[true, false, false, false, false, false, false, false] rfl rfl (any_of HT_.out (by kernel_rfl)) (fun _ _ _ h => h) (Or.inl ⟨by rfl, ?_⟩) ?_ ?_
              rotate_left
              · intro w'
                go_simp
                with_reducible rfl
              rotate_left
              · simp only [Act.put, List.setIfInBounds_toArray, List.set_cons_zero, List.set_cons_succ, i64_w, i32_w]
                rfl
              refine pure_ (i := 1) (N := some 25) (v := ?_) (a' := ?_) #[true, true, false, false, false, false, false, false] rfl rfl (any_of HT_.out (by kernel_rfl)) (fun _ _ _ h => h) (Or.inl ⟨by rfl, ?_⟩) ?_ ?_
              rotate_left
              · intro w'
                go_simp
                with_reducible rfl
              rotate_left
              · simp only [Act.put, List.setIfInBounds_toArray, List.set_cons_zero, List.set_cons_succ, i64_w, i32_w]
                rfl
              refine pure_ (i := 2) (N := some 26) (v := ?_) (a' := ?_) #[true, true, true, false, false, false, false, false] rfl rfl (any_of HT_.out (by kernel_rfl)) (fun _ _ _ h => h) (Or.inl ⟨by rfl, ?_⟩) ?_ ?_
              rotate_left
              · intro w'
                go_simp
                with_reducible rfl
              rotate_left
              · simp only [Act.put, List.setIfInBounds_toArray, List.set_cons_zero, List.set_cons_succ, i64_w, i32_w]
                rfl
              refine pure_ (i := 3) (N := some 27) (v := ?_) (a' := ?_) #[true, true, true, true, false, false, false, false] rfl rfl (any_of HT_.out (by kernel_rfl)) (fun _ _ _ h => h) (Or.inl ⟨by rfl, ?_⟩) ?_ ?_
              rotate_left
              · intro w'
                go_simp
                with_reducible rfl
              rotate_left
              · simp only [Act.put, List.setIfInBounds_toArray, List.set_cons_zero, List.set_cons_succ, i64_w, i32_w]
                rfl
              refine take_ (i := 4) (N := some 28) (v := ?_) (a' := ?_) #[true, true, true, true, true, false, false, false] rfl rfl (take_ofW HT_.out HW_.out (by kernel_rfl)) (fun _ _ _ h => h) (Or.inl ⟨by rfl, ?_⟩) hHeld ?_ ?_
              rotate_left
              · rintro w' ⟨s0, s1, s2, s3, s4, s5, s6, s7, s8⟩
                go_simp
                with_reducible rfl
              rotate_left
              · simp only [Act.put, List.setIfInBounds_toArray, List.set_cons_zero, List.set_cons_succ, i64_w, i32_w]
                rfl
              refine take_ (i := 5) (N := some 29) (v := ?_) (a' := ?_) #[true, true, true, true, true, true, false, false] rfl rfl (take_ofW HT_.out HW_.out (by kernel_rfl)) (fun _ _ _ h => h) (Or.inl ⟨by rfl, ?_⟩) hHeld ?_ ?_
              rotate_left
              · rintro w' ⟨s0, s1, s2, s3, s4, s5, s6, s7, s8⟩
                go_simp
                with_reducible rfl
              rotate_left
              · simp only [Act.put, List.setIfInBounds_toArray, List.set_cons_zero, List.set_cons_succ, i64_w, i32_w]
                rfl
              refine one_ (i := 6) (N := some 30) #[true, true, true, true, true, true, true, false] rfl rfl (one_of HT_.out (by kernel_rfl)) (by decide) (fun K hK => ?_)
              refine goesV_ Try.func73 (by kernel_rfl) rfl #[.agg #[.int .u64 ((rd_T32 l0 (ji5)).f0.f0.f0), .int .i64 ((rd_T32 l0 (ji5)).f0.f0.f1), .int .u64 ((rd_T32 l0 (ji5)).f0.f1), .int .i64 ((rd_T32 l0 (ji5)).f0.f2), .slice A214_4 ((rd_T32 l0 (ji5)).f1).length c214_4], .agg #[.int .u64 a1_0, .int .i64 a1_1, .int .u64 a1_2, .int .i64 a1_3]] (by rfl) rfl rfl rfl (by (try simp only [List.map_toArray, List.map_cons, List.map_nil]); first | done | (simp only [hji5]; rfl) | rfl | (simp only [List.length_drop, List.length_take]; rfl)) ?_
              with_reducible refine (content_Put_1.calls k1 ((rd_T32 l0 (ji5)).f0.f0.f0) ((rd_T32 l0 (ji5)).f0.f0.f1) ((rd_T32 l0 (ji5)).f0.f1) ((rd_T32 l0 (ji5)).f0.f2) _ _ ((rd_T32 l0 (ji5)).f1) a1_0 a1_1 a1_2 a1_3 t215 _ ?side1 ?side2 A8.out).mono ?_
              (case side1 => repeat (first | exact (Kd.C_below HR214_4.out HB.out) | (with_reducible refine Kd.C_alloc ?_ _) | (with_reducible refine Kd.C_drewN ?_ _) | (with_reducible refine Kd.C_drew ?_)))
              (case side2 => exact HC214_4.out)
              rintro e w13 ⟨rfl, hb⟩
              refine ⟨_, rfl, ?_⟩
              have n0_ := Aside0.mk (blk_below (g := gb213) (o := .cells #[.int .u64 a1_0, .int .i64 a1_1, .int .u64 a1_2, .int .i64 a1_3] 27 (0, 0)) (by (with_reducible repeat (first | refine blk_drewN ?_ _ | refine blk_drew ?_ | refine blk_alloc ?_ _)); exact BK213.out) hb)
              have n1_ := Aside0.mk (below_step (by repeat (first | (with_reducible first | exact HB.out | apply below_alloc | apply pw_below_drewN | apply below_drew1 | refine below_set ?_ GE213.out) | exact HB.out)) hb)
              clear BK213
              clear HB
              have BK213 := n0_
              have HB := n1_
              clear n0_ n1_
              (try clear hb)
              (try clear hb2)
              (try clear hk)
              (try clear hi)
              refine hK.out _ _ ⟨(blk_cell BK213.out 0).trans rfl, (blk_cell BK213.out 1).trans rfl, (blk_cell BK213.out 2).trans rfl, (blk_cell BK213.out 3).trans rfl, ((HB.out.cell (World.block_lt_of_cell? w _ hw214_0)).trans hw214_0), ((HB.out.cell (World.block_lt_of_cell? w _ hw214_1)).trans hw214_1), ((HB.out.cell (World.block_lt_of_cell? w _ hw214_2)).trans hw214_2), ((HB.out.cell (World.block_lt_of_cell? w _ hw214_3)).trans hw214_3), ((HB.out.cell (World.block_lt_of_cell? w _ hw214_4)).trans hw214_4)⟩ (fun hHeld => ?_)
              clear hK K
              refine norm_ (a' := ?_) ?_ ?_
              rotate_left
              · show Act.put _ (some 30) _ = _
                simp only [Act.put, List.setIfInBounds_toArray, List.set_cons_zero, List.set_cons_succ, i64_w, i32_w]
                rfl
              refine pure_ (i := 7) (N := some 31) (v := ?_) (a' := ?_) #[true, true, true, true, true, true, true, true] rfl rfl (any_of HT_.out (by kernel_rfl)) (fun _ _ _ h => h) (Or.inl ⟨by rfl, ?_⟩) ?_ ?_
              rotate_left
              · intro w'
                go_simp
                with_reducible rfl
              rotate_left
              · simp only [Act.put, List.setIfInBounds_toArray, List.set_cons_zero, List.set_cons_succ, i64_w, i32_w]
                rfl
              refine done_ (done_of HT_.out (by kernel_rfl)) ?_
              (try clear hHeld); (try clear HS0_)
              try go_wp2
              go_roundg k1
              case measure => have := HK1.out; omega
              case rel => exact ⟨(x9_1), (ji5), (by first | rfl | (simp; done) | (simp [*]; done)), (by first | rfl | (simp; done) | (simp only [← hji5] <;> (first | rfl | simp)) | (simp [*]; done)), H', ⟨by have := HK1.out; omega⟩, ⟨by (with_reducible repeat (first | refine blk_drewN ?_ _ | refine blk_drew ?_ | refine blk_alloc ?_ _)); exact BK213.out⟩, ⟨by repeat (first | (with_reducible first | exact HB.out | apply below_alloc | apply pw_below_drewN | apply below_drew1 | refine below_set ?_ GE213.out) | exact HB.out)⟩⟩
          · rw [if_neg c7] at H
            exact absurd H (by simp)
        · rw [if_neg c6] at H
          exact absurd H (by simp)
      · rw [if_neg c4] at H
        have c4b0 : decide (x9_1 < x10_1) = false := decide_eq_false c4
        clear c4
        by_cases c14 : x9_1 < (l0.length : Int)
        · rw [if_pos c14] at H
          have c14b0 : decide (x9_1 < (l0.length : Int)) = true := decide_eq_true c14
          clear c14
          by_cases c15 : 0 ≤ x9_1
          · rw [if_pos c15] at H
            have c15b0 : decide (0 ≤ x9_1) = true := decide_eq_true c15
            clear c15
            by_cases c16 : x9_1 < (l0.length : Int)
            · rw [if_pos c16] at H
              have c16b0 : decide (x9_1 < (l0.length : Int)) = true := decide_eq_true c16
              clear c16
              replace H := Option.bind_eq_some_iff.mp H
              obtain ⟨t217, A170, H⟩ := H
              replace H : (some (x9_1, (t217 == 0))) = some (r1, r2) := H
              have A17 := Aside0.mk A170
              clear A170
              simp only [Option.some.injEq, Prod.mk.injEq] at H
              obtain ⟨rfl, rfl⟩ := H
              try go_wp2
              have n0_ := Aside0.mk (blk_drew BK213.out)
              have n1_ := Aside0.mk (below_drew1 HB.out)
              clear BK213
              clear HB
              have BK213 := n0_
              have HB := n1_
              clear n0_ n1_
              have p216 : 0 ≤ (x9_1 : Int) := of_decide_eq_true (by first | (with_reducible assumption) | assumption)
              have q216 : x9_1 < (l0.length : Int) := of_decide_eq_true (by first | (with_reducible assumption) | assumption)
              obtain ⟨ad216, A216_4, c216_4, e216, hx216_0, hx216_1, hx216_2, hx216_3, hx216_4, hl216_4, hi216_4⟩ := at_T32 HR0.out x9_1 p216 q216
              have hw216_4 := hx216_4
              have hw216_3 := hx216_3
              have hw216_2 := hx216_2
              have hw216_1 := hx216_1
              have hw216_0 := hx216_0
              cases e216
              replace hx216_0 := (HB.out.cell (World.block_lt_of_cell? w _ hx216_0)).trans hx216_0
              replace hx216_1 := (HB.out.cell (World.block_lt_of_cell? w _ hx216_1)).trans hx216_1
              replace hx216_2 := (HB.out.cell (World.block_lt_of_cell? w _ hx216_2)).trans hx216_2
              replace hx216_3 := (HB.out.cell (World.block_lt_of_cell? w _ hx216_3)).trans hx216_3
              replace hx216_4 := (HB.out.cell (World.block_lt_of_cell? w _ hx216_4)).trans hx216_4
              have HR216_4 := Aside0.mk hi216_4
              have HC216_4 := Aside0.mk hl216_4
              clear hi216_4 hl216_4
              replace p216 := eq_true p216
              replace q216 := eq_true q216
              refine start_ (n := 16) (S := fun w' => w'.cell? ⟨gb213, 0, none⟩ = some (.int .u64 a1_0) ∧ w'.cell? ⟨gb213, 1, none⟩ = some (.int .i64 a1_1) ∧ w'.cell? ⟨gb213, 2, none⟩ = some (.int .u64 a1_2) ∧ w'.cell? ⟨gb213, 3, none⟩ = some (.int .i64 a1_3) ∧ w'.cell? (ad216.add ((x9_1).toNat * 5)) = some (.int .u64 ((rd_T32 l0 x9_1).f0.f0.f0)) ∧ w'.cell? ⟨(ad216.add ((x9_1).toNat * 5)).block, (ad216.add ((x9_1).toNat * 5)).off + 1, none⟩ = some (.int .i64 ((rd_T32 l0 x9_1).f0.f0.f1)) ∧ w'.cell? ⟨(ad216.add ((x9_1).toNat * 5)).block, (ad216.add ((x9_1).toNat * 5)).off + 2, none⟩ = some (.int .u64 ((rd_T32 l0 x9_1).f0.f1)) ∧ w'.cell? ⟨(ad216.add ((x9_1).toNat * 5)).block, (ad216.add ((x9_1).toNat * 5)).off + 3, none⟩ = some (.int .i64 ((rd_T32 l0 x9_1).f0.f2)) ∧ w'.cell? ⟨(ad216.add ((x9_1).toNat * 5)).block, (ad216.add ((x9_1).toNat * 5)).off + 4, none⟩ = some (.slice A216_4 ((rd_T32 l0 x9_1).f1).length c216_4)) (ds := []) #[false, false, false, false, false, false, false, false, false, false, false, false, false, false, false, false] (by kernel_rfl) rfl rfl ⟨(blk_cell BK213.out 0).trans rfl, (blk_cell BK213.out 1).trans rfl, (blk_cell BK213.out 2).trans rfl, (blk_cell BK213.out 3).trans rfl, ((HB.out.cell (World.block_lt_of_cell? w _ hw216_0)).trans hw216_0), ((HB.out.cell (World.block_lt_of_cell? w _ hw216_1)).trans hw216_1), ((HB.out.cell (World.block_lt_of_cell? w _ hw216_2)).trans hw216_2), ((HB.out.cell (World.block_lt_of_cell? w _ hw216_3)).trans hw216_3), ((HB.out.cell (World.block_lt_of_cell? w _ hw216_4)).trans hw216_4)⟩ (fun hHeld => ?_); refine with_tabW api_Label_70.tab8 api_Label_70.bits8 (fun HT_ HW_ => ?_)
              generalize wr.drew = w18 at BK213 HB HR216_4 hx216_0 hx216_1 hx216_2 hx216_3 hx216_4 hHeld ⊢
              refine pure_ (i := 0) (N := some 35) (v := ?_) (a' := ?_) #[true, false, false, false, false, false, false, false, false, false, false, false, false, false, false, false] rfl rfl (any_of HT_.out (by kernel_rfl)) (fun _ _ _ h => h) (Or.inl ⟨by rfl, ?_⟩) ?_ ?_
              rotate_left
              · intro w'
                go_simp
                with_reducible rfl
              rotate_left
              · simp only [Act.put, List.setIfInBounds_toArray, List.set_cons_zero, List.set_cons_succ, i64_w, i32_w]
                rfl
              refine pure_ (i := 1) (N := some 36) (v := ?_) (a' := ?_) #[true, true, false, false, false, false, false, false, false, false, false, false, false, false, false, false] rfl rfl (any_of HT_.out (by kernel_rfl)) (fun _ _ _ h => h) (Or.inl ⟨by rfl, ?_⟩) ?_ ?_
              rotate_left
              · intro w'
                go_simp
                with_reducible rfl
              rotate_left
              · simp only [Act.put, List.setIfInBounds_toArray, List.set_cons_zero, List.set_cons_succ, i64_w, i32_w]
                rfl
              refine pure_ (i := 2) (N := some 37) (v := ?_) (a' := ?_) #[true, true, true, false, false, false, false, false, false, false, false, false, false, false, false, false] rfl rfl (any_of HT_.out (by kernel_rfl)) (fun _ _ _ h => h) (Or.inl ⟨by rfl, ?_⟩) ?_ ?_
              rotate_left
              · intro w'
                go_simp
                with_reducible rfl
              rotate_left
              · simp only [Act.put, List.setIfInBounds_toArray, List.set_cons_zero, List.set_cons_succ, i64_w, i32_w]
                rfl
              refine pure_ (i := 3) (N := some 38) (v := ?_) (a' := ?_) #[true, true, true, true, false, false, false, false, false, false, false, false, false, false, false, false] rfl rfl (any_of HT_.out (by kernel_rfl)) (fun _ _ _ h => h) (Or.inl ⟨by rfl, ?_⟩) ?_ ?_
              rotate_left
              · intro w'
                go_simp
                with_reducible rfl
              rotate_left
              · simp only [Act.put, List.setIfInBounds_toArray, List.set_cons_zero, List.set_cons_succ, i64_w, i32_w]
                rfl
              refine pure_ (i := 4) (N := some 39) (v := ?_) (a' := ?_) #[true, true, true, true, true, false, false, false, false, false, false, false, false, false, false, false] rfl rfl (any_of HT_.out (by kernel_rfl)) (fun _ _ _ h => h) (Or.inl ⟨by rfl, ?_⟩) ?_ ?_
              rotate_left
              · intro w'
                go_simp
                with_reducible rfl
              rotate_left
              · simp only [Act.put, List.setIfInBounds_toArray, List.set_cons_zero, List.set_cons_succ, i64_w, i32_w]
                rfl
              refine pure_ (i := 5) (N := some 40) (v := ?_) (a' := ?_) #[true, true, true, true, true, true, false, false, false, false, false, false, false, false, false, false] rfl rfl (any_of HT_.out (by kernel_rfl)) (fun _ _ _ h => h) (Or.inl ⟨by rfl, ?_⟩) ?_ ?_
              rotate_left
              · intro w'
                go_simp
                with_reducible rfl
              rotate_left
              · simp only [Act.put, List.setIfInBounds_toArray, List.set_cons_zero, List.set_cons_succ, i64_w, i32_w]
                rfl
              refine pure_ (i := 6) (N := some 41) (v := ?_) (a' := ?_) #[true, true, true, true, true, true, true, false, false, false, false, false, false, false, false, false] rfl rfl (any_of HT_.out (by kernel_rfl)) (fun _ _ _ h => h) (Or.inl ⟨by rfl, ?_⟩) ?_ ?_
              rotate_left
              · intro w'
                go_simp
                with_reducible rfl
              rotate_left
              · simp only [Act.put, List.setIfInBounds_toArray, List.set_cons_zero, List.set_cons_succ, i64_w, i32_w]
                rfl
              refine pure_ (i := 7) (N := some 42) (v := ?_) (a' := ?_) #[true, true, true, true, true, true, true, true, false, false, false, false, false, false, false, false] rfl rfl (any_of HT_.out (by kernel_rfl)) (fun _ _ _ h => h) (Or.inl ⟨by rfl, ?_⟩) ?_ ?_
              rotate_left
              · intro w'
                go_simp
                with_reducible rfl
              rotate_left
              · simp only [Act.put, List.setIfInBounds_toArray, List.set_cons_zero, List.set_cons_succ, i64_w, i32_w]
                rfl
              refine pure_ (i := 8) (N := some 43) (v := ?_) (a' := ?_) #[true, true, true, true, true, true, true, true, true, false, false, false, false, false, false, false] rfl rfl (any_of HT_.out (by kernel_rfl)) (fun _ _ _ h => h) (Or.inl ⟨by rfl, ?_⟩) ?_ ?_
              rotate_left
              · intro w'
                go_simp
                with_reducible rfl
              rotate_left
              · simp only [Act.put, List.setIfInBounds_toArray, List.set_cons_zero, List.set_cons_succ, i64_w, i32_w]
                rfl
              refine take_ (i := 9) (N := some 44) (v := ?_) (a' := ?_) #[true, true, true, true, true, true, true, true, true, true, false, false, false, false, false, false] rfl rfl (take_ofW HT_.out HW_.out (by kernel_rfl)) (fun _ _ _ h => h) (Or.inl ⟨by rfl, ?_⟩) hHeld ?_ ?_
              rotate_left
              · rintro w' ⟨s0, s1, s2, s3, s4, s5, s6, s7, s8⟩
                go_simp
                with_reducible rfl
              rotate_left
              · simp only [Act.put, List.setIfInBounds_toArray, List.set_cons_zero, List.set_cons_succ, i64_w, i32_w]
                rfl
              refine take_ (i := 10) (N := some 45) (v := ?_) (a' := ?_) #[true, true, true, true, true, true, true, true, true, true, true, false, false, false, false, false] rfl rfl (take_ofW HT_.out HW_.out (by kernel_rfl)) (fun _ _ _ h => h) (Or.inl ⟨by rfl, ?_⟩) hHeld ?_ ?_
              rotate_left
              · rintro w' ⟨s0, s1, s2, s3, s4, s5, s6, s7, s8⟩
                go_simp
                with_reducible rfl
              rotate_left
              · simp only [Act.put, List.setIfInBounds_toArray, List.set_cons_zero, List.set_cons_succ, i64_w, i32_w]
                rfl
              refine one_ (i := 11) (N := some 46) #[true, true, true, true, true, true, true, true, true, true, true, true, false, false, false, false] rfl rfl (one_of HT_.out (by kernel_rfl)) (by decide) (fun K hK => ?_)
              refine goesV_ Try.func73 (by kernel_rfl) rfl #[.agg #[.int .u64 ((rd_T32 l0 x9_1).f0.f0.f0), .int .i64 ((rd_T32 l0 x9_1).f0.f0.f1), .int .u64 ((rd_T32 l0 x9_1).f0.f1), .int .i64 ((rd_T32 l0 x9_1).f0.f2), .slice A216_4 ((rd_T32 l0 x9_1).f1).length c216_4], .agg #[.int .u64 a1_0, .int .i64 a1_1, .int .u64 a1_2, .int .i64 a1_3]] (by rfl) rfl rfl rfl (by (try simp only [List.map_toArray, List.map_cons, List.map_nil]); first | done | rfl | (simp only [List.length_drop, List.length_take]; rfl)) ?_
              with_reducible refine (content_Put_1.calls k1 ((rd_T32 l0 x9_1).f0.f0.f0) ((rd_T32 l0 x9_1).f0.f0.f1) ((rd_T32 l0 x9_1).f0.f1) ((rd_T32 l0 x9_1).f0.f2) _ _ ((rd_T32 l0 x9_1).f1) a1_0 a1_1 a1_2 a1_3 t217 _ ?side1 ?side2 A17.out).mono ?_
              (case side1 => repeat (first | exact (Kd.C_below HR216_4.out HB.out) | (with_reducible refine Kd.C_alloc ?_ _) | (with_reducible refine Kd.C_drewN ?_ _) | (with_reducible refine Kd.C_drew ?_)))
              (case side2 => exact HC216_4.out)
              rintro e w19 ⟨rfl, hb⟩
              refine ⟨_, rfl, ?_⟩
              have n0_ := Aside0.mk (blk_below (g := gb213) (o := .cells #[.int .u64 a1_0, .int .i64 a1_1, .int .u64 a1_2, .int .i64 a1_3] 27 (0, 0)) (by (with_reducible repeat (first | refine blk_drewN ?_ _ | refine blk_drew ?_ | refine blk_alloc ?_ _)); exact BK213.out) hb)
              have n1_ := Aside0.mk (below_step (by repeat (first | (with_reducible first | exact HB.out | apply below_alloc | apply pw_below_drewN | apply below_drew1 | refine below_set ?_ GE213.out) | exact HB.out)) hb)
              clear BK213
              clear HB
              have BK213 := n0_
              have HB := n1_
              clear n0_ n1_
              (try clear hb)
              (try clear hb2)
              (try clear hk)
              (try clear hi)
              refine hK.out _ _ ⟨(blk_cell BK213.out 0).trans rfl, (blk_cell BK213.out 1).trans rfl, (blk_cell BK213.out 2).trans rfl, (blk_cell BK213.out 3).trans rfl, ((HB.out.cell (World.block_lt_of_cell? w _ hw216_0)).trans hw216_0), ((HB.out.cell (World.block_lt_of_cell? w _ hw216_1)).trans hw216_1), ((HB.out.cell (World.block_lt_of_cell? w _ hw216_2)).trans hw216_2), ((HB.out.cell (World.block_lt_of_cell? w _ hw216_3)).trans hw216_3), ((HB.out.cell (World.block_lt_of_cell? w _ hw216_4)).trans hw216_4)⟩ (fun hHeld => ?_)
              clear hK K
              refine norm_ (a' := ?_) ?_ ?_
              rotate_left
              · show Act.put _ (some 46) _ = _
                simp only [Act.put, List.setIfInBounds_toArray, List.set_cons_zero, List.set_cons_succ, i64_w, i32_w]
                rfl
              refine pure_ (i := 12) (N := some 47) (v := ?_) (a' := ?_) #[true, true, true, true, true, true, true, true, true, true, true, true, true, false, false, false] rfl rfl (any_of HT_.out (by kernel_rfl)) (fun _ _ _ h => h) (Or.inl ⟨by rfl, ?_⟩) ?_ ?_
              rotate_left
              · intro w'
                go_simp
                with_reducible rfl
              rotate_left
              · simp only [Act.put, List.setIfInBounds_toArray, List.set_cons_zero, List.set_cons_succ, i64_w, i32_w]
                rfl
              refine pure_ (i := 13) (N := some 48) (v := ?_) (a' := ?_) #[true, true, true, true, true, true, true, true, true, true, true, true, true, true, false, false] rfl rfl (any_of HT_.out (by kernel_rfl)) (fun _ _ _ h => h) (Or.inl ⟨by rfl, ?_⟩) ?_ ?_
              rotate_left
              · intro w'
                go_simp
                with_reducible rfl
              rotate_left
              · simp only [Act.put, List.setIfInBounds_toArray, List.set_cons_zero, List.set_cons_succ, i64_w, i32_w]
                rfl
              refine pure_ (i := 14) (N := some 6) (v := ?_) (a' := ?_) #[true, true, true, true, true, true, true, true, true, true, true, true, true, true, true, false] rfl rfl (any_of HT_.out (by kernel_rfl)) (fun _ _ _ h => h) (Or.inl ⟨by rfl, ?_⟩) ?_ ?_
              rotate_left
              · intro w'
                go_simp
                with_reducible rfl
              rotate_left
              · simp only [Act.put, List.setIfInBounds_toArray, List.set_cons_zero, List.set_cons_succ, i64_w, i32_w]
                rfl
              refine pure_ (i := 15) (N := some 7) (v := ?_) (a' := ?_) #[true, true, true, true, true, true, true, true, true, true, true, true, true, true, true, true] rfl rfl (any_of HT_.out (by kernel_rfl)) (fun _ _ _ h => h) (Or.inl ⟨by rfl, ?_⟩) ?_ ?_
              rotate_left
              · intro w'
                go_simp
                with_reducible rfl
              rotate_left
              · simp only [Act.put, List.setIfInBounds_toArray, List.set_cons_zero, List.set_cons_succ, i64_w, i32_w]
                rfl
              refine done_ (done_of HT_.out (by kernel_rfl)) ?_
              (try clear hHeld); (try clear HS0_)
              try go_wp2
              go_ret2
              exact ⟨by first | rfl | (simp [errW_none, errW_some] <;> rfl) | (simp [*, errW_none, errW_some] <;> rfl), by repeat (first | (with_reducible first | exact HB.out | apply below_alloc | apply pw_below_drewN | apply below_drew1 | refine below_set ?_ GE213.out) | exact HB.out)⟩
            · rw [if_neg c16] at H
              exact absurd H (by simp)
          · rw [if_neg c15] at H
            exact absurd H (by simp)
        · rw [if_neg c14] at H
          have c14b0 : decide (x9_1 < (l0.length : Int)) = false := decide_eq_false c14
          clear c14
          simp only [Option.some.injEq, Prod.mk.injEq] at H
          obtain ⟨rfl, rfl⟩ := H
          try go_wp2
          have n0_ := Aside0.mk (blk_drew BK213.out)
          have n1_ := Aside0.mk (below_drew1 HB.out)
          clear BK213
          clear HB
          have BK213 := n0_
          have HB := n1_
          clear n0_ n1_
          refine start_ (n := 16) (S := fun w' => True) (ds := []) #[false, false, false, false, false, false, false, false, false, false, false, false, false, false, false, false] (by kernel_rfl) rfl rfl trivial (fun hHeld => ?_); refine with_tabW api_Label_70.tab8 api_Label_70.bits8 (fun HT_ HW_ => ?_)
          generalize wr.drew = w20 at BK213 HB hHeld ⊢
          refine pure_ (i := 0) (N := some 35) (v := ?_) (a' := ?_) #[true, false, false, false, false, false, false, false, false, false, false, false, false, false, false, false] rfl rfl (any_of HT_.out (by kernel_rfl)) (fun _ _ _ h => h) (Or.inl ⟨by rfl, ?_⟩) ?_ ?_
          rotate_left
          · intro w'
            go_simp
            with_reducible rfl
          rotate_left
          · simp only [Act.put, List.setIfInBounds_toArray, List.set_cons_zero, List.set_cons_succ, i64_w, i32_w]
            rfl
          refine pure_ (i := 1) (N := some 36) (v := ?_) (a' := ?_) #[true, true, false, false, false, false, false, false, false, false, false, false, false, false, false, false] rfl rfl (any_of HT_.out (by kernel_rfl)) (fun _ _ _ h => h) (Or.inl ⟨by rfl, ?_⟩) ?_ ?_
          rotate_left
          · intro w'
            go_simp
            with_reducible rfl
          rotate_left
          · simp only [Act.put, List.setIfInBounds_toArray, List.set_cons_zero, List.set_cons_succ, i64_w, i32_w]
            rfl
          refine pure_ (i := 2) (N := some 37) (v := ?_) (a' := ?_) #[true, true, true, false, false, false, false, false, false, false, false, false, false, false, false, false] rfl rfl (any_of HT_.out (by kernel_rfl)) (fun _ _ _ h => h) (Or.inl ⟨by rfl, ?_⟩) ?_ ?_
          rotate_left
          · intro w'
            go_simp
            with_reducible rfl
          rotate_left
          · simp only [Act.put, List.setIfInBounds_toArray, List.set_cons_zero, List.set_cons_succ, i64_w, i32_w]
            rfl
          refine pure_ (i := 3) (N := some 38) (v := ?_) (a' := ?_) #[true, true, true, true, false, false, false, false, false, false, false, false, false, false, false, false] rfl rfl (any_of HT_.out (by kernel_rfl)) (fun _ _ _ h => h) (Or.inl ⟨by rfl, ?_⟩) ?_ ?_
          rotate_left
          · intro w'
            go_simp
            with_reducible rfl
          rotate_left
          · simp only [Act.put, List.setIfInBounds_toArray, List.set_cons_zero, List.set_cons_succ, i64_w, i32_w]
            rfl
          refine pure_ (i := 4) (N := some 39) (v := ?_) (a' := ?_) #[true, true, true, true, true, false, false, false, false, false, false, false, false, false, false, false] rfl rfl (any_of HT_.out (by kernel_rfl)) (fun _ _ _ h => h) (Or.inl ⟨by rfl, ?_⟩) ?_ ?_
          rotate_left
          · intro w'
            go_simp
            with_reducible rfl
          rotate_left
          · simp only [Act.put, List.setIfInBounds_toArray, List.set_cons_zero, List.set_cons_succ, i64_w, i32_w]
            rfl
          refine pure_ (i := 5) (N := some 40) (v := undef) (a' := ?_) #[true, true, true, true, true, true, false, false, false, false, false, false, false, false, false, false] rfl rfl (any_of HT_.out (by kernel_rfl)) (fun _ _ _ h => h) (Or.inr ⟨by rfl, rfl⟩) ?_ ?_
          rotate_left
          · simp only [Act.put, List.setIfInBounds_toArray, List.set_cons_zero, List.set_cons_succ, i64_w, i32_w]
            rfl
          refine pure_ (i := 6) (N := some 41) (v := undef) (a' := ?_) #[true, true, true, true, true, true, true, false, false, false, false, false, false, false, false, false] rfl rfl (any_of HT_.out (by kernel_rfl)) (fun _ _ _ h => h) (Or.inr ⟨by rfl, rfl⟩) ?_ ?_
          rotate_left
          · simp only [Act.put, List.setIfInBounds_toArray, List.set_cons_zero, List.set_cons_succ, i64_w, i32_w]
            rfl
          refine pure_ (i := 7) (N := some 42) (v := undef) (a' := ?_) #[true, true, true, true, true, true, true, true, false, false, false, false, false, false, false, false] rfl rfl (any_of HT_.out (by kernel_rfl)) (fun _ _ _ h => h) (Or.inr ⟨by rfl, rfl⟩) ?_ ?_
          rotate_left
          · simp only [Act.put, List.setIfInBounds_toArray, List.set_cons_zero, List.set_cons_succ, i64_w, i32_w]
            rfl
          refine pure_ (i := 8) (N := some 43) (v := undef) (a' := ?_) #[true, true, true, true, true, true, true, true, true, false, false, false, false, false, false, false] rfl rfl (any_of HT_.out (by kernel_rfl)) (fun _ _ _ h => h) (Or.inr ⟨by rfl, rfl⟩) ?_ ?_
          rotate_left
          · simp only [Act.put, List.setIfInBounds_toArray, List.set_cons_zero, List.set_cons_succ, i64_w, i32_w]
            rfl
          refine pure_ (i := 9) (N := some 44) (v := undef) (a' := ?_) #[true, true, true, true, true, true, true, true, true, true, false, false, false, false, false, false] rfl rfl (any_of HT_.out (by kernel_rfl)) (fun _ _ _ h => h) (Or.inr ⟨by rfl, rfl⟩) ?_ ?_
          rotate_left
          · simp only [Act.put, List.setIfInBounds_toArray, List.set_cons_zero, List.set_cons_succ, i64_w, i32_w]
            rfl
          refine pure_ (i := 10) (N := some 45) (v := undef) (a' := ?_) #[true, true, true, true, true, true, true, true, true, true, true, false, false, false, false, false] rfl rfl (any_of HT_.out (by kernel_rfl)) (fun _ _ _ h => h) (Or.inr ⟨by rfl, rfl⟩) ?_ ?_
          rotate_left
          · simp only [Act.put, List.setIfInBounds_toArray, List.set_cons_zero, List.set_cons_succ, i64_w, i32_w]
            rfl
          refine pure_ (i := 11) (N := some 46) (v := undef) (a' := ?_) #[true, true, true, true, true, true, true, true, true, true, true, true, false, false, false, false] rfl rfl (any_of HT_.out (by kernel_rfl)) (fun _ _ _ h => h) (Or.inr ⟨by rfl, rfl⟩) ?_ ?_
          rotate_left
          · simp only [Act.put, List.setIfInBounds_toArray, List.set_cons_zero, List.set_cons_succ, i64_w, i32_w]
            rfl
          refine pure_ (i := 12) (N := some 47) (v := undef) (a' := ?_) #[true, true, true, true, true, true, true, true, true, true, true, true, true, false, false, false] rfl rfl (any_of HT_.out (by kernel_rfl)) (fun _ _ _ h => h) (Or.inr ⟨by rfl, rfl⟩) ?_ ?_
          rotate_left
          · simp only [Act.put, List.setIfInBounds_toArray, List.set_cons_zero, List.set_cons_succ, i64_w, i32_w]
            rfl
          refine pure_ (i := 13) (N := some 48) (v := ?_) (a' := ?_) #[true, true, true, true, true, true, true, true, true, true, true, true, true, true, false, false] rfl rfl (any_of HT_.out (by kernel_rfl)) (fun _ _ _ h => h) (Or.inl ⟨by rfl, ?_⟩) ?_ ?_
          rotate_left
          · intro w'
            go_simp
            with_reducible rfl
          rotate_left
          · simp only [Act.put, List.setIfInBounds_toArray, List.set_cons_zero, List.set_cons_succ, i64_w, i32_w]
            rfl
          refine pure_ (i := 14) (N := some 6) (v := ?_) (a' := ?_) #[true, true, true, true, true, true, true, true, true, true, true, true, true, true, true, false] rfl rfl (any_of HT_.out (by kernel_rfl)) (fun _ _ _ h => h) (Or.inl ⟨by rfl, ?_⟩) ?_ ?_
          rotate_left
          · intro w'
            go_simp
            with_reducible rfl
          rotate_left
          · simp only [Act.put, List.setIfInBounds_toArray, List.set_cons_zero, List.set_cons_succ, i64_w, i32_w]
            rfl
          refine pure_ (i := 15) (N := some 7) (v := ?_) (a' := ?_) #[true, true, true, true, true, true, true, true, true, true, true, true, true, true, true, true] rfl rfl (any_of HT_.out (by kernel_rfl)) (fun _ _ _ h => h) (Or.inl ⟨by rfl, ?_⟩) ?_ ?_
          rotate_left
          · intro w'
            go_simp
            with_reducible rfl
          rotate_left
          · simp only [Act.put, List.setIfInBounds_toArray, List.set_cons_zero, List.set_cons_succ, i64_w, i32_w]
            rfl
          refine done_ (done_of HT_.out (by kernel_rfl)) ?_
          (try clear hHeld); (try clear HS0_)
          try go_wp2
          go_ret2
          exact ⟨by first | rfl | (simp [errW_none, errW_some] <;> rfl) | (simp [*, errW_none, errW_some] <;> rfl), by repeat (first | (with_reducible first | exact HB.out | apply below_alloc | apply pw_below_drewN | apply below_drew1 | refine below_set ?_ GE213.out) | exact HB.out)⟩

end Go.Proofs.Ytioooiflpabngaa.PAll

namespace Go.Proofs.Ytioooiflpabngaa.PAll
open Go.RowKit Go.Proofs.YtioooiflpabngaaW.PrintWords Go.Proofs.YtioooiflpabngaaW.PrintLast Go.Proofs.YtioooiflpabngaaW.PrintMore
set_option linter.unusedVariables false
set_option linter.unusedSimpArgs false

theorem rise_of_risingE : ∀ {l : List S32}, risingE l = true → Rise l
  | [], _ => List.Pairwise.nil
  | [a], _ => List.pairwise_singleton _ _
  | a :: b :: l, h => by
    unfold risingE at h
    simp only [Bool.and_eq_true, decide_eq_true_eq] at h
    have ih := rise_of_risingE h.2
    refine List.pairwise_cons.2 ⟨fun y hy => ?_, ih⟩
    have hab := (cmpL_neg _ _).1 h.1
    rcases List.mem_cons.1 hy with rfl | hy
    · exact hab
    · exact ltL_trans hab ((List.pairwise_cons.1 ih).1 y hy)
theorem putE_split (x : S32) : ∀ (l : List S32) (n : Nat), n ≤ l.length → (∀ t (ht : t < l.length), t < n → cmpL l[t].f0 x.f0 < 0) → (∀ t (ht : t < l.length), n ≤ t → ¬ cmpL l[t].f0 x.f0 < 0) →
    putE l x = if (if h : n < l.length then decide (cmpL l[n].f0 x.f0 = 0) else false) = true then l else l.take n ++ [x] ++ l.drop n := by
  intro l
  induction l with
  | nil => intro n h1 h2 h3; simp at h1; subst h1; simp [putE]
  | cons a l ih =>
    intro n h1 h2 h3
    cases n with
    | zero =>
      have h0 := h3 0 (by simp) (Nat.le_refl _)
      simp only [List.getElem_cons_zero] at h0
      rw [putE, if_neg h0]
      by_cases hc : cmpL a.f0 x.f0 = 0 <;> simp [hc]
    | succ n =>
      have h0 := h2 0 (by simp) (Nat.succ_pos _)
      simp only [List.getElem_cons_zero] at h0
      rw [putE, if_pos h0, ih n (by simpa using h1) (fun t ht htn => by have h4 := h2 (t + 1) (by simpa using ht) (by omega); rwa [List.getElem_cons_succ] at h4) (fun t ht htn => by have h4 := h3 (t + 1) (by simpa using ht) (by omega); rwa [List.getElem_cons_succ] at h4)]
      by_cases hlt : n < l.length
      · by_cases hc : cmpL l[n].f0 x.f0 = 0 <;> simp [hlt, hc]
      · simp [hlt]

theorem reps_all {α : Type} {R : α → List Value → Prop} {sz : Nat} {ps : List α} {cs : List Value} {C : Value → Prop} (hsz : 0 < sz) (h : Reps R sz ps cs) (h1 : ∀ p c, R p c → ∀ u ∈ c, C u) : ∀ u ∈ cs, C u := by
  intro u hu
  obtain ⟨t, ht, rfl⟩ := List.getElem_of_mem hu
  have hl := h.1
  have hj : t / sz < ps.length := Nat.div_lt_of_lt_mul (by rw [Nat.mul_comm]; omega)
  refine h1 _ _ (h.2 (t / sz) _ (List.getElem?_eq_getElem hj)) _ (List.mem_iff_getElem?.2 ⟨t % sz, ?_⟩)
  have e : t / sz * sz + t % sz = t := by rw [Nat.mul_comm]; exact Nat.div_add_mod t sz
  rw [List.getElem?_take, if_pos (Nat.mod_lt _ hsz), List.getElem?_drop, e, List.getElem?_eq_getElem ht]
theorem step_callS {P : Program} {w : World} {ops : Array Oper} {o : Oper} {a : Act} {K : Act → World → Prop} {Q : Exit → Act → World → Prop} {E : Prop} (hgd : o.guard = none) {f : FuncId} {fn : Func} {as_ : Array Operand} {ts : Array TypeId} (hf : P.funcs[f]? = some fn) (hname : (fn.name == "runtime.NumGoroutine") = false) (hb : fn.body.isSome = true) (args : Array Value)
    (hop : o.op = .call { callee := .value (.func f), args := as_, argTypes := ts }) (hargs : as_.map a.eval = args)
    (h : Calls P f args w fun e w' => ∃ v, e = .returned v ∧ K (a.put o.dst v) w') : if Region.wanted o (yielded ops a.tmps) = true then Oper.wp P o a w K Q else E := by
  have hw : Region.wanted o (yielded ops a.tmps) = true := by simp [Region.wanted, hgd]
  have h2 := goes_ (ops := ops) (Q := Q) (K := K) (N := o.dst) hf hname hb args hw rfl hop hargs h
  rw [if_pos hw] at h2 ⊢
  exact h2
theorem size_alloc_ (W : World) (o : Obj) : (W.alloc o).heap.size = W.heap.size + 1 := Array.size_push ..
theorem size_drew_ (W : World) : W.drew.heap.size = W.heap.size := rfl
theorem own_below {w w1 : World} {base n sz : Nat} {e : TypeId} {v : Value} {xs : List Value} (h : w.ownsRow base e sz v n xs) (hb : Below w.heap.size w w1) : w1.ownsRow base e sz v n xs :=
  own_move h fun k hk => hb.block k (h.lt k hk).2
theorem own_ne_new {w : World} {base n sz : Nat} {e : TypeId} {v : Value} {xs : List Value} (h : w.ownsRow base e sz v n xs) : v.ownBlock ≠ some w.heap.size := fun he => by have := (h.lt _ he).2; omega
theorem own_ne_old {w : World} {base n sz vb : Nat} {e : TypeId} {v : Value} {xs : List Value} (h : w.ownsRow base e sz v n xs) (hv : vb < base) : v.ownBlock ≠ some vb := fun he => by have := (h.lt _ he).1; omega

theorem ne_of_R {wb wc : World} {e e2 base base2 n sz : Nat} {ok : Nat → Prop} {v1 v2 : Value} {xs : List Int} {ys : List Value} (hB : Kd.R (Kd.int .u8) e2 wb base2 ok v2 xs) (hC : wc.ownsRow base e sz v1 n ys) (h : wc.heap.size ≤ base2 ∨ wb.heap.size ≤ base) : ∀ k, some k = v2.ownBlock → some k ≠ v1.ownBlock := by
  intro k h1 h2
  obtain ⟨_, inn, ho, _⟩ := hB
  have a := ho.lt k h1.symm
  have b := hC.lt k h2.symm
  omega
/-- What stands at the end: the row with one more, its elements where they were, the new one's bytes a copy. -/
theorem put_end {P0 : Nat → Prop} {w wb wc wf : World} {l0 : List S32} {inner : List Value} {n base base2 : Nat} {v1 v3 : Value} {A2 : Option Addr} {c2 : Nat} (hrep : Reps (fun x c => Kd.FK k32 w P0 x c) 5 l0 inner) (hn : n ≤ l0.length) (x : S32)
    (hB : Kd.R (Kd.int .u8) 5 wb base2 (fun _ => True) (.slice A2 x.f1.length c2) x.f1) (hwb : w.heap.size ≤ wb.heap.size) (hbc : Below wb.heap.size wb wc) (hfr : ∀ k, k < wc.heap.size → some k ≠ v1.ownBlock → wf.heap[k]? = wc.heap[k]?)
    (hwc : Below w.heap.size w wc) (hf : Below w.heap.size wc wf) (hown : wf.ownsRow base 32 5 v3 (l0.length + 1) (inner.take (n * 5) ++ [.int .u64 x.f0.f0.f0, .int .i64 x.f0.f0.f1, .int .u64 x.f0.f1, .int .i64 x.f0.f2, .slice A2 x.f1.length c2] ++ inner.drop (n * 5)))
    (hm : l0.length + 1 ≤ 9223372036854775807) (hne : ∀ k, some k = (Value.slice A2 x.f1.length c2).ownBlock → some k ≠ v1.ownBlock) (hbs : w.heap.size ≤ base) (hb2 : w.heap.size ≤ base2) :
    Kd.V k32 32 wf w.heap.size (fun k_ => (P0 k_ ∨ w.heap.size ≤ k_)) v3 (l0.take n ++ [x] ++ l0.drop n) ∧ Below w.heap.size w wf := by
  have hall : Below w.heap.size w wf := hwc.trans hf
  refine ⟨?_, hall⟩
  have hold : Reps (fun x c => Kd.FK k32 wf (fun k_ => P0 k_ ∨ w.heap.size ≤ k_) x c) 5 l0 inner :=
    hrep.imp_ (fun _ _ hp => Kd.FK_mono (Kd.FK_below hp hall) (fun k hk => .inl hk))
  obtain ⟨_, inn, ho, _⟩ := id hB
  have hbl : ∀ k, some k = (Value.slice A2 x.f1.length c2).ownBlock → w.heap.size ≤ k ∧ k < wb.heap.size := fun k hk => by
    have := ho.lt k hk.symm
    omega
  have hcap : x.f1.length ≤ c2 := by
    rcases ho.2 with ⟨he, h0⟩ | ⟨g, cap, cur, he, _, _, hnc, _⟩
    · injection he with _ h1 h2
      omega
    · injection he with _ h1 h2
      omega
  have hF0 : Kd.F (Kd.int .u8) wb (fun k => some k = (Value.slice A2 x.f1.length c2).ownBlock) A2 x.f1.length x.f1 := Kd.R_F (Kd.R_tight rfl hB)
  have hF1 : Kd.F (Kd.int .u8) wc (fun k => some k = (Value.slice A2 x.f1.length c2).ownBlock) A2 x.f1.length x.f1 := Kd.F_below hF0 hbc
  have hF2 : Kd.F (Kd.int .u8) wf (fun k => some k = (Value.slice A2 x.f1.length c2).ownBlock) A2 x.f1.length x.f1 :=
    Kd.F_step hF1 (fun k hk hlt => hfr k hlt (hne k hk))
  have hx : Kd.FK k32 wf (fun k_ => P0 k_ ∨ w.heap.size ≤ k_) x [.int .u64 x.f0.f0.f0, .int .i64 x.f0.f0.f1, .int .u64 x.f0.f1, .int .i64 x.f0.f2, .slice A2 x.f1.length c2] :=
    k32_mkF wf _ x hcap (Kd.F_mono hF2 (fun k hk => .inr (hbl k hk).1))
  have hone : Reps (fun x c => Kd.FK k32 wf (fun k_ => P0 k_ ∨ w.heap.size ≤ k_) x c) 5 [x] [.int .u64 x.f0.f0.f0, .int .i64 x.f0.f0.f1, .int .u64 x.f0.f1, .int .i64 x.f0.f2, .slice A2 x.f1.length c2] := by
    refine ⟨rfl, fun j p hj => ?_⟩
    rcases j with _ | j
    · injection hj with hj
      subst hj
      exact hx
    · cases hj
  have hr := Kd.reps_append (Kd.reps_append (Kd.reps_take hold hn) hone) (Kd.reps_drop (m := n) hold)
  exact (V_of_own (d := k32) (ok := fun k_ => P0 k_ ∨ w.heap.size ≤ k_) (ok' := fun k_ => P0 k_ ∨ w.heap.size ≤ k_) hown (by simp; omega) hr (fun k hk => hk) (fun k hk => .inr (by omega)) hm : Kd.V k32 32 wf base (fun k_ => P0 k_ ∨ w.heap.size ≤ k_) v3 (l0.take n ++ [x] ++ l0.drop n))

set_option maxHeartbeats 2000000 in
set_option maxRecDepth 100000 in
theorem content_Put.calls (P0_ : Nat → Prop) (A0 : Option Addr) (c0 : Nat) (l0 : List S32) (a1_0 a1_1 a1_2 a1_3 : Int) (A1_4 : Option Addr) (c1_4 : Nat) (l1_4 : List Int) (r : List S32) (w : World) (hs0 : Kd.V k32 32 w w.heap.size (fun k_ => P0_ k_) (.slice A0 l0.length c0) l0) (hr1_4 : Kd.C (Kd.int .u8) w A1_4 l1_4.length l1_4) (hc1_4 : l1_4.length ≤ c1_4) (h : content_Put.f l0 a1_0 a1_1 a1_2 a1_3 l1_4 = some r) :
    Calls Try.prog 26 #[.slice A0 l0.length c0, .agg #[.int .u64 a1_0, .int .i64 a1_1, .int .u64 a1_2, .int .i64 a1_3, .slice A1_4 l1_4.length c1_4]] w fun e w' => ∃ v0_ : Value, e = .returned (v0_) ∧ Kd.V k32 32 w' w.heap.size (fun k_ => (P0_ k_ ∨ w.heap.size ≤ k_)) v0_ r ∧ Below w.heap.size w w' := by
  obtain ⟨⟨hrise, hlen, hml⟩, rfl⟩ := of_if_some h
  clear h
  have hR := rise_of_risingE hrise
  obtain ⟨n, hn1, hA, hB', hev⟩ := search_ev l0 ⟨⟨a1_0, a1_1⟩, a1_2, a1_3⟩ hR (by omega)
  rw [putE_split ⟨⟨⟨a1_0, a1_1⟩, a1_2, a1_3⟩, l1_4⟩ l0 n hn1 hA hB']
  obtain ⟨k, hk⟩ := hev.get
  clear hev hA hB' hrise
  have hu32 := Try.underlying32
  have HS0 := Aside0.mk hs0
  have HR0 := Aside0.mk (Kd.V_reads' hs0).2.2
  have HC0 := Aside0.mk (Kd.V_reads' hs0).2.1
  have HR4 := Aside0.mk hr1_4
  have HC4 := Aside0.mk hc1_4
  have HRise := Aside0.mk hR
  have HLen := Aside0.mk hlen
  have HML := Aside0.mk hml
  have HN1 := Aside0.mk hn1
  clear hs0 hr1_4 hc1_4 hR hlen hml hn1
  have HB := Aside0.mk (Below.refl w.heap.size w)
  by_cases hf : (if h : n < l0.length then decide (cmpL l0[n].f0 ⟨⟨a1_0, a1_1⟩, a1_2, a1_3⟩ = 0) else false) = true
  · rw [if_pos hf]
    rw [hf] at hk
    have HK := Aside0.mk (show api_Label_70.f k l0 a1_0 a1_1 a1_2 a1_3 = some ((n : Int), true) from hk)
    clear hk hf
    go_enter Try.func26, Try.ntmps26
    go_wp2_with (first | ((with_reducible refine gate_dst (N := 3) rfl ?_); refine box_event ?hg (N := 3) ?hd (cs := #[.int .u64 a1_0, .int .i64 a1_1, .int .u64 a1_2, .int .i64 a1_3, .slice A1_4 l1_4.length c1_4]) (t := 32) ?hr ?_; (case hd => rfl); (case hg => rfl); (case hr => first | (go_simp; done) | (go_simp; rfl)); intro gb hg w3 hbox hb; have BK := Aside0.mk hbox; have HB3 := Aside0.mk hb; have HG := Aside0.mk hg; have hcz0 : w3.cell? ⟨gb, 0, none⟩ = some (.int .u64 a1_0) := (blk_cell BK.out 0).trans rfl; have hcz1 : w3.cell? ⟨gb, 1, none⟩ = some (.int .i64 a1_1) := (blk_cell BK.out 1).trans rfl; have hcz2 : w3.cell? ⟨gb, 2, none⟩ = some (.int .u64 a1_2) := (blk_cell BK.out 2).trans rfl; have hcz3 : w3.cell? ⟨gb, 3, none⟩ = some (.int .i64 a1_3) := (blk_cell BK.out 3).trans rfl; have hfz0 := blk_frozen BK.out 0; have hfz1 := blk_frozen BK.out 1; have hfz2 := blk_frozen BK.out 2; have hfz3 := blk_frozen BK.out 3; clear hbox hb hg) | ((with_reducible refine gate_callee (f := 70) rfl ?_); refine goesL_ (some 11) rfl rfl Try.func70 (by kernel_rfl) rfl #[.slice A0 l0.length c0, .agg #[.int .u64 a1_0, .int .i64 a1_1, .int .u64 a1_2, .int .i64 a1_3], .func (.func 73) #[] #[]] rfl (by (try simp only [List.map_toArray, List.map_cons, List.map_nil]); first | done | rfl) ?_; (with_reducible refine (api_Label_70p.calls k _ _ l0 a1_0 a1_1 a1_2 a1_3 _ _ _ ?side1 ?side2 HK.out).mono ?_); (case side1 => exact Kd.C_below HR0.out HB3.out); (case side2 => exact HC0.out); rintro e w10 ⟨rfl, hb⟩; refine ⟨_, rfl, ?_⟩; have HB4 := Aside0.mk (below_step HB3.out hb); clear hb))
    go_ret
    exact ⟨_, rfl, Kd.V_mono (Kd.V_below HS0.out HB4.out) (fun k_ hk => .inl hk), HB4.out⟩
  · rw [if_neg hf]
    rw [Bool.not_eq_true] at hf
    rw [hf] at hk
    have HK := Aside0.mk (show api_Label_70.f k l0 a1_0 a1_1 a1_2 a1_3 = some ((n : Int), false) from hk)
    clear hk hf
    have mixed : Try.prog.follows Departure.mixedOrders = true := by kernel_rfl
    obtain ⟨inner, hrep, hcell⟩ : ∃ inner, Reps (fun x c => Kd.FK k32 w (fun k_ => P0_ k_) x c) 5 l0 inner ∧ ∀ ad, A0 = some ad → ∀ j u, inner[j]? = some u → w.cell? (ad.add j) = some u := by
      have hrows := Kd.F_rows (Kd.V_F HS0.out)
      rcases A0 with _ | ad
      · have hnil := C_none HR0.out
        subst hnil
        exact ⟨[], Reps.none _ _, fun ad h => by cases h⟩
      · obtain ⟨inner, h1, h2⟩ := hrows.inner_
        exact ⟨inner, h1, fun ad' h => by injection h with h; subst h; exact h2⟩
    have HREP := Aside0.mk hrep
    have HCELL := Aside0.mk hcell
    have HIL := Aside0.mk hrep.1
    have HI1 := Aside0.mk (reps_all (C := fun u => u.oneCell' = true) (by decide) hrep (fun p c hp => k32.K_one (Kd.FK_now hp)))
    have HA0 := Aside0.mk (show A0 = none → l0.length = 0 from fun h => by subst h; rw [C_none HR0.out]; rfl)
    clear hrep hcell
    go_enter Try.func26, Try.ntmps26
    go_wp2_with (first | ((with_reducible refine gate_dst (N := 3) rfl ?_); refine box_event ?hg (N := 3) ?hd (cs := #[.int .u64 a1_0, .int .i64 a1_1, .int .u64 a1_2, .int .i64 a1_3, .slice A1_4 l1_4.length c1_4]) (t := 32) ?hr ?_; (case hd => rfl); (case hg => rfl); (case hr => first | (go_simp; done) | (go_simp; rfl)); intro gb hg w3 hbox hb; have BK := Aside0.mk hbox; have HB3 := Aside0.mk hb; have HG := Aside0.mk hg; have hcz0 : w3.cell? ⟨gb, 0, none⟩ = some (.int .u64 a1_0) := (blk_cell BK.out 0).trans rfl; have hcz1 : w3.cell? ⟨gb, 1, none⟩ = some (.int .i64 a1_1) := (blk_cell BK.out 1).trans rfl; have hcz2 : w3.cell? ⟨gb, 2, none⟩ = some (.int .u64 a1_2) := (blk_cell BK.out 2).trans rfl; have hcz3 : w3.cell? ⟨gb, 3, none⟩ = some (.int .i64 a1_3) := (blk_cell BK.out 3).trans rfl; have hfz0 := blk_frozen BK.out 0; have hfz1 := blk_frozen BK.out 1; have hfz2 := blk_frozen BK.out 2; have hfz3 := blk_frozen BK.out 3; clear hbox hb hg) | ((with_reducible refine gate_callee (f := 70) rfl ?_); refine goesL_ (some 11) rfl rfl Try.func70 (by kernel_rfl) rfl #[.slice A0 l0.length c0, .agg #[.int .u64 a1_0, .int .i64 a1_1, .int .u64 a1_2, .int .i64 a1_3], .func (.func 73) #[] #[]] rfl (by (try simp only [List.map_toArray, List.map_cons, List.map_nil]); first | done | rfl) ?_; (with_reducible refine (api_Label_70p.calls k _ _ l0 a1_0 a1_1 a1_2 a1_3 _ _ _ ?side1 ?side2 HK.out).mono ?_); (case side1 => exact Kd.C_below HR0.out HB3.out); (case side2 => exact HC0.out); rintro e w10 ⟨rfl, hb⟩; refine ⟨_, rfl, ?_⟩; have HB4 := Aside0.mk (below_step HB3.out hb); have BK4 := Aside0.mk (blk_below BK.out hb); clear hb; have hcy0 : w10.cell? ⟨gb, 0, none⟩ = some (.int .u64 a1_0) := (blk_cell BK4.out 0).trans rfl; have hcy1 : w10.cell? ⟨gb, 1, none⟩ = some (.int .i64 a1_1) := (blk_cell BK4.out 1).trans rfl; have hcy2 : w10.cell? ⟨gb, 2, none⟩ = some (.int .u64 a1_2) := (blk_cell BK4.out 2).trans rfl; have hcy3 : w10.cell? ⟨gb, 3, none⟩ = some (.int .i64 a1_3) := (blk_cell BK4.out 3).trans rfl; have hcy4 : w10.cell? ⟨gb, 4, none⟩ = some (.slice A1_4 l1_4.length c1_4) := (blk_cell BK4.out 4).trans rfl; have hfy0 := blk_frozen BK4.out 0; have hfy1 := blk_frozen BK4.out 1; have hfy2 := blk_frozen BK4.out 2; have hfy3 := blk_frozen BK4.out 3; have hfy4 := blk_frozen BK4.out 4))
    go_region_law_o (first
      | (refine step_callS rfl (f := 75) Try.func75 (by kernel_rfl) rfl #[.slice A0 l0.length c0] rfl (by simp [Act.eval, Act.put]) ?_; refine (clone_E A0 l0.length c0 inner _ HIL.out HA0.out (fun ad e_ j u hu => pw_cell_below (by repeat (first | exact HB4.out | exact HBB.out | exact HBC.out | apply below_drew1 | apply pw_below_drewN | apply below_alloc)) (HCELL.out ad e_ j u hu)) HI1.out HLen.out).mono ?_; rintro e wc ⟨v1, rfl, hown, hb⟩; refine ⟨_, rfl, ?_⟩; have HOC := Aside0.mk hown; have HBC0 := Aside0.mk hb; have HBC := Aside0.mk (below_step (by repeat (first | exact HB4.out | exact HBB.out | exact HBC.out | apply below_drew1 | apply pw_below_drewN | apply below_alloc)) hb); have BKC := Aside0.mk (blk_below (g := gb) (o := .cells #[.int .u64 a1_0, .int .i64 a1_1, .int .u64 a1_2, .int .i64 a1_3, .slice A1_4 l1_4.length c1_4] 32 (0, 0)) (by (repeat (first | exact BK4.out | exact BKB.out | exact BKC.out | refine blk_drewN ?_ _ | refine blk_drew ?_ | refine blk_alloc ?_ _))) hb); have hwc0 : wc.cell? ⟨gb, 0, none⟩ = some (.int .u64 a1_0) := (blk_cell BKC.out 0).trans rfl; have hwc1 : wc.cell? ⟨gb, 1, none⟩ = some (.int .i64 a1_1) := (blk_cell BKC.out 1).trans rfl; have hwc2 : wc.cell? ⟨gb, 2, none⟩ = some (.int .u64 a1_2) := (blk_cell BKC.out 2).trans rfl; have hwc3 : wc.cell? ⟨gb, 3, none⟩ = some (.int .i64 a1_3) := (blk_cell BKC.out 3).trans rfl; have hwc4 : wc.cell? ⟨gb, 4, none⟩ = some (.slice A1_4 l1_4.length c1_4) := (blk_cell BKC.out 4).trans rfl; have fwc0 := blk_frozen BKC.out 0; have fwc1 := blk_frozen BKC.out 1; have fwc2 := blk_frozen BKC.out 2; have fwc3 := blk_frozen BKC.out 3; have fwc4 := blk_frozen BKC.out 4; clear hown hb)
      | (refine step_callS rfl (f := 72) Try.func72 (by kernel_rfl) rfl #[.slice A1_4 l1_4.length c1_4] rfl (by simp [Act.eval, Act.put]) ?_; refine (bytes_Clone.calls A1_4 c1_4 l1_4 l1_4 _ (Kd.C_below HR4.out (by repeat (first | exact HB4.out | exact HBB.out | exact HBC.out | apply below_drew1 | apply pw_below_drewN | apply below_alloc))) HC4.out (by unfold bytes_Clone.f; rw [if_pos HML.out])).mono ?_; rintro e wb ⟨v2, rfl, ho, hb⟩; obtain ⟨A2, c2, rfl⟩ := Kd.R_slice ho; refine ⟨_, rfl, ?_⟩; have HOB := Aside0.mk ho; have HBB0 := Aside0.mk hb; have HBB := Aside0.mk (below_step (by repeat (first | exact HB4.out | exact HBB.out | exact HBC.out | apply below_drew1 | apply pw_below_drewN | apply below_alloc)) hb); have BKB := Aside0.mk (blk_below (g := gb) (o := .cells #[.int .u64 a1_0, .int .i64 a1_1, .int .u64 a1_2, .int .i64 a1_3, .slice A1_4 l1_4.length c1_4] 32 (0, 0)) (by (repeat (first | exact BK4.out | exact BKB.out | exact BKC.out | refine blk_drewN ?_ _ | refine blk_drew ?_ | refine blk_alloc ?_ _))) hb); have hwb0 : wb.cell? ⟨gb, 0, none⟩ = some (.int .u64 a1_0) := (blk_cell BKB.out 0).trans rfl; have hwb1 : wb.cell? ⟨gb, 1, none⟩ = some (.int .i64 a1_1) := (blk_cell BKB.out 1).trans rfl; have hwb2 : wb.cell? ⟨gb, 2, none⟩ = some (.int .u64 a1_2) := (blk_cell BKB.out 2).trans rfl; have hwb3 : wb.cell? ⟨gb, 3, none⟩ = some (.int .i64 a1_3) := (blk_cell BKB.out 3).trans rfl; have hwb4 : wb.cell? ⟨gb, 4, none⟩ = some (.slice A1_4 l1_4.length c1_4) := (blk_cell BKB.out 4).trans rfl; have fwb0 := blk_frozen BKB.out 0; have fwb1 := blk_frozen BKB.out 1; have fwb2 := blk_frozen BKB.out 2; have fwb3 := blk_frozen BKB.out 3; have fwb4 := blk_frozen BKB.out 4; clear ho hb)
      | (refine step_callS rfl (f := 74) Try.func74 (by kernel_rfl) rfl #[v1, .int .i64 (n : Int), .slice (some ⟨wb.heap.size, 0, none⟩) 1 1] rfl (by simp [Act.eval, Act.put]) ?_; refine (insert_one v1 l0.length n wb.heap.size inner [.int .u64 a1_0, .int .i64 a1_1, .int .u64 a1_2, .int .i64 a1_3, .slice A2 l1_4.length c2] _ _ HN1.out (by first | exact HOC.out | exact World.ownsRow.alloc HOC.out _ | exact World.ownsRow.alloc (own_below HOC.out HBB0.out) _ | exact own_below HOC.out HBB0.out) (by have s0_ := HB4.out.size; have s1_ := HBC0.out.size; have s2_ := HBB0.out.size; (try simp only [size_alloc_, size_drew_] at s0_ s1_ s2_ ⊢); omega) (by first | exact blk_new _ _ | exact blk_below (blk_new _ _) HBC0.out) rfl (by first | exact own_ne_new HOC.out | exact own_ne_new (own_below HOC.out HBB0.out) | exact own_ne_old HOC.out (by simp only [size_alloc_, size_drew_]; omega)) (by intro u hu; simp only [List.mem_cons, List.not_mem_nil, or_false] at hu; rcases hu with rfl | rfl | rfl | rfl | rfl <;> rfl) HI1.out HLen.out).mono ?_; rintro e wf ⟨v3, rfl, hown3, hb3, hfr3⟩; refine ⟨_, rfl, ?_⟩; have HO3 := Aside0.mk hown3; have HB3' := Aside0.mk hb3; have HFR := Aside0.mk hfr3; clear hown3 hb3 hfr3)
      | (refine step_callS rfl (f := 74) Try.func74 (by kernel_rfl) rfl #[v1, .int .i64 (n : Int), .slice (some ⟨wc.heap.size, 0, none⟩) 1 1] rfl (by simp [Act.eval, Act.put]) ?_; refine (insert_one v1 l0.length n wc.heap.size inner [.int .u64 a1_0, .int .i64 a1_1, .int .u64 a1_2, .int .i64 a1_3, .slice A2 l1_4.length c2] _ _ HN1.out (by first | exact HOC.out | exact World.ownsRow.alloc HOC.out _ | exact World.ownsRow.alloc (own_below HOC.out HBB0.out) _ | exact own_below HOC.out HBB0.out) (by have s0_ := HB4.out.size; have s1_ := HBC0.out.size; have s2_ := HBB0.out.size; (try simp only [size_alloc_, size_drew_] at s0_ s1_ s2_ ⊢); omega) (by first | exact blk_new _ _ | exact blk_below (blk_new _ _) HBC0.out) rfl (by first | exact own_ne_new HOC.out | exact own_ne_new (own_below HOC.out HBB0.out) | exact own_ne_old HOC.out (by simp only [size_alloc_, size_drew_]; omega)) (by intro u hu; simp only [List.mem_cons, List.not_mem_nil, or_false] at hu; rcases hu with rfl | rfl | rfl | rfl | rfl <;> rfl) HI1.out HLen.out).mono ?_; rintro e wf ⟨v3, rfl, hown3, hb3, hfr3⟩; refine ⟨_, rfl, ?_⟩; have HO3 := Aside0.mk hown3; have HB3' := Aside0.mk hb3; have HFR := Aside0.mk hfr3; clear hown3 hb3 hfr3))
    all_goals go_wp2
    all_goals go_ret
    all_goals exact ⟨v3, rfl, put_end (c2 := c2) HREP.out HN1.out (⟨⟨⟨a1_0, a1_1⟩, a1_2, a1_3⟩, l1_4⟩ : S32) HOB.out HBB.out.size (by repeat (first | exact Below.refl _ _ | exact below_step (by repeat (first | exact Below.refl _ _ | apply below_alloc | apply below_drew1)) HBC0.out | apply below_alloc | apply below_drew1)) HFR.out (by repeat (first | exact HB4.out | exact HBB.out | exact HBC.out | apply below_drew1 | apply pw_below_drewN | apply below_alloc)) (HB3'.out.mono (by have s0_ := HB4.out.size; have s1_ := HBC0.out.size; have s2_ := HBB0.out.size; (try simp only [size_alloc_, size_drew_] at s0_ s1_ s2_ ⊢); omega)) HO3.out (by have := HLen.out; omega) (ne_of_R HOB.out HOC.out (by first | exact .inl (by have s0_ := HB4.out.size; have s1_ := HBC0.out.size; have s2_ := HBB0.out.size; (try simp only [size_alloc_, size_drew_] at s0_ s1_ s2_ ⊢); omega) | exact .inr (by have s0_ := HB4.out.size; have s1_ := HBC0.out.size; have s2_ := HBB0.out.size; (try simp only [size_alloc_, size_drew_] at s0_ s1_ s2_ ⊢); omega))) (by have s0_ := HB4.out.size; have s1_ := HBC0.out.size; have s2_ := HBB0.out.size; (try simp only [size_alloc_, size_drew_] at s0_ s1_ s2_ ⊢); omega) (by have s0_ := HB4.out.size; have s1_ := HBC0.out.size; have s2_ := HBB0.out.size; (try simp only [size_alloc_, size_drew_] at s0_ s1_ s2_ ⊢); omega)⟩
end Go.Proofs.Ytioooiflpabngaa.PAll

namespace Go.Proofs.Ytioooiflpabngaa.PAll
open Go.RowKit Go.Proofs.YtioooiflpabngaaW.PrintWords Go.Proofs.YtioooiflpabngaaW.PrintLast Go.Proofs.YtioooiflpabngaaW.PrintMore
attribute [local go_sem] max2_int min2_int max_two min_two max_three min_three max_four min_four   -- for this text's walks alone
set_option linter.unusedVariables false
set_option linter.unusedSimpArgs false

/-! ### content_Merge: function 28 -/
def content_Merge.l0 : Nat → List (S32) → List (S32) → Int → Int → Option ((List (S32)))
  | 0, _, _, _, _ => none
  | k + 1, x0, x7, x8, x9 => if x9 < x8 then (if 0 ≤ x9 then (if x9 < (x7.length : Int) then ((content_Put.f x0 ((rd_T32 x7 x9).f0.f0.f0) ((rd_T32 x7 x9).f0.f0.f1) ((rd_T32 x7 x9).f0.f1) ((rd_T32 x7 x9).f0.f2) ((rd_T32 x7 x9).f1)).bind fun t280 => (content_Merge.l0 k t280 x7 x8 (wrap64 (x9 + 1)))) else (none)) else (none)) else (some x0)
def content_Merge.f (k : Nat) (l0 : List (S32)) (l1 : List (S32)) : Option ((List (S32))) := content_Merge.l0 k l0 l1 (l1.length : Int) 0
theorem content_Merge.mono_l : ∀ k, (∀ y0 y1 y2 y3, LeO (content_Merge.l0 k y0 y1 y2 y3) (content_Merge.l0 (k + 1) y0 y1 y2 y3))
  | 0 => fun _ _ _ _ r h => by simp [content_Merge.l0] at h
  | k + 1 => by
    have ih0 := content_Merge.mono_l k
    · intro y0 y1 y2 y3
      unfold content_Merge.l0
      repeat' first
      | (with_reducible exact ih0 _ _ _ _)
      | (with_reducible exact LeO.refl _)
      | (with_reducible exact LeO.none _)
      | (with_reducible refine LeO.ite ?_ ?_)
      | (with_reducible refine LeO.bind ?_ (fun _ => ?_))
      | exact ih0 _ _ _ _
      | exact LeO.none _
      | refine LeO.ite ?_ ?_
      | refine LeO.bind ?_ (fun _ => ?_)
theorem content_Merge.mono : ∀ a0 a1 k, LeO (content_Merge.f k a0 a1) (content_Merge.f (k + 1) a0 a1) := by
  intro a0 a1 k
  have ih0 := content_Merge.mono_l k
  unfold content_Merge.f
  repeat' first
      | (with_reducible exact ih0 _ _ _ _)
      | (with_reducible exact LeO.refl _)
      | (with_reducible exact LeO.none _)
      | (with_reducible refine LeO.ite ?_ ?_)
      | (with_reducible refine LeO.bind ?_ (fun _ => ?_))
      | exact ih0 _ _ _ _
      | exact LeO.none _
      | refine LeO.ite ?_ ?_
      | refine LeO.bind ?_ (fun _ => ?_)
set_option maxHeartbeats 8000000 in
set_option maxRecDepth 100000 in
theorem content_Merge.calls (k : Nat) (P0_ : Nat → Prop) (A0 : Option Addr) (c0 : Nat) (l0 : List (S32)) (A1 : Option Addr) (c1 : Nat) (l1 : List (S32)) (r : List (S32)) (w : World) (hs0 : Kd.V k32 32 w w.heap.size (fun k_ => P0_ k_) (.slice A0 l0.length c0) l0) (hr1 : Kd.C k32 w A1 l1.length l1) (hc1 : l1.length ≤ c1) (h : content_Merge.f k l0 l1 = some r) :
    Calls Try.prog 28 #[.slice A0 l0.length c0, .slice A1 l1.length c1] w fun e w' => ∃ v0_ : Value, e = .returned (v0_) ∧ Kd.V k32 32 w' w.heap.size (fun k_ => (P0_ k_ ∨ w.heap.size ≤ k_)) v0_ r ∧ Below w.heap.size w w' := by
  have hu32 := Try.underlying32
  have HO0 := Aside0.mk (show Kd.V k32 32 w w.heap.size (fun k_ => (P0_ k_ ∨ w.heap.size ≤ k_)) (.slice A0 l0.length c0) l0 from Kd.V_mono hs0 (fun k_ hk => .inl hk))
  have HR1 := Aside0.mk hr1
  have HC1 := Aside0.mk hc1
  clear hr1 hc1
  have HB := Aside0.mk (Below.refl w.heap.size w)
  have H : (content_Merge.l0 k l0 l1 (l1.length : Int) 0) = some r := h
  clear h
  have H' := Aside0.mk H
  clear H
  go_enter Try.func28, Try.ntmps28
  go_wp2
  go_loopg [0, 9] k (fun kq v0 v9 w' => ∃ (x0_1 : List (S32)) (x9_1 : Int), v9 = .int .i64 x9_1 ∧ Aside0 (content_Merge.l0 kq x0_1 l1 (l1.length : Int) x9_1 = some r) ∧ Aside0 (kq ≤ k) ∧ Aside0 (Kd.V k32 32 w' w.heap.size (fun k_ => (P0_ k_ ∨ w.heap.size ≤ k_)) v0 x0_1) ∧ Aside0 (Below w.heap.size w w'))
  case atStart => exact ⟨(l0), (0), (by first | rfl | (simp; done) | (simp [*]; done)), H', ⟨Nat.le_refl _⟩, ⟨by (with_reducible repeat (first | apply Kd.V_alloc | apply Kd.V_drewN | apply Kd.V_drew)); exact HO0.out⟩, ⟨by repeat (first | (with_reducible first | exact HB.out | apply below_alloc | apply pw_below_drewN | apply below_drew1) | exact HB.out)⟩⟩
  case round =>
    clear H'
    try clear c1
    try clear c2
    try clear p2
    obtain ⟨x0_1, x9_1, rfl, HA, HK1, HO_0, HB⟩ := hrel
    cases gk with
    | zero => exact absurd HA.out (by simp [content_Merge.l0])
    | succ k1 =>
      have H := HA.out
      clear HA
      simp only [content_Merge.l0] at H
      by_cases c3 : x9_1 < (l1.length : Int)
      · rw [if_pos c3] at H
        have c3b0 : decide (x9_1 < (l1.length : Int)) = true := decide_eq_true c3
        clear c3
        by_cases c4 : 0 ≤ x9_1
        · rw [if_pos c4] at H
          have c4b0 : decide (0 ≤ x9_1) = true := decide_eq_true c4
          clear c4
          by_cases c5 : x9_1 < (l1.length : Int)
          · rw [if_pos c5] at H
            have c5b0 : decide (x9_1 < (l1.length : Int)) = true := decide_eq_true c5
            clear c5
            replace H := Option.bind_eq_some_iff.mp H
            obtain ⟨t280, A60, H⟩ := H
            replace H : (content_Merge.l0 k1 t280 l1 (l1.length : Int) (wrap64 (x9_1 + 1))) = some r := H
            have A6 := Aside0.mk A60
            clear A60
            have H' := Aside0.mk H
            clear H
            have p278 : 0 ≤ (x9_1 : Int) := of_decide_eq_true (by first | (with_reducible assumption) | assumption)
            have q278 : x9_1 < (l1.length : Int) := of_decide_eq_true (by first | (with_reducible assumption) | assumption)
            obtain ⟨ad278, A278_4, c278_4, e278, hx278_0, hx278_1, hx278_2, hx278_3, hx278_4, hl278_4, hi278_4⟩ := at_T32 HR1.out x9_1 p278 q278
            cases e278
            replace hx278_0 := (HB.out.cell (World.block_lt_of_cell? w _ hx278_0)).trans hx278_0
            replace hx278_1 := (HB.out.cell (World.block_lt_of_cell? w _ hx278_1)).trans hx278_1
            replace hx278_2 := (HB.out.cell (World.block_lt_of_cell? w _ hx278_2)).trans hx278_2
            replace hx278_3 := (HB.out.cell (World.block_lt_of_cell? w _ hx278_3)).trans hx278_3
            replace hx278_4 := (HB.out.cell (World.block_lt_of_cell? w _ hx278_4)).trans hx278_4
            have HR278_4 := Aside0.mk hi278_4
            have HC278_4 := Aside0.mk hl278_4
            clear hi278_4 hl278_4
            replace p278 := eq_true p278
            replace q278 := eq_true q278
            go_wp2_with (first | ((with_reducible refine gate_dst (N := 6) rfl ?_); refine box_event ?hg (N := 6) ?hd (cs := #[.int .u64 0, .int .i64 0, .int .u64 0, .int .i64 0, .slice none 0 0]) (t := 32) ?hr ?_; (case hd => rfl); (case hg => rfl); (case hr => first | (go_simp; done) | (go_simp; rfl)); intro gb279 hg w7 hbox hb; have n0_ := Aside0.mk (Kd.V_below (Kd.V_elderB (by (with_reducible repeat (first | apply Kd.V_alloc | apply Kd.V_drewN | apply Kd.V_drew)); exact HO_0.out) gb279 (Nat.le_of_eq hg.symm)) hb); have n1_ := Aside0.mk (below_step (by repeat (first | (with_reducible first | exact HB.out | apply below_alloc | apply pw_below_drewN | apply below_drew1) | exact HB.out)) hb); have n2_ := Aside0.mk (hbox); have n3_ := Aside0.mk ((by rw [hg]; exact (below_size (by repeat (first | (with_reducible first | exact HB.out | apply below_alloc | apply pw_below_drewN | apply below_drew1) | exact HB.out))) : w.heap.size ≤ gb279)); have n4_ := Aside0.mk ((by rw [hg]; exact (below_size (by repeat (first | (with_reducible first | exact HB.out | apply below_alloc | apply pw_below_drewN | apply below_drew1) | exact HB.out))) : w.heap.size ≤ gb279)); clear HO_0; clear HB; have HO_0 := n0_; have HB := n1_; have BK279 := n2_; have GW279 := n3_; have GE279 := n4_; clear n0_ n1_ n2_ n3_ n4_; clear hb hbox hg; have hcz8_0 : w7.cell? ⟨gb279, 0, none⟩ = some (.int .u64 0) := (blk_cell BK279.out 0).trans rfl; have hcz8_1 : w7.cell? ⟨gb279, 1, none⟩ = some (.int .i64 0) := (blk_cell BK279.out 1).trans rfl; have hcz8_2 : w7.cell? ⟨gb279, 2, none⟩ = some (.int .u64 0) := (blk_cell BK279.out 2).trans rfl; have hcz8_3 : w7.cell? ⟨gb279, 3, none⟩ = some (.int .i64 0) := (blk_cell BK279.out 3).trans rfl; have hcz8_4 : w7.cell? ⟨gb279, 4, none⟩ = some (.slice none 0 0) := (blk_cell BK279.out 4).trans rfl; have hfz8_0 := blk_frozen BK279.out 0; have hfz8_1 := blk_frozen BK279.out 1; have hfz8_2 := blk_frozen BK279.out 2; have hfz8_3 := blk_frozen BK279.out 3; have hfz8_4 := blk_frozen BK279.out 4) | ((with_reducible refine gate_store (t := 32) (p := 6) rfl ?_); refine store_event (t := 32) (p := 6) (v := ?vo_w9) (w1 := (((((w7.setCell ⟨gb279, 0, none⟩ (.int .u64 ((rd_T32 l1 x9_1).f0.f0.f0))).setCell ⟨gb279, 1, none⟩ (.int .i64 ((rd_T32 l1 x9_1).f0.f0.f1))).setCell ⟨gb279, 2, none⟩ (.int .u64 ((rd_T32 l1 x9_1).f0.f1))).setCell ⟨gb279, 3, none⟩ (.int .i64 ((rd_T32 l1 x9_1).f0.f2))).setCell ⟨gb279, 4, none⟩ (.slice A278_4 ((rd_T32 l1 x9_1).f1).length c278_4))) ?hg ?ho ?hn ?hr ?_; (case ho => rfl); (case hg => rfl); (case hn => rfl); (case hr => first | (go_simp; done) | (go_simp; rfl)); intro w9 hw; have n0_ : Aside0 (Kd.V k32 32 w9 w.heap.size (fun k_ => (P0_ k_ ∨ w.heap.size ≤ k_) ∧ k_ ≠ gb279) u0 x0_1) := ⟨(by rw [hw]; exact (by (with_reducible repeat (first | apply Kd.V_alloc | apply Kd.V_drewN | apply Kd.V_drew)); exact Kd.V_mono (Kd.V_far (p := ⟨gb279, 4, none⟩) (Kd.V_far (p := ⟨gb279, 3, none⟩) (Kd.V_far (p := ⟨gb279, 2, none⟩) (Kd.V_far (p := ⟨gb279, 1, none⟩) (Kd.V_far (p := ⟨gb279, 0, none⟩) (Kd.V_mono HO_0.out (fun k_ hk => (⟨hk, hk.2⟩ : _ ∧ k_ ≠ gb279))) (fun _ hk => hk.2) (.int .u64 ((rd_T32 l1 x9_1).f0.f0.f0))) (fun _ hk => hk.2) (.int .i64 ((rd_T32 l1 x9_1).f0.f0.f1))) (fun _ hk => hk.2) (.int .u64 ((rd_T32 l1 x9_1).f0.f1))) (fun _ hk => hk.2) (.int .i64 ((rd_T32 l1 x9_1).f0.f2))) (fun _ hk => hk.2) (.slice A278_4 ((rd_T32 l1 x9_1).f1).length c278_4)) (fun _ hk => ⟨hk.1.1, hk.1.2⟩)))⟩; have n1_ : Aside0 (w9.heap[gb279]? = some (.cells #[.int .u64 ((rd_T32 l1 x9_1).f0.f0.f0), .int .i64 ((rd_T32 l1 x9_1).f0.f0.f1), .int .u64 ((rd_T32 l1 x9_1).f0.f1), .int .i64 ((rd_T32 l1 x9_1).f0.f2), .slice A278_4 ((rd_T32 l1 x9_1).f1).length c278_4] 32 (0, 0))) := ⟨(by rw [hw]; exact (by (with_reducible repeat (first | refine blk_drewN ?_ _ | refine blk_drew ?_ | refine blk_alloc ?_ _)); refine blk_put (cs := #[.int .u64 ((rd_T32 l1 x9_1).f0.f0.f0), .int .i64 ((rd_T32 l1 x9_1).f0.f0.f1), .int .u64 ((rd_T32 l1 x9_1).f0.f1), .int .i64 ((rd_T32 l1 x9_1).f0.f2), .slice none 0 0]) ?_ 4 _ rfl; (with_reducible repeat (first | refine blk_drewN ?_ _ | refine blk_drew ?_ | refine blk_alloc ?_ _)); refine blk_put (cs := #[.int .u64 ((rd_T32 l1 x9_1).f0.f0.f0), .int .i64 ((rd_T32 l1 x9_1).f0.f0.f1), .int .u64 ((rd_T32 l1 x9_1).f0.f1), .int .i64 0, .slice none 0 0]) ?_ 3 _ rfl; (with_reducible repeat (first | refine blk_drewN ?_ _ | refine blk_drew ?_ | refine blk_alloc ?_ _)); refine blk_put (cs := #[.int .u64 ((rd_T32 l1 x9_1).f0.f0.f0), .int .i64 ((rd_T32 l1 x9_1).f0.f0.f1), .int .u64 0, .int .i64 0, .slice none 0 0]) ?_ 2 _ rfl; (with_reducible repeat (first | refine blk_drewN ?_ _ | refine blk_drew ?_ | refine blk_alloc ?_ _)); refine blk_put (cs := #[.int .u64 ((rd_T32 l1 x9_1).f0.f0.f0), .int .i64 0, .int .u64 0, .int .i64 0, .slice none 0 0]) ?_ 1 _ rfl; (with_reducible repeat (first | refine blk_drewN ?_ _ | refine blk_drew ?_ | refine blk_alloc ?_ _)); refine blk_put (cs := #[.int .u64 0, .int .i64 0, .int .u64 0, .int .i64 0, .slice none 0 0]) ?_ 0 _ rfl; (with_reducible repeat (first | refine blk_drewN ?_ _ | refine blk_drew ?_ | refine blk_alloc ?_ _)); exact BK279.out))⟩; have n2_ : Aside0 (Below w.heap.size w w9) := ⟨(by rw [hw]; exact (by repeat (first | (with_reducible first | exact HB.out | apply below_alloc | apply pw_below_drewN | apply below_drew1 | refine below_set ?_ GE279.out) | exact HB.out)))⟩; clear hw; clear HO_0; clear BK279; clear HB; have HO_0 := n0_; have BK279 := n1_; have HB := n2_; clear n0_ n1_ n2_; have hcz10_0 : w9.cell? ⟨gb279, 0, none⟩ = some (.int .u64 ((rd_T32 l1 x9_1).f0.f0.f0)) := (blk_cell BK279.out 0).trans rfl; have hcz10_1 : w9.cell? ⟨gb279, 1, none⟩ = some (.int .i64 ((rd_T32 l1 x9_1).f0.f0.f1)) := (blk_cell BK279.out 1).trans rfl; have hcz10_2 : w9.cell? ⟨gb279, 2, none⟩ = some (.int .u64 ((rd_T32 l1 x9_1).f0.f1)) := (blk_cell BK279.out 2).trans rfl; have hcz10_3 : w9.cell? ⟨gb279, 3, none⟩ = some (.int .i64 ((rd_T32 l1 x9_1).f0.f2)) := (blk_cell BK279.out 3).trans rfl; have hcz10_4 : w9.cell? ⟨gb279, 4, none⟩ = some (.slice A278_4 ((rd_T32 l1 x9_1).f1).length c278_4) := (blk_cell BK279.out 4).trans rfl; have hfz10_0 := blk_frozen BK279.out 0; have hfz10_1 := blk_frozen BK279.out 1; have hfz10_2 := blk_frozen BK279.out 2; have hfz10_3 := blk_frozen BK279.out 3; have hfz10_4 := blk_frozen BK279.out 4; obtain ⟨Ao11, co11, eo11⟩ := Kd.V_slice HO_0.out; subst eo11) | ((with_reducible refine gate_callee (f := 26) rfl ?_); refine goesL_ (some 15) rfl rfl Try.func26 (by kernel_rfl) rfl #[.slice Ao11 x0_1.length co11, .agg #[.int .u64 ((rd_T32 l1 x9_1).f0.f0.f0), .int .i64 ((rd_T32 l1 x9_1).f0.f0.f1), .int .u64 ((rd_T32 l1 x9_1).f0.f1), .int .i64 ((rd_T32 l1 x9_1).f0.f2), .slice A278_4 ((rd_T32 l1 x9_1).f1).length c278_4]] rfl (by (try simp only [List.map_toArray, List.map_cons, List.map_nil]); first | done | rfl | (simp only [List.length_drop, List.length_take]; rfl)) ?_; (with_reducible refine (content_Put.calls (fun k_ => ((P0_ k_ ∨ w.heap.size ≤ k_) ∧ k_ ≠ gb279)) _ _ x0_1 ((rd_T32 l1 x9_1).f0.f0.f0) ((rd_T32 l1 x9_1).f0.f0.f1) ((rd_T32 l1 x9_1).f0.f1) ((rd_T32 l1 x9_1).f0.f2) _ _ ((rd_T32 l1 x9_1).f1) t280 _ ?side1 ?side2 ?side3 A6.out).mono ?_); (case side1 => exact HO_0.out); (case side2 => repeat (first | exact (Kd.C_below HR278_4.out HB.out) | (with_reducible refine Kd.C_alloc ?_ _) | (with_reducible refine Kd.C_drewN ?_ _) | (with_reducible refine Kd.C_drew ?_))); (case side3 => exact HC278_4.out); rintro e w12 ⟨v281, rfl, ho0, hb⟩; refine ⟨_, rfl, ?_⟩; have n0_ := Aside0.mk (Kd.V_below (by (with_reducible repeat (first | apply Kd.V_alloc | apply Kd.V_drewN | apply Kd.V_drew)); exact HO_0.out) hb); have n1_ := Aside0.mk (Kd.V_lower (Kd.V_mono (ok' := fun k_ => (P0_ k_ ∨ w.heap.size ≤ k_) ∧ k_ ≠ gb279) ho0 (fun k_ hk_ => ⟨Or.elim hk_ (fun hs_ => hs_.1) (fun hn_ => (.inr (Nat.le_trans (below_size (by repeat (first | (with_reducible first | exact HB.out | apply below_alloc | apply pw_below_drewN | apply below_drew1 | refine below_set ?_ GE279.out) | exact HB.out))) hn_))), Or.elim hk_ (fun hs_ => hs_.2) (fun hn_ => (Kd.freshB (g := gb279) (o := .cells #[.int .u64 ((rd_T32 l1 x9_1).f0.f0.f0), .int .i64 ((rd_T32 l1 x9_1).f0.f0.f1), .int .u64 ((rd_T32 l1 x9_1).f0.f1), .int .i64 ((rd_T32 l1 x9_1).f0.f2), .slice A278_4 ((rd_T32 l1 x9_1).f1).length c278_4] 32 (0, 0)) (by (with_reducible repeat (first | refine blk_drewN ?_ _ | refine blk_drew ?_ | refine blk_alloc ?_ _)); exact BK279.out) k_ hn_))⟩)) (below_size (by repeat (first | (with_reducible first | exact HB.out | apply below_alloc | apply pw_below_drewN | apply below_drew1 | refine below_set ?_ GE279.out) | exact HB.out)))); have n2_ := Aside0.mk (blk_below (g := gb279) (o := .cells #[.int .u64 ((rd_T32 l1 x9_1).f0.f0.f0), .int .i64 ((rd_T32 l1 x9_1).f0.f0.f1), .int .u64 ((rd_T32 l1 x9_1).f0.f1), .int .i64 ((rd_T32 l1 x9_1).f0.f2), .slice A278_4 ((rd_T32 l1 x9_1).f1).length c278_4] 32 (0, 0)) (by (with_reducible repeat (first | refine blk_drewN ?_ _ | refine blk_drew ?_ | refine blk_alloc ?_ _)); exact BK279.out) hb); have n3_ := Aside0.mk (below_step (by repeat (first | (with_reducible first | exact HB.out | apply below_alloc | apply pw_below_drewN | apply below_drew1 | refine below_set ?_ GE279.out) | exact HB.out)) hb); clear HO_0; clear BK279; clear HB; have HO_0 := n0_; have HO282 := n1_; have BK279 := n2_; have HB := n3_; clear n0_ n1_ n2_ n3_; (try clear hb); (try clear hb2); (try clear hk); (try clear hi); (try clear ho0)))
            go_roundg k1
            case measure => have := HK1.out; omega
            case rel => exact ⟨(t280), (wrap64 (x9_1 + 1)), (by first | rfl | (simp; done) | (simp [*]; done)), H', ⟨by have := HK1.out; omega⟩, ⟨by (with_reducible repeat (first | apply Kd.V_alloc | apply Kd.V_drewN | apply Kd.V_drew)); exact Kd.V_mono HO282.out (fun _ hk => hk.1)⟩, ⟨by repeat (first | (with_reducible first | exact HB.out | apply below_alloc | apply pw_below_drewN | apply below_drew1 | refine below_set ?_ GE279.out) | exact HB.out)⟩⟩
          · rw [if_neg c5] at H
            exact absurd H (by simp)
        · rw [if_neg c4] at H
          exact absurd H (by simp)
      · rw [if_neg c3] at H
        have c3b0 : decide (x9_1 < (l1.length : Int)) = false := decide_eq_false c3
        clear c3
        obtain rfl := Option.some.inj H
        go_wp2
        go_ret
        exact ⟨_, by first | rfl | (simp [errW_none, errW_some] <;> rfl) | (simp [*, errW_none, errW_some] <;> rfl), by (with_reducible repeat (first | apply Kd.V_alloc | apply Kd.V_drewN | apply Kd.V_drew)); exact HO_0.out, by repeat (first | (with_reducible first | exact HB.out | apply below_alloc | apply pw_below_drewN | apply below_drew1) | exact HB.out)⟩

end Go.Proofs.Ytioooiflpabngaa.PAll

namespace Go.Proofs.Ytioooiflpabngaa.PAll
open Go.RowKit Go.Proofs.YtioooiflpabngaaW.PrintWords Go.Proofs.YtioooiflpabngaaW.PrintLast Go.Proofs.YtioooiflpabngaaW.PrintMore
attribute [local go_sem] max2_int min2_int max_two min_two max_three min_three max_four min_four   -- for this text's walks alone
set_option linter.unusedVariables false
set_option linter.unusedSimpArgs false

attribute [local go_sem high] eqA27
/-! ### folkmootref15_Same: function 27 -/
def folkmootref15_Same.l0 : Nat → List (S32) → List (S32) → Int → Option (Bool)
  | 0, _, _, _ => none
  | k + 1, x0, x1, x5 => if x5 < (x0.length : Int) then (if 0 ≤ x5 then (if x5 < (x1.length : Int) then (if ((!(((rd_T32 x0 x5).f0.f0.f0) == ((rd_T32 x1 x5).f0.f0.f0)) || (!(((rd_T32 x0 x5).f0.f0.f1) == ((rd_T32 x1 x5).f0.f0.f1)))) || (!(((rd_T32 x0 x5).f0.f1) == ((rd_T32 x1 x5).f0.f1)) || (!(((rd_T32 x0 x5).f0.f2) == ((rd_T32 x1 x5).f0.f2))))) = true then (some false) else (if (strOfNums ((rd_T32 x0 x5).f1)).toList = (strOfNums ((rd_T32 x1 x5).f1)).toList then (folkmootref15_Same.l0 k x0 x1 (wrap64 (x5 + 1))) else (some false))) else (none)) else (none)) else (some true)
def folkmootref15_Same.f (k : Nat) (l0 : List (S32)) (l1 : List (S32)) : Option (Bool) := if (l0.length : Int) = (l1.length : Int) then (folkmootref15_Same.l0 k l0 l1 0) else (some false)
theorem folkmootref15_Same.mono_l : ∀ k, (∀ y0 y1 y2, LeO (folkmootref15_Same.l0 k y0 y1 y2) (folkmootref15_Same.l0 (k + 1) y0 y1 y2))
  | 0 => fun _ _ _ r h => by simp [folkmootref15_Same.l0] at h
  | k + 1 => by
    have ih0 := folkmootref15_Same.mono_l k
    · intro y0 y1 y2
      unfold folkmootref15_Same.l0
      repeat' first
      | (with_reducible exact ih0 _ _ _)
      | (with_reducible exact LeO.refl _)
      | (with_reducible exact LeO.none _)
      | (with_reducible refine LeO.ite ?_ ?_)
      | (with_reducible refine LeO.bind ?_ (fun _ => ?_))
      | exact ih0 _ _ _
      | exact LeO.none _
      | refine LeO.ite ?_ ?_
      | refine LeO.bind ?_ (fun _ => ?_)
theorem folkmootref15_Same.mono : ∀ a0 a1 k, LeO (folkmootref15_Same.f k a0 a1) (folkmootref15_Same.f (k + 1) a0 a1) := by
  intro a0 a1 k
  have ih0 := folkmootref15_Same.mono_l k
  unfold folkmootref15_Same.f
  repeat' first
      | (with_reducible exact ih0 _ _ _)
      | (with_reducible exact LeO.refl _)
      | (with_reducible exact LeO.none _)
      | (with_reducible refine LeO.ite ?_ ?_)
      | (with_reducible refine LeO.bind ?_ (fun _ => ?_))
      | exact ih0 _ _ _
      | exact LeO.none _
      | refine LeO.ite ?_ ?_
      | refine LeO.bind ?_ (fun _ => ?_)
set_option maxHeartbeats 8000000 in
set_option maxRecDepth 100000 in
theorem folkmootref15_Same.calls (k : Nat) (A0 : Option Addr) (c0 : Nat) (l0 : List (S32)) (A1 : Option Addr) (c1 : Nat) (l1 : List (S32)) (r : Bool) (w : World) (hr0 : Kd.C k32 w A0 l0.length l0) (hc0 : l0.length ≤ c0) (hr1 : Kd.C k32 w A1 l1.length l1) (hc1 : l1.length ≤ c1) (h : folkmootref15_Same.f k l0 l1 = some r) :
    Calls Try.prog 27 #[.slice A0 l0.length c0, .slice A1 l1.length c1] w fun e w' => e = .returned (.bool r) ∧ Drawn0 w w' := by
  have hu27 := Try.underlying27
  have HR0 := Aside0.mk hr0
  have HC0 := Aside0.mk hc0
  clear hr0 hc0
  have HR1 := Aside0.mk hr1
  have HC1 := Aside0.mk hc1
  clear hr1 hc1
  have H : (if (l0.length : Int) = (l1.length : Int) then (folkmootref15_Same.l0 k l0 l1 0) else (some false)) = some r := h
  clear h
  by_cases c3 : (l0.length : Int) = (l1.length : Int)
  · rw [if_pos c3] at H
    have c3b0 : ((l0.length : Int) == (l1.length : Int)) = true := beq_iff_eq.mpr c3
    have c3b1 : ((l0.length : Int) != (l1.length : Int)) = false := bne_eq_false_iff_eq.mpr c3
    have c3b2 : (l0.length == l1.length) = true := by first | simpa using c3 | (simp at c3 ⊢; omega)
    clear c3
    have H' := Aside0.mk H
    clear H
    go_enter Try.func27, Try.ntmps27
    go_wp2
    repeat (go_quiet (fail); try go_wp2)
    go_loopg [5] k (fun kq v5 w' => ∃ (x5_1 : Int), v5 = .int .i64 x5_1 ∧ Aside0 (folkmootref15_Same.l0 kq l0 l1 x5_1 = some r) ∧ Aside0 (kq ≤ k) ∧ Drawn0 w w')
    case atStart => exact ⟨(0), (by first | rfl | (simp; done) | (simp [*]; done)), H', ⟨Nat.le_refl _⟩, by repeat (first | exact Drawn0.refl _ | apply Drawn0.step)⟩
    case round =>
      clear H'
      try clear c1
      try clear c2
      try clear p2
      try clear c3
      try clear c3b0
      try clear c3b1
      try clear c3b2
      obtain ⟨x5_1, rfl, HA, HK1, ⟨m1, rfl⟩⟩ := hrel
      cases gk with
      | zero => exact absurd HA.out (by simp [folkmootref15_Same.l0])
      | succ k1 =>
        have H := HA.out
        clear HA
        simp only [folkmootref15_Same.l0] at H
        by_cases c4 : x5_1 < (l0.length : Int)
        · rw [if_pos c4] at H
          have c4b0 : decide (x5_1 < (l0.length : Int)) = true := decide_eq_true c4
          clear c4
          by_cases c5 : 0 ≤ x5_1
          · rw [if_pos c5] at H
            have c5b0 : decide (0 ≤ x5_1) = true := decide_eq_true c5
            clear c5
            by_cases c6 : x5_1 < (l1.length : Int)
            · rw [if_pos c6] at H
              have c6b0 : decide (x5_1 < (l1.length : Int)) = true := decide_eq_true c6
              clear c6
              by_cases c7 : ((!(((rd_T32 l0 x5_1).f0.f0.f0) == ((rd_T32 l1 x5_1).f0.f0.f0)) || (!(((rd_T32 l0 x5_1).f0.f0.f1) == ((rd_T32 l1 x5_1).f0.f0.f1)))) || (!(((rd_T32 l0 x5_1).f0.f1) == ((rd_T32 l1 x5_1).f0.f1)) || (!(((rd_T32 l0 x5_1).f0.f2) == ((rd_T32 l1 x5_1).f0.f2))))) = true
              · rw [if_pos c7] at H
                have c7b0 : ((!(((rd_T32 l0 x5_1).f0.f0.f0) == ((rd_T32 l1 x5_1).f0.f0.f0)) || (!(((rd_T32 l0 x5_1).f0.f0.f1) == ((rd_T32 l1 x5_1).f0.f0.f1)))) || (!(((rd_T32 l0 x5_1).f0.f1) == ((rd_T32 l1 x5_1).f0.f1)) || (!(((rd_T32 l0 x5_1).f0.f2) == ((rd_T32 l1 x5_1).f0.f2))))) = true := c7
                clear c7
                obtain rfl := Option.some.inj H
                have p248 : 0 ≤ (x5_1 : Int) := of_decide_eq_true (by first | (with_reducible assumption) | assumption)
                have q248 : x5_1 < (l0.length : Int) := of_decide_eq_true (by first | (with_reducible assumption) | assumption)
                obtain ⟨ad248, A248_4, c248_4, e248, hx248_0, hx248_1, hx248_2, hx248_3, hx248_4, hl248_4, hi248_4⟩ := at_T32 HR0.out x5_1 p248 q248
                cases e248
                have HR248_4 := Aside0.mk hi248_4
                have HC248_4 := Aside0.mk hl248_4
                clear hi248_4 hl248_4
                replace p248 := eq_true p248
                replace q248 := eq_true q248
                have p249 : 0 ≤ (x5_1 : Int) := of_decide_eq_true (by first | (with_reducible assumption) | assumption)
                have q249 : x5_1 < (l1.length : Int) := of_decide_eq_true (by first | (with_reducible assumption) | assumption)
                obtain ⟨ad249, A249_4, c249_4, e249, hx249_0, hx249_1, hx249_2, hx249_3, hx249_4, hl249_4, hi249_4⟩ := at_T32 HR1.out x5_1 p249 q249
                cases e249
                have HR249_4 := Aside0.mk hi249_4
                have HC249_4 := Aside0.mk hl249_4
                clear hi249_4 hl249_4
                replace p249 := eq_true p249
                replace q249 := eq_true q249
                go_wp2
                repeat (go_quiet (fail); try go_wp2)
                go_ret
                exact ⟨by first | rfl | (simp; done) | (simp [*]; done), by repeat (first | exact Drawn0.refl _ | apply Drawn0.step)⟩
              · rw [if_neg c7] at H
                have c7b0 : ((!(((rd_T32 l0 x5_1).f0.f0.f0) == ((rd_T32 l1 x5_1).f0.f0.f0)) || (!(((rd_T32 l0 x5_1).f0.f0.f1) == ((rd_T32 l1 x5_1).f0.f0.f1)))) || (!(((rd_T32 l0 x5_1).f0.f1) == ((rd_T32 l1 x5_1).f0.f1)) || (!(((rd_T32 l0 x5_1).f0.f2) == ((rd_T32 l1 x5_1).f0.f2))))) = false := by simpa using c7
                clear c7
                by_cases c8 : (strOfNums ((rd_T32 l0 x5_1).f1)).toList = (strOfNums ((rd_T32 l1 x5_1).f1)).toList
                · rw [if_pos c8] at H
                  have c8b0 : ((strOfNums ((rd_T32 l0 x5_1).f1)).toList == (strOfNums ((rd_T32 l1 x5_1).f1)).toList) = true := beq_iff_eq.mpr c8
                  have c8b1 : ((strOfNums ((rd_T32 l0 x5_1).f1)).toList != (strOfNums ((rd_T32 l1 x5_1).f1)).toList) = false := bne_eq_false_iff_eq.mpr c8
                  clear c8
                  have H' := Aside0.mk H
                  clear H
                  have p248 : 0 ≤ (x5_1 : Int) := of_decide_eq_true (by first | (with_reducible assumption) | assumption)
                  have q248 : x5_1 < (l0.length : Int) := of_decide_eq_true (by first | (with_reducible assumption) | assumption)
                  obtain ⟨ad248, A248_4, c248_4, e248, hx248_0, hx248_1, hx248_2, hx248_3, hx248_4, hl248_4, hi248_4⟩ := at_T32 HR0.out x5_1 p248 q248
                  cases e248
                  have HR248_4 := Aside0.mk hi248_4
                  have HC248_4 := Aside0.mk hl248_4
                  clear hi248_4 hl248_4
                  replace p248 := eq_true p248
                  replace q248 := eq_true q248
                  have p249 : 0 ≤ (x5_1 : Int) := of_decide_eq_true (by first | (with_reducible assumption) | assumption)
                  have q249 : x5_1 < (l1.length : Int) := of_decide_eq_true (by first | (with_reducible assumption) | assumption)
                  obtain ⟨ad249, A249_4, c249_4, e249, hx249_0, hx249_1, hx249_2, hx249_3, hx249_4, hl249_4, hi249_4⟩ := at_T32 HR1.out x5_1 p249 q249
                  cases e249
                  have HR249_4 := Aside0.mk hi249_4
                  have HC249_4 := Aside0.mk hl249_4
                  clear hi249_4 hl249_4
                  replace p249 := eq_true p249
                  replace q249 := eq_true q249
                  have p250 : 0 ≤ (x5_1 : Int) := of_decide_eq_true (by first | (with_reducible assumption) | assumption)
                  have q250 : x5_1 < (l0.length : Int) := of_decide_eq_true (by first | (with_reducible assumption) | assumption)
                  obtain ⟨ad250, A250_4, c250_4, e250, hx250_0, hx250_1, hx250_2, hx250_3, hx250_4, hl250_4, hi250_4⟩ := at_T32 HR0.out x5_1 p250 q250
                  obtain rfl : ad248 = ad250 := (by injection e250)
                  have HR250_4 := Aside0.mk hi250_4
                  have HC250_4 := Aside0.mk hl250_4
                  clear hi250_4 hl250_4
                  replace p250 := eq_true p250
                  replace q250 := eq_true q250
                  have ea_ := Option.some.inj (hx248_4.symm.trans hx250_4)
                  injection ea_ with ea_ en_ ec_
                  subst ea_
                  subst ec_
                  clear en_
                  have hcv9 := Kd.C_string (P := Try.prog) (A := A248_4) (c := c248_4) Try.underlying30 Try.underlying5 Try.underlying9 HR250_4.out
                  have hcv9d := fun n_ : Nat => Kd.C_string (P := Try.prog) (A := A248_4) (c := c248_4) Try.underlying30 Try.underlying5 Try.underlying9 (Kd.C_drewN (HR250_4.out) n_)
                  have p251 : 0 ≤ (x5_1 : Int) := of_decide_eq_true (by first | (with_reducible assumption) | assumption)
                  have q251 : x5_1 < (l1.length : Int) := of_decide_eq_true (by first | (with_reducible assumption) | assumption)
                  obtain ⟨ad251, A251_4, c251_4, e251, hx251_0, hx251_1, hx251_2, hx251_3, hx251_4, hl251_4, hi251_4⟩ := at_T32 HR1.out x5_1 p251 q251
                  obtain rfl : ad249 = ad251 := (by injection e251)
                  have HR251_4 := Aside0.mk hi251_4
                  have HC251_4 := Aside0.mk hl251_4
                  clear hi251_4 hl251_4
                  replace p251 := eq_true p251
                  replace q251 := eq_true q251
                  have ea_ := Option.some.inj (hx249_4.symm.trans hx251_4)
                  injection ea_ with ea_ en_ ec_
                  subst ea_
                  subst ec_
                  clear en_
                  have hcv10 := Kd.C_string (P := Try.prog) (A := A249_4) (c := c249_4) Try.underlying30 Try.underlying5 Try.underlying9 HR251_4.out
                  have hcv10d := fun n_ : Nat => Kd.C_string (P := Try.prog) (A := A249_4) (c := c249_4) Try.underlying30 Try.underlying5 Try.underlying9 (Kd.C_drewN (HR251_4.out) n_)
                  go_wp2
                  repeat (go_quiet (fail); try go_wp2)
                  go_roundg k1
                  case measure => have := HK1.out; omega
                  case rel => exact ⟨(wrap64 (x5_1 + 1)), (by first | rfl | (simp; done) | (simp [*]; done)), H', ⟨by have := HK1.out; omega⟩, by repeat (first | exact Drawn0.refl _ | apply Drawn0.step)⟩
                · rw [if_neg c8] at H
                  have c8b0 : ((strOfNums ((rd_T32 l0 x5_1).f1)).toList == (strOfNums ((rd_T32 l1 x5_1).f1)).toList) = false := beq_eq_false_iff_ne.mpr c8
                  have c8b1 : ((strOfNums ((rd_T32 l0 x5_1).f1)).toList != (strOfNums ((rd_T32 l1 x5_1).f1)).toList) = true := bne_iff_ne.mpr c8
                  obtain rfl := Option.some.inj H
                  have p248 : 0 ≤ (x5_1 : Int) := of_decide_eq_true (by first | (with_reducible assumption) | assumption)
                  have q248 : x5_1 < (l0.length : Int) := of_decide_eq_true (by first | (with_reducible assumption) | assumption)
                  obtain ⟨ad248, A248_4, c248_4, e248, hx248_0, hx248_1, hx248_2, hx248_3, hx248_4, hl248_4, hi248_4⟩ := at_T32 HR0.out x5_1 p248 q248
                  cases e248
                  have HR248_4 := Aside0.mk hi248_4
                  have HC248_4 := Aside0.mk hl248_4
                  clear hi248_4 hl248_4
                  replace p248 := eq_true p248
                  replace q248 := eq_true q248
                  have p249 : 0 ≤ (x5_1 : Int) := of_decide_eq_true (by first | (with_reducible assumption) | assumption)
                  have q249 : x5_1 < (l1.length : Int) := of_decide_eq_true (by first | (with_reducible assumption) | assumption)
                  obtain ⟨ad249, A249_4, c249_4, e249, hx249_0, hx249_1, hx249_2, hx249_3, hx249_4, hl249_4, hi249_4⟩ := at_T32 HR1.out x5_1 p249 q249
                  cases e249
                  have HR249_4 := Aside0.mk hi249_4
                  have HC249_4 := Aside0.mk hl249_4
                  clear hi249_4 hl249_4
                  replace p249 := eq_true p249
                  replace q249 := eq_true q249
                  have p250 : 0 ≤ (x5_1 : Int) := of_decide_eq_true (by first | (with_reducible assumption) | assumption)
                  have q250 : x5_1 < (l0.length : Int) := of_decide_eq_true (by first | (with_reducible assumption) | assumption)
                  obtain ⟨ad250, A250_4, c250_4, e250, hx250_0, hx250_1, hx250_2, hx250_3, hx250_4, hl250_4, hi250_4⟩ := at_T32 HR0.out x5_1 p250 q250
                  obtain rfl : ad248 = ad250 := (by injection e250)
                  have HR250_4 := Aside0.mk hi250_4
                  have HC250_4 := Aside0.mk hl250_4
                  clear hi250_4 hl250_4
                  replace p250 := eq_true p250
                  replace q250 := eq_true q250
                  have ea_ := Option.some.inj (hx248_4.symm.trans hx250_4)
                  injection ea_ with ea_ en_ ec_
                  subst ea_
                  subst ec_
                  clear en_
                  have hcv11 := Kd.C_string (P := Try.prog) (A := A248_4) (c := c248_4) Try.underlying30 Try.underlying5 Try.underlying9 HR250_4.out
                  have hcv11d := fun n_ : Nat => Kd.C_string (P := Try.prog) (A := A248_4) (c := c248_4) Try.underlying30 Try.underlying5 Try.underlying9 (Kd.C_drewN (HR250_4.out) n_)
                  have p251 : 0 ≤ (x5_1 : Int) := of_decide_eq_true (by first | (with_reducible assumption) | assumption)
                  have q251 : x5_1 < (l1.length : Int) := of_decide_eq_true (by first | (with_reducible assumption) | assumption)
                  obtain ⟨ad251, A251_4, c251_4, e251, hx251_0, hx251_1, hx251_2, hx251_3, hx251_4, hl251_4, hi251_4⟩ := at_T32 HR1.out x5_1 p251 q251
                  obtain rfl : ad249 = ad251 := (by injection e251)
                  have HR251_4 := Aside0.mk hi251_4
                  have HC251_4 := Aside0.mk hl251_4
                  clear hi251_4 hl251_4
                  replace p251 := eq_true p251
                  replace q251 := eq_true q251
                  have ea_ := Option.some.inj (hx249_4.symm.trans hx251_4)
                  injection ea_ with ea_ en_ ec_
                  subst ea_
                  subst ec_
                  clear en_
                  have hcv12 := Kd.C_string (P := Try.prog) (A := A249_4) (c := c249_4) Try.underlying30 Try.underlying5 Try.underlying9 HR251_4.out
                  have hcv12d := fun n_ : Nat => Kd.C_string (P := Try.prog) (A := A249_4) (c := c249_4) Try.underlying30 Try.underlying5 Try.underlying9 (Kd.C_drewN (HR251_4.out) n_)
                  go_wp2
                  repeat (go_quiet (fail); try go_wp2)
                  go_ret
                  exact ⟨by first | rfl | (simp; done) | (simp [*]; done), by repeat (first | exact Drawn0.refl _ | apply Drawn0.step)⟩
            · rw [if_neg c6] at H
              exact absurd H (by simp)
          · rw [if_neg c5] at H
            exact absurd H (by simp)
        · rw [if_neg c4] at H
          have c4b0 : decide (x5_1 < (l0.length : Int)) = false := decide_eq_false c4
          clear c4
          obtain rfl := Option.some.inj H
          go_wp2
          repeat (go_quiet (fail); try go_wp2)
          go_ret
          exact ⟨by first | rfl | (simp; done) | (simp [*]; done), by repeat (first | exact Drawn0.refl _ | apply Drawn0.step)⟩
  · rw [if_neg c3] at H
    have c3b0 : ((l0.length : Int) == (l1.length : Int)) = false := beq_eq_false_iff_ne.mpr c3
    have c3b1 : ((l0.length : Int) != (l1.length : Int)) = true := bne_iff_ne.mpr c3
    have c3b2 : (l0.length == l1.length) = false := by first | simpa using c3 | (simp at c3 ⊢; omega)
    obtain rfl := Option.some.inj H
    go_enter Try.func27, Try.ntmps27
    go_wp2
    repeat (go_quiet (fail); try go_wp2)
    go_ret
    exact ⟨by first | rfl | (simp; done) | (simp [*]; done), by repeat (first | exact Drawn0.refl _ | apply Drawn0.step)⟩

end Go.Proofs.Ytioooiflpabngaa.PAll
