/- Parts: PAllx21, HCompareD, HCompare, Lay, HIter, HSortA, HSortB, HSort, PAllx39, ETwice, ECompare, EFind, PAllx48, PAllx49, PAllx50, PAllx51. -/
import Derived.Test.YtioooiflpabngaaContentAllB
import Derived.Sort.Grow
import Derived.Shelf.SlGeneric
import Derived.Shelf.SlSortCmp.NoneTotal
import Derived.Ground.SlsfProg
import Derived.Test.YtioooiflpabngaaProg
import Derived.RangeFuncNested
import Derived.RangeFuncBound
import Derived.RangeFuncCalls
import Derived.RangeFuncLeaves
import Derived.Shelf.Abstract
import Derived.Shelf.RegionOpen
import Derived.WalkKit
import Derived.OwnWalkIn
import Derived.Maps.OwnIn
import Derived.TacticsInMore
import Derived.LoopNIn
import Derived.LoopIn
import Derived.Outline
import Derived.Lib.SlicesCompact
import Derived.WalkSpells
set_option linter.unusedVariables false
set_option linter.unusedSimpArgs false
section
namespace Go.Proofs.Ytioooiflpabngaa.PAll
open Go.RowKit Go.Proofs.YtioooiflpabngaaW.PrintWords Go.Proofs.YtioooiflpabngaaW.PrintLast Go.Proofs.YtioooiflpabngaaW.PrintMore
attribute [local go_sem] max2_int min2_int max_two min_two max_three min_three max_four min_four   -- for this text's walks alone
set_option linter.unusedVariables false
set_option linter.unusedSimpArgs false
def label_Compare.f (k : Nat) (a0_0 : Int) (a0_1 : Int) (a0_2 : Int) (a0_3 : Int) (a1_0 : Int) (a1_1 : Int) (a1_2 : Int) (a1_3 : Int) : Option (Int) := (ident_Compare.f a0_0 a0_1 a1_0 a1_1).bind fun t203 => ((cmp_Compare_uint64.f a0_2 a1_2).bind fun t204 => ((cmp_Compare_int.f a0_3 a1_3).bind fun t205 => ((cmp_Or_int.f k (([t203, t204, t205] : List Int))).bind fun t209 => (some t209))))
theorem label_Compare.mono : ∀ a0 a1 a2 a3 a4 a5 a6 a7 k, LeO (label_Compare.f k a0 a1 a2 a3 a4 a5 a6 a7) (label_Compare.f (k + 1) a0 a1 a2 a3 a4 a5 a6 a7) := by
 intro a0 a1 a2 a3 a4 a5 a6 a7 k
 unfold label_Compare.f
 repeat' first
   | (with_reducible exact cmp_Or_int.mono _ _)
   | (with_reducible exact LeO.refl _)
   | (with_reducible exact LeO.none _)
   | (with_reducible refine LeO.ite ?_ ?_)
   | (with_reducible refine LeO.bind ?_ (fun _ => ?_))
   | exact cmp_Or_int.mono _ _
   | exact LeO.none _
   | refine LeO.ite ?_ ?_
   | refine LeO.bind ?_ (fun _ => ?_)
def label_Compare.T1 : Bool × List (List Nat × List Nat) := (true, [([], []), ([0], [0]), ([], []), ([2], [2]), ([1, 3], [1, 3]), ([], []), ([5], [5]), ([], []), ([7], [7]), ([6, 8, 4], [6, 8]), ([], []), ([10], [10]), ([], []), ([12], [12]), ([11, 13, 9], [11, 13]), ([4, 9, 14], [4, 9, 14]), ([15, 14], [15]), ([16, 16, 0, 1, 2, 3, 4, 5, 6, 7, 8, 9, 10, 11, 12, 13, 14, 15, 16], [16])])
def label_Compare.B1 : List Nat := [0, 1, 0, 4, 15, 0, 32, 0, 128, 511, 0, 1024, 0, 4096, 16383, 32767, 65535, 131071]
theorem label_Compare.tab1 : rtab .any (opsOf Try.f42 1) = label_Compare.T1 := by kernel_rfl
theorem label_Compare.bits1 : waitsOk label_Compare.T1.2 label_Compare.B1 = true := by kernel_rfl
set_option maxHeartbeats 8000000 in
set_option maxRecDepth 100000 in
theorem label_Compare.calls (k : Nat) (a0_0 : Int) (a0_1 : Int) (a0_2 : Int) (a0_3 : Int) (a1_0 : Int) (a1_1 : Int) (a1_2 : Int) (a1_3 : Int) (r : Int) (w : World) (h : label_Compare.f k a0_0 a0_1 a0_2 a0_3 a1_0 a1_1 a1_2 a1_3 = some r) :
  Calls Try.prog 42 #[.agg #[.int .u64 a0_0, .int .i64 a0_1, .int .u64 a0_2, .int .i64 a0_3], .agg #[.int .u64 a1_0, .int .i64 a1_1, .int .u64 a1_2, .int .i64 a1_3]] w fun e w' => e = .returned (.int .i64 r) ∧ Below w.heap.size w w' := by
 have hu27 := Try.underlying27
 have hu25 := Try.underlying25
 have HB := Aside0.mk (Below.refl w.heap.size w)
 have H : ((ident_Compare.f a0_0 a0_1 a1_0 a1_1).bind fun t203 => ((cmp_Compare_uint64.f a0_2 a1_2).bind fun t204 => ((cmp_Compare_int.f a0_3 a1_3).bind fun t205 => ((cmp_Or_int.f k (([t203, t204, t205] : List Int))).bind fun t209 => (some t209))))) = some r := h
 clear h
 replace H := Option.bind_eq_some_iff.mp H
 obtain ⟨t203, A30, H⟩ := H
 replace H : ((cmp_Compare_uint64.f a0_2 a1_2).bind fun t204 => ((cmp_Compare_int.f a0_3 a1_3).bind fun t205 => ((cmp_Or_int.f k (([t203, t204, t205] : List Int))).bind fun t209 => (some t209)))) = some r := H
 have A3 := Aside0.mk A30
 clear A30
 replace H := Option.bind_eq_some_iff.mp H
 obtain ⟨t204, A40, H⟩ := H
 replace H : ((cmp_Compare_int.f a0_3 a1_3).bind fun t205 => ((cmp_Or_int.f k (([t203, t204, t205] : List Int))).bind fun t209 => (some t209))) = some r := H
 have A4 := Aside0.mk A40
 clear A40
 replace H := Option.bind_eq_some_iff.mp H
 obtain ⟨t205, A50, H⟩ := H
 replace H : ((cmp_Or_int.f k (([t203, t204, t205] : List Int))).bind fun t209 => (some t209)) = some r := H
 have A5 := Aside0.mk A50
 clear A50
 obtain ⟨y206, hy206⟩ : ∃ y_ : List Int, y_ = (([t203, t204, t205] : List Int)) := ⟨_, rfl⟩
 replace H : ((cmp_Or_int.f k y206).bind fun t209 => (some t209)) = some r := by first | (rw [hy206]; with_reducible exact H) | (have H2_ := (Option.bind_some _ _).symm.trans H; rw [hy206]; with_reducible exact H2_) | (have H2_ := (Option.bind_some _ _).symm.trans H; with_reducible exact H2_) | with_reducible exact H | (rw [hy206]; exact H) | exact H
 have Ny206 := Aside0.mk hy206
 clear hy206
 replace H := Option.bind_eq_some_iff.mp H
 obtain ⟨t209, A60, H⟩ := H
 replace H : (some t209) = some r := H
 have A6 := Aside0.mk A60
 clear A60
 obtain rfl := Option.some.inj H
 go_enter Try.func42, Try.ntmps42
 try go_wp2_with (first | ((with_reducible refine gate_dst (N := 2) rfl ?_); refine box_event ?hg (N := 2) ?hd (cs := #[.int .u64 a0_0, .int .i64 a0_1, .int .u64 a0_2, .int .i64 a0_3]) (t := 27) ?hr ?_; (case hd => rfl); (case hg => rfl); (case hr => first | (go_simp; done) | (go_simp; rfl)); intro gb201 hg w7 hbox hb; have n0_ := Aside0.mk (below_step zb_ hb); have n1_ := Aside0.mk (hbox); have n2_ := Aside0.mk ((by rw [hg]; exact (below_size zb_) : w.heap.size ≤ gb201)); have n3_ := Aside0.mk ((by rw [hg]; exact (below_size zb_) : w.heap.size ≤ gb201)); clear HB; have HB := n0_; have BK201 := n1_; have GW201 := n2_; have GE201 := n3_; clear n0_ n1_ n2_ n3_; clear hb hbox hg) | ((with_reducible refine gate_dst (N := 3) rfl ?_); refine box_event ?hg (N := 3) ?hd (cs := #[.int .u64 a1_0, .int .i64 a1_1, .int .u64 a1_2, .int .i64 a1_3]) (t := 27) ?hr ?_; (case hd => rfl); (case hg => rfl); (case hr => first | (go_simp; done) | (go_simp; rfl)); intro gb202 hg w8 hbox hb; have n0_ := zk_ BK201 hb; have n1_ := Aside0.mk (below_step zb_ hb); have n2_ := Aside0.mk (hbox); have n3_ := Aside0.mk ((by rw [hg]; exact (below_size zb_) : w.heap.size ≤ gb202)); have n4_ := Aside0.mk ((by rw [hg]; exact (below_size zb_) : w.heap.size ≤ gb202)); have n5_ := Aside0.mk ((by rw [hg]; exact Nat.ne_of_lt (blk_lt (g := gb201) (o := .cells #[.int .u64 a0_0, .int .i64 a0_1, .int .u64 a0_2, .int .i64 a0_3] 27 (0, 0)) (by (with_reducible repeat (first | refine blk_drewN ?_ _ | refine blk_drew ?_ | refine blk_alloc ?_ _)); exact BK201.out)) : gb201 ≠ gb202)); have n6_ := Aside0.mk ((by rw [hg]; exact Nat.ne_of_gt (blk_lt (g := gb201) (o := .cells #[.int .u64 a0_0, .int .i64 a0_1, .int .u64 a0_2, .int .i64 a0_3] 27 (0, 0)) (by (with_reducible repeat (first | refine blk_drewN ?_ _ | refine blk_drew ?_ | refine blk_alloc ?_ _)); exact BK201.out)) : gb202 ≠ gb201)); clear BK201; clear HB; have BK201 := n0_; have HB := n1_; have BK202 := n2_; have GW202 := n3_; have GE202 := n4_; have NB201_202 := n5_; have NB202_201 := n6_; clear n0_ n1_ n2_ n3_ n4_ n5_ n6_; clear hb hbox hg))
 have n0_ := Aside0.mk (blk_drew BK201.out)
 have n1_ := Aside0.mk (blk_drew BK202.out)
 have n2_ := Aside0.mk (below_drew1 HB.out)
 clear BK201
 clear BK202
 clear HB
 have BK201 := n0_
 have BK202 := n1_
 have HB := n2_
 clear n0_ n1_ n2_
 refine start_ (n := 18) (S := fun w' => w'.cell? ⟨gb201, 0, none⟩ = some (.int .u64 a0_0) ∧ w'.cell? ⟨gb201, 1, none⟩ = some (.int .i64 a0_1) ∧ w'.cell? ⟨gb201, 2, none⟩ = some (.int .u64 a0_2) ∧ w'.cell? ⟨gb201, 3, none⟩ = some (.int .i64 a0_3) ∧ w'.cell? ⟨gb202, 0, none⟩ = some (.int .u64 a1_0) ∧ w'.cell? ⟨gb202, 1, none⟩ = some (.int .i64 a1_1) ∧ w'.cell? ⟨gb202, 2, none⟩ = some (.int .u64 a1_2) ∧ w'.cell? ⟨gb202, 3, none⟩ = some (.int .i64 a1_3)) (ds := []) #[F_,F_,F_,F_,F_,F_,F_,F_,F_,F_,F_,F_,F_,F_,F_,F_,F_,F_] (by kernel_rfl) rfl rfl ⟨(blk_cell BK201.out 0).trans rfl, (blk_cell BK201.out 1).trans rfl, (blk_cell BK201.out 2).trans rfl, (blk_cell BK201.out 3).trans rfl, (blk_cell BK202.out 0).trans rfl, (blk_cell BK202.out 1).trans rfl, (blk_cell BK202.out 2).trans rfl, (blk_cell BK202.out 3).trans rfl⟩ (fun hHeld => ?_); refine with_tabW label_Compare.tab1 label_Compare.bits1 (fun HT_ HW_ => ?_)
 generalize w8.drew = w9 at BK201 BK202 HB hHeld ⊢
 refine pure_ (i := 0) (N := some 5) (v := ?_) (a' := ?_) #[T_,F_,F_,F_,F_,F_,F_,F_,F_,F_,F_,F_,F_,F_,F_,F_,F_,F_] rfl rfl (any_of HT_.out (by kernel_rfl)) (fun _ _ _ h => h) (Or.inl ⟨by rfl, ?_⟩) ?_ ?_
 rotate_left
 ·
  intro w'; go_simp; with_reducible rfl
 rotate_left
 ·
  exact zp_
 refine pure_ (i := 2) (N := some 7) (v := ?_) (a' := ?_) #[T_,F_,T_,F_,F_,F_,F_,F_,F_,F_,F_,F_,F_,F_,F_,F_,F_,F_] rfl rfl (any_of HT_.out (by kernel_rfl)) (fun _ _ _ h => h) (Or.inl ⟨by rfl, ?_⟩) ?_ ?_
 rotate_left
 ·
  intro w'; go_simp; with_reducible rfl
 rotate_left
 ·
  exact zp_
 refine pure_ (i := 5) (N := some 10) (v := ?_) (a' := ?_) #[T_,F_,T_,F_,F_,T_,F_,F_,F_,F_,F_,F_,F_,F_,F_,F_,F_,F_] rfl rfl (any_of HT_.out (by kernel_rfl)) (fun _ _ _ h => h) (Or.inl ⟨by rfl, ?_⟩) ?_ ?_
 rotate_left
 ·
  intro w'; go_simp; with_reducible rfl
 rotate_left
 ·
  exact zp_
 refine pure_ (i := 7) (N := some 12) (v := ?_) (a' := ?_) #[T_,F_,T_,F_,F_,T_,F_,T_,F_,F_,F_,F_,F_,F_,F_,F_,F_,F_] rfl rfl (any_of HT_.out (by kernel_rfl)) (fun _ _ _ h => h) (Or.inl ⟨by rfl, ?_⟩) ?_ ?_
 rotate_left
 ·
  intro w'; go_simp; with_reducible rfl
 rotate_left
 ·
  exact zp_
 refine pure_ (i := 10) (N := some 15) (v := ?_) (a' := ?_) #[T_,F_,T_,F_,F_,T_,F_,T_,F_,F_,T_,F_,F_,F_,F_,F_,F_,F_] rfl rfl (any_of HT_.out (by kernel_rfl)) (fun _ _ _ h => h) (Or.inl ⟨by rfl, ?_⟩) ?_ ?_
 rotate_left
 ·
  intro w'; go_simp; with_reducible rfl
 rotate_left
 ·
  exact zp_
 refine pure_ (i := 12) (N := some 17) (v := ?_) (a' := ?_) #[T_,F_,T_,F_,F_,T_,F_,T_,F_,F_,T_,F_,T_,F_,F_,F_,F_,F_] rfl rfl (any_of HT_.out (by kernel_rfl)) (fun _ _ _ h => h) (Or.inl ⟨by rfl, ?_⟩) ?_ ?_
 rotate_left
 ·
  intro w'; go_simp; with_reducible rfl
 rotate_left
 ·
  exact zp_
 refine take_ (i := 1) (N := some 6) (v := ?_) (a' := ?_) #[T_,T_,T_,F_,F_,T_,F_,T_,F_,F_,T_,F_,T_,F_,F_,F_,F_,F_] rfl rfl (take_ofW HT_.out HW_.out (by kernel_rfl)) (fun _ _ _ h => h) (Or.inl ⟨by rfl, ?_⟩) hHeld ?_ ?_
 rotate_left
 ·
  rintro w' ⟨s0, s1, s2, s3, s4, s5, s6, s7⟩
  go_simp
  with_reducible rfl
 rotate_left
 ·
  exact zp_
 refine take_ (i := 3) (N := some 8) (v := ?_) (a' := ?_) #[T_,T_,T_,T_,F_,T_,F_,T_,F_,F_,T_,F_,T_,F_,F_,F_,F_,F_] rfl rfl (take_ofW HT_.out HW_.out (by kernel_rfl)) (fun _ _ _ h => h) (Or.inl ⟨by rfl, ?_⟩) hHeld ?_ ?_
 rotate_left
 ·
  rintro w' ⟨s0, s1, s2, s3, s4, s5, s6, s7⟩
  go_simp
  with_reducible rfl
 rotate_left
 ·
  exact zp_
 refine take_ (i := 6) (N := some 11) (v := ?_) (a' := ?_) #[T_,T_,T_,T_,F_,T_,T_,T_,F_,F_,T_,F_,T_,F_,F_,F_,F_,F_] rfl rfl (take_ofW HT_.out HW_.out (by kernel_rfl)) (fun _ _ _ h => h) (Or.inl ⟨by rfl, ?_⟩) hHeld ?_ ?_
 rotate_left
 ·
  rintro w' ⟨s0, s1, s2, s3, s4, s5, s6, s7⟩
  go_simp
  with_reducible rfl
 rotate_left
 ·
  exact zp_
 refine take_ (i := 8) (N := some 13) (v := ?_) (a' := ?_) #[T_,T_,T_,T_,F_,T_,T_,T_,T_,F_,T_,F_,T_,F_,F_,F_,F_,F_] rfl rfl (take_ofW HT_.out HW_.out (by kernel_rfl)) (fun _ _ _ h => h) (Or.inl ⟨by rfl, ?_⟩) hHeld ?_ ?_
 rotate_left
 ·
  rintro w' ⟨s0, s1, s2, s3, s4, s5, s6, s7⟩
  go_simp
  with_reducible rfl
 rotate_left
 ·
  exact zp_
 refine take_ (i := 11) (N := some 16) (v := ?_) (a' := ?_) #[T_,T_,T_,T_,F_,T_,T_,T_,T_,F_,T_,T_,T_,F_,F_,F_,F_,F_] rfl rfl (take_ofW HT_.out HW_.out (by kernel_rfl)) (fun _ _ _ h => h) (Or.inl ⟨by rfl, ?_⟩) hHeld ?_ ?_
 rotate_left
 ·
  rintro w' ⟨s0, s1, s2, s3, s4, s5, s6, s7⟩
  go_simp
  with_reducible rfl
 rotate_left
 ·
  exact zp_
 refine take_ (i := 13) (N := some 18) (v := ?_) (a' := ?_) #[T_,T_,T_,T_,F_,T_,T_,T_,T_,F_,T_,T_,T_,T_,F_,F_,F_,F_] rfl rfl (take_ofW HT_.out HW_.out (by kernel_rfl)) (fun _ _ _ h => h) (Or.inl ⟨by rfl, ?_⟩) hHeld ?_ ?_
 rotate_left
 ·
  rintro w' ⟨s0, s1, s2, s3, s4, s5, s6, s7⟩
  go_simp
  with_reducible rfl
 rotate_left
 ·
  exact zp_
 refine one_ (i := 4) (N := some 9) #[T_,T_,T_,T_,T_,T_,T_,T_,T_,F_,T_,T_,T_,T_,F_,F_,F_,F_] rfl rfl (one_of HT_.out (by kernel_rfl)) (by decide) (fun K hK => ?_)
 refine goes_ Try.func86 (by kernel_rfl) rfl #[.agg #[.int .u64 a0_0, .int .i64 a0_1], .agg #[.int .u64 a1_0, .int .i64 a1_1]] (by rfl) rfl rfl za_ ?_
 with_reducible refine (ident_Compare.calls a0_0 a0_1 a1_0 a1_1 t203 _ A3.out).mono ?_
 rintro e w10 ⟨rfl, hb⟩
 refine ⟨_, rfl, ?_⟩
 have n0_ := zk_ BK201 hb
 have n1_ := zk_ BK202 hb
 have n2_ := Aside0.mk (below_step zb_ hb)
 clear BK201
 clear BK202
 clear HB
 have BK201 := n0_
 have BK202 := n1_
 have HB := n2_
 clear n0_ n1_ n2_
 (try clear hb)
 (try clear hb2)
 (try clear hk)
 (try clear hi)
 refine hK.out _ _ ⟨(blk_cell BK201.out 0).trans rfl, (blk_cell BK201.out 1).trans rfl, (blk_cell BK201.out 2).trans rfl, (blk_cell BK201.out 3).trans rfl, (blk_cell BK202.out 0).trans rfl, (blk_cell BK202.out 1).trans rfl, (blk_cell BK202.out 2).trans rfl, (blk_cell BK202.out 3).trans rfl⟩ (fun hHeld => ?_)
 clear hK K
 refine norm_ (a' := ?_) ?_ ?_
 rotate_left
 ·
  show Act.put _ (some 9) _ = _
  simp only [Act.put, List.setIfInBounds_toArray, List.set_cons_zero, List.set_cons_succ, i64_w, i32_w]
  rfl
 refine one_ (i := 9) (N := some 14) #[T_,T_,T_,T_,T_,T_,T_,T_,T_,T_,T_,T_,T_,T_,F_,F_,F_,F_] rfl rfl (one_of HT_.out (by kernel_rfl)) (by decide) (fun K hK => ?_)
 refine goes_ Try.func87 (by kernel_rfl) rfl #[.int .u64 a0_2, .int .u64 a1_2] (by rfl) rfl rfl za_ ?_
 with_reducible refine (cmp_Compare_uint64.calls a0_2 a1_2 t204 _ A4.out).mono ?_
 rintro e w' ⟨rfl, ⟨nd, rfl⟩⟩
 refine ⟨_, rfl, ?_⟩
 refine hK.out _ _ ⟨(blk_cell BK201.out 0).trans rfl, (blk_cell BK201.out 1).trans rfl, (blk_cell BK201.out 2).trans rfl, (blk_cell BK201.out 3).trans rfl, (blk_cell BK202.out 0).trans rfl, (blk_cell BK202.out 1).trans rfl, (blk_cell BK202.out 2).trans rfl, (blk_cell BK202.out 3).trans rfl⟩ (fun hHeld => ?_)
 clear hK K
 refine norm_ (a' := ?_) ?_ ?_
 rotate_left
 ·
  show Act.put _ (some 14) _ = _
  simp only [Act.put, List.setIfInBounds_toArray, List.set_cons_zero, List.set_cons_succ, i64_w, i32_w]
  rfl
 refine one_ (i := 14) (N := some 19) #[T_,T_,T_,T_,T_,T_,T_,T_,T_,T_,T_,T_,T_,T_,T_,F_,F_,F_] rfl rfl (one_of HT_.out (by kernel_rfl)) (by decide) (fun K hK => ?_)
 refine goes_ Try.func88 (by kernel_rfl) rfl #[.int .i64 a0_3, .int .i64 a1_3] (by rfl) rfl rfl za_ ?_
 with_reducible refine (cmp_Compare_int.calls a0_3 a1_3 t205 _ A5.out).mono ?_
 rintro e w' ⟨rfl, ⟨nd, rfl⟩⟩
 refine ⟨_, rfl, ?_⟩
 refine hK.out _ _ ⟨(blk_cell BK201.out 0).trans rfl, (blk_cell BK201.out 1).trans rfl, (blk_cell BK201.out 2).trans rfl, (blk_cell BK201.out 3).trans rfl, (blk_cell BK202.out 0).trans rfl, (blk_cell BK202.out 1).trans rfl, (blk_cell BK202.out 2).trans rfl, (blk_cell BK202.out 3).trans rfl⟩ (fun hHeld => ?_)
 clear hK K
 refine norm_ (a' := ?_) ?_ ?_
 rotate_left
 ·
  show Act.put _ (some 19) _ = _
  simp only [Act.put, List.setIfInBounds_toArray, List.set_cons_zero, List.set_cons_succ, i64_w, i32_w]
  rfl
 refine one_ (i := 15) (N := some 20) #[T_,T_,T_,T_,T_,T_,T_,T_,T_,T_,T_,T_,T_,T_,T_,T_,F_,F_] rfl rfl (one_of HT_.out (by kernel_rfl)) (by decide) (fun K hK => ?_)
 refine Kd.R_lit_step (Kd.int .i64) _ 3 ?hg (N := 20) ?hd (xs := ([t203, t204, t205] : List Int)) (inner := [.int .i64 t203, .int .i64 t204, .int .i64 t205]) (ok := fun _ => True) (okp := fun _ => True) ?hr ?hp (fun _ hk => hk) trivial (Below.refl _ _) (Nat.le_refl _) (by simp) ?_; (case hd => rfl); (case hg => rfl); (case hr => first | (go_simp; done) | (go_simp; rfl)); (case hp => exact (Reps.one (show Kd.M (Kd.int .i64) _ _ _ t203 [.int .i64 t203] from rfl) (Reps.one (show Kd.M (Kd.int .i64) _ _ _ t204 [.int .i64 t204] from rfl) (Reps.one (show Kd.M (Kd.int .i64) _ _ _ t205 [.int .i64 t205] from rfl) (Reps.none _ _)))))
 intro v207 w11 ho12 hb hg_ hnew_
 clear hg_ hnew_
 (first | rw [← Ny206.out] at ho12 | (simp only [Int.reduceToNat] at ho12; rw [← Ny206.out] at ho12))
 have n0_ := Aside0.mk (Kd.R_lower ho12 (below_size zb_))
 have n1_ := zk_ BK201 hb
 have n2_ := zk_ BK202 hb
 have n3_ := Aside0.mk (below_step zb_ hb)
 clear BK201
 clear BK202
 clear HB
 have HO208 := n0_
 have BK201 := n1_
 have BK202 := n2_
 have HB := n3_
 clear n0_ n1_ n2_ n3_
 clear hb ho12
 obtain ⟨Ao13, co13, eo13⟩ := Kd.R_slice HO208.out
 (first | subst eo13 | (injection eo13 with f1_ f2_ f3_; have f4_ := f1_.symm; have f5_ := f3_.symm; clear f1_ f2_ f3_; subst f4_; subst f5_))
 refine hK.out _ _ ⟨(blk_cell BK201.out 0).trans rfl, (blk_cell BK201.out 1).trans rfl, (blk_cell BK201.out 2).trans rfl, (blk_cell BK201.out 3).trans rfl, (blk_cell BK202.out 0).trans rfl, (blk_cell BK202.out 1).trans rfl, (blk_cell BK202.out 2).trans rfl, (blk_cell BK202.out 3).trans rfl⟩ (fun hHeld => ?_)
 clear hK K
 refine norm_ (a' := ?_) ?_ ?_
 rotate_left
 ·
  show Act.put _ (some 20) _ = _
  simp only [Act.put, List.setIfInBounds_toArray, List.set_cons_zero, List.set_cons_succ, i64_w, i32_w]
  rfl
 refine one_ (i := 16) (N := some 21) #[T_,T_,T_,T_,T_,T_,T_,T_,T_,T_,T_,T_,T_,T_,T_,T_,T_,F_] rfl rfl (one_of HT_.out (by kernel_rfl)) (by decide) (fun K hK => ?_)
 refine goes_ Try.func85 (by kernel_rfl) rfl #[.slice Ao13 y206.length co13] (by rfl) rfl rfl za_ ?_
 with_reducible refine (cmp_Or_int.calls k _ _ y206 t209 _ ?side1 ?side2 A6.out).mono ?_
 (case side1 => exact zd_ (Kd.R_reads' HO208.out).2.2)
 (case side2 => exact (Kd.R_reads' HO208.out).2.1)
 rintro e w' ⟨rfl, ⟨nd, rfl⟩⟩
 refine ⟨_, rfl, ?_⟩
 refine hK.out _ _ ⟨(blk_cell BK201.out 0).trans rfl, (blk_cell BK201.out 1).trans rfl, (blk_cell BK201.out 2).trans rfl, (blk_cell BK201.out 3).trans rfl, (blk_cell BK202.out 0).trans rfl, (blk_cell BK202.out 1).trans rfl, (blk_cell BK202.out 2).trans rfl, (blk_cell BK202.out 3).trans rfl⟩ (fun hHeld => ?_)
 clear hK K
 refine norm_ (a' := ?_) ?_ ?_
 rotate_left
 ·
  show Act.put _ (some 21) _ = _
  simp only [Act.put, List.setIfInBounds_toArray, List.set_cons_zero, List.set_cons_succ, i64_w, i32_w]
  rfl
 refine pure_ (i := 17) (N := some 4) (v := ?_) (a' := ?_) #[T_,T_,T_,T_,T_,T_,T_,T_,T_,T_,T_,T_,T_,T_,T_,T_,T_,T_] rfl rfl (any_of HT_.out (by kernel_rfl)) (fun _ _ _ h => h) (Or.inl ⟨by rfl, ?_⟩) ?_ ?_
 rotate_left
 ·
  intro w'; go_simp; with_reducible rfl
 rotate_left
 ·
  exact zp_
 refine done_ (done_of HT_.out (by kernel_rfl)) ?_
 (try clear hHeld); (try clear HS0_)
 try go_wp2
 go_ret
 exact ⟨by first | rfl | (simp [errW_none, errW_some] <;> rfl) | (simp [*, errW_none, errW_some] <;> rfl), by repeat (first | (with_reducible first | exact HB.out | apply below_alloc | apply pw_below_drewN | apply below_drew1 | refine below_set ?_ GE201.out | refine below_set ?_ GE202.out) | exact HB.out)⟩
end Go.Proofs.Ytioooiflpabngaa.PAll
end
section
namespace Go.Proofs.Ytioooiflpabngaa.PAll
open Go.RowKit Go.Proofs.YtioooiflpabngaaW.PrintWords Go.Proofs.YtioooiflpabngaaW.PrintLast Go.Proofs.YtioooiflpabngaaW.PrintMore
attribute [local go_sem] max2_int min2_int max_two min_two max_three min_three max_four min_four
set_option linter.unusedVariables false
set_option linter.unusedSimpArgs false
structure BlwD (B : Nat) (w w' : World) : Prop where
 mk ::
 (b : Below B w w')
 (d : w.drawn ≤ w'.drawn)
theorem BlwD.refl (B : Nat) (w : World) : BlwD B w w := ⟨Below.refl _ _, Nat.le_refl _⟩
theorem dbelow_alloc {w W : World} (h : BlwD w.heap.size w W) (o : Obj) : BlwD w.heap.size w (W.alloc o) := ⟨below_alloc h.b o, h.d⟩
theorem dpw_below_drewN {B : Nat} {w W : World} (h : BlwD B w W) (n : Nat) : BlwD B w (W.drewN n) := ⟨pw_below_drewN h.b n, Nat.le_trans h.d (Nat.le_add_right _ _)⟩
theorem dbelow_drew1 {B : Nat} {w W : World} (h : BlwD B w W) : BlwD B w W.drew := ⟨below_drew1 h.b, Nat.le_trans h.d (Nat.le_succ _)⟩
theorem dbelow_step {w W w2 : World} (h : BlwD w.heap.size w W) (k : BlwD W.heap.size W w2) : BlwD w.heap.size w w2 := ⟨below_step h.b k.b, Nat.le_trans h.d k.d⟩
theorem dbelow_set {w W : World} {g j : Nat} {v : Value} (h : BlwD w.heap.size w W) (hg : w.heap.size ≤ g) : BlwD w.heap.size w (W.setCell ⟨g, j, none⟩ v) := ⟨below_set h.b hg, h.d⟩
theorem dbelow_size {w W : World} (h : BlwD w.heap.size w W) : w.heap.size ≤ W.heap.size := h.b.size
theorem dblk_below {w w1 : World} {g : Nat} {o : Obj} (h : w.heap[g]? = some o) (hb : BlwD w.heap.size w w1) : w1.heap[g]? = some o := blk_below h hb.b
section
variable {P : Program} {ops : Array Oper} {rest : List Oper} {o : Oper} {a : Act} {Q : Exit → Act → World → Prop} {Kc : Act → World → Prop}
theorem dbox_event {W : World} (hgd : o.guard = none) {N : Tmp} (_hd : o.dst = some N) {cs : Array Value} {t : TypeId}
  (hrun : (execOp a.eval o).run P W = .ok (.value (.pointer (some ⟨W.heap.size, 0, none⟩))) (W.alloc (.cells cs t (0, 0))))
  (h : ∀ g, g = W.heap.size → ∀ w1, w1.heap[g]? = some (.cells cs t (0, 0)) → BlwD W.heap.size W w1 → wpList P ops Q rest (a.put o.dst (.pointer (some ⟨g, 0, none⟩))) w1) : wpList P ops Q (o :: rest) a W :=
 Kd.event_run hgd hrun (h _ rfl _ (blk_new W _) (dbelow_alloc (BlwD.refl _ _) _))
theorem dR_lit_step {α : Type} (d : Kd α) {w0 W : World} (base e : Nat) (hw : Region.wanted o (yielded ops a.tmps) = true) {N : Tmp} (_hd : o.dst = some N) {xs : List α} {inner : List Value} {ok okp : Nat → Prop}
  (hrun : (execOp a.eval o).run P W = .ok (.value (.slice (some ⟨W.heap.size, 0, none⟩) xs.length xs.length)) (W.alloc (.cells inner.toArray e)))
  (hrep : Reps (d.M W base okp) d.sz xs inner) (hok : ∀ k, okp k → ok k) (hfresh : ok W.heap.size) (HB : BlwD base w0 W) (hbase : base ≤ W.heap.size) (hm : xs.length ≤ 9223372036854775807)
  (h : ∀ v1 w1, d.R e w1 base ok v1 xs → BlwD base w0 w1 → W.grownBy w1 none → (∃ b, v1.ownBlock = some b ∧ W.heap.size ≤ b) → Kc (a.put o.dst v1) w1) : if Region.wanted o (yielded ops a.tmps) = true then Oper.wp P o a W Kc Q else Kc (a.put o.dst undef) W := by
 refine event_step hw hrun (h _ _ ⟨fun k hk => ?_, inner, ?_, ?_⟩ ⟨HB.b.alloc hbase _, HB.d⟩ (World.grownBy_alloc W _ none) ⟨W.heap.size, by simp [Value.ownBlock], Nat.le_refl _⟩)
 ·
  have : W.heap.size = k := by simpa [Value.ownBlock] using hk
  subst this
  exact hfresh
 ·
  have h2 := World.ownsRow_lit (base := base) (e := e) (size := d.sz) W inner.toArray xs.length hbase (by simpa [maxLen] using hm) (by simpa using hrep.1)
  simpa using h2
 ·
  refine hrep.imp_ (fun p c hp => d.M_mono (fun k hk => ⟨hok k hk.1, fun he => ?_⟩) (Kd.M_below (d.M_bound hp) (below_alloc (Below.refl _ _) _)))
  have h3 : k = W.heap.size := by simpa [Value.ownBlock] using he
  have := hk.2.2.1
  omega
end
theorem BlwD.grow {w w' : World} (h : BlwD w.heap.size w w') : ∃ q os, w' = Go.Sort.grow (w.drewN q) os := by
 refine ⟨w'.drawn - w.drawn, w'.heap.extract w.heap.size w'.heap.size, ?_⟩
 obtain ⟨hb, hd⟩ := h
 have hh : w'.heap = w.heap ++ w'.heap.extract w.heap.size w'.heap.size := by
  apply Array.ext_getElem?
  intro i
  rcases Nat.lt_or_ge i w.heap.size with hi | hi
  ·
   rw [Array.getElem?_append_left hi, hb.block i hi]
  ·
   rw [Array.getElem?_append_right hi, Array.getElem?_extract]
   have := hb.size
   by_cases h2 : i - w.heap.size < w'.heap.size - w.heap.size
   ·
    have e : w.heap.size + (i - w.heap.size) = i := by omega
    simp [h2, e]
   ·
    have e : w'.heap[i]? = none := by rw [Array.getElem?_eq_none]; omega
    simp [h2, e]
 cases w' with
 | mk heap tape drawn os output =>
  simp only [Go.Sort.grow] at *
  have e1 := hb.tape
  have e2 := hb.os
  have e3 := hb.output
  simp only at e1 e2 e3
  subst e1 e2 e3
  have e4 : drawn = w.drawn + (drawn - w.drawn) := by omega
  show ({ heap := heap, tape := w.tape, drawn := drawn, os := w.os, output := w.output } : World) = { heap := w.heap ++ heap.extract w.heap.size, tape := w.tape, drawn := w.drawn + (drawn - w.drawn), os := w.os, output := w.output }
  rw [← hh, ← e4]
set_option maxHeartbeats 8000000 in
set_option maxRecDepth 100000 in
theorem ident_Compare.callsD (a0_0 : Int) (a0_1 : Int) (a1_0 : Int) (a1_1 : Int) (r : Int) (w : World) (h : ident_Compare.f a0_0 a0_1 a1_0 a1_1 = some r) :
  Calls Try.prog 86 #[.agg #[.int .u64 a0_0, .int .i64 a0_1], .agg #[.int .u64 a1_0, .int .i64 a1_1]] w fun e w' => e = .returned (.int .i64 r) ∧ BlwD w.heap.size w w' := by
 have hu25 := Try.underlying25
 have HB := Aside0.mk (BlwD.refl w.heap.size w)
 have H : ((cmp_Compare_uint64.f a0_0 a1_0).bind fun t199 => (if t199 = 0 then ((cmp_Compare_int.f a0_1 a1_1).bind fun t200 => (some t200)) else (some t199))) = some r := h
 clear h
 replace H := Option.bind_eq_some_iff.mp H
 obtain ⟨t199, A30, H⟩ := H
 replace H : (if t199 = 0 then ((cmp_Compare_int.f a0_1 a1_1).bind fun t200 => (some t200)) else (some t199)) = some r := H
 have A3 := Aside0.mk A30
 clear A30
 by_cases c4 : t199 = 0
 ·
  rw [if_pos c4] at H
  have c4b0 : (t199 == 0) = true := beq_iff_eq.mpr c4
  have c4b1 : (t199 != 0) = false := bne_eq_false_iff_eq.mpr c4
  clear c4
  replace H := Option.bind_eq_some_iff.mp H
  obtain ⟨t200, A50, H⟩ := H
  replace H : (some t200) = some r := H
  have A5 := Aside0.mk A50
  clear A50
  obtain rfl := Option.some.inj H
  go_enter Try.func86, Try.ntmps86
  go_wp2_with (first | ((with_reducible refine gate_dst (N := 2) rfl ?_); refine dbox_event ?hg (N := 2) ?hd (cs := #[.int .u64 a0_0, .int .i64 a0_1]) (t := 25) ?hr ?_; (case hd => rfl); (case hg => rfl); (case hr => first | (go_simp; done) | (go_simp; rfl)); intro gb197 hg w6 hbox hb; have n0_ := Aside0.mk (dbelow_step (by repeat (first | (with_reducible first | exact HB.out | apply dbelow_alloc | apply dpw_below_drewN | apply dbelow_drew1) | exact HB.out)) hb); have n1_ := Aside0.mk (hbox); have n2_ := Aside0.mk ((by rw [hg]; exact (dbelow_size (by repeat (first | (with_reducible first | exact HB.out | apply dbelow_alloc | apply dpw_below_drewN | apply dbelow_drew1) | exact HB.out))) : w.heap.size ≤ gb197)); have n3_ := Aside0.mk ((by rw [hg]; exact (dbelow_size (by repeat (first | (with_reducible first | exact HB.out | apply dbelow_alloc | apply dpw_below_drewN | apply dbelow_drew1) | exact HB.out))) : w.heap.size ≤ gb197)); clear HB; have HB := n0_; have BK197 := n1_; have GW197 := n2_; have GE197 := n3_; clear n0_ n1_ n2_ n3_; clear hb hbox hg) | ((with_reducible refine gate_dst (N := 3) rfl ?_); refine dbox_event ?hg (N := 3) ?hd (cs := #[.int .u64 a1_0, .int .i64 a1_1]) (t := 25) ?hr ?_; (case hd => rfl); (case hg => rfl); (case hr => first | (go_simp; done) | (go_simp; rfl)); intro gb198 hg w7 hbox hb; have n0_ := Aside0.mk (dblk_below (g := gb197) (o := .cells #[.int .u64 a0_0, .int .i64 a0_1] 25 (0, 0)) (by (with_reducible repeat (first | refine blk_drewN ?_ _ | refine blk_drew ?_ | refine blk_alloc ?_ _)); exact BK197.out) hb); have n1_ := Aside0.mk (dbelow_step (by repeat (first | (with_reducible first | exact HB.out | apply dbelow_alloc | apply dpw_below_drewN | apply dbelow_drew1 | refine dbelow_set ?_ GE197.out) | exact HB.out)) hb); have n2_ := Aside0.mk (hbox); have n3_ := Aside0.mk ((by rw [hg]; exact (dbelow_size (by repeat (first | (with_reducible first | exact HB.out | apply dbelow_alloc | apply dpw_below_drewN | apply dbelow_drew1 | refine dbelow_set ?_ GE197.out) | exact HB.out))) : w.heap.size ≤ gb198)); have n4_ := Aside0.mk ((by rw [hg]; exact (dbelow_size (by repeat (first | (with_reducible first | exact HB.out | apply dbelow_alloc | apply dpw_below_drewN | apply dbelow_drew1 | refine dbelow_set ?_ GE197.out) | exact HB.out))) : w.heap.size ≤ gb198)); have n5_ := Aside0.mk ((by rw [hg]; exact Nat.ne_of_lt (blk_lt (g := gb197) (o := .cells #[.int .u64 a0_0, .int .i64 a0_1] 25 (0, 0)) (by (with_reducible repeat (first | refine blk_drewN ?_ _ | refine blk_drew ?_ | refine blk_alloc ?_ _)); exact BK197.out)) : gb197 ≠ gb198)); have n6_ := Aside0.mk ((by rw [hg]; exact Nat.ne_of_gt (blk_lt (g := gb197) (o := .cells #[.int .u64 a0_0, .int .i64 a0_1] 25 (0, 0)) (by (with_reducible repeat (first | refine blk_drewN ?_ _ | refine blk_drew ?_ | refine blk_alloc ?_ _)); exact BK197.out)) : gb198 ≠ gb197)); clear BK197; clear HB; have BK197 := n0_; have HB := n1_; have BK198 := n2_; have GW198 := n3_; have GE198 := n4_; have NB197_198 := n5_; have NB198_197 := n6_; clear n0_ n1_ n2_ n3_ n4_ n5_ n6_; clear hb hbox hg; have hnb8 := NB197_198.out; have hnc8 := NB198_197.out; have hcz9_0 : w7.cell? ⟨gb197, 0, none⟩ = some (.int .u64 a0_0) := (blk_cell BK197.out 0).trans rfl; have hcz9_1 : w7.cell? ⟨gb197, 1, none⟩ = some (.int .i64 a0_1) := (blk_cell BK197.out 1).trans rfl; have hfz9_0 := blk_frozen BK197.out 0; have hfz9_1 := blk_frozen BK197.out 1; have hcz10_0 : w7.cell? ⟨gb198, 0, none⟩ = some (.int .u64 a1_0) := (blk_cell BK198.out 0).trans rfl; have hcz10_1 : w7.cell? ⟨gb198, 1, none⟩ = some (.int .i64 a1_1) := (blk_cell BK198.out 1).trans rfl; have hfz10_0 := blk_frozen BK198.out 0; have hfz10_1 := blk_frozen BK198.out 1) | ((with_reducible refine gate_callee (f := 87) rfl ?_); refine goesL_ (some 10) rfl rfl Try.func87 (by kernel_rfl) rfl #[.int .u64 a0_0, .int .u64 a1_0] rfl za_ ?_; (with_reducible refine (cmp_Compare_uint64.calls a0_0 a1_0 t199 _ A3.out).mono ?_); rintro e w' ⟨rfl, ⟨nd, rfl⟩⟩; refine ⟨_, rfl, ?_⟩) | ((with_reducible refine gate_callee (f := 88) rfl ?_); refine goesL_ (some 18) rfl rfl Try.func88 (by kernel_rfl) rfl #[.int .i64 a0_1, .int .i64 a1_1] rfl za_ ?_; (with_reducible refine (cmp_Compare_int.calls a0_1 a1_1 t200 _ A5.out).mono ?_); rintro e w' ⟨rfl, ⟨nd, rfl⟩⟩; refine ⟨_, rfl, ?_⟩))
  go_ret
  exact ⟨by first | rfl | (simp [errW_none, errW_some] <;> rfl) | (simp [*, errW_none, errW_some] <;> rfl), by repeat (first | (with_reducible first | exact HB.out | apply dbelow_alloc | apply dpw_below_drewN | apply dbelow_drew1 | refine dbelow_set ?_ GE197.out | refine dbelow_set ?_ GE198.out) | exact HB.out)⟩
 ·
  rw [if_neg c4] at H
  have c4b0 : (t199 == 0) = false := beq_eq_false_iff_ne.mpr c4
  have c4b1 : (t199 != 0) = true := bne_iff_ne.mpr c4
  obtain rfl := Option.some.inj H
  go_enter Try.func86, Try.ntmps86
  go_wp2_with (first | ((with_reducible refine gate_dst (N := 2) rfl ?_); refine dbox_event ?hg (N := 2) ?hd (cs := #[.int .u64 a0_0, .int .i64 a0_1]) (t := 25) ?hr ?_; (case hd => rfl); (case hg => rfl); (case hr => first | (go_simp; done) | (go_simp; rfl)); intro gb197 hg w11 hbox hb; have n0_ := Aside0.mk (dbelow_step (by repeat (first | (with_reducible first | exact HB.out | apply dbelow_alloc | apply dpw_below_drewN | apply dbelow_drew1) | exact HB.out)) hb); have n1_ := Aside0.mk (hbox); have n2_ := Aside0.mk ((by rw [hg]; exact (dbelow_size (by repeat (first | (with_reducible first | exact HB.out | apply dbelow_alloc | apply dpw_below_drewN | apply dbelow_drew1) | exact HB.out))) : w.heap.size ≤ gb197)); have n3_ := Aside0.mk ((by rw [hg]; exact (dbelow_size (by repeat (first | (with_reducible first | exact HB.out | apply dbelow_alloc | apply dpw_below_drewN | apply dbelow_drew1) | exact HB.out))) : w.heap.size ≤ gb197)); clear HB; have HB := n0_; have BK197 := n1_; have GW197 := n2_; have GE197 := n3_; clear n0_ n1_ n2_ n3_; clear hb hbox hg) | ((with_reducible refine gate_dst (N := 3) rfl ?_); refine dbox_event ?hg (N := 3) ?hd (cs := #[.int .u64 a1_0, .int .i64 a1_1]) (t := 25) ?hr ?_; (case hd => rfl); (case hg => rfl); (case hr => first | (go_simp; done) | (go_simp; rfl)); intro gb198 hg w12 hbox hb; have n0_ := Aside0.mk (dblk_below (g := gb197) (o := .cells #[.int .u64 a0_0, .int .i64 a0_1] 25 (0, 0)) (by (with_reducible repeat (first | refine blk_drewN ?_ _ | refine blk_drew ?_ | refine blk_alloc ?_ _)); exact BK197.out) hb); have n1_ := Aside0.mk (dbelow_step (by repeat (first | (with_reducible first | exact HB.out | apply dbelow_alloc | apply dpw_below_drewN | apply dbelow_drew1 | refine dbelow_set ?_ GE197.out) | exact HB.out)) hb); have n2_ := Aside0.mk (hbox); have n3_ := Aside0.mk ((by rw [hg]; exact (dbelow_size (by repeat (first | (with_reducible first | exact HB.out | apply dbelow_alloc | apply dpw_below_drewN | apply dbelow_drew1 | refine dbelow_set ?_ GE197.out) | exact HB.out))) : w.heap.size ≤ gb198)); have n4_ := Aside0.mk ((by rw [hg]; exact (dbelow_size (by repeat (first | (with_reducible first | exact HB.out | apply dbelow_alloc | apply dpw_below_drewN | apply dbelow_drew1 | refine dbelow_set ?_ GE197.out) | exact HB.out))) : w.heap.size ≤ gb198)); have n5_ := Aside0.mk ((by rw [hg]; exact Nat.ne_of_lt (blk_lt (g := gb197) (o := .cells #[.int .u64 a0_0, .int .i64 a0_1] 25 (0, 0)) (by (with_reducible repeat (first | refine blk_drewN ?_ _ | refine blk_drew ?_ | refine blk_alloc ?_ _)); exact BK197.out)) : gb197 ≠ gb198)); have n6_ := Aside0.mk ((by rw [hg]; exact Nat.ne_of_gt (blk_lt (g := gb197) (o := .cells #[.int .u64 a0_0, .int .i64 a0_1] 25 (0, 0)) (by (with_reducible repeat (first | refine blk_drewN ?_ _ | refine blk_drew ?_ | refine blk_alloc ?_ _)); exact BK197.out)) : gb198 ≠ gb197)); clear BK197; clear HB; have BK197 := n0_; have HB := n1_; have BK198 := n2_; have GW198 := n3_; have GE198 := n4_; have NB197_198 := n5_; have NB198_197 := n6_; clear n0_ n1_ n2_ n3_ n4_ n5_ n6_; clear hb hbox hg; have hnb13 := NB197_198.out; have hnc13 := NB198_197.out; have hcz14_0 : w12.cell? ⟨gb197, 0, none⟩ = some (.int .u64 a0_0) := (blk_cell BK197.out 0).trans rfl; have hcz14_1 : w12.cell? ⟨gb197, 1, none⟩ = some (.int .i64 a0_1) := (blk_cell BK197.out 1).trans rfl; have hfz14_0 := blk_frozen BK197.out 0; have hfz14_1 := blk_frozen BK197.out 1; have hcz15_0 : w12.cell? ⟨gb198, 0, none⟩ = some (.int .u64 a1_0) := (blk_cell BK198.out 0).trans rfl; have hcz15_1 : w12.cell? ⟨gb198, 1, none⟩ = some (.int .i64 a1_1) := (blk_cell BK198.out 1).trans rfl; have hfz15_0 := blk_frozen BK198.out 0; have hfz15_1 := blk_frozen BK198.out 1) | ((with_reducible refine gate_callee (f := 87) rfl ?_); refine goesL_ (some 10) rfl rfl Try.func87 (by kernel_rfl) rfl #[.int .u64 a0_0, .int .u64 a1_0] rfl za_ ?_; (with_reducible refine (cmp_Compare_uint64.calls a0_0 a1_0 t199 _ A3.out).mono ?_); rintro e w' ⟨rfl, ⟨nd, rfl⟩⟩; refine ⟨_, rfl, ?_⟩))
  go_ret
  exact ⟨by first | rfl | (simp [errW_none, errW_some] <;> rfl) | (simp [*, errW_none, errW_some] <;> rfl), by repeat (first | (with_reducible first | exact HB.out | apply dbelow_alloc | apply dpw_below_drewN | apply dbelow_drew1 | refine dbelow_set ?_ GE197.out | refine dbelow_set ?_ GE198.out) | exact HB.out)⟩
set_option maxHeartbeats 8000000 in
set_option maxRecDepth 100000 in
theorem label_Compare.callsD (k : Nat) (a0_0 : Int) (a0_1 : Int) (a0_2 : Int) (a0_3 : Int) (a1_0 : Int) (a1_1 : Int) (a1_2 : Int) (a1_3 : Int) (r : Int) (w : World) (h : label_Compare.f k a0_0 a0_1 a0_2 a0_3 a1_0 a1_1 a1_2 a1_3 = some r) :
  Calls Try.prog 42 #[.agg #[.int .u64 a0_0, .int .i64 a0_1, .int .u64 a0_2, .int .i64 a0_3], .agg #[.int .u64 a1_0, .int .i64 a1_1, .int .u64 a1_2, .int .i64 a1_3]] w fun e w' => e = .returned (.int .i64 r) ∧ BlwD w.heap.size w w' := by
 have hu27 := Try.underlying27
 have hu25 := Try.underlying25
 have HB := Aside0.mk (BlwD.refl w.heap.size w)
 have H : ((ident_Compare.f a0_0 a0_1 a1_0 a1_1).bind fun t203 => ((cmp_Compare_uint64.f a0_2 a1_2).bind fun t204 => ((cmp_Compare_int.f a0_3 a1_3).bind fun t205 => ((cmp_Or_int.f k (([t203, t204, t205] : List Int))).bind fun t209 => (some t209))))) = some r := h
 clear h
 replace H := Option.bind_eq_some_iff.mp H
 obtain ⟨t203, A30, H⟩ := H
 replace H : ((cmp_Compare_uint64.f a0_2 a1_2).bind fun t204 => ((cmp_Compare_int.f a0_3 a1_3).bind fun t205 => ((cmp_Or_int.f k (([t203, t204, t205] : List Int))).bind fun t209 => (some t209)))) = some r := H
 have A3 := Aside0.mk A30
 clear A30
 replace H := Option.bind_eq_some_iff.mp H
 obtain ⟨t204, A40, H⟩ := H
 replace H : ((cmp_Compare_int.f a0_3 a1_3).bind fun t205 => ((cmp_Or_int.f k (([t203, t204, t205] : List Int))).bind fun t209 => (some t209))) = some r := H
 have A4 := Aside0.mk A40
 clear A40
 replace H := Option.bind_eq_some_iff.mp H
 obtain ⟨t205, A50, H⟩ := H
 replace H : ((cmp_Or_int.f k (([t203, t204, t205] : List Int))).bind fun t209 => (some t209)) = some r := H
 have A5 := Aside0.mk A50
 clear A50
 obtain ⟨y206, hy206⟩ : ∃ y_ : List Int, y_ = (([t203, t204, t205] : List Int)) := ⟨_, rfl⟩
 replace H : ((cmp_Or_int.f k y206).bind fun t209 => (some t209)) = some r := by first | (rw [hy206]; with_reducible exact H) | (have H2_ := (Option.bind_some _ _).symm.trans H; rw [hy206]; with_reducible exact H2_) | (have H2_ := (Option.bind_some _ _).symm.trans H; with_reducible exact H2_) | with_reducible exact H | (rw [hy206]; exact H) | exact H
 have Ny206 := Aside0.mk hy206
 clear hy206
 replace H := Option.bind_eq_some_iff.mp H
 obtain ⟨t209, A60, H⟩ := H
 replace H : (some t209) = some r := H
 have A6 := Aside0.mk A60
 clear A60
 obtain rfl := Option.some.inj H
 go_enter Try.func42, Try.ntmps42
 try go_wp2_with (first | ((with_reducible refine gate_dst (N := 2) rfl ?_); refine dbox_event ?hg (N := 2) ?hd (cs := #[.int .u64 a0_0, .int .i64 a0_1, .int .u64 a0_2, .int .i64 a0_3]) (t := 27) ?hr ?_; (case hd => rfl); (case hg => rfl); (case hr => first | (go_simp; done) | (go_simp; rfl)); intro gb201 hg w7 hbox hb; have n0_ := Aside0.mk (dbelow_step (by repeat (first | (with_reducible first | exact HB.out | apply dbelow_alloc | apply dpw_below_drewN | apply dbelow_drew1) | exact HB.out)) hb); have n1_ := Aside0.mk (hbox); have n2_ := Aside0.mk ((by rw [hg]; exact (dbelow_size (by repeat (first | (with_reducible first | exact HB.out | apply dbelow_alloc | apply dpw_below_drewN | apply dbelow_drew1) | exact HB.out))) : w.heap.size ≤ gb201)); have n3_ := Aside0.mk ((by rw [hg]; exact (dbelow_size (by repeat (first | (with_reducible first | exact HB.out | apply dbelow_alloc | apply dpw_below_drewN | apply dbelow_drew1) | exact HB.out))) : w.heap.size ≤ gb201)); clear HB; have HB := n0_; have BK201 := n1_; have GW201 := n2_; have GE201 := n3_; clear n0_ n1_ n2_ n3_; clear hb hbox hg) | ((with_reducible refine gate_dst (N := 3) rfl ?_); refine dbox_event ?hg (N := 3) ?hd (cs := #[.int .u64 a1_0, .int .i64 a1_1, .int .u64 a1_2, .int .i64 a1_3]) (t := 27) ?hr ?_; (case hd => rfl); (case hg => rfl); (case hr => first | (go_simp; done) | (go_simp; rfl)); intro gb202 hg w8 hbox hb; have n0_ := Aside0.mk (dblk_below (g := gb201) (o := .cells #[.int .u64 a0_0, .int .i64 a0_1, .int .u64 a0_2, .int .i64 a0_3] 27 (0, 0)) (by (with_reducible repeat (first | refine blk_drewN ?_ _ | refine blk_drew ?_ | refine blk_alloc ?_ _)); exact BK201.out) hb); have n1_ := Aside0.mk (dbelow_step (by repeat (first | (with_reducible first | exact HB.out | apply dbelow_alloc | apply dpw_below_drewN | apply dbelow_drew1 | refine dbelow_set ?_ GE201.out) | exact HB.out)) hb); have n2_ := Aside0.mk (hbox); have n3_ := Aside0.mk ((by rw [hg]; exact (dbelow_size (by repeat (first | (with_reducible first | exact HB.out | apply dbelow_alloc | apply dpw_below_drewN | apply dbelow_drew1 | refine dbelow_set ?_ GE201.out) | exact HB.out))) : w.heap.size ≤ gb202)); have n4_ := Aside0.mk ((by rw [hg]; exact (dbelow_size (by repeat (first | (with_reducible first | exact HB.out | apply dbelow_alloc | apply dpw_below_drewN | apply dbelow_drew1 | refine dbelow_set ?_ GE201.out) | exact HB.out))) : w.heap.size ≤ gb202)); have n5_ := Aside0.mk ((by rw [hg]; exact Nat.ne_of_lt (blk_lt (g := gb201) (o := .cells #[.int .u64 a0_0, .int .i64 a0_1, .int .u64 a0_2, .int .i64 a0_3] 27 (0, 0)) (by (with_reducible repeat (first | refine blk_drewN ?_ _ | refine blk_drew ?_ | refine blk_alloc ?_ _)); exact BK201.out)) : gb201 ≠ gb202)); have n6_ := Aside0.mk ((by rw [hg]; exact Nat.ne_of_gt (blk_lt (g := gb201) (o := .cells #[.int .u64 a0_0, .int .i64 a0_1, .int .u64 a0_2, .int .i64 a0_3] 27 (0, 0)) (by (with_reducible repeat (first | refine blk_drewN ?_ _ | refine blk_drew ?_ | refine blk_alloc ?_ _)); exact BK201.out)) : gb202 ≠ gb201)); clear BK201; clear HB; have BK201 := n0_; have HB := n1_; have BK202 := n2_; have GW202 := n3_; have GE202 := n4_; have NB201_202 := n5_; have NB202_201 := n6_; clear n0_ n1_ n2_ n3_ n4_ n5_ n6_; clear hb hbox hg))
 have n0_ := Aside0.mk (blk_drew BK201.out)
 have n1_ := Aside0.mk (blk_drew BK202.out)
 have n2_ := Aside0.mk (dbelow_drew1 HB.out)
 clear BK201
 clear BK202
 clear HB
 have BK201 := n0_
 have BK202 := n1_
 have HB := n2_
 clear n0_ n1_ n2_
 refine start_ (n := 18) (S := fun w' => w'.cell? ⟨gb201, 0, none⟩ = some (.int .u64 a0_0) ∧ w'.cell? ⟨gb201, 1, none⟩ = some (.int .i64 a0_1) ∧ w'.cell? ⟨gb201, 2, none⟩ = some (.int .u64 a0_2) ∧ w'.cell? ⟨gb201, 3, none⟩ = some (.int .i64 a0_3) ∧ w'.cell? ⟨gb202, 0, none⟩ = some (.int .u64 a1_0) ∧ w'.cell? ⟨gb202, 1, none⟩ = some (.int .i64 a1_1) ∧ w'.cell? ⟨gb202, 2, none⟩ = some (.int .u64 a1_2) ∧ w'.cell? ⟨gb202, 3, none⟩ = some (.int .i64 a1_3)) (ds := []) #[F_,F_,F_,F_,F_,F_,F_,F_,F_,F_,F_,F_,F_,F_,F_,F_,F_,F_] (by kernel_rfl) rfl rfl ⟨(blk_cell BK201.out 0).trans rfl, (blk_cell BK201.out 1).trans rfl, (blk_cell BK201.out 2).trans rfl, (blk_cell BK201.out 3).trans rfl, (blk_cell BK202.out 0).trans rfl, (blk_cell BK202.out 1).trans rfl, (blk_cell BK202.out 2).trans rfl, (blk_cell BK202.out 3).trans rfl⟩ (fun hHeld => ?_); refine with_tabW label_Compare.tab1 label_Compare.bits1 (fun HT_ HW_ => ?_)
 generalize w8.drew = w9 at BK201 BK202 HB hHeld ⊢
 refine pure_ (i := 0) (N := some 5) (v := ?_) (a' := ?_) #[T_,F_,F_,F_,F_,F_,F_,F_,F_,F_,F_,F_,F_,F_,F_,F_,F_,F_] rfl rfl (any_of HT_.out (by kernel_rfl)) (fun _ _ _ h => h) (Or.inl ⟨by rfl, ?_⟩) ?_ ?_
 rotate_left
 ·
  intro w'; go_simp; with_reducible rfl
 rotate_left
 ·
  exact zp_
 refine pure_ (i := 2) (N := some 7) (v := ?_) (a' := ?_) #[T_,F_,T_,F_,F_,F_,F_,F_,F_,F_,F_,F_,F_,F_,F_,F_,F_,F_] rfl rfl (any_of HT_.out (by kernel_rfl)) (fun _ _ _ h => h) (Or.inl ⟨by rfl, ?_⟩) ?_ ?_
 rotate_left
 ·
  intro w'; go_simp; with_reducible rfl
 rotate_left
 ·
  exact zp_
 refine pure_ (i := 5) (N := some 10) (v := ?_) (a' := ?_) #[T_,F_,T_,F_,F_,T_,F_,F_,F_,F_,F_,F_,F_,F_,F_,F_,F_,F_] rfl rfl (any_of HT_.out (by kernel_rfl)) (fun _ _ _ h => h) (Or.inl ⟨by rfl, ?_⟩) ?_ ?_
 rotate_left
 ·
  intro w'; go_simp; with_reducible rfl
 rotate_left
 ·
  exact zp_
 refine pure_ (i := 7) (N := some 12) (v := ?_) (a' := ?_) #[T_,F_,T_,F_,F_,T_,F_,T_,F_,F_,F_,F_,F_,F_,F_,F_,F_,F_] rfl rfl (any_of HT_.out (by kernel_rfl)) (fun _ _ _ h => h) (Or.inl ⟨by rfl, ?_⟩) ?_ ?_
 rotate_left
 ·
  intro w'; go_simp; with_reducible rfl
 rotate_left
 ·
  exact zp_
 refine pure_ (i := 10) (N := some 15) (v := ?_) (a' := ?_) #[T_,F_,T_,F_,F_,T_,F_,T_,F_,F_,T_,F_,F_,F_,F_,F_,F_,F_] rfl rfl (any_of HT_.out (by kernel_rfl)) (fun _ _ _ h => h) (Or.inl ⟨by rfl, ?_⟩) ?_ ?_
 rotate_left
 ·
  intro w'; go_simp; with_reducible rfl
 rotate_left
 ·
  exact zp_
 refine pure_ (i := 12) (N := some 17) (v := ?_) (a' := ?_) #[T_,F_,T_,F_,F_,T_,F_,T_,F_,F_,T_,F_,T_,F_,F_,F_,F_,F_] rfl rfl (any_of HT_.out (by kernel_rfl)) (fun _ _ _ h => h) (Or.inl ⟨by rfl, ?_⟩) ?_ ?_
 rotate_left
 ·
  intro w'; go_simp; with_reducible rfl
 rotate_left
 ·
  exact zp_
 refine take_ (i := 1) (N := some 6) (v := ?_) (a' := ?_) #[T_,T_,T_,F_,F_,T_,F_,T_,F_,F_,T_,F_,T_,F_,F_,F_,F_,F_] rfl rfl (take_ofW HT_.out HW_.out (by kernel_rfl)) (fun _ _ _ h => h) (Or.inl ⟨by rfl, ?_⟩) hHeld ?_ ?_
 rotate_left
 ·
  rintro w' ⟨s0, s1, s2, s3, s4, s5, s6, s7⟩
  go_simp
  with_reducible rfl
 rotate_left
 ·
  exact zp_
 refine take_ (i := 3) (N := some 8) (v := ?_) (a' := ?_) #[T_,T_,T_,T_,F_,T_,F_,T_,F_,F_,T_,F_,T_,F_,F_,F_,F_,F_] rfl rfl (take_ofW HT_.out HW_.out (by kernel_rfl)) (fun _ _ _ h => h) (Or.inl ⟨by rfl, ?_⟩) hHeld ?_ ?_
 rotate_left
 ·
  rintro w' ⟨s0, s1, s2, s3, s4, s5, s6, s7⟩
  go_simp
  with_reducible rfl
 rotate_left
 ·
  exact zp_
 refine take_ (i := 6) (N := some 11) (v := ?_) (a' := ?_) #[T_,T_,T_,T_,F_,T_,T_,T_,F_,F_,T_,F_,T_,F_,F_,F_,F_,F_] rfl rfl (take_ofW HT_.out HW_.out (by kernel_rfl)) (fun _ _ _ h => h) (Or.inl ⟨by rfl, ?_⟩) hHeld ?_ ?_
 rotate_left
 ·
  rintro w' ⟨s0, s1, s2, s3, s4, s5, s6, s7⟩
  go_simp
  with_reducible rfl
 rotate_left
 ·
  exact zp_
 refine take_ (i := 8) (N := some 13) (v := ?_) (a' := ?_) #[T_,T_,T_,T_,F_,T_,T_,T_,T_,F_,T_,F_,T_,F_,F_,F_,F_,F_] rfl rfl (take_ofW HT_.out HW_.out (by kernel_rfl)) (fun _ _ _ h => h) (Or.inl ⟨by rfl, ?_⟩) hHeld ?_ ?_
 rotate_left
 ·
  rintro w' ⟨s0, s1, s2, s3, s4, s5, s6, s7⟩
  go_simp
  with_reducible rfl
 rotate_left
 ·
  exact zp_
 refine take_ (i := 11) (N := some 16) (v := ?_) (a' := ?_) #[T_,T_,T_,T_,F_,T_,T_,T_,T_,F_,T_,T_,T_,F_,F_,F_,F_,F_] rfl rfl (take_ofW HT_.out HW_.out (by kernel_rfl)) (fun _ _ _ h => h) (Or.inl ⟨by rfl, ?_⟩) hHeld ?_ ?_
 rotate_left
 ·
  rintro w' ⟨s0, s1, s2, s3, s4, s5, s6, s7⟩
  go_simp
  with_reducible rfl
 rotate_left
 ·
  exact zp_
 refine take_ (i := 13) (N := some 18) (v := ?_) (a' := ?_) #[T_,T_,T_,T_,F_,T_,T_,T_,T_,F_,T_,T_,T_,T_,F_,F_,F_,F_] rfl rfl (take_ofW HT_.out HW_.out (by kernel_rfl)) (fun _ _ _ h => h) (Or.inl ⟨by rfl, ?_⟩) hHeld ?_ ?_
 rotate_left
 ·
  rintro w' ⟨s0, s1, s2, s3, s4, s5, s6, s7⟩
  go_simp
  with_reducible rfl
 rotate_left
 ·
  exact zp_
 refine one_ (i := 4) (N := some 9) #[T_,T_,T_,T_,T_,T_,T_,T_,T_,F_,T_,T_,T_,T_,F_,F_,F_,F_] rfl rfl (one_of HT_.out (by kernel_rfl)) (by decide) (fun K hK => ?_)
 refine goes_ Try.func86 (by kernel_rfl) rfl #[.agg #[.int .u64 a0_0, .int .i64 a0_1], .agg #[.int .u64 a1_0, .int .i64 a1_1]] (by rfl) rfl rfl za_ ?_
 with_reducible refine (ident_Compare.callsD a0_0 a0_1 a1_0 a1_1 t203 _ A3.out).mono ?_
 rintro e w10 ⟨rfl, hb⟩
 refine ⟨_, rfl, ?_⟩
 have n0_ := Aside0.mk (dblk_below (g := gb201) (o := .cells #[.int .u64 a0_0, .int .i64 a0_1, .int .u64 a0_2, .int .i64 a0_3] 27 (0, 0)) (by (with_reducible repeat (first | refine blk_drewN ?_ _ | refine blk_drew ?_ | refine blk_alloc ?_ _)); exact BK201.out) hb)
 have n1_ := Aside0.mk (dblk_below (g := gb202) (o := .cells #[.int .u64 a1_0, .int .i64 a1_1, .int .u64 a1_2, .int .i64 a1_3] 27 (0, 0)) (by (with_reducible repeat (first | refine blk_drewN ?_ _ | refine blk_drew ?_ | refine blk_alloc ?_ _)); exact BK202.out) hb)
 have n2_ := Aside0.mk (dbelow_step (by repeat (first | (with_reducible first | exact HB.out | apply dbelow_alloc | apply dpw_below_drewN | apply dbelow_drew1 | refine dbelow_set ?_ GE201.out | refine dbelow_set ?_ GE202.out) | exact HB.out)) hb)
 clear BK201
 clear BK202
 clear HB
 have BK201 := n0_
 have BK202 := n1_
 have HB := n2_
 clear n0_ n1_ n2_
 (try clear hb)
 (try clear hb2)
 (try clear hk)
 (try clear hi)
 refine hK.out _ _ ⟨(blk_cell BK201.out 0).trans rfl, (blk_cell BK201.out 1).trans rfl, (blk_cell BK201.out 2).trans rfl, (blk_cell BK201.out 3).trans rfl, (blk_cell BK202.out 0).trans rfl, (blk_cell BK202.out 1).trans rfl, (blk_cell BK202.out 2).trans rfl, (blk_cell BK202.out 3).trans rfl⟩ (fun hHeld => ?_)
 clear hK K
 refine norm_ (a' := ?_) ?_ ?_
 rotate_left
 ·
  show Act.put _ (some 9) _ = _
  simp only [Act.put, List.setIfInBounds_toArray, List.set_cons_zero, List.set_cons_succ, i64_w, i32_w]
  rfl
 refine one_ (i := 9) (N := some 14) #[T_,T_,T_,T_,T_,T_,T_,T_,T_,T_,T_,T_,T_,T_,F_,F_,F_,F_] rfl rfl (one_of HT_.out (by kernel_rfl)) (by decide) (fun K hK => ?_)
 refine goes_ Try.func87 (by kernel_rfl) rfl #[.int .u64 a0_2, .int .u64 a1_2] (by rfl) rfl rfl za_ ?_
 with_reducible refine (cmp_Compare_uint64.calls a0_2 a1_2 t204 _ A4.out).mono ?_
 rintro e w' ⟨rfl, ⟨nd, rfl⟩⟩
 refine ⟨_, rfl, ?_⟩
 refine hK.out _ _ ⟨(blk_cell BK201.out 0).trans rfl, (blk_cell BK201.out 1).trans rfl, (blk_cell BK201.out 2).trans rfl, (blk_cell BK201.out 3).trans rfl, (blk_cell BK202.out 0).trans rfl, (blk_cell BK202.out 1).trans rfl, (blk_cell BK202.out 2).trans rfl, (blk_cell BK202.out 3).trans rfl⟩ (fun hHeld => ?_)
 clear hK K
 refine norm_ (a' := ?_) ?_ ?_
 rotate_left
 ·
  show Act.put _ (some 14) _ = _
  simp only [Act.put, List.setIfInBounds_toArray, List.set_cons_zero, List.set_cons_succ, i64_w, i32_w]
  rfl
 refine one_ (i := 14) (N := some 19) #[T_,T_,T_,T_,T_,T_,T_,T_,T_,T_,T_,T_,T_,T_,T_,F_,F_,F_] rfl rfl (one_of HT_.out (by kernel_rfl)) (by decide) (fun K hK => ?_)
 refine goes_ Try.func88 (by kernel_rfl) rfl #[.int .i64 a0_3, .int .i64 a1_3] (by rfl) rfl rfl za_ ?_
 with_reducible refine (cmp_Compare_int.calls a0_3 a1_3 t205 _ A5.out).mono ?_
 rintro e w' ⟨rfl, ⟨nd, rfl⟩⟩
 refine ⟨_, rfl, ?_⟩
 refine hK.out _ _ ⟨(blk_cell BK201.out 0).trans rfl, (blk_cell BK201.out 1).trans rfl, (blk_cell BK201.out 2).trans rfl, (blk_cell BK201.out 3).trans rfl, (blk_cell BK202.out 0).trans rfl, (blk_cell BK202.out 1).trans rfl, (blk_cell BK202.out 2).trans rfl, (blk_cell BK202.out 3).trans rfl⟩ (fun hHeld => ?_)
 clear hK K
 refine norm_ (a' := ?_) ?_ ?_
 rotate_left
 ·
  show Act.put _ (some 19) _ = _
  simp only [Act.put, List.setIfInBounds_toArray, List.set_cons_zero, List.set_cons_succ, i64_w, i32_w]
  rfl
 refine one_ (i := 15) (N := some 20) #[T_,T_,T_,T_,T_,T_,T_,T_,T_,T_,T_,T_,T_,T_,T_,T_,F_,F_] rfl rfl (one_of HT_.out (by kernel_rfl)) (by decide) (fun K hK => ?_)
 refine dR_lit_step (Kd.int .i64) _ 3 ?hg (N := 20) ?hd (xs := ([t203, t204, t205] : List Int)) (inner := [.int .i64 t203, .int .i64 t204, .int .i64 t205]) (ok := fun _ => True) (okp := fun _ => True) ?hr ?hp (fun _ hk => hk) trivial (BlwD.refl _ _) (Nat.le_refl _) (by simp) ?_; (case hd => rfl); (case hg => rfl); (case hr => first | (go_simp; done) | (go_simp; rfl)); (case hp => exact (Reps.one (show Kd.M (Kd.int .i64) _ _ _ t203 [.int .i64 t203] from rfl) (Reps.one (show Kd.M (Kd.int .i64) _ _ _ t204 [.int .i64 t204] from rfl) (Reps.one (show Kd.M (Kd.int .i64) _ _ _ t205 [.int .i64 t205] from rfl) (Reps.none _ _)))))
 intro v207 w11 ho12 hb hg_ hnew_
 clear hg_ hnew_
 (first | rw [← Ny206.out] at ho12 | (simp only [Int.reduceToNat] at ho12; rw [← Ny206.out] at ho12))
 have n0_ := Aside0.mk (Kd.R_lower ho12 (dbelow_size (by repeat (first | (with_reducible first | exact HB.out | apply dbelow_alloc | apply dpw_below_drewN | apply dbelow_drew1 | refine dbelow_set ?_ GE201.out | refine dbelow_set ?_ GE202.out) | exact HB.out))))
 have n1_ := Aside0.mk (dblk_below (g := gb201) (o := .cells #[.int .u64 a0_0, .int .i64 a0_1, .int .u64 a0_2, .int .i64 a0_3] 27 (0, 0)) (by (with_reducible repeat (first | refine blk_drewN ?_ _ | refine blk_drew ?_ | refine blk_alloc ?_ _)); exact BK201.out) hb)
 have n2_ := Aside0.mk (dblk_below (g := gb202) (o := .cells #[.int .u64 a1_0, .int .i64 a1_1, .int .u64 a1_2, .int .i64 a1_3] 27 (0, 0)) (by (with_reducible repeat (first | refine blk_drewN ?_ _ | refine blk_drew ?_ | refine blk_alloc ?_ _)); exact BK202.out) hb)
 have n3_ := Aside0.mk (dbelow_step (by repeat (first | (with_reducible first | exact HB.out | apply dbelow_alloc | apply dpw_below_drewN | apply dbelow_drew1 | refine dbelow_set ?_ GE201.out | refine dbelow_set ?_ GE202.out) | exact HB.out)) hb)
 clear BK201
 clear BK202
 clear HB
 have HO208 := n0_
 have BK201 := n1_
 have BK202 := n2_
 have HB := n3_
 clear n0_ n1_ n2_ n3_
 clear hb ho12
 obtain ⟨Ao13, co13, eo13⟩ := Kd.R_slice HO208.out
 (first | subst eo13 | (injection eo13 with f1_ f2_ f3_; have f4_ := f1_.symm; have f5_ := f3_.symm; clear f1_ f2_ f3_; subst f4_; subst f5_))
 refine hK.out _ _ ⟨(blk_cell BK201.out 0).trans rfl, (blk_cell BK201.out 1).trans rfl, (blk_cell BK201.out 2).trans rfl, (blk_cell BK201.out 3).trans rfl, (blk_cell BK202.out 0).trans rfl, (blk_cell BK202.out 1).trans rfl, (blk_cell BK202.out 2).trans rfl, (blk_cell BK202.out 3).trans rfl⟩ (fun hHeld => ?_)
 clear hK K
 refine norm_ (a' := ?_) ?_ ?_
 rotate_left
 ·
  show Act.put _ (some 20) _ = _
  simp only [Act.put, List.setIfInBounds_toArray, List.set_cons_zero, List.set_cons_succ, i64_w, i32_w]
  rfl
 refine one_ (i := 16) (N := some 21) #[T_,T_,T_,T_,T_,T_,T_,T_,T_,T_,T_,T_,T_,T_,T_,T_,T_,F_] rfl rfl (one_of HT_.out (by kernel_rfl)) (by decide) (fun K hK => ?_)
 refine goes_ Try.func85 (by kernel_rfl) rfl #[.slice Ao13 y206.length co13] (by rfl) rfl rfl za_ ?_
 with_reducible refine (cmp_Or_int.calls k _ _ y206 t209 _ ?side1 ?side2 A6.out).mono ?_
 (case side1 => exact zd_ (Kd.R_reads' HO208.out).2.2)
 (case side2 => exact (Kd.R_reads' HO208.out).2.1)
 rintro e w' ⟨rfl, ⟨nd, rfl⟩⟩
 refine ⟨_, rfl, ?_⟩
 refine hK.out _ _ ⟨(blk_cell BK201.out 0).trans rfl, (blk_cell BK201.out 1).trans rfl, (blk_cell BK201.out 2).trans rfl, (blk_cell BK201.out 3).trans rfl, (blk_cell BK202.out 0).trans rfl, (blk_cell BK202.out 1).trans rfl, (blk_cell BK202.out 2).trans rfl, (blk_cell BK202.out 3).trans rfl⟩ (fun hHeld => ?_)
 clear hK K
 refine norm_ (a' := ?_) ?_ ?_
 rotate_left
 ·
  show Act.put _ (some 21) _ = _
  simp only [Act.put, List.setIfInBounds_toArray, List.set_cons_zero, List.set_cons_succ, i64_w, i32_w]
  rfl
 refine pure_ (i := 17) (N := some 4) (v := ?_) (a' := ?_) #[T_,T_,T_,T_,T_,T_,T_,T_,T_,T_,T_,T_,T_,T_,T_,T_,T_,T_] rfl rfl (any_of HT_.out (by kernel_rfl)) (fun _ _ _ h => h) (Or.inl ⟨by rfl, ?_⟩) ?_ ?_
 rotate_left
 ·
  intro w'; go_simp; with_reducible rfl
 rotate_left
 ·
  exact zp_
 refine done_ (done_of HT_.out (by kernel_rfl)) ?_
 (try clear hHeld); (try clear HS0_)
 try go_wp2
 go_ret
 exact ⟨by first | rfl | (simp [errW_none, errW_some] <;> rfl) | (simp [*, errW_none, errW_some] <;> rfl), by repeat (first | (with_reducible first | exact HB.out | apply dbelow_alloc | apply dpw_below_drewN | apply dbelow_drew1 | refine dbelow_set ?_ GE201.out | refine dbelow_set ?_ GE202.out) | exact HB.out)⟩
end Go.Proofs.Ytioooiflpabngaa.PAll
end
section
namespace Go.Proofs.Ytioooiflpabngaa.PAll
open Go.RowKit Go.Proofs.YtioooiflpabngaaW.PrintWords
set_option linter.unusedVariables false
set_option linter.unusedSimpArgs false
theorem compare64 (a b : Int) : cmp_Compare_uint64.f a b = some (cmpI a b) := by
  unfold cmp_Compare_uint64.f cmp_isNaN_uint64.f cmpI
  simp
  split <;> (try split) <;> simp_all
theorem compare_int (a b : Int) : cmp_Compare_int.f a b = some (cmpI a b) := by
  unfold cmp_Compare_int.f cmp_isNaN_int.f cmpI
  simp
  split <;> (try split) <;> simp_all
theorem ident_Compare_eq (a b : S25) : ident_Compare.f a.f0 a.f1 b.f0 b.f1 = some (cmpV a b) := by
  unfold ident_Compare.f cmpV
  rw [compare64, compare_int]
  simp only [Option.bind_some]
  by_cases h : cmpI a.f0 b.f0 = 0 <;> simp [h]
theorem or_three (a b c : Int) : cmp_Or_int.f 4 [a, b, c] = some (if a = 0 then (if b = 0 then c else b) else a) := by
  by_cases ha : a = 0 <;> by_cases hb : b = 0 <;> by_cases hc : c = 0 <;> simp [cmp_Or_int.f, cmp_Or_int.l0, YtioooiflpabngaaW.PrintWords.rd, ha, hb, hc, wrap64]
theorem label_Compare_eq (a b : S27) : label_Compare.f 4 a.f0.f0 a.f0.f1 a.f1 a.f2 b.f0.f0 b.f0.f1 b.f1 b.f2 = some (cmpL a b) := by
  unfold label_Compare.f
  rw [ident_Compare_eq, compare64, compare_int]
  simp only [Option.bind_some]
  rw [or_three]
  rfl
end Go.Proofs.Ytioooiflpabngaa.PAll
end
section
namespace Go.Proofs
open Go.Shelf
def Try.sortLab_ren : Go.Shelf.Ren := ⟨fun | 6 => 115 | 15 => 130 | 14 => 129 | 28 => 140 | 29 => 141 | 20 => 132 | 21 => 133 | 22 => 134 | 23 => 135 | 24 => 136 | 25 => 137 | 26 => 138 | 27 => 139 | 46 => 142 | 47 => 143 | 48 => 144 | 49 => 145 | 50 => 146 | 57 => 147 | n => n, fun | 22 => 41 | 24 => 27 | 25 => 49 | 3 => 3 | 39 => 136 | 0 => 0 | 53 => 159 | 55 => 23 | 4 => 4 | 46 => 153 | 45 => 152 | 50 => 90 | 5 => 5 | 9 => 9 | 66 => 161 | 70 => 164 | 76 => 166 | 77 => 167 | n => n, fun | n => n⟩
theorem Try.sortLab : Go.Proofs.SlLaysF0.n6 Try.prog Try.sortLab_ren := {
  mixed := by kernel_rfl
  f6 := ⟨Try.f115.name, by decide, Try.func115.trans (congrArg some (by kernel_rfl))⟩
  f14 := ⟨Try.f129.name, by decide, Try.func129.trans (congrArg some (by kernel_rfl))⟩
  f15 := Try.func130.trans (congrArg some (by kernel_rfl))
  f20 := ⟨Try.f132.name, by decide, Try.func132.trans (congrArg some (by kernel_rfl))⟩
  f21 := ⟨Try.f133.name, by decide, Try.func133.trans (congrArg some (by kernel_rfl))⟩
  f22 := ⟨Try.f134.name, by decide, Try.func134.trans (congrArg some (by kernel_rfl))⟩
  f23 := ⟨Try.f135.name, by decide, Try.func135.trans (congrArg some (by kernel_rfl))⟩
  f24 := ⟨Try.f136.name, by decide, Try.func136.trans (congrArg some (by kernel_rfl))⟩
  f25 := ⟨Try.f137.name, by decide, Try.func137.trans (congrArg some (by kernel_rfl))⟩
  f26 := ⟨Try.f138.name, by decide, Try.func138.trans (congrArg some (by kernel_rfl))⟩
  f27 := ⟨Try.f139.name, by decide, Try.func139.trans (congrArg some (by kernel_rfl))⟩
  f28 := Try.func140.trans (congrArg some (by kernel_rfl))
  f29 := Try.func141.trans (congrArg some (by kernel_rfl))
  f46 := ⟨Try.f142.name, by decide, Try.func142.trans (congrArg some (by kernel_rfl))⟩
  f47 := Try.func143.trans (congrArg some (by kernel_rfl))
  f48 := Try.func144.trans (congrArg some (by kernel_rfl))
  f49 := ⟨Try.f145.name, by decide, Try.func145.trans (congrArg some (by kernel_rfl))⟩
  f50 := ⟨Try.f146.name, by decide, Try.func146.trans (congrArg some (by kernel_rfl))⟩
  f57 := ⟨Try.f147.name, by decide, Try.func147.trans (congrArg some (by kernel_rfl))⟩
  t0 := Try.underlying0
  a0 := Try.isAgg0
  z0 := Try.sizeOf0
  v0 := Try.zeroValue0
  t3 := Try.underlying3
  a3 := Try.isAgg3
  z3 := Try.sizeOf3
  v3 := Try.zeroValue3
  t4 := Try.underlying4
  a4 := Try.isAgg4
  z4 := Try.sizeOf4
  v4 := Try.zeroValue4
  t5 := Try.underlying5
  a5 := Try.isAgg5
  z5 := Try.sizeOf5
  v5 := Try.zeroValue5
  t9 := Try.underlying9
  a9 := Try.isAgg9
  z9 := Try.sizeOf9
  v9 := Try.zeroValue9
  t22 := Try.underlying41
  a22 := Try.isAgg41
  z22 := Try.sizeOf41
  v22 := Try.zeroValue41
  t25 := Try.underlying49
  a25 := Try.isAgg49
  z25 := Try.sizeOf49
  v25 := Try.zeroValue49
  t39 := Try.underlying136
  a39 := Try.isAgg136
  z39 := Try.sizeOf136
  v39 := Try.zeroValue136
  t45 := Try.underlying152
  a45 := Try.isAgg152
  z45 := Try.sizeOf152
  v45 := Try.zeroValue152
  t46 := Try.underlying153
  a46 := Try.isAgg153
  z46 := Try.sizeOf153
  v46 := Try.zeroValue153
  t50 := Try.underlying90
  a50 := Try.isAgg90
  z50 := Try.sizeOf90
  v50 := Try.zeroValue90
  t53 := Try.underlying159
  a53 := Try.isAgg159
  z53 := Try.sizeOf159
  v53 := Try.zeroValue159
  t55 := Try.underlying23
  a55 := Try.isAgg23
  z55 := Try.sizeOf23
  v55 := Try.zeroValue23
  t66 := Try.underlying161
  a66 := Try.isAgg161
  z66 := Try.sizeOf161
  v66 := Try.zeroValue161
  t70 := Try.underlying164
  a70 := Try.isAgg164
  z70 := Try.sizeOf164
  v70 := Try.zeroValue164
  t76 := Try.underlying166
  a76 := Try.isAgg166
  z76 := Try.sizeOf166
  v76 := Try.zeroValue166
  t77 := Try.underlying167
  a77 := Try.isAgg167
  z77 := Try.sizeOf167
  v77 := Try.zeroValue167 }
end Go.Proofs
end
section
namespace Go.Proofs.Ytioooiflpabngaa.PAll
open Go.RowKit Go.Shelf Go.Proofs.YtioooiflpabngaaW.PrintWords Go.Proofs.YtioooiflpabngaaW.PrintLast Go.Proofs.YtioooiflpabngaaW.PrintMore
attribute [local go_sem] Oper.semAt_some
set_option linter.unusedVariables false
set_option linter.unusedSimpArgs false
theorem R_append_run {α : Type} {P : Program} (d : Kd α) {w0 W : World} (base : Nat) (t ty e : TypeId) (z : Value) (bytes : Nat)
    (ht : P.underlying t = some (.slice e)) (hinfo : (P.info? e).map (fun i => (i.zero, i.size, i.bytes)) = some (some z, d.sz, bytes)) (hz : z.cells.size = d.sz) (hs0 : 0 < d.sz) (hb0 : 0 < bytes)
    (v : Value) (xs : List α) (p : α) (cs : List Value) (ok okp : Nat → Prop) (hp : d.M W base okp p cs) (hokp : ∀ k, okp k → ok k ∧ some k ≠ v.ownBlock) (hfresh : ∀ k, W.heap.size ≤ k → ok k)
    (HO : d.R e W base ok v xs) (HB : Below base w0 W) (hbase : base ≤ W.heap.size) (hl : (xs.length + 1) * bytes ≤ 140737488355328) :
    ∃ v1 w1, (Builtin.append_ #[t, t] ty #[v, .slice (some ⟨W.heap.size, 0, none⟩) 1 1]).run P (W.alloc (.cells cs.toArray e)) = .ok v1 w1 ∧ d.R e w1 base ok v1 (xs ++ [p]) ∧ Below base w0 w1 ∧ W.grownBy w1 v.ownBlock := by
  obtain ⟨h0, inner, hown, hr⟩ := HO
  obtain ⟨i0, hi, hzz⟩ := Option.map_eq_some_iff.1 hinfo
  simp only [Prod.mk.injEq] at hzz
  obtain ⟨hz0, hz1, hz2⟩ := hzz
  have hlen : xs.length + 1 ≤ 140737488355328 := Nat.le_trans (Nat.le_mul_of_pos_right _ hb0) hl
  have hcl := d.K_len (d.K_of_M hp)
  obtain ⟨v1, w1, hrun, hown1, hg, _, hat⟩ := run_append_own_at (P := P) (W.alloc (.cells cs.toArray e)) base t ty e i0 z d.sz bytes ht hi hz0 hz1 hz2 hz hs0 v xs.length inner (hown.alloc _) ⟨W.heap.size, 0, none⟩ 1 1 cs (by omega)
    (World.news_of_block (cs := cs.toArray) (t := e) (fr := (0, 0)) (heap_alloc_new W _)) (d.K_one (d.K_of_M hp)) (by simp only [maxLen]; omega) hl (by simp; omega)
  have hg1 : W.grownBy w1 v.ownBlock := World.grownBy.trans (World.grownBy_alloc W _ _) hg
  refine ⟨v1, w1, hrun, Kd.R_appended h0 hr hp hokp hfresh hown1 hg1 ?_, (HB.alloc hbase _).grown hg (by simp; omega) (own_base hown), hg1⟩
  rcases hat with hat | hat
  · exact .inl hat
  · exact .inr ⟨_, hat, by simp⟩
theorem RIn_append {α : Type} {F : Fence} {nF : Nat} {P : Program} {ops : Array Oper} {rest : List Oper} {o : Oper} {a : Act} {Q : Exit → Act → World → Prop} (d : Kd α) {w0 W : World} (base : Nat) (hgd : o.guard = none) (s x : Operand) (t e : TypeId) (z : Value) (bytes : Nat)
    (ho : o.op = .call { callee := .builtin .append, args := #[s, x], argTypes := #[t, t] })
    (ht : P.underlying t = some (.slice e)) (hinfo : (P.info? e).map (fun i => (i.zero, i.size, i.bytes)) = some (some z, d.sz, bytes)) (hz : z.cells.size = d.sz) (hs0 : 0 < d.sz) (hb0 : 0 < bytes)
    (v : Value) (xs : List α) (p : α) (cs : List Value) (ok okp : Nat → Prop) (hs : a.eval s = v) (hx : a.eval x = .slice (some ⟨W.heap.size, 0, none⟩) 1 1) (hp : d.M W base okp p cs) (hokp : ∀ k, okp k → ok k ∧ some k ≠ v.ownBlock) (hfresh : ∀ k, W.heap.size ≤ k → ok k)
    (HO : d.R e W base ok v xs) (HB : Below base w0 W) (hbase : base ≤ W.heap.size) (hl : (xs.length + 1) * bytes ≤ 140737488355328)
    (h : ∀ v1 w1, d.R e w1 base ok v1 (xs ++ [p]) → Below base w0 w1 → W.grownBy w1 v.ownBlock → wpListIn F nF P ops Q rest (a.put o.dst v1) w1) :
    wpListIn F nF P ops Q (o :: rest) a (W.alloc (.cells cs.toArray e)) := by
  refine wpListIn_plain hgd fun K hK => ?_
  obtain ⟨v1, w1, hr, h2, h3, h4⟩ := R_append_run (P := P) d (w0 := w0) base t o.type e z bytes ht hinfo hz hs0 hb0 v xs p cs ok okp hp hokp hfresh HO HB hbase hl
  unfold Oper.wpIn
  refine ⟨by simp [Oper.about, ho, resolve, Target.leads, Sem.run_pure], ?_⟩
  rw [Oper.semAt_plain F _ _ (by rw [ho]; intro c hc'; cases hc')]
  simp [execOp, ho, resolve, invoke, builtin, hs, hx, hr, Result.andThen]
  exact hK _ _ (h v1 w1 h2 h3 h4)
theorem valuesL (A : Option Addr) (n c : Nat) (w : World) :
    Calls Try.prog 81 #[.slice A n c] w fun e w' => e = .returned (.func (.func 116) #[] #[.pointer (some ⟨w.heap.size, 0, none⟩)]) ∧ w' = w.alloc (.cells #[.slice A n c] 41) := by
  go_enter Try.func81, Try.ntmps81
  go_wp2
  go_ret
  exact ⟨rfl, rfl⟩
def encL (x : S27) : List Value := [.int .u64 x.f0.f0, .int .i64 x.f0.f1, .int .u64 x.f1, .int .i64 x.f2]
theorem take_snocL (l : List S27) (k : Nat) (h : k < l.length) : l.take (k + 1) = l.take k ++ [rd_T27 l k] := by
  rw [List.take_succ_eq_append_getElem h]
  simp [rd_T27, h]
set_option maxRecDepth 100000 in
set_option maxHeartbeats 4000000 in
theorem values1L_in (F : Fence) (n : Nat) (h7 : F.fn 116) (hro : F.round = none) (hn : 1 ≤ n) (l Bs : Nat) (A : Option Addr) (cap : Nat) (zs : List S27) (w0 : World) (hlen : zs.length < 4398046511104) (HC : Kd.C k27 w0 A zs.length zs) (J Jx : List S27 → World → Prop)
    (hY : ∀ pre x W, J pre W → pre.length < zs.length → YieldAt F (n - 1) Try.prog l #[.agg (encL x).toArray] W fun e W' =>
      (e = .returned (.bool true) ∧ J (pre ++ [x]) W' ∧ Below w0.heap.size W W') ∨ (e = .returned (.bool false) ∧ Jx (pre ++ [x]) W'))
    (hJa : ∀ s W o, J s W → J s (W.alloc o))
    (W : World) (hW : Below w0.heap.size w0 W) (hBs : W.cell? ⟨Bs, 0, none⟩ = some (.slice A zs.length cap)) (h0 : J [] W) :
    CallsIn F n Try.prog 116 #[.func (.yield l) #[] #[], .pointer (some ⟨Bs, 0, none⟩)] W fun e W' => (∃ v, e = .returned v) ∧
      ((∃ ys, ys = zs ∧ J ys W') ∨ (∃ pre, True ∧ Jx pre W')) := by
  have HL := Aside0.mk hlen
  clear hlen
  have HC := Aside0.mk HC
  refine callsIn_of_wp Try.func116 rfl h7 ?_ hro
  simp only [Try.ntmps116, List.size_toArray, List.length_cons, List.length_nil, Nat.reduceAdd, Nat.reduceSub, Array.replicate_succ, Array.replicate_zero, List.push_toArray, List.append_toArray, List.nil_append, List.cons_append]
  gi_wp2
  gi_loopw [7] (fun i wr => ∃ k : Nat, k ≤ zs.length ∧ i = .int .i64 k ∧ J (zs.take k) wr ∧ Aside0 (Below w0.heap.size w0 wr))
    (fun i _ => zs.length - (intOf i).toNat)
  case atStart => exact ⟨0, Nat.zero_le _, rfl, by simpa using h0, ⟨hW⟩⟩
  case round =>
    obtain ⟨k, hk, rfl, hJs, hnx⟩ := hrel
    by_cases hlt : k < zs.length
    · obtain ⟨ad, e, hx0, hx1, hx2, hx3⟩ := at_T27 (Kd.C_below HC.out hnx.out) (k : Int) (by omega) (by omega)
      subst e
      rw [Int.toNat_natCast] at hx0 hx1 hx2 hx3
      obtain ⟨fn, tmps, assign, body, hy, hR⟩ := hY _ (rd_T27 zs k) (wr.alloc (.cells (encL (rd_T27 zs k)).toArray 27)) (hJa _ _ _ hJs) (by rw [List.length_take]; omega)
      simp only [encL] at hy
      have HK := Aside0.mk hk
      clear hk
      have hlt' : (k : Int) < (zs.length : Int) := by omega
      have hz2 := HL.out
      gi_wp2
      refine hR.mono ?_
      rintro e W3 (⟨rfl, hJ3, hk3⟩ | ⟨rfl, hJx3⟩)
      · gi_wp2
        go_roundw
        case rel => exact ⟨k + 1, by omega, by simp, by rw [take_snocL _ _ hlt]; exact hJ3, ⟨(hnx.out.alloc hnx.out.size _).trans hk3⟩⟩
        case measure => simp [intOf]; omega
      · gi_wp2
        refine bodyPost_ret (results_none rfl _ _ _) rfl ?_
        exact ⟨⟨_, rfl⟩, .inr ⟨_, trivial, hJx3⟩⟩
    · obtain rfl : k = zs.length := by omega
      gi_wp2
      go_end0
      exact ⟨⟨_, rfl⟩, .inl ⟨_, rfl, by simpa using hJs⟩⟩
theorem values_stopsL (F : Fence) (n : Nat) (h7 : F.fn 116) (hro : F.round = none) (hn : 1 ≤ n) (Bs : Nat) (A : Option Addr) (cap : Nat) (zs : List S27) (w : World) (hlen : zs.length < 4398046511104) (HC : Kd.C k27 w A zs.length zs) (hBs : w.cell? ⟨Bs, 0, none⟩ = some (.slice A zs.length cap)) :
    SeqStopsK F n Try.prog 116 #[.pointer (some ⟨Bs, 0, none⟩)] (fun x : S27 => #[.agg (encL x).toArray]) (Below w.heap.size) (fun ys => ys = zs) (fun _ => True) zs.length w := fun l J Jx W hW hJ _ hY h0 =>
  values1L_in F n h7 hro hn l Bs A cap zs w hlen HC J Jx hY (fun s W' o hs => hJ s W' _ none hs (World.grownBy_alloc W' o none) (fun r e => by cases e)) W hW ((hW.cell (p := ⟨Bs, 0, none⟩) (World.block_lt_of_cell? w _ hBs)).trans hBs) h0
def IApp (w0 : World) (B : Nat) (pre : List S27) (W : World) : Prop := ∃ v, Boxed W B 41 v ∧ Kd.R k27 27 W w0.heap.size (fun k => k ≠ B) v pre ∧ Below w0.heap.size w0 W
theorem R_others {α : Type} {d : Kd α} {e base B : Nat} {ok : Nat → Prop} {v : Value} {xs : List α} {W W' : World} {row : Option Nat} (h : d.R e W base ok v xs) (hg : W.grownBy W' row) (hr : ∀ r, row = some r → B ≤ r ∧ ∃ o : Obj, W.heap[r]? = some o ∧ o.isCells = false) : d.R e W' base ok v xs :=
  Kd.R_mono (Kd.R_grown (Kd.R_bound h) hg (fun k hk e => by
    obtain ⟨_, o, ho, hc⟩ := hr k e.symm
    obtain ⟨_, _, _, q, _, cells, hcell⟩ := hk
    rw [hcell] at ho
    cases ho
    cases hc)) (fun _ hk => hk.1)
theorem IApp_own (w0 : World) (B B' : Nat) (hB : B < B') (h0 : w0.heap.size ≤ B') : OwnFrom B' (IApp w0 B) := by
  rintro s W W' row ⟨v, hb, hR, hbel⟩ hg hr
  exact ⟨v, hb.kept hg (fun e => by have := (hr B e.symm).1; omega), R_others hR hg hr, hbel.grown hg hbel.size (fun k e => Nat.le_trans h0 (hr k e).1)⟩
def actApp (Bs B B5 : Nat) (x : S27) : Act :=
  { tmps := #[.slice none 0 0, .func (.func 116) #[] #[.pointer (some ⟨Bs, 0, none⟩)], .pointer (some ⟨B, 0, none⟩), undef, .slice none 0 0, .pointer (some ⟨B5, 0, none⟩), .func (.func 116) #[] #[.pointer (some ⟨Bs, 0, none⟩)], .agg (encL x).toArray, undef, undef, undef, undef, undef], defers := [] }
def AxApp (Bs B : Nat) (x : S27) (a : Act) (W : World) : Prop := ∃ B5, W.heap[B5]? = some (.cells (encL x).toArray 27 (0, 0)) ∧ a = actApp Bs B B5 x
theorem AxApp_own (B' Bs B : Nat) (x : S27) (a : Act) : OwnFrom B' (fun (_ : Unit) W => AxApp Bs B x a W) := by
  rintro _ W W' row ⟨B5, hb, he⟩ hg hr
  refine ⟨B5, (hg.block B5 (blk_lt hb) (fun e => ?_)).trans hb, he⟩
  obtain ⟨_, o, ho, hc⟩ := hr B5 e.symm
  rw [hb] at ho
  cases ho
  cases hc
theorem M_L (W : World) (base : Nat) (ok : Nat → Prop) (x : S27) : k27.M W base ok x (encL x) := k27_mkM W base ok x
theorem keeps_append {W w1 : World} {B0 B e base : Nat} {α : Type} {d : Kd α} {ok : Nat → Prop} {v v1 : Value} {xs : List α} (hR : d.R e W base ok v xs) (hg : W.grownBy w1 v.ownBlock) (hB : B < B0) : KeepsFrom B0 W (w1.setCell ⟨B, 0, none⟩ v1) := by
  refine ⟨by simpa using hg.size, fun k o hk h0 ho => ?_⟩
  have h1 : w1.heap[k]? = some o := (hg.block k (blk_lt h0) (fun e => by
    obtain ⟨inner, hown⟩ := Kd.R_own hR
    obtain ⟨cells, hc⟩ := own_typed hown k e.symm
    rw [hc] at h0
    cases h0
    cases ho)).trans h0
  exact (Below.heap_setCell w1 ⟨B, 0, none⟩ v1 k (by show k ≠ B; omega)).trans h1
set_option maxRecDepth 100000 in
set_option maxHeartbeats 4000000 in
theorem appendSeqL (Bs : Nat) (A : Option Addr) (cap : Nat) (zs : List S27) (w : World) (hlen : zs.length < 4398046511104) (HC : Kd.C k27 w A zs.length zs) (hBs : w.cell? ⟨Bs, 0, none⟩ = some (.slice A zs.length cap)) :
    Calls Try.prog 128 #[.slice none 0 0, .func (.func 116) #[] #[.pointer (some ⟨Bs, 0, none⟩)]] w fun e w' => ∃ v, e = .returned v ∧ Kd.R k27 27 w' w.heap.size (fun _ => True) v zs ∧ Below w.heap.size w w' := by
  refine (callsIn_wide (n := 6)).1 ?_
  refine callsIn_of_wp_marks Try.func128 rfl trivial ?_ rfl
  simp only [Try.ntmps128, List.size_toArray, List.length_cons, List.length_nil, Nat.reduceAdd, Nat.reduceSub, Array.replicate_succ, Array.replicate_zero, List.push_toArray, List.append_toArray, List.nil_append, List.cons_append]
  have hseq := values_stopsL Fence.wide 5 trivial rfl (by decide) Bs A cap zs w hlen HC hBs
  have HS := Aside0.mk hseq
  clear hseq HC
  have HL := Aside0.mk hlen
  clear hlen hBs
  gi_wp2
  refine wpIn_rangeFunc_ownH rfl (by decide) (gf := 116) (lb := #[.pointer (some ⟨Bs, 0, none⟩)]) rfl trivial (enters_of Try.func116 (by kernel_rfl) rfl) HS.out (fun h k => h.trans k) (belowK_b (by simp)) ((Below.refl _ _).alloc (Nat.le_refl _) _) (fun _ => rfl) (IApp w w.heap.size) (fun _ _ _ => False) ?hI (fun _ _ _ _ _ hs _ _ => hs) ?h0 (AxApp Bs w.heap.size) ?hAx ?assign ?body ?done ?stop
  case hI => exact IApp_own w _ _ (by simp) (by simp)
  case h0 => exact ⟨.slice none 0 0, Boxed.new w _ _, Kd.R_nil _ _ _ _ _, (Below.refl _ _).alloc (Nat.le_refl _) _⟩
  case hAx => exact fun x a' => AxApp_own _ _ _ x a'
  case stop => exact fun _ _ _ _ _ _ h => h.elim
  case assign =>
    intro l pre x W K hI hK
    simp only [List.zip_toArray, List.zip_cons_cons, List.zip_nil_right, List.foldl_toArray', List.foldl_cons, List.foldl_nil, List.setIfInBounds_toArray, List.set_cons_succ, List.set_cons_zero, encL]
    have HI := Aside0.mk hI
    clear hI
    have HK := Aside0.mk (fun (h : IApp w w.heap.size pre (W.alloc (.cells (encL x).toArray 27))) => hK (actApp Bs w.heap.size W.heap.size x) (W.alloc (.cells (encL x).toArray 27)) ((KeepsOthers.alloc W _).from _) ((Below.refl _ _).alloc HI.out.choose_spec.2.2.size _) h ⟨W.heap.size, heap_alloc_new W _, rfl⟩)
    clear hK
    gi_wp2
    exact HK.out (IApp_own w _ _ (Nat.lt_succ_self _) (by omega) _ _ _ none HI.out (World.grownBy_alloc W _ none) (fun r e => by cases e))
  case body =>
    rintro l pre x a' W hl - ⟨v, hbx, hR, hbel⟩ ⟨B5, hB5, rfl⟩ hlen
    have hlt := hbx.lt
    have hne : some w.heap.size ≠ v.ownBlock := fun e => hR.1 _ e.symm rfl
    have hc2 := hbx.cell
    have hx0 : W.cell? ⟨B5, 0, none⟩ = some (.int .u64 x.f0.f0) := (blk_cell hB5 0).trans rfl
    have hx1 : W.cell? ⟨B5, 1, none⟩ = some (.int .i64 x.f0.f1) := (blk_cell hB5 1).trans rfl
    have hx2 : W.cell? ⟨B5, 2, none⟩ = some (.int .u64 x.f1) := (blk_cell hB5 2).trans rfl
    have hx3 : W.cell? ⟨B5, 3, none⟩ = some (.int .i64 x.f2) := (blk_cell hB5 3).trans rfl
    have HBX := Aside0.mk hbx
    have HR := Aside0.mk hR
    have HBL := Aside0.mk hbel
    have HN := Aside0.mk hlen
    have HLT := Aside0.mk hlt
    have HNE := Aside0.mk hne
    clear hbx hR hbel hne hB5 hlt hlen hl
    simp only [actApp, encL]
    gi_wp2_with (gi_at_builtin; refine RIn_append k27 (w0 := w) (W := W) w.heap.size rfl (.tmp 8) (.tmp 10) 41 27 (.agg #[(.int .u64 0), (.int .i64 0), (.int .u64 0), (.int .i64 0)]) 32 rfl Try.underlying41 info27 rfl (by decide) (by decide) v pre x (encL x) (fun k => k ≠ w.heap.size) (fun _ => False) rfl rfl (M_L _ _ _ x) (fun _ h => h.elim) ?hfr HR.out HBL.out HBL.out.size ?hln ?_; (case hfr => intro k hk; have := HLT.out; omega); (case hln => have := HL.out; have := HN.out; omega); intro v1 w1 hR1 hB1 hg1; obtain ⟨A1, k1, e1⟩ := Kd.R_slice hR1; subst e1; have hbx1 := HBX.out.kept hg1 HNE.out; have hc1 := hbx1.cell; have hf1 := hbx1.frozen; have F1 := Aside0.mk (keeps_append (B0 := w.heap.size + 1) (B := w.heap.size) (v1 := .slice A1 (pre ++ [x]).length k1) HR.out hg1 (by omega)); have F2 := Aside0.mk (show Below w.heap.size W (w1.setCell ⟨w.heap.size, 0, none⟩ (.slice A1 (pre ++ [x]).length k1)) from ((Below.refl _ _).grown hg1 HBL.out.size (Kd.R_base HR.out)).setCell (Nat.le_refl _) _); have F3 := Aside0.mk (show IApp w w.heap.size (pre ++ [x]) (w1.setCell ⟨w.heap.size, 0, none⟩ (.slice A1 (pre ++ [x]).length k1)) from ⟨.slice A1 (pre ++ [x]).length k1, by simpa [Boxed] using blk_set hbx1 0 (.slice A1 (pre ++ [x]).length k1), Kd.R_far hR1 (fun k hk => hk) _, below_set hB1 (Nat.le_refl _)⟩); clear hbx1 hR1 hB1 hg1)
    exact ⟨by simpa using F1.out, by simpa using F2.out, by simpa using F3.out⟩
  case done =>
    rintro D xs W hD rfl ⟨v, hbx, hR, hbel⟩ hK
    have hc := hbx.cell
    have F1 := Aside0.mk hR
    have F2 := Aside0.mk hbel
    have F3 := Aside0.mk hD
    clear hbx hR hbel hD
    obtain ⟨A1, k1, e1⟩ := Kd.R_slice F1.out
    subst e1
    gi_wp2
    refine ⟨by simp, .inl ⟨_, _, rfl, run_takeDeferred hK, ?_⟩⟩
    exact ⟨.slice A1 xs.length k1, by simp [results, go_sem, Try.results128], _, rfl, Kd.R_mono (R_others (B := D) F1.out (grownBy_putObj' W D _) (fun r e => by cases e; exact ⟨Nat.le_refl _, _, hK, rfl⟩)) (fun _ _ => trivial), F2.out.grown (grownBy_putObj' W D _) F2.out.size (fun k e => by cases e; have := F3.out; simp at this; omega)⟩
end Go.Proofs.Ytioooiflpabngaa.PAll
end
section
namespace Go.Proofs.Ytioooiflpabngaa.PAll
open Go.RowKit Go.Sort Go.Shelf Go.Proofs.YtioooiflpabngaaW.PrintWords Go.Proofs.YtioooiflpabngaaW.PrintLast Go.Proofs.YtioooiflpabngaaW.PrintMore
set_option linter.unusedVariables false
set_option linter.unusedSimpArgs false
theorem swoL : SWO (ltOf cmpL) where
  irrefl x := by
    have := ltL_irrefl x
    rw [← cmpL_neg] at this
    simpa [ltOf] using this
  trans x y z h1 h2 := by
    simp only [ltOf, decide_eq_true_eq] at *
    rw [cmpL_neg] at *
    exact ltL_trans h1 h2
  ntrans x y z h1 h2 := by
    simp only [ltOf, decide_eq_false_iff_not] at *
    rw [cmpL_neg] at *
    intro h3
    rcases ltL_total x y with h | h | h
    · exact h1 h
    · subst h; exact h2 h3
    · rcases ltL_total y z with k | k | k
      · exact h2 k
      · subst k; exact h1 h3
      · exact ltL_irrefl _ (ltL_trans h3 (ltL_trans k h))
theorem totL (x y : S27) (h1 : ltOf cmpL x y = false) (h2 : ltOf cmpL y x = false) : x = y := by
  simp only [ltOf, decide_eq_false_iff_not] at *
  rw [cmpL_neg] at *
  rcases ltL_total x y with h | h | h
  · exact absurd h h1
  · exact h
  · exact absurd h h2
theorem compare_call (x y : S27) (W : World) : Calls Try.prog 42 #[.agg (encL x).toArray, .agg (encL y).toArray] W fun e w' => e = .returned (.int .i64 (cmpL x y)) ∧ BlwD W.heap.size W w' :=
  label_Compare.callsD 4 _ _ _ _ _ _ _ _ _ W (label_Compare_eq x y)
theorem compare_lays (blk off size : Nat) (w : World) : CmpLays Try.prog 42 #[] encL 4 cmpL blk off size w := fun m os dk _ x y =>
  (compare_call x y _).mono fun _ _ ⟨he, hb⟩ => ⟨he, hb.grow⟩
def sortedL (xs : List S27) : List S27 := xs.mergeSort fun x y => !(ltOf cmpL) y x
theorem sortedL_length (xs : List S27) : (sortedL xs).length = xs.length := List.length_mergeSort _
theorem encL_len (x : S27) : (encL x).length = 4 := rfl
theorem encL_one (x : S27) : ∀ v ∈ encL x, v.oneCell' = true := by
  intro v hv
  simp only [encL, List.mem_cons, List.not_mem_nil, or_false] at hv
  rcases hv with rfl | rfl | rfl | rfl <;> rfl
theorem flat_chunk (ys : List S27) (j : Nat) (p : S27) (hj : ys[j]? = some p) : (((flatK encL 4 ys.toArray).toList.drop (j * 4)).take 4) = encL p := by
  obtain ⟨hlt, hp⟩ := List.getElem?_eq_some_iff.1 hj
  have hsz : (flatK encL 4 ys.toArray).size = ys.length * 4 := by simp
  apply List.ext_getElem
  · simp [encL_len]; omega
  · intro i h1 h2
    have hi : i < 4 := by simpa [encL_len] using h2
    have hlt2 : j * 4 + i < ys.length * 4 := by omega
    rw [List.getElem_take, List.getElem_drop, Array.getElem_toList, ← getElem!_pos (flatK encL 4 ys.toArray) (j * 4 + i) (by rw [hsz]; omega), get_flatK _ _ _ _ (by simpa using hlt2)]
    have e1 : (j * 4 + i) / 4 = j := by omega
    have e2 : (j * 4 + i) % 4 = i := by omega
    rw [e1, e2]
    have e3 : ys.toArray[j]! = p := by simp [getElem!_pos, hlt, hp]
    rw [e3, getElem!_pos (encL p) i h2]
theorem flat_reps (W : World) (base : Nat) (ok : Nat → Prop) (ys : List S27) : Reps (k27.M W base ok) 4 ys (flatK encL 4 ys.toArray).toList :=
  ⟨by simp, fun j p hj => by rw [flat_chunk ys j p hj]; exact M_L W base ok p⟩
theorem inner_flat {W : World} {base : Nat} {ok : Nat → Prop} {xs : List S27} {inner : List Value} (h : Reps (k27.M W base ok) 4 xs inner) : inner = (flatK encL 4 xs.toArray).toList := by
  have hl := h.1
  apply List.ext_getElem
  · simp [hl]
  · intro t h1 h2
    have ht : t < xs.length * 4 := by omega
    have hj : t / 4 < xs.length := by omega
    have hc := h.2 (t / 4) _ (List.getElem?_eq_getElem hj)
    have hc2 := k27_openM hc
    have hf := flat_chunk xs (t / 4) _ (List.getElem?_eq_getElem hj)
    have e : (inner.drop (t / 4 * 4)).take 4 = ((flatK encL 4 xs.toArray).toList.drop (t / 4 * 4)).take 4 := by rw [hf, hc2]; rfl
    have e2 := congrArg (fun l => l[t % 4]?) e
    simp only [List.getElem?_take, List.getElem?_drop] at e2
    have e3 : t / 4 * 4 + t % 4 = t := by omega
    rw [if_pos (by omega), if_pos (by omega), e3, List.getElem?_eq_getElem h1, List.getElem?_eq_getElem h2] at e2
    exact Option.some.inj e2
theorem put_take (F c : Array Value) (h : F.size ≤ c.size) : (putCells id 0 F c).toList.take F.size = F.toList := by
  apply List.ext_getElem
  · simp [putCells]; omega
  · intro i h1 h2
    have hi : i < F.size := by simpa using h2
    simp [putCells, hi]
theorem sorted_block (w : World) (n g : Nat) (cur : Array Value) (hh : w.heap[g]? = some (.cells cur 27 (0, 0))) (d : Array S27) (os : Array Obj) :
    (sortWorldK encL 4 w g 0 n d os).heap[g]? = some (.cells (putCells id 0 (flatK encL 4 d) cur) 27 (0, 0)) := by
  unfold sortWorldK putRowK putRow
  rw [heap_grow_old _ _ (by have := blk_lt hh; simpa [mapBlock] using this)]
  simp [mapBlock, Array.getElem?_modify, hh, onCells]
theorem sorted_grown (w : World) (n g : Nat) (d : Array S27) (os : Array Obj) : w.grownBy (sortWorldK encL 4 w g 0 n d os) (some g) := by
  refine ⟨rfl, rfl, rfl, by simp [sortWorldK, putRowK], fun i hi hne => ?_⟩
  unfold sortWorldK putRowK putRow
  rw [heap_grow_old _ _ (by simpa [mapBlock] using hi)]
  have : g ≠ i := fun e => hne (by rw [e])
  simp [mapBlock, Array.getElem?_modify, this]
set_option maxRecDepth 100000 in
theorem sortFuncL (v : Value) (xs : List S27) (w : World) (base : Nat) (ok : Nat → Prop) (hR : Kd.R k27 27 w base ok v xs) (hlen : xs.length < 4398046511104) :
    Calls Try.prog 115 #[v, .func (.func 42) #[] #[]] w fun e w' => e = .returned (.tuple #[]) ∧ Kd.R k27 27 w' base ok v (sortedL xs) ∧ w.grownBy w' v.ownBlock := by
  rcases Nat.eq_zero_or_pos xs.length with h0 | h0
  · obtain rfl := List.eq_nil_of_length_eq_zero h0
    obtain ⟨A, c, rfl⟩ := Kd.R_slice hR
    have hS := AnyF.slices_SortFunc_none (P := Try.prog) Try.sortLab A c (.func (.func 42) #[] #[]) w
    change Calls Try.prog 115 _ _ _ at hS
    refine hS.mono ?_
    rintro e w' ⟨rfl, rfl⟩
    exact ⟨rfl, by simpa [sortedL] using hR, World.grownBy.refl _ _⟩
  · obtain ⟨hok, inner, ⟨hl, hown⟩, hr⟩ := hR
    rcases hown with ⟨rfl, hn⟩ | ⟨g, cap, cur, rfl, hb, hh, hnc, hcm, hcs, htk⟩
    · omega
    · have hin := inner_flat hr
      have hH : HoldsK encL 4 w g 0 xs.toArray := by
        intro t ht
        have ht4 : t < xs.length * 4 := by simpa using ht
        have hsz : k27.sz = 4 := rfl
        rw [hsz] at hcs htk
        have hcl : t < cur.size := by rw [hcs]; omega
        refine ⟨?_, by simp [World.frozen?, hh]⟩
        have e1 : cur[t]? = some (flatK encL 4 xs.toArray)[t]! := by
          have e2 : cur.toList[t]? = (flatK encL 4 xs.toArray).toList[t]? := by
            rw [← hin, ← htk, List.getElem?_take, if_pos ht4]
          rw [Array.getElem?_toList, Array.getElem?_toList] at e2
          rw [e2, getElem!_pos (flatK encL 4 xs.toArray) t ht, Array.getElem?_eq_getElem ht]
        simp [World.cell?, hh, e1]
      have eg : ∀ args w, (callFunc 42 args).run Try.prog w = .ok (.enter 42 args) w := enters_of Try.func42 (by kernel_rfl) rfl
      have hS := AnyQ.slices_SortFunc_total Try.sortLab 4 Try.isAgg27 Try.sizeOf27 encL encL_len encL_one cmpL swoL 42 #[] g 0 cap xs.toArray w eg (compare_lays g 0 _ w) hH (blk_lt hh) (by simp; omega) totL
      change Calls Try.prog 115 _ _ _ at hS
      refine hS.mono ?_
      rintro e w' ⟨rfl, n, os, rfl⟩
      have hs : sortedL xs = (xs.toArray.toList.mergeSort fun x y => !(ltOf cmpL) y x) := rfl
      rw [← hs]
      have hbk := sorted_block w n g cur hh (sortedL xs).toArray os
      refine ⟨rfl, ⟨hok, (flatK encL 4 (sortedL xs).toArray).toList, ⟨by rw [sortedL_length]; simp [sortedL_length]; rfl, .inr ⟨g, cap, _, by rw [sortedL_length], hb, hbk, by rw [sortedL_length]; exact hnc, hcm, by simpa [putCells] using hcs, ?_⟩⟩, flat_reps _ _ _ _⟩, sorted_grown w n g _ os⟩
      have h4 := put_take (flatK encL 4 (sortedL xs).toArray) cur (by rw [hcs]; simp [sortedL_length]; exact Nat.mul_le_mul_right 4 hnc)
      have e4 : (flatK encL 4 (sortedL xs).toArray).size = (sortedL xs).length * k27.sz := by simp; rfl
      rw [e4] at h4
      exact h4
end Go.Proofs.Ytioooiflpabngaa.PAll
end
section
namespace Go.Proofs.Ytioooiflpabngaa.PAll
open Go.RowKit Go.Sort Go.Shelf Go.Proofs.YtioooiflpabngaaW.PrintWords Go.Proofs.YtioooiflpabngaaW.PrintLast Go.Proofs.YtioooiflpabngaaW.PrintMore
set_option linter.unusedVariables false
set_option linter.unusedSimpArgs false
instance : DecidableEq S27 := fun a b => decidable_of_iff (eqL a b = true) eqL_iff
theorem step_callV {P : Program} {w : World} {ops : Array Oper} {o : Oper} {a : Act} {K : Act → World → Prop} {Q : Exit → Act → World → Prop} {E : Prop} (hgd : o.guard = none) {f : FuncId} {fn : Func} {as_ : Array Operand} {ts : Array TypeId} {t : Tmp} (hf : P.funcs[f]? = some fn) (hname : (fn.name == "runtime.NumGoroutine") = false) (hb : fn.body.isSome = true) (args : Array Value)
    (hop : o.op = .call { callee := .value (.tmp t), args := as_, argTypes := ts }) (hv : a.eval (.tmp t) = .func (.func f) #[] #[]) (hargs : as_.map a.eval = args)
    (h : Calls P f args w fun e w' => ∃ v, e = .returned v ∧ K (a.put o.dst v) w') : if Region.wanted o (yielded ops a.tmps) = true then Oper.wp P o a w K Q else E := by
  have hw : Region.wanted o (yielded ops a.tmps) = true := by simp [Region.wanted, hgd]
  have h2 : if Region.wanted o (yielded ops a.tmps) = true then Oper.wp P o a w K Q else K (a.put o.dst undef) w := by
    refine call_ f args hw rfl ?_ h
    have he := enters_ hf hname hb args w
    unfold execOp
    simp [hop, resolve, hv, Deferred.ofValue, invoke, hargs, he]
  rw [if_pos hw] at h2 ⊢
  exact h2
section
attribute [local go_sem high] eqA27
set_option maxRecDepth 100000 in
theorem same1 (x y : S27) (W : World) : Calls Try.prog 82 #[.agg (encL x).toArray, .agg (encL y).toArray] W fun e w' => e = .returned (.bool (eqL x y)) ∧ Below W.heap.size W w' := by
  unfold encL
  go_enter Try.func82, Try.ntmps82
  go_wp2
  go_ret
  exact ⟨rfl, by repeat (first | exact Below.refl _ _ | apply below_alloc | refine below_set ?_ (Nat.le_refl _))⟩
end
theorem rd_at (xs : List S27) (n : Nat) : rd_T27 xs (n : Int) = xs.toArray[n]! := by
  unfold rd_T27
  rw [Int.toNat_natCast, List.getD_eq_getElem?_getD]
  by_cases h : n < xs.length
  · simp [h]
  · simp [h]
    rfl
theorem sizeL : (Try.prog.info? 27).map (·.size) = some 4 := by
  obtain ⟨i, hi, he⟩ := Option.map_eq_some_iff.1 info27
  simp only [Prod.mk.injEq] at he
  rw [hi, Option.map_some, he.2.1]
theorem rd_atA (dk : Array S27) (n : Nat) : rd_T27 dk.toList (n : Int) = dk[n]! := by rw [rd_at]
theorem grown_step {w wi w3 : World} {row : Option Nat} (h : w.grownBy wi row) (hb : Below wi.heap.size wi w3) : w.grownBy w3 row :=
  ⟨hb.os.trans h.os, hb.tape.trans h.tape, hb.output.trans h.output, Nat.le_trans h.size hb.size, fun t ht hne => (hb.block t (Nat.lt_of_lt_of_le ht h.size)).trans (h.block t ht hne)⟩
theorem storeL {ops : Array Oper} {rest : List Oper} {o : Oper} {a : Act} {Q : Exit → Act → World → Prop} {W w0 : World} {base g n c : Nat} {ok : Nat → Prop} {xs : List S27} (hN : o.dst = none) (hgd : o.guard = none) (p x : Operand) (ho : o.op = .store 27 p x) (k : Nat) (y : S27) (o' : Nat)
    (haddr : a.eval p = .pointer (some ⟨g, o', none⟩)) (hoff : o' = k * 4) (hx : a.eval x = .agg #[.int .u64 y.f0.f0, .int .i64 y.f0.f1, .int .u64 y.f1, .int .i64 y.f2]) (HO : Kd.R k27 27 W base ok (.slice (some ⟨g, 0, none⟩) n c) xs) (hk : k < n) (HB : Below base w0 W)
    (h : ∀ w1, Kd.R k27 27 w1 base ok (.slice (some ⟨g, 0, none⟩) n c) (xs.set k y) → Below base w0 w1 → W.grownBy w1 (some g) → wpList Try.prog ops Q rest a w1) : wpList Try.prog ops Q (o :: rest) a W := by
  have hC := (Kd.R_reads' HO).2.2
  have hn := (Kd.R_reads' HO).1
  obtain ⟨ad, e, hz0, hz1, hz2, hz3⟩ := at_T27 hC (k : Int) (by omega) (by omega)
  obtain rfl := Option.some.inj e
  rw [Int.toNat_natCast] at hz0 hz1 hz2 hz3
  simp only [Addr.add_lit, Nat.zero_add] at hz0 hz1 hz2 hz3
  refine Kd.R_store k27 (w0 := w0) base hN hgd 27 p x ho 27 (g := g) (n := n) (cap := c) (o' := o') (k : Int) 0 xs y (.agg (encL y).toArray) (encL y) (encL (rd_T27 xs (k : Int))) ok (fun _ => False) haddr (by rw [hoff, Int.toNat_natCast]; rfl) hx rfl sizeL (encL_one y) HO (by omega) (by omega) rfl ?_ (Nat.le_refl 4) (M_L _ _ _ y) (fun _ h => h.elim) HB ?_
  · intro j u hu
    rw [Int.toNat_natCast]
    rcases j with _ | _ | _ | _ | j
    · cases hu; exact hz0
    · cases hu; exact hz1
    · cases hu; exact hz2
    · cases hu; exact hz3
    · simp [encL] at hu
  · intro w1 h1 h2 h3
    rw [Int.toNat_natCast] at h1
    exact h w1 h1 h2 h3
theorem run_clear_rows {P : Program} (w : World) (t e ty : TypeId) (z : Value) (ht : P.underlying t = some (.slice e)) (hv : (zeroValue e).run P w = .ok z w) (g o n c : Nat) (h1 : ∀ q ∈ (Builtin.zeroCells z.cells n).toList, q.oneCell' = true) (hn : 0 < n) (cur : Array Value) (hh : w.heap[g]? = some (.cells cur e (0, 0)))
    (hfit : o + (Builtin.zeroCells z.cells n).size ≤ cur.size) : (Builtin.clear_ #[t] ty #[.slice (some ⟨g, o, none⟩) n c]).run P w = .ok (.tuple #[]) (w.setCells g o (Builtin.zeroCells z.cells n).toList) := by
  have hst := run_storeCells_cells (P := P) g o (Builtin.zeroCells z.cells n).toList 0 w (fun j hj => by rw [cell_of_row w g _ cur e (0, 0) hh]; rw [Array.length_toList] at hj; simp; omega) (fun j _ => blk_frozen hh _) h1
  simp only [Nat.add_zero] at hst
  obtain ⟨m, rfl⟩ : ∃ m, n = m + 1 := ⟨n - 1, by omega⟩
  simp [Builtin.clear_, run_underlying ht, hv, hst]
theorem clear_tail {α : Type} {d : Kd α} {e g n c base : Nat} {w : World} {ok : Nat → Prop} {xs : List α} (h : d.R e w base ok (.slice (some ⟨g, 0, none⟩) n c) xs) (m : Nat) (hm : m ≤ n) (vs : List Value) (hvs : vs.length = (n - m) * d.sz) :
    d.R e (w.setCells g (m * d.sz) vs) base ok (.slice (some ⟨g, 0, none⟩) m c) (xs.take m) ∧ w.grownBy (w.setCells g (m * d.sz) vs) (some g) ∧ ∃ cur, w.heap[g]? = some (.cells cur e (0, 0)) ∧ m * d.sz + vs.length ≤ cur.size := by
  have hn : n = xs.length := (Kd.R_reads' h).1
  obtain ⟨h0, inner, hown, hr⟩ := Kd.R_take h (m := m) (by omega)
  obtain ⟨_, _, ⟨_, hown1⟩, _⟩ := h
  rcases hown1 with ⟨he, _⟩ | ⟨g1, cap1, cur1, he1, _, hh1, hnc1, _, hcs1, _⟩
  · cases he
  injection he1 with a1 a2 a3
  injection a1 with a1
  injection a1 with a1
  subst a1; subst a3
  have hfit : m * d.sz + vs.length ≤ cur1.size := by
    rw [hvs, ← Nat.add_mul, show m + (n - m) = n by omega, hcs1]
    exact Nat.mul_le_mul_right _ (by omega)
  obtain ⟨cur', hc1, hc2, hc3⟩ := setCells_row vs (m * d.sz) w cur1 hh1 hfit
  obtain ⟨o1, o2, o3, o4⟩ := setCells_same g vs (m * d.sz) w
  have hfar : ∀ k, k ≠ g → (w.setCells g (m * d.sz) vs).heap[k]? = w.heap[k]? := fun k hk => setCells_far vs _ k hk
  refine ⟨⟨h0, inner, ⟨hown.1, ?_⟩, hr.imp_ fun _ _ hp => d.M_move (fun k hk => hfar k fun he => hk.2 (by rw [he]; rfl)) hp⟩, ⟨o1, o2, o3, Nat.le_of_eq o4.symm, fun k _ hk => hfar k fun he => hk (by rw [he])⟩, cur1, hh1, hfit⟩
  rcases hown.2 with ⟨he, _⟩ | ⟨g2, cap2, cur2, he2, hb2, hh2, hnc2, hcm2, hcs2, htk2⟩
  · cases he
  injection he2 with a1 a2 a3
  injection a1 with a1
  injection a1 with a1
  subst a1; subst a3
  rw [hh1] at hh2
  injection hh2 with hh2
  injection hh2 with hh2
  subst hh2
  have hlt : (xs.take m).length = m := by rw [List.length_take]; omega
  rw [hlt] at hnc2 htk2 ⊢
  refine .inr ⟨g, c, cur', rfl, hb2, hc1, hnc2, hcm2, by rw [hc2]; exact hcs2, ?_⟩
  rw [hc3, ← htk2, List.append_assoc, List.take_append_of_le_length (by rw [List.length_take, Array.length_toList]; omega), List.take_take, Nat.min_self]
def zeroL : Value := .agg #[.int .u64 0, .int .i64 0, .int .u64 0, .int .i64 0]
theorem zeroL_run (w : World) : (zeroValue 27).run Try.prog w = .ok zeroL w := by
  obtain ⟨i, hi, he⟩ := Option.map_eq_some_iff.1 info27
  simp only [Prod.mk.injEq] at he
  simp [zeroValue, typeInfo, hi, he.1]
  rfl
theorem zeroL_size (n : Nat) : (Builtin.zeroCells zeroL.cells n).size = n * 4 := by
  simp only [Builtin.zeroCells, Array.size_map, Array.size_range]
  rfl
theorem zeroL_one (n : Nat) : ∀ q ∈ (Builtin.zeroCells zeroL.cells n).toList, q.oneCell' = true := by
  intro q hq
  simp only [Builtin.zeroCells, Array.toList_map, List.mem_map] at hq
  obtain ⟨i, _, rfl⟩ := hq
  have hm : i % zeroL.cells.size < 4 := Nat.mod_lt _ (by decide)
  generalize i % zeroL.cells.size = t at hm
  rcases t with _ | _ | _ | _ | t
  · rfl
  · rfl
  · rfl
  · rfl
  · omega
theorem inv_take {d dk : Array S27} {k : Nat} (h : Lib.CompInv d d.size k dk) : dk.toList.take k = Lib.compactUpTo d d.size := by
  have h1 := h.size
  have h2 := h.lt
  refine List.ext_getElem? fun j => ?_
  by_cases hj : j < k
  · rw [h.low j hj, List.getElem?_take, if_pos hj, Array.getElem?_toList, getElem!_pos dk j (by omega), Array.getElem?_eq_getElem]
  · rw [List.getElem?_eq_none (by rw [List.length_take]; omega), List.getElem?_eq_none (by rw [h.len]; omega)]
set_option maxHeartbeats 2000000 in
set_option maxRecDepth 100000 in
theorem compactFuncL (v : Value) (xs : List S27) (w : World) (base : Nat) (ok : Nat → Prop) (hR : Kd.R k27 27 w base ok v xs) (hlen : xs.length < 4398046511104) :
    Calls Try.prog 79 #[v, .func (.func 82) #[] #[]] w fun e w' => ∃ v', e = .returned v' ∧ Kd.R k27 27 w' base ok v' (Lib.compact xs) ∧ w.grownBy w' v.ownBlock := by
  obtain ⟨A, c, rfl⟩ := Kd.R_slice hR
  have HR := Aside0.mk hR
  clear hR
  have HL := Aside0.mk hlen
  clear hlen
  by_cases h2 : xs.length < 2
  · go_enter Try.func79, Try.ntmps79
    go_wp2
    go_ret
    exact ⟨_, rfl, by rw [Lib.compact_all xs fun j hj => Lib.keeps_lt_one _ j (by omega)]; exact HR.out, World.grownBy.refl _ _⟩
  · obtain ⟨g, rfl⟩ : ∃ g, A = some ⟨g, 0, none⟩ := by
      obtain ⟨_, inner, ho, _⟩ := HR.out
      rcases ho.2 with ⟨he, h0⟩ | ⟨g, cap, cur, he, _⟩
      · omega
      · injection he with he
        exact ⟨g, he⟩
    have hC0 := (Kd.R_reads' HR.out).2.2
    have HNC := Aside0.mk (Kd.R_reads' HR.out).2.1
    have HBS := Aside0.mk (show base ≤ w.heap.size by
      obtain ⟨_, inner, ho, _⟩ := HR.out
      have := ho.lt g rfl
      omega)
    have HBG := Aside0.mk (Kd.R_base HR.out)
    have HC := Aside0.mk hC0
    clear hC0
    have mixed : Try.prog.follows Departure.mixedOrders = true := by kernel_rfl
    go_enter Try.func79, Try.ntmps79
    go_wp2
    go_loopg [5] xs.length (fun g_ s5 wr => ∃ k : Nat, 1 ≤ k ∧ k ≤ xs.length ∧ xs.length - k ≤ g_ ∧ s5 = .int .i64 k ∧ Aside0 (Below w.heap.size w wr) ∧ Aside0 (∀ j, j < k → Lib.keeps xs.toArray j = true))
    case atStart => exact ⟨1, Nat.le_refl _, by omega, by omega, rfl, ⟨Below.refl _ _⟩, ⟨Lib.keeps_lt_one _⟩⟩
    case round =>
      obtain ⟨k, hk1, hk, hg, rfl, HB, HA⟩ := hrel
      by_cases hlt : k < xs.length
      · obtain ⟨ad, e, hx0, hx1, hx2, hx3⟩ := at_T27 (Kd.C_below HC.out HB.out) (k : Int) (by omega) (by omega)
        obtain rfl := Option.some.inj e
        obtain ⟨j, hj⟩ : ∃ j : Nat, k = j + 1 := ⟨k - 1, by omega⟩
        obtain ⟨ad, e, hy0, hy1, hy2, hy3⟩ := at_T27 (Kd.C_below HC.out HB.out) (j : Int) (by omega) (by omega)
        obtain rfl := Option.some.inj e
        rw [Int.toNat_natCast] at hx0 hx1 hx2 hx3 hy0 hy1 hy2 hy3
        have hwj : IntKind.i64.wrap ((k : Int) - 1) = (j : Int) := by have := HL.out; rw [IntKind.wrap_i64]; omega
        have hjl : (j : Int) < (xs.length : Int) := by omega
        have hnc := HNC.out
        have hck : ¬ (c = k) := by omega
        have hkc : k ≤ c := by omega
        have HE1 := Aside0.mk (show wrap64 ((k : Int) + 1) = ((k + 1 : Nat) : Int) by have := HL.out; unfold wrap64; omega)
        have HJ := Aside0.mk hj
        have HK := Aside0.mk (And.intro hk1 (And.intro hk hg))
        clear hj hk1 hk hg
        simp only [Addr.add_lit, Nat.zero_add] at hx0 hx1 hx2 hx3 hy0 hy1 hy2 hy3
        by_cases hq : rd_T27 xs (k : Int) = rd_T27 xs (j : Int)
        · have HQ := Aside0.mk hq
          have hqb : eqL (rd_T27 xs (k : Int)) (rd_T27 xs (j : Int)) = true := eqL_iff.2 hq
          clear hq
          go_wp2_with fail
          go_region_law_o (refine step_callV rfl (f := 82) Try.func82 (by kernel_rfl) rfl #[.agg (encL (rd_T27 xs (k : Int))).toArray, .agg (encL (rd_T27 xs (j : Int))).toArray] rfl (by simp [Act.eval]) (by simp [Act.eval, Act.put, encL]) ?_; refine (same1 (rd_T27 xs (k : Int)) (rd_T27 xs (j : Int)) _).mono ?_; rintro e w2 ⟨rfl, hb⟩; rw [hqb]; refine ⟨_, rfl, ?_⟩; have HB2 := Aside0.mk (show Below w.heap.size w w2 from below_step (by repeat (first | exact HB.out | apply below_drew1)) hb); clear hb)
          all_goals clear hqb hx0 hx1 hx2 hx3 hy0 hy1 hy2 hy3 hwj hjl
          all_goals go_wp2
          all_goals (
            go_loopg [5, 7] xs.length (fun g_ s5 s7 wi => ∃ (kk k2 : Nat) (dk : Array S27), s5 = .int .i64 kk ∧ s7 = .int .i64 k2 ∧ 1 ≤ k2 ∧ k + k2 ≤ xs.length ∧ xs.length - (k + k2) ≤ g_ ∧ Aside0 (Kd.R k27 27 wi base ok (.slice (some ⟨g, 0, none⟩) xs.length c) dk.toList) ∧ Aside0 (Below base w wi) ∧ Aside0 (w.grownBy wi (some g)) ∧ Aside0 (Lib.CompInv xs.toArray (k + k2) kk dk))
            case atStart => exact ⟨k, 1, xs.toArray, rfl, rfl, Nat.le_refl _, by omega, by omega, ⟨Kd.R_below HR.out HB2.out⟩, ⟨HB2.out.mono HBS.out⟩, ⟨⟨HB2.out.os, HB2.out.tape, HB2.out.output, HB2.out.size, fun t ht _ => HB2.out.block t ht⟩⟩, ⟨Lib.CompInv.start HA.out (Lib.keeps_neg (by have := HJ.out; omega) (by rw [← rd_at xs k, show k - 1 = j by have := HJ.out; omega, ← rd_at xs j]; exact HQ.out))⟩⟩
            case round =>
              obtain ⟨kk, k2, dk, rfl, rfl, h1, hle, hg2, HRn, HBn, HGn, HI⟩ := hrel
              have hdl : dk.toList.length = xs.length := by have := HI.out.size; simpa using this
              have hkk := HI.out.lt
              by_cases hlt2 : k + k2 < xs.length
              · have hCi := (Kd.R_reads' HRn.out).2.2
                obtain ⟨ad, e, hx0, hx1, hx2, hx3⟩ := at_T27 hCi ((k + k2 : Nat) : Int) (by omega) (by omega)
                obtain rfl := Option.some.inj e
                obtain ⟨j2, hj2⟩ : ∃ j2 : Nat, k2 = j2 + 1 := ⟨k2 - 1, by omega⟩
                obtain ⟨ad, e, hy0, hy1, hy2, hy3⟩ := at_T27 hCi ((k + j2 : Nat) : Int) (by omega) (by omega)
                obtain rfl := Option.some.inj e
                rw [Int.toNat_natCast, Nat.add_mul] at hx0 hx1 hx2 hx3 hy0 hy1 hy2 hy3
                have hwj : IntKind.i64.wrap ((k2 : Int) - 1) = (j2 : Int) := by have := HL.out; rw [IntKind.wrap_i64]; omega
                have hjl : (j2 : Int) < ((xs.length - k : Nat) : Int) := by omega
                have hkl : (k2 : Int) < ((xs.length - k : Nat) : Int) := by omega
                clear hCi
                simp only [Addr.add_lit, Nat.zero_add] at hx0 hx1 hx2 hx3 hy0 hy1 hy2 hy3
                have hkk2 : (kk : Int) < (xs.length : Int) := by omega
                have HJ2 := Aside0.mk hj2
                have HE2 := Aside0.mk (show wrap64 ((k2 : Int) + 1) = ((k2 + 1 : Nat) : Int) by have := HL.out; unfold wrap64; omega)
                have HE3 := Aside0.mk (show wrap64 ((kk : Int) + 1) = ((kk + 1 : Nat) : Int) by have := HL.out; unfold wrap64; omega)
                have HK2 := Aside0.mk (show 1 ≤ k2 ∧ k + k2 ≤ xs.length ∧ xs.length - (k + k2) ≤ gk ∧ kk < k + k2 ∧ k + k2 < xs.length from ⟨h1, hle, hg2, hkk, hlt2⟩)
                clear hj2 h1 hle hg2 hkk hlt2
                by_cases hq2 : rd_T27 dk.toList ((k + k2 : Nat) : Int) = rd_T27 dk.toList ((k + j2 : Nat) : Int)
                · have HQ2 := Aside0.mk hq2
                  have hqb2 : eqL (rd_T27 dk.toList ((k + k2 : Nat) : Int)) (rd_T27 dk.toList ((k + j2 : Nat) : Int)) = true := eqL_iff.2 hq2
                  clear hq2
                  go_wp2_with fail
                  go_region_law_o (refine step_callV rfl (f := 82) Try.func82 (by kernel_rfl) rfl #[.agg (encL (rd_T27 dk.toList ((k + k2 : Nat) : Int))).toArray, .agg (encL (rd_T27 dk.toList ((k + j2 : Nat) : Int))).toArray] rfl (by simp [Act.eval]) (by simp [Act.eval, Act.put, encL]) ?_; refine (same1 (rd_T27 dk.toList ((k + k2 : Nat) : Int)) (rd_T27 dk.toList ((k + j2 : Nat) : Int)) _).mono ?_; rintro e w3 ⟨rfl, hb⟩; rw [hqb2]; refine ⟨_, rfl, ?_⟩; have HB3 := Aside0.mk (show Below wr.heap.size wr w3 from below_step (by repeat (first | exact Below.refl _ _ | apply below_drew1)) hb); clear hb)
                  all_goals clear hqb2 hx0 hx1 hx2 hx3 hy0 hy1 hy2 hy3 hwj hjl
                  all_goals go_wp2
                  all_goals go_roundg (xs.length - (k + (k2 + 1)))
                  all_goals first
                    | (have := HK2.out; omega)
                    | exact ⟨kk, k2 + 1, dk, rfl, by rw [HE2.out], by omega, by have := HK2.out; omega, Nat.le_refl _, ⟨Kd.R_below HRn.out HB3.out⟩, ⟨HBn.out.trans (HB3.out.mono (Nat.le_trans HBS.out HGn.out.size))⟩, ⟨grown_step HGn.out HB3.out⟩, ⟨HI.out.skip (Lib.keeps_neg (by have := HK2.out; omega) (by rw [← HI.out.high (k + k2) (by have := HK2.out; omega), show k + k2 - 1 = k + j2 by have := HJ2.out; omega, ← HI.out.high (k + j2) (by have := HK2.out; have := HJ2.out; omega), ← rd_atA, ← rd_atA]; exact HQ2.out))⟩⟩
                · have HQ2 := Aside0.mk hq2
                  have hqb2 : eqL (rd_T27 dk.toList ((k + k2 : Nat) : Int)) (rd_T27 dk.toList ((k + j2 : Nat) : Int)) = false := by rw [← Bool.not_eq_true, eqL_iff]; exact hq2
                  clear hq2
                  go_wp2_with fail
                  go_region_law_o (refine step_callV rfl (f := 82) Try.func82 (by kernel_rfl) rfl #[.agg (encL (rd_T27 dk.toList ((k + k2 : Nat) : Int))).toArray, .agg (encL (rd_T27 dk.toList ((k + j2 : Nat) : Int))).toArray] rfl (by simp [Act.eval]) (by simp [Act.eval, Act.put, encL]) ?_; refine (same1 (rd_T27 dk.toList ((k + k2 : Nat) : Int)) (rd_T27 dk.toList ((k + j2 : Nat) : Int)) _).mono ?_; rintro e w3 ⟨rfl, hb⟩; rw [hqb2]; refine ⟨_, rfl, ?_⟩; have HB3 := Aside0.mk (show Below wr.heap.size wr w3 from below_step (by repeat (first | exact Below.refl _ _ | apply below_drew1)) hb); clear hb)
                  all_goals clear hqb2 hx0 hx1 hx2 hx3 hy0 hy1 hy2 hy3 hwj hjl
                  all_goals clear hkk2
                  all_goals (
                    have HR3 := Aside0.mk (Kd.R_below HRn.out HB3.out)
                    obtain ⟨ad, e, hx0, hx1, hx2, hx3⟩ := at_T27 (Kd.R_reads' HR3.out).2.2 ((k + k2 : Nat) : Int) (by omega) (by have := HK2.out; omega)
                    obtain rfl := Option.some.inj e
                    rw [Int.toNat_natCast, Nat.add_mul] at hx0 hx1 hx2 hx3
                    simp only [Addr.add_lit, Nat.zero_add] at hx0 hx1 hx2 hx3
                    obtain ⟨x, hgx⟩ : ∃ x, x = rd_T27 dk.toList ((k + k2 : Nat) : Int) := ⟨_, rfl⟩
                    rw [← hgx] at hx0 hx1 hx2 hx3
                    have HGX := Aside0.mk hgx
                    have hkl : (k2 : Int) < ((xs.length - k : Nat) : Int) := by have := HK2.out; omega
                    have hkk2 : (kk : Int) < (xs.length : Int) := by have := HK2.out; omega
                    clear hgx
                    go_wp2_with ((with_reducible refine gate_ (.store 27 (.tmp 56) (.tmp 55)) rfl ?_); refine storeL (w0 := w) rfl rfl (.tmp 56) (.tmp 55) rfl kk x (kk * 4) rfl rfl rfl HR3.out ?s3 ?s5 ?_; (case s3 => have := HK2.out; omega); (case s5 => exact HBn.out.trans (HB3.out.mono (Nat.le_trans HBS.out HGn.out.size))); intro w4 hR4 hB4 hG4; have HR4 := Aside0.mk hR4; have HB4 := Aside0.mk hB4; have HG4 := Aside0.mk hG4; clear hR4 hB4 hG4)
                    all_goals go_roundg (xs.length - (k + (k2 + 1)))
                    all_goals first
                      | (have := HK2.out; omega)
                      | exact ⟨kk + 1, k2 + 1, dk.setIfInBounds kk x, by rw [HE3.out], by rw [HE2.out], by omega, by have := HK2.out; omega, Nat.le_refl _, ⟨by have h4 := HR4.out; simpa using h4⟩, ⟨HB4.out⟩, ⟨(grown_step HGn.out HB3.out).trans HG4.out⟩, ⟨by
                          have e1 : x = xs.toArray[k + k2]! := by rw [HGX.out, rd_atA, HI.out.high (k + k2) (by have := HK2.out; omega)]
                          rw [e1]
                          refine HI.out.keep (by have := HK2.out; simpa using this.2.2.2.2) (Lib.keeps_pos ?_)
                          rw [← HI.out.high (k + k2) (by have := HK2.out; omega), show k + k2 - 1 = k + j2 by have := HJ2.out; omega, ← HI.out.high (k + j2) (by have := HK2.out; have := HJ2.out; omega), ← rd_atA, ← rd_atA]
                          exact HQ2.out⟩⟩)
              · have hend : k + k2 = xs.length := by omega
                obtain ⟨hRt, hGt, cur, hh, hfit⟩ := clear_tail HRn.out kk (by omega) (Builtin.zeroCells zeroL.cells (xs.length - kk)).toList (by rw [Array.length_toList, zeroL_size]; rfl)
                rw [Array.length_toList] at hfit
                have hcl : ∀ ty, (Builtin.clear_ #[41] ty #[.slice (some ⟨g, kk * 4, none⟩) (xs.length - kk) (c - kk)]).run Try.prog wr = .ok (.tuple #[]) (wr.setCells g (kk * 4) (Builtin.zeroCells zeroL.cells (xs.length - kk)).toList) :=
                  fun ty => run_clear_rows wr _ 27 ty zeroL Try.underlying41 (zeroL_run wr) g (kk * 4) (xs.length - kk) (c - kk) (zeroL_one _) (by omega) cur hh hfit
                have hck2 : ¬ (c = kk) := by omega
                have hkc2 : kk ≤ c := by omega
                have hkx : kk ≤ xs.length := by omega
                have hnk : ¬ ((k2 : Int) < ((xs.length - k : Nat) : Int)) := by omega
                have e4 : k27.sz = 4 := rfl
                rw [e4] at hRt hGt
                generalize (Builtin.zeroCells zeroL.cells (xs.length - kk)).toList = vs at hRt hGt hcl
                have HRt := Aside0.mk hRt
                have HGt := Aside0.mk hGt
                have HEND := Aside0.mk hend
                clear hRt hGt hh hfit hend h1 hle hg2 hkk hlt2 hdl hck hkc hnc
                go_wp2
                go_ret
                refine ⟨_, rfl, ?_, HGn.out.trans HGt.out⟩
                have hI := HI.out
                rw [HEND.out] at hI
                have e1 := inv_take (d := xs.toArray) (by simpa using hI)
                have e2 : Lib.compact xs = dk.toList.take kk := by rw [e1]; simp [Lib.compact]
                rw [e2]
                exact HRt.out)
        · have HQ := Aside0.mk hq
          have hqb : eqL (rd_T27 xs (k : Int)) (rd_T27 xs (j : Int)) = false := by rw [← Bool.not_eq_true, eqL_iff]; exact hq
          clear hq
          go_wp2_with fail
          go_region_law_o (refine step_callV rfl (f := 82) Try.func82 (by kernel_rfl) rfl #[.agg (encL (rd_T27 xs (k : Int))).toArray, .agg (encL (rd_T27 xs (j : Int))).toArray] rfl (by simp [Act.eval]) (by simp [Act.eval, Act.put, encL]) ?_; refine (same1 (rd_T27 xs (k : Int)) (rd_T27 xs (j : Int)) _).mono ?_; rintro e w2 ⟨rfl, hb⟩; rw [hqb]; refine ⟨_, rfl, ?_⟩; have HB2 := Aside0.mk (show Below w.heap.size w w2 from below_step (by repeat (first | exact HB.out | apply below_drew1)) hb); clear hb)
          all_goals clear hqb hx0 hx1 hx2 hx3 hy0 hy1 hy2 hy3 hwj hjl
          all_goals go_wp2
          all_goals go_roundg (xs.length - (k + 1))
          all_goals first
            | (have := HK.out; omega)
            | exact ⟨k + 1, by omega, by omega, Nat.le_refl _, by rw [HE1.out], HB2, ⟨fun t ht => by
                rcases Nat.lt_or_ge t k with h | h
                · exact HA.out t h
                · obtain rfl : t = k := by omega
                  exact Lib.keeps_pos (by rw [← rd_at xs t, show t - 1 = j by have := HJ.out; omega, ← rd_at xs j]; exact HQ.out)⟩⟩
      · obtain rfl : k = xs.length := by omega
        go_wp2
        go_ret
        exact ⟨_, rfl, by rw [Lib.compact_all xs HA.out]; exact Kd.R_below HR.out HB.out, ⟨HB.out.os, HB.out.tape, HB.out.output, HB.out.size, fun t ht _ => HB.out.block t ht⟩⟩
end Go.Proofs.Ytioooiflpabngaa.PAll
end
section
namespace Go.Proofs.Ytioooiflpabngaa.PAll
open Go.RowKit Go.Sort Go.Proofs.YtioooiflpabngaaW.PrintWords Go.Proofs.YtioooiflpabngaaW.PrintLast Go.Proofs.YtioooiflpabngaaW.PrintMore
set_option linter.unusedVariables false
set_option linter.unusedSimpArgs false
theorem collectL (Bs : Nat) (A : Option Addr) (cap : Nat) (zs : List S27) (w : World) (hlen : zs.length < 4398046511104) (HC : Kd.C k27 w A zs.length zs) (hBs : w.cell? ⟨Bs, 0, none⟩ = some (.slice A zs.length cap)) :
    Calls Try.prog 114 #[.func (.func 116) #[] #[.pointer (some ⟨Bs, 0, none⟩)]] w fun e w' => ∃ v, e = .returned v ∧ Kd.R k27 27 w' w.heap.size (fun _ => True) v zs ∧ Below w.heap.size w w' := by
  have HA := Aside0.mk (appendSeqL Bs A cap zs w hlen HC hBs)
  clear HC hBs
  go_enter Try.func114, Try.ntmps114
  go_wp2_with (go_at_call 128; refine HA.out.mono ?_; rintro e w2 ⟨v, rfl, hR, hb⟩; have HR := Aside0.mk hR; have HB := Aside0.mk hb; clear hR hb)
  go_ret
  exact ⟨_, rfl, HR.out, HB.out⟩
theorem below_grown {w w1 : World} {base : Nat} {α : Type} {d : Kd α} {e : Nat} {ok : Nat → Prop} {v : Value} {xs : List α} (hR : d.R e w base ok v xs) (hg : w.grownBy w1 v.ownBlock) (hb : base ≤ w.heap.size) : Below base w w1 :=
  (Below.refl _ _).grown hg hb (Kd.R_base hR)
theorem sortedFuncL (Bs : Nat) (A : Option Addr) (cap : Nat) (zs : List S27) (w : World) (hlen : zs.length < 4398046511104) (HC : Kd.C k27 w A zs.length zs) (hBs : w.cell? ⟨Bs, 0, none⟩ = some (.slice A zs.length cap)) :
    Calls Try.prog 80 #[.func (.func 116) #[] #[.pointer (some ⟨Bs, 0, none⟩)], .func (.func 42) #[] #[]] w fun e w' => ∃ v, e = .returned v ∧ Kd.R k27 27 w' w.heap.size (fun _ => True) v (sortedL zs) ∧ Below w.heap.size w w' := by
  have HA := Aside0.mk (collectL Bs A cap zs w hlen HC hBs)
  have HL := Aside0.mk hlen
  clear HC hBs hlen
  go_enter Try.func80, Try.ntmps80
  go_wp2_with (first | (go_at_call 114; refine HA.out.mono ?_; rintro e w2 ⟨v, rfl, hR, hb⟩; have HR := Aside0.mk hR; have HB := Aside0.mk hb; clear hR hb) | (go_at_call 115; refine (sortFuncL v zs _ w.heap.size (fun _ => True) HR.out HL.out).mono ?_; rintro e w3 ⟨rfl, hR3, hg3⟩; have HR3 := Aside0.mk hR3; have HG3 := Aside0.mk hg3; clear hR3 hg3))
  go_ret
  exact ⟨_, rfl, HR3.out, HB.out.trans (below_grown HR.out HG3.out HB.out.size)⟩
theorem label_Sort_calls (A0 : Option Addr) (c0 : Nat) (l0 : List S27) (w : World) (hr0 : Kd.C k27 w A0 l0.length l0) (hlen : l0.length < 4398046511104) :
    Calls Try.prog 35 #[.slice A0 l0.length c0] w fun e w' => ∃ v0_ : Value, e = .returned (v0_) ∧ Kd.R k27 27 w' w.heap.size (fun _ => True) v0_ (Lib.compact (sortedL l0)) ∧ Below w.heap.size w w' := by
  have HC := Aside0.mk hr0
  have HL := Aside0.mk hlen
  clear hr0 hlen
  go_enter Try.func35, Try.ntmps35
  go_wp2_with (first
    | (go_at_call 81; refine (valuesL A0 l0.length c0 _).mono ?_; rintro e w1 ⟨rfl, rfl⟩)
    | (go_at_call 80; refine (sortedFuncL w.heap.size A0 c0 l0 _ HL.out (Kd.C_alloc HC.out _) (by simp)).mono ?_; rintro e w2 ⟨v, rfl, hR, hb⟩; have HR := Aside0.mk hR; have HB := Aside0.mk hb; clear hR hb)
    | (go_at_call 79; refine (compactFuncL v (sortedL l0) _ _ (fun _ => True) HR.out (by rw [sortedL_length]; exact HL.out)).mono ?_; rintro e w3 ⟨v3, rfl, hR3, hg3⟩; have HR3 := Aside0.mk hR3; have HG3 := Aside0.mk hg3; clear hR3 hg3))
  go_ret
  refine ⟨_, rfl, ?_, ?_⟩
  · exact Kd.R_lower HR3.out (by simp)
  · exact ((Below.refl _ w).alloc (Nat.le_refl _) _).trans ((HB.out.mono (by simp)).trans (below_grown (Kd.R_lower HR.out (show w.heap.size ≤ _ by simp)) HG3.out (Nat.le_trans (by simp) HB.out.size)))
theorem mem_compact (zs : List S27) (x : S27) : x ∈ Lib.compact zs ↔ x ∈ zs := by
  unfold Lib.compact Lib.compactUpTo
  simp only [List.mem_map, List.mem_filter, List.mem_range]
  constructor
  · rintro ⟨i, ⟨hi, _⟩, rfl⟩
    simp [hi]
  · intro hx
    obtain ⟨i, hi, rfl⟩ := List.getElem_of_mem hx
    induction i with
    | zero => exact ⟨0, ⟨hi, Lib.keeps_lt_one _ 0 (by omega)⟩, by simp [hi]⟩
    | succ i ih =>
      by_cases hk : Lib.keeps zs.toArray (i + 1) = true
      · exact ⟨i + 1, ⟨hi, hk⟩, by simp [hi]⟩
      · have hi2 : i < zs.length := by omega
        have e : zs[i + 1] = zs[i] := by
          simp only [Lib.keeps, decide_eq_true_eq, not_or, Decidable.not_not] at hk
          have h2 := hk.2
          simpa [hi, hi2] using h2
        rw [e]
        exact ih hi2 (List.getElem_mem _)
theorem compact_rise {zs : List S27} (h : zs.Pairwise fun x y => ¬ ltL y x) : RiseL (Lib.compact zs) := by
  unfold Lib.compact Lib.compactUpTo RiseL
  refine List.pairwise_map.2 (List.Pairwise.imp_of_mem (fun {i j} hi hj hij => ?_) ((List.pairwise_lt_range (n := zs.length)).filter _))
  simp only [List.mem_filter, List.mem_range] at hi hj
  have hk := hj.2
  simp only [Lib.keeps, decide_eq_true_eq] at hk
  rcases hk with hk | hk
  · omega
  have hjl := hj.1
  have hil := hi.1
  have hj1 : j - 1 < zs.length := by omega
  have hp := List.pairwise_iff_getElem.1 h
  have e0 : zs.toArray[i]! = zs[i] := by simp [hil]
  have e1 : zs.toArray[j]! = zs[j] := by simp [hjl]
  have e2 : zs.toArray[j - 1]! = zs[j - 1] := by simp [hj1]
  rw [e1, e2] at hk
  rw [e0, e1]
  have h1 : ltL zs[j - 1] zs[j] := by
    rcases ltL_total zs[j - 1] zs[j] with a | a | a
    · exact a
    · exact absurd a.symm hk
    · exact absurd a (hp (j - 1) j hj1 hjl (by omega))
  rcases Nat.lt_or_ge i (j - 1) with hlt | hge
  · rcases ltL_total zs[i] zs[j - 1] with a | a | a
    · exact ltL_trans a h1
    · rw [a]; exact h1
    · exact absurd a (hp i (j - 1) hil hj1 hlt)
  · have : i = j - 1 := by omega
    subst this
    exact h1
theorem sortedL_pairwise (l : List S27) : (sortedL l).Pairwise fun x y => ¬ ltL y x := by
  unfold sortedL
  have := List.pairwise_mergeSort (le := fun x y => !(ltOf cmpL) y x) (fun a b c h1 h2 => by
    simp only [ltOf, Bool.not_eq_true', decide_eq_false_iff_not] at *
    rw [cmpL_neg] at *
    intro h3
    rcases ltL_total a b with h | h | h
    · rcases ltL_total b c with k | k | k
      · exact ltL_irrefl _ (ltL_trans h3 (ltL_trans h k))
      · subst k; exact h1 h3
      · exact h2 k
    · subst h; exact h2 h3
    · exact h1 h) (fun a b => by
    simp only [ltOf, Bool.or_eq_true, Bool.not_eq_true', decide_eq_false_iff_not]
    rw [cmpL_neg, cmpL_neg]
    rcases ltL_total a b with h | h | h
    · exact .inl fun k => ltL_irrefl _ (ltL_trans h k)
    · subst h; exact .inl (ltL_irrefl _)
    · exact .inr fun k => ltL_irrefl _ (ltL_trans h k)) l
  refine this.imp fun {x y} h => ?_
  simp only [ltOf, Bool.not_eq_true', decide_eq_false_iff_not] at h
  rwa [cmpL_neg] at h
theorem compact_sorted (l : List S27) : Lib.compact (sortedL l) = sortL l :=
  riseL_ext (compact_rise (sortedL_pairwise l)) (sortL_rise l) fun x => by
    rw [mem_compact, mem_sortL]
    unfold sortedL
    exact List.mem_mergeSort
theorem label_Sort.calls (A0 : Option Addr) (c0 : Nat) (l0 : List S27) (r : List S27) (w : World) (hr0 : Kd.C k27 w A0 l0.length l0) (hc0 : l0.length ≤ c0) (h : label_Sort.f l0 = some r) :
    Calls Try.prog 35 #[.slice A0 l0.length c0] w fun e w' => ∃ v0_ : Value, e = .returned (v0_) ∧ Kd.R k27 27 w' w.heap.size (fun _ => True) v0_ r ∧ Below w.heap.size w w' := by
  obtain ⟨hl, rfl⟩ := of_if_some h
  rw [← compact_sorted]
  exact label_Sort_calls A0 c0 l0 w hr0 hl
end Go.Proofs.Ytioooiflpabngaa.PAll
end
section
namespace Go.Proofs.Ytioooiflpabngaa.PAll
open Go.RowKit Go.Proofs.YtioooiflpabngaaW.PrintWords Go.Proofs.YtioooiflpabngaaW.PrintLast Go.Proofs.YtioooiflpabngaaW.PrintMore
attribute [local go_sem] max2_int min2_int max_two min_two max_three min_three max_four min_four   -- for this text's walks alone
set_option linter.unusedVariables false
set_option linter.unusedSimpArgs false
def label_Twice.f (l0 : List (S27)) : Option (Bool) := (label_Sort.f l0).bind fun t434 => (some (decide ((t434.length : Int) < (l0.length : Int))))
set_option maxHeartbeats 8000000 in
set_option maxRecDepth 100000 in
theorem label_Twice.calls (A0 : Option Addr) (c0 : Nat) (l0 : List (S27)) (r : Bool) (w : World) (hr0 : Kd.C k27 w A0 l0.length l0) (hc0 : l0.length ≤ c0) (h : label_Twice.f l0 = some r) :
  Calls Try.prog 38 #[.slice A0 l0.length c0] w fun e w' => e = .returned (.bool r) ∧ Below w.heap.size w w' := by
 have HR0 := Aside0.mk hr0
 have HC0 := Aside0.mk hc0
 clear hr0 hc0
 have HB := Aside0.mk (Below.refl w.heap.size w)
 have H : ((label_Sort.f l0).bind fun t434 => (some (decide ((t434.length : Int) < (l0.length : Int))))) = some r := h
 clear h
 replace H := Option.bind_eq_some_iff.mp H
 obtain ⟨t434, A20, H⟩ := H
 replace H : (some (decide ((t434.length : Int) < (l0.length : Int)))) = some r := H
 have A2 := Aside0.mk A20
 clear A20
 obtain rfl := Option.some.inj H
 go_enter Try.func38, Try.ntmps38
 go_wp2_with (first | ((with_reducible refine gate_callee (f := 35) rfl ?_); refine goesL_ (some 4) rfl rfl Try.func35 (by kernel_rfl) rfl #[.slice A0 l0.length c0] rfl za_ ?_; (with_reducible refine (label_Sort.calls _ _ l0 t434 _ ?side1 ?side2 A2.out).mono ?_); (case side1 => repeat (first | exact HR0.out | (with_reducible refine Kd.C_alloc ?_ _) | (with_reducible refine Kd.C_drewN ?_ _) | (with_reducible refine Kd.C_drew ?_))); (case side2 => exact HC0.out); rintro e w3 ⟨v435, rfl, ho0, hb⟩; refine ⟨_, rfl, ?_⟩; have n0_ := Aside0.mk (Kd.R_lower ho0 (below_size zb_)); have n1_ := Aside0.mk (below_step zb_ hb); clear HB; have HO436 := n0_; have HB := n1_; clear n0_ n1_; (try clear hb); (try clear hb2); (try clear hk); (try clear hi); (try clear ho0); obtain ⟨Ao4, co4, eo4⟩ := Kd.R_slice HO436.out; subst eo4))
 go_ret
 exact ⟨by first | rfl | (simp [errW_none, errW_some] <;> rfl) | (simp [*, errW_none, errW_some] <;> rfl), by repeat (first | (with_reducible first | exact HB.out | apply below_alloc | apply pw_below_drewN | apply below_drew1) | exact HB.out)⟩
end Go.Proofs.Ytioooiflpabngaa.PAll
end
section
namespace Go.Proofs.Ytioooiflpabngaa.PAll
open Go.RowKit Go.Proofs.YtioooiflpabngaaW.PrintWords
set_option linter.unusedVariables false
set_option linter.unusedSimpArgs false
def dup : List S27 → List S27 → Bool
  | seen, [] => false
  | seen, x :: xs => memL x seen || dup (seen ++ [x]) xs
theorem insL_mem_length {x : S27} : ∀ {l : List S27}, RiseL l → (insL l x).length = if x ∈ l then l.length else l.length + 1
  | [], _ => by simp [insL]
  | a :: l, h => by
    obtain ⟨h1, h2⟩ := List.pairwise_cons.1 h
    have ih := insL_mem_length (x := x) h2
    unfold insL
    by_cases hc : cmpL a x < 0
    · rw [if_pos hc, List.length_cons, ih]
      have hne : ¬ x = a := fun e => by
        rw [e, cmpL_neg] at hc
        exact ltL_irrefl _ hc
      by_cases hm : x ∈ l
      · rw [if_pos hm, if_pos (List.mem_cons_of_mem _ hm)]; rfl
      · rw [if_neg hm, if_neg (by rw [List.mem_cons, not_or]; exact ⟨hne, hm⟩)]; rfl
    · rw [if_neg hc]
      by_cases hz : cmpL a x = 0
      · rw [if_pos hz, if_pos (by rw [cmpL_eq.1 hz]; exact List.mem_cons_self ..)]
      · rw [if_neg hz]
        have hlt : ltL x a := by
          rcases ltL_total x a with h | h | h
          · exact h
          · exact absurd (cmpL_eq.2 h.symm) hz
          · exact absurd ((cmpL_neg _ _).2 h) hc
        have hm : ¬ x ∈ a :: l := fun hm => by
          rcases List.mem_cons.1 hm with rfl | hm
          · exact ltL_irrefl _ hlt
          · exact ltL_irrefl _ (ltL_trans hlt (h1 x hm))
        rw [if_neg hm]
        rfl
theorem dup_fold : ∀ (xs seen acc : List S27), RiseL acc → (∀ x, x ∈ acc ↔ x ∈ seen) → decide ((xs.foldl insL acc).length < acc.length + xs.length) = dup seen xs
  | [], seen, acc, _, _ => by simp [dup]
  | x :: xs, seen, acc, hr, hm => by
    have hl := insL_mem_length (x := x) hr
    have ih := dup_fold xs (seen ++ [x]) (insL acc x) (insL_rise hr) (fun y => by rw [mem_insL, hm, List.mem_append, List.mem_singleton]; exact or_comm)
    unfold dup
    rw [List.foldl_cons, List.length_cons]
    cases hs : memL x seen with
    | true =>
      rw [if_pos ((hm x).2 (memL_iff.1 hs))] at hl
      have h1 := foldL_length xs (insL acc x)
      rw [Bool.true_or]
      exact decide_eq_true (by omega)
    | false =>
      have hx : ¬ x ∈ acc := fun h => by rw [memL_iff.2 ((hm x).1 h)] at hs; cases hs
      rw [if_neg hx] at hl
      rw [Bool.false_or, ← ih, hl]
      congr 1
      rw [show acc.length + (xs.length + 1) = acc.length + 1 + xs.length by omega]
theorem dup_sort (l : List S27) : decide ((sortL l).length < l.length) = dup [] l := by
  rw [← dup_fold l [] [] List.Pairwise.nil (fun x => Iff.rfl)]
  exact decide_eq_decide.2 (by simp [sortL])
theorem dup_append : ∀ (a seen b : List S27), dup seen (a ++ b) = (dup seen a || dup (seen ++ a) b)
  | [], seen, b => by simp [dup]
  | x :: a, seen, b => by
    rw [List.cons_append, dup, dup, dup_append a (seen ++ [x]) b, Bool.or_assoc, List.append_assoc]
    rfl
theorem twice_eq {l : List S27} (h : l.length < 4398046511104) : label_Twice.f l = some (dup [] l) := by
  unfold label_Twice.f
  rw [sort_eq h, Option.bind_some, ← dup_sort]
  congr 1
  exact decide_eq_decide.2 (by omega)
end Go.Proofs.Ytioooiflpabngaa.PAll
end
section
namespace Go.Proofs.Ytioooiflpabngaa.PAll
open Go.RowKit Go.Proofs.YtioooiflpabngaaW.PrintWords
set_option linter.unusedVariables false
set_option linter.unusedSimpArgs false
theorem Ev.of_mono {α : Type} {g : Nat → Option α} {r : α} (hm : ∀ k, LeO (g k) (g (k + 1))) {K : Nat} (h : g K = some r) : Ev g r := by
  refine ⟨K, fun k hk => ?_⟩
  obtain ⟨d, rfl⟩ : ∃ d, k = K + d := ⟨k - K, by omega⟩
  clear hk
  induction d with
  | zero => exact h
  | succ d ih => exact hm _ _ ih
theorem compare_ev (a b : S27) : Ev (fun k => label_Compare.f k a.f0.f0 a.f0.f1 a.f1 a.f2 b.f0.f0 b.f0.f1 b.f1 b.f2) (cmpL a b) :=
  Ev.of_mono (fun k => label_Compare.mono _ _ _ _ _ _ _ _ k) (label_Compare_eq a b)
end Go.Proofs.Ytioooiflpabngaa.PAll
end
section
namespace Go.Proofs.Ytioooiflpabngaa.PAll
open Go.RowKit Go.Proofs.YtioooiflpabngaaW.PrintWords
set_option linter.unusedVariables false
set_option linter.unusedSimpArgs false
def Rise (l : List S32) : Prop := l.Pairwise fun a b => ltL a.f0 b.f0
theorem rise_lt {l : List S32} (h : Rise l) {i j : Nat} (hij : i < j) (hj : j < l.length) : ltL (l[i]'(by omega)).f0 l[j].f0 := List.pairwise_iff_getElem.1 h i j (by omega) hj hij
end Go.Proofs.Ytioooiflpabngaa.PAll
end
section
namespace Go.Proofs.Ytioooiflpabngaa.PAll
open Go.RowKit Go.Proofs.YtioooiflpabngaaW.PrintWords Go.Proofs.YtioooiflpabngaaW.PrintLast Go.Proofs.YtioooiflpabngaaW.PrintMore
attribute [local go_sem] max2_int min2_int max_two min_two max_three min_three max_four min_four   -- for this text's walks alone
set_option linter.unusedVariables false
set_option linter.unusedSimpArgs false
def content_Right_1.f (a0_0 : Int) (a0_1 : Int) (a0_2 : Int) (a0_3 : Int) : Option (Bool) := (label_Form.f a0_0 a0_1 a0_2 a0_3).bind fun t518 => (some (!t518))
set_option maxHeartbeats 8000000 in
set_option maxRecDepth 100000 in
theorem content_Right_1.calls (a0_0 : Int) (a0_1 : Int) (a0_2 : Int) (a0_3 : Int) (r : Bool) (w : World) (h : content_Right_1.f a0_0 a0_1 a0_2 a0_3 = some r) :
  Calls Try.prog 106 #[.agg #[.int .u64 a0_0, .int .i64 a0_1, .int .u64 a0_2, .int .i64 a0_3]] w fun e w' => e = .returned (.bool r) ∧ Below w.heap.size w w' := by
 have hu27 := Try.underlying27
 have HB := Aside0.mk (Below.refl w.heap.size w)
 have H : ((label_Form.f a0_0 a0_1 a0_2 a0_3).bind fun t518 => (some (!t518))) = some r := h
 clear h
 replace H := Option.bind_eq_some_iff.mp H
 obtain ⟨t518, A20, H⟩ := H
 replace H : (some (!t518)) = some r := H
 have A2 := Aside0.mk A20
 clear A20
 obtain rfl := Option.some.inj H
 go_enter Try.func106, Try.ntmps106
 go_wp2_with (first | ((with_reducible refine gate_dst (N := 1) rfl ?_); refine box_event ?hg (N := 1) ?hd (cs := #[.int .u64 a0_0, .int .i64 a0_1, .int .u64 a0_2, .int .i64 a0_3]) (t := 27) ?hr ?_; (case hd => rfl); (case hg => rfl); (case hr => first | (go_simp; done) | (go_simp; rfl)); intro gb517 hg w3 hbox hb; have n0_ := Aside0.mk (below_step zb_ hb); have n1_ := Aside0.mk (hbox); have n2_ := Aside0.mk ((by rw [hg]; exact (below_size zb_) : w.heap.size ≤ gb517)); have n3_ := Aside0.mk ((by rw [hg]; exact (below_size zb_) : w.heap.size ≤ gb517)); clear HB; have HB := n0_; have BK517 := n1_; have GW517 := n2_; have GE517 := n3_; clear n0_ n1_ n2_ n3_; clear hb hbox hg; have hcz4_0 : w3.cell? ⟨gb517, 0, none⟩ = some (.int .u64 a0_0) := (blk_cell BK517.out 0).trans rfl; have hcz4_1 : w3.cell? ⟨gb517, 1, none⟩ = some (.int .i64 a0_1) := (blk_cell BK517.out 1).trans rfl; have hcz4_2 : w3.cell? ⟨gb517, 2, none⟩ = some (.int .u64 a0_2) := (blk_cell BK517.out 2).trans rfl; have hcz4_3 : w3.cell? ⟨gb517, 3, none⟩ = some (.int .i64 a0_3) := (blk_cell BK517.out 3).trans rfl; have hfz4_0 := blk_frozen BK517.out 0; have hfz4_1 := blk_frozen BK517.out 1; have hfz4_2 := blk_frozen BK517.out 2; have hfz4_3 := blk_frozen BK517.out 3) | ((with_reducible refine gate_callee (f := 40) rfl ?_); refine goesL_ (some 4) rfl rfl Try.func40 (by kernel_rfl) rfl #[.agg #[.int .u64 a0_0, .int .i64 a0_1, .int .u64 a0_2, .int .i64 a0_3]] rfl za_ ?_; (with_reducible refine (label_Form.calls a0_0 a0_1 a0_2 a0_3 t518 _ A2.out).mono ?_); rintro e w5 ⟨rfl, hb⟩; refine ⟨_, rfl, ?_⟩; have n0_ := zk_ BK517 hb; have n1_ := Aside0.mk (below_step zb_ hb); clear BK517; clear HB; have BK517 := n0_; have HB := n1_; clear n0_ n1_; (try clear hb); (try clear hb2); (try clear hk); (try clear hi)))
 go_ret
 exact ⟨by first | rfl | (simp [errW_none, errW_some] <;> rfl) | (simp [*, errW_none, errW_some] <;> rfl), by repeat (first | (with_reducible first | exact HB.out | apply below_alloc | apply pw_below_drewN | apply below_drew1 | refine below_set ?_ GE517.out) | exact HB.out)⟩
end Go.Proofs.Ytioooiflpabngaa.PAll
end
section
namespace Go.Proofs.Ytioooiflpabngaa.PAll
open Go.RowKit Go.Proofs.YtioooiflpabngaaW.PrintWords Go.Proofs.YtioooiflpabngaaW.PrintLast Go.Proofs.YtioooiflpabngaaW.PrintMore
attribute [local go_sem] max2_int min2_int max_two min_two max_three min_three max_four min_four   -- for this text's walks alone
set_option linter.unusedVariables false
set_option linter.unusedSimpArgs false
def api_Label_126.l0 : Nat → List (S27) → Int → Int → Option (Int)
 | 0, _, _, _ => none
 | k + 1, x0, x7, x8 => if x8 < x7 then (if 0 ≤ x8 then (if x8 < (x0.length : Int) then ((content_Right_1.f ((rd_T27 x0 x8).f0.f0) ((rd_T27 x0 x8).f0.f1) ((rd_T27 x0 x8).f1) ((rd_T27 x0 x8).f2)).bind fun t520 => (if t520 = true then (some x8) else (api_Label_126.l0 k x0 x7 (wrap64 (x8 + 1))))) else (none)) else (none)) else (some (-1))
def api_Label_126.f (k : Nat) (l0 : List (S27)) : Option (Int) := api_Label_126.l0 k l0 (l0.length : Int) 0
set_option maxHeartbeats 8000000 in
set_option maxRecDepth 100000 in
theorem api_Label_126.calls (k : Nat) (A0 : Option Addr) (c0 : Nat) (l0 : List (S27)) (r : Int) (w : World) (hr0 : Kd.C k27 w A0 l0.length l0) (hc0 : l0.length ≤ c0) (h : api_Label_126.f k l0 = some r) :
  Calls Try.prog 126 #[.slice A0 l0.length c0, .func (.func 106) #[] #[]] w fun e w' => e = .returned (.int .i64 r) ∧ Below w.heap.size w w' := by
 have hu27 := Try.underlying27
 have HR0 := Aside0.mk hr0
 have HC0 := Aside0.mk hc0
 clear hr0 hc0
 have HB := Aside0.mk (Below.refl w.heap.size w)
 have H : (api_Label_126.l0 k l0 (l0.length : Int) 0) = some r := h
 clear h
 have H' := Aside0.mk H
 clear H
 go_enter Try.func126, Try.ntmps126
 go_wp2
 go_loopg [8] k (fun kq v8 w' => ∃ (x8_1 : Int), v8 = .int .i64 x8_1 ∧ Aside0 (api_Label_126.l0 kq l0 (l0.length : Int) x8_1 = some r) ∧ Aside0 (kq ≤ k) ∧ Aside0 (Below w.heap.size w w'))
 case atStart => exact ⟨(0), (by first | rfl | (simp; done) | (simp [*]; done)), H', ⟨Nat.le_refl _⟩, ⟨by repeat (first | (with_reducible first | exact HB.out | apply below_alloc | apply pw_below_drewN | apply below_drew1) | exact HB.out)⟩⟩
 case round =>
  clear H'
  try clear c1
  obtain ⟨x8_1, rfl, HA, HK1, HB⟩ := hrel
  cases gk with
  | zero => exact absurd HA.out (by simp [api_Label_126.l0])
  | succ k1 =>
   have H := HA.out
   clear HA
   simp only [api_Label_126.l0] at H
   by_cases c2 : x8_1 < (l0.length : Int)
   ·
    rw [if_pos c2] at H
    have c2b0 : decide (x8_1 < (l0.length : Int)) = true := decide_eq_true c2
    clear c2
    by_cases c3 : 0 ≤ x8_1
    ·
     rw [if_pos c3] at H
     have c3b0 : decide (0 ≤ x8_1) = true := decide_eq_true c3
     clear c3
     by_cases c4 : x8_1 < (l0.length : Int)
     ·
      rw [if_pos c4] at H
      have c4b0 : decide (x8_1 < (l0.length : Int)) = true := decide_eq_true c4
      clear c4
      replace H := Option.bind_eq_some_iff.mp H
      obtain ⟨t520, A50, H⟩ := H
      replace H : (if t520 = true then (some x8_1) else (api_Label_126.l0 k1 l0 (l0.length : Int) (wrap64 (x8_1 + 1)))) = some r := H
      have A5 := Aside0.mk A50
      clear A50
      by_cases c6 : t520 = true
      ·
       subst c6
       have H1 : (some x8_1) = some r := by rw [if_pos rfl] at H; exact H
       clear H
       have H := H1
       clear H1
       obtain rfl := Option.some.inj H
       have p519 : 0 ≤ (x8_1 : Int) := of_decide_eq_true zs_
       have q519 : x8_1 < (l0.length : Int) := of_decide_eq_true zs_
       obtain ⟨ad519, e519, hx519_0, hx519_1, hx519_2, hx519_3⟩ := at_T27 HR0.out x8_1 p519 q519
       cases e519
       replace hx519_0 := (HB.out.cell (World.block_lt_of_cell? w _ hx519_0)).trans hx519_0
       replace hx519_1 := (HB.out.cell (World.block_lt_of_cell? w _ hx519_1)).trans hx519_1
       replace hx519_2 := (HB.out.cell (World.block_lt_of_cell? w _ hx519_2)).trans hx519_2
       replace hx519_3 := (HB.out.cell (World.block_lt_of_cell? w _ hx519_3)).trans hx519_3
       replace p519 := eq_true p519
       replace q519 := eq_true q519
       go_wp2_with (first | ((with_reducible refine gate_calleeV rfl ?_); refine goesLV_ (some 16) rfl rfl Try.func106 (by kernel_rfl) rfl #[.agg #[.int .u64 ((rd_T27 l0 x8_1).f0.f0), .int .i64 ((rd_T27 l0 x8_1).f0.f1), .int .u64 ((rd_T27 l0 x8_1).f1), .int .i64 ((rd_T27 l0 x8_1).f2)]] rfl rfl za_ ?_; (with_reducible refine (content_Right_1.calls ((rd_T27 l0 x8_1).f0.f0) ((rd_T27 l0 x8_1).f0.f1) ((rd_T27 l0 x8_1).f1) ((rd_T27 l0 x8_1).f2) true _ A5.out).mono ?_); rintro e w7 ⟨rfl, hb⟩; refine ⟨_, rfl, ?_⟩; have n0_ := Aside0.mk (below_step zb_ hb); clear HB; have HB := n0_; clear n0_; (try clear hb); (try clear hb2); (try clear hk); (try clear hi)))
       go_ret
       exact ⟨by first | rfl | (simp [errW_none, errW_some] <;> rfl) | (simp [*, errW_none, errW_some] <;> rfl), by repeat (first | (with_reducible first | exact HB.out | apply below_alloc | apply pw_below_drewN | apply below_drew1) | exact HB.out)⟩
      ·
       replace c6 := Bool.eq_false_iff.mpr c6
       subst c6
       have H1 : (api_Label_126.l0 k1 l0 (l0.length : Int) (wrap64 (x8_1 + 1))) = some r := by rw [if_neg (show ¬ (false = true) by decide)] at H; exact H
       clear H
       have H := H1
       clear H1
       have H' := Aside0.mk H
       clear H
       have p519 : 0 ≤ (x8_1 : Int) := of_decide_eq_true zs_
       have q519 : x8_1 < (l0.length : Int) := of_decide_eq_true zs_
       obtain ⟨ad519, e519, hx519_0, hx519_1, hx519_2, hx519_3⟩ := at_T27 HR0.out x8_1 p519 q519
       cases e519
       replace hx519_0 := (HB.out.cell (World.block_lt_of_cell? w _ hx519_0)).trans hx519_0
       replace hx519_1 := (HB.out.cell (World.block_lt_of_cell? w _ hx519_1)).trans hx519_1
       replace hx519_2 := (HB.out.cell (World.block_lt_of_cell? w _ hx519_2)).trans hx519_2
       replace hx519_3 := (HB.out.cell (World.block_lt_of_cell? w _ hx519_3)).trans hx519_3
       replace p519 := eq_true p519
       replace q519 := eq_true q519
       go_wp2_with (first | ((with_reducible refine gate_calleeV rfl ?_); refine goesLV_ (some 16) rfl rfl Try.func106 (by kernel_rfl) rfl #[.agg #[.int .u64 ((rd_T27 l0 x8_1).f0.f0), .int .i64 ((rd_T27 l0 x8_1).f0.f1), .int .u64 ((rd_T27 l0 x8_1).f1), .int .i64 ((rd_T27 l0 x8_1).f2)]] rfl rfl za_ ?_; (with_reducible refine (content_Right_1.calls ((rd_T27 l0 x8_1).f0.f0) ((rd_T27 l0 x8_1).f0.f1) ((rd_T27 l0 x8_1).f1) ((rd_T27 l0 x8_1).f2) false _ A5.out).mono ?_); rintro e w8 ⟨rfl, hb⟩; refine ⟨_, rfl, ?_⟩; have n0_ := Aside0.mk (below_step zb_ hb); clear HB; have HB := n0_; clear n0_; (try clear hb); (try clear hb2); (try clear hk); (try clear hi)))
       go_roundg k1
       case measure => have := HK1.out; omega
       case rel => exact ⟨(wrap64 (x8_1 + 1)), (by first | rfl | (simp; done) | (simp [*]; done)), H', ⟨by have := HK1.out; omega⟩, ⟨by repeat (first | (with_reducible first | exact HB.out | apply below_alloc | apply pw_below_drewN | apply below_drew1) | exact HB.out)⟩⟩
     ·
      rw [if_neg c4] at H
      exact absurd H (by simp)
    ·
     rw [if_neg c3] at H
     exact absurd H (by simp)
   ·
    rw [if_neg c2] at H
    have c2b0 : decide (x8_1 < (l0.length : Int)) = false := decide_eq_false c2
    clear c2
    obtain rfl := Option.some.inj H
    go_wp2
    go_ret
    exact ⟨by first | rfl | (simp [errW_none, errW_some] <;> rfl) | (simp [*, errW_none, errW_some] <;> rfl), by repeat (first | (with_reducible first | exact HB.out | apply below_alloc | apply pw_below_drewN | apply below_drew1) | exact HB.out)⟩
end Go.Proofs.Ytioooiflpabngaa.PAll
end
section
namespace Go.Proofs.Ytioooiflpabngaa.PAll
open Go.RowKit Go.Proofs.YtioooiflpabngaaW.PrintWords Go.Proofs.YtioooiflpabngaaW.PrintLast Go.Proofs.YtioooiflpabngaaW.PrintMore
attribute [local go_sem] max2_int min2_int max_two min_two max_three min_three max_four min_four   -- for this text's walks alone
set_option linter.unusedVariables false
set_option linter.unusedSimpArgs false
def api_Label_105.f (k : Nat) (l0 : List (S27)) : Option (Bool) := (api_Label_126.f k l0).bind fun t521 => (some (decide (t521 ≥ 0)))
set_option maxHeartbeats 8000000 in
set_option maxRecDepth 100000 in
theorem api_Label_105.calls (k : Nat) (A0 : Option Addr) (c0 : Nat) (l0 : List (S27)) (r : Bool) (w : World) (hr0 : Kd.C k27 w A0 l0.length l0) (hc0 : l0.length ≤ c0) (h : api_Label_105.f k l0 = some r) :
  Calls Try.prog 105 #[.slice A0 l0.length c0, .func (.func 106) #[] #[]] w fun e w' => e = .returned (.bool r) ∧ Below w.heap.size w w' := by
 have HR0 := Aside0.mk hr0
 have HC0 := Aside0.mk hc0
 clear hr0 hc0
 have HB := Aside0.mk (Below.refl w.heap.size w)
 have H : ((api_Label_126.f k l0).bind fun t521 => (some (decide (t521 ≥ 0)))) = some r := h
 clear h
 replace H := Option.bind_eq_some_iff.mp H
 obtain ⟨t521, A20, H⟩ := H
 replace H : (some (decide (t521 ≥ 0))) = some r := H
 have A2 := Aside0.mk A20
 clear A20
 obtain rfl := Option.some.inj H
 go_enter Try.func105, Try.ntmps105
 go_wp2_with (first | ((with_reducible refine gate_callee (f := 126) rfl ?_); refine goesL_ (some 7) rfl rfl Try.func126 (by kernel_rfl) rfl #[.slice A0 l0.length c0, .func (.func 106) #[] #[]] rfl za_ ?_; (with_reducible refine (api_Label_126.calls k _ _ l0 t521 _ ?side1 ?side2 A2.out).mono ?_); (case side1 => repeat (first | exact HR0.out | (with_reducible refine Kd.C_alloc ?_ _) | (with_reducible refine Kd.C_drewN ?_ _) | (with_reducible refine Kd.C_drew ?_))); (case side2 => exact HC0.out); rintro e w3 ⟨rfl, hb⟩; refine ⟨_, rfl, ?_⟩; have n0_ := Aside0.mk (below_step zb_ hb); clear HB; have HB := n0_; clear n0_; (try clear hb); (try clear hb2); (try clear hk); (try clear hi)))
 go_ret
 exact ⟨by first | rfl | (simp [errW_none, errW_some] <;> rfl) | (simp [*, errW_none, errW_some] <;> rfl), by repeat (first | (with_reducible first | exact HB.out | apply below_alloc | apply pw_below_drewN | apply below_drew1) | exact HB.out)⟩
end Go.Proofs.Ytioooiflpabngaa.PAll
end
section
namespace Go.Proofs.Ytioooiflpabngaa.PAll
open Go.RowKit Go.Proofs.YtioooiflpabngaaW.PrintWords Go.Proofs.YtioooiflpabngaaW.PrintLast Go.Proofs.YtioooiflpabngaaW.PrintMore
attribute [local go_sem] max2_int min2_int max_two min_two max_three min_three max_four min_four   -- for this text's walks alone
set_option linter.unusedVariables false
set_option linter.unusedSimpArgs false
def content_Right.l0 : Nat → List (S32) → Int → Int → List (S32) → List (S27) → Int → Int → Int → Option (Bool)
 | 0, _, _, _, _, _, _, _, _ => none
 | k + 1, x6, x7, x8, x523000, x523001, x523002, x523003, x523004 => if x8 < x7 then (if 0 ≤ x8 then (if x8 < (x6.length : Int) then ((content_Form.f ((rd_T32 x6 x8).f0.f0.f0) ((rd_T32 x6 x8).f0.f0.f1) ((rd_T32 x6 x8).f0.f1) ((rd_T32 x6 x8).f0.f2) ((rd_T32 x6 x8).f1)).bind fun t528 => (if t528 = true then (if x8 > 0 then (if 0 ≤ (wrap64 (x8 - 1)) then (if (wrap64 (x8 - 1)) < (x523000.length : Int) then ((label_Compare.f k ((rd_T32 x523000 (wrap64 (x8 - 1))).f0.f0.f0) ((rd_T32 x523000 (wrap64 (x8 - 1))).f0.f0.f1) ((rd_T32 x523000 (wrap64 (x8 - 1))).f0.f1) ((rd_T32 x523000 (wrap64 (x8 - 1))).f0.f2) ((rd_T32 x6 x8).f0.f0.f0) ((rd_T32 x6 x8).f0.f0.f1) ((rd_T32 x6 x8).f0.f1) ((rd_T32 x6 x8).f0.f2)).bind fun t530 => (if t530 ≥ 0 then (some false) else (content_Right.l0 k x6 x7 (wrap64 (x8 + 1)) x523000 x523001 x523002 x523003 x523004))) else (none)) else (none)) else (content_Right.l0 k x6 x7 (wrap64 (x8 + 1)) x523000 x523001 x523002 x523003 x523004)) else (some false))) else (none)) else (none)) else ((api_Label_105.f k x523001).bind fun t523 => (if t523 = true then (some false) else ((label_Twice.f x523001).bind fun t524 => (if t524 = true then (some false) else (if x523002 ≥ 1 then (if x523002 ≤ (wrap64 ((x523001.length : Int) + 1)) then ((ident_Form.f x523003 x523004).bind fun t525 => (some t525)) else (some false)) else (some false))))))
def content_Right.f (k : Nat) (l0_0 : List (S32)) (l0_1 : List (S27)) (a0_2 : Int) (a0_3 : Int) (a0_4 : Int) : Option (Bool) := content_Right.l0 k l0_0 (l0_0.length : Int) 0 l0_0 l0_1 a0_2 a0_3 a0_4
def content_Right.T4 : Bool × List (List Nat × List Nat) := (true, [([], []), ([0], [0]), ([1], [1]), ([2, 1], [2]), ([3], [3]), ([4, 3], [3, 4]), ([5, 3, 3], [3, 5]), ([6], [6]), ([7, 6], [6, 7]), ([6], [6]), ([9, 6], [6, 9]), ([8, 10, 6], [6, 8, 10]), ([11, 6], [6, 11]), ([12, 6], [6, 12]), ([6], [6]), ([14, 6], [6, 14]), ([13, 15, 6, 6], [6, 13, 15]), ([16, 6], [6, 16]), ([6, 17, 3], [3, 6, 17]), ([3, 18], [3, 18])])
def content_Right.B4 : List Nat := [0, 1, 3, 7, 15, 31, 63, 127, 255, 127, 639, 2047, 4095, 8191, 127, 16511, 65535, 131071, 262143, 524287]
theorem content_Right.tab4 : rtab .any (opsOf Try.f53 4) = content_Right.T4 := by kernel_rfl
theorem content_Right.bits4 : waitsOk content_Right.T4.2 content_Right.B4 = true := by kernel_rfl
set_option maxHeartbeats 8000000 in
set_option maxRecDepth 100000 in
theorem content_Right.calls (k : Nat) (A0_0 : Option Addr) (c0_0 : Nat) (l0_0 : List (S32)) (A0_1 : Option Addr) (c0_1 : Nat) (l0_1 : List (S27)) (a0_2 : Int) (a0_3 : Int) (a0_4 : Int) (r : Bool) (w : World) (hr0_0 : Kd.C k32 w A0_0 l0_0.length l0_0) (hc0_0 : l0_0.length ≤ c0_0) (hr0_1 : Kd.C k27 w A0_1 l0_1.length l0_1) (hc0_1 : l0_1.length ≤ c0_1) (h : content_Right.f k l0_0 l0_1 a0_2 a0_3 a0_4 = some r) :
  Calls Try.prog 53 #[.agg #[.slice A0_0 l0_0.length c0_0, .slice A0_1 l0_1.length c0_1, .int .i64 a0_2, .int .u64 a0_3, .int .i64 a0_4]] w fun e w' => e = .returned (.bool r) ∧ Below w.heap.size w w' := by
 have hu53 := Try.underlying53
 have hu32 := Try.underlying32
 have hu27 := Try.underlying27
 have hu25 := Try.underlying25
 have HR0_0 := Aside0.mk hr0_0
 have HC0_0 := Aside0.mk hc0_0
 clear hr0_0 hc0_0
 have HR0_1 := Aside0.mk hr0_1
 have HC0_1 := Aside0.mk hc0_1
 clear hr0_1 hc0_1
 have HB := Aside0.mk (Below.refl w.heap.size w)
 have H : (content_Right.l0 k l0_0 (l0_0.length : Int) 0 l0_0 l0_1 a0_2 a0_3 a0_4) = some r := h
 clear h
 have H' := Aside0.mk H
 clear H
 go_enter Try.func53, Try.ntmps53
 go_wp2_with (first | ((with_reducible refine gate_dst (N := 1) rfl ?_); (try (refine gate_guard (by rfl) ?_; dsimp only)); refine box_event ?hg (N := 1) ?hd (cs := #[.slice A0_0 l0_0.length c0_0, .slice A0_1 l0_1.length c0_1, .int .i64 a0_2, .int .u64 a0_3, .int .i64 a0_4]) (t := 53) ?hr ?_; (case hd => rfl); (case hg => rfl); (case hr => first | (go_simp; done) | (go_simp; rfl)); intro gb522 hg w2 hbox hb; have n0_ := Aside0.mk (below_step zb_ hb); have n1_ := Aside0.mk (hbox); have n2_ := Aside0.mk ((by rw [hg]; exact (below_size zb_) : w.heap.size ≤ gb522)); have n3_ := Aside0.mk ((by rw [hg]; exact (below_size zb_) : w.heap.size ≤ gb522)); clear HB; have HB := n0_; have BK522 := n1_; have GW522 := n2_; have GE522 := n3_; clear n0_ n1_ n2_ n3_; clear hb hbox hg; have hcz3_0 : w2.cell? ⟨gb522, 0, none⟩ = some (.slice A0_0 l0_0.length c0_0) := (blk_cell BK522.out 0).trans rfl; have hcz3_1 : w2.cell? ⟨gb522, 1, none⟩ = some (.slice A0_1 l0_1.length c0_1) := (blk_cell BK522.out 1).trans rfl; have hcz3_2 : w2.cell? ⟨gb522, 2, none⟩ = some (.int .i64 a0_2) := (blk_cell BK522.out 2).trans rfl; have hcz3_3 : w2.cell? ⟨gb522, 3, none⟩ = some (.int .u64 a0_3) := (blk_cell BK522.out 3).trans rfl; have hcz3_4 : w2.cell? ⟨gb522, 4, none⟩ = some (.int .i64 a0_4) := (blk_cell BK522.out 4).trans rfl; have hfz3_0 := blk_frozen BK522.out 0; have hfz3_1 := blk_frozen BK522.out 1; have hfz3_2 := blk_frozen BK522.out 2; have hfz3_3 := blk_frozen BK522.out 3; have hfz3_4 := blk_frozen BK522.out 4))
 go_loopg [8] k (fun kq v8 w' => ∃ (x8_1 : Int), v8 = .int .i64 x8_1 ∧ Aside0 (content_Right.l0 kq l0_0 (l0_0.length : Int) x8_1 l0_0 l0_1 a0_2 a0_3 a0_4 = some r) ∧ Aside0 (kq ≤ k) ∧ Aside0 (w'.heap[gb522]? = some (.cells #[(.slice A0_0 l0_0.length c0_0), (.slice A0_1 l0_1.length c0_1), .int .i64 a0_2, .int .u64 a0_3, .int .i64 a0_4] 53 (0, 0))) ∧ Aside0 (Below w.heap.size w w'))
 case atStart => exact ⟨(0), (by first | rfl | (simp; done) | (simp [*]; done)), H', ⟨Nat.le_refl _⟩, ⟨by (with_reducible repeat (first | refine blk_drewN ?_ _ | refine blk_drew ?_ | refine blk_alloc ?_ _)); exact BK522.out⟩, ⟨by repeat (first | (with_reducible first | exact HB.out | apply below_alloc | apply pw_below_drewN | apply below_drew1 | refine below_set ?_ GE522.out) | exact HB.out)⟩⟩
 case round =>
  clear H'
  try clear p2
  try clear hcz3_0
  try clear hcz3_1
  try clear hcz3_2
  try clear hcz3_3
  try clear hcz3_4
  try clear hfz3_0
  try clear hfz3_1
  try clear hfz3_2
  try clear hfz3_3
  try clear hfz3_4
  obtain ⟨x8_1, rfl, HA, HK1, BK522, HB⟩ := hrel
  cases gk with
  | zero => exact absurd HA.out (by simp [content_Right.l0])
  | succ k1 =>
   have H := HA.out
   clear HA
   simp only [content_Right.l0] at H
   by_cases c4 : x8_1 < (l0_0.length : Int)
   ·
    rw [if_pos c4] at H
    have c4b0 : decide (x8_1 < (l0_0.length : Int)) = true := decide_eq_true c4
    clear c4
    by_cases c5 : 0 ≤ x8_1
    ·
     rw [if_pos c5] at H
     have c5b0 : decide (0 ≤ x8_1) = true := decide_eq_true c5
     clear c5
     by_cases c6 : x8_1 < (l0_0.length : Int)
     ·
      rw [if_pos c6] at H
      have c6b0 : decide (x8_1 < (l0_0.length : Int)) = true := decide_eq_true c6
      clear c6
      replace H := Option.bind_eq_some_iff.mp H
      obtain ⟨t528, A70, H⟩ := H
      replace H : (if t528 = true then (if x8_1 > 0 then (if 0 ≤ (wrap64 (x8_1 - 1)) then (if (wrap64 (x8_1 - 1)) < (l0_0.length : Int) then ((label_Compare.f k1 ((rd_T32 l0_0 (wrap64 (x8_1 - 1))).f0.f0.f0) ((rd_T32 l0_0 (wrap64 (x8_1 - 1))).f0.f0.f1) ((rd_T32 l0_0 (wrap64 (x8_1 - 1))).f0.f1) ((rd_T32 l0_0 (wrap64 (x8_1 - 1))).f0.f2) ((rd_T32 l0_0 x8_1).f0.f0.f0) ((rd_T32 l0_0 x8_1).f0.f0.f1) ((rd_T32 l0_0 x8_1).f0.f1) ((rd_T32 l0_0 x8_1).f0.f2)).bind fun t530 => (if t530 ≥ 0 then (some false) else (content_Right.l0 k1 l0_0 (l0_0.length : Int) (wrap64 (x8_1 + 1)) l0_0 l0_1 a0_2 a0_3 a0_4))) else (none)) else (none)) else (content_Right.l0 k1 l0_0 (l0_0.length : Int) (wrap64 (x8_1 + 1)) l0_0 l0_1 a0_2 a0_3 a0_4)) else (some false)) = some r := H
      have A7 := Aside0.mk A70
      clear A70
      by_cases c8 : t528 = true
      ·
       subst c8
       have H1 : (if x8_1 > 0 then (if 0 ≤ (wrap64 (x8_1 - 1)) then (if (wrap64 (x8_1 - 1)) < (l0_0.length : Int) then ((label_Compare.f k1 ((rd_T32 l0_0 (wrap64 (x8_1 - 1))).f0.f0.f0) ((rd_T32 l0_0 (wrap64 (x8_1 - 1))).f0.f0.f1) ((rd_T32 l0_0 (wrap64 (x8_1 - 1))).f0.f1) ((rd_T32 l0_0 (wrap64 (x8_1 - 1))).f0.f2) ((rd_T32 l0_0 x8_1).f0.f0.f0) ((rd_T32 l0_0 x8_1).f0.f0.f1) ((rd_T32 l0_0 x8_1).f0.f1) ((rd_T32 l0_0 x8_1).f0.f2)).bind fun t530 => (if t530 ≥ 0 then (some false) else (content_Right.l0 k1 l0_0 (l0_0.length : Int) (wrap64 (x8_1 + 1)) l0_0 l0_1 a0_2 a0_3 a0_4))) else (none)) else (none)) else (content_Right.l0 k1 l0_0 (l0_0.length : Int) (wrap64 (x8_1 + 1)) l0_0 l0_1 a0_2 a0_3 a0_4)) = some r := by rw [if_pos rfl] at H; exact H
       clear H
       have H := H1
       clear H1
       by_cases c9 : x8_1 > 0
       ·
        rw [if_pos c9] at H
        have c9b0 : decide (0 < x8_1) = true := decide_eq_true c9
        clear c9
        obtain ⟨ji10, hji10⟩ : ∃ j_ : Int, (wrap64 (x8_1 - 1)) = j_ := ⟨_, rfl⟩
        replace H : (if 0 ≤ (ji10) then (if (ji10) < (l0_0.length : Int) then ((label_Compare.f k1 ((rd_T32 l0_0 (ji10)).f0.f0.f0) ((rd_T32 l0_0 (ji10)).f0.f0.f1) ((rd_T32 l0_0 (ji10)).f0.f1) ((rd_T32 l0_0 (ji10)).f0.f2) ((rd_T32 l0_0 x8_1).f0.f0.f0) ((rd_T32 l0_0 x8_1).f0.f0.f1) ((rd_T32 l0_0 x8_1).f0.f1) ((rd_T32 l0_0 x8_1).f0.f2)).bind fun t530 => (if t530 ≥ 0 then (some false) else (content_Right.l0 k1 l0_0 (l0_0.length : Int) (wrap64 (x8_1 + 1)) l0_0 l0_1 a0_2 a0_3 a0_4))) else (none)) else (none)) = some r := by first | (rw [hji10] at H; exact H) | (simp only [hji10] at H ⊢; exact H)
        (try rw [hji10] at A7)
        have hji10w : (IntKind.i64.wrap (x8_1 - 1)) = ji10 := (i64_w _).trans hji10
        by_cases c11 : 0 ≤ (ji10)
        ·
         rw [if_pos c11] at H
         have c11b0 : decide (0 ≤ (ji10)) = true := decide_eq_true c11
         clear c11
         by_cases c12 : (ji10) < (l0_0.length : Int)
         ·
          rw [if_pos c12] at H
          have c12b0 : decide ((ji10) < (l0_0.length : Int)) = true := decide_eq_true c12
          clear c12
          replace H := Option.bind_eq_some_iff.mp H
          obtain ⟨t530, A130, H⟩ := H
          replace H : (if t530 ≥ 0 then (some false) else (content_Right.l0 k1 l0_0 (l0_0.length : Int) (wrap64 (x8_1 + 1)) l0_0 l0_1 a0_2 a0_3 a0_4)) = some r := H
          have A13 := Aside0.mk A130
          clear A130
          by_cases c14 : t530 ≥ 0
          ·
           rw [if_pos c14] at H
           have c14b0 : decide (0 ≤ t530) = true := decide_eq_true c14
           clear c14
           obtain rfl := Option.some.inj H
           have p526 : 0 ≤ (x8_1 : Int) := of_decide_eq_true zs_
           have q526 : x8_1 < (l0_0.length : Int) := of_decide_eq_true zs_
           obtain ⟨ad526, A526_4, c526_4, e526, hx526_0, hx526_1, hx526_2, hx526_3, hx526_4, hl526_4, hi526_4⟩ := at_T32 HR0_0.out x8_1 p526 q526
           cases e526
           replace hx526_0 := (HB.out.cell (World.block_lt_of_cell? w _ hx526_0)).trans hx526_0
           replace hx526_1 := (HB.out.cell (World.block_lt_of_cell? w _ hx526_1)).trans hx526_1
           replace hx526_2 := (HB.out.cell (World.block_lt_of_cell? w _ hx526_2)).trans hx526_2
           replace hx526_3 := (HB.out.cell (World.block_lt_of_cell? w _ hx526_3)).trans hx526_3
           replace hx526_4 := (HB.out.cell (World.block_lt_of_cell? w _ hx526_4)).trans hx526_4
           have HR526_4 := Aside0.mk hi526_4
           have HC526_4 := Aside0.mk hl526_4
           clear hi526_4 hl526_4
           replace p526 := eq_true p526
           replace q526 := eq_true q526
           try go_wp2_with (first | ((with_reducible refine gate_dst (N := 4) rfl ?_); (try (refine gate_guard (by rfl) ?_; dsimp only)); refine box_event ?hg (N := 4) ?hd (cs := #[.int .u64 0, .int .i64 0, .int .u64 0, .int .i64 0, .slice none 0 0]) (t := 32) ?hr ?_; (case hd => rfl); (case hg => rfl); (case hr => first | (go_simp; done) | (go_simp; rfl)); intro gb527 hg w15 hbox hb; have n0_ := zk_ BK522 hb; have n1_ := Aside0.mk (below_step zb_ hb); have n2_ := Aside0.mk (hbox); have n3_ := Aside0.mk ((by rw [hg]; exact (below_size zb_) : w.heap.size ≤ gb527)); have n4_ := Aside0.mk ((by rw [hg]; exact (below_size zb_) : w.heap.size ≤ gb527)); have n5_ := Aside0.mk ((by rw [hg]; exact Nat.ne_of_lt (blk_lt (g := gb522) (o := .cells #[.slice (some ad526) l0_0.length c0_0, .slice A0_1 l0_1.length c0_1, .int .i64 a0_2, .int .u64 a0_3, .int .i64 a0_4] 53 (0, 0)) (by (with_reducible repeat (first | refine blk_drewN ?_ _ | refine blk_drew ?_ | refine blk_alloc ?_ _)); exact BK522.out)) : gb522 ≠ gb527)); have n6_ := Aside0.mk ((by rw [hg]; exact Nat.ne_of_gt (blk_lt (g := gb522) (o := .cells #[.slice (some ad526) l0_0.length c0_0, .slice A0_1 l0_1.length c0_1, .int .i64 a0_2, .int .u64 a0_3, .int .i64 a0_4] 53 (0, 0)) (by (with_reducible repeat (first | refine blk_drewN ?_ _ | refine blk_drew ?_ | refine blk_alloc ?_ _)); exact BK522.out)) : gb527 ≠ gb522)); clear BK522; clear HB; have BK522 := n0_; have HB := n1_; have BK527 := n2_; have GW527 := n3_; have GE527 := n4_; have NB522_527 := n5_; have NB527_522 := n6_; clear n0_ n1_ n2_ n3_ n4_ n5_ n6_; clear hb hbox hg; have hnb16 := NB527_522.out; have hnc16 := NB522_527.out; have hcz17_0 : w15.cell? ⟨gb527, 0, none⟩ = some (.int .u64 0) := (blk_cell BK527.out 0).trans rfl; have hcz17_1 : w15.cell? ⟨gb527, 1, none⟩ = some (.int .i64 0) := (blk_cell BK527.out 1).trans rfl; have hcz17_2 : w15.cell? ⟨gb527, 2, none⟩ = some (.int .u64 0) := (blk_cell BK527.out 2).trans rfl; have hcz17_3 : w15.cell? ⟨gb527, 3, none⟩ = some (.int .i64 0) := (blk_cell BK527.out 3).trans rfl; have hcz17_4 : w15.cell? ⟨gb527, 4, none⟩ = some (.slice none 0 0) := (blk_cell BK527.out 4).trans rfl; have hfz17_0 := blk_frozen BK527.out 0; have hfz17_1 := blk_frozen BK527.out 1; have hfz17_2 := blk_frozen BK527.out 2; have hfz17_3 := blk_frozen BK527.out 3; have hfz17_4 := blk_frozen BK527.out 4))
           have n0_ : Aside0 ((((((w15.setCell ⟨gb527, 0, none⟩ (.int .u64 ((rd_T32 l0_0 x8_1).f0.f0.f0))).setCell ⟨gb527, 1, none⟩ (.int .i64 ((rd_T32 l0_0 x8_1).f0.f0.f1))).setCell ⟨gb527, 2, none⟩ (.int .u64 ((rd_T32 l0_0 x8_1).f0.f1))).setCell ⟨gb527, 3, none⟩ (.int .i64 ((rd_T32 l0_0 x8_1).f0.f2))).setCell ⟨gb527, 4, none⟩ (.slice A526_4 ((rd_T32 l0_0 x8_1).f1).length c526_4)).heap[gb522]? = some (.cells #[.slice (some ad526) l0_0.length c0_0, .slice A0_1 l0_1.length c0_1, .int .i64 a0_2, .int .u64 a0_3, .int .i64 a0_4] 53 (0, 0))) := ⟨by (with_reducible repeat (first | refine blk_drewN ?_ _ | refine blk_drew ?_ | refine blk_alloc ?_ _)); refine blk_far ?_ NB522_527.out _; (with_reducible repeat (first | refine blk_drewN ?_ _ | refine blk_drew ?_ | refine blk_alloc ?_ _)); refine blk_far ?_ NB522_527.out _; (with_reducible repeat (first | refine blk_drewN ?_ _ | refine blk_drew ?_ | refine blk_alloc ?_ _)); refine blk_far ?_ NB522_527.out _; (with_reducible repeat (first | refine blk_drewN ?_ _ | refine blk_drew ?_ | refine blk_alloc ?_ _)); refine blk_far ?_ NB522_527.out _; (with_reducible repeat (first | refine blk_drewN ?_ _ | refine blk_drew ?_ | refine blk_alloc ?_ _)); refine blk_far ?_ NB522_527.out _; (with_reducible repeat (first | refine blk_drewN ?_ _ | refine blk_drew ?_ | refine blk_alloc ?_ _)); exact BK522.out⟩
           have n1_ : Aside0 ((((((w15.setCell ⟨gb527, 0, none⟩ (.int .u64 ((rd_T32 l0_0 x8_1).f0.f0.f0))).setCell ⟨gb527, 1, none⟩ (.int .i64 ((rd_T32 l0_0 x8_1).f0.f0.f1))).setCell ⟨gb527, 2, none⟩ (.int .u64 ((rd_T32 l0_0 x8_1).f0.f1))).setCell ⟨gb527, 3, none⟩ (.int .i64 ((rd_T32 l0_0 x8_1).f0.f2))).setCell ⟨gb527, 4, none⟩ (.slice A526_4 ((rd_T32 l0_0 x8_1).f1).length c526_4)).heap[gb527]? = some (.cells #[.int .u64 ((rd_T32 l0_0 x8_1).f0.f0.f0), .int .i64 ((rd_T32 l0_0 x8_1).f0.f0.f1), .int .u64 ((rd_T32 l0_0 x8_1).f0.f1), .int .i64 ((rd_T32 l0_0 x8_1).f0.f2), .slice A526_4 ((rd_T32 l0_0 x8_1).f1).length c526_4] 32 (0, 0))) := ⟨by (with_reducible repeat (first | refine blk_drewN ?_ _ | refine blk_drew ?_ | refine blk_alloc ?_ _)); refine blk_put (cs := #[.int .u64 ((rd_T32 l0_0 x8_1).f0.f0.f0), .int .i64 ((rd_T32 l0_0 x8_1).f0.f0.f1), .int .u64 ((rd_T32 l0_0 x8_1).f0.f1), .int .i64 ((rd_T32 l0_0 x8_1).f0.f2), .slice none 0 0]) ?_ 4 _ rfl; (with_reducible repeat (first | refine blk_drewN ?_ _ | refine blk_drew ?_ | refine blk_alloc ?_ _)); refine blk_put (cs := #[.int .u64 ((rd_T32 l0_0 x8_1).f0.f0.f0), .int .i64 ((rd_T32 l0_0 x8_1).f0.f0.f1), .int .u64 ((rd_T32 l0_0 x8_1).f0.f1), .int .i64 0, .slice none 0 0]) ?_ 3 _ rfl; (with_reducible repeat (first | refine blk_drewN ?_ _ | refine blk_drew ?_ | refine blk_alloc ?_ _)); refine blk_put (cs := #[.int .u64 ((rd_T32 l0_0 x8_1).f0.f0.f0), .int .i64 ((rd_T32 l0_0 x8_1).f0.f0.f1), .int .u64 0, .int .i64 0, .slice none 0 0]) ?_ 2 _ rfl; (with_reducible repeat (first | refine blk_drewN ?_ _ | refine blk_drew ?_ | refine blk_alloc ?_ _)); refine blk_put (cs := #[.int .u64 ((rd_T32 l0_0 x8_1).f0.f0.f0), .int .i64 0, .int .u64 0, .int .i64 0, .slice none 0 0]) ?_ 1 _ rfl; (with_reducible repeat (first | refine blk_drewN ?_ _ | refine blk_drew ?_ | refine blk_alloc ?_ _)); refine blk_put (cs := #[.int .u64 0, .int .i64 0, .int .u64 0, .int .i64 0, .slice none 0 0]) ?_ 0 _ rfl; (with_reducible repeat (first | refine blk_drewN ?_ _ | refine blk_drew ?_ | refine blk_alloc ?_ _)); exact BK527.out⟩
           have n2_ : Aside0 (Below w.heap.size w (((((w15.setCell ⟨gb527, 0, none⟩ (.int .u64 ((rd_T32 l0_0 x8_1).f0.f0.f0))).setCell ⟨gb527, 1, none⟩ (.int .i64 ((rd_T32 l0_0 x8_1).f0.f0.f1))).setCell ⟨gb527, 2, none⟩ (.int .u64 ((rd_T32 l0_0 x8_1).f0.f1))).setCell ⟨gb527, 3, none⟩ (.int .i64 ((rd_T32 l0_0 x8_1).f0.f2))).setCell ⟨gb527, 4, none⟩ (.slice A526_4 ((rd_T32 l0_0 x8_1).f1).length c526_4))) := ⟨by repeat (first | (with_reducible first | exact HB.out | apply below_alloc | apply pw_below_drewN | apply below_drew1 | refine below_set ?_ GE522.out | refine below_set ?_ GE527.out) | exact HB.out)⟩
           (try clear BK522)
           (try clear BK527)
           (try clear HB)
           generalize (((((w15.setCell ⟨gb527, 0, none⟩ (.int .u64 ((rd_T32 l0_0 x8_1).f0.f0.f0))).setCell ⟨gb527, 1, none⟩ (.int .i64 ((rd_T32 l0_0 x8_1).f0.f0.f1))).setCell ⟨gb527, 2, none⟩ (.int .u64 ((rd_T32 l0_0 x8_1).f0.f1))).setCell ⟨gb527, 3, none⟩ (.int .i64 ((rd_T32 l0_0 x8_1).f0.f2))).setCell ⟨gb527, 4, none⟩ (.slice A526_4 ((rd_T32 l0_0 x8_1).f1).length c526_4)) = w18 at n0_ n1_ n2_ ⊢
           have BK522 := n0_
           have BK527 := n1_
           have HB := n2_
           clear n0_ n1_ n2_
           have n0_ := Aside0.mk (blk_drew BK522.out)
           have n1_ := Aside0.mk (blk_drew BK527.out)
           have n2_ := Aside0.mk (below_drew1 HB.out)
           clear BK522
           clear BK527
           clear HB
           have BK522 := n0_
           have BK527 := n1_
           have HB := n2_
           clear n0_ n1_ n2_
           have p529 : 0 ≤ ((ji10) : Int) := of_decide_eq_true zs_
           have q529 : (ji10) < (l0_0.length : Int) := of_decide_eq_true zs_
           obtain ⟨ad529, A529_4, c529_4, e529, hx529_0, hx529_1, hx529_2, hx529_3, hx529_4, hl529_4, hi529_4⟩ := at_T32 HR0_0.out (ji10) p529 q529
           have hw529_4 := hx529_4
           have hw529_3 := hx529_3
           have hw529_2 := hx529_2
           have hw529_1 := hx529_1
           have hw529_0 := hx529_0
           obtain rfl : ad526 = ad529 := (by injection e529)
           replace hx529_0 := (HB.out.cell (World.block_lt_of_cell? w _ hx529_0)).trans hx529_0
           replace hx529_1 := (HB.out.cell (World.block_lt_of_cell? w _ hx529_1)).trans hx529_1
           replace hx529_2 := (HB.out.cell (World.block_lt_of_cell? w _ hx529_2)).trans hx529_2
           replace hx529_3 := (HB.out.cell (World.block_lt_of_cell? w _ hx529_3)).trans hx529_3
           replace hx529_4 := (HB.out.cell (World.block_lt_of_cell? w _ hx529_4)).trans hx529_4
           have HR529_4 := Aside0.mk hi529_4
           have HC529_4 := Aside0.mk hl529_4
           clear hi529_4 hl529_4
           replace p529 := eq_true p529
           replace q529 := eq_true q529
           refine start_ (n := 20) (S := fun w' => w'.cell? ⟨gb527, 0, none⟩ = some (.int .u64 ((rd_T32 l0_0 x8_1).f0.f0.f0)) ∧ w'.cell? ⟨gb527, 1, none⟩ = some (.int .i64 ((rd_T32 l0_0 x8_1).f0.f0.f1)) ∧ w'.cell? ⟨gb527, 2, none⟩ = some (.int .u64 ((rd_T32 l0_0 x8_1).f0.f1)) ∧ w'.cell? ⟨gb527, 3, none⟩ = some (.int .i64 ((rd_T32 l0_0 x8_1).f0.f2)) ∧ w'.cell? ⟨gb527, 4, none⟩ = some (.slice A526_4 ((rd_T32 l0_0 x8_1).f1).length c526_4) ∧ w'.cell? ⟨gb522, 0, none⟩ = some (.slice (some ad526) l0_0.length c0_0) ∧ w'.cell? ⟨gb522, 1, none⟩ = some (.slice A0_1 l0_1.length c0_1) ∧ w'.cell? ⟨gb522, 2, none⟩ = some (.int .i64 a0_2) ∧ w'.cell? ⟨gb522, 3, none⟩ = some (.int .u64 a0_3) ∧ w'.cell? ⟨gb522, 4, none⟩ = some (.int .i64 a0_4) ∧ w'.cell? (ad526.add (((ji10)).toNat * 5)) = some (.int .u64 ((rd_T32 l0_0 (ji10)).f0.f0.f0)) ∧ w'.cell? ⟨(ad526.add (((ji10)).toNat * 5)).block, (ad526.add (((ji10)).toNat * 5)).off + 1, none⟩ = some (.int .i64 ((rd_T32 l0_0 (ji10)).f0.f0.f1)) ∧ w'.cell? ⟨(ad526.add (((ji10)).toNat * 5)).block, (ad526.add (((ji10)).toNat * 5)).off + 2, none⟩ = some (.int .u64 ((rd_T32 l0_0 (ji10)).f0.f1)) ∧ w'.cell? ⟨(ad526.add (((ji10)).toNat * 5)).block, (ad526.add (((ji10)).toNat * 5)).off + 3, none⟩ = some (.int .i64 ((rd_T32 l0_0 (ji10)).f0.f2)) ∧ w'.cell? ⟨(ad526.add (((ji10)).toNat * 5)).block, (ad526.add (((ji10)).toNat * 5)).off + 4, none⟩ = some (.slice A529_4 ((rd_T32 l0_0 (ji10)).f1).length c529_4)) (ds := []) #[F_,F_,F_,F_,F_,F_,F_,F_,F_,F_,F_,F_,F_,F_,F_,F_,F_,F_,F_,F_] (by kernel_rfl) rfl rfl ⟨(blk_cell BK527.out 0).trans rfl, (blk_cell BK527.out 1).trans rfl, (blk_cell BK527.out 2).trans rfl, (blk_cell BK527.out 3).trans rfl, (blk_cell BK527.out 4).trans rfl, (blk_cell BK522.out 0).trans rfl, (blk_cell BK522.out 1).trans rfl, (blk_cell BK522.out 2).trans rfl, (blk_cell BK522.out 3).trans rfl, (blk_cell BK522.out 4).trans rfl, ((HB.out.cell (World.block_lt_of_cell? w _ hw529_0)).trans hw529_0), ((HB.out.cell (World.block_lt_of_cell? w _ hw529_1)).trans hw529_1), ((HB.out.cell (World.block_lt_of_cell? w _ hw529_2)).trans hw529_2), ((HB.out.cell (World.block_lt_of_cell? w _ hw529_3)).trans hw529_3), ((HB.out.cell (World.block_lt_of_cell? w _ hw529_4)).trans hw529_4)⟩ (fun hHeld => ?_); refine with_tabW content_Right.tab4 content_Right.bits4 (fun HT_ HW_ => ?_)
           generalize w18.drew = w19 at BK522 BK527 HB HR529_4 hx529_0 hx529_1 hx529_2 hx529_3 hx529_4 hHeld ⊢
           refine take_ (i := 0) (N := some 13) (v := ?_) (a' := ?_) #[T_,F_,F_,F_,F_,F_,F_,F_,F_,F_,F_,F_,F_,F_,F_,F_,F_,F_,F_,F_] rfl rfl (take_ofW HT_.out HW_.out (by kernel_rfl)) (fun _ _ _ h => h) (Or.inl ⟨by rfl, ?_⟩) hHeld ?_ ?_
           rotate_left
           ·
            rintro w' ⟨s0, s1, s2, s3, s4, s5, s6, s7, s8, s9, s10, s11, s12, s13, s14⟩
            go_simp
            with_reducible rfl
           rotate_left
           ·
            exact zp_
           refine one_ (i := 1) (N := some 14) #[T_,T_,F_,F_,F_,F_,F_,F_,F_,F_,F_,F_,F_,F_,F_,F_,F_,F_,F_,F_] rfl rfl (one_of HT_.out (by kernel_rfl)) (by decide) (fun K hK => ?_)
           refine goes_ Try.func49 (by kernel_rfl) rfl #[.agg #[.int .u64 ((rd_T32 l0_0 x8_1).f0.f0.f0), .int .i64 ((rd_T32 l0_0 x8_1).f0.f0.f1), .int .u64 ((rd_T32 l0_0 x8_1).f0.f1), .int .i64 ((rd_T32 l0_0 x8_1).f0.f2), .slice A526_4 ((rd_T32 l0_0 x8_1).f1).length c526_4]] (by rfl) rfl rfl za_ ?_
           with_reducible refine (content_Form.calls ((rd_T32 l0_0 x8_1).f0.f0.f0) ((rd_T32 l0_0 x8_1).f0.f0.f1) ((rd_T32 l0_0 x8_1).f0.f1) ((rd_T32 l0_0 x8_1).f0.f2) _ _ ((rd_T32 l0_0 x8_1).f1) true _ ?side1 ?side2 A7.out).mono ?_
           (case side1 => exact zc_ HR526_4 HB)
           (case side2 => exact HC526_4.out)
           rintro e w20 ⟨rfl, hb⟩
           refine ⟨_, rfl, ?_⟩
           have n0_ := zk_ BK522 hb
           have n1_ := zk_ BK527 hb
           have n2_ := Aside0.mk (below_step zb_ hb)
           clear BK522
           clear BK527
           clear HB
           have BK522 := n0_
           have BK527 := n1_
           have HB := n2_
           clear n0_ n1_ n2_
           (try clear hb)
           (try clear hb2)
           (try clear hk)
           (try clear hi)
           refine hK.out _ _ ⟨(blk_cell BK527.out 0).trans rfl, (blk_cell BK527.out 1).trans rfl, (blk_cell BK527.out 2).trans rfl, (blk_cell BK527.out 3).trans rfl, (blk_cell BK527.out 4).trans rfl, (blk_cell BK522.out 0).trans rfl, (blk_cell BK522.out 1).trans rfl, (blk_cell BK522.out 2).trans rfl, (blk_cell BK522.out 3).trans rfl, (blk_cell BK522.out 4).trans rfl, ((HB.out.cell (World.block_lt_of_cell? w _ hw529_0)).trans hw529_0), ((HB.out.cell (World.block_lt_of_cell? w _ hw529_1)).trans hw529_1), ((HB.out.cell (World.block_lt_of_cell? w _ hw529_2)).trans hw529_2), ((HB.out.cell (World.block_lt_of_cell? w _ hw529_3)).trans hw529_3), ((HB.out.cell (World.block_lt_of_cell? w _ hw529_4)).trans hw529_4)⟩ (fun hHeld => ?_)
           clear hK K
           refine norm_ (a' := ?_) ?_ ?_
           rotate_left
           ·
            show Act.put _ (some 14) _ = _
            simp only [Act.put, List.setIfInBounds_toArray, List.set_cons_zero, List.set_cons_succ, i64_w, i32_w]
            rfl
           refine pure_ (i := 2) (N := some 15) (v := ?_) (a' := ?_) #[T_,T_,T_,F_,F_,F_,F_,F_,F_,F_,F_,F_,F_,F_,F_,F_,F_,F_,F_,F_] rfl rfl (any_of HT_.out (by kernel_rfl)) (fun _ _ _ h => h) (Or.inl ⟨by rfl, ?_⟩) ?_ ?_
           rotate_left
           ·
            intro w'; go_simp; with_reducible rfl
           rotate_left
           ·
            exact zp_
           refine pure_ (i := 3) (N := some 16) (v := ?_) (a' := ?_) #[T_,T_,T_,T_,F_,F_,F_,F_,F_,F_,F_,F_,F_,F_,F_,F_,F_,F_,F_,F_] rfl rfl (any_of HT_.out (by kernel_rfl)) (fun _ _ _ h => h) (Or.inl ⟨by rfl, ?_⟩) ?_ ?_
           rotate_left
           ·
            intro w'; go_simp; with_reducible rfl
           rotate_left
           ·
            exact zp_
           refine pure_ (i := 4) (N := some 17) (v := ?_) (a' := ?_) #[T_,T_,T_,T_,T_,F_,F_,F_,F_,F_,F_,F_,F_,F_,F_,F_,F_,F_,F_,F_] rfl rfl (any_of HT_.out (by kernel_rfl)) (fun _ _ _ h => h) (Or.inl ⟨by rfl, ?_⟩) ?_ ?_
           rotate_left
           ·
            intro w'; go_simp; with_reducible rfl
           rotate_left
           ·
            exact zp_
           refine pure_ (i := 5) (N := some 18) (v := ?_) (a' := ?_) #[T_,T_,T_,T_,T_,T_,F_,F_,F_,F_,F_,F_,F_,F_,F_,F_,F_,F_,F_,F_] rfl rfl (any_of HT_.out (by kernel_rfl)) (fun _ _ _ h => h) (Or.inl ⟨by rfl, ?_⟩) ?_ ?_
           rotate_left
           ·
            intro w'; go_simp; with_reducible rfl
           rotate_left
           ·
            exact zp_
           refine pure_ (i := 6) (N := some 19) (v := ?_) (a' := ?_) #[T_,T_,T_,T_,T_,T_,T_,F_,F_,F_,F_,F_,F_,F_,F_,F_,F_,F_,F_,F_] rfl rfl (any_of HT_.out (by kernel_rfl)) (fun _ _ _ h => h) (Or.inl ⟨by rfl, ?_⟩) ?_ ?_
           rotate_left
           ·
            intro w'; go_simp; with_reducible rfl
           rotate_left
           ·
            exact zp_
           refine pure_ (i := 7) (N := some 20) (v := ?_) (a' := ?_) #[T_,T_,T_,T_,T_,T_,T_,T_,F_,F_,F_,F_,F_,F_,F_,F_,F_,F_,F_,F_] rfl rfl (any_of HT_.out (by kernel_rfl)) (fun _ _ _ h => h) (Or.inl ⟨by rfl, ?_⟩) ?_ ?_
           rotate_left
           ·
            intro w'; go_simp; with_reducible rfl
           rotate_left
           ·
            exact zp_
           refine pure_ (i := 9) (N := some 22) (v := ?_) (a' := ?_) #[T_,T_,T_,T_,T_,T_,T_,T_,F_,T_,F_,F_,F_,F_,F_,F_,F_,F_,F_,F_] rfl rfl (any_of HT_.out (by kernel_rfl)) (fun _ _ _ h => h) (Or.inl ⟨by rfl, ?_⟩) ?_ ?_
           rotate_left
           ·
            intro w'; go_simp; with_reducible rfl
           rotate_left
           ·
            exact zp_
           refine pure_ (i := 10) (N := some 23) (v := ?_) (a' := ?_) #[T_,T_,T_,T_,T_,T_,T_,T_,F_,T_,T_,F_,F_,F_,F_,F_,F_,F_,F_,F_] rfl rfl (any_of HT_.out (by kernel_rfl)) (fun _ _ _ h => h) (Or.inl ⟨by rfl, ?_⟩) ?_ ?_
           rotate_left
           ·
            intro w'; go_simp; with_reducible rfl
           rotate_left
           ·
            exact zp_
           refine pure_ (i := 14) (N := some 27) (v := ?_) (a' := ?_) #[T_,T_,T_,T_,T_,T_,T_,T_,F_,T_,T_,F_,F_,F_,T_,F_,F_,F_,F_,F_] rfl rfl (any_of HT_.out (by kernel_rfl)) (fun _ _ _ h => h) (Or.inl ⟨by rfl, ?_⟩) ?_ ?_
           rotate_left
           ·
            intro w'; go_simp; with_reducible rfl
           rotate_left
           ·
            exact zp_
           refine take_ (i := 8) (N := some 21) (v := ?_) (a' := ?_) #[T_,T_,T_,T_,T_,T_,T_,T_,T_,T_,T_,F_,F_,F_,T_,F_,F_,F_,F_,F_] rfl rfl (take_ofW HT_.out HW_.out (by kernel_rfl)) (fun _ _ _ h => h) (Or.inl ⟨by rfl, ?_⟩) hHeld ?_ ?_
           rotate_left
           ·
            rintro w' ⟨s0, s1, s2, s3, s4, s5, s6, s7, s8, s9, s10, s11, s12, s13, s14⟩
            go_simp
            with_reducible rfl
           rotate_left
           ·
            exact zp_
           refine pure_ (i := 11) (N := some 24) (v := ?_) (a' := ?_) #[T_,T_,T_,T_,T_,T_,T_,T_,T_,T_,T_,T_,F_,F_,T_,F_,F_,F_,F_,F_] rfl rfl (any_of HT_.out (by kernel_rfl)) (fun _ _ _ h => h) (Or.inl ⟨by rfl, ?_⟩) ?_ ?_
           rotate_left
           ·
            intro w'; go_simp; with_reducible rfl
           rotate_left
           ·
            exact zp_
           refine pure_ (i := 12) (N := some 25) (v := ?_) (a' := ?_) #[T_,T_,T_,T_,T_,T_,T_,T_,T_,T_,T_,T_,T_,F_,T_,F_,F_,F_,F_,F_] rfl rfl (any_of HT_.out (by kernel_rfl)) (fun _ _ _ h => h) (Or.inl ⟨by rfl, ?_⟩) ?_ ?_
           rotate_left
           ·
            intro w'; go_simp; with_reducible rfl
           rotate_left
           ·
            exact zp_
           refine take_ (i := 13) (N := some 26) (v := ?_) (a' := ?_) #[T_,T_,T_,T_,T_,T_,T_,T_,T_,T_,T_,T_,T_,T_,T_,F_,F_,F_,F_,F_] rfl rfl (take_ofW HT_.out HW_.out (by kernel_rfl)) (fun _ _ _ h => h) (Or.inl ⟨by rfl, ?_⟩) hHeld ?_ ?_
           rotate_left
           ·
            rintro w' ⟨s0, s1, s2, s3, s4, s5, s6, s7, s8, s9, s10, s11, s12, s13, s14⟩
            go_simp
            with_reducible rfl
           rotate_left
           ·
            exact zp_
           refine take_ (i := 15) (N := some 28) (v := ?_) (a' := ?_) #[T_,T_,T_,T_,T_,T_,T_,T_,T_,T_,T_,T_,T_,T_,T_,T_,F_,F_,F_,F_] rfl rfl (take_ofW HT_.out HW_.out (by kernel_rfl)) (fun _ _ _ h => h) (Or.inl ⟨by rfl, ?_⟩) hHeld ?_ ?_
           rotate_left
           ·
            rintro w' ⟨s0, s1, s2, s3, s4, s5, s6, s7, s8, s9, s10, s11, s12, s13, s14⟩
            go_simp
            with_reducible rfl
           rotate_left
           ·
            exact zp_
           refine one_ (i := 16) (N := some 29) #[T_,T_,T_,T_,T_,T_,T_,T_,T_,T_,T_,T_,T_,T_,T_,T_,T_,F_,F_,F_] rfl rfl (one_of HT_.out (by kernel_rfl)) (by decide) (fun K hK => ?_)
           refine goes_ Try.func42 (by kernel_rfl) rfl #[.agg #[.int .u64 ((rd_T32 l0_0 (ji10)).f0.f0.f0), .int .i64 ((rd_T32 l0_0 (ji10)).f0.f0.f1), .int .u64 ((rd_T32 l0_0 (ji10)).f0.f1), .int .i64 ((rd_T32 l0_0 (ji10)).f0.f2)], .agg #[.int .u64 ((rd_T32 l0_0 x8_1).f0.f0.f0), .int .i64 ((rd_T32 l0_0 x8_1).f0.f0.f1), .int .u64 ((rd_T32 l0_0 x8_1).f0.f1), .int .i64 ((rd_T32 l0_0 x8_1).f0.f2)]] (by rfl) rfl rfl (by (try simp only [List.map_toArray, List.map_cons, List.map_nil]); first | done | (simp only [hji10]; rfl) | rfl | (simp only [List.length_drop, List.length_take]; rfl)) ?_
           with_reducible refine (label_Compare.calls k1 ((rd_T32 l0_0 (ji10)).f0.f0.f0) ((rd_T32 l0_0 (ji10)).f0.f0.f1) ((rd_T32 l0_0 (ji10)).f0.f1) ((rd_T32 l0_0 (ji10)).f0.f2) ((rd_T32 l0_0 x8_1).f0.f0.f0) ((rd_T32 l0_0 x8_1).f0.f0.f1) ((rd_T32 l0_0 x8_1).f0.f1) ((rd_T32 l0_0 x8_1).f0.f2) t530 _ A13.out).mono ?_
           rintro e w21 ⟨rfl, hb⟩
           refine ⟨_, rfl, ?_⟩
           have n0_ := zk_ BK522 hb
           have n1_ := zk_ BK527 hb
           have n2_ := Aside0.mk (below_step zb_ hb)
           clear BK522
           clear BK527
           clear HB
           have BK522 := n0_
           have BK527 := n1_
           have HB := n2_
           clear n0_ n1_ n2_
           (try clear hb)
           (try clear hb2)
           (try clear hk)
           (try clear hi)
           refine hK.out _ _ ⟨(blk_cell BK527.out 0).trans rfl, (blk_cell BK527.out 1).trans rfl, (blk_cell BK527.out 2).trans rfl, (blk_cell BK527.out 3).trans rfl, (blk_cell BK527.out 4).trans rfl, (blk_cell BK522.out 0).trans rfl, (blk_cell BK522.out 1).trans rfl, (blk_cell BK522.out 2).trans rfl, (blk_cell BK522.out 3).trans rfl, (blk_cell BK522.out 4).trans rfl, ((HB.out.cell (World.block_lt_of_cell? w _ hw529_0)).trans hw529_0), ((HB.out.cell (World.block_lt_of_cell? w _ hw529_1)).trans hw529_1), ((HB.out.cell (World.block_lt_of_cell? w _ hw529_2)).trans hw529_2), ((HB.out.cell (World.block_lt_of_cell? w _ hw529_3)).trans hw529_3), ((HB.out.cell (World.block_lt_of_cell? w _ hw529_4)).trans hw529_4)⟩ (fun hHeld => ?_)
           clear hK K
           refine norm_ (a' := ?_) ?_ ?_
           rotate_left
           ·
            show Act.put _ (some 29) _ = _
            simp only [Act.put, List.setIfInBounds_toArray, List.set_cons_zero, List.set_cons_succ, i64_w, i32_w]
            rfl
           refine pure_ (i := 17) (N := some 30) (v := ?_) (a' := ?_) #[T_,T_,T_,T_,T_,T_,T_,T_,T_,T_,T_,T_,T_,T_,T_,T_,T_,T_,F_,F_] rfl rfl (any_of HT_.out (by kernel_rfl)) (fun _ _ _ h => h) (Or.inl ⟨by rfl, ?_⟩) ?_ ?_
           rotate_left
           ·
            intro w'; go_simp; with_reducible rfl
           rotate_left
           ·
            exact zp_
           refine pure_ (i := 18) (N := some 31) (v := ?_) (a' := ?_) #[T_,T_,T_,T_,T_,T_,T_,T_,T_,T_,T_,T_,T_,T_,T_,T_,T_,T_,T_,F_] rfl rfl (any_of HT_.out (by kernel_rfl)) (fun _ _ _ h => h) (Or.inl ⟨by rfl, ?_⟩) ?_ ?_
           rotate_left
           ·
            intro w'; go_simp; with_reducible rfl
           rotate_left
           ·
            exact zp_
           refine pure_ (i := 19) (N := some 32) (v := ?_) (a' := ?_) #[T_,T_,T_,T_,T_,T_,T_,T_,T_,T_,T_,T_,T_,T_,T_,T_,T_,T_,T_,T_] rfl rfl (any_of HT_.out (by kernel_rfl)) (fun _ _ _ h => h) (Or.inl ⟨by rfl, ?_⟩) ?_ ?_
           rotate_left
           ·
            intro w'; go_simp; with_reducible rfl
           rotate_left
           ·
            exact zp_
           refine done_ (done_of HT_.out (by kernel_rfl)) ?_
           (try clear hHeld); (try clear HS0_)
           try go_wp2
           go_ret
           exact ⟨by first | rfl | (simp [errW_none, errW_some] <;> rfl) | (simp only [← hji10]; first | rfl | (simp [errW_none, errW_some] <;> rfl)) | (simp [*, errW_none, errW_some] <;> rfl), by repeat (first | (with_reducible first | exact HB.out | apply below_alloc | apply pw_below_drewN | apply below_drew1 | refine below_set ?_ GE522.out | refine below_set ?_ GE527.out) | exact HB.out)⟩
          ·
           rw [if_neg c14] at H
           have c14b0 : decide (0 ≤ t530) = false := decide_eq_false c14
           clear c14
           have H' := Aside0.mk H
           clear H
           have p526 : 0 ≤ (x8_1 : Int) := of_decide_eq_true zs_
           have q526 : x8_1 < (l0_0.length : Int) := of_decide_eq_true zs_
           obtain ⟨ad526, A526_4, c526_4, e526, hx526_0, hx526_1, hx526_2, hx526_3, hx526_4, hl526_4, hi526_4⟩ := at_T32 HR0_0.out x8_1 p526 q526
           cases e526
           replace hx526_0 := (HB.out.cell (World.block_lt_of_cell? w _ hx526_0)).trans hx526_0
           replace hx526_1 := (HB.out.cell (World.block_lt_of_cell? w _ hx526_1)).trans hx526_1
           replace hx526_2 := (HB.out.cell (World.block_lt_of_cell? w _ hx526_2)).trans hx526_2
           replace hx526_3 := (HB.out.cell (World.block_lt_of_cell? w _ hx526_3)).trans hx526_3
           replace hx526_4 := (HB.out.cell (World.block_lt_of_cell? w _ hx526_4)).trans hx526_4
           have HR526_4 := Aside0.mk hi526_4
           have HC526_4 := Aside0.mk hl526_4
           clear hi526_4 hl526_4
           replace p526 := eq_true p526
           replace q526 := eq_true q526
           try go_wp2_with (first | ((with_reducible refine gate_dst (N := 4) rfl ?_); (try (refine gate_guard (by rfl) ?_; dsimp only)); refine box_event ?hg (N := 4) ?hd (cs := #[.int .u64 0, .int .i64 0, .int .u64 0, .int .i64 0, .slice none 0 0]) (t := 32) ?hr ?_; (case hd => rfl); (case hg => rfl); (case hr => first | (go_simp; done) | (go_simp; rfl)); intro gb527 hg w22 hbox hb; have n0_ := zk_ BK522 hb; have n1_ := Aside0.mk (below_step zb_ hb); have n2_ := Aside0.mk (hbox); have n3_ := Aside0.mk ((by rw [hg]; exact (below_size zb_) : w.heap.size ≤ gb527)); have n4_ := Aside0.mk ((by rw [hg]; exact (below_size zb_) : w.heap.size ≤ gb527)); have n5_ := Aside0.mk ((by rw [hg]; exact Nat.ne_of_lt (blk_lt (g := gb522) (o := .cells #[.slice (some ad526) l0_0.length c0_0, .slice A0_1 l0_1.length c0_1, .int .i64 a0_2, .int .u64 a0_3, .int .i64 a0_4] 53 (0, 0)) (by (with_reducible repeat (first | refine blk_drewN ?_ _ | refine blk_drew ?_ | refine blk_alloc ?_ _)); exact BK522.out)) : gb522 ≠ gb527)); have n6_ := Aside0.mk ((by rw [hg]; exact Nat.ne_of_gt (blk_lt (g := gb522) (o := .cells #[.slice (some ad526) l0_0.length c0_0, .slice A0_1 l0_1.length c0_1, .int .i64 a0_2, .int .u64 a0_3, .int .i64 a0_4] 53 (0, 0)) (by (with_reducible repeat (first | refine blk_drewN ?_ _ | refine blk_drew ?_ | refine blk_alloc ?_ _)); exact BK522.out)) : gb527 ≠ gb522)); clear BK522; clear HB; have BK522 := n0_; have HB := n1_; have BK527 := n2_; have GW527 := n3_; have GE527 := n4_; have NB522_527 := n5_; have NB527_522 := n6_; clear n0_ n1_ n2_ n3_ n4_ n5_ n6_; clear hb hbox hg; have hnb23 := NB527_522.out; have hnc23 := NB522_527.out; have hcz24_0 : w22.cell? ⟨gb527, 0, none⟩ = some (.int .u64 0) := (blk_cell BK527.out 0).trans rfl; have hcz24_1 : w22.cell? ⟨gb527, 1, none⟩ = some (.int .i64 0) := (blk_cell BK527.out 1).trans rfl; have hcz24_2 : w22.cell? ⟨gb527, 2, none⟩ = some (.int .u64 0) := (blk_cell BK527.out 2).trans rfl; have hcz24_3 : w22.cell? ⟨gb527, 3, none⟩ = some (.int .i64 0) := (blk_cell BK527.out 3).trans rfl; have hcz24_4 : w22.cell? ⟨gb527, 4, none⟩ = some (.slice none 0 0) := (blk_cell BK527.out 4).trans rfl; have hfz24_0 := blk_frozen BK527.out 0; have hfz24_1 := blk_frozen BK527.out 1; have hfz24_2 := blk_frozen BK527.out 2; have hfz24_3 := blk_frozen BK527.out 3; have hfz24_4 := blk_frozen BK527.out 4))
           have n0_ : Aside0 ((((((w22.setCell ⟨gb527, 0, none⟩ (.int .u64 ((rd_T32 l0_0 x8_1).f0.f0.f0))).setCell ⟨gb527, 1, none⟩ (.int .i64 ((rd_T32 l0_0 x8_1).f0.f0.f1))).setCell ⟨gb527, 2, none⟩ (.int .u64 ((rd_T32 l0_0 x8_1).f0.f1))).setCell ⟨gb527, 3, none⟩ (.int .i64 ((rd_T32 l0_0 x8_1).f0.f2))).setCell ⟨gb527, 4, none⟩ (.slice A526_4 ((rd_T32 l0_0 x8_1).f1).length c526_4)).heap[gb522]? = some (.cells #[.slice (some ad526) l0_0.length c0_0, .slice A0_1 l0_1.length c0_1, .int .i64 a0_2, .int .u64 a0_3, .int .i64 a0_4] 53 (0, 0))) := ⟨by (with_reducible repeat (first | refine blk_drewN ?_ _ | refine blk_drew ?_ | refine blk_alloc ?_ _)); refine blk_far ?_ NB522_527.out _; (with_reducible repeat (first | refine blk_drewN ?_ _ | refine blk_drew ?_ | refine blk_alloc ?_ _)); refine blk_far ?_ NB522_527.out _; (with_reducible repeat (first | refine blk_drewN ?_ _ | refine blk_drew ?_ | refine blk_alloc ?_ _)); refine blk_far ?_ NB522_527.out _; (with_reducible repeat (first | refine blk_drewN ?_ _ | refine blk_drew ?_ | refine blk_alloc ?_ _)); refine blk_far ?_ NB522_527.out _; (with_reducible repeat (first | refine blk_drewN ?_ _ | refine blk_drew ?_ | refine blk_alloc ?_ _)); refine blk_far ?_ NB522_527.out _; (with_reducible repeat (first | refine blk_drewN ?_ _ | refine blk_drew ?_ | refine blk_alloc ?_ _)); exact BK522.out⟩
           have n1_ : Aside0 ((((((w22.setCell ⟨gb527, 0, none⟩ (.int .u64 ((rd_T32 l0_0 x8_1).f0.f0.f0))).setCell ⟨gb527, 1, none⟩ (.int .i64 ((rd_T32 l0_0 x8_1).f0.f0.f1))).setCell ⟨gb527, 2, none⟩ (.int .u64 ((rd_T32 l0_0 x8_1).f0.f1))).setCell ⟨gb527, 3, none⟩ (.int .i64 ((rd_T32 l0_0 x8_1).f0.f2))).setCell ⟨gb527, 4, none⟩ (.slice A526_4 ((rd_T32 l0_0 x8_1).f1).length c526_4)).heap[gb527]? = some (.cells #[.int .u64 ((rd_T32 l0_0 x8_1).f0.f0.f0), .int .i64 ((rd_T32 l0_0 x8_1).f0.f0.f1), .int .u64 ((rd_T32 l0_0 x8_1).f0.f1), .int .i64 ((rd_T32 l0_0 x8_1).f0.f2), .slice A526_4 ((rd_T32 l0_0 x8_1).f1).length c526_4] 32 (0, 0))) := ⟨by (with_reducible repeat (first | refine blk_drewN ?_ _ | refine blk_drew ?_ | refine blk_alloc ?_ _)); refine blk_put (cs := #[.int .u64 ((rd_T32 l0_0 x8_1).f0.f0.f0), .int .i64 ((rd_T32 l0_0 x8_1).f0.f0.f1), .int .u64 ((rd_T32 l0_0 x8_1).f0.f1), .int .i64 ((rd_T32 l0_0 x8_1).f0.f2), .slice none 0 0]) ?_ 4 _ rfl; (with_reducible repeat (first | refine blk_drewN ?_ _ | refine blk_drew ?_ | refine blk_alloc ?_ _)); refine blk_put (cs := #[.int .u64 ((rd_T32 l0_0 x8_1).f0.f0.f0), .int .i64 ((rd_T32 l0_0 x8_1).f0.f0.f1), .int .u64 ((rd_T32 l0_0 x8_1).f0.f1), .int .i64 0, .slice none 0 0]) ?_ 3 _ rfl; (with_reducible repeat (first | refine blk_drewN ?_ _ | refine blk_drew ?_ | refine blk_alloc ?_ _)); refine blk_put (cs := #[.int .u64 ((rd_T32 l0_0 x8_1).f0.f0.f0), .int .i64 ((rd_T32 l0_0 x8_1).f0.f0.f1), .int .u64 0, .int .i64 0, .slice none 0 0]) ?_ 2 _ rfl; (with_reducible repeat (first | refine blk_drewN ?_ _ | refine blk_drew ?_ | refine blk_alloc ?_ _)); refine blk_put (cs := #[.int .u64 ((rd_T32 l0_0 x8_1).f0.f0.f0), .int .i64 0, .int .u64 0, .int .i64 0, .slice none 0 0]) ?_ 1 _ rfl; (with_reducible repeat (first | refine blk_drewN ?_ _ | refine blk_drew ?_ | refine blk_alloc ?_ _)); refine blk_put (cs := #[.int .u64 0, .int .i64 0, .int .u64 0, .int .i64 0, .slice none 0 0]) ?_ 0 _ rfl; (with_reducible repeat (first | refine blk_drewN ?_ _ | refine blk_drew ?_ | refine blk_alloc ?_ _)); exact BK527.out⟩
           have n2_ : Aside0 (Below w.heap.size w (((((w22.setCell ⟨gb527, 0, none⟩ (.int .u64 ((rd_T32 l0_0 x8_1).f0.f0.f0))).setCell ⟨gb527, 1, none⟩ (.int .i64 ((rd_T32 l0_0 x8_1).f0.f0.f1))).setCell ⟨gb527, 2, none⟩ (.int .u64 ((rd_T32 l0_0 x8_1).f0.f1))).setCell ⟨gb527, 3, none⟩ (.int .i64 ((rd_T32 l0_0 x8_1).f0.f2))).setCell ⟨gb527, 4, none⟩ (.slice A526_4 ((rd_T32 l0_0 x8_1).f1).length c526_4))) := ⟨by repeat (first | (with_reducible first | exact HB.out | apply below_alloc | apply pw_below_drewN | apply below_drew1 | refine below_set ?_ GE522.out | refine below_set ?_ GE527.out) | exact HB.out)⟩
           (try clear BK522)
           (try clear BK527)
           (try clear HB)
           generalize (((((w22.setCell ⟨gb527, 0, none⟩ (.int .u64 ((rd_T32 l0_0 x8_1).f0.f0.f0))).setCell ⟨gb527, 1, none⟩ (.int .i64 ((rd_T32 l0_0 x8_1).f0.f0.f1))).setCell ⟨gb527, 2, none⟩ (.int .u64 ((rd_T32 l0_0 x8_1).f0.f1))).setCell ⟨gb527, 3, none⟩ (.int .i64 ((rd_T32 l0_0 x8_1).f0.f2))).setCell ⟨gb527, 4, none⟩ (.slice A526_4 ((rd_T32 l0_0 x8_1).f1).length c526_4)) = w25 at n0_ n1_ n2_ ⊢
           have BK522 := n0_
           have BK527 := n1_
           have HB := n2_
           clear n0_ n1_ n2_
           have n0_ := Aside0.mk (blk_drew BK522.out)
           have n1_ := Aside0.mk (blk_drew BK527.out)
           have n2_ := Aside0.mk (below_drew1 HB.out)
           clear BK522
           clear BK527
           clear HB
           have BK522 := n0_
           have BK527 := n1_
           have HB := n2_
           clear n0_ n1_ n2_
           have p529 : 0 ≤ ((ji10) : Int) := of_decide_eq_true zs_
           have q529 : (ji10) < (l0_0.length : Int) := of_decide_eq_true zs_
           obtain ⟨ad529, A529_4, c529_4, e529, hx529_0, hx529_1, hx529_2, hx529_3, hx529_4, hl529_4, hi529_4⟩ := at_T32 HR0_0.out (ji10) p529 q529
           have hw529_4 := hx529_4
           have hw529_3 := hx529_3
           have hw529_2 := hx529_2
           have hw529_1 := hx529_1
           have hw529_0 := hx529_0
           obtain rfl : ad526 = ad529 := (by injection e529)
           replace hx529_0 := (HB.out.cell (World.block_lt_of_cell? w _ hx529_0)).trans hx529_0
           replace hx529_1 := (HB.out.cell (World.block_lt_of_cell? w _ hx529_1)).trans hx529_1
           replace hx529_2 := (HB.out.cell (World.block_lt_of_cell? w _ hx529_2)).trans hx529_2
           replace hx529_3 := (HB.out.cell (World.block_lt_of_cell? w _ hx529_3)).trans hx529_3
           replace hx529_4 := (HB.out.cell (World.block_lt_of_cell? w _ hx529_4)).trans hx529_4
           have HR529_4 := Aside0.mk hi529_4
           have HC529_4 := Aside0.mk hl529_4
           clear hi529_4 hl529_4
           replace p529 := eq_true p529
           replace q529 := eq_true q529
           refine start_ (n := 20) (S := fun w' => w'.cell? ⟨gb527, 0, none⟩ = some (.int .u64 ((rd_T32 l0_0 x8_1).f0.f0.f0)) ∧ w'.cell? ⟨gb527, 1, none⟩ = some (.int .i64 ((rd_T32 l0_0 x8_1).f0.f0.f1)) ∧ w'.cell? ⟨gb527, 2, none⟩ = some (.int .u64 ((rd_T32 l0_0 x8_1).f0.f1)) ∧ w'.cell? ⟨gb527, 3, none⟩ = some (.int .i64 ((rd_T32 l0_0 x8_1).f0.f2)) ∧ w'.cell? ⟨gb527, 4, none⟩ = some (.slice A526_4 ((rd_T32 l0_0 x8_1).f1).length c526_4) ∧ w'.cell? ⟨gb522, 0, none⟩ = some (.slice (some ad526) l0_0.length c0_0) ∧ w'.cell? ⟨gb522, 1, none⟩ = some (.slice A0_1 l0_1.length c0_1) ∧ w'.cell? ⟨gb522, 2, none⟩ = some (.int .i64 a0_2) ∧ w'.cell? ⟨gb522, 3, none⟩ = some (.int .u64 a0_3) ∧ w'.cell? ⟨gb522, 4, none⟩ = some (.int .i64 a0_4) ∧ w'.cell? (ad526.add (((ji10)).toNat * 5)) = some (.int .u64 ((rd_T32 l0_0 (ji10)).f0.f0.f0)) ∧ w'.cell? ⟨(ad526.add (((ji10)).toNat * 5)).block, (ad526.add (((ji10)).toNat * 5)).off + 1, none⟩ = some (.int .i64 ((rd_T32 l0_0 (ji10)).f0.f0.f1)) ∧ w'.cell? ⟨(ad526.add (((ji10)).toNat * 5)).block, (ad526.add (((ji10)).toNat * 5)).off + 2, none⟩ = some (.int .u64 ((rd_T32 l0_0 (ji10)).f0.f1)) ∧ w'.cell? ⟨(ad526.add (((ji10)).toNat * 5)).block, (ad526.add (((ji10)).toNat * 5)).off + 3, none⟩ = some (.int .i64 ((rd_T32 l0_0 (ji10)).f0.f2)) ∧ w'.cell? ⟨(ad526.add (((ji10)).toNat * 5)).block, (ad526.add (((ji10)).toNat * 5)).off + 4, none⟩ = some (.slice A529_4 ((rd_T32 l0_0 (ji10)).f1).length c529_4)) (ds := []) #[F_,F_,F_,F_,F_,F_,F_,F_,F_,F_,F_,F_,F_,F_,F_,F_,F_,F_,F_,F_] (by kernel_rfl) rfl rfl ⟨(blk_cell BK527.out 0).trans rfl, (blk_cell BK527.out 1).trans rfl, (blk_cell BK527.out 2).trans rfl, (blk_cell BK527.out 3).trans rfl, (blk_cell BK527.out 4).trans rfl, (blk_cell BK522.out 0).trans rfl, (blk_cell BK522.out 1).trans rfl, (blk_cell BK522.out 2).trans rfl, (blk_cell BK522.out 3).trans rfl, (blk_cell BK522.out 4).trans rfl, ((HB.out.cell (World.block_lt_of_cell? w _ hw529_0)).trans hw529_0), ((HB.out.cell (World.block_lt_of_cell? w _ hw529_1)).trans hw529_1), ((HB.out.cell (World.block_lt_of_cell? w _ hw529_2)).trans hw529_2), ((HB.out.cell (World.block_lt_of_cell? w _ hw529_3)).trans hw529_3), ((HB.out.cell (World.block_lt_of_cell? w _ hw529_4)).trans hw529_4)⟩ (fun hHeld => ?_); refine with_tabW content_Right.tab4 content_Right.bits4 (fun HT_ HW_ => ?_)
           generalize w25.drew = w26 at BK522 BK527 HB HR529_4 hx529_0 hx529_1 hx529_2 hx529_3 hx529_4 hHeld ⊢
           refine take_ (i := 0) (N := some 13) (v := ?_) (a' := ?_) #[T_,F_,F_,F_,F_,F_,F_,F_,F_,F_,F_,F_,F_,F_,F_,F_,F_,F_,F_,F_] rfl rfl (take_ofW HT_.out HW_.out (by kernel_rfl)) (fun _ _ _ h => h) (Or.inl ⟨by rfl, ?_⟩) hHeld ?_ ?_
           rotate_left
           ·
            rintro w' ⟨s0, s1, s2, s3, s4, s5, s6, s7, s8, s9, s10, s11, s12, s13, s14⟩
            go_simp
            with_reducible rfl
           rotate_left
           ·
            exact zp_
           refine one_ (i := 1) (N := some 14) #[T_,T_,F_,F_,F_,F_,F_,F_,F_,F_,F_,F_,F_,F_,F_,F_,F_,F_,F_,F_] rfl rfl (one_of HT_.out (by kernel_rfl)) (by decide) (fun K hK => ?_)
           refine goes_ Try.func49 (by kernel_rfl) rfl #[.agg #[.int .u64 ((rd_T32 l0_0 x8_1).f0.f0.f0), .int .i64 ((rd_T32 l0_0 x8_1).f0.f0.f1), .int .u64 ((rd_T32 l0_0 x8_1).f0.f1), .int .i64 ((rd_T32 l0_0 x8_1).f0.f2), .slice A526_4 ((rd_T32 l0_0 x8_1).f1).length c526_4]] (by rfl) rfl rfl za_ ?_
           with_reducible refine (content_Form.calls ((rd_T32 l0_0 x8_1).f0.f0.f0) ((rd_T32 l0_0 x8_1).f0.f0.f1) ((rd_T32 l0_0 x8_1).f0.f1) ((rd_T32 l0_0 x8_1).f0.f2) _ _ ((rd_T32 l0_0 x8_1).f1) true _ ?side1 ?side2 A7.out).mono ?_
           (case side1 => exact zc_ HR526_4 HB)
           (case side2 => exact HC526_4.out)
           rintro e w27 ⟨rfl, hb⟩
           refine ⟨_, rfl, ?_⟩
           have n0_ := zk_ BK522 hb
           have n1_ := zk_ BK527 hb
           have n2_ := Aside0.mk (below_step zb_ hb)
           clear BK522
           clear BK527
           clear HB
           have BK522 := n0_
           have BK527 := n1_
           have HB := n2_
           clear n0_ n1_ n2_
           (try clear hb)
           (try clear hb2)
           (try clear hk)
           (try clear hi)
           refine hK.out _ _ ⟨(blk_cell BK527.out 0).trans rfl, (blk_cell BK527.out 1).trans rfl, (blk_cell BK527.out 2).trans rfl, (blk_cell BK527.out 3).trans rfl, (blk_cell BK527.out 4).trans rfl, (blk_cell BK522.out 0).trans rfl, (blk_cell BK522.out 1).trans rfl, (blk_cell BK522.out 2).trans rfl, (blk_cell BK522.out 3).trans rfl, (blk_cell BK522.out 4).trans rfl, ((HB.out.cell (World.block_lt_of_cell? w _ hw529_0)).trans hw529_0), ((HB.out.cell (World.block_lt_of_cell? w _ hw529_1)).trans hw529_1), ((HB.out.cell (World.block_lt_of_cell? w _ hw529_2)).trans hw529_2), ((HB.out.cell (World.block_lt_of_cell? w _ hw529_3)).trans hw529_3), ((HB.out.cell (World.block_lt_of_cell? w _ hw529_4)).trans hw529_4)⟩ (fun hHeld => ?_)
           clear hK K
           refine norm_ (a' := ?_) ?_ ?_
           rotate_left
           ·
            show Act.put _ (some 14) _ = _
            simp only [Act.put, List.setIfInBounds_toArray, List.set_cons_zero, List.set_cons_succ, i64_w, i32_w]
            rfl
           refine pure_ (i := 2) (N := some 15) (v := ?_) (a' := ?_) #[T_,T_,T_,F_,F_,F_,F_,F_,F_,F_,F_,F_,F_,F_,F_,F_,F_,F_,F_,F_] rfl rfl (any_of HT_.out (by kernel_rfl)) (fun _ _ _ h => h) (Or.inl ⟨by rfl, ?_⟩) ?_ ?_
           rotate_left
           ·
            intro w'; go_simp; with_reducible rfl
           rotate_left
           ·
            exact zp_
           refine pure_ (i := 3) (N := some 16) (v := ?_) (a' := ?_) #[T_,T_,T_,T_,F_,F_,F_,F_,F_,F_,F_,F_,F_,F_,F_,F_,F_,F_,F_,F_] rfl rfl (any_of HT_.out (by kernel_rfl)) (fun _ _ _ h => h) (Or.inl ⟨by rfl, ?_⟩) ?_ ?_
           rotate_left
           ·
            intro w'; go_simp; with_reducible rfl
           rotate_left
           ·
            exact zp_
           refine pure_ (i := 4) (N := some 17) (v := ?_) (a' := ?_) #[T_,T_,T_,T_,T_,F_,F_,F_,F_,F_,F_,F_,F_,F_,F_,F_,F_,F_,F_,F_] rfl rfl (any_of HT_.out (by kernel_rfl)) (fun _ _ _ h => h) (Or.inl ⟨by rfl, ?_⟩) ?_ ?_
           rotate_left
           ·
            intro w'; go_simp; with_reducible rfl
           rotate_left
           ·
            exact zp_
           refine pure_ (i := 5) (N := some 18) (v := ?_) (a' := ?_) #[T_,T_,T_,T_,T_,T_,F_,F_,F_,F_,F_,F_,F_,F_,F_,F_,F_,F_,F_,F_] rfl rfl (any_of HT_.out (by kernel_rfl)) (fun _ _ _ h => h) (Or.inl ⟨by rfl, ?_⟩) ?_ ?_
           rotate_left
           ·
            intro w'; go_simp; with_reducible rfl
           rotate_left
           ·
            exact zp_
           refine pure_ (i := 6) (N := some 19) (v := ?_) (a' := ?_) #[T_,T_,T_,T_,T_,T_,T_,F_,F_,F_,F_,F_,F_,F_,F_,F_,F_,F_,F_,F_] rfl rfl (any_of HT_.out (by kernel_rfl)) (fun _ _ _ h => h) (Or.inl ⟨by rfl, ?_⟩) ?_ ?_
           rotate_left
           ·
            intro w'; go_simp; with_reducible rfl
           rotate_left
           ·
            exact zp_
           refine pure_ (i := 7) (N := some 20) (v := ?_) (a' := ?_) #[T_,T_,T_,T_,T_,T_,T_,T_,F_,F_,F_,F_,F_,F_,F_,F_,F_,F_,F_,F_] rfl rfl (any_of HT_.out (by kernel_rfl)) (fun _ _ _ h => h) (Or.inl ⟨by rfl, ?_⟩) ?_ ?_
           rotate_left
           ·
            intro w'; go_simp; with_reducible rfl
           rotate_left
           ·
            exact zp_
           refine pure_ (i := 9) (N := some 22) (v := ?_) (a' := ?_) #[T_,T_,T_,T_,T_,T_,T_,T_,F_,T_,F_,F_,F_,F_,F_,F_,F_,F_,F_,F_] rfl rfl (any_of HT_.out (by kernel_rfl)) (fun _ _ _ h => h) (Or.inl ⟨by rfl, ?_⟩) ?_ ?_
           rotate_left
           ·
            intro w'; go_simp; with_reducible rfl
           rotate_left
           ·
            exact zp_
           refine pure_ (i := 10) (N := some 23) (v := ?_) (a' := ?_) #[T_,T_,T_,T_,T_,T_,T_,T_,F_,T_,T_,F_,F_,F_,F_,F_,F_,F_,F_,F_] rfl rfl (any_of HT_.out (by kernel_rfl)) (fun _ _ _ h => h) (Or.inl ⟨by rfl, ?_⟩) ?_ ?_
           rotate_left
           ·
            intro w'; go_simp; with_reducible rfl
           rotate_left
           ·
            exact zp_
           refine pure_ (i := 14) (N := some 27) (v := ?_) (a' := ?_) #[T_,T_,T_,T_,T_,T_,T_,T_,F_,T_,T_,F_,F_,F_,T_,F_,F_,F_,F_,F_] rfl rfl (any_of HT_.out (by kernel_rfl)) (fun _ _ _ h => h) (Or.inl ⟨by rfl, ?_⟩) ?_ ?_
           rotate_left
           ·
            intro w'; go_simp; with_reducible rfl
           rotate_left
           ·
            exact zp_
           refine take_ (i := 8) (N := some 21) (v := ?_) (a' := ?_) #[T_,T_,T_,T_,T_,T_,T_,T_,T_,T_,T_,F_,F_,F_,T_,F_,F_,F_,F_,F_] rfl rfl (take_ofW HT_.out HW_.out (by kernel_rfl)) (fun _ _ _ h => h) (Or.inl ⟨by rfl, ?_⟩) hHeld ?_ ?_
           rotate_left
           ·
            rintro w' ⟨s0, s1, s2, s3, s4, s5, s6, s7, s8, s9, s10, s11, s12, s13, s14⟩
            go_simp
            with_reducible rfl
           rotate_left
           ·
            exact zp_
           refine pure_ (i := 11) (N := some 24) (v := ?_) (a' := ?_) #[T_,T_,T_,T_,T_,T_,T_,T_,T_,T_,T_,T_,F_,F_,T_,F_,F_,F_,F_,F_] rfl rfl (any_of HT_.out (by kernel_rfl)) (fun _ _ _ h => h) (Or.inl ⟨by rfl, ?_⟩) ?_ ?_
           rotate_left
           ·
            intro w'; go_simp; with_reducible rfl
           rotate_left
           ·
            exact zp_
           refine pure_ (i := 12) (N := some 25) (v := ?_) (a' := ?_) #[T_,T_,T_,T_,T_,T_,T_,T_,T_,T_,T_,T_,T_,F_,T_,F_,F_,F_,F_,F_] rfl rfl (any_of HT_.out (by kernel_rfl)) (fun _ _ _ h => h) (Or.inl ⟨by rfl, ?_⟩) ?_ ?_
           rotate_left
           ·
            intro w'; go_simp; with_reducible rfl
           rotate_left
           ·
            exact zp_
           refine take_ (i := 13) (N := some 26) (v := ?_) (a' := ?_) #[T_,T_,T_,T_,T_,T_,T_,T_,T_,T_,T_,T_,T_,T_,T_,F_,F_,F_,F_,F_] rfl rfl (take_ofW HT_.out HW_.out (by kernel_rfl)) (fun _ _ _ h => h) (Or.inl ⟨by rfl, ?_⟩) hHeld ?_ ?_
           rotate_left
           ·
            rintro w' ⟨s0, s1, s2, s3, s4, s5, s6, s7, s8, s9, s10, s11, s12, s13, s14⟩
            go_simp
            with_reducible rfl
           rotate_left
           ·
            exact zp_
           refine take_ (i := 15) (N := some 28) (v := ?_) (a' := ?_) #[T_,T_,T_,T_,T_,T_,T_,T_,T_,T_,T_,T_,T_,T_,T_,T_,F_,F_,F_,F_] rfl rfl (take_ofW HT_.out HW_.out (by kernel_rfl)) (fun _ _ _ h => h) (Or.inl ⟨by rfl, ?_⟩) hHeld ?_ ?_
           rotate_left
           ·
            rintro w' ⟨s0, s1, s2, s3, s4, s5, s6, s7, s8, s9, s10, s11, s12, s13, s14⟩
            go_simp
            with_reducible rfl
           rotate_left
           ·
            exact zp_
           refine one_ (i := 16) (N := some 29) #[T_,T_,T_,T_,T_,T_,T_,T_,T_,T_,T_,T_,T_,T_,T_,T_,T_,F_,F_,F_] rfl rfl (one_of HT_.out (by kernel_rfl)) (by decide) (fun K hK => ?_)
           refine goes_ Try.func42 (by kernel_rfl) rfl #[.agg #[.int .u64 ((rd_T32 l0_0 (ji10)).f0.f0.f0), .int .i64 ((rd_T32 l0_0 (ji10)).f0.f0.f1), .int .u64 ((rd_T32 l0_0 (ji10)).f0.f1), .int .i64 ((rd_T32 l0_0 (ji10)).f0.f2)], .agg #[.int .u64 ((rd_T32 l0_0 x8_1).f0.f0.f0), .int .i64 ((rd_T32 l0_0 x8_1).f0.f0.f1), .int .u64 ((rd_T32 l0_0 x8_1).f0.f1), .int .i64 ((rd_T32 l0_0 x8_1).f0.f2)]] (by rfl) rfl rfl (by (try simp only [List.map_toArray, List.map_cons, List.map_nil]); first | done | (simp only [hji10]; rfl) | rfl | (simp only [List.length_drop, List.length_take]; rfl)) ?_
           with_reducible refine (label_Compare.calls k1 ((rd_T32 l0_0 (ji10)).f0.f0.f0) ((rd_T32 l0_0 (ji10)).f0.f0.f1) ((rd_T32 l0_0 (ji10)).f0.f1) ((rd_T32 l0_0 (ji10)).f0.f2) ((rd_T32 l0_0 x8_1).f0.f0.f0) ((rd_T32 l0_0 x8_1).f0.f0.f1) ((rd_T32 l0_0 x8_1).f0.f1) ((rd_T32 l0_0 x8_1).f0.f2) t530 _ A13.out).mono ?_
           rintro e w28 ⟨rfl, hb⟩
           refine ⟨_, rfl, ?_⟩
           have n0_ := zk_ BK522 hb
           have n1_ := zk_ BK527 hb
           have n2_ := Aside0.mk (below_step zb_ hb)
           clear BK522
           clear BK527
           clear HB
           have BK522 := n0_
           have BK527 := n1_
           have HB := n2_
           clear n0_ n1_ n2_
           (try clear hb)
           (try clear hb2)
           (try clear hk)
           (try clear hi)
           refine hK.out _ _ ⟨(blk_cell BK527.out 0).trans rfl, (blk_cell BK527.out 1).trans rfl, (blk_cell BK527.out 2).trans rfl, (blk_cell BK527.out 3).trans rfl, (blk_cell BK527.out 4).trans rfl, (blk_cell BK522.out 0).trans rfl, (blk_cell BK522.out 1).trans rfl, (blk_cell BK522.out 2).trans rfl, (blk_cell BK522.out 3).trans rfl, (blk_cell BK522.out 4).trans rfl, ((HB.out.cell (World.block_lt_of_cell? w _ hw529_0)).trans hw529_0), ((HB.out.cell (World.block_lt_of_cell? w _ hw529_1)).trans hw529_1), ((HB.out.cell (World.block_lt_of_cell? w _ hw529_2)).trans hw529_2), ((HB.out.cell (World.block_lt_of_cell? w _ hw529_3)).trans hw529_3), ((HB.out.cell (World.block_lt_of_cell? w _ hw529_4)).trans hw529_4)⟩ (fun hHeld => ?_)
           clear hK K
           refine norm_ (a' := ?_) ?_ ?_
           rotate_left
           ·
            show Act.put _ (some 29) _ = _
            simp only [Act.put, List.setIfInBounds_toArray, List.set_cons_zero, List.set_cons_succ, i64_w, i32_w]
            rfl
           refine pure_ (i := 17) (N := some 30) (v := ?_) (a' := ?_) #[T_,T_,T_,T_,T_,T_,T_,T_,T_,T_,T_,T_,T_,T_,T_,T_,T_,T_,F_,F_] rfl rfl (any_of HT_.out (by kernel_rfl)) (fun _ _ _ h => h) (Or.inl ⟨by rfl, ?_⟩) ?_ ?_
           rotate_left
           ·
            intro w'; go_simp; with_reducible rfl
           rotate_left
           ·
            exact zp_
           refine pure_ (i := 18) (N := some 31) (v := ?_) (a' := ?_) #[T_,T_,T_,T_,T_,T_,T_,T_,T_,T_,T_,T_,T_,T_,T_,T_,T_,T_,T_,F_] rfl rfl (any_of HT_.out (by kernel_rfl)) (fun _ _ _ h => h) (Or.inl ⟨by rfl, ?_⟩) ?_ ?_
           rotate_left
           ·
            intro w'; go_simp; with_reducible rfl
           rotate_left
           ·
            exact zp_
           refine pure_ (i := 19) (N := some 32) (v := ?_) (a' := ?_) #[T_,T_,T_,T_,T_,T_,T_,T_,T_,T_,T_,T_,T_,T_,T_,T_,T_,T_,T_,T_] rfl rfl (any_of HT_.out (by kernel_rfl)) (fun _ _ _ h => h) (Or.inl ⟨by rfl, ?_⟩) ?_ ?_
           rotate_left
           ·
            intro w'; go_simp; with_reducible rfl
           rotate_left
           ·
            exact zp_
           refine done_ (done_of HT_.out (by kernel_rfl)) ?_
           (try clear hHeld); (try clear HS0_)
           try go_wp2
           go_roundg k1
           case measure => have := HK1.out; omega
           case rel => exact ⟨(wrap64 (x8_1 + 1)), (by first | rfl | (simp; done) | (simp [*]; done)), H', ⟨by have := HK1.out; omega⟩, ⟨by (with_reducible repeat (first | refine blk_drewN ?_ _ | refine blk_drew ?_ | refine blk_alloc ?_ _)); exact BK522.out⟩, ⟨by repeat (first | (with_reducible first | exact HB.out | apply below_alloc | apply pw_below_drewN | apply below_drew1 | refine below_set ?_ GE522.out | refine below_set ?_ GE527.out) | exact HB.out)⟩⟩
         ·
          rw [if_neg c12] at H
          exact absurd H (by simp)
        ·
         rw [if_neg c11] at H
         exact absurd H (by simp)
       ·
        rw [if_neg c9] at H
        have c9b0 : decide (0 < x8_1) = false := decide_eq_false c9
        clear c9
        have H' := Aside0.mk H
        clear H
        have p526 : 0 ≤ (x8_1 : Int) := of_decide_eq_true zs_
        have q526 : x8_1 < (l0_0.length : Int) := of_decide_eq_true zs_
        obtain ⟨ad526, A526_4, c526_4, e526, hx526_0, hx526_1, hx526_2, hx526_3, hx526_4, hl526_4, hi526_4⟩ := at_T32 HR0_0.out x8_1 p526 q526
        cases e526
        replace hx526_0 := (HB.out.cell (World.block_lt_of_cell? w _ hx526_0)).trans hx526_0
        replace hx526_1 := (HB.out.cell (World.block_lt_of_cell? w _ hx526_1)).trans hx526_1
        replace hx526_2 := (HB.out.cell (World.block_lt_of_cell? w _ hx526_2)).trans hx526_2
        replace hx526_3 := (HB.out.cell (World.block_lt_of_cell? w _ hx526_3)).trans hx526_3
        replace hx526_4 := (HB.out.cell (World.block_lt_of_cell? w _ hx526_4)).trans hx526_4
        have HR526_4 := Aside0.mk hi526_4
        have HC526_4 := Aside0.mk hl526_4
        clear hi526_4 hl526_4
        replace p526 := eq_true p526
        replace q526 := eq_true q526
        try go_wp2_with (first | ((with_reducible refine gate_dst (N := 4) rfl ?_); (try (refine gate_guard (by rfl) ?_; dsimp only)); refine box_event ?hg (N := 4) ?hd (cs := #[.int .u64 0, .int .i64 0, .int .u64 0, .int .i64 0, .slice none 0 0]) (t := 32) ?hr ?_; (case hd => rfl); (case hg => rfl); (case hr => first | (go_simp; done) | (go_simp; rfl)); intro gb527 hg w29 hbox hb; have n0_ := zk_ BK522 hb; have n1_ := Aside0.mk (below_step zb_ hb); have n2_ := Aside0.mk (hbox); have n3_ := Aside0.mk ((by rw [hg]; exact (below_size zb_) : w.heap.size ≤ gb527)); have n4_ := Aside0.mk ((by rw [hg]; exact (below_size zb_) : w.heap.size ≤ gb527)); have n5_ := Aside0.mk ((by rw [hg]; exact Nat.ne_of_lt (blk_lt (g := gb522) (o := .cells #[.slice (some ad526) l0_0.length c0_0, .slice A0_1 l0_1.length c0_1, .int .i64 a0_2, .int .u64 a0_3, .int .i64 a0_4] 53 (0, 0)) (by (with_reducible repeat (first | refine blk_drewN ?_ _ | refine blk_drew ?_ | refine blk_alloc ?_ _)); exact BK522.out)) : gb522 ≠ gb527)); have n6_ := Aside0.mk ((by rw [hg]; exact Nat.ne_of_gt (blk_lt (g := gb522) (o := .cells #[.slice (some ad526) l0_0.length c0_0, .slice A0_1 l0_1.length c0_1, .int .i64 a0_2, .int .u64 a0_3, .int .i64 a0_4] 53 (0, 0)) (by (with_reducible repeat (first | refine blk_drewN ?_ _ | refine blk_drew ?_ | refine blk_alloc ?_ _)); exact BK522.out)) : gb527 ≠ gb522)); clear BK522; clear HB; have BK522 := n0_; have HB := n1_; have BK527 := n2_; have GW527 := n3_; have GE527 := n4_; have NB522_527 := n5_; have NB527_522 := n6_; clear n0_ n1_ n2_ n3_ n4_ n5_ n6_; clear hb hbox hg; have hnb30 := NB527_522.out; have hnc30 := NB522_527.out; have hcz31_0 : w29.cell? ⟨gb527, 0, none⟩ = some (.int .u64 0) := (blk_cell BK527.out 0).trans rfl; have hcz31_1 : w29.cell? ⟨gb527, 1, none⟩ = some (.int .i64 0) := (blk_cell BK527.out 1).trans rfl; have hcz31_2 : w29.cell? ⟨gb527, 2, none⟩ = some (.int .u64 0) := (blk_cell BK527.out 2).trans rfl; have hcz31_3 : w29.cell? ⟨gb527, 3, none⟩ = some (.int .i64 0) := (blk_cell BK527.out 3).trans rfl; have hcz31_4 : w29.cell? ⟨gb527, 4, none⟩ = some (.slice none 0 0) := (blk_cell BK527.out 4).trans rfl; have hfz31_0 := blk_frozen BK527.out 0; have hfz31_1 := blk_frozen BK527.out 1; have hfz31_2 := blk_frozen BK527.out 2; have hfz31_3 := blk_frozen BK527.out 3; have hfz31_4 := blk_frozen BK527.out 4))
        have n0_ : Aside0 ((((((w29.setCell ⟨gb527, 0, none⟩ (.int .u64 ((rd_T32 l0_0 x8_1).f0.f0.f0))).setCell ⟨gb527, 1, none⟩ (.int .i64 ((rd_T32 l0_0 x8_1).f0.f0.f1))).setCell ⟨gb527, 2, none⟩ (.int .u64 ((rd_T32 l0_0 x8_1).f0.f1))).setCell ⟨gb527, 3, none⟩ (.int .i64 ((rd_T32 l0_0 x8_1).f0.f2))).setCell ⟨gb527, 4, none⟩ (.slice A526_4 ((rd_T32 l0_0 x8_1).f1).length c526_4)).heap[gb522]? = some (.cells #[.slice (some ad526) l0_0.length c0_0, .slice A0_1 l0_1.length c0_1, .int .i64 a0_2, .int .u64 a0_3, .int .i64 a0_4] 53 (0, 0))) := ⟨by (with_reducible repeat (first | refine blk_drewN ?_ _ | refine blk_drew ?_ | refine blk_alloc ?_ _)); refine blk_far ?_ NB522_527.out _; (with_reducible repeat (first | refine blk_drewN ?_ _ | refine blk_drew ?_ | refine blk_alloc ?_ _)); refine blk_far ?_ NB522_527.out _; (with_reducible repeat (first | refine blk_drewN ?_ _ | refine blk_drew ?_ | refine blk_alloc ?_ _)); refine blk_far ?_ NB522_527.out _; (with_reducible repeat (first | refine blk_drewN ?_ _ | refine blk_drew ?_ | refine blk_alloc ?_ _)); refine blk_far ?_ NB522_527.out _; (with_reducible repeat (first | refine blk_drewN ?_ _ | refine blk_drew ?_ | refine blk_alloc ?_ _)); refine blk_far ?_ NB522_527.out _; (with_reducible repeat (first | refine blk_drewN ?_ _ | refine blk_drew ?_ | refine blk_alloc ?_ _)); exact BK522.out⟩
        have n1_ : Aside0 ((((((w29.setCell ⟨gb527, 0, none⟩ (.int .u64 ((rd_T32 l0_0 x8_1).f0.f0.f0))).setCell ⟨gb527, 1, none⟩ (.int .i64 ((rd_T32 l0_0 x8_1).f0.f0.f1))).setCell ⟨gb527, 2, none⟩ (.int .u64 ((rd_T32 l0_0 x8_1).f0.f1))).setCell ⟨gb527, 3, none⟩ (.int .i64 ((rd_T32 l0_0 x8_1).f0.f2))).setCell ⟨gb527, 4, none⟩ (.slice A526_4 ((rd_T32 l0_0 x8_1).f1).length c526_4)).heap[gb527]? = some (.cells #[.int .u64 ((rd_T32 l0_0 x8_1).f0.f0.f0), .int .i64 ((rd_T32 l0_0 x8_1).f0.f0.f1), .int .u64 ((rd_T32 l0_0 x8_1).f0.f1), .int .i64 ((rd_T32 l0_0 x8_1).f0.f2), .slice A526_4 ((rd_T32 l0_0 x8_1).f1).length c526_4] 32 (0, 0))) := ⟨by (with_reducible repeat (first | refine blk_drewN ?_ _ | refine blk_drew ?_ | refine blk_alloc ?_ _)); refine blk_put (cs := #[.int .u64 ((rd_T32 l0_0 x8_1).f0.f0.f0), .int .i64 ((rd_T32 l0_0 x8_1).f0.f0.f1), .int .u64 ((rd_T32 l0_0 x8_1).f0.f1), .int .i64 ((rd_T32 l0_0 x8_1).f0.f2), .slice none 0 0]) ?_ 4 _ rfl; (with_reducible repeat (first | refine blk_drewN ?_ _ | refine blk_drew ?_ | refine blk_alloc ?_ _)); refine blk_put (cs := #[.int .u64 ((rd_T32 l0_0 x8_1).f0.f0.f0), .int .i64 ((rd_T32 l0_0 x8_1).f0.f0.f1), .int .u64 ((rd_T32 l0_0 x8_1).f0.f1), .int .i64 0, .slice none 0 0]) ?_ 3 _ rfl; (with_reducible repeat (first | refine blk_drewN ?_ _ | refine blk_drew ?_ | refine blk_alloc ?_ _)); refine blk_put (cs := #[.int .u64 ((rd_T32 l0_0 x8_1).f0.f0.f0), .int .i64 ((rd_T32 l0_0 x8_1).f0.f0.f1), .int .u64 0, .int .i64 0, .slice none 0 0]) ?_ 2 _ rfl; (with_reducible repeat (first | refine blk_drewN ?_ _ | refine blk_drew ?_ | refine blk_alloc ?_ _)); refine blk_put (cs := #[.int .u64 ((rd_T32 l0_0 x8_1).f0.f0.f0), .int .i64 0, .int .u64 0, .int .i64 0, .slice none 0 0]) ?_ 1 _ rfl; (with_reducible repeat (first | refine blk_drewN ?_ _ | refine blk_drew ?_ | refine blk_alloc ?_ _)); refine blk_put (cs := #[.int .u64 0, .int .i64 0, .int .u64 0, .int .i64 0, .slice none 0 0]) ?_ 0 _ rfl; (with_reducible repeat (first | refine blk_drewN ?_ _ | refine blk_drew ?_ | refine blk_alloc ?_ _)); exact BK527.out⟩
        have n2_ : Aside0 (Below w.heap.size w (((((w29.setCell ⟨gb527, 0, none⟩ (.int .u64 ((rd_T32 l0_0 x8_1).f0.f0.f0))).setCell ⟨gb527, 1, none⟩ (.int .i64 ((rd_T32 l0_0 x8_1).f0.f0.f1))).setCell ⟨gb527, 2, none⟩ (.int .u64 ((rd_T32 l0_0 x8_1).f0.f1))).setCell ⟨gb527, 3, none⟩ (.int .i64 ((rd_T32 l0_0 x8_1).f0.f2))).setCell ⟨gb527, 4, none⟩ (.slice A526_4 ((rd_T32 l0_0 x8_1).f1).length c526_4))) := ⟨by repeat (first | (with_reducible first | exact HB.out | apply below_alloc | apply pw_below_drewN | apply below_drew1 | refine below_set ?_ GE522.out | refine below_set ?_ GE527.out) | exact HB.out)⟩
        (try clear BK522)
        (try clear BK527)
        (try clear HB)
        generalize (((((w29.setCell ⟨gb527, 0, none⟩ (.int .u64 ((rd_T32 l0_0 x8_1).f0.f0.f0))).setCell ⟨gb527, 1, none⟩ (.int .i64 ((rd_T32 l0_0 x8_1).f0.f0.f1))).setCell ⟨gb527, 2, none⟩ (.int .u64 ((rd_T32 l0_0 x8_1).f0.f1))).setCell ⟨gb527, 3, none⟩ (.int .i64 ((rd_T32 l0_0 x8_1).f0.f2))).setCell ⟨gb527, 4, none⟩ (.slice A526_4 ((rd_T32 l0_0 x8_1).f1).length c526_4)) = w32 at n0_ n1_ n2_ ⊢
        have BK522 := n0_
        have BK527 := n1_
        have HB := n2_
        clear n0_ n1_ n2_
        have n0_ := Aside0.mk (blk_drew BK522.out)
        have n1_ := Aside0.mk (blk_drew BK527.out)
        have n2_ := Aside0.mk (below_drew1 HB.out)
        clear BK522
        clear BK527
        clear HB
        have BK522 := n0_
        have BK527 := n1_
        have HB := n2_
        clear n0_ n1_ n2_
        refine start_ (n := 20) (S := fun w' => w'.cell? ⟨gb527, 0, none⟩ = some (.int .u64 ((rd_T32 l0_0 x8_1).f0.f0.f0)) ∧ w'.cell? ⟨gb527, 1, none⟩ = some (.int .i64 ((rd_T32 l0_0 x8_1).f0.f0.f1)) ∧ w'.cell? ⟨gb527, 2, none⟩ = some (.int .u64 ((rd_T32 l0_0 x8_1).f0.f1)) ∧ w'.cell? ⟨gb527, 3, none⟩ = some (.int .i64 ((rd_T32 l0_0 x8_1).f0.f2)) ∧ w'.cell? ⟨gb527, 4, none⟩ = some (.slice A526_4 ((rd_T32 l0_0 x8_1).f1).length c526_4)) (ds := []) #[F_,F_,F_,F_,F_,F_,F_,F_,F_,F_,F_,F_,F_,F_,F_,F_,F_,F_,F_,F_] (by kernel_rfl) rfl rfl ⟨(blk_cell BK527.out 0).trans rfl, (blk_cell BK527.out 1).trans rfl, (blk_cell BK527.out 2).trans rfl, (blk_cell BK527.out 3).trans rfl, (blk_cell BK527.out 4).trans rfl⟩ (fun hHeld => ?_); refine with_tabW content_Right.tab4 content_Right.bits4 (fun HT_ HW_ => ?_)
        generalize w32.drew = w33 at BK522 BK527 HB hHeld ⊢
        refine take_ (i := 0) (N := some 13) (v := ?_) (a' := ?_) #[T_,F_,F_,F_,F_,F_,F_,F_,F_,F_,F_,F_,F_,F_,F_,F_,F_,F_,F_,F_] rfl rfl (take_ofW HT_.out HW_.out (by kernel_rfl)) (fun _ _ _ h => h) (Or.inl ⟨by rfl, ?_⟩) hHeld ?_ ?_
        rotate_left
        ·
         rintro w' ⟨s0, s1, s2, s3, s4⟩
         go_simp
         with_reducible rfl
        rotate_left
        ·
         exact zp_
        refine one_ (i := 1) (N := some 14) #[T_,T_,F_,F_,F_,F_,F_,F_,F_,F_,F_,F_,F_,F_,F_,F_,F_,F_,F_,F_] rfl rfl (one_of HT_.out (by kernel_rfl)) (by decide) (fun K hK => ?_)
        refine goes_ Try.func49 (by kernel_rfl) rfl #[.agg #[.int .u64 ((rd_T32 l0_0 x8_1).f0.f0.f0), .int .i64 ((rd_T32 l0_0 x8_1).f0.f0.f1), .int .u64 ((rd_T32 l0_0 x8_1).f0.f1), .int .i64 ((rd_T32 l0_0 x8_1).f0.f2), .slice A526_4 ((rd_T32 l0_0 x8_1).f1).length c526_4]] (by rfl) rfl rfl za_ ?_
        with_reducible refine (content_Form.calls ((rd_T32 l0_0 x8_1).f0.f0.f0) ((rd_T32 l0_0 x8_1).f0.f0.f1) ((rd_T32 l0_0 x8_1).f0.f1) ((rd_T32 l0_0 x8_1).f0.f2) _ _ ((rd_T32 l0_0 x8_1).f1) true _ ?side1 ?side2 A7.out).mono ?_
        (case side1 => exact zc_ HR526_4 HB)
        (case side2 => exact HC526_4.out)
        rintro e w34 ⟨rfl, hb⟩
        refine ⟨_, rfl, ?_⟩
        have n0_ := zk_ BK522 hb
        have n1_ := zk_ BK527 hb
        have n2_ := Aside0.mk (below_step zb_ hb)
        clear BK522
        clear BK527
        clear HB
        have BK522 := n0_
        have BK527 := n1_
        have HB := n2_
        clear n0_ n1_ n2_
        (try clear hb)
        (try clear hb2)
        (try clear hk)
        (try clear hi)
        refine hK.out _ _ ⟨(blk_cell BK527.out 0).trans rfl, (blk_cell BK527.out 1).trans rfl, (blk_cell BK527.out 2).trans rfl, (blk_cell BK527.out 3).trans rfl, (blk_cell BK527.out 4).trans rfl⟩ (fun hHeld => ?_)
        clear hK K
        refine norm_ (a' := ?_) ?_ ?_
        rotate_left
        ·
         show Act.put _ (some 14) _ = _
         simp only [Act.put, List.setIfInBounds_toArray, List.set_cons_zero, List.set_cons_succ, i64_w, i32_w]
         rfl
        refine pure_ (i := 2) (N := some 15) (v := ?_) (a' := ?_) #[T_,T_,T_,F_,F_,F_,F_,F_,F_,F_,F_,F_,F_,F_,F_,F_,F_,F_,F_,F_] rfl rfl (any_of HT_.out (by kernel_rfl)) (fun _ _ _ h => h) (Or.inl ⟨by rfl, ?_⟩) ?_ ?_
        rotate_left
        ·
         intro w'; go_simp; with_reducible rfl
        rotate_left
        ·
         exact zp_
        refine pure_ (i := 3) (N := some 16) (v := ?_) (a' := ?_) #[T_,T_,T_,T_,F_,F_,F_,F_,F_,F_,F_,F_,F_,F_,F_,F_,F_,F_,F_,F_] rfl rfl (any_of HT_.out (by kernel_rfl)) (fun _ _ _ h => h) (Or.inl ⟨by rfl, ?_⟩) ?_ ?_
        rotate_left
        ·
         intro w'; go_simp; with_reducible rfl
        rotate_left
        ·
         exact zp_
        refine pure_ (i := 4) (N := some 17) (v := ?_) (a' := ?_) #[T_,T_,T_,T_,T_,F_,F_,F_,F_,F_,F_,F_,F_,F_,F_,F_,F_,F_,F_,F_] rfl rfl (any_of HT_.out (by kernel_rfl)) (fun _ _ _ h => h) (Or.inl ⟨by rfl, ?_⟩) ?_ ?_
        rotate_left
        ·
         intro w'; go_simp; with_reducible rfl
        rotate_left
        ·
         exact zp_
        refine pure_ (i := 5) (N := some 18) (v := ?_) (a' := ?_) #[T_,T_,T_,T_,T_,T_,F_,F_,F_,F_,F_,F_,F_,F_,F_,F_,F_,F_,F_,F_] rfl rfl (any_of HT_.out (by kernel_rfl)) (fun _ _ _ h => h) (Or.inl ⟨by rfl, ?_⟩) ?_ ?_
        rotate_left
        ·
         intro w'; go_simp; with_reducible rfl
        rotate_left
        ·
         exact zp_
        refine pure_ (i := 6) (N := some 19) (v := ?_) (a' := ?_) #[T_,T_,T_,T_,T_,T_,T_,F_,F_,F_,F_,F_,F_,F_,F_,F_,F_,F_,F_,F_] rfl rfl (any_of HT_.out (by kernel_rfl)) (fun _ _ _ h => h) (Or.inl ⟨by rfl, ?_⟩) ?_ ?_
        rotate_left
        ·
         intro w'; go_simp; with_reducible rfl
        rotate_left
        ·
         exact zp_
        refine pure_ (i := 7) (N := some 20) (v := undef) (a' := ?_) #[T_,T_,T_,T_,T_,T_,T_,T_,F_,F_,F_,F_,F_,F_,F_,F_,F_,F_,F_,F_] rfl rfl (any_of HT_.out (by kernel_rfl)) (fun _ _ _ h => h) (Or.inr ⟨by rfl, rfl⟩) ?_ ?_
        rotate_left
        ·
         exact zp_
        refine pure_ (i := 8) (N := some 21) (v := undef) (a' := ?_) #[T_,T_,T_,T_,T_,T_,T_,T_,T_,F_,F_,F_,F_,F_,F_,F_,F_,F_,F_,F_] rfl rfl (any_of HT_.out (by kernel_rfl)) (fun _ _ _ h => h) (Or.inr ⟨by rfl, rfl⟩) ?_ ?_
        rotate_left
        ·
         exact zp_
        refine pure_ (i := 9) (N := some 22) (v := undef) (a' := ?_) #[T_,T_,T_,T_,T_,T_,T_,T_,T_,T_,F_,F_,F_,F_,F_,F_,F_,F_,F_,F_] rfl rfl (any_of HT_.out (by kernel_rfl)) (fun _ _ _ h => h) (Or.inr ⟨by rfl, rfl⟩) ?_ ?_
        rotate_left
        ·
         exact zp_
        refine pure_ (i := 10) (N := some 23) (v := undef) (a' := ?_) #[T_,T_,T_,T_,T_,T_,T_,T_,T_,T_,T_,F_,F_,F_,F_,F_,F_,F_,F_,F_] rfl rfl (any_of HT_.out (by kernel_rfl)) (fun _ _ _ h => h) (Or.inr ⟨by rfl, rfl⟩) ?_ ?_
        rotate_left
        ·
         exact zp_
        refine pure_ (i := 11) (N := some 24) (v := undef) (a' := ?_) #[T_,T_,T_,T_,T_,T_,T_,T_,T_,T_,T_,T_,F_,F_,F_,F_,F_,F_,F_,F_] rfl rfl (any_of HT_.out (by kernel_rfl)) (fun _ _ _ h => h) (Or.inr ⟨by rfl, rfl⟩) ?_ ?_
        rotate_left
        ·
         exact zp_
        refine pure_ (i := 12) (N := some 25) (v := undef) (a' := ?_) #[T_,T_,T_,T_,T_,T_,T_,T_,T_,T_,T_,T_,T_,F_,F_,F_,F_,F_,F_,F_] rfl rfl (any_of HT_.out (by kernel_rfl)) (fun _ _ _ h => h) (Or.inr ⟨by rfl, rfl⟩) ?_ ?_
        rotate_left
        ·
         exact zp_
        refine pure_ (i := 13) (N := some 26) (v := undef) (a' := ?_) #[T_,T_,T_,T_,T_,T_,T_,T_,T_,T_,T_,T_,T_,T_,F_,F_,F_,F_,F_,F_] rfl rfl (any_of HT_.out (by kernel_rfl)) (fun _ _ _ h => h) (Or.inr ⟨by rfl, rfl⟩) ?_ ?_
        rotate_left
        ·
         exact zp_
        refine pure_ (i := 14) (N := some 27) (v := undef) (a' := ?_) #[T_,T_,T_,T_,T_,T_,T_,T_,T_,T_,T_,T_,T_,T_,T_,F_,F_,F_,F_,F_] rfl rfl (any_of HT_.out (by kernel_rfl)) (fun _ _ _ h => h) (Or.inr ⟨by rfl, rfl⟩) ?_ ?_
        rotate_left
        ·
         exact zp_
        refine pure_ (i := 15) (N := some 28) (v := undef) (a' := ?_) #[T_,T_,T_,T_,T_,T_,T_,T_,T_,T_,T_,T_,T_,T_,T_,T_,F_,F_,F_,F_] rfl rfl (any_of HT_.out (by kernel_rfl)) (fun _ _ _ h => h) (Or.inr ⟨by rfl, rfl⟩) ?_ ?_
        rotate_left
        ·
         exact zp_
        refine pure_ (i := 16) (N := some 29) (v := undef) (a' := ?_) #[T_,T_,T_,T_,T_,T_,T_,T_,T_,T_,T_,T_,T_,T_,T_,T_,T_,F_,F_,F_] rfl rfl (any_of HT_.out (by kernel_rfl)) (fun _ _ _ h => h) (Or.inr ⟨by rfl, rfl⟩) ?_ ?_
        rotate_left
        ·
         exact zp_
        refine pure_ (i := 17) (N := some 30) (v := undef) (a' := ?_) #[T_,T_,T_,T_,T_,T_,T_,T_,T_,T_,T_,T_,T_,T_,T_,T_,T_,T_,F_,F_] rfl rfl (any_of HT_.out (by kernel_rfl)) (fun _ _ _ h => h) (Or.inr ⟨by rfl, rfl⟩) ?_ ?_
        rotate_left
        ·
         exact zp_
        refine pure_ (i := 18) (N := some 31) (v := ?_) (a' := ?_) #[T_,T_,T_,T_,T_,T_,T_,T_,T_,T_,T_,T_,T_,T_,T_,T_,T_,T_,T_,F_] rfl rfl (any_of HT_.out (by kernel_rfl)) (fun _ _ _ h => h) (Or.inl ⟨by rfl, ?_⟩) ?_ ?_
        rotate_left
        ·
         intro w'; go_simp; with_reducible rfl
        rotate_left
        ·
         exact zp_
        refine pure_ (i := 19) (N := some 32) (v := ?_) (a' := ?_) #[T_,T_,T_,T_,T_,T_,T_,T_,T_,T_,T_,T_,T_,T_,T_,T_,T_,T_,T_,T_] rfl rfl (any_of HT_.out (by kernel_rfl)) (fun _ _ _ h => h) (Or.inl ⟨by rfl, ?_⟩) ?_ ?_
        rotate_left
        ·
         intro w'; go_simp; with_reducible rfl
        rotate_left
        ·
         exact zp_
        refine done_ (done_of HT_.out (by kernel_rfl)) ?_
        (try clear hHeld); (try clear HS0_)
        try go_wp2
        go_roundg k1
        case measure => have := HK1.out; omega
        case rel => exact ⟨(wrap64 (x8_1 + 1)), (by first | rfl | (simp; done) | (simp [*]; done)), H', ⟨by have := HK1.out; omega⟩, ⟨by (with_reducible repeat (first | refine blk_drewN ?_ _ | refine blk_drew ?_ | refine blk_alloc ?_ _)); exact BK522.out⟩, ⟨by repeat (first | (with_reducible first | exact HB.out | apply below_alloc | apply pw_below_drewN | apply below_drew1 | refine below_set ?_ GE522.out | refine below_set ?_ GE527.out) | exact HB.out)⟩⟩
      ·
       replace c8 := Bool.eq_false_iff.mpr c8
       subst c8
       have H1 : (some false) = some r := by rw [if_neg (show ¬ (false = true) by decide)] at H; exact H
       clear H
       have H := H1
       clear H1
       obtain rfl := Option.some.inj H
       have p526 : 0 ≤ (x8_1 : Int) := of_decide_eq_true zs_
       have q526 : x8_1 < (l0_0.length : Int) := of_decide_eq_true zs_
       obtain ⟨ad526, A526_4, c526_4, e526, hx526_0, hx526_1, hx526_2, hx526_3, hx526_4, hl526_4, hi526_4⟩ := at_T32 HR0_0.out x8_1 p526 q526
       cases e526
       replace hx526_0 := (HB.out.cell (World.block_lt_of_cell? w _ hx526_0)).trans hx526_0
       replace hx526_1 := (HB.out.cell (World.block_lt_of_cell? w _ hx526_1)).trans hx526_1
       replace hx526_2 := (HB.out.cell (World.block_lt_of_cell? w _ hx526_2)).trans hx526_2
       replace hx526_3 := (HB.out.cell (World.block_lt_of_cell? w _ hx526_3)).trans hx526_3
       replace hx526_4 := (HB.out.cell (World.block_lt_of_cell? w _ hx526_4)).trans hx526_4
       have HR526_4 := Aside0.mk hi526_4
       have HC526_4 := Aside0.mk hl526_4
       clear hi526_4 hl526_4
       replace p526 := eq_true p526
       replace q526 := eq_true q526
       try go_wp2_with (first | ((with_reducible refine gate_dst (N := 4) rfl ?_); (try (refine gate_guard (by rfl) ?_; dsimp only)); refine box_event ?hg (N := 4) ?hd (cs := #[.int .u64 0, .int .i64 0, .int .u64 0, .int .i64 0, .slice none 0 0]) (t := 32) ?hr ?_; (case hd => rfl); (case hg => rfl); (case hr => first | (go_simp; done) | (go_simp; rfl)); intro gb527 hg w35 hbox hb; have n0_ := zk_ BK522 hb; have n1_ := Aside0.mk (below_step zb_ hb); have n2_ := Aside0.mk (hbox); have n3_ := Aside0.mk ((by rw [hg]; exact (below_size zb_) : w.heap.size ≤ gb527)); have n4_ := Aside0.mk ((by rw [hg]; exact (below_size zb_) : w.heap.size ≤ gb527)); have n5_ := Aside0.mk ((by rw [hg]; exact Nat.ne_of_lt (blk_lt (g := gb522) (o := .cells #[.slice (some ad526) l0_0.length c0_0, .slice A0_1 l0_1.length c0_1, .int .i64 a0_2, .int .u64 a0_3, .int .i64 a0_4] 53 (0, 0)) (by (with_reducible repeat (first | refine blk_drewN ?_ _ | refine blk_drew ?_ | refine blk_alloc ?_ _)); exact BK522.out)) : gb522 ≠ gb527)); have n6_ := Aside0.mk ((by rw [hg]; exact Nat.ne_of_gt (blk_lt (g := gb522) (o := .cells #[.slice (some ad526) l0_0.length c0_0, .slice A0_1 l0_1.length c0_1, .int .i64 a0_2, .int .u64 a0_3, .int .i64 a0_4] 53 (0, 0)) (by (with_reducible repeat (first | refine blk_drewN ?_ _ | refine blk_drew ?_ | refine blk_alloc ?_ _)); exact BK522.out)) : gb527 ≠ gb522)); clear BK522; clear HB; have BK522 := n0_; have HB := n1_; have BK527 := n2_; have GW527 := n3_; have GE527 := n4_; have NB522_527 := n5_; have NB527_522 := n6_; clear n0_ n1_ n2_ n3_ n4_ n5_ n6_; clear hb hbox hg; have hnb36 := NB527_522.out; have hnc36 := NB522_527.out; have hcz37_0 : w35.cell? ⟨gb527, 0, none⟩ = some (.int .u64 0) := (blk_cell BK527.out 0).trans rfl; have hcz37_1 : w35.cell? ⟨gb527, 1, none⟩ = some (.int .i64 0) := (blk_cell BK527.out 1).trans rfl; have hcz37_2 : w35.cell? ⟨gb527, 2, none⟩ = some (.int .u64 0) := (blk_cell BK527.out 2).trans rfl; have hcz37_3 : w35.cell? ⟨gb527, 3, none⟩ = some (.int .i64 0) := (blk_cell BK527.out 3).trans rfl; have hcz37_4 : w35.cell? ⟨gb527, 4, none⟩ = some (.slice none 0 0) := (blk_cell BK527.out 4).trans rfl; have hfz37_0 := blk_frozen BK527.out 0; have hfz37_1 := blk_frozen BK527.out 1; have hfz37_2 := blk_frozen BK527.out 2; have hfz37_3 := blk_frozen BK527.out 3; have hfz37_4 := blk_frozen BK527.out 4))
       have n0_ : Aside0 ((((((w35.setCell ⟨gb527, 0, none⟩ (.int .u64 ((rd_T32 l0_0 x8_1).f0.f0.f0))).setCell ⟨gb527, 1, none⟩ (.int .i64 ((rd_T32 l0_0 x8_1).f0.f0.f1))).setCell ⟨gb527, 2, none⟩ (.int .u64 ((rd_T32 l0_0 x8_1).f0.f1))).setCell ⟨gb527, 3, none⟩ (.int .i64 ((rd_T32 l0_0 x8_1).f0.f2))).setCell ⟨gb527, 4, none⟩ (.slice A526_4 ((rd_T32 l0_0 x8_1).f1).length c526_4)).heap[gb522]? = some (.cells #[.slice (some ad526) l0_0.length c0_0, .slice A0_1 l0_1.length c0_1, .int .i64 a0_2, .int .u64 a0_3, .int .i64 a0_4] 53 (0, 0))) := ⟨by (with_reducible repeat (first | refine blk_drewN ?_ _ | refine blk_drew ?_ | refine blk_alloc ?_ _)); refine blk_far ?_ NB522_527.out _; (with_reducible repeat (first | refine blk_drewN ?_ _ | refine blk_drew ?_ | refine blk_alloc ?_ _)); refine blk_far ?_ NB522_527.out _; (with_reducible repeat (first | refine blk_drewN ?_ _ | refine blk_drew ?_ | refine blk_alloc ?_ _)); refine blk_far ?_ NB522_527.out _; (with_reducible repeat (first | refine blk_drewN ?_ _ | refine blk_drew ?_ | refine blk_alloc ?_ _)); refine blk_far ?_ NB522_527.out _; (with_reducible repeat (first | refine blk_drewN ?_ _ | refine blk_drew ?_ | refine blk_alloc ?_ _)); refine blk_far ?_ NB522_527.out _; (with_reducible repeat (first | refine blk_drewN ?_ _ | refine blk_drew ?_ | refine blk_alloc ?_ _)); exact BK522.out⟩
       have n1_ : Aside0 ((((((w35.setCell ⟨gb527, 0, none⟩ (.int .u64 ((rd_T32 l0_0 x8_1).f0.f0.f0))).setCell ⟨gb527, 1, none⟩ (.int .i64 ((rd_T32 l0_0 x8_1).f0.f0.f1))).setCell ⟨gb527, 2, none⟩ (.int .u64 ((rd_T32 l0_0 x8_1).f0.f1))).setCell ⟨gb527, 3, none⟩ (.int .i64 ((rd_T32 l0_0 x8_1).f0.f2))).setCell ⟨gb527, 4, none⟩ (.slice A526_4 ((rd_T32 l0_0 x8_1).f1).length c526_4)).heap[gb527]? = some (.cells #[.int .u64 ((rd_T32 l0_0 x8_1).f0.f0.f0), .int .i64 ((rd_T32 l0_0 x8_1).f0.f0.f1), .int .u64 ((rd_T32 l0_0 x8_1).f0.f1), .int .i64 ((rd_T32 l0_0 x8_1).f0.f2), .slice A526_4 ((rd_T32 l0_0 x8_1).f1).length c526_4] 32 (0, 0))) := ⟨by (with_reducible repeat (first | refine blk_drewN ?_ _ | refine blk_drew ?_ | refine blk_alloc ?_ _)); refine blk_put (cs := #[.int .u64 ((rd_T32 l0_0 x8_1).f0.f0.f0), .int .i64 ((rd_T32 l0_0 x8_1).f0.f0.f1), .int .u64 ((rd_T32 l0_0 x8_1).f0.f1), .int .i64 ((rd_T32 l0_0 x8_1).f0.f2), .slice none 0 0]) ?_ 4 _ rfl; (with_reducible repeat (first | refine blk_drewN ?_ _ | refine blk_drew ?_ | refine blk_alloc ?_ _)); refine blk_put (cs := #[.int .u64 ((rd_T32 l0_0 x8_1).f0.f0.f0), .int .i64 ((rd_T32 l0_0 x8_1).f0.f0.f1), .int .u64 ((rd_T32 l0_0 x8_1).f0.f1), .int .i64 0, .slice none 0 0]) ?_ 3 _ rfl; (with_reducible repeat (first | refine blk_drewN ?_ _ | refine blk_drew ?_ | refine blk_alloc ?_ _)); refine blk_put (cs := #[.int .u64 ((rd_T32 l0_0 x8_1).f0.f0.f0), .int .i64 ((rd_T32 l0_0 x8_1).f0.f0.f1), .int .u64 0, .int .i64 0, .slice none 0 0]) ?_ 2 _ rfl; (with_reducible repeat (first | refine blk_drewN ?_ _ | refine blk_drew ?_ | refine blk_alloc ?_ _)); refine blk_put (cs := #[.int .u64 ((rd_T32 l0_0 x8_1).f0.f0.f0), .int .i64 0, .int .u64 0, .int .i64 0, .slice none 0 0]) ?_ 1 _ rfl; (with_reducible repeat (first | refine blk_drewN ?_ _ | refine blk_drew ?_ | refine blk_alloc ?_ _)); refine blk_put (cs := #[.int .u64 0, .int .i64 0, .int .u64 0, .int .i64 0, .slice none 0 0]) ?_ 0 _ rfl; (with_reducible repeat (first | refine blk_drewN ?_ _ | refine blk_drew ?_ | refine blk_alloc ?_ _)); exact BK527.out⟩
       have n2_ : Aside0 (Below w.heap.size w (((((w35.setCell ⟨gb527, 0, none⟩ (.int .u64 ((rd_T32 l0_0 x8_1).f0.f0.f0))).setCell ⟨gb527, 1, none⟩ (.int .i64 ((rd_T32 l0_0 x8_1).f0.f0.f1))).setCell ⟨gb527, 2, none⟩ (.int .u64 ((rd_T32 l0_0 x8_1).f0.f1))).setCell ⟨gb527, 3, none⟩ (.int .i64 ((rd_T32 l0_0 x8_1).f0.f2))).setCell ⟨gb527, 4, none⟩ (.slice A526_4 ((rd_T32 l0_0 x8_1).f1).length c526_4))) := ⟨by repeat (first | (with_reducible first | exact HB.out | apply below_alloc | apply pw_below_drewN | apply below_drew1 | refine below_set ?_ GE522.out | refine below_set ?_ GE527.out) | exact HB.out)⟩
       (try clear BK522)
       (try clear BK527)
       (try clear HB)
       generalize (((((w35.setCell ⟨gb527, 0, none⟩ (.int .u64 ((rd_T32 l0_0 x8_1).f0.f0.f0))).setCell ⟨gb527, 1, none⟩ (.int .i64 ((rd_T32 l0_0 x8_1).f0.f0.f1))).setCell ⟨gb527, 2, none⟩ (.int .u64 ((rd_T32 l0_0 x8_1).f0.f1))).setCell ⟨gb527, 3, none⟩ (.int .i64 ((rd_T32 l0_0 x8_1).f0.f2))).setCell ⟨gb527, 4, none⟩ (.slice A526_4 ((rd_T32 l0_0 x8_1).f1).length c526_4)) = w38 at n0_ n1_ n2_ ⊢
       have BK522 := n0_
       have BK527 := n1_
       have HB := n2_
       clear n0_ n1_ n2_
       have n0_ := Aside0.mk (blk_drew BK522.out)
       have n1_ := Aside0.mk (blk_drew BK527.out)
       have n2_ := Aside0.mk (below_drew1 HB.out)
       clear BK522
       clear BK527
       clear HB
       have BK522 := n0_
       have BK527 := n1_
       have HB := n2_
       clear n0_ n1_ n2_
       refine start_ (n := 20) (S := fun w' => w'.cell? ⟨gb527, 0, none⟩ = some (.int .u64 ((rd_T32 l0_0 x8_1).f0.f0.f0)) ∧ w'.cell? ⟨gb527, 1, none⟩ = some (.int .i64 ((rd_T32 l0_0 x8_1).f0.f0.f1)) ∧ w'.cell? ⟨gb527, 2, none⟩ = some (.int .u64 ((rd_T32 l0_0 x8_1).f0.f1)) ∧ w'.cell? ⟨gb527, 3, none⟩ = some (.int .i64 ((rd_T32 l0_0 x8_1).f0.f2)) ∧ w'.cell? ⟨gb527, 4, none⟩ = some (.slice A526_4 ((rd_T32 l0_0 x8_1).f1).length c526_4)) (ds := []) #[F_,F_,F_,F_,F_,F_,F_,F_,F_,F_,F_,F_,F_,F_,F_,F_,F_,F_,F_,F_] (by kernel_rfl) rfl rfl ⟨(blk_cell BK527.out 0).trans rfl, (blk_cell BK527.out 1).trans rfl, (blk_cell BK527.out 2).trans rfl, (blk_cell BK527.out 3).trans rfl, (blk_cell BK527.out 4).trans rfl⟩ (fun hHeld => ?_); refine with_tabW content_Right.tab4 content_Right.bits4 (fun HT_ HW_ => ?_)
       generalize w38.drew = w39 at BK522 BK527 HB hHeld ⊢
       refine take_ (i := 0) (N := some 13) (v := ?_) (a' := ?_) #[T_,F_,F_,F_,F_,F_,F_,F_,F_,F_,F_,F_,F_,F_,F_,F_,F_,F_,F_,F_] rfl rfl (take_ofW HT_.out HW_.out (by kernel_rfl)) (fun _ _ _ h => h) (Or.inl ⟨by rfl, ?_⟩) hHeld ?_ ?_
       rotate_left
       ·
        rintro w' ⟨s0, s1, s2, s3, s4⟩
        go_simp
        with_reducible rfl
       rotate_left
       ·
        exact zp_
       refine one_ (i := 1) (N := some 14) #[T_,T_,F_,F_,F_,F_,F_,F_,F_,F_,F_,F_,F_,F_,F_,F_,F_,F_,F_,F_] rfl rfl (one_of HT_.out (by kernel_rfl)) (by decide) (fun K hK => ?_)
       refine goes_ Try.func49 (by kernel_rfl) rfl #[.agg #[.int .u64 ((rd_T32 l0_0 x8_1).f0.f0.f0), .int .i64 ((rd_T32 l0_0 x8_1).f0.f0.f1), .int .u64 ((rd_T32 l0_0 x8_1).f0.f1), .int .i64 ((rd_T32 l0_0 x8_1).f0.f2), .slice A526_4 ((rd_T32 l0_0 x8_1).f1).length c526_4]] (by rfl) rfl rfl za_ ?_
       with_reducible refine (content_Form.calls ((rd_T32 l0_0 x8_1).f0.f0.f0) ((rd_T32 l0_0 x8_1).f0.f0.f1) ((rd_T32 l0_0 x8_1).f0.f1) ((rd_T32 l0_0 x8_1).f0.f2) _ _ ((rd_T32 l0_0 x8_1).f1) false _ ?side1 ?side2 A7.out).mono ?_
       (case side1 => exact zc_ HR526_4 HB)
       (case side2 => exact HC526_4.out)
       rintro e w40 ⟨rfl, hb⟩
       refine ⟨_, rfl, ?_⟩
       have n0_ := zk_ BK522 hb
       have n1_ := zk_ BK527 hb
       have n2_ := Aside0.mk (below_step zb_ hb)
       clear BK522
       clear BK527
       clear HB
       have BK522 := n0_
       have BK527 := n1_
       have HB := n2_
       clear n0_ n1_ n2_
       (try clear hb)
       (try clear hb2)
       (try clear hk)
       (try clear hi)
       refine hK.out _ _ ⟨(blk_cell BK527.out 0).trans rfl, (blk_cell BK527.out 1).trans rfl, (blk_cell BK527.out 2).trans rfl, (blk_cell BK527.out 3).trans rfl, (blk_cell BK527.out 4).trans rfl⟩ (fun hHeld => ?_)
       clear hK K
       refine norm_ (a' := ?_) ?_ ?_
       rotate_left
       ·
        show Act.put _ (some 14) _ = _
        simp only [Act.put, List.setIfInBounds_toArray, List.set_cons_zero, List.set_cons_succ, i64_w, i32_w]
        rfl
       refine pure_ (i := 2) (N := some 15) (v := ?_) (a' := ?_) #[T_,T_,T_,F_,F_,F_,F_,F_,F_,F_,F_,F_,F_,F_,F_,F_,F_,F_,F_,F_] rfl rfl (any_of HT_.out (by kernel_rfl)) (fun _ _ _ h => h) (Or.inl ⟨by rfl, ?_⟩) ?_ ?_
       rotate_left
       ·
        intro w'; go_simp; with_reducible rfl
       rotate_left
       ·
        exact zp_
       refine pure_ (i := 3) (N := some 16) (v := ?_) (a' := ?_) #[T_,T_,T_,T_,F_,F_,F_,F_,F_,F_,F_,F_,F_,F_,F_,F_,F_,F_,F_,F_] rfl rfl (any_of HT_.out (by kernel_rfl)) (fun _ _ _ h => h) (Or.inl ⟨by rfl, ?_⟩) ?_ ?_
       rotate_left
       ·
        intro w'; go_simp; with_reducible rfl
       rotate_left
       ·
        exact zp_
       refine pure_ (i := 4) (N := some 17) (v := undef) (a' := ?_) #[T_,T_,T_,T_,T_,F_,F_,F_,F_,F_,F_,F_,F_,F_,F_,F_,F_,F_,F_,F_] rfl rfl (any_of HT_.out (by kernel_rfl)) (fun _ _ _ h => h) (Or.inr ⟨by rfl, rfl⟩) ?_ ?_
       rotate_left
       ·
        exact zp_
       refine pure_ (i := 5) (N := some 18) (v := undef) (a' := ?_) #[T_,T_,T_,T_,T_,T_,F_,F_,F_,F_,F_,F_,F_,F_,F_,F_,F_,F_,F_,F_] rfl rfl (any_of HT_.out (by kernel_rfl)) (fun _ _ _ h => h) (Or.inr ⟨by rfl, rfl⟩) ?_ ?_
       rotate_left
       ·
        exact zp_
       refine pure_ (i := 6) (N := some 19) (v := undef) (a' := ?_) #[T_,T_,T_,T_,T_,T_,T_,F_,F_,F_,F_,F_,F_,F_,F_,F_,F_,F_,F_,F_] rfl rfl (any_of HT_.out (by kernel_rfl)) (fun _ _ _ h => h) (Or.inr ⟨by rfl, rfl⟩) ?_ ?_
       rotate_left
       ·
        exact zp_
       refine pure_ (i := 7) (N := some 20) (v := undef) (a' := ?_) #[T_,T_,T_,T_,T_,T_,T_,T_,F_,F_,F_,F_,F_,F_,F_,F_,F_,F_,F_,F_] rfl rfl (any_of HT_.out (by kernel_rfl)) (fun _ _ _ h => h) (Or.inr ⟨by rfl, rfl⟩) ?_ ?_
       rotate_left
       ·
        exact zp_
       refine pure_ (i := 8) (N := some 21) (v := undef) (a' := ?_) #[T_,T_,T_,T_,T_,T_,T_,T_,T_,F_,F_,F_,F_,F_,F_,F_,F_,F_,F_,F_] rfl rfl (any_of HT_.out (by kernel_rfl)) (fun _ _ _ h => h) (Or.inr ⟨by rfl, rfl⟩) ?_ ?_
       rotate_left
       ·
        exact zp_
       refine pure_ (i := 9) (N := some 22) (v := undef) (a' := ?_) #[T_,T_,T_,T_,T_,T_,T_,T_,T_,T_,F_,F_,F_,F_,F_,F_,F_,F_,F_,F_] rfl rfl (any_of HT_.out (by kernel_rfl)) (fun _ _ _ h => h) (Or.inr ⟨by rfl, rfl⟩) ?_ ?_
       rotate_left
       ·
        exact zp_
       refine pure_ (i := 10) (N := some 23) (v := undef) (a' := ?_) #[T_,T_,T_,T_,T_,T_,T_,T_,T_,T_,T_,F_,F_,F_,F_,F_,F_,F_,F_,F_] rfl rfl (any_of HT_.out (by kernel_rfl)) (fun _ _ _ h => h) (Or.inr ⟨by rfl, rfl⟩) ?_ ?_
       rotate_left
       ·
        exact zp_
       refine pure_ (i := 11) (N := some 24) (v := undef) (a' := ?_) #[T_,T_,T_,T_,T_,T_,T_,T_,T_,T_,T_,T_,F_,F_,F_,F_,F_,F_,F_,F_] rfl rfl (any_of HT_.out (by kernel_rfl)) (fun _ _ _ h => h) (Or.inr ⟨by rfl, rfl⟩) ?_ ?_
       rotate_left
       ·
        exact zp_
       refine pure_ (i := 12) (N := some 25) (v := undef) (a' := ?_) #[T_,T_,T_,T_,T_,T_,T_,T_,T_,T_,T_,T_,T_,F_,F_,F_,F_,F_,F_,F_] rfl rfl (any_of HT_.out (by kernel_rfl)) (fun _ _ _ h => h) (Or.inr ⟨by rfl, rfl⟩) ?_ ?_
       rotate_left
       ·
        exact zp_
       refine pure_ (i := 13) (N := some 26) (v := undef) (a' := ?_) #[T_,T_,T_,T_,T_,T_,T_,T_,T_,T_,T_,T_,T_,T_,F_,F_,F_,F_,F_,F_] rfl rfl (any_of HT_.out (by kernel_rfl)) (fun _ _ _ h => h) (Or.inr ⟨by rfl, rfl⟩) ?_ ?_
       rotate_left
       ·
        exact zp_
       refine pure_ (i := 14) (N := some 27) (v := undef) (a' := ?_) #[T_,T_,T_,T_,T_,T_,T_,T_,T_,T_,T_,T_,T_,T_,T_,F_,F_,F_,F_,F_] rfl rfl (any_of HT_.out (by kernel_rfl)) (fun _ _ _ h => h) (Or.inr ⟨by rfl, rfl⟩) ?_ ?_
       rotate_left
       ·
        exact zp_
       refine pure_ (i := 15) (N := some 28) (v := undef) (a' := ?_) #[T_,T_,T_,T_,T_,T_,T_,T_,T_,T_,T_,T_,T_,T_,T_,T_,F_,F_,F_,F_] rfl rfl (any_of HT_.out (by kernel_rfl)) (fun _ _ _ h => h) (Or.inr ⟨by rfl, rfl⟩) ?_ ?_
       rotate_left
       ·
        exact zp_
       refine pure_ (i := 16) (N := some 29) (v := undef) (a' := ?_) #[T_,T_,T_,T_,T_,T_,T_,T_,T_,T_,T_,T_,T_,T_,T_,T_,T_,F_,F_,F_] rfl rfl (any_of HT_.out (by kernel_rfl)) (fun _ _ _ h => h) (Or.inr ⟨by rfl, rfl⟩) ?_ ?_
       rotate_left
       ·
        exact zp_
       refine pure_ (i := 17) (N := some 30) (v := undef) (a' := ?_) #[T_,T_,T_,T_,T_,T_,T_,T_,T_,T_,T_,T_,T_,T_,T_,T_,T_,T_,F_,F_] rfl rfl (any_of HT_.out (by kernel_rfl)) (fun _ _ _ h => h) (Or.inr ⟨by rfl, rfl⟩) ?_ ?_
       rotate_left
       ·
        exact zp_
       refine pure_ (i := 18) (N := some 31) (v := undef) (a' := ?_) #[T_,T_,T_,T_,T_,T_,T_,T_,T_,T_,T_,T_,T_,T_,T_,T_,T_,T_,T_,F_] rfl rfl (any_of HT_.out (by kernel_rfl)) (fun _ _ _ h => h) (Or.inr ⟨by rfl, rfl⟩) ?_ ?_
       rotate_left
       ·
        exact zp_
       refine pure_ (i := 19) (N := some 32) (v := ?_) (a' := ?_) #[T_,T_,T_,T_,T_,T_,T_,T_,T_,T_,T_,T_,T_,T_,T_,T_,T_,T_,T_,T_] rfl rfl (any_of HT_.out (by kernel_rfl)) (fun _ _ _ h => h) (Or.inl ⟨by rfl, ?_⟩) ?_ ?_
       rotate_left
       ·
        intro w'; go_simp; with_reducible rfl
       rotate_left
       ·
        exact zp_
       refine done_ (done_of HT_.out (by kernel_rfl)) ?_
       (try clear hHeld); (try clear HS0_)
       try go_wp2
       go_ret
       exact ⟨by first | rfl | (simp [errW_none, errW_some] <;> rfl) | (simp [*, errW_none, errW_some] <;> rfl), by repeat (first | (with_reducible first | exact HB.out | apply below_alloc | apply pw_below_drewN | apply below_drew1 | refine below_set ?_ GE522.out | refine below_set ?_ GE527.out) | exact HB.out)⟩
     ·
      rw [if_neg c6] at H
      exact absurd H (by simp)
    ·
     rw [if_neg c5] at H
     exact absurd H (by simp)
   ·
    rw [if_neg c4] at H
    have c4b0 : decide (x8_1 < (l0_0.length : Int)) = false := decide_eq_false c4
    clear c4
    replace H := Option.bind_eq_some_iff.mp H
    obtain ⟨t523, A410, H⟩ := H
    replace H : (if t523 = true then (some false) else ((label_Twice.f l0_1).bind fun t524 => (if t524 = true then (some false) else (if a0_2 ≥ 1 then (if a0_2 ≤ (wrap64 ((l0_1.length : Int) + 1)) then ((ident_Form.f a0_3 a0_4).bind fun t525 => (some t525)) else (some false)) else (some false))))) = some r := H
    have A41 := Aside0.mk A410
    clear A410
    by_cases c42 : t523 = true
    ·
     subst c42
     have H1 : (some false) = some r := by rw [if_pos rfl] at H; exact H
     clear H
     have H := H1
     clear H1
     obtain rfl := Option.some.inj H
     have hcz43_0 : wr.cell? ⟨gb522, 0, none⟩ = some (.slice A0_0 l0_0.length c0_0) := (blk_cell BK522.out 0).trans rfl
     have hcz43_1 : wr.cell? ⟨gb522, 1, none⟩ = some (.slice A0_1 l0_1.length c0_1) := (blk_cell BK522.out 1).trans rfl
     have hcz43_2 : wr.cell? ⟨gb522, 2, none⟩ = some (.int .i64 a0_2) := (blk_cell BK522.out 2).trans rfl
     have hcz43_3 : wr.cell? ⟨gb522, 3, none⟩ = some (.int .u64 a0_3) := (blk_cell BK522.out 3).trans rfl
     have hcz43_4 : wr.cell? ⟨gb522, 4, none⟩ = some (.int .i64 a0_4) := (blk_cell BK522.out 4).trans rfl
     have hfz43_0 := blk_frozen BK522.out 0
     have hfz43_1 := blk_frozen BK522.out 1
     have hfz43_2 := blk_frozen BK522.out 2
     have hfz43_3 := blk_frozen BK522.out 3
     have hfz43_4 := blk_frozen BK522.out 4
     go_wp2_with (first | ((with_reducible refine gate_callee (f := 105) rfl ?_); refine goesL_ (some 36) rfl rfl Try.func105 (by kernel_rfl) rfl #[.slice A0_1 l0_1.length c0_1, .func (.func 106) #[] #[]] rfl za_ ?_; (with_reducible refine (api_Label_105.calls k1 _ _ l0_1 true _ ?side1 ?side2 A41.out).mono ?_); (case side1 => exact zc_ HR0_1 HB); (case side2 => exact HC0_1.out); rintro e w44 ⟨rfl, hb⟩; refine ⟨_, rfl, ?_⟩; have n0_ := zk_ BK522 hb; have n1_ := Aside0.mk (below_step zb_ hb); clear BK522; clear HB; have BK522 := n0_; have HB := n1_; clear n0_ n1_; (try clear hb); (try clear hb2); (try clear hk); (try clear hi)))
     go_ret
     exact ⟨by first | rfl | (simp [errW_none, errW_some] <;> rfl) | (simp [*, errW_none, errW_some] <;> rfl), by repeat (first | (with_reducible first | exact HB.out | apply below_alloc | apply pw_below_drewN | apply below_drew1 | refine below_set ?_ GE522.out) | exact HB.out)⟩
    ·
     replace c42 := Bool.eq_false_iff.mpr c42
     subst c42
     have H1 : ((label_Twice.f l0_1).bind fun t524 => (if t524 = true then (some false) else (if a0_2 ≥ 1 then (if a0_2 ≤ (wrap64 ((l0_1.length : Int) + 1)) then ((ident_Form.f a0_3 a0_4).bind fun t525 => (some t525)) else (some false)) else (some false)))) = some r := by rw [if_neg (show ¬ (false = true) by decide)] at H; exact H
     clear H
     have H := H1
     clear H1
     replace H := Option.bind_eq_some_iff.mp H
     obtain ⟨t524, A450, H⟩ := H
     replace H : (if t524 = true then (some false) else (if a0_2 ≥ 1 then (if a0_2 ≤ (wrap64 ((l0_1.length : Int) + 1)) then ((ident_Form.f a0_3 a0_4).bind fun t525 => (some t525)) else (some false)) else (some false))) = some r := H
     have A45 := Aside0.mk A450
     clear A450
     by_cases c46 : t524 = true
     ·
      subst c46
      have H1 : (some false) = some r := by rw [if_pos rfl] at H; exact H
      clear H
      have H := H1
      clear H1
      obtain rfl := Option.some.inj H
      have hcz47_0 : wr.cell? ⟨gb522, 0, none⟩ = some (.slice A0_0 l0_0.length c0_0) := (blk_cell BK522.out 0).trans rfl
      have hcz47_1 : wr.cell? ⟨gb522, 1, none⟩ = some (.slice A0_1 l0_1.length c0_1) := (blk_cell BK522.out 1).trans rfl
      have hcz47_2 : wr.cell? ⟨gb522, 2, none⟩ = some (.int .i64 a0_2) := (blk_cell BK522.out 2).trans rfl
      have hcz47_3 : wr.cell? ⟨gb522, 3, none⟩ = some (.int .u64 a0_3) := (blk_cell BK522.out 3).trans rfl
      have hcz47_4 : wr.cell? ⟨gb522, 4, none⟩ = some (.int .i64 a0_4) := (blk_cell BK522.out 4).trans rfl
      have hfz47_0 := blk_frozen BK522.out 0
      have hfz47_1 := blk_frozen BK522.out 1
      have hfz47_2 := blk_frozen BK522.out 2
      have hfz47_3 := blk_frozen BK522.out 3
      have hfz47_4 := blk_frozen BK522.out 4
      go_wp2_with (first | ((with_reducible refine gate_callee (f := 105) rfl ?_); refine goesL_ (some 36) rfl rfl Try.func105 (by kernel_rfl) rfl #[.slice A0_1 l0_1.length c0_1, .func (.func 106) #[] #[]] rfl za_ ?_; (with_reducible refine (api_Label_105.calls k1 _ _ l0_1 false _ ?side1 ?side2 A41.out).mono ?_); (case side1 => exact zc_ HR0_1 HB); (case side2 => exact HC0_1.out); rintro e w48 ⟨rfl, hb⟩; refine ⟨_, rfl, ?_⟩; have n0_ := zk_ BK522 hb; have n1_ := Aside0.mk (below_step zb_ hb); clear BK522; clear HB; have BK522 := n0_; have HB := n1_; clear n0_ n1_; (try clear hb); (try clear hb2); (try clear hk); (try clear hi); have hcz49_0 : w48.cell? ⟨gb522, 0, none⟩ = some (.slice A0_0 l0_0.length c0_0) := (blk_cell BK522.out 0).trans rfl; have hcz49_1 : w48.cell? ⟨gb522, 1, none⟩ = some (.slice A0_1 l0_1.length c0_1) := (blk_cell BK522.out 1).trans rfl; have hcz49_2 : w48.cell? ⟨gb522, 2, none⟩ = some (.int .i64 a0_2) := (blk_cell BK522.out 2).trans rfl; have hcz49_3 : w48.cell? ⟨gb522, 3, none⟩ = some (.int .u64 a0_3) := (blk_cell BK522.out 3).trans rfl; have hcz49_4 : w48.cell? ⟨gb522, 4, none⟩ = some (.int .i64 a0_4) := (blk_cell BK522.out 4).trans rfl; have hfz49_0 := blk_frozen BK522.out 0; have hfz49_1 := blk_frozen BK522.out 1; have hfz49_2 := blk_frozen BK522.out 2; have hfz49_3 := blk_frozen BK522.out 3; have hfz49_4 := blk_frozen BK522.out 4) | (go_at_call 38; (with_reducible refine (label_Twice.calls _ _ l0_1 true _ ?side1 ?side2 A45.out).mono ?_); (case side1 => exact zc_ HR0_1 HB); (case side2 => exact HC0_1.out); rintro e w50 ⟨rfl, hb⟩; have n0_ := zk_ BK522 hb; have n1_ := Aside0.mk (below_step zb_ hb); clear BK522; clear HB; have BK522 := n0_; have HB := n1_; clear n0_ n1_; (try clear hb); (try clear hb2); (try clear hk); (try clear hi)))
      go_ret
      exact ⟨by first | rfl | (simp [errW_none, errW_some] <;> rfl) | (simp [*, errW_none, errW_some] <;> rfl), by repeat (first | (with_reducible first | exact HB.out | apply below_alloc | apply pw_below_drewN | apply below_drew1 | refine below_set ?_ GE522.out) | exact HB.out)⟩
     ·
      replace c46 := Bool.eq_false_iff.mpr c46
      subst c46
      have H1 : (if a0_2 ≥ 1 then (if a0_2 ≤ (wrap64 ((l0_1.length : Int) + 1)) then ((ident_Form.f a0_3 a0_4).bind fun t525 => (some t525)) else (some false)) else (some false)) = some r := by rw [if_neg (show ¬ (false = true) by decide)] at H; exact H
      clear H
      have H := H1
      clear H1
      by_cases c51 : a0_2 ≥ 1
      ·
       rw [if_pos c51] at H
       have c51b0 : decide (1 ≤ a0_2) = true := decide_eq_true c51
       clear c51
       by_cases c52 : a0_2 ≤ (wrap64 ((l0_1.length : Int) + 1))
       ·
        rw [if_pos c52] at H
        have c52b0 : decide (a0_2 ≤ (wrap64 ((l0_1.length : Int) + 1))) = true := decide_eq_true c52
        clear c52
        replace H := Option.bind_eq_some_iff.mp H
        obtain ⟨t525, A530, H⟩ := H
        replace H : (some t525) = some r := H
        have A53 := Aside0.mk A530
        clear A530
        obtain rfl := Option.some.inj H
        have hcz54_0 : wr.cell? ⟨gb522, 0, none⟩ = some (.slice A0_0 l0_0.length c0_0) := (blk_cell BK522.out 0).trans rfl
        have hcz54_1 : wr.cell? ⟨gb522, 1, none⟩ = some (.slice A0_1 l0_1.length c0_1) := (blk_cell BK522.out 1).trans rfl
        have hcz54_2 : wr.cell? ⟨gb522, 2, none⟩ = some (.int .i64 a0_2) := (blk_cell BK522.out 2).trans rfl
        have hcz54_3 : wr.cell? ⟨gb522, 3, none⟩ = some (.int .u64 a0_3) := (blk_cell BK522.out 3).trans rfl
        have hcz54_4 : wr.cell? ⟨gb522, 4, none⟩ = some (.int .i64 a0_4) := (blk_cell BK522.out 4).trans rfl
        have hfz54_0 := blk_frozen BK522.out 0
        have hfz54_1 := blk_frozen BK522.out 1
        have hfz54_2 := blk_frozen BK522.out 2
        have hfz54_3 := blk_frozen BK522.out 3
        have hfz54_4 := blk_frozen BK522.out 4
        go_wp2_with (first | ((with_reducible refine gate_callee (f := 105) rfl ?_); refine goesL_ (some 36) rfl rfl Try.func105 (by kernel_rfl) rfl #[.slice A0_1 l0_1.length c0_1, .func (.func 106) #[] #[]] rfl za_ ?_; (with_reducible refine (api_Label_105.calls k1 _ _ l0_1 false _ ?side1 ?side2 A41.out).mono ?_); (case side1 => exact zc_ HR0_1 HB); (case side2 => exact HC0_1.out); rintro e w55 ⟨rfl, hb⟩; refine ⟨_, rfl, ?_⟩; have n0_ := zk_ BK522 hb; have n1_ := Aside0.mk (below_step zb_ hb); clear BK522; clear HB; have BK522 := n0_; have HB := n1_; clear n0_ n1_; (try clear hb); (try clear hb2); (try clear hk); (try clear hi); have hcz56_0 : w55.cell? ⟨gb522, 0, none⟩ = some (.slice A0_0 l0_0.length c0_0) := (blk_cell BK522.out 0).trans rfl; have hcz56_1 : w55.cell? ⟨gb522, 1, none⟩ = some (.slice A0_1 l0_1.length c0_1) := (blk_cell BK522.out 1).trans rfl; have hcz56_2 : w55.cell? ⟨gb522, 2, none⟩ = some (.int .i64 a0_2) := (blk_cell BK522.out 2).trans rfl; have hcz56_3 : w55.cell? ⟨gb522, 3, none⟩ = some (.int .u64 a0_3) := (blk_cell BK522.out 3).trans rfl; have hcz56_4 : w55.cell? ⟨gb522, 4, none⟩ = some (.int .i64 a0_4) := (blk_cell BK522.out 4).trans rfl; have hfz56_0 := blk_frozen BK522.out 0; have hfz56_1 := blk_frozen BK522.out 1; have hfz56_2 := blk_frozen BK522.out 2; have hfz56_3 := blk_frozen BK522.out 3; have hfz56_4 := blk_frozen BK522.out 4) | (go_at_call 38; (with_reducible refine (label_Twice.calls _ _ l0_1 false _ ?side1 ?side2 A45.out).mono ?_); (case side1 => exact zc_ HR0_1 HB); (case side2 => exact HC0_1.out); rintro e w57 ⟨rfl, hb⟩; have n0_ := zk_ BK522 hb; have n1_ := Aside0.mk (below_step zb_ hb); clear BK522; clear HB; have BK522 := n0_; have HB := n1_; clear n0_ n1_; (try clear hb); (try clear hb2); (try clear hk); (try clear hi); have hcz58_0 : w57.cell? ⟨gb522, 0, none⟩ = some (.slice A0_0 l0_0.length c0_0) := (blk_cell BK522.out 0).trans rfl; have hcz58_1 : w57.cell? ⟨gb522, 1, none⟩ = some (.slice A0_1 l0_1.length c0_1) := (blk_cell BK522.out 1).trans rfl; have hcz58_2 : w57.cell? ⟨gb522, 2, none⟩ = some (.int .i64 a0_2) := (blk_cell BK522.out 2).trans rfl; have hcz58_3 : w57.cell? ⟨gb522, 3, none⟩ = some (.int .u64 a0_3) := (blk_cell BK522.out 3).trans rfl; have hcz58_4 : w57.cell? ⟨gb522, 4, none⟩ = some (.int .i64 a0_4) := (blk_cell BK522.out 4).trans rfl; have hfz58_0 := blk_frozen BK522.out 0; have hfz58_1 := blk_frozen BK522.out 1; have hfz58_2 := blk_frozen BK522.out 2; have hfz58_3 := blk_frozen BK522.out 3; have hfz58_4 := blk_frozen BK522.out 4) | (go_at_call 83; (with_reducible refine (ident_Form.calls a0_3 a0_4 t525 _ A53.out).mono ?_); rintro e w59 ⟨rfl, hb⟩; have n0_ := zk_ BK522 hb; have n1_ := Aside0.mk (below_step zb_ hb); clear BK522; clear HB; have BK522 := n0_; have HB := n1_; clear n0_ n1_; (try clear hb); (try clear hb2); (try clear hk); (try clear hi)))
        go_ret
        exact ⟨by first | rfl | (simp [errW_none, errW_some] <;> rfl) | (simp [*, errW_none, errW_some] <;> rfl), by repeat (first | (with_reducible first | exact HB.out | apply below_alloc | apply pw_below_drewN | apply below_drew1 | refine below_set ?_ GE522.out) | exact HB.out)⟩
       ·
        rw [if_neg c52] at H
        have c52b0 : decide (a0_2 ≤ (wrap64 ((l0_1.length : Int) + 1))) = false := decide_eq_false c52
        clear c52
        obtain rfl := Option.some.inj H
        have hcz60_0 : wr.cell? ⟨gb522, 0, none⟩ = some (.slice A0_0 l0_0.length c0_0) := (blk_cell BK522.out 0).trans rfl
        have hcz60_1 : wr.cell? ⟨gb522, 1, none⟩ = some (.slice A0_1 l0_1.length c0_1) := (blk_cell BK522.out 1).trans rfl
        have hcz60_2 : wr.cell? ⟨gb522, 2, none⟩ = some (.int .i64 a0_2) := (blk_cell BK522.out 2).trans rfl
        have hcz60_3 : wr.cell? ⟨gb522, 3, none⟩ = some (.int .u64 a0_3) := (blk_cell BK522.out 3).trans rfl
        have hcz60_4 : wr.cell? ⟨gb522, 4, none⟩ = some (.int .i64 a0_4) := (blk_cell BK522.out 4).trans rfl
        have hfz60_0 := blk_frozen BK522.out 0
        have hfz60_1 := blk_frozen BK522.out 1
        have hfz60_2 := blk_frozen BK522.out 2
        have hfz60_3 := blk_frozen BK522.out 3
        have hfz60_4 := blk_frozen BK522.out 4
        go_wp2_with (first | ((with_reducible refine gate_callee (f := 105) rfl ?_); refine goesL_ (some 36) rfl rfl Try.func105 (by kernel_rfl) rfl #[.slice A0_1 l0_1.length c0_1, .func (.func 106) #[] #[]] rfl za_ ?_; (with_reducible refine (api_Label_105.calls k1 _ _ l0_1 false _ ?side1 ?side2 A41.out).mono ?_); (case side1 => exact zc_ HR0_1 HB); (case side2 => exact HC0_1.out); rintro e w61 ⟨rfl, hb⟩; refine ⟨_, rfl, ?_⟩; have n0_ := zk_ BK522 hb; have n1_ := Aside0.mk (below_step zb_ hb); clear BK522; clear HB; have BK522 := n0_; have HB := n1_; clear n0_ n1_; (try clear hb); (try clear hb2); (try clear hk); (try clear hi); have hcz62_0 : w61.cell? ⟨gb522, 0, none⟩ = some (.slice A0_0 l0_0.length c0_0) := (blk_cell BK522.out 0).trans rfl; have hcz62_1 : w61.cell? ⟨gb522, 1, none⟩ = some (.slice A0_1 l0_1.length c0_1) := (blk_cell BK522.out 1).trans rfl; have hcz62_2 : w61.cell? ⟨gb522, 2, none⟩ = some (.int .i64 a0_2) := (blk_cell BK522.out 2).trans rfl; have hcz62_3 : w61.cell? ⟨gb522, 3, none⟩ = some (.int .u64 a0_3) := (blk_cell BK522.out 3).trans rfl; have hcz62_4 : w61.cell? ⟨gb522, 4, none⟩ = some (.int .i64 a0_4) := (blk_cell BK522.out 4).trans rfl; have hfz62_0 := blk_frozen BK522.out 0; have hfz62_1 := blk_frozen BK522.out 1; have hfz62_2 := blk_frozen BK522.out 2; have hfz62_3 := blk_frozen BK522.out 3; have hfz62_4 := blk_frozen BK522.out 4) | (go_at_call 38; (with_reducible refine (label_Twice.calls _ _ l0_1 false _ ?side1 ?side2 A45.out).mono ?_); (case side1 => exact zc_ HR0_1 HB); (case side2 => exact HC0_1.out); rintro e w63 ⟨rfl, hb⟩; have n0_ := zk_ BK522 hb; have n1_ := Aside0.mk (below_step zb_ hb); clear BK522; clear HB; have BK522 := n0_; have HB := n1_; clear n0_ n1_; (try clear hb); (try clear hb2); (try clear hk); (try clear hi); have hcz64_0 : w63.cell? ⟨gb522, 0, none⟩ = some (.slice A0_0 l0_0.length c0_0) := (blk_cell BK522.out 0).trans rfl; have hcz64_1 : w63.cell? ⟨gb522, 1, none⟩ = some (.slice A0_1 l0_1.length c0_1) := (blk_cell BK522.out 1).trans rfl; have hcz64_2 : w63.cell? ⟨gb522, 2, none⟩ = some (.int .i64 a0_2) := (blk_cell BK522.out 2).trans rfl; have hcz64_3 : w63.cell? ⟨gb522, 3, none⟩ = some (.int .u64 a0_3) := (blk_cell BK522.out 3).trans rfl; have hcz64_4 : w63.cell? ⟨gb522, 4, none⟩ = some (.int .i64 a0_4) := (blk_cell BK522.out 4).trans rfl; have hfz64_0 := blk_frozen BK522.out 0; have hfz64_1 := blk_frozen BK522.out 1; have hfz64_2 := blk_frozen BK522.out 2; have hfz64_3 := blk_frozen BK522.out 3; have hfz64_4 := blk_frozen BK522.out 4))
        go_ret
        exact ⟨by first | rfl | (simp [errW_none, errW_some] <;> rfl) | (simp [*, errW_none, errW_some] <;> rfl), by repeat (first | (with_reducible first | exact HB.out | apply below_alloc | apply pw_below_drewN | apply below_drew1 | refine below_set ?_ GE522.out) | exact HB.out)⟩
      ·
       rw [if_neg c51] at H
       have c51b0 : decide (1 ≤ a0_2) = false := decide_eq_false c51
       clear c51
       obtain rfl := Option.some.inj H
       have hcz65_0 : wr.cell? ⟨gb522, 0, none⟩ = some (.slice A0_0 l0_0.length c0_0) := (blk_cell BK522.out 0).trans rfl
       have hcz65_1 : wr.cell? ⟨gb522, 1, none⟩ = some (.slice A0_1 l0_1.length c0_1) := (blk_cell BK522.out 1).trans rfl
       have hcz65_2 : wr.cell? ⟨gb522, 2, none⟩ = some (.int .i64 a0_2) := (blk_cell BK522.out 2).trans rfl
       have hcz65_3 : wr.cell? ⟨gb522, 3, none⟩ = some (.int .u64 a0_3) := (blk_cell BK522.out 3).trans rfl
       have hcz65_4 : wr.cell? ⟨gb522, 4, none⟩ = some (.int .i64 a0_4) := (blk_cell BK522.out 4).trans rfl
       have hfz65_0 := blk_frozen BK522.out 0
       have hfz65_1 := blk_frozen BK522.out 1
       have hfz65_2 := blk_frozen BK522.out 2
       have hfz65_3 := blk_frozen BK522.out 3
       have hfz65_4 := blk_frozen BK522.out 4
       go_wp2_with (first | ((with_reducible refine gate_callee (f := 105) rfl ?_); refine goesL_ (some 36) rfl rfl Try.func105 (by kernel_rfl) rfl #[.slice A0_1 l0_1.length c0_1, .func (.func 106) #[] #[]] rfl za_ ?_; (with_reducible refine (api_Label_105.calls k1 _ _ l0_1 false _ ?side1 ?side2 A41.out).mono ?_); (case side1 => exact zc_ HR0_1 HB); (case side2 => exact HC0_1.out); rintro e w66 ⟨rfl, hb⟩; refine ⟨_, rfl, ?_⟩; have n0_ := zk_ BK522 hb; have n1_ := Aside0.mk (below_step zb_ hb); clear BK522; clear HB; have BK522 := n0_; have HB := n1_; clear n0_ n1_; (try clear hb); (try clear hb2); (try clear hk); (try clear hi); have hcz67_0 : w66.cell? ⟨gb522, 0, none⟩ = some (.slice A0_0 l0_0.length c0_0) := (blk_cell BK522.out 0).trans rfl; have hcz67_1 : w66.cell? ⟨gb522, 1, none⟩ = some (.slice A0_1 l0_1.length c0_1) := (blk_cell BK522.out 1).trans rfl; have hcz67_2 : w66.cell? ⟨gb522, 2, none⟩ = some (.int .i64 a0_2) := (blk_cell BK522.out 2).trans rfl; have hcz67_3 : w66.cell? ⟨gb522, 3, none⟩ = some (.int .u64 a0_3) := (blk_cell BK522.out 3).trans rfl; have hcz67_4 : w66.cell? ⟨gb522, 4, none⟩ = some (.int .i64 a0_4) := (blk_cell BK522.out 4).trans rfl; have hfz67_0 := blk_frozen BK522.out 0; have hfz67_1 := blk_frozen BK522.out 1; have hfz67_2 := blk_frozen BK522.out 2; have hfz67_3 := blk_frozen BK522.out 3; have hfz67_4 := blk_frozen BK522.out 4) | (go_at_call 38; (with_reducible refine (label_Twice.calls _ _ l0_1 false _ ?side1 ?side2 A45.out).mono ?_); (case side1 => exact zc_ HR0_1 HB); (case side2 => exact HC0_1.out); rintro e w68 ⟨rfl, hb⟩; have n0_ := zk_ BK522 hb; have n1_ := Aside0.mk (below_step zb_ hb); clear BK522; clear HB; have BK522 := n0_; have HB := n1_; clear n0_ n1_; (try clear hb); (try clear hb2); (try clear hk); (try clear hi); have hcz69_0 : w68.cell? ⟨gb522, 0, none⟩ = some (.slice A0_0 l0_0.length c0_0) := (blk_cell BK522.out 0).trans rfl; have hcz69_1 : w68.cell? ⟨gb522, 1, none⟩ = some (.slice A0_1 l0_1.length c0_1) := (blk_cell BK522.out 1).trans rfl; have hcz69_2 : w68.cell? ⟨gb522, 2, none⟩ = some (.int .i64 a0_2) := (blk_cell BK522.out 2).trans rfl; have hcz69_3 : w68.cell? ⟨gb522, 3, none⟩ = some (.int .u64 a0_3) := (blk_cell BK522.out 3).trans rfl; have hcz69_4 : w68.cell? ⟨gb522, 4, none⟩ = some (.int .i64 a0_4) := (blk_cell BK522.out 4).trans rfl; have hfz69_0 := blk_frozen BK522.out 0; have hfz69_1 := blk_frozen BK522.out 1; have hfz69_2 := blk_frozen BK522.out 2; have hfz69_3 := blk_frozen BK522.out 3; have hfz69_4 := blk_frozen BK522.out 4))
       go_ret
       exact ⟨by first | rfl | (simp [errW_none, errW_some] <;> rfl) | (simp [*, errW_none, errW_some] <;> rfl), by repeat (first | (with_reducible first | exact HB.out | apply below_alloc | apply pw_below_drewN | apply below_drew1 | refine below_set ?_ GE522.out) | exact HB.out)⟩
end Go.Proofs.Ytioooiflpabngaa.PAll
end
