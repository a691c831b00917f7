/- Parts: PAllx88, ETold, PAllx103, QExchangeOne, HJoined, RExchangeOne. -/
import Derived.Test.YtioooiflpabngaaExchangeOneB
import Derived.Test.YtioooiflpabngaaExchangeOneC
import Derived.Test.YtioooiflpabngaaExchangeOneD
import Derived.Test.YtioooiflpabngaaRows
import Derived.ProofKit
import Derived.WalkKit
import Derived.OpenShut
import Derived.ShutString
import Derived.ChangeOld
import Derived.Below
import Derived.SizedLaws
set_option linter.unusedVariables false
set_option linter.unusedSimpArgs false
section
namespace Go.Proofs.Ytioooiflpabngaa.PAll
open Go.RowKit Go.Proofs.YtioooiflpabngaaW.PrintWords Go.Proofs.YtioooiflpabngaaW.PrintLast Go.Proofs.YtioooiflpabngaaW.PrintMore
attribute [local go_sem] max2_int min2_int max_two min_two max_three min_three max_four min_four   -- for this text's walks alone
set_option linter.unusedVariables false
set_option linter.unusedSimpArgs false
def folkmootlaw16_awake.f (k : Nat)  : Option (Bool) := (some (([(⟨0, (⟨([] : List (S32)), ([] : List (S27)), 1, (⟨1, 0⟩ : S25)⟩ : S53)⟩ : S87), (⟨1, (⟨([] : List (S32)), (([(⟨(⟨1, 0⟩ : S25), 1, 0⟩ : S27)] : List (S27))), 2, (⟨2, 0⟩ : S25)⟩ : S53)⟩ : S87)] : List (S87)) : List (S87))).bind fun y759 => ((exchange_Short.f k y759).bind fun t762 => ((folkmootref05_Same.f k t762 (([(⟨(⟨1, 0⟩ : S25), 1, 0⟩ : S27)] : List (S27)))).bind fun t768 => (if t768 = true then ((exchange_Chosen.f k y759).bind fun t769 => (if t769 = 1 then ((exchange_Next.f k y759).bind fun t770 => (some (t770 == 2))) else (some false))) else (some false))))
theorem folkmootlaw16_awake.mono : ∀ k, LeO (folkmootlaw16_awake.f k ) (folkmootlaw16_awake.f (k + 1) ) := by
 intro  k
 unfold folkmootlaw16_awake.f
 repeat' first
   | (with_reducible exact exchange_Chosen.mono _ _)
   | (with_reducible exact exchange_Next.mono _ _)
   | (with_reducible exact exchange_Short.mono _ _)
   | (with_reducible exact folkmootref05_Same.mono _ _ _)
   | (with_reducible exact LeO.refl _)
   | (with_reducible exact LeO.none _)
   | (with_reducible refine LeO.ite ?_ ?_)
   | (with_reducible refine LeO.bind ?_ (fun _ => ?_))
   | exact exchange_Chosen.mono _ _
   | exact exchange_Next.mono _ _
   | exact exchange_Short.mono _ _
   | exact folkmootref05_Same.mono _ _ _
   | exact LeO.none _
   | refine LeO.ite ?_ ?_
   | refine LeO.bind ?_ (fun _ => ?_)
def folkmootlaw16_awake.T3 : Bool × List (List Nat × List Nat) := (true, [([], []), ([0], [0]), ([], []), ([2], [2]), ([1, 3, 1], [1, 3]), ([4, 4], [4]), ([5], [5]), ([6, 5, 5], [5, 6]), ([7, 5], [5, 7]), ([5, 8], [5, 8]), ([9, 7], [9]), ([10], [10]), ([11, 10, 10], [10, 11]), ([12, 10], [10, 12]), ([10, 13], [10, 13]), ([14, 12, 0, 1, 2, 3, 4, 5, 6, 7, 8, 9, 10, 11, 12, 13, 14], [14])])
def folkmootlaw16_awake.B3 : List Nat := [0, 1, 0, 4, 15, 31, 63, 127, 255, 511, 1023, 2047, 4095, 8191, 16383, 32767]
theorem folkmootlaw16_awake.tab3 : rtab .any (opsOf Try.f55 3) = folkmootlaw16_awake.T3 := by kernel_rfl
theorem folkmootlaw16_awake.bits3 : waitsOk folkmootlaw16_awake.T3.2 folkmootlaw16_awake.B3 = true := by kernel_rfl
set_option maxHeartbeats 8000000 in
set_option maxRecDepth 100000 in
theorem folkmootlaw16_awake.calls (k : Nat)  (r : Bool) (w : World) (h : folkmootlaw16_awake.f k  = some r) :
  Calls Try.prog 55 #[] w fun e w' => e = .returned (.bool r) ∧ Below w.heap.size w w' := by
 have hu25 := Try.underlying25
 have hu27 := Try.underlying27
 have hu53 := Try.underlying53
 have hu87 := Try.underlying87
 have HB := Aside0.mk (Below.refl w.heap.size w)
 have H : ((some (([(⟨0, (⟨([] : List (S32)), ([] : List (S27)), 1, (⟨1, 0⟩ : S25)⟩ : S53)⟩ : S87), (⟨1, (⟨([] : List (S32)), (([(⟨(⟨1, 0⟩ : S25), 1, 0⟩ : S27)] : List (S27))), 2, (⟨2, 0⟩ : S25)⟩ : S53)⟩ : S87)] : List (S87)) : List (S87))).bind fun y759 => ((exchange_Short.f k y759).bind fun t762 => ((folkmootref05_Same.f k t762 (([(⟨(⟨1, 0⟩ : S25), 1, 0⟩ : S27)] : List (S27)))).bind fun t768 => (if t768 = true then ((exchange_Chosen.f k y759).bind fun t769 => (if t769 = 1 then ((exchange_Next.f k y759).bind fun t770 => (some (t770 == 2))) else (some false))) else (some false))))) = some r := h
 clear h
 obtain ⟨y756, hy756⟩ : ∃ y_ : List (S27), y_ = (([(⟨(⟨1, 0⟩ : S25), 1, 0⟩ : S27)] : List (S27))) := ⟨_, rfl⟩
 replace H : ((some (([(⟨0, (⟨([] : List (S32)), ([] : List (S27)), 1, (⟨1, 0⟩ : S25)⟩ : S53)⟩ : S87), (⟨1, (⟨([] : List (S32)), y756, 2, (⟨2, 0⟩ : S25)⟩ : S53)⟩ : S87)] : List (S87)) : List (S87))).bind fun y759 => ((exchange_Short.f k y759).bind fun t762 => ((folkmootref05_Same.f k t762 (([(⟨(⟨1, 0⟩ : S25), 1, 0⟩ : S27)] : List (S27)))).bind fun t768 => (if t768 = true then ((exchange_Chosen.f k y759).bind fun t769 => (if t769 = 1 then ((exchange_Next.f k y759).bind fun t770 => (some (t770 == 2))) else (some false))) else (some false))))) = some r := by first | (rw [hy756]; with_reducible exact H) | (have H2_ := (Option.bind_some _ _).symm.trans H; rw [hy756]; with_reducible exact H2_) | (have H2_ := (Option.bind_some _ _).symm.trans H; with_reducible exact H2_) | with_reducible exact H | (rw [hy756]; exact H) | exact H
 have Ny756 := Aside0.mk hy756
 clear hy756
 obtain ⟨y759, hy759⟩ : ∃ y_ : List (S87), y_ = (([(⟨0, (⟨([] : List (S32)), ([] : List (S27)), 1, (⟨1, 0⟩ : S25)⟩ : S53)⟩ : S87), (⟨1, (⟨([] : List (S32)), y756, 2, (⟨2, 0⟩ : S25)⟩ : S53)⟩ : S87)] : List (S87))) := ⟨_, rfl⟩
 replace H : ((exchange_Short.f k y759).bind fun t762 => ((folkmootref05_Same.f k t762 (([(⟨(⟨1, 0⟩ : S25), 1, 0⟩ : S27)] : List (S27)))).bind fun t768 => (if t768 = true then ((exchange_Chosen.f k y759).bind fun t769 => (if t769 = 1 then ((exchange_Next.f k y759).bind fun t770 => (some (t770 == 2))) else (some false))) else (some false)))) = some r := by first | (rw [hy759]; with_reducible exact H) | (have H2_ := (Option.bind_some _ _).symm.trans H; rw [hy759]; with_reducible exact H2_) | (have H2_ := (Option.bind_some _ _).symm.trans H; with_reducible exact H2_) | with_reducible exact H | (rw [hy759]; exact H) | exact H
 have Ny759 := Aside0.mk hy759
 clear hy759
 replace H := Option.bind_eq_some_iff.mp H
 obtain ⟨t762, A10, H⟩ := H
 replace H : ((folkmootref05_Same.f k t762 (([(⟨(⟨1, 0⟩ : S25), 1, 0⟩ : S27)] : List (S27)))).bind fun t768 => (if t768 = true then ((exchange_Chosen.f k y759).bind fun t769 => (if t769 = 1 then ((exchange_Next.f k y759).bind fun t770 => (some (t770 == 2))) else (some false))) else (some false))) = some r := H
 have A1 := Aside0.mk A10
 clear A10
 obtain ⟨y765, hy765⟩ : ∃ y_ : List (S27), y_ = (([(⟨(⟨1, 0⟩ : S25), 1, 0⟩ : S27)] : List (S27))) := ⟨_, rfl⟩
 replace H : ((folkmootref05_Same.f k t762 y765).bind fun t768 => (if t768 = true then ((exchange_Chosen.f k y759).bind fun t769 => (if t769 = 1 then ((exchange_Next.f k y759).bind fun t770 => (some (t770 == 2))) else (some false))) else (some false))) = some r := by first | (rw [hy765]; with_reducible exact H) | (have H2_ := (Option.bind_some _ _).symm.trans H; rw [hy765]; with_reducible exact H2_) | (have H2_ := (Option.bind_some _ _).symm.trans H; with_reducible exact H2_) | with_reducible exact H | (rw [hy765]; exact H) | exact H
 have Ny765 := Aside0.mk hy765
 clear hy765
 replace H := Option.bind_eq_some_iff.mp H
 obtain ⟨t768, A20, H⟩ := H
 replace H : (if t768 = true then ((exchange_Chosen.f k y759).bind fun t769 => (if t769 = 1 then ((exchange_Next.f k y759).bind fun t770 => (some (t770 == 2))) else (some false))) else (some false)) = some r := H
 have A2 := Aside0.mk A20
 clear A20
 by_cases c3 : t768 = true
 ·
  subst c3
  have H1 : ((exchange_Chosen.f k y759).bind fun t769 => (if t769 = 1 then ((exchange_Next.f k y759).bind fun t770 => (some (t770 == 2))) else (some false))) = some r := by rw [if_pos rfl] at H; exact H
  clear H
  have H := H1
  clear H1
  replace H := Option.bind_eq_some_iff.mp H
  obtain ⟨t769, A40, H⟩ := H
  replace H : (if t769 = 1 then ((exchange_Next.f k y759).bind fun t770 => (some (t770 == 2))) else (some false)) = some r := H
  have A4 := Aside0.mk A40
  clear A40
  by_cases c5 : t769 = 1
  ·
   rw [if_pos c5] at H
   have c5b0 : (t769 == 1) = true := beq_iff_eq.mpr c5
   have c5b1 : (t769 != 1) = false := bne_eq_false_iff_eq.mpr c5
   clear c5
   replace H := Option.bind_eq_some_iff.mp H
   obtain ⟨t770, A60, H⟩ := H
   replace H : (some (t770 == 2)) = some r := H
   have A6 := Aside0.mk A60
   clear A60
   obtain rfl := Option.some.inj H
   go_enter Try.func55, Try.ntmps55
   try go_wp2_with (first | ((with_reducible refine gate_dst (N := 1) rfl ?_); refine box_event ?hg (N := 1) ?hd (cs := #[.int .u64 0, .int .i64 0, .int .u64 0, .int .i64 0]) (t := 27) ?hr ?_; (case hd => rfl); (case hg => rfl); (case hr => first | (go_simp; done) | (go_simp; rfl)); intro gb755 hg w7 hbox hb; have n0_ := Aside0.mk (below_step zb_ hb); have n1_ := Aside0.mk (hbox); have n2_ := Aside0.mk ((by rw [hg]; exact (below_size zb_) : w.heap.size ≤ gb755)); have n3_ := Aside0.mk ((by rw [hg]; exact (below_size zb_) : w.heap.size ≤ gb755)); clear HB; have HB := n0_; have BK755 := n1_; have GW755 := n2_; have GE755 := n3_; clear n0_ n1_ n2_ n3_; clear hb hbox hg; have hcz8_0 : w7.cell? ⟨gb755, 0, none⟩ = some (.int .u64 0) := (blk_cell BK755.out 0).trans rfl; have hcz8_1 : w7.cell? ⟨gb755, 1, none⟩ = some (.int .i64 0) := (blk_cell BK755.out 1).trans rfl; have hcz8_2 : w7.cell? ⟨gb755, 2, none⟩ = some (.int .u64 0) := (blk_cell BK755.out 2).trans rfl; have hcz8_3 : w7.cell? ⟨gb755, 3, none⟩ = some (.int .i64 0) := (blk_cell BK755.out 3).trans rfl; have hfz8_0 := blk_frozen BK755.out 0; have hfz8_1 := blk_frozen BK755.out 1; have hfz8_2 := blk_frozen BK755.out 2; have hfz8_3 := blk_frozen BK755.out 3) | ((with_reducible refine gate_dst (N := 10) rfl ?_); refine Kd.R_lit k27 _ 27 ?hg (N := 10) ?hd (xs := ([(⟨(⟨1, 0⟩ : S25), 1, 0⟩ : S27)] : List (S27))) (inner := [.int .u64 1, .int .i64 0, .int .u64 1, .int .i64 0]) (ok := fun _ => True) (okp := fun _ => True) ?hr ?hp (fun _ hk => hk) trivial (Below.refl _ _) (Nat.le_refl _) (by simp) ?_; (case hd => rfl); (case hg => rfl); (case hr => first | (go_simp; done) | (go_simp; rfl)); (case hp => exact (Reps.c4 (show Kd.M k27 _ _ _ (⟨(⟨1, 0⟩ : S25), 1, 0⟩ : S27) [.int .u64 1, .int .i64 0, .int .u64 1, .int .i64 0] from (k27_mkM _ _ _ (⟨(⟨1, 0⟩ : S25), 1, 0⟩ : S27) )) (Reps.none _ _))); intro v757 w9 ho10 hb hg_ hnew_; clear hg_ hnew_; (first | rw [← Ny756.out] at ho10 | (simp only [Int.reduceToNat] at ho10; rw [← Ny756.out] at ho10)); have n0_ := Aside0.mk (Kd.R_lower (Kd.R_newB ho10 (g := gb755) (o := .cells #[.int .u64 1, .int .i64 0, .int .u64 1, .int .i64 0] 27 (0, 0)) (by (with_reducible repeat (first | refine blk_drewN ?_ _ | refine blk_drew ?_ | refine blk_alloc ?_ _)); refine blk_put (cs := #[.int .u64 1, .int .i64 0, .int .u64 1, .int .i64 0]) ?_ 3 _ rfl; (with_reducible repeat (first | refine blk_drewN ?_ _ | refine blk_drew ?_ | refine blk_alloc ?_ _)); refine blk_put (cs := #[.int .u64 1, .int .i64 0, .int .u64 0, .int .i64 0]) ?_ 2 _ rfl; (with_reducible repeat (first | refine blk_drewN ?_ _ | refine blk_drew ?_ | refine blk_alloc ?_ _)); refine blk_put (cs := #[.int .u64 1, .int .i64 0, .int .u64 0, .int .i64 0]) ?_ 1 _ rfl; (with_reducible repeat (first | refine blk_drewN ?_ _ | refine blk_drew ?_ | refine blk_alloc ?_ _)); refine blk_put (cs := #[.int .u64 0, .int .i64 0, .int .u64 0, .int .i64 0]) ?_ 0 _ rfl; (with_reducible repeat (first | refine blk_drewN ?_ _ | refine blk_drew ?_ | refine blk_alloc ?_ _)); exact BK755.out)) (below_size zb_)); have n1_ := Aside0.mk (blk_below (g := gb755) (o := .cells #[.int .u64 1, .int .i64 0, .int .u64 1, .int .i64 0] 27 (0, 0)) (by (with_reducible repeat (first | refine blk_drewN ?_ _ | refine blk_drew ?_ | refine blk_alloc ?_ _)); refine blk_put (cs := #[.int .u64 1, .int .i64 0, .int .u64 1, .int .i64 0]) ?_ 3 _ rfl; (with_reducible repeat (first | refine blk_drewN ?_ _ | refine blk_drew ?_ | refine blk_alloc ?_ _)); refine blk_put (cs := #[.int .u64 1, .int .i64 0, .int .u64 0, .int .i64 0]) ?_ 2 _ rfl; (with_reducible repeat (first | refine blk_drewN ?_ _ | refine blk_drew ?_ | refine blk_alloc ?_ _)); refine blk_put (cs := #[.int .u64 1, .int .i64 0, .int .u64 0, .int .i64 0]) ?_ 1 _ rfl; (with_reducible repeat (first | refine blk_drewN ?_ _ | refine blk_drew ?_ | refine blk_alloc ?_ _)); refine blk_put (cs := #[.int .u64 0, .int .i64 0, .int .u64 0, .int .i64 0]) ?_ 0 _ rfl; (with_reducible repeat (first | refine blk_drewN ?_ _ | refine blk_drew ?_ | refine blk_alloc ?_ _)); exact BK755.out) hb); have n2_ := Aside0.mk (below_step zb_ hb); clear BK755; clear HB; have HO758 := n0_; have BK755 := n1_; have HB := n2_; clear n0_ n1_ n2_; clear hb ho10; obtain ⟨Ao11, co11, eo11⟩ := Kd.R_slice HO758.out; subst eo11) | ((with_reducible refine gate_dst (N := 13) rfl ?_); refine Kd.N_lit k87 _ 87 ?hg (N' := 13) ?hd (xs := ([(⟨0, (⟨([] : List (S32)), ([] : List (S27)), 1, (⟨1, 0⟩ : S25)⟩ : S53)⟩ : S87), (⟨1, (⟨([] : List (S32)), y756, 2, (⟨2, 0⟩ : S25)⟩ : S53)⟩ : S87)] : List (S87))) (inner := [.int .i64 0, .slice none 0 0, .slice none 0 0, .int .i64 1, .int .u64 1, .int .i64 0, .int .i64 1, .slice none 0 0, .slice Ao11 y756.length co11, .int .i64 2, .int .u64 2, .int .i64 0]) (ok := (fun k_ => k_ ≠ gb755)) (okp := (fun k_ => k_ ≠ gb755)) ?hr ?hp (fun _ hk => hk) ((show ∀ k_, w9.heap.size ≤ k_ → (fun k_ => k_ ≠ gb755) k_ from fun k_ hk => Kd.freshB (g := gb755) (o := .cells #[.int .u64 1, .int .i64 0, .int .u64 1, .int .i64 0] 27 (0, 0)) (by (with_reducible repeat (first | refine blk_drewN ?_ _ | refine blk_drew ?_ | refine blk_alloc ?_ _)); exact BK755.out) k_ hk) _ (Nat.le_refl _)) (Below.refl _ _) (Nat.le_refl _) (by simp) ?_; (case hd => rfl); (case hg => rfl); (case hr => first | (go_simp; done) | (go_simp; rfl)); (case hp => exact (Reps.c6 (show Kd.FK k87 _ _ (⟨0, (⟨([] : List (S32)), ([] : List (S27)), 1, (⟨1, 0⟩ : S25)⟩ : S53)⟩ : S87) [.int .i64 0, .slice none 0 0, .slice none 0 0, .int .i64 1, .int .u64 1, .int .i64 0] from (k87_mkF _ _ (⟨0, (⟨([] : List (S32)), ([] : List (S27)), 1, (⟨1, 0⟩ : S25)⟩ : S53)⟩ : S87) (Nat.le_refl _) (Kd.F_nil _ _ _) (Nat.le_refl _) (Kd.F_nil _ _ _))) (Reps.c6 (show Kd.FK k87 _ _ (⟨1, (⟨([] : List (S32)), y756, 2, (⟨2, 0⟩ : S25)⟩ : S53)⟩ : S87) [.int .i64 1, .slice none 0 0, .slice Ao11 y756.length co11, .int .i64 2, .int .u64 2, .int .i64 0] from (k87_mkF _ _ (⟨1, (⟨([] : List (S32)), y756, 2, (⟨2, 0⟩ : S25)⟩ : S53)⟩ : S87) (Nat.le_refl _) (Kd.F_nil _ _ _) (Kd.R_reads' (Kd.R_mono (ok' := (fun k_ => k_ ≠ gb755)) (HO758.out) (fun k_ hk => hk.2))).2.1 (Kd.R_F (Kd.R_mono (ok' := (fun k_ => k_ ≠ gb755)) (HO758.out) (fun k_ hk => hk.2))))) (Reps.none _ _)))); intro v760 w12 ho13 hb hg_ hnew_; clear hg_ hnew_; (first | rw [← Ny759.out] at ho13 | (simp only [Int.reduceToNat] at ho13; rw [← Ny759.out] at ho13)); have n0_ := Aside0.mk (Kd.N_lower ho13 (below_size zb_)); have n1_ := zk_ BK755 hb; have n2_ := Aside0.mk (below_step zb_ hb); clear BK755; clear HB; clear HO758; have HO761 := n0_; have BK755 := n1_; have HB := n2_; clear n0_ n1_ n2_; clear hb ho13; obtain ⟨Ao14, co14, eo14⟩ := Kd.N_slice HO761.out; subst eo14))
   have n0_ := Aside0.mk (Kd.N_drew HO761.out)
   have n1_ := Aside0.mk (blk_drew BK755.out)
   have n2_ := Aside0.mk (below_drew1 HB.out)
   clear HO761
   clear BK755
   clear HB
   have HO761 := n0_
   have BK755 := n1_
   have HB := n2_
   clear n0_ n1_ n2_
   refine start_ (n := 16) (S := fun w' => w'.cell? ⟨gb755, 0, none⟩ = some (.int .u64 1) ∧ w'.cell? ⟨gb755, 1, none⟩ = some (.int .i64 0) ∧ w'.cell? ⟨gb755, 2, none⟩ = some (.int .u64 1) ∧ w'.cell? ⟨gb755, 3, none⟩ = some (.int .i64 0)) (ds := []) #[F_,F_,F_,F_,F_,F_,F_,F_,F_,F_,F_,F_,F_,F_,F_,F_] (by kernel_rfl) rfl rfl ⟨(blk_cell BK755.out 0).trans rfl, (blk_cell BK755.out 1).trans rfl, (blk_cell BK755.out 2).trans rfl, (blk_cell BK755.out 3).trans rfl⟩ (fun hHeld => ?_); refine with_tabW folkmootlaw16_awake.tab3 folkmootlaw16_awake.bits3 (fun HT_ HW_ => ?_)
   generalize w12.drew = w15 at HO761 BK755 HB hHeld ⊢
   refine pure_ (i := 0) (N := some 14) (v := ?_) (a' := ?_) #[T_,F_,F_,F_,F_,F_,F_,F_,F_,F_,F_,F_,F_,F_,F_,F_] rfl rfl (any_of HT_.out (by kernel_rfl)) (fun _ _ _ h => h) (Or.inl ⟨by rfl, ?_⟩) ?_ ?_
   rotate_left
   ·
    intro w'; go_simp; with_reducible rfl
   rotate_left
   ·
    exact zp_
   refine take_ (i := 2) (N := some 16) (v := ?_) (a' := ?_) #[T_,F_,T_,F_,F_,F_,F_,F_,F_,F_,F_,F_,F_,F_,F_,F_] rfl rfl (take_ofW HT_.out HW_.out (by kernel_rfl)) (fun _ _ _ h => h) (Or.inl ⟨by rfl, ?_⟩) hHeld ?_ ?_
   rotate_left
   ·
    rintro w' ⟨s0, s1, s2, s3⟩
    go_simp
    with_reducible rfl
   rotate_left
   ·
    exact zp_
   refine join_ (σ := Value × Value) 12 #[T_,T_,T_,T_,F_,F_,F_,F_,F_,F_,F_,F_,F_,F_,F_,F_] (fun s_ => [(15, s_.1), (17, s_.2)]) (fun s_ w' => (w'.cell? ⟨gb755, 0, none⟩ = some (.int .u64 1) ∧ w'.cell? ⟨gb755, 1, none⟩ = some (.int .i64 0) ∧ w'.cell? ⟨gb755, 2, none⟩ = some (.int .u64 1) ∧ w'.cell? ⟨gb755, 3, none⟩ = some (.int .i64 0)) ∧ (Kd.N k87 87 w' w.heap.size (fun k_ => some k_ ≠ (s_.1 : Value).ownBlock ∧ some k_ ≠ (s_.2 : Value).ownBlock ∧ k_ ≠ gb755) (.slice Ao14 y759.length co14) y759) ∧ (Kd.R k27 27 w' w.heap.size (fun k_ => some k_ ≠ (s_.2 : Value).ownBlock ∧ k_ ≠ gb755) s_.1 t762) ∧ (Kd.R k27 27 w' w.heap.size (fun k_ => some k_ ≠ (s_.1 : Value).ownBlock ∧ k_ ≠ gb755) s_.2 y765) ∧ (w'.heap[gb755]? = some (.cells #[.int .u64 1, .int .i64 0, .int .u64 1, .int .i64 0] 27 (0, 0))) ∧ (Below w.heap.size w w')) ?_ ?_
   rotate_left
   ·
    intro hCont
    refine two_ (i := 1) (j := 3) (Ni := some 15) (Nj := some 17) #[T_,T_,T_,F_,F_,F_,F_,F_,F_,F_,F_,F_,F_,F_,F_,F_] #[T_,F_,T_,T_,F_,F_,F_,F_,F_,F_,F_,F_,F_,F_,F_,F_] rfl rfl rfl rfl (two_of HT_.out (by kernel_rfl)) (by decide) (by decide) (fun K hK => ?_) (fun K hK => ?_)
    ·
     skip
     refine goes_ Try.func62 (by kernel_rfl) rfl #[.slice Ao14 y759.length co14] (by rfl) rfl rfl za_ ?_
     with_reducible refine (exchange_Short.calls k _ _ y759 t762 _ ?side1 ?side2 A1.out).mono ?_
     (case side1 => exact zd_ (Kd.N_reads' HO761.out).2.2)
     (case side2 => exact (Kd.N_reads' HO761.out).2.1)
     rintro e w16 ⟨v763, rfl, ho0, hb⟩
     refine ⟨_, rfl, ?_⟩
     have n0_ := Aside0.mk (Kd.N_elder' (zn_ HO761) (Kd.R_base ho0) hb)
     have n1_ := Aside0.mk (Kd.R_lower (Kd.R_newB ho0 (g := gb755) (o := .cells #[.int .u64 1, .int .i64 0, .int .u64 1, .int .i64 0] 27 (0, 0)) (by (with_reducible repeat (first | refine blk_drewN ?_ _ | refine blk_drew ?_ | refine blk_alloc ?_ _)); exact BK755.out)) (below_size zb_))
     have n2_ := zk_ BK755 hb
     have n3_ := Aside0.mk (below_step zb_ hb)
     clear HO761
     clear BK755
     clear HB
     have HO761 := n0_
     have HO764 := n1_
     have BK755 := n2_
     have HB := n3_
     clear n0_ n1_ n2_ n3_
     (try clear hb)
     (try clear hb2)
     (try clear hk)
     (try clear hi)
     (try clear ho0)
     refine hK.out _ _ ⟨(blk_cell BK755.out 0).trans rfl, (blk_cell BK755.out 1).trans rfl, (blk_cell BK755.out 2).trans rfl, (blk_cell BK755.out 3).trans rfl⟩ (fun hHeld => ?_)
     clear hK K
     refine norm_ (a' := ?_) ?_ ?_
     rotate_left
     ·
      show Act.put _ (some 15) _ = _
      simp only [Act.put, List.setIfInBounds_toArray, List.set_cons_zero, List.set_cons_succ, i64_w, i32_w]
      rfl
     refine one_ (i := 3) (N := some 17) #[T_,T_,T_,T_,F_,F_,F_,F_,F_,F_,F_,F_,F_,F_,F_,F_] rfl rfl (one_of HT_.out (by kernel_rfl)) (by decide) (fun K hK => ?_)
     refine Kd.R_lit_step k27 _ 27 ?hg (N := 17) ?hd (xs := ([(⟨(⟨1, 0⟩ : S25), 1, 0⟩ : S27)] : List (S27))) (inner := [.int .u64 1, .int .i64 0, .int .u64 1, .int .i64 0]) (ok := fun _ => True) (okp := fun _ => True) ?hr ?hp (fun _ hk => hk) trivial (Below.refl _ _) (Nat.le_refl _) (by simp) ?_; (case hd => rfl); (case hg => rfl); (case hr => first | (go_simp; done) | (go_simp; rfl)); (case hp => exact (Reps.c4 (show Kd.M k27 _ _ _ (⟨(⟨1, 0⟩ : S25), 1, 0⟩ : S27) [.int .u64 1, .int .i64 0, .int .u64 1, .int .i64 0] from (k27_mkM _ _ _ (⟨(⟨1, 0⟩ : S25), 1, 0⟩ : S27) )) (Reps.none _ _)))
     intro v766 w17 ho18 hb hg_ hnew_
     clear hg_ hnew_
     (first | rw [← Ny765.out] at ho18 | (simp only [Int.reduceToNat] at ho18; rw [← Ny765.out] at ho18))
     have n0_ := Aside0.mk (Kd.N_elder' (zn_ HO761) (Kd.R_base ho18) hb)
     have n1_ := Aside0.mk (Kd.R_elder' (zr_ HO764) (Kd.R_base ho18) hb)
     have n2_ := Aside0.mk (Kd.R_lower (Kd.R_newB (Kd.R_new' ho18 (Kd.R_lt (zr_ HO764))) (g := gb755) (o := .cells #[.int .u64 1, .int .i64 0, .int .u64 1, .int .i64 0] 27 (0, 0)) (by (with_reducible repeat (first | refine blk_drewN ?_ _ | refine blk_drew ?_ | refine blk_alloc ?_ _)); exact BK755.out)) (below_size zb_))
     have n3_ := zk_ BK755 hb
     have n4_ := Aside0.mk (below_step zb_ hb)
     clear HO761
     clear HO764
     clear BK755
     clear HB
     have HO761 := n0_
     have HO764 := n1_
     have HO767 := n2_
     have BK755 := n3_
     have HB := n4_
     clear n0_ n1_ n2_ n3_ n4_
     clear hb ho18
     refine hK.out _ _ ⟨(blk_cell BK755.out 0).trans rfl, (blk_cell BK755.out 1).trans rfl, (blk_cell BK755.out 2).trans rfl, (blk_cell BK755.out 3).trans rfl⟩ (fun hHeld => ?_)
     clear hK K
     refine norm_ (a' := ?_) ?_ ?_
     rotate_left
     ·
      show Act.put _ (some 17) _ = _
      simp only [Act.put, List.setIfInBounds_toArray, List.set_cons_zero, List.set_cons_succ, i64_w, i32_w]
      rfl
     exact norm_ (by simp only [putAll, Act.put, List.setIfInBounds_toArray, List.set_cons_zero, List.set_cons_succ]) (hCont (v763, v766) _ ⟨hHeld, (by (with_reducible repeat (first | apply Kd.N_alloc | apply Kd.N_drewN | apply Kd.N_drew)); exact Kd.N_mono HO761.out (fun _ hk => ⟨hk.1.2, ⟨hk.2, hk.1.1⟩⟩)), (by (with_reducible repeat (first | apply Kd.R_alloc | apply Kd.R_drewN | apply Kd.R_drew)); exact Kd.R_mono HO764.out (fun _ hk => ⟨hk.2, hk.1.2⟩)), (by (with_reducible repeat (first | apply Kd.R_alloc | apply Kd.R_drewN | apply Kd.R_drew)); exact Kd.R_mono HO767.out (fun _ hk => ⟨hk.1.2, hk.2⟩)), (by (with_reducible repeat (first | refine blk_drewN ?_ _ | refine blk_drew ?_ | refine blk_alloc ?_ _)); exact BK755.out), zb_⟩)
    ·
     skip
     refine Kd.R_lit_step k27 _ 27 ?hg (N := 17) ?hd (xs := ([(⟨(⟨1, 0⟩ : S25), 1, 0⟩ : S27)] : List (S27))) (inner := [.int .u64 1, .int .i64 0, .int .u64 1, .int .i64 0]) (ok := fun _ => True) (okp := fun _ => True) ?hr ?hp (fun _ hk => hk) trivial (Below.refl _ _) (Nat.le_refl _) (by simp) ?_; (case hd => rfl); (case hg => rfl); (case hr => first | (go_simp; done) | (go_simp; rfl)); (case hp => exact (Reps.c4 (show Kd.M k27 _ _ _ (⟨(⟨1, 0⟩ : S25), 1, 0⟩ : S27) [.int .u64 1, .int .i64 0, .int .u64 1, .int .i64 0] from (k27_mkM _ _ _ (⟨(⟨1, 0⟩ : S25), 1, 0⟩ : S27) )) (Reps.none _ _)))
     intro v766 w16 ho17 hb hg_ hnew_
     clear hg_ hnew_
     (first | rw [← Ny765.out] at ho17 | (simp only [Int.reduceToNat] at ho17; rw [← Ny765.out] at ho17))
     have n0_ := Aside0.mk (Kd.N_elder' (zn_ HO761) (Kd.R_base ho17) hb)
     have n1_ := Aside0.mk (Kd.R_lower (Kd.R_newB ho17 (g := gb755) (o := .cells #[.int .u64 1, .int .i64 0, .int .u64 1, .int .i64 0] 27 (0, 0)) (by (with_reducible repeat (first | refine blk_drewN ?_ _ | refine blk_drew ?_ | refine blk_alloc ?_ _)); exact BK755.out)) (below_size zb_))
     have n2_ := zk_ BK755 hb
     have n3_ := Aside0.mk (below_step zb_ hb)
     clear HO761
     clear BK755
     clear HB
     have HO761 := n0_
     have HO767 := n1_
     have BK755 := n2_
     have HB := n3_
     clear n0_ n1_ n2_ n3_
     clear hb ho17
     refine hK.out _ _ ⟨(blk_cell BK755.out 0).trans rfl, (blk_cell BK755.out 1).trans rfl, (blk_cell BK755.out 2).trans rfl, (blk_cell BK755.out 3).trans rfl⟩ (fun hHeld => ?_)
     clear hK K
     refine norm_ (a' := ?_) ?_ ?_
     rotate_left
     ·
      show Act.put _ (some 17) _ = _
      simp only [Act.put, List.setIfInBounds_toArray, List.set_cons_zero, List.set_cons_succ, i64_w, i32_w]
      rfl
     refine one_ (i := 1) (N := some 15) #[T_,T_,T_,T_,F_,F_,F_,F_,F_,F_,F_,F_,F_,F_,F_,F_] rfl rfl (one_of HT_.out (by kernel_rfl)) (by decide) (fun K hK => ?_)
     refine goes_ Try.func62 (by kernel_rfl) rfl #[.slice Ao14 y759.length co14] (by rfl) rfl rfl za_ ?_
     with_reducible refine (exchange_Short.calls k _ _ y759 t762 _ ?side1 ?side2 A1.out).mono ?_
     (case side1 => exact zd_ (Kd.N_reads' HO761.out).2.2)
     (case side2 => exact (Kd.N_reads' HO761.out).2.1)
     rintro e w18 ⟨v763, rfl, ho0, hb⟩
     refine ⟨_, rfl, ?_⟩
     have n0_ := Aside0.mk (Kd.N_elder' (zn_ HO761) (Kd.R_base ho0) hb)
     have n1_ := Aside0.mk (Kd.R_elder' (zr_ HO767) (Kd.R_base ho0) hb)
     have n2_ := Aside0.mk (Kd.R_lower (Kd.R_newB (Kd.R_new' ho0 (Kd.R_lt (zr_ HO767))) (g := gb755) (o := .cells #[.int .u64 1, .int .i64 0, .int .u64 1, .int .i64 0] 27 (0, 0)) (by (with_reducible repeat (first | refine blk_drewN ?_ _ | refine blk_drew ?_ | refine blk_alloc ?_ _)); exact BK755.out)) (below_size zb_))
     have n3_ := zk_ BK755 hb
     have n4_ := Aside0.mk (below_step zb_ hb)
     clear HO761
     clear HO767
     clear BK755
     clear HB
     have HO761 := n0_
     have HO767 := n1_
     have HO764 := n2_
     have BK755 := n3_
     have HB := n4_
     clear n0_ n1_ n2_ n3_ n4_
     (try clear hb)
     (try clear hb2)
     (try clear hk)
     (try clear hi)
     (try clear ho0)
     refine hK.out _ _ ⟨(blk_cell BK755.out 0).trans rfl, (blk_cell BK755.out 1).trans rfl, (blk_cell BK755.out 2).trans rfl, (blk_cell BK755.out 3).trans rfl⟩ (fun hHeld => ?_)
     clear hK K
     refine norm_ (a' := ?_) ?_ ?_
     rotate_left
     ·
      show Act.put _ (some 15) _ = _
      simp only [Act.put, List.setIfInBounds_toArray, List.set_cons_zero, List.set_cons_succ, i64_w, i32_w]
      rfl
     exact norm_ (by simp only [putAll, Act.put, List.setIfInBounds_toArray, List.set_cons_zero, List.set_cons_succ]) (hCont (v763, v766) _ ⟨hHeld, (by (with_reducible repeat (first | apply Kd.N_alloc | apply Kd.N_drewN | apply Kd.N_drew)); exact Kd.N_mono HO761.out (fun _ hk => ⟨hk.2, ⟨hk.1.2, hk.1.1⟩⟩)), (by (with_reducible repeat (first | apply Kd.R_alloc | apply Kd.R_drewN | apply Kd.R_drew)); exact Kd.R_mono HO764.out (fun _ hk => ⟨hk.1.2, hk.2⟩)), (by (with_reducible repeat (first | apply Kd.R_alloc | apply Kd.R_drewN | apply Kd.R_drew)); exact Kd.R_mono HO767.out (fun _ hk => ⟨hk.2, hk.1.2⟩)), (by (with_reducible repeat (first | refine blk_drewN ?_ _ | refine blk_drew ?_ | refine blk_alloc ?_ _)); exact BK755.out), zb_⟩)
   rintro ⟨v763, v766⟩ w19 ⟨hS_, h0_, h1_, h2_, h3_, h4_⟩
   have n0_ : Aside0 (Kd.N k87 87 w19 w.heap.size (fun k_ => some k_ ≠ (v763 : Value).ownBlock ∧ some k_ ≠ (v766 : Value).ownBlock ∧ k_ ≠ gb755) (.slice Ao14 y759.length co14) y759) := ⟨h0_⟩
   have n1_ : Aside0 (Kd.R k27 27 w19 w.heap.size (fun k_ => some k_ ≠ (v766 : Value).ownBlock ∧ k_ ≠ gb755) v763 t762) := ⟨h1_⟩
   have n2_ : Aside0 (Kd.R k27 27 w19 w.heap.size (fun k_ => some k_ ≠ (v763 : Value).ownBlock ∧ k_ ≠ gb755) v766 y765) := ⟨h2_⟩
   have n3_ : Aside0 (w19.heap[gb755]? = some (.cells #[.int .u64 1, .int .i64 0, .int .u64 1, .int .i64 0] 27 (0, 0))) := ⟨h3_⟩
   have n4_ : Aside0 (Below w.heap.size w w19) := ⟨h4_⟩
   clear HO761
   clear BK755
   clear HB
   clear h0_ h1_ h2_ h3_ h4_
   have HO761 := n0_
   have HO764 := n1_
   have HO767 := n2_
   have BK755 := n3_
   have HB := n4_
   clear n0_ n1_ n2_ n3_ n4_
   have hHeld : w19.cell? ⟨gb755, 0, none⟩ = some (.int .u64 1) ∧ w19.cell? ⟨gb755, 1, none⟩ = some (.int .i64 0) ∧ w19.cell? ⟨gb755, 2, none⟩ = some (.int .u64 1) ∧ w19.cell? ⟨gb755, 3, none⟩ = some (.int .i64 0) := hS_
   obtain ⟨Ao20, co20, eo20⟩ := Kd.R_slice HO764.out
   (first | subst eo20 | (injection eo20 with f1_ f2_ f3_; have f4_ := f1_.symm; have f5_ := f3_.symm; clear f1_ f2_ f3_; subst f4_; subst f5_))
   obtain ⟨Ao21, co21, eo21⟩ := Kd.R_slice HO767.out
   (first | subst eo21 | (injection eo21 with f1_ f2_ f3_; have f4_ := f1_.symm; have f5_ := f3_.symm; clear f1_ f2_ f3_; subst f4_; subst f5_))
   refine norm_ (a' := ?_) ?_ ?_
   rotate_left
   ·
    simp only [putAll, Act.put, List.setIfInBounds_toArray, List.set_cons_zero, List.set_cons_succ]
    rfl
   refine one_ (i := 4) (N := some 18) #[T_,T_,T_,T_,T_,F_,F_,F_,F_,F_,F_,F_,F_,F_,F_,F_] rfl rfl (one_of HT_.out (by kernel_rfl)) (by decide) (fun K hK => ?_)
   refine goes_ Try.func30 (by kernel_rfl) rfl #[.slice Ao20 t762.length co20, .slice Ao21 y765.length co21] (by rfl) rfl rfl za_ ?_
   with_reducible refine (folkmootref05_Same.calls k _ _ t762 _ _ y765 true _ ?side1 ?side2 ?side3 ?side4 A2.out).mono ?_
   (case side1 => exact zd_ (Kd.R_reads' HO764.out).2.2)
   (case side2 => exact (Kd.R_reads' HO764.out).2.1)
   (case side3 => exact zd_ (Kd.R_reads' HO767.out).2.2)
   (case side4 => exact (Kd.R_reads' HO767.out).2.1)
   rintro e w' ⟨rfl, ⟨nd, rfl⟩⟩
   refine ⟨_, rfl, ?_⟩
   refine hK.out _ _ ⟨(blk_cell BK755.out 0).trans rfl, (blk_cell BK755.out 1).trans rfl, (blk_cell BK755.out 2).trans rfl, (blk_cell BK755.out 3).trans rfl⟩ (fun hHeld => ?_)
   clear hK K
   refine norm_ (a' := ?_) ?_ ?_
   rotate_left
   ·
    show Act.put _ (some 18) _ = _
    simp only [Act.put, List.setIfInBounds_toArray, List.set_cons_zero, List.set_cons_succ, i64_w, i32_w]
    rfl
   refine pure_ (i := 5) (N := some 19) (v := ?_) (a' := ?_) #[T_,T_,T_,T_,T_,T_,F_,F_,F_,F_,F_,F_,F_,F_,F_,F_] rfl rfl (any_of HT_.out (by kernel_rfl)) (fun _ _ _ h => h) (Or.inl ⟨by rfl, ?_⟩) ?_ ?_
   rotate_left
   ·
    intro w'; go_simp; with_reducible rfl
   rotate_left
   ·
    exact zp_
   refine pure_ (i := 6) (N := some 20) (v := ?_) (a' := ?_) #[T_,T_,T_,T_,T_,T_,T_,F_,F_,F_,F_,F_,F_,F_,F_,F_] rfl rfl (any_of HT_.out (by kernel_rfl)) (fun _ _ _ h => h) (Or.inl ⟨by rfl, ?_⟩) ?_ ?_
   rotate_left
   ·
    intro w'; go_simp; with_reducible rfl
   rotate_left
   ·
    exact zp_
   refine one_ (i := 7) (N := some 21) #[T_,T_,T_,T_,T_,T_,T_,T_,F_,F_,F_,F_,F_,F_,F_,F_] rfl rfl (one_of HT_.out (by kernel_rfl)) (by decide) (fun K hK => ?_)
   refine goes_ Try.func61 (by kernel_rfl) rfl #[.slice Ao14 y759.length co14] (by rfl) rfl rfl za_ ?_
   with_reducible refine (exchange_Chosen.calls k _ _ y759 t769 _ ?side1 ?side2 A4.out).mono ?_
   (case side1 => exact zd_ (Kd.N_reads' HO761.out).2.2)
   (case side2 => exact (Kd.N_reads' HO761.out).2.1)
   rintro e w22 ⟨rfl, hb⟩
   refine ⟨_, rfl, ?_⟩
   have n0_ := Aside0.mk (Kd.N_below (zn_ HO761) hb)
   have n1_ := Aside0.mk (Kd.R_below (zr_ HO764) hb)
   have n2_ := Aside0.mk (Kd.R_below (zr_ HO767) hb)
   have n3_ := zk_ BK755 hb
   have n4_ := Aside0.mk (below_step zb_ hb)
   clear HO761
   clear HO764
   clear HO767
   clear BK755
   clear HB
   have HO761 := n0_
   have HO764 := n1_
   have HO767 := n2_
   have BK755 := n3_
   have HB := n4_
   clear n0_ n1_ n2_ n3_ n4_
   (try clear hb)
   (try clear hb2)
   (try clear hk)
   (try clear hi)
   refine hK.out _ _ ⟨(blk_cell BK755.out 0).trans rfl, (blk_cell BK755.out 1).trans rfl, (blk_cell BK755.out 2).trans rfl, (blk_cell BK755.out 3).trans rfl⟩ (fun hHeld => ?_)
   clear hK K
   refine norm_ (a' := ?_) ?_ ?_
   rotate_left
   ·
    show Act.put _ (some 21) _ = _
    simp only [Act.put, List.setIfInBounds_toArray, List.set_cons_zero, List.set_cons_succ, i64_w, i32_w]
    rfl
   refine pure_ (i := 8) (N := some 22) (v := ?_) (a' := ?_) #[T_,T_,T_,T_,T_,T_,T_,T_,T_,F_,F_,F_,F_,F_,F_,F_] rfl rfl (any_of HT_.out (by kernel_rfl)) (fun _ _ _ h => h) (Or.inl ⟨by rfl, ?_⟩) ?_ ?_
   rotate_left
   ·
    intro w'; go_simp; with_reducible rfl
   rotate_left
   ·
    exact zp_
   refine pure_ (i := 9) (N := some 23) (v := ?_) (a' := ?_) #[T_,T_,T_,T_,T_,T_,T_,T_,T_,T_,F_,F_,F_,F_,F_,F_] rfl rfl (any_of HT_.out (by kernel_rfl)) (fun _ _ _ h => h) (Or.inl ⟨by rfl, ?_⟩) ?_ ?_
   rotate_left
   ·
    intro w'; go_simp; with_reducible rfl
   rotate_left
   ·
    exact zp_
   refine pure_ (i := 10) (N := some 24) (v := ?_) (a' := ?_) #[T_,T_,T_,T_,T_,T_,T_,T_,T_,T_,T_,F_,F_,F_,F_,F_] rfl rfl (any_of HT_.out (by kernel_rfl)) (fun _ _ _ h => h) (Or.inl ⟨by rfl, ?_⟩) ?_ ?_
   rotate_left
   ·
    intro w'; go_simp; with_reducible rfl
   rotate_left
   ·
    exact zp_
   refine pure_ (i := 11) (N := some 25) (v := ?_) (a' := ?_) #[T_,T_,T_,T_,T_,T_,T_,T_,T_,T_,T_,T_,F_,F_,F_,F_] rfl rfl (any_of HT_.out (by kernel_rfl)) (fun _ _ _ h => h) (Or.inl ⟨by rfl, ?_⟩) ?_ ?_
   rotate_left
   ·
    intro w'; go_simp; with_reducible rfl
   rotate_left
   ·
    exact zp_
   refine one_ (i := 12) (N := some 26) #[T_,T_,T_,T_,T_,T_,T_,T_,T_,T_,T_,T_,T_,F_,F_,F_] rfl rfl (one_of HT_.out (by kernel_rfl)) (by decide) (fun K hK => ?_)
   refine goes_ Try.func68 (by kernel_rfl) rfl #[.slice Ao14 y759.length co14] (by rfl) rfl rfl za_ ?_
   with_reducible refine (exchange_Next.calls k _ _ y759 t770 _ ?side1 ?side2 A6.out).mono ?_
   (case side1 => exact zd_ (Kd.N_reads' HO761.out).2.2)
   (case side2 => exact (Kd.N_reads' HO761.out).2.1)
   rintro e w23 ⟨rfl, hb⟩
   refine ⟨_, rfl, ?_⟩
   have n0_ := Aside0.mk (Kd.N_below (zn_ HO761) hb)
   have n1_ := Aside0.mk (Kd.R_below (zr_ HO764) hb)
   have n2_ := Aside0.mk (Kd.R_below (zr_ HO767) hb)
   have n3_ := zk_ BK755 hb
   have n4_ := Aside0.mk (below_step zb_ hb)
   clear HO761
   clear HO764
   clear HO767
   clear BK755
   clear HB
   have HO761 := n0_
   have HO764 := n1_
   have HO767 := n2_
   have BK755 := n3_
   have HB := n4_
   clear n0_ n1_ n2_ n3_ n4_
   (try clear hb)
   (try clear hb2)
   (try clear hk)
   (try clear hi)
   refine hK.out _ _ ⟨(blk_cell BK755.out 0).trans rfl, (blk_cell BK755.out 1).trans rfl, (blk_cell BK755.out 2).trans rfl, (blk_cell BK755.out 3).trans rfl⟩ (fun hHeld => ?_)
   clear hK K
   refine norm_ (a' := ?_) ?_ ?_
   rotate_left
   ·
    show Act.put _ (some 26) _ = _
    simp only [Act.put, List.setIfInBounds_toArray, List.set_cons_zero, List.set_cons_succ, i64_w, i32_w]
    rfl
   refine pure_ (i := 13) (N := some 27) (v := ?_) (a' := ?_) #[T_,T_,T_,T_,T_,T_,T_,T_,T_,T_,T_,T_,T_,T_,F_,F_] rfl rfl (any_of HT_.out (by kernel_rfl)) (fun _ _ _ h => h) (Or.inl ⟨by rfl, ?_⟩) ?_ ?_
   rotate_left
   ·
    intro w'; go_simp; with_reducible rfl
   rotate_left
   ·
    exact zp_
   refine pure_ (i := 14) (N := some 28) (v := ?_) (a' := ?_) #[T_,T_,T_,T_,T_,T_,T_,T_,T_,T_,T_,T_,T_,T_,T_,F_] rfl rfl (any_of HT_.out (by kernel_rfl)) (fun _ _ _ h => h) (Or.inl ⟨by rfl, ?_⟩) ?_ ?_
   rotate_left
   ·
    intro w'; go_simp; with_reducible rfl
   rotate_left
   ·
    exact zp_
   refine pure_ (i := 15) (N := some 0) (v := ?_) (a' := ?_) #[T_,T_,T_,T_,T_,T_,T_,T_,T_,T_,T_,T_,T_,T_,T_,T_] rfl rfl (any_of HT_.out (by kernel_rfl)) (fun _ _ _ h => h) (Or.inl ⟨by rfl, ?_⟩) ?_ ?_
   rotate_left
   ·
    intro w'; go_simp; with_reducible rfl
   rotate_left
   ·
    exact zp_
   refine done_ (done_of HT_.out (by kernel_rfl)) ?_
   (try clear hHeld); (try clear HS0_)
   try go_wp2
   go_ret
   exact ⟨by first | rfl | (simp [errW_none, errW_some] <;> rfl) | (simp [*, errW_none, errW_some] <;> rfl), by repeat (first | (with_reducible first | exact HB.out | apply below_alloc | apply pw_below_drewN | apply below_drew1 | refine below_set ?_ GE755.out) | exact HB.out)⟩
  ·
   rw [if_neg c5] at H
   have c5b0 : (t769 == 1) = false := beq_eq_false_iff_ne.mpr c5
   have c5b1 : (t769 != 1) = true := bne_iff_ne.mpr c5
   obtain rfl := Option.some.inj H
   go_enter Try.func55, Try.ntmps55
   try go_wp2_with (first | ((with_reducible refine gate_dst (N := 1) rfl ?_); refine box_event ?hg (N := 1) ?hd (cs := #[.int .u64 0, .int .i64 0, .int .u64 0, .int .i64 0]) (t := 27) ?hr ?_; (case hd => rfl); (case hg => rfl); (case hr => first | (go_simp; done) | (go_simp; rfl)); intro gb755 hg w24 hbox hb; have n0_ := Aside0.mk (below_step zb_ hb); have n1_ := Aside0.mk (hbox); have n2_ := Aside0.mk ((by rw [hg]; exact (below_size zb_) : w.heap.size ≤ gb755)); have n3_ := Aside0.mk ((by rw [hg]; exact (below_size zb_) : w.heap.size ≤ gb755)); clear HB; have HB := n0_; have BK755 := n1_; have GW755 := n2_; have GE755 := n3_; clear n0_ n1_ n2_ n3_; clear hb hbox hg; have hcz25_0 : w24.cell? ⟨gb755, 0, none⟩ = some (.int .u64 0) := (blk_cell BK755.out 0).trans rfl; have hcz25_1 : w24.cell? ⟨gb755, 1, none⟩ = some (.int .i64 0) := (blk_cell BK755.out 1).trans rfl; have hcz25_2 : w24.cell? ⟨gb755, 2, none⟩ = some (.int .u64 0) := (blk_cell BK755.out 2).trans rfl; have hcz25_3 : w24.cell? ⟨gb755, 3, none⟩ = some (.int .i64 0) := (blk_cell BK755.out 3).trans rfl; have hfz25_0 := blk_frozen BK755.out 0; have hfz25_1 := blk_frozen BK755.out 1; have hfz25_2 := blk_frozen BK755.out 2; have hfz25_3 := blk_frozen BK755.out 3) | ((with_reducible refine gate_dst (N := 10) rfl ?_); refine Kd.R_lit k27 _ 27 ?hg (N := 10) ?hd (xs := ([(⟨(⟨1, 0⟩ : S25), 1, 0⟩ : S27)] : List (S27))) (inner := [.int .u64 1, .int .i64 0, .int .u64 1, .int .i64 0]) (ok := fun _ => True) (okp := fun _ => True) ?hr ?hp (fun _ hk => hk) trivial (Below.refl _ _) (Nat.le_refl _) (by simp) ?_; (case hd => rfl); (case hg => rfl); (case hr => first | (go_simp; done) | (go_simp; rfl)); (case hp => exact (Reps.c4 (show Kd.M k27 _ _ _ (⟨(⟨1, 0⟩ : S25), 1, 0⟩ : S27) [.int .u64 1, .int .i64 0, .int .u64 1, .int .i64 0] from (k27_mkM _ _ _ (⟨(⟨1, 0⟩ : S25), 1, 0⟩ : S27) )) (Reps.none _ _))); intro v757 w26 ho27 hb hg_ hnew_; clear hg_ hnew_; (first | rw [← Ny756.out] at ho27 | (simp only [Int.reduceToNat] at ho27; rw [← Ny756.out] at ho27)); have n0_ := Aside0.mk (Kd.R_lower (Kd.R_newB ho27 (g := gb755) (o := .cells #[.int .u64 1, .int .i64 0, .int .u64 1, .int .i64 0] 27 (0, 0)) (by (with_reducible repeat (first | refine blk_drewN ?_ _ | refine blk_drew ?_ | refine blk_alloc ?_ _)); refine blk_put (cs := #[.int .u64 1, .int .i64 0, .int .u64 1, .int .i64 0]) ?_ 3 _ rfl; (with_reducible repeat (first | refine blk_drewN ?_ _ | refine blk_drew ?_ | refine blk_alloc ?_ _)); refine blk_put (cs := #[.int .u64 1, .int .i64 0, .int .u64 0, .int .i64 0]) ?_ 2 _ rfl; (with_reducible repeat (first | refine blk_drewN ?_ _ | refine blk_drew ?_ | refine blk_alloc ?_ _)); refine blk_put (cs := #[.int .u64 1, .int .i64 0, .int .u64 0, .int .i64 0]) ?_ 1 _ rfl; (with_reducible repeat (first | refine blk_drewN ?_ _ | refine blk_drew ?_ | refine blk_alloc ?_ _)); refine blk_put (cs := #[.int .u64 0, .int .i64 0, .int .u64 0, .int .i64 0]) ?_ 0 _ rfl; (with_reducible repeat (first | refine blk_drewN ?_ _ | refine blk_drew ?_ | refine blk_alloc ?_ _)); exact BK755.out)) (below_size zb_)); have n1_ := Aside0.mk (blk_below (g := gb755) (o := .cells #[.int .u64 1, .int .i64 0, .int .u64 1, .int .i64 0] 27 (0, 0)) (by (with_reducible repeat (first | refine blk_drewN ?_ _ | refine blk_drew ?_ | refine blk_alloc ?_ _)); refine blk_put (cs := #[.int .u64 1, .int .i64 0, .int .u64 1, .int .i64 0]) ?_ 3 _ rfl; (with_reducible repeat (first | refine blk_drewN ?_ _ | refine blk_drew ?_ | refine blk_alloc ?_ _)); refine blk_put (cs := #[.int .u64 1, .int .i64 0, .int .u64 0, .int .i64 0]) ?_ 2 _ rfl; (with_reducible repeat (first | refine blk_drewN ?_ _ | refine blk_drew ?_ | refine blk_alloc ?_ _)); refine blk_put (cs := #[.int .u64 1, .int .i64 0, .int .u64 0, .int .i64 0]) ?_ 1 _ rfl; (with_reducible repeat (first | refine blk_drewN ?_ _ | refine blk_drew ?_ | refine blk_alloc ?_ _)); refine blk_put (cs := #[.int .u64 0, .int .i64 0, .int .u64 0, .int .i64 0]) ?_ 0 _ rfl; (with_reducible repeat (first | refine blk_drewN ?_ _ | refine blk_drew ?_ | refine blk_alloc ?_ _)); exact BK755.out) hb); have n2_ := Aside0.mk (below_step zb_ hb); clear BK755; clear HB; have HO758 := n0_; have BK755 := n1_; have HB := n2_; clear n0_ n1_ n2_; clear hb ho27; obtain ⟨Ao28, co28, eo28⟩ := Kd.R_slice HO758.out; subst eo28) | ((with_reducible refine gate_dst (N := 13) rfl ?_); refine Kd.N_lit k87 _ 87 ?hg (N' := 13) ?hd (xs := ([(⟨0, (⟨([] : List (S32)), ([] : List (S27)), 1, (⟨1, 0⟩ : S25)⟩ : S53)⟩ : S87), (⟨1, (⟨([] : List (S32)), y756, 2, (⟨2, 0⟩ : S25)⟩ : S53)⟩ : S87)] : List (S87))) (inner := [.int .i64 0, .slice none 0 0, .slice none 0 0, .int .i64 1, .int .u64 1, .int .i64 0, .int .i64 1, .slice none 0 0, .slice Ao28 y756.length co28, .int .i64 2, .int .u64 2, .int .i64 0]) (ok := (fun k_ => k_ ≠ gb755)) (okp := (fun k_ => k_ ≠ gb755)) ?hr ?hp (fun _ hk => hk) ((show ∀ k_, w26.heap.size ≤ k_ → (fun k_ => k_ ≠ gb755) k_ from fun k_ hk => Kd.freshB (g := gb755) (o := .cells #[.int .u64 1, .int .i64 0, .int .u64 1, .int .i64 0] 27 (0, 0)) (by (with_reducible repeat (first | refine blk_drewN ?_ _ | refine blk_drew ?_ | refine blk_alloc ?_ _)); exact BK755.out) k_ hk) _ (Nat.le_refl _)) (Below.refl _ _) (Nat.le_refl _) (by simp) ?_; (case hd => rfl); (case hg => rfl); (case hr => first | (go_simp; done) | (go_simp; rfl)); (case hp => exact (Reps.c6 (show Kd.FK k87 _ _ (⟨0, (⟨([] : List (S32)), ([] : List (S27)), 1, (⟨1, 0⟩ : S25)⟩ : S53)⟩ : S87) [.int .i64 0, .slice none 0 0, .slice none 0 0, .int .i64 1, .int .u64 1, .int .i64 0] from (k87_mkF _ _ (⟨0, (⟨([] : List (S32)), ([] : List (S27)), 1, (⟨1, 0⟩ : S25)⟩ : S53)⟩ : S87) (Nat.le_refl _) (Kd.F_nil _ _ _) (Nat.le_refl _) (Kd.F_nil _ _ _))) (Reps.c6 (show Kd.FK k87 _ _ (⟨1, (⟨([] : List (S32)), y756, 2, (⟨2, 0⟩ : S25)⟩ : S53)⟩ : S87) [.int .i64 1, .slice none 0 0, .slice Ao28 y756.length co28, .int .i64 2, .int .u64 2, .int .i64 0] from (k87_mkF _ _ (⟨1, (⟨([] : List (S32)), y756, 2, (⟨2, 0⟩ : S25)⟩ : S53)⟩ : S87) (Nat.le_refl _) (Kd.F_nil _ _ _) (Kd.R_reads' (Kd.R_mono (ok' := (fun k_ => k_ ≠ gb755)) (HO758.out) (fun k_ hk => hk.2))).2.1 (Kd.R_F (Kd.R_mono (ok' := (fun k_ => k_ ≠ gb755)) (HO758.out) (fun k_ hk => hk.2))))) (Reps.none _ _)))); intro v760 w29 ho30 hb hg_ hnew_; clear hg_ hnew_; (first | rw [← Ny759.out] at ho30 | (simp only [Int.reduceToNat] at ho30; rw [← Ny759.out] at ho30)); have n0_ := Aside0.mk (Kd.N_lower ho30 (below_size zb_)); have n1_ := zk_ BK755 hb; have n2_ := Aside0.mk (below_step zb_ hb); clear BK755; clear HB; clear HO758; have HO761 := n0_; have BK755 := n1_; have HB := n2_; clear n0_ n1_ n2_; clear hb ho30; obtain ⟨Ao31, co31, eo31⟩ := Kd.N_slice HO761.out; subst eo31))
   have n0_ := Aside0.mk (Kd.N_drew HO761.out)
   have n1_ := Aside0.mk (blk_drew BK755.out)
   have n2_ := Aside0.mk (below_drew1 HB.out)
   clear HO761
   clear BK755
   clear HB
   have HO761 := n0_
   have BK755 := n1_
   have HB := n2_
   clear n0_ n1_ n2_
   refine start_ (n := 16) (S := fun w' => w'.cell? ⟨gb755, 0, none⟩ = some (.int .u64 1) ∧ w'.cell? ⟨gb755, 1, none⟩ = some (.int .i64 0) ∧ w'.cell? ⟨gb755, 2, none⟩ = some (.int .u64 1) ∧ w'.cell? ⟨gb755, 3, none⟩ = some (.int .i64 0)) (ds := []) #[F_,F_,F_,F_,F_,F_,F_,F_,F_,F_,F_,F_,F_,F_,F_,F_] (by kernel_rfl) rfl rfl ⟨(blk_cell BK755.out 0).trans rfl, (blk_cell BK755.out 1).trans rfl, (blk_cell BK755.out 2).trans rfl, (blk_cell BK755.out 3).trans rfl⟩ (fun hHeld => ?_); refine with_tabW folkmootlaw16_awake.tab3 folkmootlaw16_awake.bits3 (fun HT_ HW_ => ?_)
   generalize w29.drew = w32 at HO761 BK755 HB hHeld ⊢
   refine pure_ (i := 0) (N := some 14) (v := ?_) (a' := ?_) #[T_,F_,F_,F_,F_,F_,F_,F_,F_,F_,F_,F_,F_,F_,F_,F_] rfl rfl (any_of HT_.out (by kernel_rfl)) (fun _ _ _ h => h) (Or.inl ⟨by rfl, ?_⟩) ?_ ?_
   rotate_left
   ·
    intro w'; go_simp; with_reducible rfl
   rotate_left
   ·
    exact zp_
   refine take_ (i := 2) (N := some 16) (v := ?_) (a' := ?_) #[T_,F_,T_,F_,F_,F_,F_,F_,F_,F_,F_,F_,F_,F_,F_,F_] rfl rfl (take_ofW HT_.out HW_.out (by kernel_rfl)) (fun _ _ _ h => h) (Or.inl ⟨by rfl, ?_⟩) hHeld ?_ ?_
   rotate_left
   ·
    rintro w' ⟨s0, s1, s2, s3⟩
    go_simp
    with_reducible rfl
   rotate_left
   ·
    exact zp_
   refine join_ (σ := Value × Value) 12 #[T_,T_,T_,T_,F_,F_,F_,F_,F_,F_,F_,F_,F_,F_,F_,F_] (fun s_ => [(15, s_.1), (17, s_.2)]) (fun s_ w' => (w'.cell? ⟨gb755, 0, none⟩ = some (.int .u64 1) ∧ w'.cell? ⟨gb755, 1, none⟩ = some (.int .i64 0) ∧ w'.cell? ⟨gb755, 2, none⟩ = some (.int .u64 1) ∧ w'.cell? ⟨gb755, 3, none⟩ = some (.int .i64 0)) ∧ (Kd.N k87 87 w' w.heap.size (fun k_ => some k_ ≠ (s_.1 : Value).ownBlock ∧ some k_ ≠ (s_.2 : Value).ownBlock ∧ k_ ≠ gb755) (.slice Ao31 y759.length co31) y759) ∧ (Kd.R k27 27 w' w.heap.size (fun k_ => some k_ ≠ (s_.2 : Value).ownBlock ∧ k_ ≠ gb755) s_.1 t762) ∧ (Kd.R k27 27 w' w.heap.size (fun k_ => some k_ ≠ (s_.1 : Value).ownBlock ∧ k_ ≠ gb755) s_.2 y765) ∧ (w'.heap[gb755]? = some (.cells #[.int .u64 1, .int .i64 0, .int .u64 1, .int .i64 0] 27 (0, 0))) ∧ (Below w.heap.size w w')) ?_ ?_
   rotate_left
   ·
    intro hCont
    refine two_ (i := 1) (j := 3) (Ni := some 15) (Nj := some 17) #[T_,T_,T_,F_,F_,F_,F_,F_,F_,F_,F_,F_,F_,F_,F_,F_] #[T_,F_,T_,T_,F_,F_,F_,F_,F_,F_,F_,F_,F_,F_,F_,F_] rfl rfl rfl rfl (two_of HT_.out (by kernel_rfl)) (by decide) (by decide) (fun K hK => ?_) (fun K hK => ?_)
    ·
     skip
     refine goes_ Try.func62 (by kernel_rfl) rfl #[.slice Ao31 y759.length co31] (by rfl) rfl rfl za_ ?_
     with_reducible refine (exchange_Short.calls k _ _ y759 t762 _ ?side1 ?side2 A1.out).mono ?_
     (case side1 => exact zd_ (Kd.N_reads' HO761.out).2.2)
     (case side2 => exact (Kd.N_reads' HO761.out).2.1)
     rintro e w33 ⟨v763, rfl, ho0, hb⟩
     refine ⟨_, rfl, ?_⟩
     have n0_ := Aside0.mk (Kd.N_elder' (zn_ HO761) (Kd.R_base ho0) hb)
     have n1_ := Aside0.mk (Kd.R_lower (Kd.R_newB ho0 (g := gb755) (o := .cells #[.int .u64 1, .int .i64 0, .int .u64 1, .int .i64 0] 27 (0, 0)) (by (with_reducible repeat (first | refine blk_drewN ?_ _ | refine blk_drew ?_ | refine blk_alloc ?_ _)); exact BK755.out)) (below_size zb_))
     have n2_ := zk_ BK755 hb
     have n3_ := Aside0.mk (below_step zb_ hb)
     clear HO761
     clear BK755
     clear HB
     have HO761 := n0_
     have HO764 := n1_
     have BK755 := n2_
     have HB := n3_
     clear n0_ n1_ n2_ n3_
     (try clear hb)
     (try clear hb2)
     (try clear hk)
     (try clear hi)
     (try clear ho0)
     refine hK.out _ _ ⟨(blk_cell BK755.out 0).trans rfl, (blk_cell BK755.out 1).trans rfl, (blk_cell BK755.out 2).trans rfl, (blk_cell BK755.out 3).trans rfl⟩ (fun hHeld => ?_)
     clear hK K
     refine norm_ (a' := ?_) ?_ ?_
     rotate_left
     ·
      show Act.put _ (some 15) _ = _
      simp only [Act.put, List.setIfInBounds_toArray, List.set_cons_zero, List.set_cons_succ, i64_w, i32_w]
      rfl
     refine one_ (i := 3) (N := some 17) #[T_,T_,T_,T_,F_,F_,F_,F_,F_,F_,F_,F_,F_,F_,F_,F_] rfl rfl (one_of HT_.out (by kernel_rfl)) (by decide) (fun K hK => ?_)
     refine Kd.R_lit_step k27 _ 27 ?hg (N := 17) ?hd (xs := ([(⟨(⟨1, 0⟩ : S25), 1, 0⟩ : S27)] : List (S27))) (inner := [.int .u64 1, .int .i64 0, .int .u64 1, .int .i64 0]) (ok := fun _ => True) (okp := fun _ => True) ?hr ?hp (fun _ hk => hk) trivial (Below.refl _ _) (Nat.le_refl _) (by simp) ?_; (case hd => rfl); (case hg => rfl); (case hr => first | (go_simp; done) | (go_simp; rfl)); (case hp => exact (Reps.c4 (show Kd.M k27 _ _ _ (⟨(⟨1, 0⟩ : S25), 1, 0⟩ : S27) [.int .u64 1, .int .i64 0, .int .u64 1, .int .i64 0] from (k27_mkM _ _ _ (⟨(⟨1, 0⟩ : S25), 1, 0⟩ : S27) )) (Reps.none _ _)))
     intro v766 w34 ho35 hb hg_ hnew_
     clear hg_ hnew_
     (first | rw [← Ny765.out] at ho35 | (simp only [Int.reduceToNat] at ho35; rw [← Ny765.out] at ho35))
     have n0_ := Aside0.mk (Kd.N_elder' (zn_ HO761) (Kd.R_base ho35) hb)
     have n1_ := Aside0.mk (Kd.R_elder' (zr_ HO764) (Kd.R_base ho35) hb)
     have n2_ := Aside0.mk (Kd.R_lower (Kd.R_newB (Kd.R_new' ho35 (Kd.R_lt (zr_ HO764))) (g := gb755) (o := .cells #[.int .u64 1, .int .i64 0, .int .u64 1, .int .i64 0] 27 (0, 0)) (by (with_reducible repeat (first | refine blk_drewN ?_ _ | refine blk_drew ?_ | refine blk_alloc ?_ _)); exact BK755.out)) (below_size zb_))
     have n3_ := zk_ BK755 hb
     have n4_ := Aside0.mk (below_step zb_ hb)
     clear HO761
     clear HO764
     clear BK755
     clear HB
     have HO761 := n0_
     have HO764 := n1_
     have HO767 := n2_
     have BK755 := n3_
     have HB := n4_
     clear n0_ n1_ n2_ n3_ n4_
     clear hb ho35
     refine hK.out _ _ ⟨(blk_cell BK755.out 0).trans rfl, (blk_cell BK755.out 1).trans rfl, (blk_cell BK755.out 2).trans rfl, (blk_cell BK755.out 3).trans rfl⟩ (fun hHeld => ?_)
     clear hK K
     refine norm_ (a' := ?_) ?_ ?_
     rotate_left
     ·
      show Act.put _ (some 17) _ = _
      simp only [Act.put, List.setIfInBounds_toArray, List.set_cons_zero, List.set_cons_succ, i64_w, i32_w]
      rfl
     exact norm_ (by simp only [putAll, Act.put, List.setIfInBounds_toArray, List.set_cons_zero, List.set_cons_succ]) (hCont (v763, v766) _ ⟨hHeld, (by (with_reducible repeat (first | apply Kd.N_alloc | apply Kd.N_drewN | apply Kd.N_drew)); exact Kd.N_mono HO761.out (fun _ hk => ⟨hk.1.2, ⟨hk.2, hk.1.1⟩⟩)), (by (with_reducible repeat (first | apply Kd.R_alloc | apply Kd.R_drewN | apply Kd.R_drew)); exact Kd.R_mono HO764.out (fun _ hk => ⟨hk.2, hk.1.2⟩)), (by (with_reducible repeat (first | apply Kd.R_alloc | apply Kd.R_drewN | apply Kd.R_drew)); exact Kd.R_mono HO767.out (fun _ hk => ⟨hk.1.2, hk.2⟩)), (by (with_reducible repeat (first | refine blk_drewN ?_ _ | refine blk_drew ?_ | refine blk_alloc ?_ _)); exact BK755.out), zb_⟩)
    ·
     skip
     refine Kd.R_lit_step k27 _ 27 ?hg (N := 17) ?hd (xs := ([(⟨(⟨1, 0⟩ : S25), 1, 0⟩ : S27)] : List (S27))) (inner := [.int .u64 1, .int .i64 0, .int .u64 1, .int .i64 0]) (ok := fun _ => True) (okp := fun _ => True) ?hr ?hp (fun _ hk => hk) trivial (Below.refl _ _) (Nat.le_refl _) (by simp) ?_; (case hd => rfl); (case hg => rfl); (case hr => first | (go_simp; done) | (go_simp; rfl)); (case hp => exact (Reps.c4 (show Kd.M k27 _ _ _ (⟨(⟨1, 0⟩ : S25), 1, 0⟩ : S27) [.int .u64 1, .int .i64 0, .int .u64 1, .int .i64 0] from (k27_mkM _ _ _ (⟨(⟨1, 0⟩ : S25), 1, 0⟩ : S27) )) (Reps.none _ _)))
     intro v766 w33 ho34 hb hg_ hnew_
     clear hg_ hnew_
     (first | rw [← Ny765.out] at ho34 | (simp only [Int.reduceToNat] at ho34; rw [← Ny765.out] at ho34))
     have n0_ := Aside0.mk (Kd.N_elder' (zn_ HO761) (Kd.R_base ho34) hb)
     have n1_ := Aside0.mk (Kd.R_lower (Kd.R_newB ho34 (g := gb755) (o := .cells #[.int .u64 1, .int .i64 0, .int .u64 1, .int .i64 0] 27 (0, 0)) (by (with_reducible repeat (first | refine blk_drewN ?_ _ | refine blk_drew ?_ | refine blk_alloc ?_ _)); exact BK755.out)) (below_size zb_))
     have n2_ := zk_ BK755 hb
     have n3_ := Aside0.mk (below_step zb_ hb)
     clear HO761
     clear BK755
     clear HB
     have HO761 := n0_
     have HO767 := n1_
     have BK755 := n2_
     have HB := n3_
     clear n0_ n1_ n2_ n3_
     clear hb ho34
     refine hK.out _ _ ⟨(blk_cell BK755.out 0).trans rfl, (blk_cell BK755.out 1).trans rfl, (blk_cell BK755.out 2).trans rfl, (blk_cell BK755.out 3).trans rfl⟩ (fun hHeld => ?_)
     clear hK K
     refine norm_ (a' := ?_) ?_ ?_
     rotate_left
     ·
      show Act.put _ (some 17) _ = _
      simp only [Act.put, List.setIfInBounds_toArray, List.set_cons_zero, List.set_cons_succ, i64_w, i32_w]
      rfl
     refine one_ (i := 1) (N := some 15) #[T_,T_,T_,T_,F_,F_,F_,F_,F_,F_,F_,F_,F_,F_,F_,F_] rfl rfl (one_of HT_.out (by kernel_rfl)) (by decide) (fun K hK => ?_)
     refine goes_ Try.func62 (by kernel_rfl) rfl #[.slice Ao31 y759.length co31] (by rfl) rfl rfl za_ ?_
     with_reducible refine (exchange_Short.calls k _ _ y759 t762 _ ?side1 ?side2 A1.out).mono ?_
     (case side1 => exact zd_ (Kd.N_reads' HO761.out).2.2)
     (case side2 => exact (Kd.N_reads' HO761.out).2.1)
     rintro e w35 ⟨v763, rfl, ho0, hb⟩
     refine ⟨_, rfl, ?_⟩
     have n0_ := Aside0.mk (Kd.N_elder' (zn_ HO761) (Kd.R_base ho0) hb)
     have n1_ := Aside0.mk (Kd.R_elder' (zr_ HO767) (Kd.R_base ho0) hb)
     have n2_ := Aside0.mk (Kd.R_lower (Kd.R_newB (Kd.R_new' ho0 (Kd.R_lt (zr_ HO767))) (g := gb755) (o := .cells #[.int .u64 1, .int .i64 0, .int .u64 1, .int .i64 0] 27 (0, 0)) (by (with_reducible repeat (first | refine blk_drewN ?_ _ | refine blk_drew ?_ | refine blk_alloc ?_ _)); exact BK755.out)) (below_size zb_))
     have n3_ := zk_ BK755 hb
     have n4_ := Aside0.mk (below_step zb_ hb)
     clear HO761
     clear HO767
     clear BK755
     clear HB
     have HO761 := n0_
     have HO767 := n1_
     have HO764 := n2_
     have BK755 := n3_
     have HB := n4_
     clear n0_ n1_ n2_ n3_ n4_
     (try clear hb)
     (try clear hb2)
     (try clear hk)
     (try clear hi)
     (try clear ho0)
     refine hK.out _ _ ⟨(blk_cell BK755.out 0).trans rfl, (blk_cell BK755.out 1).trans rfl, (blk_cell BK755.out 2).trans rfl, (blk_cell BK755.out 3).trans rfl⟩ (fun hHeld => ?_)
     clear hK K
     refine norm_ (a' := ?_) ?_ ?_
     rotate_left
     ·
      show Act.put _ (some 15) _ = _
      simp only [Act.put, List.setIfInBounds_toArray, List.set_cons_zero, List.set_cons_succ, i64_w, i32_w]
      rfl
     exact norm_ (by simp only [putAll, Act.put, List.setIfInBounds_toArray, List.set_cons_zero, List.set_cons_succ]) (hCont (v763, v766) _ ⟨hHeld, (by (with_reducible repeat (first | apply Kd.N_alloc | apply Kd.N_drewN | apply Kd.N_drew)); exact Kd.N_mono HO761.out (fun _ hk => ⟨hk.2, ⟨hk.1.2, hk.1.1⟩⟩)), (by (with_reducible repeat (first | apply Kd.R_alloc | apply Kd.R_drewN | apply Kd.R_drew)); exact Kd.R_mono HO764.out (fun _ hk => ⟨hk.1.2, hk.2⟩)), (by (with_reducible repeat (first | apply Kd.R_alloc | apply Kd.R_drewN | apply Kd.R_drew)); exact Kd.R_mono HO767.out (fun _ hk => ⟨hk.2, hk.1.2⟩)), (by (with_reducible repeat (first | refine blk_drewN ?_ _ | refine blk_drew ?_ | refine blk_alloc ?_ _)); exact BK755.out), zb_⟩)
   rintro ⟨v763, v766⟩ w36 ⟨hS_, h0_, h1_, h2_, h3_, h4_⟩
   have n0_ : Aside0 (Kd.N k87 87 w36 w.heap.size (fun k_ => some k_ ≠ (v763 : Value).ownBlock ∧ some k_ ≠ (v766 : Value).ownBlock ∧ k_ ≠ gb755) (.slice Ao31 y759.length co31) y759) := ⟨h0_⟩
   have n1_ : Aside0 (Kd.R k27 27 w36 w.heap.size (fun k_ => some k_ ≠ (v766 : Value).ownBlock ∧ k_ ≠ gb755) v763 t762) := ⟨h1_⟩
   have n2_ : Aside0 (Kd.R k27 27 w36 w.heap.size (fun k_ => some k_ ≠ (v763 : Value).ownBlock ∧ k_ ≠ gb755) v766 y765) := ⟨h2_⟩
   have n3_ : Aside0 (w36.heap[gb755]? = some (.cells #[.int .u64 1, .int .i64 0, .int .u64 1, .int .i64 0] 27 (0, 0))) := ⟨h3_⟩
   have n4_ : Aside0 (Below w.heap.size w w36) := ⟨h4_⟩
   clear HO761
   clear BK755
   clear HB
   clear h0_ h1_ h2_ h3_ h4_
   have HO761 := n0_
   have HO764 := n1_
   have HO767 := n2_
   have BK755 := n3_
   have HB := n4_
   clear n0_ n1_ n2_ n3_ n4_
   have hHeld : w36.cell? ⟨gb755, 0, none⟩ = some (.int .u64 1) ∧ w36.cell? ⟨gb755, 1, none⟩ = some (.int .i64 0) ∧ w36.cell? ⟨gb755, 2, none⟩ = some (.int .u64 1) ∧ w36.cell? ⟨gb755, 3, none⟩ = some (.int .i64 0) := hS_
   obtain ⟨Ao37, co37, eo37⟩ := Kd.R_slice HO764.out
   (first | subst eo37 | (injection eo37 with f1_ f2_ f3_; have f4_ := f1_.symm; have f5_ := f3_.symm; clear f1_ f2_ f3_; subst f4_; subst f5_))
   obtain ⟨Ao38, co38, eo38⟩ := Kd.R_slice HO767.out
   (first | subst eo38 | (injection eo38 with f1_ f2_ f3_; have f4_ := f1_.symm; have f5_ := f3_.symm; clear f1_ f2_ f3_; subst f4_; subst f5_))
   refine norm_ (a' := ?_) ?_ ?_
   rotate_left
   ·
    simp only [putAll, Act.put, List.setIfInBounds_toArray, List.set_cons_zero, List.set_cons_succ]
    rfl
   refine one_ (i := 4) (N := some 18) #[T_,T_,T_,T_,T_,F_,F_,F_,F_,F_,F_,F_,F_,F_,F_,F_] rfl rfl (one_of HT_.out (by kernel_rfl)) (by decide) (fun K hK => ?_)
   refine goes_ Try.func30 (by kernel_rfl) rfl #[.slice Ao37 t762.length co37, .slice Ao38 y765.length co38] (by rfl) rfl rfl za_ ?_
   with_reducible refine (folkmootref05_Same.calls k _ _ t762 _ _ y765 true _ ?side1 ?side2 ?side3 ?side4 A2.out).mono ?_
   (case side1 => exact zd_ (Kd.R_reads' HO764.out).2.2)
   (case side2 => exact (Kd.R_reads' HO764.out).2.1)
   (case side3 => exact zd_ (Kd.R_reads' HO767.out).2.2)
   (case side4 => exact (Kd.R_reads' HO767.out).2.1)
   rintro e w' ⟨rfl, ⟨nd, rfl⟩⟩
   refine ⟨_, rfl, ?_⟩
   refine hK.out _ _ ⟨(blk_cell BK755.out 0).trans rfl, (blk_cell BK755.out 1).trans rfl, (blk_cell BK755.out 2).trans rfl, (blk_cell BK755.out 3).trans rfl⟩ (fun hHeld => ?_)
   clear hK K
   refine norm_ (a' := ?_) ?_ ?_
   rotate_left
   ·
    show Act.put _ (some 18) _ = _
    simp only [Act.put, List.setIfInBounds_toArray, List.set_cons_zero, List.set_cons_succ, i64_w, i32_w]
    rfl
   refine pure_ (i := 5) (N := some 19) (v := ?_) (a' := ?_) #[T_,T_,T_,T_,T_,T_,F_,F_,F_,F_,F_,F_,F_,F_,F_,F_] rfl rfl (any_of HT_.out (by kernel_rfl)) (fun _ _ _ h => h) (Or.inl ⟨by rfl, ?_⟩) ?_ ?_
   rotate_left
   ·
    intro w'; go_simp; with_reducible rfl
   rotate_left
   ·
    exact zp_
   refine pure_ (i := 6) (N := some 20) (v := ?_) (a' := ?_) #[T_,T_,T_,T_,T_,T_,T_,F_,F_,F_,F_,F_,F_,F_,F_,F_] rfl rfl (any_of HT_.out (by kernel_rfl)) (fun _ _ _ h => h) (Or.inl ⟨by rfl, ?_⟩) ?_ ?_
   rotate_left
   ·
    intro w'; go_simp; with_reducible rfl
   rotate_left
   ·
    exact zp_
   refine one_ (i := 7) (N := some 21) #[T_,T_,T_,T_,T_,T_,T_,T_,F_,F_,F_,F_,F_,F_,F_,F_] rfl rfl (one_of HT_.out (by kernel_rfl)) (by decide) (fun K hK => ?_)
   refine goes_ Try.func61 (by kernel_rfl) rfl #[.slice Ao31 y759.length co31] (by rfl) rfl rfl za_ ?_
   with_reducible refine (exchange_Chosen.calls k _ _ y759 t769 _ ?side1 ?side2 A4.out).mono ?_
   (case side1 => exact zd_ (Kd.N_reads' HO761.out).2.2)
   (case side2 => exact (Kd.N_reads' HO761.out).2.1)
   rintro e w39 ⟨rfl, hb⟩
   refine ⟨_, rfl, ?_⟩
   have n0_ := Aside0.mk (Kd.N_below (zn_ HO761) hb)
   have n1_ := Aside0.mk (Kd.R_below (zr_ HO764) hb)
   have n2_ := Aside0.mk (Kd.R_below (zr_ HO767) hb)
   have n3_ := zk_ BK755 hb
   have n4_ := Aside0.mk (below_step zb_ hb)
   clear HO761
   clear HO764
   clear HO767
   clear BK755
   clear HB
   have HO761 := n0_
   have HO764 := n1_
   have HO767 := n2_
   have BK755 := n3_
   have HB := n4_
   clear n0_ n1_ n2_ n3_ n4_
   (try clear hb)
   (try clear hb2)
   (try clear hk)
   (try clear hi)
   refine hK.out _ _ ⟨(blk_cell BK755.out 0).trans rfl, (blk_cell BK755.out 1).trans rfl, (blk_cell BK755.out 2).trans rfl, (blk_cell BK755.out 3).trans rfl⟩ (fun hHeld => ?_)
   clear hK K
   refine norm_ (a' := ?_) ?_ ?_
   rotate_left
   ·
    show Act.put _ (some 21) _ = _
    simp only [Act.put, List.setIfInBounds_toArray, List.set_cons_zero, List.set_cons_succ, i64_w, i32_w]
    rfl
   refine pure_ (i := 8) (N := some 22) (v := ?_) (a' := ?_) #[T_,T_,T_,T_,T_,T_,T_,T_,T_,F_,F_,F_,F_,F_,F_,F_] rfl rfl (any_of HT_.out (by kernel_rfl)) (fun _ _ _ h => h) (Or.inl ⟨by rfl, ?_⟩) ?_ ?_
   rotate_left
   ·
    intro w'; go_simp; with_reducible rfl
   rotate_left
   ·
    exact zp_
   refine pure_ (i := 9) (N := some 23) (v := ?_) (a' := ?_) #[T_,T_,T_,T_,T_,T_,T_,T_,T_,T_,F_,F_,F_,F_,F_,F_] rfl rfl (any_of HT_.out (by kernel_rfl)) (fun _ _ _ h => h) (Or.inl ⟨by rfl, ?_⟩) ?_ ?_
   rotate_left
   ·
    intro w'; go_simp; with_reducible rfl
   rotate_left
   ·
    exact zp_
   refine pure_ (i := 10) (N := some 24) (v := ?_) (a' := ?_) #[T_,T_,T_,T_,T_,T_,T_,T_,T_,T_,T_,F_,F_,F_,F_,F_] rfl rfl (any_of HT_.out (by kernel_rfl)) (fun _ _ _ h => h) (Or.inl ⟨by rfl, ?_⟩) ?_ ?_
   rotate_left
   ·
    intro w'; go_simp; with_reducible rfl
   rotate_left
   ·
    exact zp_
   refine pure_ (i := 11) (N := some 25) (v := undef) (a' := ?_) #[T_,T_,T_,T_,T_,T_,T_,T_,T_,T_,T_,T_,F_,F_,F_,F_] rfl rfl (any_of HT_.out (by kernel_rfl)) (fun _ _ _ h => h) (Or.inr ⟨by rfl, rfl⟩) ?_ ?_
   rotate_left
   ·
    exact zp_
   refine pure_ (i := 12) (N := some 26) (v := undef) (a' := ?_) #[T_,T_,T_,T_,T_,T_,T_,T_,T_,T_,T_,T_,T_,F_,F_,F_] rfl rfl (any_of HT_.out (by kernel_rfl)) (fun _ _ _ h => h) (Or.inr ⟨by rfl, rfl⟩) ?_ ?_
   rotate_left
   ·
    exact zp_
   refine pure_ (i := 13) (N := some 27) (v := undef) (a' := ?_) #[T_,T_,T_,T_,T_,T_,T_,T_,T_,T_,T_,T_,T_,T_,F_,F_] rfl rfl (any_of HT_.out (by kernel_rfl)) (fun _ _ _ h => h) (Or.inr ⟨by rfl, rfl⟩) ?_ ?_
   rotate_left
   ·
    exact zp_
   refine pure_ (i := 14) (N := some 28) (v := ?_) (a' := ?_) #[T_,T_,T_,T_,T_,T_,T_,T_,T_,T_,T_,T_,T_,T_,T_,F_] rfl rfl (any_of HT_.out (by kernel_rfl)) (fun _ _ _ h => h) (Or.inl ⟨by rfl, ?_⟩) ?_ ?_
   rotate_left
   ·
    intro w'; go_simp; with_reducible rfl
   rotate_left
   ·
    exact zp_
   refine pure_ (i := 15) (N := some 0) (v := ?_) (a' := ?_) #[T_,T_,T_,T_,T_,T_,T_,T_,T_,T_,T_,T_,T_,T_,T_,T_] rfl rfl (any_of HT_.out (by kernel_rfl)) (fun _ _ _ h => h) (Or.inl ⟨by rfl, ?_⟩) ?_ ?_
   rotate_left
   ·
    intro w'; go_simp; with_reducible rfl
   rotate_left
   ·
    exact zp_
   refine done_ (done_of HT_.out (by kernel_rfl)) ?_
   (try clear hHeld); (try clear HS0_)
   try go_wp2
   go_ret
   exact ⟨by first | rfl | (simp [errW_none, errW_some] <;> rfl) | (simp [*, errW_none, errW_some] <;> rfl), by repeat (first | (with_reducible first | exact HB.out | apply below_alloc | apply pw_below_drewN | apply below_drew1 | refine below_set ?_ GE755.out) | exact HB.out)⟩
 ·
  replace c3 := Bool.eq_false_iff.mpr c3
  subst c3
  have H1 : (some false) = some r := by rw [if_neg (show ¬ (false = true) by decide)] at H; exact H
  clear H
  have H := H1
  clear H1
  obtain rfl := Option.some.inj H
  go_enter Try.func55, Try.ntmps55
  try go_wp2_with (first | ((with_reducible refine gate_dst (N := 1) rfl ?_); refine box_event ?hg (N := 1) ?hd (cs := #[.int .u64 0, .int .i64 0, .int .u64 0, .int .i64 0]) (t := 27) ?hr ?_; (case hd => rfl); (case hg => rfl); (case hr => first | (go_simp; done) | (go_simp; rfl)); intro gb755 hg w40 hbox hb; have n0_ := Aside0.mk (below_step zb_ hb); have n1_ := Aside0.mk (hbox); have n2_ := Aside0.mk ((by rw [hg]; exact (below_size zb_) : w.heap.size ≤ gb755)); have n3_ := Aside0.mk ((by rw [hg]; exact (below_size zb_) : w.heap.size ≤ gb755)); clear HB; have HB := n0_; have BK755 := n1_; have GW755 := n2_; have GE755 := n3_; clear n0_ n1_ n2_ n3_; clear hb hbox hg; have hcz41_0 : w40.cell? ⟨gb755, 0, none⟩ = some (.int .u64 0) := (blk_cell BK755.out 0).trans rfl; have hcz41_1 : w40.cell? ⟨gb755, 1, none⟩ = some (.int .i64 0) := (blk_cell BK755.out 1).trans rfl; have hcz41_2 : w40.cell? ⟨gb755, 2, none⟩ = some (.int .u64 0) := (blk_cell BK755.out 2).trans rfl; have hcz41_3 : w40.cell? ⟨gb755, 3, none⟩ = some (.int .i64 0) := (blk_cell BK755.out 3).trans rfl; have hfz41_0 := blk_frozen BK755.out 0; have hfz41_1 := blk_frozen BK755.out 1; have hfz41_2 := blk_frozen BK755.out 2; have hfz41_3 := blk_frozen BK755.out 3) | ((with_reducible refine gate_dst (N := 10) rfl ?_); refine Kd.R_lit k27 _ 27 ?hg (N := 10) ?hd (xs := ([(⟨(⟨1, 0⟩ : S25), 1, 0⟩ : S27)] : List (S27))) (inner := [.int .u64 1, .int .i64 0, .int .u64 1, .int .i64 0]) (ok := fun _ => True) (okp := fun _ => True) ?hr ?hp (fun _ hk => hk) trivial (Below.refl _ _) (Nat.le_refl _) (by simp) ?_; (case hd => rfl); (case hg => rfl); (case hr => first | (go_simp; done) | (go_simp; rfl)); (case hp => exact (Reps.c4 (show Kd.M k27 _ _ _ (⟨(⟨1, 0⟩ : S25), 1, 0⟩ : S27) [.int .u64 1, .int .i64 0, .int .u64 1, .int .i64 0] from (k27_mkM _ _ _ (⟨(⟨1, 0⟩ : S25), 1, 0⟩ : S27) )) (Reps.none _ _))); intro v757 w42 ho43 hb hg_ hnew_; clear hg_ hnew_; (first | rw [← Ny756.out] at ho43 | (simp only [Int.reduceToNat] at ho43; rw [← Ny756.out] at ho43)); have n0_ := Aside0.mk (Kd.R_lower (Kd.R_newB ho43 (g := gb755) (o := .cells #[.int .u64 1, .int .i64 0, .int .u64 1, .int .i64 0] 27 (0, 0)) (by (with_reducible repeat (first | refine blk_drewN ?_ _ | refine blk_drew ?_ | refine blk_alloc ?_ _)); refine blk_put (cs := #[.int .u64 1, .int .i64 0, .int .u64 1, .int .i64 0]) ?_ 3 _ rfl; (with_reducible repeat (first | refine blk_drewN ?_ _ | refine blk_drew ?_ | refine blk_alloc ?_ _)); refine blk_put (cs := #[.int .u64 1, .int .i64 0, .int .u64 0, .int .i64 0]) ?_ 2 _ rfl; (with_reducible repeat (first | refine blk_drewN ?_ _ | refine blk_drew ?_ | refine blk_alloc ?_ _)); refine blk_put (cs := #[.int .u64 1, .int .i64 0, .int .u64 0, .int .i64 0]) ?_ 1 _ rfl; (with_reducible repeat (first | refine blk_drewN ?_ _ | refine blk_drew ?_ | refine blk_alloc ?_ _)); refine blk_put (cs := #[.int .u64 0, .int .i64 0, .int .u64 0, .int .i64 0]) ?_ 0 _ rfl; (with_reducible repeat (first | refine blk_drewN ?_ _ | refine blk_drew ?_ | refine blk_alloc ?_ _)); exact BK755.out)) (below_size zb_)); have n1_ := Aside0.mk (blk_below (g := gb755) (o := .cells #[.int .u64 1, .int .i64 0, .int .u64 1, .int .i64 0] 27 (0, 0)) (by (with_reducible repeat (first | refine blk_drewN ?_ _ | refine blk_drew ?_ | refine blk_alloc ?_ _)); refine blk_put (cs := #[.int .u64 1, .int .i64 0, .int .u64 1, .int .i64 0]) ?_ 3 _ rfl; (with_reducible repeat (first | refine blk_drewN ?_ _ | refine blk_drew ?_ | refine blk_alloc ?_ _)); refine blk_put (cs := #[.int .u64 1, .int .i64 0, .int .u64 0, .int .i64 0]) ?_ 2 _ rfl; (with_reducible repeat (first | refine blk_drewN ?_ _ | refine blk_drew ?_ | refine blk_alloc ?_ _)); refine blk_put (cs := #[.int .u64 1, .int .i64 0, .int .u64 0, .int .i64 0]) ?_ 1 _ rfl; (with_reducible repeat (first | refine blk_drewN ?_ _ | refine blk_drew ?_ | refine blk_alloc ?_ _)); refine blk_put (cs := #[.int .u64 0, .int .i64 0, .int .u64 0, .int .i64 0]) ?_ 0 _ rfl; (with_reducible repeat (first | refine blk_drewN ?_ _ | refine blk_drew ?_ | refine blk_alloc ?_ _)); exact BK755.out) hb); have n2_ := Aside0.mk (below_step zb_ hb); clear BK755; clear HB; have HO758 := n0_; have BK755 := n1_; have HB := n2_; clear n0_ n1_ n2_; clear hb ho43; obtain ⟨Ao44, co44, eo44⟩ := Kd.R_slice HO758.out; subst eo44) | ((with_reducible refine gate_dst (N := 13) rfl ?_); refine Kd.N_lit k87 _ 87 ?hg (N' := 13) ?hd (xs := ([(⟨0, (⟨([] : List (S32)), ([] : List (S27)), 1, (⟨1, 0⟩ : S25)⟩ : S53)⟩ : S87), (⟨1, (⟨([] : List (S32)), y756, 2, (⟨2, 0⟩ : S25)⟩ : S53)⟩ : S87)] : List (S87))) (inner := [.int .i64 0, .slice none 0 0, .slice none 0 0, .int .i64 1, .int .u64 1, .int .i64 0, .int .i64 1, .slice none 0 0, .slice Ao44 y756.length co44, .int .i64 2, .int .u64 2, .int .i64 0]) (ok := (fun k_ => k_ ≠ gb755)) (okp := (fun k_ => k_ ≠ gb755)) ?hr ?hp (fun _ hk => hk) ((show ∀ k_, w42.heap.size ≤ k_ → (fun k_ => k_ ≠ gb755) k_ from fun k_ hk => Kd.freshB (g := gb755) (o := .cells #[.int .u64 1, .int .i64 0, .int .u64 1, .int .i64 0] 27 (0, 0)) (by (with_reducible repeat (first | refine blk_drewN ?_ _ | refine blk_drew ?_ | refine blk_alloc ?_ _)); exact BK755.out) k_ hk) _ (Nat.le_refl _)) (Below.refl _ _) (Nat.le_refl _) (by simp) ?_; (case hd => rfl); (case hg => rfl); (case hr => first | (go_simp; done) | (go_simp; rfl)); (case hp => exact (Reps.c6 (show Kd.FK k87 _ _ (⟨0, (⟨([] : List (S32)), ([] : List (S27)), 1, (⟨1, 0⟩ : S25)⟩ : S53)⟩ : S87) [.int .i64 0, .slice none 0 0, .slice none 0 0, .int .i64 1, .int .u64 1, .int .i64 0] from (k87_mkF _ _ (⟨0, (⟨([] : List (S32)), ([] : List (S27)), 1, (⟨1, 0⟩ : S25)⟩ : S53)⟩ : S87) (Nat.le_refl _) (Kd.F_nil _ _ _) (Nat.le_refl _) (Kd.F_nil _ _ _))) (Reps.c6 (show Kd.FK k87 _ _ (⟨1, (⟨([] : List (S32)), y756, 2, (⟨2, 0⟩ : S25)⟩ : S53)⟩ : S87) [.int .i64 1, .slice none 0 0, .slice Ao44 y756.length co44, .int .i64 2, .int .u64 2, .int .i64 0] from (k87_mkF _ _ (⟨1, (⟨([] : List (S32)), y756, 2, (⟨2, 0⟩ : S25)⟩ : S53)⟩ : S87) (Nat.le_refl _) (Kd.F_nil _ _ _) (Kd.R_reads' (Kd.R_mono (ok' := (fun k_ => k_ ≠ gb755)) (HO758.out) (fun k_ hk => hk.2))).2.1 (Kd.R_F (Kd.R_mono (ok' := (fun k_ => k_ ≠ gb755)) (HO758.out) (fun k_ hk => hk.2))))) (Reps.none _ _)))); intro v760 w45 ho46 hb hg_ hnew_; clear hg_ hnew_; (first | rw [← Ny759.out] at ho46 | (simp only [Int.reduceToNat] at ho46; rw [← Ny759.out] at ho46)); have n0_ := Aside0.mk (Kd.N_lower ho46 (below_size zb_)); have n1_ := zk_ BK755 hb; have n2_ := Aside0.mk (below_step zb_ hb); clear BK755; clear HB; clear HO758; have HO761 := n0_; have BK755 := n1_; have HB := n2_; clear n0_ n1_ n2_; clear hb ho46; obtain ⟨Ao47, co47, eo47⟩ := Kd.N_slice HO761.out; subst eo47))
  have n0_ := Aside0.mk (Kd.N_drew HO761.out)
  have n1_ := Aside0.mk (blk_drew BK755.out)
  have n2_ := Aside0.mk (below_drew1 HB.out)
  clear HO761
  clear BK755
  clear HB
  have HO761 := n0_
  have BK755 := n1_
  have HB := n2_
  clear n0_ n1_ n2_
  refine start_ (n := 16) (S := fun w' => w'.cell? ⟨gb755, 0, none⟩ = some (.int .u64 1) ∧ w'.cell? ⟨gb755, 1, none⟩ = some (.int .i64 0) ∧ w'.cell? ⟨gb755, 2, none⟩ = some (.int .u64 1) ∧ w'.cell? ⟨gb755, 3, none⟩ = some (.int .i64 0)) (ds := []) #[F_,F_,F_,F_,F_,F_,F_,F_,F_,F_,F_,F_,F_,F_,F_,F_] (by kernel_rfl) rfl rfl ⟨(blk_cell BK755.out 0).trans rfl, (blk_cell BK755.out 1).trans rfl, (blk_cell BK755.out 2).trans rfl, (blk_cell BK755.out 3).trans rfl⟩ (fun hHeld => ?_); refine with_tabW folkmootlaw16_awake.tab3 folkmootlaw16_awake.bits3 (fun HT_ HW_ => ?_)
  generalize w45.drew = w48 at HO761 BK755 HB hHeld ⊢
  refine pure_ (i := 0) (N := some 14) (v := ?_) (a' := ?_) #[T_,F_,F_,F_,F_,F_,F_,F_,F_,F_,F_,F_,F_,F_,F_,F_] rfl rfl (any_of HT_.out (by kernel_rfl)) (fun _ _ _ h => h) (Or.inl ⟨by rfl, ?_⟩) ?_ ?_
  rotate_left
  ·
   intro w'; go_simp; with_reducible rfl
  rotate_left
  ·
   exact zp_
  refine take_ (i := 2) (N := some 16) (v := ?_) (a' := ?_) #[T_,F_,T_,F_,F_,F_,F_,F_,F_,F_,F_,F_,F_,F_,F_,F_] rfl rfl (take_ofW HT_.out HW_.out (by kernel_rfl)) (fun _ _ _ h => h) (Or.inl ⟨by rfl, ?_⟩) hHeld ?_ ?_
  rotate_left
  ·
   rintro w' ⟨s0, s1, s2, s3⟩
   go_simp
   with_reducible rfl
  rotate_left
  ·
   exact zp_
  refine join_ (σ := Value × Value) 12 #[T_,T_,T_,T_,F_,F_,F_,F_,F_,F_,F_,F_,F_,F_,F_,F_] (fun s_ => [(15, s_.1), (17, s_.2)]) (fun s_ w' => (w'.cell? ⟨gb755, 0, none⟩ = some (.int .u64 1) ∧ w'.cell? ⟨gb755, 1, none⟩ = some (.int .i64 0) ∧ w'.cell? ⟨gb755, 2, none⟩ = some (.int .u64 1) ∧ w'.cell? ⟨gb755, 3, none⟩ = some (.int .i64 0)) ∧ (Kd.N k87 87 w' w.heap.size (fun k_ => some k_ ≠ (s_.1 : Value).ownBlock ∧ some k_ ≠ (s_.2 : Value).ownBlock ∧ k_ ≠ gb755) (.slice Ao47 y759.length co47) y759) ∧ (Kd.R k27 27 w' w.heap.size (fun k_ => some k_ ≠ (s_.2 : Value).ownBlock ∧ k_ ≠ gb755) s_.1 t762) ∧ (Kd.R k27 27 w' w.heap.size (fun k_ => some k_ ≠ (s_.1 : Value).ownBlock ∧ k_ ≠ gb755) s_.2 y765) ∧ (w'.heap[gb755]? = some (.cells #[.int .u64 1, .int .i64 0, .int .u64 1, .int .i64 0] 27 (0, 0))) ∧ (Below w.heap.size w w')) ?_ ?_
  rotate_left
  ·
   intro hCont
   refine two_ (i := 1) (j := 3) (Ni := some 15) (Nj := some 17) #[T_,T_,T_,F_,F_,F_,F_,F_,F_,F_,F_,F_,F_,F_,F_,F_] #[T_,F_,T_,T_,F_,F_,F_,F_,F_,F_,F_,F_,F_,F_,F_,F_] rfl rfl rfl rfl (two_of HT_.out (by kernel_rfl)) (by decide) (by decide) (fun K hK => ?_) (fun K hK => ?_)
   ·
    skip
    refine goes_ Try.func62 (by kernel_rfl) rfl #[.slice Ao47 y759.length co47] (by rfl) rfl rfl za_ ?_
    with_reducible refine (exchange_Short.calls k _ _ y759 t762 _ ?side1 ?side2 A1.out).mono ?_
    (case side1 => exact zd_ (Kd.N_reads' HO761.out).2.2)
    (case side2 => exact (Kd.N_reads' HO761.out).2.1)
    rintro e w49 ⟨v763, rfl, ho0, hb⟩
    refine ⟨_, rfl, ?_⟩
    have n0_ := Aside0.mk (Kd.N_elder' (zn_ HO761) (Kd.R_base ho0) hb)
    have n1_ := Aside0.mk (Kd.R_lower (Kd.R_newB ho0 (g := gb755) (o := .cells #[.int .u64 1, .int .i64 0, .int .u64 1, .int .i64 0] 27 (0, 0)) (by (with_reducible repeat (first | refine blk_drewN ?_ _ | refine blk_drew ?_ | refine blk_alloc ?_ _)); exact BK755.out)) (below_size zb_))
    have n2_ := zk_ BK755 hb
    have n3_ := Aside0.mk (below_step zb_ hb)
    clear HO761
    clear BK755
    clear HB
    have HO761 := n0_
    have HO764 := n1_
    have BK755 := n2_
    have HB := n3_
    clear n0_ n1_ n2_ n3_
    (try clear hb)
    (try clear hb2)
    (try clear hk)
    (try clear hi)
    (try clear ho0)
    refine hK.out _ _ ⟨(blk_cell BK755.out 0).trans rfl, (blk_cell BK755.out 1).trans rfl, (blk_cell BK755.out 2).trans rfl, (blk_cell BK755.out 3).trans rfl⟩ (fun hHeld => ?_)
    clear hK K
    refine norm_ (a' := ?_) ?_ ?_
    rotate_left
    ·
     show Act.put _ (some 15) _ = _
     simp only [Act.put, List.setIfInBounds_toArray, List.set_cons_zero, List.set_cons_succ, i64_w, i32_w]
     rfl
    refine one_ (i := 3) (N := some 17) #[T_,T_,T_,T_,F_,F_,F_,F_,F_,F_,F_,F_,F_,F_,F_,F_] rfl rfl (one_of HT_.out (by kernel_rfl)) (by decide) (fun K hK => ?_)
    refine Kd.R_lit_step k27 _ 27 ?hg (N := 17) ?hd (xs := ([(⟨(⟨1, 0⟩ : S25), 1, 0⟩ : S27)] : List (S27))) (inner := [.int .u64 1, .int .i64 0, .int .u64 1, .int .i64 0]) (ok := fun _ => True) (okp := fun _ => True) ?hr ?hp (fun _ hk => hk) trivial (Below.refl _ _) (Nat.le_refl _) (by simp) ?_; (case hd => rfl); (case hg => rfl); (case hr => first | (go_simp; done) | (go_simp; rfl)); (case hp => exact (Reps.c4 (show Kd.M k27 _ _ _ (⟨(⟨1, 0⟩ : S25), 1, 0⟩ : S27) [.int .u64 1, .int .i64 0, .int .u64 1, .int .i64 0] from (k27_mkM _ _ _ (⟨(⟨1, 0⟩ : S25), 1, 0⟩ : S27) )) (Reps.none _ _)))
    intro v766 w50 ho51 hb hg_ hnew_
    clear hg_ hnew_
    (first | rw [← Ny765.out] at ho51 | (simp only [Int.reduceToNat] at ho51; rw [← Ny765.out] at ho51))
    have n0_ := Aside0.mk (Kd.N_elder' (zn_ HO761) (Kd.R_base ho51) hb)
    have n1_ := Aside0.mk (Kd.R_elder' (zr_ HO764) (Kd.R_base ho51) hb)
    have n2_ := Aside0.mk (Kd.R_lower (Kd.R_newB (Kd.R_new' ho51 (Kd.R_lt (zr_ HO764))) (g := gb755) (o := .cells #[.int .u64 1, .int .i64 0, .int .u64 1, .int .i64 0] 27 (0, 0)) (by (with_reducible repeat (first | refine blk_drewN ?_ _ | refine blk_drew ?_ | refine blk_alloc ?_ _)); exact BK755.out)) (below_size zb_))
    have n3_ := zk_ BK755 hb
    have n4_ := Aside0.mk (below_step zb_ hb)
    clear HO761
    clear HO764
    clear BK755
    clear HB
    have HO761 := n0_
    have HO764 := n1_
    have HO767 := n2_
    have BK755 := n3_
    have HB := n4_
    clear n0_ n1_ n2_ n3_ n4_
    clear hb ho51
    refine hK.out _ _ ⟨(blk_cell BK755.out 0).trans rfl, (blk_cell BK755.out 1).trans rfl, (blk_cell BK755.out 2).trans rfl, (blk_cell BK755.out 3).trans rfl⟩ (fun hHeld => ?_)
    clear hK K
    refine norm_ (a' := ?_) ?_ ?_
    rotate_left
    ·
     show Act.put _ (some 17) _ = _
     simp only [Act.put, List.setIfInBounds_toArray, List.set_cons_zero, List.set_cons_succ, i64_w, i32_w]
     rfl
    exact norm_ (by simp only [putAll, Act.put, List.setIfInBounds_toArray, List.set_cons_zero, List.set_cons_succ]) (hCont (v763, v766) _ ⟨hHeld, (by (with_reducible repeat (first | apply Kd.N_alloc | apply Kd.N_drewN | apply Kd.N_drew)); exact Kd.N_mono HO761.out (fun _ hk => ⟨hk.1.2, ⟨hk.2, hk.1.1⟩⟩)), (by (with_reducible repeat (first | apply Kd.R_alloc | apply Kd.R_drewN | apply Kd.R_drew)); exact Kd.R_mono HO764.out (fun _ hk => ⟨hk.2, hk.1.2⟩)), (by (with_reducible repeat (first | apply Kd.R_alloc | apply Kd.R_drewN | apply Kd.R_drew)); exact Kd.R_mono HO767.out (fun _ hk => ⟨hk.1.2, hk.2⟩)), (by (with_reducible repeat (first | refine blk_drewN ?_ _ | refine blk_drew ?_ | refine blk_alloc ?_ _)); exact BK755.out), zb_⟩)
   ·
    skip
    refine Kd.R_lit_step k27 _ 27 ?hg (N := 17) ?hd (xs := ([(⟨(⟨1, 0⟩ : S25), 1, 0⟩ : S27)] : List (S27))) (inner := [.int .u64 1, .int .i64 0, .int .u64 1, .int .i64 0]) (ok := fun _ => True) (okp := fun _ => True) ?hr ?hp (fun _ hk => hk) trivial (Below.refl _ _) (Nat.le_refl _) (by simp) ?_; (case hd => rfl); (case hg => rfl); (case hr => first | (go_simp; done) | (go_simp; rfl)); (case hp => exact (Reps.c4 (show Kd.M k27 _ _ _ (⟨(⟨1, 0⟩ : S25), 1, 0⟩ : S27) [.int .u64 1, .int .i64 0, .int .u64 1, .int .i64 0] from (k27_mkM _ _ _ (⟨(⟨1, 0⟩ : S25), 1, 0⟩ : S27) )) (Reps.none _ _)))
    intro v766 w49 ho50 hb hg_ hnew_
    clear hg_ hnew_
    (first | rw [← Ny765.out] at ho50 | (simp only [Int.reduceToNat] at ho50; rw [← Ny765.out] at ho50))
    have n0_ := Aside0.mk (Kd.N_elder' (zn_ HO761) (Kd.R_base ho50) hb)
    have n1_ := Aside0.mk (Kd.R_lower (Kd.R_newB ho50 (g := gb755) (o := .cells #[.int .u64 1, .int .i64 0, .int .u64 1, .int .i64 0] 27 (0, 0)) (by (with_reducible repeat (first | refine blk_drewN ?_ _ | refine blk_drew ?_ | refine blk_alloc ?_ _)); exact BK755.out)) (below_size zb_))
    have n2_ := zk_ BK755 hb
    have n3_ := Aside0.mk (below_step zb_ hb)
    clear HO761
    clear BK755
    clear HB
    have HO761 := n0_
    have HO767 := n1_
    have BK755 := n2_
    have HB := n3_
    clear n0_ n1_ n2_ n3_
    clear hb ho50
    refine hK.out _ _ ⟨(blk_cell BK755.out 0).trans rfl, (blk_cell BK755.out 1).trans rfl, (blk_cell BK755.out 2).trans rfl, (blk_cell BK755.out 3).trans rfl⟩ (fun hHeld => ?_)
    clear hK K
    refine norm_ (a' := ?_) ?_ ?_
    rotate_left
    ·
     show Act.put _ (some 17) _ = _
     simp only [Act.put, List.setIfInBounds_toArray, List.set_cons_zero, List.set_cons_succ, i64_w, i32_w]
     rfl
    refine one_ (i := 1) (N := some 15) #[T_,T_,T_,T_,F_,F_,F_,F_,F_,F_,F_,F_,F_,F_,F_,F_] rfl rfl (one_of HT_.out (by kernel_rfl)) (by decide) (fun K hK => ?_)
    refine goes_ Try.func62 (by kernel_rfl) rfl #[.slice Ao47 y759.length co47] (by rfl) rfl rfl za_ ?_
    with_reducible refine (exchange_Short.calls k _ _ y759 t762 _ ?side1 ?side2 A1.out).mono ?_
    (case side1 => exact zd_ (Kd.N_reads' HO761.out).2.2)
    (case side2 => exact (Kd.N_reads' HO761.out).2.1)
    rintro e w51 ⟨v763, rfl, ho0, hb⟩
    refine ⟨_, rfl, ?_⟩
    have n0_ := Aside0.mk (Kd.N_elder' (zn_ HO761) (Kd.R_base ho0) hb)
    have n1_ := Aside0.mk (Kd.R_elder' (zr_ HO767) (Kd.R_base ho0) hb)
    have n2_ := Aside0.mk (Kd.R_lower (Kd.R_newB (Kd.R_new' ho0 (Kd.R_lt (zr_ HO767))) (g := gb755) (o := .cells #[.int .u64 1, .int .i64 0, .int .u64 1, .int .i64 0] 27 (0, 0)) (by (with_reducible repeat (first | refine blk_drewN ?_ _ | refine blk_drew ?_ | refine blk_alloc ?_ _)); exact BK755.out)) (below_size zb_))
    have n3_ := zk_ BK755 hb
    have n4_ := Aside0.mk (below_step zb_ hb)
    clear HO761
    clear HO767
    clear BK755
    clear HB
    have HO761 := n0_
    have HO767 := n1_
    have HO764 := n2_
    have BK755 := n3_
    have HB := n4_
    clear n0_ n1_ n2_ n3_ n4_
    (try clear hb)
    (try clear hb2)
    (try clear hk)
    (try clear hi)
    (try clear ho0)
    refine hK.out _ _ ⟨(blk_cell BK755.out 0).trans rfl, (blk_cell BK755.out 1).trans rfl, (blk_cell BK755.out 2).trans rfl, (blk_cell BK755.out 3).trans rfl⟩ (fun hHeld => ?_)
    clear hK K
    refine norm_ (a' := ?_) ?_ ?_
    rotate_left
    ·
     show Act.put _ (some 15) _ = _
     simp only [Act.put, List.setIfInBounds_toArray, List.set_cons_zero, List.set_cons_succ, i64_w, i32_w]
     rfl
    exact norm_ (by simp only [putAll, Act.put, List.setIfInBounds_toArray, List.set_cons_zero, List.set_cons_succ]) (hCont (v763, v766) _ ⟨hHeld, (by (with_reducible repeat (first | apply Kd.N_alloc | apply Kd.N_drewN | apply Kd.N_drew)); exact Kd.N_mono HO761.out (fun _ hk => ⟨hk.2, ⟨hk.1.2, hk.1.1⟩⟩)), (by (with_reducible repeat (first | apply Kd.R_alloc | apply Kd.R_drewN | apply Kd.R_drew)); exact Kd.R_mono HO764.out (fun _ hk => ⟨hk.1.2, hk.2⟩)), (by (with_reducible repeat (first | apply Kd.R_alloc | apply Kd.R_drewN | apply Kd.R_drew)); exact Kd.R_mono HO767.out (fun _ hk => ⟨hk.2, hk.1.2⟩)), (by (with_reducible repeat (first | refine blk_drewN ?_ _ | refine blk_drew ?_ | refine blk_alloc ?_ _)); exact BK755.out), zb_⟩)
  rintro ⟨v763, v766⟩ w52 ⟨hS_, h0_, h1_, h2_, h3_, h4_⟩
  have n0_ : Aside0 (Kd.N k87 87 w52 w.heap.size (fun k_ => some k_ ≠ (v763 : Value).ownBlock ∧ some k_ ≠ (v766 : Value).ownBlock ∧ k_ ≠ gb755) (.slice Ao47 y759.length co47) y759) := ⟨h0_⟩
  have n1_ : Aside0 (Kd.R k27 27 w52 w.heap.size (fun k_ => some k_ ≠ (v766 : Value).ownBlock ∧ k_ ≠ gb755) v763 t762) := ⟨h1_⟩
  have n2_ : Aside0 (Kd.R k27 27 w52 w.heap.size (fun k_ => some k_ ≠ (v763 : Value).ownBlock ∧ k_ ≠ gb755) v766 y765) := ⟨h2_⟩
  have n3_ : Aside0 (w52.heap[gb755]? = some (.cells #[.int .u64 1, .int .i64 0, .int .u64 1, .int .i64 0] 27 (0, 0))) := ⟨h3_⟩
  have n4_ : Aside0 (Below w.heap.size w w52) := ⟨h4_⟩
  clear HO761
  clear BK755
  clear HB
  clear h0_ h1_ h2_ h3_ h4_
  have HO761 := n0_
  have HO764 := n1_
  have HO767 := n2_
  have BK755 := n3_
  have HB := n4_
  clear n0_ n1_ n2_ n3_ n4_
  have hHeld : w52.cell? ⟨gb755, 0, none⟩ = some (.int .u64 1) ∧ w52.cell? ⟨gb755, 1, none⟩ = some (.int .i64 0) ∧ w52.cell? ⟨gb755, 2, none⟩ = some (.int .u64 1) ∧ w52.cell? ⟨gb755, 3, none⟩ = some (.int .i64 0) := hS_
  obtain ⟨Ao53, co53, eo53⟩ := Kd.R_slice HO764.out
  (first | subst eo53 | (injection eo53 with f1_ f2_ f3_; have f4_ := f1_.symm; have f5_ := f3_.symm; clear f1_ f2_ f3_; subst f4_; subst f5_))
  obtain ⟨Ao54, co54, eo54⟩ := Kd.R_slice HO767.out
  (first | subst eo54 | (injection eo54 with f1_ f2_ f3_; have f4_ := f1_.symm; have f5_ := f3_.symm; clear f1_ f2_ f3_; subst f4_; subst f5_))
  refine norm_ (a' := ?_) ?_ ?_
  rotate_left
  ·
   simp only [putAll, Act.put, List.setIfInBounds_toArray, List.set_cons_zero, List.set_cons_succ]
   rfl
  refine one_ (i := 4) (N := some 18) #[T_,T_,T_,T_,T_,F_,F_,F_,F_,F_,F_,F_,F_,F_,F_,F_] rfl rfl (one_of HT_.out (by kernel_rfl)) (by decide) (fun K hK => ?_)
  refine goes_ Try.func30 (by kernel_rfl) rfl #[.slice Ao53 t762.length co53, .slice Ao54 y765.length co54] (by rfl) rfl rfl za_ ?_
  with_reducible refine (folkmootref05_Same.calls k _ _ t762 _ _ y765 false _ ?side1 ?side2 ?side3 ?side4 A2.out).mono ?_
  (case side1 => exact zd_ (Kd.R_reads' HO764.out).2.2)
  (case side2 => exact (Kd.R_reads' HO764.out).2.1)
  (case side3 => exact zd_ (Kd.R_reads' HO767.out).2.2)
  (case side4 => exact (Kd.R_reads' HO767.out).2.1)
  rintro e w' ⟨rfl, ⟨nd, rfl⟩⟩
  refine ⟨_, rfl, ?_⟩
  refine hK.out _ _ ⟨(blk_cell BK755.out 0).trans rfl, (blk_cell BK755.out 1).trans rfl, (blk_cell BK755.out 2).trans rfl, (blk_cell BK755.out 3).trans rfl⟩ (fun hHeld => ?_)
  clear hK K
  refine norm_ (a' := ?_) ?_ ?_
  rotate_left
  ·
   show Act.put _ (some 18) _ = _
   simp only [Act.put, List.setIfInBounds_toArray, List.set_cons_zero, List.set_cons_succ, i64_w, i32_w]
   rfl
  refine pure_ (i := 5) (N := some 19) (v := ?_) (a' := ?_) #[T_,T_,T_,T_,T_,T_,F_,F_,F_,F_,F_,F_,F_,F_,F_,F_] rfl rfl (any_of HT_.out (by kernel_rfl)) (fun _ _ _ h => h) (Or.inl ⟨by rfl, ?_⟩) ?_ ?_
  rotate_left
  ·
   intro w'; go_simp; with_reducible rfl
  rotate_left
  ·
   exact zp_
  refine pure_ (i := 6) (N := some 20) (v := undef) (a' := ?_) #[T_,T_,T_,T_,T_,T_,T_,F_,F_,F_,F_,F_,F_,F_,F_,F_] rfl rfl (any_of HT_.out (by kernel_rfl)) (fun _ _ _ h => h) (Or.inr ⟨by rfl, rfl⟩) ?_ ?_
  rotate_left
  ·
   exact zp_
  refine pure_ (i := 7) (N := some 21) (v := undef) (a' := ?_) #[T_,T_,T_,T_,T_,T_,T_,T_,F_,F_,F_,F_,F_,F_,F_,F_] rfl rfl (any_of HT_.out (by kernel_rfl)) (fun _ _ _ h => h) (Or.inr ⟨by rfl, rfl⟩) ?_ ?_
  rotate_left
  ·
   exact zp_
  refine pure_ (i := 8) (N := some 22) (v := undef) (a' := ?_) #[T_,T_,T_,T_,T_,T_,T_,T_,T_,F_,F_,F_,F_,F_,F_,F_] rfl rfl (any_of HT_.out (by kernel_rfl)) (fun _ _ _ h => h) (Or.inr ⟨by rfl, rfl⟩) ?_ ?_
  rotate_left
  ·
   exact zp_
  refine pure_ (i := 9) (N := some 23) (v := ?_) (a' := ?_) #[T_,T_,T_,T_,T_,T_,T_,T_,T_,T_,F_,F_,F_,F_,F_,F_] rfl rfl (any_of HT_.out (by kernel_rfl)) (fun _ _ _ h => h) (Or.inl ⟨by rfl, ?_⟩) ?_ ?_
  rotate_left
  ·
   intro w'; go_simp; with_reducible rfl
  rotate_left
  ·
   exact zp_
  refine pure_ (i := 10) (N := some 24) (v := ?_) (a' := ?_) #[T_,T_,T_,T_,T_,T_,T_,T_,T_,T_,T_,F_,F_,F_,F_,F_] rfl rfl (any_of HT_.out (by kernel_rfl)) (fun _ _ _ h => h) (Or.inl ⟨by rfl, ?_⟩) ?_ ?_
  rotate_left
  ·
   intro w'; go_simp; with_reducible rfl
  rotate_left
  ·
   exact zp_
  refine pure_ (i := 11) (N := some 25) (v := undef) (a' := ?_) #[T_,T_,T_,T_,T_,T_,T_,T_,T_,T_,T_,T_,F_,F_,F_,F_] rfl rfl (any_of HT_.out (by kernel_rfl)) (fun _ _ _ h => h) (Or.inr ⟨by rfl, rfl⟩) ?_ ?_
  rotate_left
  ·
   exact zp_
  refine pure_ (i := 12) (N := some 26) (v := undef) (a' := ?_) #[T_,T_,T_,T_,T_,T_,T_,T_,T_,T_,T_,T_,T_,F_,F_,F_] rfl rfl (any_of HT_.out (by kernel_rfl)) (fun _ _ _ h => h) (Or.inr ⟨by rfl, rfl⟩) ?_ ?_
  rotate_left
  ·
   exact zp_
  refine pure_ (i := 13) (N := some 27) (v := undef) (a' := ?_) #[T_,T_,T_,T_,T_,T_,T_,T_,T_,T_,T_,T_,T_,T_,F_,F_] rfl rfl (any_of HT_.out (by kernel_rfl)) (fun _ _ _ h => h) (Or.inr ⟨by rfl, rfl⟩) ?_ ?_
  rotate_left
  ·
   exact zp_
  refine pure_ (i := 14) (N := some 28) (v := ?_) (a' := ?_) #[T_,T_,T_,T_,T_,T_,T_,T_,T_,T_,T_,T_,T_,T_,T_,F_] rfl rfl (any_of HT_.out (by kernel_rfl)) (fun _ _ _ h => h) (Or.inl ⟨by rfl, ?_⟩) ?_ ?_
  rotate_left
  ·
   intro w'; go_simp; with_reducible rfl
  rotate_left
  ·
   exact zp_
  refine pure_ (i := 15) (N := some 0) (v := ?_) (a' := ?_) #[T_,T_,T_,T_,T_,T_,T_,T_,T_,T_,T_,T_,T_,T_,T_,T_] rfl rfl (any_of HT_.out (by kernel_rfl)) (fun _ _ _ h => h) (Or.inl ⟨by rfl, ?_⟩) ?_ ?_
  rotate_left
  ·
   intro w'; go_simp; with_reducible rfl
  rotate_left
  ·
   exact zp_
  refine done_ (done_of HT_.out (by kernel_rfl)) ?_
  (try clear hHeld); (try clear HS0_)
  try go_wp2
  go_ret
  exact ⟨by first | rfl | (simp [errW_none, errW_some] <;> rfl) | (simp [*, errW_none, errW_some] <;> rfl), by repeat (first | (with_reducible first | exact HB.out | apply below_alloc | apply pw_below_drewN | apply below_drew1 | refine below_set ?_ GE755.out) | exact HB.out)⟩
end Go.Proofs.Ytioooiflpabngaa.PAll
end
section
namespace Go.Proofs.Ytioooiflpabngaa.PAll
open Go.RowKit Go.Proofs.YtioooiflpabngaaW.PrintWords Go.Proofs.YtioooiflpabngaaW.PrintMore
set_option linter.unusedVariables false
set_option linter.unusedSimpArgs false
def sumM (s : S53) : S53 := ⟨mergeR [] s.f0, s.f1, s.f2, s.f3⟩
def tellK (l : List S53) (k : Nat) : S87 := ⟨(k : Int), sumM (l.getD k z53)⟩
def toldT (l : List S53) (a : Nat) : List S87 := (List.range' 0 l.length).map fun i => tellK l ((i + a) % l.length)
theorem told_loop (l : List S53) (a : Nat) (ha : a ≤ 255) (hn : l.length ≤ 16) (hc : ∀ s ∈ l, s.f0.length ≤ 150) : ∀ (d i : Nat) (A : List S87), d = l.length - i → i ≤ l.length → A.length = i →
    Ev (fun k => folkmootlaw16_told.l0 k l (a : Int) A (A.map (·.f0)) (A.map (·.f1)) (i : Int)) (A ++ (List.range' i d).map (fun i => tellK l ((i + a) % l.length)), (A ++ (List.range' i d).map (fun i => tellK l ((i + a) % l.length))).map (·.f0), (A ++ (List.range' i d).map (fun i => tellK l ((i + a) % l.length))).map (·.f1)) := by
  intro d
  induction d with
  | zero =>
    intro i A hd hi hA
    refine Ev.step (fun k => by rw [folkmootlaw16_told.l0, if_neg (by omega)]) (Ev.const fun _ => ?_)
    simp
  | succ d ih =>
    intro i A hd hi hA
    have hlt : i < l.length := by omega
    have e1 : wrap64 (a : Int) = (a : Int) := by unfold wrap64; omega
    have e2 : wrap64 ((i : Int) + (a : Int)) = ((i + a : Nat) : Int) := by unfold wrap64; omega
    have e3 : Int.tmod ((i + a : Nat) : Int) (l.length : Int) = (((i + a) % l.length : Nat) : Int) := by
      rw [Int.tmod_eq_emod_of_nonneg (by omega), Int.natCast_emod]
    have hm : (i + a) % l.length < l.length := Nat.mod_lt _ (by omega)
    have e4 : l.getD ((i + a) % l.length) z53 = l[(i + a) % l.length] := by
      rw [List.getD_eq_getElem?_getD, List.getElem?_eq_getElem hm]
      rfl
    have hcm := hc l[(i + a) % l.length] (List.getElem_mem _)
    have e5 : tellK l ((i + a) % l.length) = ⟨(((i + a) % l.length : Nat) : Int), ⟨mergeR [] l[(i + a) % l.length].f0, l[(i + a) % l.length].f1, l[(i + a) % l.length].f2, l[(i + a) % l.length].f3⟩⟩ := by
      unfold tellK sumM
      rw [e4]
    have hrec := ih (i + 1) (A ++ [tellK l ((i + a) % l.length)]) (by omega) (by omega) (by simp; omega)
    rw [List.range'_succ, List.map_cons, show A ++ tellK l ((i + a) % l.length) :: (List.range' (i + 1) d).map (fun i => tellK l ((i + a) % l.length)) = (A ++ [tellK l ((i + a) % l.length)]) ++ (List.range' (i + 1) d).map (fun i => tellK l ((i + a) % l.length)) by simp]
    refine Ev.step (b := fun k => (folkmootref15_Merge.f k [] l[(i + a) % l.length].f0).bind fun t => if A.length < 1759218604441 then (if (A.map (·.f0)).length < 17592186044416 then (if (A.map (·.f1)).length < 1954687338268 then folkmootlaw16_told.l0 k l (a : Int) (A ++ [⟨(((i + a) % l.length : Nat) : Int), ⟨t, l[(i + a) % l.length].f1, l[(i + a) % l.length].f2, l[(i + a) % l.length].f3⟩⟩]) ((A.map (·.f0)) ++ [(((i + a) % l.length : Nat) : Int)]) ((A.map (·.f1)) ++ [⟨t, l[(i + a) % l.length].f1, l[(i + a) % l.length].f2, l[(i + a) % l.length].f3⟩]) ((i + 1 : Nat) : Int) else none) else none) else none) (fun k => ?_) (Ev.bind (refMerge_ev [] l[(i + a) % l.length].f0 (by simp; omega)) ?_)
    · rw [folkmootlaw16_told.l0, if_pos (by omega), if_neg (by omega), e1, e2, e3, if_pos (by omega), if_pos (by omega), rdS_nat hm, wrap_nat (by omega)]
    · have c1 : A.length < 1759218604441 := by omega
      have c2 : (A.map (·.f0)).length < 17592186044416 := by rw [List.length_map]; omega
      have c3 : (A.map (·.f1)).length < 1954687338268 := by rw [List.length_map]; omega
      simp only [c1, c2, c3, if_true]
      rw [List.map_append, List.map_append, e5] at hrec
      rw [e5]
      exact hrec
theorem told_ev (l : List S53) (a : Nat) (ha : a ≤ 255) (hn : l.length ≤ 16) (hc : ∀ s ∈ l, s.f0.length ≤ 150) : Ev (fun k => folkmootlaw16_told.f k l (a : Int)) (toldT l a, (toldT l a).map (·.f0), (toldT l a).map (·.f1)) := by
  have := told_loop l a ha hn hc l.length 0 [] (by omega) (by omega) rfl
  simpa [folkmootlaw16_told.f, toldT] using this
def total (l : List S53) : Nat := (l.map fun s => s.f0.length + s.f1.length).sum
def fewStep (x : Int) (s : S53) : Int := wrap64 (x + wrap64 ((s.f0.length : Int) + (s.f1.length : Int)))
theorem few_loop (l : List S53) (hl : l.length < 9223372036854775807) : ∀ (d i : Nat) (x : Int), d = l.length - i → i ≤ l.length → Ev (fun k => folkmootlaw16_few.l0 k l x (i : Int)) (if l.length ≤ 16 then decide ((l.drop i).foldl fewStep x ≤ 150) else false) := by
  intro d
  induction d with
  | zero =>
    intro i x hd hi
    have : i = l.length := by omega
    subst this
    refine Ev.step (fun k => by rw [folkmootlaw16_few.l0, if_neg (by omega)]) (Ev.const fun _ => ?_)
    rw [List.drop_length]
    by_cases hc : l.length ≤ 16
    · rw [if_pos hc, if_pos (by omega)]
      rfl
    · rw [if_neg hc, if_neg (by omega)]
  | succ d ih =>
    intro i x hd hi
    have hlt : i < l.length := by omega
    rw [List.drop_eq_getElem_cons hlt, List.foldl_cons]
    refine Ev.step (b := fun k => folkmootlaw16_few.l0 k l (fewStep x l[i]) ((i + 1 : Nat) : Int)) (fun k => ?_) (ih (i + 1) (fewStep x l[i]) (by omega) (by omega))
    rw [folkmootlaw16_few.l0, if_pos (by omega), if_pos (by omega), rdS_nat hlt, wrap_nat (by omega)]
    rfl
theorem few_fold : ∀ (l : List S53) (x : Nat), (∀ s ∈ l, s.f0.length + s.f1.length ≤ 8796093022208) → x + l.length * 8796093022208 < 4611686018427387904 → l.foldl fewStep (x : Int) = ((x + total l : Nat) : Int)
  | [], x, _, _ => by simp [total]
  | s :: l, x, hs, hx => by
    have h1 := hs s (List.mem_cons_self ..)
    simp only [List.length_cons] at hx
    have e : fewStep (x : Int) s = ((x + (s.f0.length + s.f1.length) : Nat) : Int) := by
      unfold fewStep
      have e1 : wrap64 ((s.f0.length : Int) + (s.f1.length : Int)) = ((s.f0.length + s.f1.length : Nat) : Int) := by unfold wrap64; omega
      rw [e1]
      unfold wrap64
      omega
    rw [List.foldl_cons, e, few_fold l _ (fun t ht => hs t (List.mem_cons_of_mem _ ht)) (by omega)]
    simp only [total, List.map_cons, List.sum_cons]
    congr 1
    omega
theorem rightS_size {s : S53} (h : rightS s) : s.f0.length + s.f1.length ≤ 8796093022208 := by
  have h1 := rightEs_len h.1
  have h2 := rightLs_len h.2.1
  omega
theorem few_ev (l : List S53) (hlen : l.length < 1954687338269) (h : ∀ x ∈ l, rightS x) : ∃ b, Ev (fun k => folkmootlaw16_few.f k l) b ∧ (b = true → l.length ≤ 16 ∧ total l ≤ 150) := by
  refine ⟨_, by simpa [folkmootlaw16_few.f] using few_loop l (by omega) l.length 0 0 (by omega) (by omega), ?_⟩
  intro hb
  simp only [Bool.and_eq_true, decide_eq_true_eq] at hb
  have := few_fold l 0 (fun s hs => rightS_size (h s hs)) (by omega)
  have e0 : ((0 : Nat) : Int) = 0 := rfl
  rw [e0] at this
  rw [this] at hb
  exact ⟨hb.1, by omega⟩
theorem total_mem : ∀ {l : List S53} {s : S53}, s ∈ l → s.f0.length + s.f1.length ≤ total l
  | x :: l, s, h => by
    simp only [total, List.map_cons, List.sum_cons]
    rcases List.mem_cons.1 h with rfl | h
    · omega
    · have := total_mem h
      simp only [total] at this
      omega
theorem awake16_ev : Ev (fun k => folkmootlaw16_awake.f k) true := Ev.of_mono (fun k => folkmootlaw16_awake.mono k) (K := 12) (by kernel_rfl)
theorem toldT_length (l : List S53) (a : Nat) : (toldT l a).length = l.length := by simp [toldT]
theorem mem_toldT {l : List S53} {a : Nat} {t : S87} : t ∈ toldT l a ↔ ∃ k, k < l.length ∧ t = tellK l k := by
  unfold toldT
  simp only [List.mem_map, List.mem_range'_1, Nat.zero_le, true_and, Nat.zero_add]
  constructor
  · rintro ⟨i, hi, rfl⟩
    exact ⟨_, Nat.mod_lt _ (by omega), rfl⟩
  · rintro ⟨k, hk, rfl⟩
    refine ⟨(k + (l.length - a % l.length)) % l.length, Nat.mod_lt _ (by omega), ?_⟩
    have h1 := Nat.mod_lt a (show l.length > 0 by omega)
    rw [← Nat.add_mod_mod, Nat.mod_add_mod, show k + (l.length - a % l.length) + a % l.length = k + l.length by omega, Nat.add_mod_right, Nat.mod_eq_of_lt hk]
structure Fine (T : List S87) : Prop where
  len : T.length ≤ 17
  node : ∀ t ∈ T, 0 ≤ t.f0
  uniq : ∀ t ∈ T, ∀ u ∈ T, t.f0 = u.f0 → t = u
  con : ∀ t ∈ T, t.f1.f0.length ≤ 150
  ord : ∀ t ∈ T, t.f1.f1.length ≤ 150
  bytes : ∀ t ∈ T, ∀ x ∈ t.f1.f0, x.f1.length < 140737488355328
theorem sizeC_le : ∀ {l : List (List S32)} {b : Nat}, (∀ x ∈ l, x.length ≤ b) → sizeC l ≤ l.length * b
  | [], b, _ => by simp [sizeC]
  | x :: l, b, h => by
    have h1 := h x (List.mem_cons_self ..)
    have h2 := sizeC_le (l := l) (b := b) fun y hy => h y (List.mem_cons_of_mem _ hy)
    simp only [sizeC, List.map_cons, List.sum_cons, List.length_cons] at h2 ⊢
    rw [Nat.add_mul]
    omega
theorem Fine.size {T : List S87} (h : Fine T) : sizeC (T.map fun t => t.f1.f0) ≤ 1000000 := by
  have h1 := sizeC_le (l := T.map fun t => t.f1.f0) (b := 150) fun x hx => by
    obtain ⟨t, ht, rfl⟩ := List.mem_map.1 hx
    exact h.con t ht
  rw [List.length_map] at h1
  have h2 := h.len
  have : T.length * 150 ≤ 17 * 150 := Nat.mul_le_mul_right _ h2
  omega
theorem told_fine {l : List S53} {a : Nat} (h : ∀ x ∈ l, rightS x) (hn : l.length ≤ 16) (ht : total l ≤ 150) : Fine (toldT l a) := by
  have hs : ∀ t ∈ toldT l a, ∃ k, ∃ hk : k < l.length, t = ⟨(k : Int), sumM l[k]⟩ := fun t h => by
    obtain ⟨k, hk, rfl⟩ := mem_toldT.1 h
    refine ⟨k, hk, ?_⟩
    unfold tellK
    rw [List.getD_eq_getElem?_getD, List.getElem?_eq_getElem hk]
    rfl
  refine ⟨by rw [toldT_length]; omega, fun t ht => ?_, fun t ht u hu e => ?_, fun t ht2 => ?_, fun t ht2 => ?_, fun t ht2 x hx => ?_⟩
  · obtain ⟨k, hk, rfl⟩ := hs t ht
    exact Int.natCast_nonneg _
  · obtain ⟨k, hk, rfl⟩ := hs t ht
    obtain ⟨j, hj, rfl⟩ := hs u hu
    have : k = j := by
      have e2 : (k : Int) = (j : Int) := e
      omega
    subst this
    rfl
  · obtain ⟨k, hk, rfl⟩ := hs t ht2
    have h1 := total_mem (List.getElem_mem hk)
    have h2 := mergeR_length l[k].f0 []
    simp only [sumM, List.length_nil] at h2 ⊢
    omega
  · obtain ⟨k, hk, rfl⟩ := hs t ht2
    have h1 := total_mem (List.getElem_mem hk)
    simp only [sumM]
    omega
  · obtain ⟨k, hk, rfl⟩ := hs t ht2
    simp only [sumM] at hx
    rcases mem_mergeR hx with hx | hx
    · cases hx
    · exact rightB_len ((h _ (List.getElem_mem hk)).1.2 x hx).2
theorem con_few {l : List S53} (ht : total l ≤ 150) : ∀ s ∈ l, s.f0.length ≤ 150 := fun s hs => by have := total_mem hs; omega
theorem exch_start {j0 : Nat → Bool → Option Bool} (l : List S53) (hlen : l.length < 1954687338269) (h : ∀ x ∈ l, rightS x) (hT : Ev (fun k => j0 k true) true) (hF : l.length ≤ 16 → total l ≤ 150 → Ev (fun k => j0 k false) true) :
    Ev (fun k => (folkmootlaw16_awake.f k).bind fun t => if t = true then ((folkmootlaw16_few.f k l).bind fun b => j0 k (!b)) else j0 k true) true := by
  obtain ⟨b, hb, hc⟩ := few_ev l hlen h
  refine Ev.bind awake16_ev ?_
  simp only [if_true]
  refine Ev.bind hb ?_
  cases b with
  | true => exact hF (hc rfl).1 (hc rfl).2
  | false => exact hT
theorem u8_nat {a : Int} (h : (Lit.int .u8 a).wf = true) : ∃ n : Nat, a = (n : Int) ∧ n ≤ 255 := by
  simp only [Lit.wf, Bool.and_eq_true, decide_eq_true_eq] at h
  have e1 : IntKind.u8.min = 0 := by decide
  have e2 : IntKind.u8.max = 255 := by decide
  exact ⟨a.toNat, by omega, by omega⟩
theorem Fine.lt {T : List S87} (h : Fine T) : T.length < 9223372036854775807 := by have := h.len; omega
theorem Fine.ord1 {T : List S87} (h : Fine T) : ∀ t ∈ T, t.f1.f1.length ≤ 1000000 := fun t ht => by have := h.ord t ht; omega
theorem Fine.short {T : List S87} (h : Fine T) : Ev (fun k => exchange_Short.f k T) (shortT T) := short_ev T h.lt fun t ht => by have := h.ord t ht; omega
theorem Fine.full {T : List S87} (h : Fine T) : Ev (fun k => exchange_Full.f k T) (fullT T) := full_ev T h.lt h.ord1 h.bytes h.size
end Go.Proofs.Ytioooiflpabngaa.PAll
end
section
namespace Go.Proofs.Ytioooiflpabngaa.PAll
open Go.RowKit Go.Proofs.YtioooiflpabngaaW.PrintWords Go.Proofs.YtioooiflpabngaaW.PrintLast Go.Proofs.YtioooiflpabngaaW.PrintMore
attribute [local go_sem] max2_int min2_int max_two min_two max_three min_three max_four min_four   -- for this text's walks alone
set_option linter.unusedVariables false
set_option linter.unusedSimpArgs false
attribute [local go_sem high] eqA25
mutual
def folkmootlaw16_ExchangeOne.j0 : Nat → Int → Bool → List (S32) → List (S27) → Int → Int → Int → Option (Bool)
 | 0, _, _, _, _, _, _, _ => none
 | k + 1, x1, x17, x1004000, x1004001, x1004002, x1004003, x1004004 => if x17 = true then ((folkmootlaw16_awake.f k).bind fun t1009 => (some t1009)) else ((folkmootlaw16_told.f k (([(⟨x1004000, x1004001, x1004002, (⟨x1004003, x1004004⟩ : S25)⟩ : S53)] : List (S53))) 0).bind fun bt1013 => (if 0 < (bt1013.1.length : Int) then ((some (bt1013.1.set (0 : Int).toNat (⟨Int.tmod (wrap64 (x1)) 16, (⟨(rd_T87 bt1013.1 0).f1.f0, (rd_T87 bt1013.1 0).f1.f1, (rd_T87 bt1013.1 0).f1.f2, (⟨(rd_T87 bt1013.1 0).f1.f3.f0, (rd_T87 bt1013.1 0).f1.f3.f1⟩ : S25)⟩ : S53)⟩ : S87) : List (S87))).bind fun y1022 => ((exchange_Full.f k y1022).bind fun t1023 => (if x1004002 < 1 then (folkmootlaw16_ExchangeOne.j1 k x1 y1022 t1023 1 x1004000 x1004001 x1004002 x1004003 x1004004) else (folkmootlaw16_ExchangeOne.j1 k x1 y1022 t1023 x1004002 x1004000 x1004001 x1004002 x1004003 x1004004)))) else (none)))
def folkmootlaw16_ExchangeOne.j1 : Nat → Int → List (S87) → List (S27) → Int → List (S32) → List (S27) → Int → Int → Int → Option (Bool)
 | 0, _, _, _, _, _, _, _, _, _ => none
 | k + 1, x1, x5, x8, x9, x1004000, x1004001, x1004002, x1004003, x1004004 => (exchange_Next.f k x5).bind fun t1026 => (if t1026 = x9 then ((exchange_Chosen.f k x5).bind fun t1027 => (if t1027 = (-1) then ((exchange_High.f k x5).bind fun bt1028 => (if (bt1028.1 == 0 && (bt1028.2 == 0)) = true then (if (!(x1004003 == 0) || (!(x1004004 == 0))) = true then ((exchange_Short.f k x5).bind fun t1030 => (some ((t1030.length : Int) == 0))) else (some false)) else (some false))) else ((exchange_Chosen.f k x5).bind fun t1033 => (if t1033 = (Int.tmod (wrap64 (x1)) 16) then ((exchange_High.f k x5).bind fun bt1034 => (if (bt1034.1 == x1004003 && (bt1034.2 == x1004004)) = true then ((exchange_Short.f k x5).bind fun t1036 => ((folkmootref05_Same.f k t1036 x1004001).bind fun t1039 => (if t1039 = true then (some (decide ((x8.length : Int) ≥ (x1004001.length : Int)))) else (some false)))) else (some false))) else (some false))))) else (some false))
end
def folkmootlaw16_ExchangeOne.f (k : Nat) (l0_0 : List (S32)) (l0_1 : List (S27)) (a0_2 : Int) (a0_3 : Int) (a0_4 : Int) (a1 : Int) : Option (Bool) := (folkmootlaw16_awake.f k).bind fun t1004 => (if t1004 = true then ((folkmootlaw16_few.f k (([(⟨l0_0, l0_1, a0_2, (⟨a0_3, a0_4⟩ : S25)⟩ : S53)] : List (S53)))).bind fun t1008 => (folkmootlaw16_ExchangeOne.j0 k a1 (!t1008) l0_0 l0_1 a0_2 a0_3 a0_4)) else (folkmootlaw16_ExchangeOne.j0 k a1 true l0_0 l0_1 a0_2 a0_3 a0_4))
def folkmootlaw16_ExchangeOne.T13 : Bool × List (List Nat × List Nat) := (true, [([], []), ([0], [0]), ([], []), ([2], [2]), ([3], [3]), ([1, 4], [1, 4]), ([5, 1], [5]), ([6], [6]), ([7, 6, 6], [6, 7]), ([6], [6]), ([9, 6], [6, 9]), ([8, 10, 6], [6, 8, 10]), ([6, 11], [6, 11]), ([12, 8], [12]), ([13], [13]), ([14, 13, 13], [13, 14]), ([13], [13]), ([16, 13], [13, 16]), ([15, 17, 15, 13], [13, 15, 17]), ([13, 18], [13, 18]), ([19, 18], [19]), ([20], [20]), ([21, 20], [20, 21]), ([20], [20]), ([23, 20], [20, 23]), ([24, 20], [20, 24]), ([22, 25, 20], [20, 22, 25]), ([20, 26], [20, 26]), ([27, 20, 0, 1, 2, 3, 4, 5, 6, 7, 8, 9, 10, 11, 12, 13, 14, 15, 16, 17, 18, 19, 20, 21, 22, 23, 24, 25, 26, 27], [27])])
def folkmootlaw16_ExchangeOne.B13 : List Nat := [0, 1, 0, 4, 12, 31, 63, 127, 255, 127, 639, 2047, 4095, 8191, 16383, 32767, 16383, 81919, 262143, 524287, 1048575, 2097151, 4194303, 2097151, 10485759, 27262975, 67108863, 134217727, 268435455]
theorem folkmootlaw16_ExchangeOne.tab13 : rtab .any (opsOf Try.f20 13) = folkmootlaw16_ExchangeOne.T13 := by kernel_rfl
theorem folkmootlaw16_ExchangeOne.bits13 : waitsOk folkmootlaw16_ExchangeOne.T13.2 folkmootlaw16_ExchangeOne.B13 = true := by kernel_rfl
set_option maxHeartbeats 8000000 in
set_option maxRecDepth 100000 in
theorem folkmootlaw16_ExchangeOne.calls (k : Nat) (P0_0_ : Nat → Prop) (A0_0 : Option Addr) (c0_0 : Nat) (l0_0 : List (S32)) (P0_1_ : Nat → Prop) (A0_1 : Option Addr) (c0_1 : Nat) (l0_1 : List (S27)) (a0_2 : Int) (a0_3 : Int) (a0_4 : Int) (a1 : Int) (r : Bool) (w : World) (hs0_0 : Kd.V k32 32 w w.heap.size (fun k_ => P0_0_ k_) (.slice A0_0 l0_0.length c0_0) l0_0) (hs0_1 : Kd.V k27 27 w w.heap.size (fun k_ => P0_1_ k_) (.slice A0_1 l0_1.length c0_1) l0_1) (h : folkmootlaw16_ExchangeOne.f k l0_0 l0_1 a0_2 a0_3 a0_4 a1 = some r) :
  Calls Try.prog 20 #[.agg #[.slice A0_0 l0_0.length c0_0, .slice A0_1 l0_1.length c0_1, .int .i64 a0_2, .int .u64 a0_3, .int .i64 a0_4], .int .u8 a1] w fun e w' => e = .returned (.bool r) ∧ Below w.heap.size w w' := by
 have hu53 := Try.underlying53
 have hu25 := Try.underlying25
 have HO0_0 := Aside0.mk (show Kd.V k32 32 w w.heap.size (fun k_ => ((P0_0_ k_ ∨ P0_1_ k_) ∨ w.heap.size ≤ k_)) (.slice A0_0 l0_0.length c0_0) l0_0 from Kd.V_mono hs0_0 (fun k_ hk => .inl (.inl hk)))
 have HO0_1 := Aside0.mk (show Kd.V k27 27 w w.heap.size (fun k_ => ((P0_0_ k_ ∨ P0_1_ k_) ∨ w.heap.size ≤ k_)) (.slice A0_1 l0_1.length c0_1) l0_1 from Kd.V_mono hs0_1 (fun k_ hk => .inl (.inr hk)))
 have HB := Aside0.mk (Below.refl w.heap.size w)
 have H : ((folkmootlaw16_awake.f k).bind fun t1004 => (if t1004 = true then ((folkmootlaw16_few.f k (([(⟨l0_0, l0_1, a0_2, (⟨a0_3, a0_4⟩ : S25)⟩ : S53)] : List (S53)))).bind fun t1008 => (folkmootlaw16_ExchangeOne.j0 k a1 (!t1008) l0_0 l0_1 a0_2 a0_3 a0_4)) else (folkmootlaw16_ExchangeOne.j0 k a1 true l0_0 l0_1 a0_2 a0_3 a0_4))) = some r := h
 clear h
 have HC3 := Aside0.mk H
 clear H
 go_enter Try.func20, Try.ntmps20
 go_upto_region 1 with (first | ((with_reducible refine gate_dst (N := 2) rfl ?_); (try (refine gate_guard (by rfl) ?_; dsimp only)); refine box_event ?hg (N := 2) ?hd (cs := #[.slice A0_0 l0_0.length c0_0, .slice A0_1 l0_1.length c0_1, .int .i64 a0_2, .int .u64 a0_3, .int .i64 a0_4]) (t := 53) ?hr ?_; (case hd => rfl); (case hg => rfl); (case hr => first | (go_simp; done) | (go_simp; rfl)); intro gb1003 hg w4 hbox hb; have n0_ := Aside0.mk (Kd.V_below (Kd.V_elderB (zv_ HO0_0) gb1003 (Nat.le_of_eq hg.symm)) hb); have n1_ := Aside0.mk (Kd.V_below (Kd.V_elderB (zv_ HO0_1) gb1003 (Nat.le_of_eq hg.symm)) hb); have n2_ := Aside0.mk (below_step zb_ hb); have n3_ := Aside0.mk (hbox); have n4_ := Aside0.mk ((by rw [hg]; exact (below_size zb_) : w.heap.size ≤ gb1003)); have n5_ := Aside0.mk ((by rw [hg]; exact (below_size zb_) : w.heap.size ≤ gb1003)); clear HO0_0; clear HO0_1; clear HB; have HO0_0 := n0_; have HO0_1 := n1_; have HB := n2_; have BK1003 := n3_; have GW1003 := n4_; have GE1003 := n5_; clear n0_ n1_ n2_ n3_ n4_ n5_; clear hb hbox hg))
 (try simp only [Act.put, List.setIfInBounds_toArray, List.set_cons_zero, List.set_cons_succ])
 go_cut [17] (fun v17 wc => ∃ (kq : Nat) (x17_2 : Bool), v17 = .bool x17_2 ∧ Aside0 (folkmootlaw16_ExchangeOne.j0 kq a1 x17_2 l0_0 l0_1 a0_2 a0_3 a0_4 = some r) ∧ Aside0 (kq ≤ k) ∧ Aside0 (Kd.V k32 32 wc w.heap.size (fun k_ => ((P0_0_ k_ ∨ P0_1_ k_) ∨ w.heap.size ≤ k_) ∧ k_ ≠ gb1003) (.slice A0_0 l0_0.length c0_0) l0_0) ∧ Aside0 (Kd.V k27 27 wc w.heap.size (fun k_ => ((P0_0_ k_ ∨ P0_1_ k_) ∨ w.heap.size ≤ k_) ∧ k_ ≠ gb1003) (.slice A0_1 l0_1.length c0_1) l0_1) ∧ Aside0 (wc.heap[gb1003]? = some (.cells #[(.slice A0_0 l0_0.length c0_0), (.slice A0_1 l0_1.length c0_1), .int .i64 a0_2, .int .u64 a0_3, .int .i64 a0_4] 53 (0, 0))) ∧ Aside0 (Below w.heap.size w wc))
 case first =>
  have H := HC3.out
  clear HC3
  replace H := Option.bind_eq_some_iff.mp H
  obtain ⟨t1004, A50, H⟩ := H
  replace H : (if t1004 = true then ((folkmootlaw16_few.f k (([(⟨l0_0, l0_1, a0_2, (⟨a0_3, a0_4⟩ : S25)⟩ : S53)] : List (S53)))).bind fun t1008 => (folkmootlaw16_ExchangeOne.j0 k a1 (!t1008) l0_0 l0_1 a0_2 a0_3 a0_4)) else (folkmootlaw16_ExchangeOne.j0 k a1 true l0_0 l0_1 a0_2 a0_3 a0_4)) = some r := H
  have A5 := Aside0.mk A50
  clear A50
  by_cases c6 : t1004 = true
  ·
   subst c6
   have H1 : ((folkmootlaw16_few.f k (([(⟨l0_0, l0_1, a0_2, (⟨a0_3, a0_4⟩ : S25)⟩ : S53)] : List (S53)))).bind fun t1008 => (folkmootlaw16_ExchangeOne.j0 k a1 (!t1008) l0_0 l0_1 a0_2 a0_3 a0_4)) = some r := by rw [if_pos rfl] at H; exact H
   clear H
   have H := H1
   clear H1
   obtain ⟨y1005, hy1005⟩ : ∃ y_ : List (S53), y_ = (([(⟨l0_0, l0_1, a0_2, (⟨a0_3, a0_4⟩ : S25)⟩ : S53)] : List (S53))) := ⟨_, rfl⟩
   replace H : ((folkmootlaw16_few.f k y1005).bind fun t1008 => (folkmootlaw16_ExchangeOne.j0 k a1 (!t1008) l0_0 l0_1 a0_2 a0_3 a0_4)) = some r := by first | (rw [hy1005]; with_reducible exact H) | (have H2_ := (Option.bind_some _ _).symm.trans H; rw [hy1005]; with_reducible exact H2_) | (have H2_ := (Option.bind_some _ _).symm.trans H; with_reducible exact H2_) | with_reducible exact H | (rw [hy1005]; exact H) | exact H
   have Ny1005 := Aside0.mk hy1005
   clear hy1005
   replace H := Option.bind_eq_some_iff.mp H
   obtain ⟨t1008, A70, H⟩ := H
   replace H : (folkmootlaw16_ExchangeOne.j0 k a1 (!t1008) l0_0 l0_1 a0_2 a0_3 a0_4) = some r := H
   have A7 := Aside0.mk A70
   clear A70
   have H' := Aside0.mk H
   clear H
   go_wp2_with (first | ((with_reducible refine gate_callee (f := 55) rfl ?_); refine goesL_ (some 10) rfl rfl Try.func55 (by kernel_rfl) rfl #[] rfl za_ ?_; (with_reducible refine (folkmootlaw16_awake.calls k  true _ A5.out).mono ?_); rintro e w8 ⟨rfl, hb⟩; refine ⟨_, rfl, ?_⟩; have n0_ := Aside0.mk (Kd.V_below (zv_ HO0_0) hb); have n1_ := Aside0.mk (Kd.V_below (zv_ HO0_1) hb); have n2_ := zk_ BK1003 hb; have n3_ := Aside0.mk (below_step zb_ hb); clear HO0_0; clear HO0_1; clear BK1003; clear HB; have HO0_0 := n0_; have HO0_1 := n1_; have BK1003 := n2_; have HB := n3_; clear n0_ n1_ n2_ n3_; (try clear hb); (try clear hb2); (try clear hk); (try clear hi); have hcz9_0 : w8.cell? ⟨gb1003, 0, none⟩ = some (.slice A0_0 l0_0.length c0_0) := (blk_cell BK1003.out 0).trans rfl; have hcz9_1 : w8.cell? ⟨gb1003, 1, none⟩ = some (.slice A0_1 l0_1.length c0_1) := (blk_cell BK1003.out 1).trans rfl; have hcz9_2 : w8.cell? ⟨gb1003, 2, none⟩ = some (.int .i64 a0_2) := (blk_cell BK1003.out 2).trans rfl; have hcz9_3 : w8.cell? ⟨gb1003, 3, none⟩ = some (.int .u64 a0_3) := (blk_cell BK1003.out 3).trans rfl; have hcz9_4 : w8.cell? ⟨gb1003, 4, none⟩ = some (.int .i64 a0_4) := (blk_cell BK1003.out 4).trans rfl; have hfz9_0 := blk_frozen BK1003.out 0; have hfz9_1 := blk_frozen BK1003.out 1; have hfz9_2 := blk_frozen BK1003.out 2; have hfz9_3 := blk_frozen BK1003.out 3; have hfz9_4 := blk_frozen BK1003.out 4) | ((with_reducible refine gate_dst (N := 14) rfl ?_); (try (refine gate_guard (by rfl) ?_; dsimp only)); refine Kd.N_lit k53 _ 53 ?hg (N' := 14) ?hd (xs := ([(⟨l0_0, l0_1, a0_2, (⟨a0_3, a0_4⟩ : S25)⟩ : S53)] : List (S53))) (inner := [.slice A0_0 l0_0.length c0_0, .slice A0_1 l0_1.length c0_1, .int .i64 a0_2, .int .u64 a0_3, .int .i64 a0_4]) (ok := (fun k_ => ((P0_0_ k_ ∨ P0_1_ k_) ∨ w.heap.size ≤ k_) ∧ k_ ≠ gb1003)) (okp := (fun k_ => ((P0_0_ k_ ∨ P0_1_ k_) ∨ w.heap.size ≤ k_) ∧ k_ ≠ gb1003)) ?hr ?hp (fun _ hk => hk) ((show ∀ k_, w8.heap.size ≤ k_ → (fun k_ => ((P0_0_ k_ ∨ P0_1_ k_) ∨ w.heap.size ≤ k_) ∧ k_ ≠ gb1003) k_ from fun k_ hk => ⟨(.inr (Nat.le_trans (below_size zb_) hk)), Kd.freshB (g := gb1003) (o := .cells #[.slice A0_0 l0_0.length c0_0, .slice A0_1 l0_1.length c0_1, .int .i64 a0_2, .int .u64 a0_3, .int .i64 a0_4] 53 (0, 0)) (by (with_reducible repeat (first | refine blk_drewN ?_ _ | refine blk_drew ?_ | refine blk_alloc ?_ _)); exact BK1003.out) k_ hk⟩) _ (Nat.le_refl _)) (Below.refl _ _) (Nat.le_refl _) (by simp) ?_; (case hd => rfl); (case hg => rfl); (case hr => first | (go_simp; done) | (go_simp; rfl)); (case hp => first | exact (Reps.c5 (show Kd.FK k53 _ _ (⟨l0_0, l0_1, a0_2, (⟨a0_3, a0_4⟩ : S25)⟩ : S53) [.slice A0_0 l0_0.length c0_0, .slice A0_1 l0_1.length c0_1, .int .i64 a0_2, .int .u64 a0_3, .int .i64 a0_4] from (k53_mkF _ _ (⟨l0_0, l0_1, a0_2, (⟨a0_3, a0_4⟩ : S25)⟩ : S53) (Kd.V_reads' (Kd.V_mono (ok' := (fun k_ => ((P0_0_ k_ ∨ P0_1_ k_) ∨ w.heap.size ≤ k_) ∧ k_ ≠ gb1003)) (HO0_0.out) (fun k_ hk => ⟨hk.1, hk.2⟩))).2.1 (Kd.V_F (Kd.V_mono (ok' := (fun k_ => ((P0_0_ k_ ∨ P0_1_ k_) ∨ w.heap.size ≤ k_) ∧ k_ ≠ gb1003)) (HO0_0.out) (fun k_ hk => ⟨hk.1, hk.2⟩))) (Kd.V_reads' (Kd.V_mono (ok' := (fun k_ => ((P0_0_ k_ ∨ P0_1_ k_) ∨ w.heap.size ≤ k_) ∧ k_ ≠ gb1003)) (HO0_1.out) (fun k_ hk => ⟨hk.1, hk.2⟩))).2.1 (Kd.V_F (Kd.V_mono (ok' := (fun k_ => ((P0_0_ k_ ∨ P0_1_ k_) ∨ w.heap.size ≤ k_) ∧ k_ ≠ gb1003)) (HO0_1.out) (fun k_ hk => ⟨hk.1, hk.2⟩))))) (Reps.none _ _)) | exact (Reps.c5 (show Kd.FK k53 _ _ (⟨l0_0, l0_1, a0_2, (⟨a0_3, a0_4⟩ : S25)⟩ : S53) [.slice A0_0 l0_0.length c0_0, .slice A0_1 l0_1.length c0_1, .int .i64 a0_2, .int .u64 a0_3, .int .i64 a0_4] from (k53_mkF _ _ (⟨l0_0, l0_1, a0_2, (⟨a0_3, a0_4⟩ : S25)⟩ : S53) (Kd.V_reads' (Kd.V_mono (ok' := (fun k_ => ((P0_0_ k_ ∨ P0_1_ k_) ∨ w.heap.size ≤ k_) ∧ k_ ≠ gb1003)) (HO0_0.out) (fun k_ hk => ⟨hk.1, hk.2⟩))).2.1 (Kd.V_F (Kd.V_mono (ok' := (fun k_ => ((P0_0_ k_ ∨ P0_1_ k_) ∨ w.heap.size ≤ k_) ∧ k_ ≠ gb1003)) (Kd.V_drewN HO0_0.out _) (fun k_ hk => ⟨hk.1, hk.2⟩))) (Kd.V_reads' (Kd.V_mono (ok' := (fun k_ => ((P0_0_ k_ ∨ P0_1_ k_) ∨ w.heap.size ≤ k_) ∧ k_ ≠ gb1003)) (HO0_1.out) (fun k_ hk => ⟨hk.1, hk.2⟩))).2.1 (Kd.V_F (Kd.V_mono (ok' := (fun k_ => ((P0_0_ k_ ∨ P0_1_ k_) ∨ w.heap.size ≤ k_) ∧ k_ ≠ gb1003)) (Kd.V_drewN HO0_1.out _) (fun k_ hk => ⟨hk.1, hk.2⟩))))) (Reps.none _ _))); intro v1006 w10 ho11 hb hg_ hnew_; clear hg_ hnew_; (first | rw [← Ny1005.out] at ho11 | (simp only [Int.reduceToNat] at ho11; rw [← Ny1005.out] at ho11)); have n0_ := Aside0.mk (Kd.V_elder' (zv_ HO0_0) (Kd.N_base ho11) hb); have n1_ := Aside0.mk (Kd.V_elder' (zv_ HO0_1) (Kd.N_base ho11) hb); have n2_ := Aside0.mk (Kd.N_lower ho11 (below_size zb_)); have n3_ := zk_ BK1003 hb; have n4_ := Aside0.mk (below_step zb_ hb); clear HO0_0; clear HO0_1; clear BK1003; clear HB; have HO0_0 := n0_; have HO0_1 := n1_; have HO1007 := n2_; have BK1003 := n3_; have HB := n4_; clear n0_ n1_ n2_ n3_ n4_; clear hb ho11; obtain ⟨Ao12, co12, eo12⟩ := Kd.N_slice HO1007.out; subst eo12) | (go_at_call 56; (with_reducible refine (folkmootlaw16_few.calls k _ _ y1005 t1008 _ ?side1 ?side2 A7.out).mono ?_); (case side1 => exact zd_ (Kd.N_reads' HO1007.out).2.2); (case side2 => exact (Kd.N_reads' HO1007.out).2.1); rintro e w' ⟨rfl, ⟨nd, rfl⟩⟩))
   go_meet
   case rel => exact ⟨_, (!t1008), (by first | rfl | (simp; done) | (simp [*]; done)), H', ⟨by first | omega | exact Nat.le_refl _⟩, ⟨by (with_reducible repeat (first | apply Kd.V_alloc | apply Kd.V_drewN | apply Kd.V_drew)); exact Kd.V_mono HO0_0.out (fun _ hk => ⟨hk.1.1, hk.1.2⟩)⟩, ⟨by (with_reducible repeat (first | apply Kd.V_alloc | apply Kd.V_drewN | apply Kd.V_drew)); exact Kd.V_mono HO0_1.out (fun _ hk => ⟨hk.1.1, hk.1.2⟩)⟩, ⟨by (with_reducible repeat (first | refine blk_drewN ?_ _ | refine blk_drew ?_ | refine blk_alloc ?_ _)); exact BK1003.out⟩, ⟨by repeat (first | (with_reducible first | exact HB.out | apply below_alloc | apply pw_below_drewN | apply below_drew1 | refine below_set ?_ GE1003.out) | exact HB.out)⟩⟩
  ·
   replace c6 := Bool.eq_false_iff.mpr c6
   subst c6
   have H1 : (folkmootlaw16_ExchangeOne.j0 k a1 true l0_0 l0_1 a0_2 a0_3 a0_4) = some r := by rw [if_neg (show ¬ (false = true) by decide)] at H; exact H
   clear H
   have H := H1
   clear H1
   have H' := Aside0.mk H
   clear H
   go_wp2_with (first | ((with_reducible refine gate_callee (f := 55) rfl ?_); refine goesL_ (some 10) rfl rfl Try.func55 (by kernel_rfl) rfl #[] rfl za_ ?_; (with_reducible refine (folkmootlaw16_awake.calls k  false _ A5.out).mono ?_); rintro e w13 ⟨rfl, hb⟩; refine ⟨_, rfl, ?_⟩; have n0_ := Aside0.mk (Kd.V_below (zv_ HO0_0) hb); have n1_ := Aside0.mk (Kd.V_below (zv_ HO0_1) hb); have n2_ := zk_ BK1003 hb; have n3_ := Aside0.mk (below_step zb_ hb); clear HO0_0; clear HO0_1; clear BK1003; clear HB; have HO0_0 := n0_; have HO0_1 := n1_; have BK1003 := n2_; have HB := n3_; clear n0_ n1_ n2_ n3_; (try clear hb); (try clear hb2); (try clear hk); (try clear hi)))
   go_meet
   case rel => exact ⟨_, (true), (by first | rfl | (simp; done) | (simp [*]; done)), H', ⟨by first | omega | exact Nat.le_refl _⟩, ⟨by (with_reducible repeat (first | apply Kd.V_alloc | apply Kd.V_drewN | apply Kd.V_drew)); exact HO0_0.out⟩, ⟨by (with_reducible repeat (first | apply Kd.V_alloc | apply Kd.V_drewN | apply Kd.V_drew)); exact HO0_1.out⟩, ⟨by (with_reducible repeat (first | refine blk_drewN ?_ _ | refine blk_drew ?_ | refine blk_alloc ?_ _)); exact BK1003.out⟩, ⟨by repeat (first | (with_reducible first | exact HB.out | apply below_alloc | apply pw_below_drewN | apply below_drew1 | refine below_set ?_ GE1003.out) | exact HB.out)⟩⟩
 case rest =>
  clear HC3
  try clear c2
  try clear p2
  try clear c5
  try clear c6
  try clear hcz9_0
  try clear hcz9_1
  try clear hcz9_2
  try clear hcz9_3
  try clear hcz9_4
  try clear hfz9_0
  try clear hfz9_1
  try clear hfz9_2
  try clear hfz9_3
  try clear hfz9_4
  obtain ⟨kq, x17_2, rfl, HA, HJ2, HO_1004000, HO_1004001, BK1003, HB⟩ := hcut
  cases kq with
  | zero => exact absurd HA.out (by simp [folkmootlaw16_ExchangeOne.j0])
  | succ kj2 =>
   have H := HA.out
   clear HA
   simp only [folkmootlaw16_ExchangeOne.j0] at H
   by_cases c14 : x17_2 = true
   ·
    subst c14
    have H1 : ((folkmootlaw16_awake.f kj2).bind fun t1009 => (some t1009)) = some r := by rw [if_pos rfl] at H; exact H
    clear H
    have H := H1
    clear H1
    replace H := Option.bind_eq_some_iff.mp H
    obtain ⟨t1009, A150, H⟩ := H
    replace H : (some t1009) = some r := H
    have A15 := Aside0.mk A150
    clear A150
    obtain rfl := Option.some.inj H
    go_wp2_with (first | ((with_reducible refine gate_callee (f := 55) rfl ?_); refine goesL_ (some 18) rfl rfl Try.func55 (by kernel_rfl) rfl #[] rfl za_ ?_; (with_reducible refine (folkmootlaw16_awake.calls kj2  t1009 _ A15.out).mono ?_); rintro e w16 ⟨rfl, hb⟩; refine ⟨_, rfl, ?_⟩; have n0_ := Aside0.mk (Kd.V_below (zv_ HO_1004000) hb); have n1_ := Aside0.mk (Kd.V_below (zv_ HO_1004001) hb); have n2_ := zk_ BK1003 hb; have n3_ := Aside0.mk (below_step zb_ hb); clear HO_1004000; clear HO_1004001; clear BK1003; clear HB; have HO_1004000 := n0_; have HO_1004001 := n1_; have BK1003 := n2_; have HB := n3_; clear n0_ n1_ n2_ n3_; (try clear hb); (try clear hb2); (try clear hk); (try clear hi)))
    go_ret
    exact ⟨by first | rfl | (simp [errW_none, errW_some] <;> rfl) | (simp [*, errW_none, errW_some] <;> rfl), by repeat (first | (with_reducible first | exact HB.out | apply below_alloc | apply pw_below_drewN | apply below_drew1 | refine below_set ?_ GE1003.out) | exact HB.out)⟩
   ·
    replace c14 := Bool.eq_false_iff.mpr c14
    subst c14
    have H1 : ((folkmootlaw16_told.f kj2 (([(⟨l0_0, l0_1, a0_2, (⟨a0_3, a0_4⟩ : S25)⟩ : S53)] : List (S53))) 0).bind fun bt1013 => (if 0 < (bt1013.1.length : Int) then ((some (bt1013.1.set (0 : Int).toNat (⟨Int.tmod (wrap64 (a1)) 16, (⟨(rd_T87 bt1013.1 0).f1.f0, (rd_T87 bt1013.1 0).f1.f1, (rd_T87 bt1013.1 0).f1.f2, (⟨(rd_T87 bt1013.1 0).f1.f3.f0, (rd_T87 bt1013.1 0).f1.f3.f1⟩ : S25)⟩ : S53)⟩ : S87) : List (S87))).bind fun y1022 => ((exchange_Full.f kj2 y1022).bind fun t1023 => (if a0_2 < 1 then (folkmootlaw16_ExchangeOne.j1 kj2 a1 y1022 t1023 1 l0_0 l0_1 a0_2 a0_3 a0_4) else (folkmootlaw16_ExchangeOne.j1 kj2 a1 y1022 t1023 a0_2 l0_0 l0_1 a0_2 a0_3 a0_4)))) else (none))) = some r := by rw [if_neg (show ¬ (false = true) by decide)] at H; exact H
    clear H
    have H := H1
    clear H1
    obtain ⟨y1010, hy1010⟩ : ∃ y_ : List (S53), y_ = (([(⟨l0_0, l0_1, a0_2, (⟨a0_3, a0_4⟩ : S25)⟩ : S53)] : List (S53))) := ⟨_, rfl⟩
    replace H : ((folkmootlaw16_told.f kj2 y1010 0).bind fun bt1013 => (if 0 < (bt1013.1.length : Int) then ((some (bt1013.1.set (0 : Int).toNat (⟨Int.tmod (wrap64 (a1)) 16, (⟨(rd_T87 bt1013.1 0).f1.f0, (rd_T87 bt1013.1 0).f1.f1, (rd_T87 bt1013.1 0).f1.f2, (⟨(rd_T87 bt1013.1 0).f1.f3.f0, (rd_T87 bt1013.1 0).f1.f3.f1⟩ : S25)⟩ : S53)⟩ : S87) : List (S87))).bind fun y1022 => ((exchange_Full.f kj2 y1022).bind fun t1023 => (if a0_2 < 1 then (folkmootlaw16_ExchangeOne.j1 kj2 a1 y1022 t1023 1 l0_0 l0_1 a0_2 a0_3 a0_4) else (folkmootlaw16_ExchangeOne.j1 kj2 a1 y1022 t1023 a0_2 l0_0 l0_1 a0_2 a0_3 a0_4)))) else (none))) = some r := by first | (rw [hy1010]; with_reducible exact H) | (have H2_ := (Option.bind_some _ _).symm.trans H; rw [hy1010]; with_reducible exact H2_) | (have H2_ := (Option.bind_some _ _).symm.trans H; with_reducible exact H2_) | with_reducible exact H | (rw [hy1010]; exact H) | exact H
    have Ny1010 := Aside0.mk hy1010
    clear hy1010
    replace H := Option.bind_eq_some_iff.mp H
    obtain ⟨⟨t1013, t1016, t1019⟩, A170, H⟩ := H
    replace H : (if 0 < (t1013.length : Int) then ((some (t1013.set (0 : Int).toNat (⟨Int.tmod (wrap64 (a1)) 16, (⟨(rd_T87 t1013 0).f1.f0, (rd_T87 t1013 0).f1.f1, (rd_T87 t1013 0).f1.f2, (⟨(rd_T87 t1013 0).f1.f3.f0, (rd_T87 t1013 0).f1.f3.f1⟩ : S25)⟩ : S53)⟩ : S87) : List (S87))).bind fun y1022 => ((exchange_Full.f kj2 y1022).bind fun t1023 => (if a0_2 < 1 then (folkmootlaw16_ExchangeOne.j1 kj2 a1 y1022 t1023 1 l0_0 l0_1 a0_2 a0_3 a0_4) else (folkmootlaw16_ExchangeOne.j1 kj2 a1 y1022 t1023 a0_2 l0_0 l0_1 a0_2 a0_3 a0_4)))) else (none)) = some r := H
    have A17 := Aside0.mk A170
    clear A170
    by_cases c18 : 0 < (t1013.length : Int)
    ·
     rw [if_pos c18] at H
     have c18b0 : decide (0 < (t1013.length : Int)) = true := decide_eq_true c18
     have c18b1 : decide (0 < t1013.length) = true := decide_eq_true (by omega)
     clear c18
     obtain ⟨y1022, hy1022⟩ : ∃ y_ : List (S87), y_ = (t1013.set (0 : Int).toNat (⟨Int.tmod (wrap64 (a1)) 16, (⟨(rd_T87 t1013 0).f1.f0, (rd_T87 t1013 0).f1.f1, (rd_T87 t1013 0).f1.f2, (⟨(rd_T87 t1013 0).f1.f3.f0, (rd_T87 t1013 0).f1.f3.f1⟩ : S25)⟩ : S53)⟩ : S87)) := ⟨_, rfl⟩
     replace H : ((exchange_Full.f kj2 y1022).bind fun t1023 => (if a0_2 < 1 then (folkmootlaw16_ExchangeOne.j1 kj2 a1 y1022 t1023 1 l0_0 l0_1 a0_2 a0_3 a0_4) else (folkmootlaw16_ExchangeOne.j1 kj2 a1 y1022 t1023 a0_2 l0_0 l0_1 a0_2 a0_3 a0_4))) = some r := by first | (rw [hy1022]; with_reducible exact H) | (have H2_ := (Option.bind_some _ _).symm.trans H; rw [hy1022]; with_reducible exact H2_) | (have H2_ := (Option.bind_some _ _).symm.trans H; with_reducible exact H2_) | with_reducible exact H | (rw [hy1022]; exact H) | exact H
     have Ny1022 := Aside0.mk hy1022
     clear hy1022
     replace H := Option.bind_eq_some_iff.mp H
     obtain ⟨t1023, A200, H⟩ := H
     replace H : (if a0_2 < 1 then (folkmootlaw16_ExchangeOne.j1 kj2 a1 y1022 t1023 1 l0_0 l0_1 a0_2 a0_3 a0_4) else (folkmootlaw16_ExchangeOne.j1 kj2 a1 y1022 t1023 a0_2 l0_0 l0_1 a0_2 a0_3 a0_4)) = some r := H
     have A20 := Aside0.mk A200
     clear A200
     have HC21 := Aside0.mk H
     clear H
     have hcz22_0 : wc.cell? ⟨gb1003, 0, none⟩ = some (.slice A0_0 l0_0.length c0_0) := (blk_cell BK1003.out 0).trans rfl
     have hcz22_1 : wc.cell? ⟨gb1003, 1, none⟩ = some (.slice A0_1 l0_1.length c0_1) := (blk_cell BK1003.out 1).trans rfl
     have hcz22_2 : wc.cell? ⟨gb1003, 2, none⟩ = some (.int .i64 a0_2) := (blk_cell BK1003.out 2).trans rfl
     have hcz22_3 : wc.cell? ⟨gb1003, 3, none⟩ = some (.int .u64 a0_3) := (blk_cell BK1003.out 3).trans rfl
     have hcz22_4 : wc.cell? ⟨gb1003, 4, none⟩ = some (.int .i64 a0_4) := (blk_cell BK1003.out 4).trans rfl
     have hfz22_0 := blk_frozen BK1003.out 0
     have hfz22_1 := blk_frozen BK1003.out 1
     have hfz22_2 := blk_frozen BK1003.out 2
     have hfz22_3 := blk_frozen BK1003.out 3
     have hfz22_4 := blk_frozen BK1003.out 4
     go_upto_if 37 with (first | ((with_reducible refine gate_dst (N := 21) rfl ?_); (try (refine gate_guard (by rfl) ?_; dsimp only)); refine Kd.N_lit k53 _ 53 ?hg (N' := 21) ?hd (xs := ([(⟨l0_0, l0_1, a0_2, (⟨a0_3, a0_4⟩ : S25)⟩ : S53)] : List (S53))) (inner := [.slice A0_0 l0_0.length c0_0, .slice A0_1 l0_1.length c0_1, .int .i64 a0_2, .int .u64 a0_3, .int .i64 a0_4]) (ok := (fun k_ => ((P0_0_ k_ ∨ P0_1_ k_) ∨ w.heap.size ≤ k_) ∧ k_ ≠ gb1003)) (okp := (fun k_ => ((P0_0_ k_ ∨ P0_1_ k_) ∨ w.heap.size ≤ k_) ∧ k_ ≠ gb1003)) ?hr ?hp (fun _ hk => hk) ((show ∀ k_, wc.heap.size ≤ k_ → (fun k_ => ((P0_0_ k_ ∨ P0_1_ k_) ∨ w.heap.size ≤ k_) ∧ k_ ≠ gb1003) k_ from fun k_ hk => ⟨(.inr (Nat.le_trans (below_size zb_) hk)), Kd.freshB (g := gb1003) (o := .cells #[.slice A0_0 l0_0.length c0_0, .slice A0_1 l0_1.length c0_1, .int .i64 a0_2, .int .u64 a0_3, .int .i64 a0_4] 53 (0, 0)) (by (with_reducible repeat (first | refine blk_drewN ?_ _ | refine blk_drew ?_ | refine blk_alloc ?_ _)); exact BK1003.out) k_ hk⟩) _ (Nat.le_refl _)) (Below.refl _ _) (Nat.le_refl _) (by simp) ?_; (case hd => rfl); (case hg => rfl); (case hr => first | (go_simp; done) | (go_simp; rfl)); (case hp => first | exact (Reps.c5 (show Kd.FK k53 _ _ (⟨l0_0, l0_1, a0_2, (⟨a0_3, a0_4⟩ : S25)⟩ : S53) [.slice A0_0 l0_0.length c0_0, .slice A0_1 l0_1.length c0_1, .int .i64 a0_2, .int .u64 a0_3, .int .i64 a0_4] from (k53_mkF _ _ (⟨l0_0, l0_1, a0_2, (⟨a0_3, a0_4⟩ : S25)⟩ : S53) (Kd.V_reads' (Kd.V_mono (ok' := (fun k_ => ((P0_0_ k_ ∨ P0_1_ k_) ∨ w.heap.size ≤ k_) ∧ k_ ≠ gb1003)) (HO_1004000.out) (fun k_ hk => ⟨hk.1, hk.2⟩))).2.1 (Kd.V_F (Kd.V_mono (ok' := (fun k_ => ((P0_0_ k_ ∨ P0_1_ k_) ∨ w.heap.size ≤ k_) ∧ k_ ≠ gb1003)) (HO_1004000.out) (fun k_ hk => ⟨hk.1, hk.2⟩))) (Kd.V_reads' (Kd.V_mono (ok' := (fun k_ => ((P0_0_ k_ ∨ P0_1_ k_) ∨ w.heap.size ≤ k_) ∧ k_ ≠ gb1003)) (HO_1004001.out) (fun k_ hk => ⟨hk.1, hk.2⟩))).2.1 (Kd.V_F (Kd.V_mono (ok' := (fun k_ => ((P0_0_ k_ ∨ P0_1_ k_) ∨ w.heap.size ≤ k_) ∧ k_ ≠ gb1003)) (HO_1004001.out) (fun k_ hk => ⟨hk.1, hk.2⟩))))) (Reps.none _ _)) | exact (Reps.c5 (show Kd.FK k53 _ _ (⟨l0_0, l0_1, a0_2, (⟨a0_3, a0_4⟩ : S25)⟩ : S53) [.slice A0_0 l0_0.length c0_0, .slice A0_1 l0_1.length c0_1, .int .i64 a0_2, .int .u64 a0_3, .int .i64 a0_4] from (k53_mkF _ _ (⟨l0_0, l0_1, a0_2, (⟨a0_3, a0_4⟩ : S25)⟩ : S53) (Kd.V_reads' (Kd.V_mono (ok' := (fun k_ => ((P0_0_ k_ ∨ P0_1_ k_) ∨ w.heap.size ≤ k_) ∧ k_ ≠ gb1003)) (HO_1004000.out) (fun k_ hk => ⟨hk.1, hk.2⟩))).2.1 (Kd.V_F (Kd.V_mono (ok' := (fun k_ => ((P0_0_ k_ ∨ P0_1_ k_) ∨ w.heap.size ≤ k_) ∧ k_ ≠ gb1003)) (Kd.V_drewN HO_1004000.out _) (fun k_ hk => ⟨hk.1, hk.2⟩))) (Kd.V_reads' (Kd.V_mono (ok' := (fun k_ => ((P0_0_ k_ ∨ P0_1_ k_) ∨ w.heap.size ≤ k_) ∧ k_ ≠ gb1003)) (HO_1004001.out) (fun k_ hk => ⟨hk.1, hk.2⟩))).2.1 (Kd.V_F (Kd.V_mono (ok' := (fun k_ => ((P0_0_ k_ ∨ P0_1_ k_) ∨ w.heap.size ≤ k_) ∧ k_ ≠ gb1003)) (Kd.V_drewN HO_1004001.out _) (fun k_ hk => ⟨hk.1, hk.2⟩))))) (Reps.none _ _))); intro v1011 w23 ho24 hb hg_ hnew_; clear hg_ hnew_; (first | rw [← Ny1010.out] at ho24 | (simp only [Int.reduceToNat] at ho24; rw [← Ny1010.out] at ho24)); have n0_ := Aside0.mk (Kd.V_elder' (zv_ HO_1004000) (Kd.N_base ho24) hb); have n1_ := Aside0.mk (Kd.V_elder' (zv_ HO_1004001) (Kd.N_base ho24) hb); have n2_ := Aside0.mk (Kd.N_lower ho24 (below_size zb_)); have n3_ := zk_ BK1003 hb; have n4_ := Aside0.mk (below_step zb_ hb); clear HO_1004000; clear HO_1004001; clear BK1003; clear HB; have HO_1004000 := n0_; have HO_1004001 := n1_; have HO1012 := n2_; have BK1003 := n3_; have HB := n4_; clear n0_ n1_ n2_ n3_ n4_; clear hb ho24; obtain ⟨Ao25, co25, eo25⟩ := Kd.N_slice HO1012.out; subst eo25) | ((with_reducible refine gate_callee (f := 57) rfl ?_); refine goesL_ (some 22) rfl rfl Try.func57 (by kernel_rfl) rfl #[.slice Ao25 y1010.length co25, .int .u8 0] rfl za_ ?_; (with_reducible refine (folkmootlaw16_told.calls kj2 (fun k_ => (((P0_0_ k_ ∨ P0_1_ k_) ∨ w.heap.size ≤ k_) ∧ k_ ≠ gb1003)) _ _ y1010 0 t1013 t1016 t1019 _ ?side1 A17.out).mono ?_); (case side1 => exact Kd.N_V (HO1012.out)); rintro e w26 ⟨v1014, v1017, v1020, rfl, ho0, ho1, ho2, hb⟩; refine ⟨_, rfl, ?_⟩; have n0_ := Aside0.mk (Kd.V_mono (Kd.V_told (Kd.V_told (Kd.V_told (Kd.V_old (zv_ HO_1004000) hb) (Kd.N_base ho0)) (Kd.R_base ho1)) (Kd.N_base ho2)) (fun _ h_ => h_.1)); have n1_ := Aside0.mk (Kd.V_mono (Kd.V_told (Kd.V_told (Kd.V_told (Kd.V_old (zv_ HO_1004001) hb) (Kd.N_base ho0)) (Kd.R_base ho1)) (Kd.N_base ho2)) (fun _ h_ => h_.1)); have n2_ := Aside0.mk (Kd.N_mono (Kd.N_told (Kd.N_told (Kd.N_told (Kd.N_old (zn_ HO1012) hb) (Kd.N_base ho0)) (Kd.R_base ho1)) (Kd.N_base ho2)) (fun _ h_ => h_.1)); have n3_ := Aside0.mk (Kd.N_lower (Kd.N_mono (ok' := fun k_ => ((P0_0_ k_ ∨ P0_1_ k_) ∨ w.heap.size ≤ k_) ∧ some k_ ≠ (v1017 : Value).ownBlock ∧ some k_ ≠ (v1020 : Value).ownBlock ∧ k_ ≠ gb1003) ho0 (fun k_ hk_ => ⟨Or.elim hk_.1 (fun hs_ => hs_.1) (fun hn_ => (.inr (Nat.le_trans (below_size zb_) hn_))), hk_.2.1, hk_.2.2, Or.elim hk_.1 (fun hs_ => hs_.2) (fun hn_ => (Kd.freshB (g := gb1003) (o := .cells #[.slice A0_0 l0_0.length c0_0, .slice A0_1 l0_1.length c0_1, .int .i64 a0_2, .int .u64 a0_3, .int .i64 a0_4] 53 (0, 0)) (by (with_reducible repeat (first | refine blk_drewN ?_ _ | refine blk_drew ?_ | refine blk_alloc ?_ _)); exact BK1003.out) k_ hn_))⟩)) (below_size zb_)); have n4_ := Aside0.mk (Kd.R_lower (Kd.R_newM (M := fun k_ => (w.heap.size ≤ k_)) (Kd.R_mono (ok' := fun k_ => True) ho1 (fun _ hk_ => trivial)) (below_size zb_) (fun k_ h_ => h_)) (below_size zb_)); have n5_ := Aside0.mk (Kd.N_lower (Kd.N_mono (ok' := fun k_ => ((P0_0_ k_ ∨ P0_1_ k_) ∨ w.heap.size ≤ k_) ∧ some k_ ≠ (v1014 : Value).ownBlock ∧ some k_ ≠ (v1017 : Value).ownBlock ∧ k_ ≠ gb1003) ho2 (fun k_ hk_ => ⟨Or.elim hk_.1 (fun hs_ => hs_.1) (fun hn_ => (.inr (Nat.le_trans (below_size zb_) hn_))), hk_.2.1, hk_.2.2, Or.elim hk_.1 (fun hs_ => hs_.2) (fun hn_ => (Kd.freshB (g := gb1003) (o := .cells #[.slice A0_0 l0_0.length c0_0, .slice A0_1 l0_1.length c0_1, .int .i64 a0_2, .int .u64 a0_3, .int .i64 a0_4] 53 (0, 0)) (by (with_reducible repeat (first | refine blk_drewN ?_ _ | refine blk_drew ?_ | refine blk_alloc ?_ _)); exact BK1003.out) k_ hn_))⟩)) (below_size zb_)); have n6_ := zk_ BK1003 hb; have n7_ := Aside0.mk (below_step zb_ hb); clear HO_1004000; clear HO_1004001; clear HO1012; clear BK1003; clear HB; have HO_1004000 := n0_; have HO_1004001 := n1_; have HO1012 := n2_; have HO1015 := n3_; have HO1018 := n4_; have HO1021 := n5_; have BK1003 := n6_; have HB := n7_; clear n0_ n1_ n2_ n3_ n4_ n5_ n6_ n7_; (try clear hb); (try clear hb2); (try clear hk); (try clear hi); (try clear ho0); (try clear ho1); (try clear ho2); have p19 : 0 ≤ (0 : Int) := (by omega); have q19 : (0 : Int) < ((t1013.length : Int) : Int) := of_decide_eq_true zs_; have qi19 : (0 < t1013.length) = True := eq_true (by omega); obtain ⟨go19, co19, eo19, gb19, gl19, cl19, HG19⟩ := Kd.N_form HO1015.out (by omega); (first | cases eo19 | (injection eo19 with ea_ en_ ec_; (first | subst ea_ | (injection ea_ with ea_; subst ea_)); subst ec_; clear en_)); have GB19 := Aside0.mk gb19; have GG19 := Aside0.mk HG19; clear gb19 gl19 HG19; obtain ⟨ce19, hcl19, hM19, hcc19, hfr19⟩ := Kd.N_elem HO1015.out z87 (0 : Int) p19 q19; obtain ⟨ua19_1, uc19_1, ua19_2, uc19_2, rfl, ul19_1, ge19_1, ul19_2, ge19_2⟩ := k87_openF hM19; have hx19_0 : w26.cell? ⟨go19, (0 : Int).toNat * 6, none⟩ = some (.int .i64 ((rd_T87 t1013 0).f0)) := hcc19 0 _ rfl; have hx19_1 : w26.cell? ⟨go19, (0 : Int).toNat * 6 + 1, none⟩ = some (.slice ua19_1 ((rd_T87 t1013 0).f1.f0).length uc19_1) := hcc19 1 _ rfl; have hx19_2 : w26.cell? ⟨go19, (0 : Int).toNat * 6 + 2, none⟩ = some (.slice ua19_2 ((rd_T87 t1013 0).f1.f1).length uc19_2) := hcc19 2 _ rfl; have hx19_3 : w26.cell? ⟨go19, (0 : Int).toNat * 6 + 3, none⟩ = some (.int .i64 ((rd_T87 t1013 0).f1.f2)) := hcc19 3 _ rfl; have hx19_4 : w26.cell? ⟨go19, (0 : Int).toNat * 6 + 4, none⟩ = some (.int .u64 ((rd_T87 t1013 0).f1.f3.f0)) := hcc19 4 _ rfl; have hx19_5 : w26.cell? ⟨go19, (0 : Int).toNat * 6 + 5, none⟩ = some (.int .i64 ((rd_T87 t1013 0).f1.f3.f1)) := hcc19 5 _ rfl; have hf19_0 : w26.frozen? ⟨go19, (0 : Int).toNat * 6, none⟩ = false := hfr19 0; have hf19_1 : w26.frozen? ⟨go19, (0 : Int).toNat * 6 + 1, none⟩ = false := hfr19 1; have hf19_2 : w26.frozen? ⟨go19, (0 : Int).toNat * 6 + 2, none⟩ = false := hfr19 2; have hf19_3 : w26.frozen? ⟨go19, (0 : Int).toNat * 6 + 3, none⟩ = false := hfr19 3; have hf19_4 : w26.frozen? ⟨go19, (0 : Int).toNat * 6 + 4, none⟩ = false := hfr19 4; have hf19_5 : w26.frozen? ⟨go19, (0 : Int).toNat * 6 + 5, none⟩ = false := hfr19 5; clear hcl19 hcc19 hfr19 hM19; (try rw [show ((0 : Int)).toNat = 0 from rfl] at hx19_0); (try simp only [Nat.reduceMul, Nat.zero_mul, Nat.zero_add, Nat.reduceAdd] at hx19_0); (try rw [show ((0 : Int)).toNat = 0 from rfl] at hf19_0); (try simp only [Nat.reduceMul, Nat.zero_mul, Nat.zero_add, Nat.reduceAdd] at hf19_0); (try rw [show ((0 : Int)).toNat = 0 from rfl] at hx19_1); (try simp only [Nat.reduceMul, Nat.zero_mul, Nat.zero_add, Nat.reduceAdd] at hx19_1); (try rw [show ((0 : Int)).toNat = 0 from rfl] at hf19_1); (try simp only [Nat.reduceMul, Nat.zero_mul, Nat.zero_add, Nat.reduceAdd] at hf19_1); (try rw [show ((0 : Int)).toNat = 0 from rfl] at hx19_2); (try simp only [Nat.reduceMul, Nat.zero_mul, Nat.zero_add, Nat.reduceAdd] at hx19_2); (try rw [show ((0 : Int)).toNat = 0 from rfl] at hf19_2); (try simp only [Nat.reduceMul, Nat.zero_mul, Nat.zero_add, Nat.reduceAdd] at hf19_2); (try rw [show ((0 : Int)).toNat = 0 from rfl] at hx19_3); (try simp only [Nat.reduceMul, Nat.zero_mul, Nat.zero_add, Nat.reduceAdd] at hx19_3); (try rw [show ((0 : Int)).toNat = 0 from rfl] at hf19_3); (try simp only [Nat.reduceMul, Nat.zero_mul, Nat.zero_add, Nat.reduceAdd] at hf19_3); (try rw [show ((0 : Int)).toNat = 0 from rfl] at hx19_4); (try simp only [Nat.reduceMul, Nat.zero_mul, Nat.zero_add, Nat.reduceAdd] at hx19_4); (try rw [show ((0 : Int)).toNat = 0 from rfl] at hf19_4); (try simp only [Nat.reduceMul, Nat.zero_mul, Nat.zero_add, Nat.reduceAdd] at hf19_4); (try rw [show ((0 : Int)).toNat = 0 from rfl] at hx19_5); (try simp only [Nat.reduceMul, Nat.zero_mul, Nat.zero_add, Nat.reduceAdd] at hx19_5); (try rw [show ((0 : Int)).toNat = 0 from rfl] at hf19_5); (try simp only [Nat.reduceMul, Nat.zero_mul, Nat.zero_add, Nat.reduceAdd] at hf19_5); replace p19 := eq_true p19; replace q19 := eq_true q19; have HX27 := Aside0.mk (show Kd.N k87 87 w26 w.heap.size (fun k_ => ((P0_0_ k_ ∨ P0_1_ k_) ∨ w.heap.size ≤ k_) ∧ some k_ ≠ (v1017 : Value).ownBlock ∧ some k_ ≠ (v1020 : Value).ownBlock ∧ k_ ≠ gb1003) (.slice (some ⟨go19, 0, none⟩) t1013.length co19) t1013 from (zn_ HO1015)); obtain ⟨ce27, hcl27, hM27, hcc27, hfr27⟩ := Kd.N_elem HX27.out z87 (0 : Int) (by omega) (by have h_ : (0 : Int) < ((t1013.length : Int) : Int) := of_decide_eq_true zs_; first | exact h_ | (have e_ := (Kd.N_reads' HO1015.out).1; omega) | simpa using h_); obtain ⟨ua27_1, uc27_1, ua27_2, uc27_2, rfl, ul27_1, ge27_1, ul27_2, ge27_2⟩ := k87_openF hM27; have HP27 := Kd.N_seg HX27.out (0 : Int) (by omega) (by have h_ : (0 : Int) < ((t1013.length : Int) : Int) := of_decide_eq_true zs_; first | exact h_ | (have e_ := (Kd.N_reads' HO1015.out).1; omega) | simpa using h_) (seg := [.int .i64 (Int.tmod (wrap64 (a1)) 16)]) (j := 0) hcl27 hcc27 (show 1 ≤ 6 from by decide) (x' := (⟨Int.tmod (wrap64 (a1)) 16, (⟨(rd_T87 t1013 0).f1.f0, (rd_T87 t1013 0).f1.f1, (rd_T87 t1013 0).f1.f2, (⟨(rd_T87 t1013 0).f1.f3.f0, (rd_T87 t1013 0).f1.f3.f1⟩ : S25)⟩ : S53)⟩ : S87)) (k87_mkF _ _ (⟨Int.tmod (wrap64 (a1)) 16, (⟨(rd_T87 t1013 0).f1.f0, (rd_T87 t1013 0).f1.f1, (rd_T87 t1013 0).f1.f2, (⟨(rd_T87 t1013 0).f1.f3.f0, (rd_T87 t1013 0).f1.f3.f1⟩ : S25)⟩ : S53)⟩ : S87) ul27_1 ge27_1 ul27_2 ge27_2) (fun _ hk => hk); have hx27_0 := hcc27 0 _ rfl; (try simp only [show (k87).sz = 6 from rfl, Nat.mul_one, Nat.add_zero] at hx27_0); (try rw [show ((0 : Int)).toNat = 0 from rfl] at hx27_0); (try simp only [Nat.reduceMul, Nat.zero_mul, Nat.zero_add, Nat.reduceAdd] at hx27_0); have hf27_0 := hfr27 0; (try simp only [show (k87).sz = 6 from rfl, Nat.mul_one, Nat.add_zero] at hf27_0); (try rw [show ((0 : Int)).toNat = 0 from rfl] at hf27_0); (try simp only [Nat.reduceMul, Nat.zero_mul, Nat.zero_add, Nat.reduceAdd] at hf27_0); clear hcl27 hcc27 hfr27 hM27) | ((with_reducible refine gate_store (t := 3) (p := 31) rfl ?_); refine store_event (t := 3) (p := 31) (v := ?vo_w28) (w1 := (w26.setCell ⟨go19, 0, none⟩ (.int .i64 (Int.tmod (wrap64 (a1)) 16)))) ?hg ?ho ?hn ?hr ?_; (case ho => rfl); (case hg => rfl); (case hn => rfl); (case hr => first | (go_simp; done) | (go_simp; rfl)); intro w28 hw; have hg : w26.grownBy w28 (some go19) := (by rw [hw]; exact HP27.2); have hp_ : Kd.N k87 87 w28 w.heap.size (fun k_ => ((P0_0_ k_ ∨ P0_1_ k_) ∨ w.heap.size ≤ k_) ∧ some k_ ≠ (v1017 : Value).ownBlock ∧ some k_ ≠ (v1020 : Value).ownBlock ∧ k_ ≠ gb1003) (.slice (some ⟨go19, 0, none⟩) t1013.length co19) y1022 := (by rw [hw, Ny1022.out]; exact HP27.1); clear HP27; have n0_ := Aside0.mk (Kd.V_afterv (v := (.slice (some ⟨go19, 0, none⟩) t1013.length co19)) (v1 := (.slice (some ⟨go19, 0, none⟩) t1013.length co19)) (ok := (fun k_ => ((P0_0_ k_ ∨ P0_1_ k_) ∨ w.heap.size ≤ k_) ∧ some k_ ≠ (.slice Ao25 y1010.length co25 : Value).ownBlock ∧ some k_ ≠ (v1017 : Value).ownBlock ∧ some k_ ≠ (v1020 : Value).ownBlock ∧ k_ ≠ gb1003)) (by (with_reducible repeat (first | apply Kd.V_alloc | apply Kd.V_drewN | apply Kd.V_drew)); exact Kd.V_mono HO_1004000.out (fun _ hk => ⟨⟨hk.1.1.1.1.1, ⟨hk.1.1.1.2, ⟨hk.1.2, ⟨hk.2, hk.1.1.1.1.2⟩⟩⟩⟩, hk.1.1.2⟩)) hg (.inl rfl)); have n1_ := Aside0.mk (Kd.V_afterv (v := (.slice (some ⟨go19, 0, none⟩) t1013.length co19)) (v1 := (.slice (some ⟨go19, 0, none⟩) t1013.length co19)) (ok := (fun k_ => ((P0_0_ k_ ∨ P0_1_ k_) ∨ w.heap.size ≤ k_) ∧ some k_ ≠ (.slice Ao25 y1010.length co25 : Value).ownBlock ∧ some k_ ≠ (v1017 : Value).ownBlock ∧ some k_ ≠ (v1020 : Value).ownBlock ∧ k_ ≠ gb1003)) (by (with_reducible repeat (first | apply Kd.V_alloc | apply Kd.V_drewN | apply Kd.V_drew)); exact Kd.V_mono HO_1004001.out (fun _ hk => ⟨⟨hk.1.1.1.1.1, ⟨hk.1.1.1.2, ⟨hk.1.2, ⟨hk.2, hk.1.1.1.1.2⟩⟩⟩⟩, hk.1.1.2⟩)) hg (.inl rfl)); have n2_ := Aside0.mk (blk_grown (g := gb1003) (o := .cells #[.slice A0_0 l0_0.length c0_0, .slice A0_1 l0_1.length c0_1, .int .i64 a0_2, .int .u64 a0_3, .int .i64 a0_4] 53 (0, 0)) (by (with_reducible repeat (first | refine blk_drewN ?_ _ | refine blk_drew ?_ | refine blk_alloc ?_ _)); exact BK1003.out) hg (Kd.N_ne HO1015.out BK1003.out (by decide))); have n3_ := Aside0.mk (Kd.N_afterv (v := (.slice (some ⟨go19, 0, none⟩) t1013.length co19)) (v1 := (.slice (some ⟨go19, 0, none⟩) t1013.length co19)) (ok := (fun k_ => ((P0_0_ k_ ∨ P0_1_ k_) ∨ w.heap.size ≤ k_) ∧ some k_ ≠ (v1017 : Value).ownBlock ∧ some k_ ≠ (v1020 : Value).ownBlock ∧ k_ ≠ gb1003)) (by (with_reducible repeat (first | apply Kd.N_alloc | apply Kd.N_drewN | apply Kd.N_drew)); exact Kd.N_mono HO1012.out (fun _ hk => ⟨⟨hk.1.1.1.1, ⟨hk.1.2, ⟨hk.2, hk.1.1.1.2⟩⟩⟩, hk.1.1.2⟩)) hg (.inl rfl)); have n4_ := Aside0.mk (hp_); have n5_ := Aside0.mk (Kd.R_over' (v := (.slice (some ⟨go19, 0, none⟩) t1013.length co19)) (zr_ HO1018) (Kd.N_typed HO1015.out) (by decide) hg); have n6_ := Aside0.mk (Kd.N_afterv (v := (.slice (some ⟨go19, 0, none⟩) t1013.length co19)) (v1 := (.slice (some ⟨go19, 0, none⟩) t1013.length co19)) (ok := (fun k_ => ((P0_0_ k_ ∨ P0_1_ k_) ∨ w.heap.size ≤ k_) ∧ some k_ ≠ (v1017 : Value).ownBlock ∧ k_ ≠ gb1003)) (by (with_reducible repeat (first | apply Kd.N_alloc | apply Kd.N_drewN | apply Kd.N_drew)); exact Kd.N_mono HO1021.out (fun _ hk => ⟨⟨hk.1, ⟨hk.2.2.1, hk.2.2.2⟩⟩, hk.2.1⟩)) hg (.inl rfl)); have n7_ := Aside0.mk ((by rw [hw]; exact below_set (HB.out) GB19.out : Below w.heap.size w w28)); clear HO_1004000; clear HO_1004001; clear BK1003; clear HO1012; clear HO1015; clear HO1018; clear HO1021; clear HB; have HO_1004000 := n0_; have HO_1004001 := n1_; have BK1003 := n2_; have HO1012 := n3_; have HO1015 := n4_; have HO1018 := n5_; have HO1021 := n6_; have HB := n7_; clear n0_ n1_ n2_ n3_ n4_ n5_ n6_ n7_; clear hg hw hp_) | ((with_reducible refine gate_callee (f := 66) rfl ?_); refine goesL_ (some 33) rfl rfl Try.func66 (by kernel_rfl) rfl #[.slice (some ⟨go19, 0, none⟩) y1022.length co19] rfl (by (try simp only [List.map_toArray, List.map_cons, List.map_nil]); first | done | (rw [show y1022.length = t1013.length from (Kd.N_reads' HO1015.out).1.symm] <;> rfl) | rfl | (simp only [List.length_drop, List.length_take]; rfl)) ?_; (with_reducible refine (exchange_Full.calls kj2 _ _ y1022 t1023 _ ?side1 ?side2 A20.out).mono ?_); (case side1 => exact zd_ (Kd.N_reads' HO1015.out).2.2); (case side2 => rw [show y1022.length = t1013.length from (Kd.N_reads' HO1015.out).1.symm]; exact (Kd.N_reads' HO1015.out).2.1); rintro e w29 ⟨v1024, rfl, ho0, hb⟩; refine ⟨_, rfl, ?_⟩; have n0_ := Aside0.mk (Kd.V_elder' (zv_ HO_1004000) (Kd.R_base ho0) hb); have n1_ := Aside0.mk (Kd.V_elder' (zv_ HO_1004001) (Kd.R_base ho0) hb); have n2_ := Aside0.mk (Kd.N_elder' (zn_ HO1012) (Kd.R_base ho0) hb); have n3_ := Aside0.mk (Kd.N_elder' (zn_ HO1015) (Kd.R_base ho0) hb); have n4_ := Aside0.mk (Kd.R_below (zr_ HO1018) hb); have n5_ := Aside0.mk (Kd.N_elder' (zn_ HO1021) (Kd.R_base ho0) hb); have n6_ := Aside0.mk (Kd.R_lower (Kd.R_newM (M := fun k_ => (w.heap.size ≤ k_)) ho0 (below_size zb_) (fun k_ h_ => h_)) (below_size zb_)); have n7_ := zk_ BK1003 hb; have n8_ := Aside0.mk (below_step zb_ hb); clear HO_1004000; clear HO_1004001; clear HO1012; clear HO1015; clear HO1018; clear HO1021; clear BK1003; clear HB; have HO_1004000 := n0_; have HO_1004001 := n1_; have HO1012 := n2_; have HO1015 := n3_; have HO1018 := n4_; have HO1021 := n5_; have HO1025 := n6_; have BK1003 := n7_; have HB := n8_; clear n0_ n1_ n2_ n3_ n4_ n5_ n6_ n7_ n8_; (try clear hb); (try clear hb2); (try clear hk); (try clear hi); (try clear ho0); have hcz30_0 : w29.cell? ⟨gb1003, 0, none⟩ = some (.slice A0_0 l0_0.length c0_0) := (blk_cell BK1003.out 0).trans rfl; have hcz30_1 : w29.cell? ⟨gb1003, 1, none⟩ = some (.slice A0_1 l0_1.length c0_1) := (blk_cell BK1003.out 1).trans rfl; have hcz30_2 : w29.cell? ⟨gb1003, 2, none⟩ = some (.int .i64 a0_2) := (blk_cell BK1003.out 2).trans rfl; have hcz30_3 : w29.cell? ⟨gb1003, 3, none⟩ = some (.int .u64 a0_3) := (blk_cell BK1003.out 3).trans rfl; have hcz30_4 : w29.cell? ⟨gb1003, 4, none⟩ = some (.int .i64 a0_4) := (blk_cell BK1003.out 4).trans rfl; have hfz30_0 := blk_frozen BK1003.out 0; have hfz30_1 := blk_frozen BK1003.out 1; have hfz30_2 := blk_frozen BK1003.out 2; have hfz30_3 := blk_frozen BK1003.out 3; have hfz30_4 := blk_frozen BK1003.out 4))
     (try simp only [Act.put, List.setIfInBounds_toArray, List.set_cons_zero, List.set_cons_succ])
     go_cut [9] (fun v9 wc => ∃ (kq : Nat) (x9_20 : Int), v9 = .int .i64 x9_20 ∧ Aside0 (folkmootlaw16_ExchangeOne.j1 kq a1 y1022 t1023 x9_20 l0_0 l0_1 a0_2 a0_3 a0_4 = some r) ∧ Aside0 (kq ≤ kj2) ∧ Aside0 (Kd.N k87 87 wc w.heap.size (fun k_ => ((P0_0_ k_ ∨ P0_1_ k_) ∨ w.heap.size ≤ k_) ∧ some k_ ≠ (v1024 : Value).ownBlock ∧ k_ ≠ gb1003) (.slice (some ⟨go19, 0, none⟩) t1013.length co19) y1022) ∧ Aside0 (Kd.R k27 27 wc w.heap.size (fun k_ => (w.heap.size ≤ k_)) v1024 t1023) ∧ Aside0 (Kd.V k32 32 wc w.heap.size (fun k_ => ((P0_0_ k_ ∨ P0_1_ k_) ∨ w.heap.size ≤ k_) ∧ some k_ ≠ ((.slice (some ⟨go19, 0, none⟩) t1013.length co19) : Value).ownBlock ∧ some k_ ≠ (v1024 : Value).ownBlock ∧ k_ ≠ gb1003) (.slice A0_0 l0_0.length c0_0) l0_0) ∧ Aside0 (Kd.V k27 27 wc w.heap.size (fun k_ => ((P0_0_ k_ ∨ P0_1_ k_) ∨ w.heap.size ≤ k_) ∧ some k_ ≠ ((.slice (some ⟨go19, 0, none⟩) t1013.length co19) : Value).ownBlock ∧ some k_ ≠ (v1024 : Value).ownBlock ∧ k_ ≠ gb1003) (.slice A0_1 l0_1.length c0_1) l0_1) ∧ Aside0 (wc.heap[gb1003]? = some (.cells #[(.slice A0_0 l0_0.length c0_0), (.slice A0_1 l0_1.length c0_1), .int .i64 a0_2, .int .u64 a0_3, .int .i64 a0_4] 53 (0, 0))) ∧ Aside0 (Below w.heap.size w wc))
     case first =>
      have H := HC21.out
      clear HC21
      by_cases c31 : a0_2 < 1
      ·
       rw [if_pos c31] at H
       have c31b0 : decide (a0_2 < 1) = true := decide_eq_true c31
       clear c31
       (first | rw [c31b0] | (simp only [i64_w, i32_w]; rw [c31b0]) | skip)
       have H' := Aside0.mk H
       clear H
       go_wp2
       go_meet
       case rel => exact ⟨_, (1), (by first | rfl | (simp; done) | (simp [*]; done)), H', ⟨by have := HJ2.out; first | omega | exact Nat.le_refl _⟩, ⟨by (with_reducible repeat (first | apply Kd.N_alloc | apply Kd.N_drewN | apply Kd.N_drew)); exact Kd.N_mono HO1015.out (fun _ hk => ⟨hk.1.1, ⟨hk.2, hk.1.2.2.2⟩⟩)⟩, ⟨by (with_reducible repeat (first | apply Kd.R_alloc | apply Kd.R_drewN | apply Kd.R_drew)); exact Kd.R_mono HO1025.out (fun _ hk => hk.1)⟩, ⟨by (with_reducible repeat (first | apply Kd.V_alloc | apply Kd.V_drewN | apply Kd.V_drew)); exact Kd.V_mono HO_1004000.out (fun _ hk => ⟨hk.1.1.1, ⟨hk.1.2, ⟨hk.2, hk.1.1.2.2.2.2⟩⟩⟩)⟩, ⟨by (with_reducible repeat (first | apply Kd.V_alloc | apply Kd.V_drewN | apply Kd.V_drew)); exact Kd.V_mono HO_1004001.out (fun _ hk => ⟨hk.1.1.1, ⟨hk.1.2, ⟨hk.2, hk.1.1.2.2.2.2⟩⟩⟩)⟩, ⟨by (with_reducible repeat (first | refine blk_drewN ?_ _ | refine blk_drew ?_ | refine blk_alloc ?_ _)); exact BK1003.out⟩, ⟨by repeat (first | (with_reducible first | exact HB.out | apply below_alloc | apply pw_below_drewN | apply below_drew1 | refine below_set ?_ GE1003.out) | exact HB.out)⟩⟩
      ·
       rw [if_neg c31] at H
       have c31b0 : decide (a0_2 < 1) = false := decide_eq_false c31
       clear c31
       (first | rw [c31b0] | (simp only [i64_w, i32_w]; rw [c31b0]) | skip)
       have H' := Aside0.mk H
       clear H
       go_wp2
       go_meet
       case rel => exact ⟨_, (a0_2), (by first | rfl | (simp; done) | (simp [*]; done)), H', ⟨by have := HJ2.out; first | omega | exact Nat.le_refl _⟩, ⟨by (with_reducible repeat (first | apply Kd.N_alloc | apply Kd.N_drewN | apply Kd.N_drew)); exact Kd.N_mono HO1015.out (fun _ hk => ⟨hk.1.1, ⟨hk.2, hk.1.2.2.2⟩⟩)⟩, ⟨by (with_reducible repeat (first | apply Kd.R_alloc | apply Kd.R_drewN | apply Kd.R_drew)); exact Kd.R_mono HO1025.out (fun _ hk => hk.1)⟩, ⟨by (with_reducible repeat (first | apply Kd.V_alloc | apply Kd.V_drewN | apply Kd.V_drew)); exact Kd.V_mono HO_1004000.out (fun _ hk => ⟨hk.1.1.1, ⟨hk.1.2, ⟨hk.2, hk.1.1.2.2.2.2⟩⟩⟩)⟩, ⟨by (with_reducible repeat (first | apply Kd.V_alloc | apply Kd.V_drewN | apply Kd.V_drew)); exact Kd.V_mono HO_1004001.out (fun _ hk => ⟨hk.1.1.1, ⟨hk.1.2, ⟨hk.2, hk.1.1.2.2.2.2⟩⟩⟩)⟩, ⟨by (with_reducible repeat (first | refine blk_drewN ?_ _ | refine blk_drew ?_ | refine blk_alloc ?_ _)); exact BK1003.out⟩, ⟨by repeat (first | (with_reducible first | exact HB.out | apply below_alloc | apply pw_below_drewN | apply below_drew1 | refine below_set ?_ GE1003.out) | exact HB.out)⟩⟩
     case rest =>
      clear HC21
      try clear c1
      try clear p1
      try clear q1
      try clear hx1
      try clear qi1
      try clear c2
      try clear p2
      try clear hx2
      try clear hf2
      try clear c3
      try clear c5
      try clear c6
      try clear p6
      try clear c14
      try clear c18
      try clear c18b0
      try clear c18b1
      try clear c19
      try clear p19
      try clear q19
      try clear hx19
      try clear qi19
      try clear hf19
      try clear c20
      try clear c27
      try clear hx27
      try clear hf27
      try clear c31
      try clear c31b0
      try clear hcz22_0
      try clear hcz22_1
      try clear hcz22_2
      try clear hcz22_3
      try clear hcz22_4
      try clear hcz30_0
      try clear hcz30_1
      try clear hcz30_2
      try clear hcz30_3
      try clear hcz30_4
      try clear hcz9_0
      try clear hcz9_1
      try clear hcz9_2
      try clear hcz9_3
      try clear hcz9_4
      try clear hfz22_0
      try clear hfz22_1
      try clear hfz22_2
      try clear hfz22_3
      try clear hfz22_4
      try clear hfz30_0
      try clear hfz30_1
      try clear hfz30_2
      try clear hfz30_3
      try clear hfz30_4
      try clear hfz9_0
      try clear hfz9_1
      try clear hfz9_2
      try clear hfz9_3
      try clear hfz9_4
      try clear hx19_0
      try clear hx19_1
      try clear hx19_2
      try clear hx19_3
      try clear hx19_4
      try clear hx19_5
      try clear hx27_0
      try clear p19
      try clear p2
      try clear q19
      obtain ⟨kq, x9_20, rfl, HA, HJ20, HO_5, HO_8, HO_1004000, HO_1004001, BK1003, HB⟩ := hcut
      have hl5_20 := (Kd.N_reads' HO_5.out).1
      rw [hl5_20] at HO_5
      (try simp only [hl5_20])
      (try simp only [hl5_20] at BK1003)
      (try simp only [hl5_20] at HO_8)
      (try simp only [hl5_20] at HO_1004000)
      (try simp only [hl5_20] at HO_1004001)
      cases kq with
      | zero => exact absurd HA.out (by simp [folkmootlaw16_ExchangeOne.j1])
      | succ kj20 =>
       have H := HA.out
       clear HA
       simp only [folkmootlaw16_ExchangeOne.j1] at H
       replace H := Option.bind_eq_some_iff.mp H
       obtain ⟨t1026, A320, H⟩ := H
       replace H : (if t1026 = x9_20 then ((exchange_Chosen.f kj20 y1022).bind fun t1027 => (if t1027 = (-1) then ((exchange_High.f kj20 y1022).bind fun bt1028 => (if (bt1028.1 == 0 && (bt1028.2 == 0)) = true then (if (!(a0_3 == 0) || (!(a0_4 == 0))) = true then ((exchange_Short.f kj20 y1022).bind fun t1030 => (some ((t1030.length : Int) == 0))) else (some false)) else (some false))) else ((exchange_Chosen.f kj20 y1022).bind fun t1033 => (if t1033 = (Int.tmod (wrap64 (a1)) 16) then ((exchange_High.f kj20 y1022).bind fun bt1034 => (if (bt1034.1 == a0_3 && (bt1034.2 == a0_4)) = true then ((exchange_Short.f kj20 y1022).bind fun t1036 => ((folkmootref05_Same.f kj20 t1036 l0_1).bind fun t1039 => (if t1039 = true then (some (decide ((t1023.length : Int) ≥ (l0_1.length : Int)))) else (some false)))) else (some false))) else (some false))))) else (some false)) = some r := H
       have A32 := Aside0.mk A320
       clear A320
       by_cases c33 : t1026 = x9_20
       ·
        rw [if_pos c33] at H
        have c33b0 : (t1026 == x9_20) = true := beq_iff_eq.mpr c33
        have c33b1 : (t1026 != x9_20) = false := bne_eq_false_iff_eq.mpr c33
        clear c33
        replace H := Option.bind_eq_some_iff.mp H
        obtain ⟨t1027, A340, H⟩ := H
        replace H : (if t1027 = (-1) then ((exchange_High.f kj20 y1022).bind fun bt1028 => (if (bt1028.1 == 0 && (bt1028.2 == 0)) = true then (if (!(a0_3 == 0) || (!(a0_4 == 0))) = true then ((exchange_Short.f kj20 y1022).bind fun t1030 => (some ((t1030.length : Int) == 0))) else (some false)) else (some false))) else ((exchange_Chosen.f kj20 y1022).bind fun t1033 => (if t1033 = (Int.tmod (wrap64 (a1)) 16) then ((exchange_High.f kj20 y1022).bind fun bt1034 => (if (bt1034.1 == a0_3 && (bt1034.2 == a0_4)) = true then ((exchange_Short.f kj20 y1022).bind fun t1036 => ((folkmootref05_Same.f kj20 t1036 l0_1).bind fun t1039 => (if t1039 = true then (some (decide ((t1023.length : Int) ≥ (l0_1.length : Int)))) else (some false)))) else (some false))) else (some false)))) = some r := H
        have A34 := Aside0.mk A340
        clear A340
        by_cases c35 : t1027 = (-1)
        ·
         rw [if_pos c35] at H
         have c35b0 : (t1027 == (-1)) = true := beq_iff_eq.mpr c35
         have c35b1 : (t1027 != (-1)) = false := bne_eq_false_iff_eq.mpr c35
         clear c35
         replace H := Option.bind_eq_some_iff.mp H
         obtain ⟨⟨t1028, t1029⟩, A360, H⟩ := H
         replace H : (if (t1028 == 0 && (t1029 == 0)) = true then (if (!(a0_3 == 0) || (!(a0_4 == 0))) = true then ((exchange_Short.f kj20 y1022).bind fun t1030 => (some ((t1030.length : Int) == 0))) else (some false)) else (some false)) = some r := H
         have A36 := Aside0.mk A360
         clear A360
         by_cases c37 : (t1028 == 0 && (t1029 == 0)) = true
         ·
          rw [if_pos c37] at H
          have c37b0 : (t1028 == 0 && (t1029 == 0)) = true := c37
          (try (have c37b1 : decide (t1028 = 0 && (t1029 == 0)) = true := by simpa using c37))
          (try (have c37b2 : (t1028 == 0 && (t1029 == 0)) = true := by simpa using c37))
          clear c37
          by_cases c38 : (!(a0_3 == 0) || (!(a0_4 == 0))) = true
          ·
           rw [if_pos c38] at H
           have c38b0 : (!(a0_3 == 0) || (!(a0_4 == 0))) = true := c38
           clear c38
           replace H := Option.bind_eq_some_iff.mp H
           obtain ⟨t1030, A390, H⟩ := H
           replace H : (some ((t1030.length : Int) == 0)) = some r := H
           have A39 := Aside0.mk A390
           clear A390
           obtain rfl := Option.some.inj H
           go_wp2_with (first | ((with_reducible refine gate_callee (f := 68) rfl ?_); refine goesL_ (some 39) rfl rfl Try.func68 (by kernel_rfl) rfl #[.slice (some ⟨go19, 0, none⟩) y1022.length co19] rfl za_ ?_; (with_reducible refine (exchange_Next.calls kj20 _ _ y1022 t1026 _ ?side1 ?side2 A32.out).mono ?_); (case side1 => exact zd_ (Kd.N_reads' HO_5.out).2.2); (case side2 => exact (Kd.N_reads' HO_5.out).2.1); rintro e w40 ⟨rfl, hb⟩; refine ⟨_, rfl, ?_⟩; have n0_ := Aside0.mk (Kd.N_below (zn_ HO_5) hb); have n1_ := Aside0.mk (Kd.R_below (zr_ HO_8) hb); have n2_ := Aside0.mk (Kd.V_below (zv_ HO_1004000) hb); have n3_ := Aside0.mk (Kd.V_below (zv_ HO_1004001) hb); have n4_ := zk_ BK1003 hb; have n5_ := Aside0.mk (below_step zb_ hb); clear HO_5; clear HO_8; clear HO_1004000; clear HO_1004001; clear BK1003; clear HB; have HO_5 := n0_; have HO_8 := n1_; have HO_1004000 := n2_; have HO_1004001 := n3_; have BK1003 := n4_; have HB := n5_; clear n0_ n1_ n2_ n3_ n4_ n5_; (try clear hb); (try clear hb2); (try clear hk); (try clear hi)) | ((with_reducible refine gate_callee (f := 61) rfl ?_); refine goesL_ (some 43) rfl rfl Try.func61 (by kernel_rfl) rfl #[.slice (some ⟨go19, 0, none⟩) y1022.length co19] rfl za_ ?_; (with_reducible refine (exchange_Chosen.calls kj20 _ _ y1022 t1027 _ ?side1 ?side2 A34.out).mono ?_); (case side1 => exact zd_ (Kd.N_reads' HO_5.out).2.2); (case side2 => exact (Kd.N_reads' HO_5.out).2.1); rintro e w41 ⟨rfl, hb⟩; refine ⟨_, rfl, ?_⟩; have n0_ := Aside0.mk (Kd.N_below (zn_ HO_5) hb); have n1_ := Aside0.mk (Kd.R_below (zr_ HO_8) hb); have n2_ := Aside0.mk (Kd.V_below (zv_ HO_1004000) hb); have n3_ := Aside0.mk (Kd.V_below (zv_ HO_1004001) hb); have n4_ := zk_ BK1003 hb; have n5_ := Aside0.mk (below_step zb_ hb); clear HO_5; clear HO_8; clear HO_1004000; clear HO_1004001; clear BK1003; clear HB; have HO_5 := n0_; have HO_8 := n1_; have HO_1004000 := n2_; have HO_1004001 := n3_; have BK1003 := n4_; have HB := n5_; clear n0_ n1_ n2_ n3_ n4_ n5_; (try clear hb); (try clear hb2); (try clear hk); (try clear hi)) | ((with_reducible refine gate_callee (f := 59) rfl ?_); refine goesL_ (some 46) rfl rfl Try.func59 (by kernel_rfl) rfl #[.slice (some ⟨go19, 0, none⟩) y1022.length co19] rfl za_ ?_; (with_reducible refine (exchange_High.calls kj20 _ _ y1022 t1028 t1029 _ ?side1 ?side2 A36.out).mono ?_); (case side1 => exact zd_ (Kd.N_reads' HO_5.out).2.2); (case side2 => exact (Kd.N_reads' HO_5.out).2.1); rintro e w42 ⟨rfl, hb⟩; refine ⟨_, rfl, ?_⟩; have n0_ := Aside0.mk (Kd.N_below (zn_ HO_5) hb); have n1_ := Aside0.mk (Kd.R_below (zr_ HO_8) hb); have n2_ := Aside0.mk (Kd.V_below (zv_ HO_1004000) hb); have n3_ := Aside0.mk (Kd.V_below (zv_ HO_1004001) hb); have n4_ := zk_ BK1003 hb; have n5_ := Aside0.mk (below_step zb_ hb); clear HO_5; clear HO_8; clear HO_1004000; clear HO_1004001; clear BK1003; clear HB; have HO_5 := n0_; have HO_8 := n1_; have HO_1004000 := n2_; have HO_1004001 := n3_; have BK1003 := n4_; have HB := n5_; clear n0_ n1_ n2_ n3_ n4_ n5_; (try clear hb); (try clear hb2); (try clear hk); (try clear hi); have hcz43_0 : w42.cell? ⟨gb1003, 0, none⟩ = some (.slice A0_0 l0_0.length c0_0) := (blk_cell BK1003.out 0).trans rfl; have hcz43_1 : w42.cell? ⟨gb1003, 1, none⟩ = some (.slice A0_1 l0_1.length c0_1) := (blk_cell BK1003.out 1).trans rfl; have hcz43_2 : w42.cell? ⟨gb1003, 2, none⟩ = some (.int .i64 a0_2) := (blk_cell BK1003.out 2).trans rfl; have hcz43_3 : w42.cell? ⟨gb1003, 3, none⟩ = some (.int .u64 a0_3) := (blk_cell BK1003.out 3).trans rfl; have hcz43_4 : w42.cell? ⟨gb1003, 4, none⟩ = some (.int .i64 a0_4) := (blk_cell BK1003.out 4).trans rfl; have hfz43_0 := blk_frozen BK1003.out 0; have hfz43_1 := blk_frozen BK1003.out 1; have hfz43_2 := blk_frozen BK1003.out 2; have hfz43_3 := blk_frozen BK1003.out 3; have hfz43_4 := blk_frozen BK1003.out 4) | (go_at_call 62; (with_reducible refine (exchange_Short.calls kj20 _ _ y1022 t1030 _ ?side1 ?side2 A39.out).mono ?_); (case side1 => exact zd_ (Kd.N_reads' HO_5.out).2.2); (case side2 => exact (Kd.N_reads' HO_5.out).2.1); rintro e w44 ⟨v1031, rfl, ho0, hb⟩; have n0_ := Aside0.mk (Kd.N_elder' (zn_ HO_5) (Kd.R_base ho0) hb); have n1_ := Aside0.mk (Kd.R_elder' (zr_ HO_8) (Kd.R_base ho0) hb); have n2_ := Aside0.mk (Kd.V_elder' (zv_ HO_1004000) (Kd.R_base ho0) hb); have n3_ := Aside0.mk (Kd.V_elder' (zv_ HO_1004001) (Kd.R_base ho0) hb); have n4_ := Aside0.mk (Kd.R_lower (Kd.R_new' (Kd.R_newM (M := fun k_ => (w.heap.size ≤ k_)) ho0 (below_size zb_) (fun k_ h_ => h_)) (Kd.R_lt (zr_ HO_8))) (below_size zb_)); have n5_ := zk_ BK1003 hb; have n6_ := Aside0.mk (below_step zb_ hb); clear HO_5; clear HO_8; clear HO_1004000; clear HO_1004001; clear BK1003; clear HB; have HO_5 := n0_; have HO_8 := n1_; have HO_1004000 := n2_; have HO_1004001 := n3_; have HO1032 := n4_; have BK1003 := n5_; have HB := n6_; clear n0_ n1_ n2_ n3_ n4_ n5_ n6_; (try clear hb); (try clear hb2); (try clear hk); (try clear hi); (try clear ho0); obtain ⟨Ao45, co45, eo45⟩ := Kd.R_slice HO1032.out; subst eo45))
           go_ret
           exact ⟨by first | rfl | (simp [errW_none, errW_some] <;> rfl) | (simp [*, errW_none, errW_some] <;> rfl), by repeat (first | (with_reducible first | exact HB.out | apply below_alloc | apply pw_below_drewN | apply below_drew1 | refine below_set ?_ GE1003.out) | exact HB.out)⟩
          ·
           rw [if_neg c38] at H
           have c38b0 : (!(a0_3 == 0) || (!(a0_4 == 0))) = false := by simpa using c38
           clear c38
           obtain rfl := Option.some.inj H
           go_wp2_with (first | ((with_reducible refine gate_callee (f := 68) rfl ?_); refine goesL_ (some 39) rfl rfl Try.func68 (by kernel_rfl) rfl #[.slice (some ⟨go19, 0, none⟩) y1022.length co19] rfl za_ ?_; (with_reducible refine (exchange_Next.calls kj20 _ _ y1022 t1026 _ ?side1 ?side2 A32.out).mono ?_); (case side1 => exact zd_ (Kd.N_reads' HO_5.out).2.2); (case side2 => exact (Kd.N_reads' HO_5.out).2.1); rintro e w46 ⟨rfl, hb⟩; refine ⟨_, rfl, ?_⟩; have n0_ := Aside0.mk (Kd.N_below (zn_ HO_5) hb); have n1_ := Aside0.mk (Kd.R_below (zr_ HO_8) hb); have n2_ := Aside0.mk (Kd.V_below (zv_ HO_1004000) hb); have n3_ := Aside0.mk (Kd.V_below (zv_ HO_1004001) hb); have n4_ := zk_ BK1003 hb; have n5_ := Aside0.mk (below_step zb_ hb); clear HO_5; clear HO_8; clear HO_1004000; clear HO_1004001; clear BK1003; clear HB; have HO_5 := n0_; have HO_8 := n1_; have HO_1004000 := n2_; have HO_1004001 := n3_; have BK1003 := n4_; have HB := n5_; clear n0_ n1_ n2_ n3_ n4_ n5_; (try clear hb); (try clear hb2); (try clear hk); (try clear hi)) | ((with_reducible refine gate_callee (f := 61) rfl ?_); refine goesL_ (some 43) rfl rfl Try.func61 (by kernel_rfl) rfl #[.slice (some ⟨go19, 0, none⟩) y1022.length co19] rfl za_ ?_; (with_reducible refine (exchange_Chosen.calls kj20 _ _ y1022 t1027 _ ?side1 ?side2 A34.out).mono ?_); (case side1 => exact zd_ (Kd.N_reads' HO_5.out).2.2); (case side2 => exact (Kd.N_reads' HO_5.out).2.1); rintro e w47 ⟨rfl, hb⟩; refine ⟨_, rfl, ?_⟩; have n0_ := Aside0.mk (Kd.N_below (zn_ HO_5) hb); have n1_ := Aside0.mk (Kd.R_below (zr_ HO_8) hb); have n2_ := Aside0.mk (Kd.V_below (zv_ HO_1004000) hb); have n3_ := Aside0.mk (Kd.V_below (zv_ HO_1004001) hb); have n4_ := zk_ BK1003 hb; have n5_ := Aside0.mk (below_step zb_ hb); clear HO_5; clear HO_8; clear HO_1004000; clear HO_1004001; clear BK1003; clear HB; have HO_5 := n0_; have HO_8 := n1_; have HO_1004000 := n2_; have HO_1004001 := n3_; have BK1003 := n4_; have HB := n5_; clear n0_ n1_ n2_ n3_ n4_ n5_; (try clear hb); (try clear hb2); (try clear hk); (try clear hi)) | ((with_reducible refine gate_callee (f := 59) rfl ?_); refine goesL_ (some 46) rfl rfl Try.func59 (by kernel_rfl) rfl #[.slice (some ⟨go19, 0, none⟩) y1022.length co19] rfl za_ ?_; (with_reducible refine (exchange_High.calls kj20 _ _ y1022 t1028 t1029 _ ?side1 ?side2 A36.out).mono ?_); (case side1 => exact zd_ (Kd.N_reads' HO_5.out).2.2); (case side2 => exact (Kd.N_reads' HO_5.out).2.1); rintro e w48 ⟨rfl, hb⟩; refine ⟨_, rfl, ?_⟩; have n0_ := Aside0.mk (Kd.N_below (zn_ HO_5) hb); have n1_ := Aside0.mk (Kd.R_below (zr_ HO_8) hb); have n2_ := Aside0.mk (Kd.V_below (zv_ HO_1004000) hb); have n3_ := Aside0.mk (Kd.V_below (zv_ HO_1004001) hb); have n4_ := zk_ BK1003 hb; have n5_ := Aside0.mk (below_step zb_ hb); clear HO_5; clear HO_8; clear HO_1004000; clear HO_1004001; clear BK1003; clear HB; have HO_5 := n0_; have HO_8 := n1_; have HO_1004000 := n2_; have HO_1004001 := n3_; have BK1003 := n4_; have HB := n5_; clear n0_ n1_ n2_ n3_ n4_ n5_; (try clear hb); (try clear hb2); (try clear hk); (try clear hi); have hcz49_0 : w48.cell? ⟨gb1003, 0, none⟩ = some (.slice A0_0 l0_0.length c0_0) := (blk_cell BK1003.out 0).trans rfl; have hcz49_1 : w48.cell? ⟨gb1003, 1, none⟩ = some (.slice A0_1 l0_1.length c0_1) := (blk_cell BK1003.out 1).trans rfl; have hcz49_2 : w48.cell? ⟨gb1003, 2, none⟩ = some (.int .i64 a0_2) := (blk_cell BK1003.out 2).trans rfl; have hcz49_3 : w48.cell? ⟨gb1003, 3, none⟩ = some (.int .u64 a0_3) := (blk_cell BK1003.out 3).trans rfl; have hcz49_4 : w48.cell? ⟨gb1003, 4, none⟩ = some (.int .i64 a0_4) := (blk_cell BK1003.out 4).trans rfl; have hfz49_0 := blk_frozen BK1003.out 0; have hfz49_1 := blk_frozen BK1003.out 1; have hfz49_2 := blk_frozen BK1003.out 2; have hfz49_3 := blk_frozen BK1003.out 3; have hfz49_4 := blk_frozen BK1003.out 4))
           go_ret
           exact ⟨by first | rfl | (simp [errW_none, errW_some] <;> rfl) | (simp [*, errW_none, errW_some] <;> rfl), by repeat (first | (with_reducible first | exact HB.out | apply below_alloc | apply pw_below_drewN | apply below_drew1 | refine below_set ?_ GE1003.out) | exact HB.out)⟩
         ·
          rw [if_neg c37] at H
          have c37b0 : (t1028 == 0 && (t1029 == 0)) = false := by simpa using c37
          (try (have c37b1 : decide (t1028 = 0 && (t1029 == 0)) = false := by simpa using c37))
          (try (have c37b2 : (t1028 == 0 && (t1029 == 0)) = false := by simpa using c37))
          (try (have c37b3 : ¬ (t1028 = 0 && (t1029 == 0)) := by simpa using c37))
          clear c37
          obtain rfl := Option.some.inj H
          go_wp2_with (first | ((with_reducible refine gate_callee (f := 68) rfl ?_); refine goesL_ (some 39) rfl rfl Try.func68 (by kernel_rfl) rfl #[.slice (some ⟨go19, 0, none⟩) y1022.length co19] rfl za_ ?_; (with_reducible refine (exchange_Next.calls kj20 _ _ y1022 t1026 _ ?side1 ?side2 A32.out).mono ?_); (case side1 => exact zd_ (Kd.N_reads' HO_5.out).2.2); (case side2 => exact (Kd.N_reads' HO_5.out).2.1); rintro e w50 ⟨rfl, hb⟩; refine ⟨_, rfl, ?_⟩; have n0_ := Aside0.mk (Kd.N_below (zn_ HO_5) hb); have n1_ := Aside0.mk (Kd.R_below (zr_ HO_8) hb); have n2_ := Aside0.mk (Kd.V_below (zv_ HO_1004000) hb); have n3_ := Aside0.mk (Kd.V_below (zv_ HO_1004001) hb); have n4_ := zk_ BK1003 hb; have n5_ := Aside0.mk (below_step zb_ hb); clear HO_5; clear HO_8; clear HO_1004000; clear HO_1004001; clear BK1003; clear HB; have HO_5 := n0_; have HO_8 := n1_; have HO_1004000 := n2_; have HO_1004001 := n3_; have BK1003 := n4_; have HB := n5_; clear n0_ n1_ n2_ n3_ n4_ n5_; (try clear hb); (try clear hb2); (try clear hk); (try clear hi)) | ((with_reducible refine gate_callee (f := 61) rfl ?_); refine goesL_ (some 43) rfl rfl Try.func61 (by kernel_rfl) rfl #[.slice (some ⟨go19, 0, none⟩) y1022.length co19] rfl za_ ?_; (with_reducible refine (exchange_Chosen.calls kj20 _ _ y1022 t1027 _ ?side1 ?side2 A34.out).mono ?_); (case side1 => exact zd_ (Kd.N_reads' HO_5.out).2.2); (case side2 => exact (Kd.N_reads' HO_5.out).2.1); rintro e w51 ⟨rfl, hb⟩; refine ⟨_, rfl, ?_⟩; have n0_ := Aside0.mk (Kd.N_below (zn_ HO_5) hb); have n1_ := Aside0.mk (Kd.R_below (zr_ HO_8) hb); have n2_ := Aside0.mk (Kd.V_below (zv_ HO_1004000) hb); have n3_ := Aside0.mk (Kd.V_below (zv_ HO_1004001) hb); have n4_ := zk_ BK1003 hb; have n5_ := Aside0.mk (below_step zb_ hb); clear HO_5; clear HO_8; clear HO_1004000; clear HO_1004001; clear BK1003; clear HB; have HO_5 := n0_; have HO_8 := n1_; have HO_1004000 := n2_; have HO_1004001 := n3_; have BK1003 := n4_; have HB := n5_; clear n0_ n1_ n2_ n3_ n4_ n5_; (try clear hb); (try clear hb2); (try clear hk); (try clear hi)) | ((with_reducible refine gate_callee (f := 59) rfl ?_); refine goesL_ (some 46) rfl rfl Try.func59 (by kernel_rfl) rfl #[.slice (some ⟨go19, 0, none⟩) y1022.length co19] rfl za_ ?_; (with_reducible refine (exchange_High.calls kj20 _ _ y1022 t1028 t1029 _ ?side1 ?side2 A36.out).mono ?_); (case side1 => exact zd_ (Kd.N_reads' HO_5.out).2.2); (case side2 => exact (Kd.N_reads' HO_5.out).2.1); rintro e w52 ⟨rfl, hb⟩; refine ⟨_, rfl, ?_⟩; have n0_ := Aside0.mk (Kd.N_below (zn_ HO_5) hb); have n1_ := Aside0.mk (Kd.R_below (zr_ HO_8) hb); have n2_ := Aside0.mk (Kd.V_below (zv_ HO_1004000) hb); have n3_ := Aside0.mk (Kd.V_below (zv_ HO_1004001) hb); have n4_ := zk_ BK1003 hb; have n5_ := Aside0.mk (below_step zb_ hb); clear HO_5; clear HO_8; clear HO_1004000; clear HO_1004001; clear BK1003; clear HB; have HO_5 := n0_; have HO_8 := n1_; have HO_1004000 := n2_; have HO_1004001 := n3_; have BK1003 := n4_; have HB := n5_; clear n0_ n1_ n2_ n3_ n4_ n5_; (try clear hb); (try clear hb2); (try clear hk); (try clear hi)))
          go_ret
          exact ⟨by first | rfl | (simp [errW_none, errW_some] <;> rfl) | (simp [*, errW_none, errW_some] <;> rfl), by repeat (first | (with_reducible first | exact HB.out | apply below_alloc | apply pw_below_drewN | apply below_drew1 | refine below_set ?_ GE1003.out) | exact HB.out)⟩
        ·
         rw [if_neg c35] at H
         have c35b0 : (t1027 == (-1)) = false := beq_eq_false_iff_ne.mpr c35
         have c35b1 : (t1027 != (-1)) = true := bne_iff_ne.mpr c35
         replace H := Option.bind_eq_some_iff.mp H
         obtain ⟨t1033, A530, H⟩ := H
         replace H : (if t1033 = (Int.tmod (wrap64 (a1)) 16) then ((exchange_High.f kj20 y1022).bind fun bt1034 => (if (bt1034.1 == a0_3 && (bt1034.2 == a0_4)) = true then ((exchange_Short.f kj20 y1022).bind fun t1036 => ((folkmootref05_Same.f kj20 t1036 l0_1).bind fun t1039 => (if t1039 = true then (some (decide ((t1023.length : Int) ≥ (l0_1.length : Int)))) else (some false)))) else (some false))) else (some false)) = some r := H
         have A53 := Aside0.mk A530
         clear A530
         by_cases c54 : t1033 = (Int.tmod (wrap64 (a1)) 16)
         ·
          rw [if_pos c54] at H
          have c54b0 : (t1033 == (Int.tmod (wrap64 (a1)) 16)) = true := beq_iff_eq.mpr c54
          have c54b1 : (t1033 != (Int.tmod (wrap64 (a1)) 16)) = false := bne_eq_false_iff_eq.mpr c54
          clear c54
          replace H := Option.bind_eq_some_iff.mp H
          obtain ⟨⟨t1034, t1035⟩, A550, H⟩ := H
          replace H : (if (t1034 == a0_3 && (t1035 == a0_4)) = true then ((exchange_Short.f kj20 y1022).bind fun t1036 => ((folkmootref05_Same.f kj20 t1036 l0_1).bind fun t1039 => (if t1039 = true then (some (decide ((t1023.length : Int) ≥ (l0_1.length : Int)))) else (some false)))) else (some false)) = some r := H
          have A55 := Aside0.mk A550
          clear A550
          by_cases c56 : (t1034 == a0_3 && (t1035 == a0_4)) = true
          ·
           rw [if_pos c56] at H
           have c56b0 : (t1034 == a0_3 && (t1035 == a0_4)) = true := c56
           (try (have c56b1 : decide (t1034 = a0_3 && (t1035 == a0_4)) = true := by simpa using c56))
           (try (have c56b2 : (t1034 == a0_3 && (t1035 == a0_4)) = true := by simpa using c56))
           clear c56
           replace H := Option.bind_eq_some_iff.mp H
           obtain ⟨t1036, A570, H⟩ := H
           replace H : ((folkmootref05_Same.f kj20 t1036 l0_1).bind fun t1039 => (if t1039 = true then (some (decide ((t1023.length : Int) ≥ (l0_1.length : Int)))) else (some false))) = some r := H
           have A57 := Aside0.mk A570
           clear A570
           replace H := Option.bind_eq_some_iff.mp H
           obtain ⟨t1039, A580, H⟩ := H
           replace H : (if t1039 = true then (some (decide ((t1023.length : Int) ≥ (l0_1.length : Int)))) else (some false)) = some r := H
           have A58 := Aside0.mk A580
           clear A580
           by_cases c59 : t1039 = true
           ·
            subst c59
            have H1 : (some (decide ((t1023.length : Int) ≥ (l0_1.length : Int)))) = some r := by rw [if_pos rfl] at H; exact H
            clear H
            have H := H1
            clear H1
            obtain rfl := Option.some.inj H
            try go_wp2_with (first | ((with_reducible refine gate_callee (f := 68) rfl ?_); refine goesL_ (some 39) rfl rfl Try.func68 (by kernel_rfl) rfl #[.slice (some ⟨go19, 0, none⟩) y1022.length co19] rfl za_ ?_; (with_reducible refine (exchange_Next.calls kj20 _ _ y1022 t1026 _ ?side1 ?side2 A32.out).mono ?_); (case side1 => exact zd_ (Kd.N_reads' HO_5.out).2.2); (case side2 => exact (Kd.N_reads' HO_5.out).2.1); rintro e w60 ⟨rfl, hb⟩; refine ⟨_, rfl, ?_⟩; have n0_ := Aside0.mk (Kd.N_below (zn_ HO_5) hb); have n1_ := Aside0.mk (Kd.R_below (zr_ HO_8) hb); have n2_ := Aside0.mk (Kd.V_below (zv_ HO_1004000) hb); have n3_ := Aside0.mk (Kd.V_below (zv_ HO_1004001) hb); have n4_ := zk_ BK1003 hb; have n5_ := Aside0.mk (below_step zb_ hb); clear HO_5; clear HO_8; clear HO_1004000; clear HO_1004001; clear BK1003; clear HB; have HO_5 := n0_; have HO_8 := n1_; have HO_1004000 := n2_; have HO_1004001 := n3_; have BK1003 := n4_; have HB := n5_; clear n0_ n1_ n2_ n3_ n4_ n5_; (try clear hb); (try clear hb2); (try clear hk); (try clear hi)) | ((with_reducible refine gate_callee (f := 61) rfl ?_); refine goesL_ (some 43) rfl rfl Try.func61 (by kernel_rfl) rfl #[.slice (some ⟨go19, 0, none⟩) y1022.length co19] rfl za_ ?_; (with_reducible refine (exchange_Chosen.calls kj20 _ _ y1022 t1027 _ ?side1 ?side2 A34.out).mono ?_); (case side1 => exact zd_ (Kd.N_reads' HO_5.out).2.2); (case side2 => exact (Kd.N_reads' HO_5.out).2.1); rintro e w61 ⟨rfl, hb⟩; refine ⟨_, rfl, ?_⟩; have n0_ := Aside0.mk (Kd.N_below (zn_ HO_5) hb); have n1_ := Aside0.mk (Kd.R_below (zr_ HO_8) hb); have n2_ := Aside0.mk (Kd.V_below (zv_ HO_1004000) hb); have n3_ := Aside0.mk (Kd.V_below (zv_ HO_1004001) hb); have n4_ := zk_ BK1003 hb; have n5_ := Aside0.mk (below_step zb_ hb); clear HO_5; clear HO_8; clear HO_1004000; clear HO_1004001; clear BK1003; clear HB; have HO_5 := n0_; have HO_8 := n1_; have HO_1004000 := n2_; have HO_1004001 := n3_; have BK1003 := n4_; have HB := n5_; clear n0_ n1_ n2_ n3_ n4_ n5_; (try clear hb); (try clear hb2); (try clear hk); (try clear hi)))
            have n0_ := Aside0.mk (Kd.N_drew HO_5.out)
            have n1_ := Aside0.mk (Kd.R_drew HO_8.out)
            have n2_ := Aside0.mk (Kd.V_drew HO_1004000.out)
            have n3_ := Aside0.mk (Kd.V_drew HO_1004001.out)
            have n4_ := Aside0.mk (blk_drew BK1003.out)
            have n5_ := Aside0.mk (below_drew1 HB.out)
            clear HO_5
            clear HO_8
            clear HO_1004000
            clear HO_1004001
            clear BK1003
            clear HB
            have HO_5 := n0_
            have HO_8 := n1_
            have HO_1004000 := n2_
            have HO_1004001 := n3_
            have BK1003 := n4_
            have HB := n5_
            clear n0_ n1_ n2_ n3_ n4_ n5_
            refine start_ (n := 29) (S := fun w' => w'.cell? ⟨gb1003, 0, none⟩ = some (.slice A0_0 l0_0.length c0_0) ∧ w'.cell? ⟨gb1003, 1, none⟩ = some (.slice A0_1 l0_1.length c0_1) ∧ w'.cell? ⟨gb1003, 2, none⟩ = some (.int .i64 a0_2) ∧ w'.cell? ⟨gb1003, 3, none⟩ = some (.int .u64 a0_3) ∧ w'.cell? ⟨gb1003, 4, none⟩ = some (.int .i64 a0_4)) (ds := []) #[F_,F_,F_,F_,F_,F_,F_,F_,F_,F_,F_,F_,F_,F_,F_,F_,F_,F_,F_,F_,F_,F_,F_,F_,F_,F_,F_,F_,F_] (by kernel_rfl) rfl rfl ⟨(blk_cell BK1003.out 0).trans rfl, (blk_cell BK1003.out 1).trans rfl, (blk_cell BK1003.out 2).trans rfl, (blk_cell BK1003.out 3).trans rfl, (blk_cell BK1003.out 4).trans rfl⟩ (fun hHeld => ?_); refine with_tabW folkmootlaw16_ExchangeOne.tab13 folkmootlaw16_ExchangeOne.bits13 (fun HT_ HW_ => ?_)
            generalize w61.drew = w62 at HO_5 HO_8 HO_1004000 HO_1004001 BK1003 HB hHeld ⊢
            refine pure_ (i := 0) (N := some 61) (v := ?_) (a' := ?_) #[T_,F_,F_,F_,F_,F_,F_,F_,F_,F_,F_,F_,F_,F_,F_,F_,F_,F_,F_,F_,F_,F_,F_,F_,F_,F_,F_,F_,F_] rfl rfl (any_of HT_.out (by kernel_rfl)) (fun _ _ _ h => h) (Or.inl ⟨by rfl, ?_⟩) ?_ ?_
            rotate_left
            ·
             intro w'; go_simp; with_reducible rfl
            rotate_left
            ·
             exact zp_
            refine pure_ (i := 2) (N := some 63) (v := ?_) (a' := ?_) #[T_,F_,T_,F_,F_,F_,F_,F_,F_,F_,F_,F_,F_,F_,F_,F_,F_,F_,F_,F_,F_,F_,F_,F_,F_,F_,F_,F_,F_] rfl rfl (any_of HT_.out (by kernel_rfl)) (fun _ _ _ h => h) (Or.inl ⟨by rfl, ?_⟩) ?_ ?_
            rotate_left
            ·
             intro w'; go_simp; with_reducible rfl
            rotate_left
            ·
             exact zp_
            refine pure_ (i := 3) (N := some 64) (v := ?_) (a' := ?_) #[T_,F_,T_,T_,F_,F_,F_,F_,F_,F_,F_,F_,F_,F_,F_,F_,F_,F_,F_,F_,F_,F_,F_,F_,F_,F_,F_,F_,F_] rfl rfl (any_of HT_.out (by kernel_rfl)) (fun _ _ _ h => h) (Or.inl ⟨by rfl, ?_⟩) ?_ ?_
            rotate_left
            ·
             intro w'; go_simp; with_reducible rfl
            rotate_left
            ·
             exact zp_
            refine pure_ (i := 4) (N := some 65) (v := ?_) (a' := ?_) #[T_,F_,T_,T_,T_,F_,F_,F_,F_,F_,F_,F_,F_,F_,F_,F_,F_,F_,F_,F_,F_,F_,F_,F_,F_,F_,F_,F_,F_] rfl rfl (any_of HT_.out (by kernel_rfl)) (fun _ _ _ h => h) (Or.inl ⟨by rfl, ?_⟩) ?_ ?_
            rotate_left
            ·
             intro w'; go_simp; with_reducible rfl
            rotate_left
            ·
             exact zp_
            refine one_ (i := 1) (N := some 62) #[T_,T_,T_,T_,T_,F_,F_,F_,F_,F_,F_,F_,F_,F_,F_,F_,F_,F_,F_,F_,F_,F_,F_,F_,F_,F_,F_,F_,F_] rfl rfl (one_of HT_.out (by kernel_rfl)) (by decide) (fun K hK => ?_)
            refine goes_ Try.func61 (by kernel_rfl) rfl #[.slice (some ⟨go19, 0, none⟩) y1022.length co19] (by rfl) rfl rfl za_ ?_
            with_reducible refine (exchange_Chosen.calls kj20 _ _ y1022 t1033 _ ?side1 ?side2 A53.out).mono ?_
            (case side1 => exact zd_ (Kd.N_reads' HO_5.out).2.2)
            (case side2 => exact (Kd.N_reads' HO_5.out).2.1)
            rintro e w63 ⟨rfl, hb⟩
            refine ⟨_, rfl, ?_⟩
            have n0_ := Aside0.mk (Kd.N_below (zn_ HO_5) hb)
            have n1_ := Aside0.mk (Kd.R_below (zr_ HO_8) hb)
            have n2_ := Aside0.mk (Kd.V_below (zv_ HO_1004000) hb)
            have n3_ := Aside0.mk (Kd.V_below (zv_ HO_1004001) hb)
            have n4_ := zk_ BK1003 hb
            have n5_ := Aside0.mk (below_step zb_ hb)
            clear HO_5
            clear HO_8
            clear HO_1004000
            clear HO_1004001
            clear BK1003
            clear HB
            have HO_5 := n0_
            have HO_8 := n1_
            have HO_1004000 := n2_
            have HO_1004001 := n3_
            have BK1003 := n4_
            have HB := n5_
            clear n0_ n1_ n2_ n3_ n4_ n5_
            (try clear hb)
            (try clear hb2)
            (try clear hk)
            (try clear hi)
            refine hK.out _ _ ⟨(blk_cell BK1003.out 0).trans rfl, (blk_cell BK1003.out 1).trans rfl, (blk_cell BK1003.out 2).trans rfl, (blk_cell BK1003.out 3).trans rfl, (blk_cell BK1003.out 4).trans rfl⟩ (fun hHeld => ?_)
            clear hK K
            refine norm_ (a' := ?_) ?_ ?_
            rotate_left
            ·
             show Act.put _ (some 62) _ = _
             simp only [Act.put, List.setIfInBounds_toArray, List.set_cons_zero, List.set_cons_succ, i64_w, i32_w]
             rfl
            refine pure_ (i := 5) (N := some 66) (v := ?_) (a' := ?_) #[T_,T_,T_,T_,T_,T_,F_,F_,F_,F_,F_,F_,F_,F_,F_,F_,F_,F_,F_,F_,F_,F_,F_,F_,F_,F_,F_,F_,F_] rfl rfl (any_of HT_.out (by kernel_rfl)) (fun _ _ _ h => h) (Or.inl ⟨by rfl, ?_⟩) ?_ ?_
            rotate_left
            ·
             intro w'; go_simp; with_reducible rfl
            rotate_left
            ·
             exact zp_
            refine pure_ (i := 6) (N := some 67) (v := ?_) (a' := ?_) #[T_,T_,T_,T_,T_,T_,T_,F_,F_,F_,F_,F_,F_,F_,F_,F_,F_,F_,F_,F_,F_,F_,F_,F_,F_,F_,F_,F_,F_] rfl rfl (any_of HT_.out (by kernel_rfl)) (fun _ _ _ h => h) (Or.inl ⟨by rfl, ?_⟩) ?_ ?_
            rotate_left
            ·
             intro w'; go_simp; with_reducible rfl
            rotate_left
            ·
             exact zp_
            refine pure_ (i := 7) (N := some 68) (v := ?_) (a' := ?_) #[T_,T_,T_,T_,T_,T_,T_,T_,F_,F_,F_,F_,F_,F_,F_,F_,F_,F_,F_,F_,F_,F_,F_,F_,F_,F_,F_,F_,F_] rfl rfl (any_of HT_.out (by kernel_rfl)) (fun _ _ _ h => h) (Or.inl ⟨by rfl, ?_⟩) ?_ ?_
            rotate_left
            ·
             intro w'; go_simp; with_reducible rfl
            rotate_left
            ·
             exact zp_
            refine pure_ (i := 9) (N := some 70) (v := ?_) (a' := ?_) #[T_,T_,T_,T_,T_,T_,T_,T_,F_,T_,F_,F_,F_,F_,F_,F_,F_,F_,F_,F_,F_,F_,F_,F_,F_,F_,F_,F_,F_] rfl rfl (any_of HT_.out (by kernel_rfl)) (fun _ _ _ h => h) (Or.inl ⟨by rfl, ?_⟩) ?_ ?_
            rotate_left
            ·
             intro w'; go_simp; with_reducible rfl
            rotate_left
            ·
             exact zp_
            refine take_ (i := 10) (N := some 71) (v := ?_) (a' := ?_) #[T_,T_,T_,T_,T_,T_,T_,T_,F_,T_,T_,F_,F_,F_,F_,F_,F_,F_,F_,F_,F_,F_,F_,F_,F_,F_,F_,F_,F_] rfl rfl (take_ofW HT_.out HW_.out (by kernel_rfl)) (fun _ _ _ h => h) (Or.inl ⟨by rfl, ?_⟩) hHeld ?_ ?_
            rotate_left
            ·
             rintro w' ⟨s0, s1, s2, s3, s4⟩
             go_simp
             with_reducible rfl
            rotate_left
            ·
             exact zp_
            refine one_ (i := 8) (N := some 69) #[T_,T_,T_,T_,T_,T_,T_,T_,T_,T_,T_,F_,F_,F_,F_,F_,F_,F_,F_,F_,F_,F_,F_,F_,F_,F_,F_,F_,F_] rfl rfl (one_of HT_.out (by kernel_rfl)) (by decide) (fun K hK => ?_)
            refine goes_ Try.func59 (by kernel_rfl) rfl #[.slice (some ⟨go19, 0, none⟩) y1022.length co19] (by rfl) rfl rfl za_ ?_
            with_reducible refine (exchange_High.calls kj20 _ _ y1022 t1034 t1035 _ ?side1 ?side2 A55.out).mono ?_
            (case side1 => exact zd_ (Kd.N_reads' HO_5.out).2.2)
            (case side2 => exact (Kd.N_reads' HO_5.out).2.1)
            rintro e w64 ⟨rfl, hb⟩
            refine ⟨_, rfl, ?_⟩
            have n0_ := Aside0.mk (Kd.N_below (zn_ HO_5) hb)
            have n1_ := Aside0.mk (Kd.R_below (zr_ HO_8) hb)
            have n2_ := Aside0.mk (Kd.V_below (zv_ HO_1004000) hb)
            have n3_ := Aside0.mk (Kd.V_below (zv_ HO_1004001) hb)
            have n4_ := zk_ BK1003 hb
            have n5_ := Aside0.mk (below_step zb_ hb)
            clear HO_5
            clear HO_8
            clear HO_1004000
            clear HO_1004001
            clear BK1003
            clear HB
            have HO_5 := n0_
            have HO_8 := n1_
            have HO_1004000 := n2_
            have HO_1004001 := n3_
            have BK1003 := n4_
            have HB := n5_
            clear n0_ n1_ n2_ n3_ n4_ n5_
            (try clear hb)
            (try clear hb2)
            (try clear hk)
            (try clear hi)
            refine hK.out _ _ ⟨(blk_cell BK1003.out 0).trans rfl, (blk_cell BK1003.out 1).trans rfl, (blk_cell BK1003.out 2).trans rfl, (blk_cell BK1003.out 3).trans rfl, (blk_cell BK1003.out 4).trans rfl⟩ (fun hHeld => ?_)
            clear hK K
            refine norm_ (a' := ?_) ?_ ?_
            rotate_left
            ·
             show Act.put _ (some 69) _ = _
             simp only [Act.put, List.setIfInBounds_toArray, List.set_cons_zero, List.set_cons_succ, i64_w, i32_w]
             rfl
            refine pure_ (i := 11) (N := some 72) (v := ?_) (a' := ?_) #[T_,T_,T_,T_,T_,T_,T_,T_,T_,T_,T_,T_,F_,F_,F_,F_,F_,F_,F_,F_,F_,F_,F_,F_,F_,F_,F_,F_,F_] rfl rfl (any_of HT_.out (by kernel_rfl)) (fun _ _ _ h => h) (Or.inl ⟨by rfl, ?_⟩) ?_ ?_
            rotate_left
            ·
             intro w'; go_simp; with_reducible rfl
            rotate_left
            ·
             exact zp_
            refine pure_ (i := 12) (N := some 73) (v := ?_) (a' := ?_) #[T_,T_,T_,T_,T_,T_,T_,T_,T_,T_,T_,T_,T_,F_,F_,F_,F_,F_,F_,F_,F_,F_,F_,F_,F_,F_,F_,F_,F_] rfl rfl (any_of HT_.out (by kernel_rfl)) (fun _ _ _ h => h) (Or.inl ⟨by rfl, ?_⟩) ?_ ?_
            rotate_left
            ·
             intro w'; go_simp; with_reducible rfl
            rotate_left
            ·
             exact zp_
            refine pure_ (i := 13) (N := some 74) (v := ?_) (a' := ?_) #[T_,T_,T_,T_,T_,T_,T_,T_,T_,T_,T_,T_,T_,T_,F_,F_,F_,F_,F_,F_,F_,F_,F_,F_,F_,F_,F_,F_,F_] rfl rfl (any_of HT_.out (by kernel_rfl)) (fun _ _ _ h => h) (Or.inl ⟨by rfl, ?_⟩) ?_ ?_
            rotate_left
            ·
             intro w'; go_simp; with_reducible rfl
            rotate_left
            ·
             exact zp_
            refine pure_ (i := 14) (N := some 75) (v := ?_) (a' := ?_) #[T_,T_,T_,T_,T_,T_,T_,T_,T_,T_,T_,T_,T_,T_,T_,F_,F_,F_,F_,F_,F_,F_,F_,F_,F_,F_,F_,F_,F_] rfl rfl (any_of HT_.out (by kernel_rfl)) (fun _ _ _ h => h) (Or.inl ⟨by rfl, ?_⟩) ?_ ?_
            rotate_left
            ·
             intro w'; go_simp; with_reducible rfl
            rotate_left
            ·
             exact zp_
            refine pure_ (i := 16) (N := some 77) (v := ?_) (a' := ?_) #[T_,T_,T_,T_,T_,T_,T_,T_,T_,T_,T_,T_,T_,T_,T_,F_,T_,F_,F_,F_,F_,F_,F_,F_,F_,F_,F_,F_,F_] rfl rfl (any_of HT_.out (by kernel_rfl)) (fun _ _ _ h => h) (Or.inl ⟨by rfl, ?_⟩) ?_ ?_
            rotate_left
            ·
             intro w'; go_simp; with_reducible rfl
            rotate_left
            ·
             exact zp_
            refine take_ (i := 17) (N := some 78) (v := ?_) (a' := ?_) #[T_,T_,T_,T_,T_,T_,T_,T_,T_,T_,T_,T_,T_,T_,T_,F_,T_,T_,F_,F_,F_,F_,F_,F_,F_,F_,F_,F_,F_] rfl rfl (take_ofW HT_.out HW_.out (by kernel_rfl)) (fun _ _ _ h => h) (Or.inl ⟨by rfl, ?_⟩) hHeld ?_ ?_
            rotate_left
            ·
             rintro w' ⟨s0, s1, s2, s3, s4⟩
             go_simp
             with_reducible rfl
            rotate_left
            ·
             exact zp_
            refine one_ (i := 15) (N := some 76) #[T_,T_,T_,T_,T_,T_,T_,T_,T_,T_,T_,T_,T_,T_,T_,T_,T_,T_,F_,F_,F_,F_,F_,F_,F_,F_,F_,F_,F_] rfl rfl (one_of HT_.out (by kernel_rfl)) (by decide) (fun K hK => ?_)
            refine goes_ Try.func62 (by kernel_rfl) rfl #[.slice (some ⟨go19, 0, none⟩) y1022.length co19] (by rfl) rfl rfl za_ ?_
            with_reducible refine (exchange_Short.calls kj20 _ _ y1022 t1036 _ ?side1 ?side2 A57.out).mono ?_
            (case side1 => exact zd_ (Kd.N_reads' HO_5.out).2.2)
            (case side2 => exact (Kd.N_reads' HO_5.out).2.1)
            rintro e w65 ⟨v1037, rfl, ho0, hb⟩
            refine ⟨_, rfl, ?_⟩
            have n0_ := Aside0.mk (Kd.N_elder' (zn_ HO_5) (Kd.R_base ho0) hb)
            have n1_ := Aside0.mk (Kd.R_elder' (zr_ HO_8) (Kd.R_base ho0) hb)
            have n2_ := Aside0.mk (Kd.V_elder' (zv_ HO_1004000) (Kd.R_base ho0) hb)
            have n3_ := Aside0.mk (Kd.V_elder' (zv_ HO_1004001) (Kd.R_base ho0) hb)
            have n4_ := Aside0.mk (Kd.R_lower (Kd.R_new' (Kd.R_newM (M := fun k_ => (w.heap.size ≤ k_)) ho0 (below_size zb_) (fun k_ h_ => h_)) (Kd.R_lt (zr_ HO_8))) (below_size zb_))
            have n5_ := zk_ BK1003 hb
            have n6_ := Aside0.mk (below_step zb_ hb)
            clear HO_5
            clear HO_8
            clear HO_1004000
            clear HO_1004001
            clear BK1003
            clear HB
            have HO_5 := n0_
            have HO_8 := n1_
            have HO_1004000 := n2_
            have HO_1004001 := n3_
            have HO1038 := n4_
            have BK1003 := n5_
            have HB := n6_
            clear n0_ n1_ n2_ n3_ n4_ n5_ n6_
            (try clear hb)
            (try clear hb2)
            (try clear hk)
            (try clear hi)
            (try clear ho0)
            obtain ⟨Ao66, co66, eo66⟩ := Kd.R_slice HO1038.out
            (first | subst eo66 | (injection eo66 with f1_ f2_ f3_; have f4_ := f1_.symm; have f5_ := f3_.symm; clear f1_ f2_ f3_; subst f4_; subst f5_))
            refine hK.out _ _ ⟨(blk_cell BK1003.out 0).trans rfl, (blk_cell BK1003.out 1).trans rfl, (blk_cell BK1003.out 2).trans rfl, (blk_cell BK1003.out 3).trans rfl, (blk_cell BK1003.out 4).trans rfl⟩ (fun hHeld => ?_)
            clear hK K
            refine norm_ (a' := ?_) ?_ ?_
            rotate_left
            ·
             show Act.put _ (some 76) _ = _
             simp only [Act.put, List.setIfInBounds_toArray, List.set_cons_zero, List.set_cons_succ, i64_w, i32_w]
             rfl
            refine one_ (i := 18) (N := some 79) #[T_,T_,T_,T_,T_,T_,T_,T_,T_,T_,T_,T_,T_,T_,T_,T_,T_,T_,T_,F_,F_,F_,F_,F_,F_,F_,F_,F_,F_] rfl rfl (one_of HT_.out (by kernel_rfl)) (by decide) (fun K hK => ?_)
            refine goes_ Try.func30 (by kernel_rfl) rfl #[.slice Ao66 t1036.length co66, .slice A0_1 l0_1.length c0_1] (by rfl) rfl rfl za_ ?_
            with_reducible refine (folkmootref05_Same.calls kj20 _ _ t1036 _ _ l0_1 true _ ?side1 ?side2 ?side3 ?side4 A58.out).mono ?_
            (case side1 => exact zd_ (Kd.R_reads' HO1038.out).2.2)
            (case side2 => exact (Kd.R_reads' HO1038.out).2.1)
            (case side3 => exact zd_ (Kd.V_reads' HO_1004001.out).2.2)
            (case side4 => exact (Kd.V_reads' HO_1004001.out).2.1)
            rintro e w' ⟨rfl, ⟨nd, rfl⟩⟩
            refine ⟨_, rfl, ?_⟩
            obtain ⟨Ao67, co67, eo67⟩ := Kd.R_slice HO_8.out
            (first | subst eo67 | (injection eo67 with f1_ f2_ f3_; have f4_ := f1_.symm; have f5_ := f3_.symm; clear f1_ f2_ f3_; subst f4_; subst f5_))
            refine hK.out _ _ ⟨(blk_cell BK1003.out 0).trans rfl, (blk_cell BK1003.out 1).trans rfl, (blk_cell BK1003.out 2).trans rfl, (blk_cell BK1003.out 3).trans rfl, (blk_cell BK1003.out 4).trans rfl⟩ (fun hHeld => ?_)
            clear hK K
            refine norm_ (a' := ?_) ?_ ?_
            rotate_left
            ·
             show Act.put _ (some 79) _ = _
             simp only [Act.put, List.setIfInBounds_toArray, List.set_cons_zero, List.set_cons_succ, i64_w, i32_w]
             rfl
            refine pure_ (i := 19) (N := some 80) (v := ?_) (a' := ?_) #[T_,T_,T_,T_,T_,T_,T_,T_,T_,T_,T_,T_,T_,T_,T_,T_,T_,T_,T_,T_,F_,F_,F_,F_,F_,F_,F_,F_,F_] rfl rfl (any_of HT_.out (by kernel_rfl)) (fun _ _ _ h => h) (Or.inl ⟨by rfl, ?_⟩) ?_ ?_
            rotate_left
            ·
             intro w'; go_simp; with_reducible rfl
            rotate_left
            ·
             exact zp_
            refine pure_ (i := 20) (N := some 81) (v := ?_) (a' := ?_) #[T_,T_,T_,T_,T_,T_,T_,T_,T_,T_,T_,T_,T_,T_,T_,T_,T_,T_,T_,T_,T_,F_,F_,F_,F_,F_,F_,F_,F_] rfl rfl (any_of HT_.out (by kernel_rfl)) (fun _ _ _ h => h) (Or.inl ⟨by rfl, ?_⟩) ?_ ?_
            rotate_left
            ·
             intro w'; go_simp; with_reducible rfl
            rotate_left
            ·
             exact zp_
            refine pure_ (i := 21) (N := some 82) (v := ?_) (a' := ?_) #[T_,T_,T_,T_,T_,T_,T_,T_,T_,T_,T_,T_,T_,T_,T_,T_,T_,T_,T_,T_,T_,T_,F_,F_,F_,F_,F_,F_,F_] rfl rfl (any_of HT_.out (by kernel_rfl)) (fun _ _ _ h => h) (Or.inl ⟨by rfl, ?_⟩) ?_ ?_
            rotate_left
            ·
             intro w'; go_simp; with_reducible rfl
            rotate_left
            ·
             exact zp_
            refine pure_ (i := 22) (N := some 83) (v := ?_) (a' := ?_) #[T_,T_,T_,T_,T_,T_,T_,T_,T_,T_,T_,T_,T_,T_,T_,T_,T_,T_,T_,T_,T_,T_,T_,F_,F_,F_,F_,F_,F_] rfl rfl (any_of HT_.out (by kernel_rfl)) (fun _ _ _ h => h) (Or.inl ⟨by rfl, ?_⟩) ?_ ?_
            rotate_left
            ·
             intro w'; go_simp; with_reducible rfl
            rotate_left
            ·
             exact zp_
            refine pure_ (i := 23) (N := some 84) (v := ?_) (a' := ?_) #[T_,T_,T_,T_,T_,T_,T_,T_,T_,T_,T_,T_,T_,T_,T_,T_,T_,T_,T_,T_,T_,T_,T_,T_,F_,F_,F_,F_,F_] rfl rfl (any_of HT_.out (by kernel_rfl)) (fun _ _ _ h => h) (Or.inl ⟨by rfl, ?_⟩) ?_ ?_
            rotate_left
            ·
             intro w'; go_simp; with_reducible rfl
            rotate_left
            ·
             exact zp_
            refine take_ (i := 24) (N := some 85) (v := ?_) (a' := ?_) #[T_,T_,T_,T_,T_,T_,T_,T_,T_,T_,T_,T_,T_,T_,T_,T_,T_,T_,T_,T_,T_,T_,T_,T_,T_,F_,F_,F_,F_] rfl rfl (take_ofW HT_.out HW_.out (by kernel_rfl)) (fun _ _ _ h => h) (Or.inl ⟨by rfl, ?_⟩) hHeld ?_ ?_
            rotate_left
            ·
             rintro w' ⟨s0, s1, s2, s3, s4⟩
             go_simp
             with_reducible rfl
            rotate_left
            ·
             exact zp_
            refine pure_ (i := 25) (N := some 86) (v := ?_) (a' := ?_) #[T_,T_,T_,T_,T_,T_,T_,T_,T_,T_,T_,T_,T_,T_,T_,T_,T_,T_,T_,T_,T_,T_,T_,T_,T_,T_,F_,F_,F_] rfl rfl (any_of HT_.out (by kernel_rfl)) (fun _ _ _ h => h) (Or.inl ⟨by rfl, ?_⟩) ?_ ?_
            rotate_left
            ·
             intro w'; go_simp; with_reducible rfl
            rotate_left
            ·
             exact zp_
            refine pure_ (i := 26) (N := some 87) (v := ?_) (a' := ?_) #[T_,T_,T_,T_,T_,T_,T_,T_,T_,T_,T_,T_,T_,T_,T_,T_,T_,T_,T_,T_,T_,T_,T_,T_,T_,T_,T_,F_,F_] rfl rfl (any_of HT_.out (by kernel_rfl)) (fun _ _ _ h => h) (Or.inl ⟨by rfl, ?_⟩) ?_ ?_
            rotate_left
            ·
             intro w'; go_simp; with_reducible rfl
            rotate_left
            ·
             exact zp_
            refine pure_ (i := 27) (N := some 88) (v := ?_) (a' := ?_) #[T_,T_,T_,T_,T_,T_,T_,T_,T_,T_,T_,T_,T_,T_,T_,T_,T_,T_,T_,T_,T_,T_,T_,T_,T_,T_,T_,T_,F_] rfl rfl (any_of HT_.out (by kernel_rfl)) (fun _ _ _ h => h) (Or.inl ⟨by rfl, ?_⟩) ?_ ?_
            rotate_left
            ·
             intro w'; go_simp; with_reducible rfl
            rotate_left
            ·
             exact zp_
            refine pure_ (i := 28) (N := some 4) (v := ?_) (a' := ?_) #[T_,T_,T_,T_,T_,T_,T_,T_,T_,T_,T_,T_,T_,T_,T_,T_,T_,T_,T_,T_,T_,T_,T_,T_,T_,T_,T_,T_,T_] rfl rfl (any_of HT_.out (by kernel_rfl)) (fun _ _ _ h => h) (Or.inl ⟨by rfl, ?_⟩) ?_ ?_
            rotate_left
            ·
             intro w'; go_simp; with_reducible rfl
            rotate_left
            ·
             exact zp_
            refine done_ (done_of HT_.out (by kernel_rfl)) ?_
            (try clear hHeld); (try clear HS0_)
            try go_wp2
            go_ret
            exact ⟨by first | rfl | (simp [errW_none, errW_some] <;> rfl) | (simp [*, errW_none, errW_some] <;> rfl), by repeat (first | (with_reducible first | exact HB.out | apply below_alloc | apply pw_below_drewN | apply below_drew1 | refine below_set ?_ GE1003.out) | exact HB.out)⟩
           ·
            replace c59 := Bool.eq_false_iff.mpr c59
            subst c59
            have H1 : (some false) = some r := by rw [if_neg (show ¬ (false = true) by decide)] at H; exact H
            clear H
            have H := H1
            clear H1
            obtain rfl := Option.some.inj H
            try go_wp2_with (first | ((with_reducible refine gate_callee (f := 68) rfl ?_); refine goesL_ (some 39) rfl rfl Try.func68 (by kernel_rfl) rfl #[.slice (some ⟨go19, 0, none⟩) y1022.length co19] rfl za_ ?_; (with_reducible refine (exchange_Next.calls kj20 _ _ y1022 t1026 _ ?side1 ?side2 A32.out).mono ?_); (case side1 => exact zd_ (Kd.N_reads' HO_5.out).2.2); (case side2 => exact (Kd.N_reads' HO_5.out).2.1); rintro e w68 ⟨rfl, hb⟩; refine ⟨_, rfl, ?_⟩; have n0_ := Aside0.mk (Kd.N_below (zn_ HO_5) hb); have n1_ := Aside0.mk (Kd.R_below (zr_ HO_8) hb); have n2_ := Aside0.mk (Kd.V_below (zv_ HO_1004000) hb); have n3_ := Aside0.mk (Kd.V_below (zv_ HO_1004001) hb); have n4_ := zk_ BK1003 hb; have n5_ := Aside0.mk (below_step zb_ hb); clear HO_5; clear HO_8; clear HO_1004000; clear HO_1004001; clear BK1003; clear HB; have HO_5 := n0_; have HO_8 := n1_; have HO_1004000 := n2_; have HO_1004001 := n3_; have BK1003 := n4_; have HB := n5_; clear n0_ n1_ n2_ n3_ n4_ n5_; (try clear hb); (try clear hb2); (try clear hk); (try clear hi)) | ((with_reducible refine gate_callee (f := 61) rfl ?_); refine goesL_ (some 43) rfl rfl Try.func61 (by kernel_rfl) rfl #[.slice (some ⟨go19, 0, none⟩) y1022.length co19] rfl za_ ?_; (with_reducible refine (exchange_Chosen.calls kj20 _ _ y1022 t1027 _ ?side1 ?side2 A34.out).mono ?_); (case side1 => exact zd_ (Kd.N_reads' HO_5.out).2.2); (case side2 => exact (Kd.N_reads' HO_5.out).2.1); rintro e w69 ⟨rfl, hb⟩; refine ⟨_, rfl, ?_⟩; have n0_ := Aside0.mk (Kd.N_below (zn_ HO_5) hb); have n1_ := Aside0.mk (Kd.R_below (zr_ HO_8) hb); have n2_ := Aside0.mk (Kd.V_below (zv_ HO_1004000) hb); have n3_ := Aside0.mk (Kd.V_below (zv_ HO_1004001) hb); have n4_ := zk_ BK1003 hb; have n5_ := Aside0.mk (below_step zb_ hb); clear HO_5; clear HO_8; clear HO_1004000; clear HO_1004001; clear BK1003; clear HB; have HO_5 := n0_; have HO_8 := n1_; have HO_1004000 := n2_; have HO_1004001 := n3_; have BK1003 := n4_; have HB := n5_; clear n0_ n1_ n2_ n3_ n4_ n5_; (try clear hb); (try clear hb2); (try clear hk); (try clear hi)))
            have n0_ := Aside0.mk (Kd.N_drew HO_5.out)
            have n1_ := Aside0.mk (Kd.R_drew HO_8.out)
            have n2_ := Aside0.mk (Kd.V_drew HO_1004000.out)
            have n3_ := Aside0.mk (Kd.V_drew HO_1004001.out)
            have n4_ := Aside0.mk (blk_drew BK1003.out)
            have n5_ := Aside0.mk (below_drew1 HB.out)
            clear HO_5
            clear HO_8
            clear HO_1004000
            clear HO_1004001
            clear BK1003
            clear HB
            have HO_5 := n0_
            have HO_8 := n1_
            have HO_1004000 := n2_
            have HO_1004001 := n3_
            have BK1003 := n4_
            have HB := n5_
            clear n0_ n1_ n2_ n3_ n4_ n5_
            refine start_ (n := 29) (S := fun w' => w'.cell? ⟨gb1003, 0, none⟩ = some (.slice A0_0 l0_0.length c0_0) ∧ w'.cell? ⟨gb1003, 1, none⟩ = some (.slice A0_1 l0_1.length c0_1) ∧ w'.cell? ⟨gb1003, 2, none⟩ = some (.int .i64 a0_2) ∧ w'.cell? ⟨gb1003, 3, none⟩ = some (.int .u64 a0_3) ∧ w'.cell? ⟨gb1003, 4, none⟩ = some (.int .i64 a0_4)) (ds := []) #[F_,F_,F_,F_,F_,F_,F_,F_,F_,F_,F_,F_,F_,F_,F_,F_,F_,F_,F_,F_,F_,F_,F_,F_,F_,F_,F_,F_,F_] (by kernel_rfl) rfl rfl ⟨(blk_cell BK1003.out 0).trans rfl, (blk_cell BK1003.out 1).trans rfl, (blk_cell BK1003.out 2).trans rfl, (blk_cell BK1003.out 3).trans rfl, (blk_cell BK1003.out 4).trans rfl⟩ (fun hHeld => ?_); refine with_tabW folkmootlaw16_ExchangeOne.tab13 folkmootlaw16_ExchangeOne.bits13 (fun HT_ HW_ => ?_)
            generalize w69.drew = w70 at HO_5 HO_8 HO_1004000 HO_1004001 BK1003 HB hHeld ⊢
            refine pure_ (i := 0) (N := some 61) (v := ?_) (a' := ?_) #[T_,F_,F_,F_,F_,F_,F_,F_,F_,F_,F_,F_,F_,F_,F_,F_,F_,F_,F_,F_,F_,F_,F_,F_,F_,F_,F_,F_,F_] rfl rfl (any_of HT_.out (by kernel_rfl)) (fun _ _ _ h => h) (Or.inl ⟨by rfl, ?_⟩) ?_ ?_
            rotate_left
            ·
             intro w'; go_simp; with_reducible rfl
            rotate_left
            ·
             exact zp_
            refine pure_ (i := 2) (N := some 63) (v := ?_) (a' := ?_) #[T_,F_,T_,F_,F_,F_,F_,F_,F_,F_,F_,F_,F_,F_,F_,F_,F_,F_,F_,F_,F_,F_,F_,F_,F_,F_,F_,F_,F_] rfl rfl (any_of HT_.out (by kernel_rfl)) (fun _ _ _ h => h) (Or.inl ⟨by rfl, ?_⟩) ?_ ?_
            rotate_left
            ·
             intro w'; go_simp; with_reducible rfl
            rotate_left
            ·
             exact zp_
            refine pure_ (i := 3) (N := some 64) (v := ?_) (a' := ?_) #[T_,F_,T_,T_,F_,F_,F_,F_,F_,F_,F_,F_,F_,F_,F_,F_,F_,F_,F_,F_,F_,F_,F_,F_,F_,F_,F_,F_,F_] rfl rfl (any_of HT_.out (by kernel_rfl)) (fun _ _ _ h => h) (Or.inl ⟨by rfl, ?_⟩) ?_ ?_
            rotate_left
            ·
             intro w'; go_simp; with_reducible rfl
            rotate_left
            ·
             exact zp_
            refine pure_ (i := 4) (N := some 65) (v := ?_) (a' := ?_) #[T_,F_,T_,T_,T_,F_,F_,F_,F_,F_,F_,F_,F_,F_,F_,F_,F_,F_,F_,F_,F_,F_,F_,F_,F_,F_,F_,F_,F_] rfl rfl (any_of HT_.out (by kernel_rfl)) (fun _ _ _ h => h) (Or.inl ⟨by rfl, ?_⟩) ?_ ?_
            rotate_left
            ·
             intro w'; go_simp; with_reducible rfl
            rotate_left
            ·
             exact zp_
            refine one_ (i := 1) (N := some 62) #[T_,T_,T_,T_,T_,F_,F_,F_,F_,F_,F_,F_,F_,F_,F_,F_,F_,F_,F_,F_,F_,F_,F_,F_,F_,F_,F_,F_,F_] rfl rfl (one_of HT_.out (by kernel_rfl)) (by decide) (fun K hK => ?_)
            refine goes_ Try.func61 (by kernel_rfl) rfl #[.slice (some ⟨go19, 0, none⟩) y1022.length co19] (by rfl) rfl rfl za_ ?_
            with_reducible refine (exchange_Chosen.calls kj20 _ _ y1022 t1033 _ ?side1 ?side2 A53.out).mono ?_
            (case side1 => exact zd_ (Kd.N_reads' HO_5.out).2.2)
            (case side2 => exact (Kd.N_reads' HO_5.out).2.1)
            rintro e w71 ⟨rfl, hb⟩
            refine ⟨_, rfl, ?_⟩
            have n0_ := Aside0.mk (Kd.N_below (zn_ HO_5) hb)
            have n1_ := Aside0.mk (Kd.R_below (zr_ HO_8) hb)
            have n2_ := Aside0.mk (Kd.V_below (zv_ HO_1004000) hb)
            have n3_ := Aside0.mk (Kd.V_below (zv_ HO_1004001) hb)
            have n4_ := zk_ BK1003 hb
            have n5_ := Aside0.mk (below_step zb_ hb)
            clear HO_5
            clear HO_8
            clear HO_1004000
            clear HO_1004001
            clear BK1003
            clear HB
            have HO_5 := n0_
            have HO_8 := n1_
            have HO_1004000 := n2_
            have HO_1004001 := n3_
            have BK1003 := n4_
            have HB := n5_
            clear n0_ n1_ n2_ n3_ n4_ n5_
            (try clear hb)
            (try clear hb2)
            (try clear hk)
            (try clear hi)
            refine hK.out _ _ ⟨(blk_cell BK1003.out 0).trans rfl, (blk_cell BK1003.out 1).trans rfl, (blk_cell BK1003.out 2).trans rfl, (blk_cell BK1003.out 3).trans rfl, (blk_cell BK1003.out 4).trans rfl⟩ (fun hHeld => ?_)
            clear hK K
            refine norm_ (a' := ?_) ?_ ?_
            rotate_left
            ·
             show Act.put _ (some 62) _ = _
             simp only [Act.put, List.setIfInBounds_toArray, List.set_cons_zero, List.set_cons_succ, i64_w, i32_w]
             rfl
            refine pure_ (i := 5) (N := some 66) (v := ?_) (a' := ?_) #[T_,T_,T_,T_,T_,T_,F_,F_,F_,F_,F_,F_,F_,F_,F_,F_,F_,F_,F_,F_,F_,F_,F_,F_,F_,F_,F_,F_,F_] rfl rfl (any_of HT_.out (by kernel_rfl)) (fun _ _ _ h => h) (Or.inl ⟨by rfl, ?_⟩) ?_ ?_
            rotate_left
            ·
             intro w'; go_simp; with_reducible rfl
            rotate_left
            ·
             exact zp_
            refine pure_ (i := 6) (N := some 67) (v := ?_) (a' := ?_) #[T_,T_,T_,T_,T_,T_,T_,F_,F_,F_,F_,F_,F_,F_,F_,F_,F_,F_,F_,F_,F_,F_,F_,F_,F_,F_,F_,F_,F_] rfl rfl (any_of HT_.out (by kernel_rfl)) (fun _ _ _ h => h) (Or.inl ⟨by rfl, ?_⟩) ?_ ?_
            rotate_left
            ·
             intro w'; go_simp; with_reducible rfl
            rotate_left
            ·
             exact zp_
            refine pure_ (i := 7) (N := some 68) (v := ?_) (a' := ?_) #[T_,T_,T_,T_,T_,T_,T_,T_,F_,F_,F_,F_,F_,F_,F_,F_,F_,F_,F_,F_,F_,F_,F_,F_,F_,F_,F_,F_,F_] rfl rfl (any_of HT_.out (by kernel_rfl)) (fun _ _ _ h => h) (Or.inl ⟨by rfl, ?_⟩) ?_ ?_
            rotate_left
            ·
             intro w'; go_simp; with_reducible rfl
            rotate_left
            ·
             exact zp_
            refine pure_ (i := 9) (N := some 70) (v := ?_) (a' := ?_) #[T_,T_,T_,T_,T_,T_,T_,T_,F_,T_,F_,F_,F_,F_,F_,F_,F_,F_,F_,F_,F_,F_,F_,F_,F_,F_,F_,F_,F_] rfl rfl (any_of HT_.out (by kernel_rfl)) (fun _ _ _ h => h) (Or.inl ⟨by rfl, ?_⟩) ?_ ?_
            rotate_left
            ·
             intro w'; go_simp; with_reducible rfl
            rotate_left
            ·
             exact zp_
            refine take_ (i := 10) (N := some 71) (v := ?_) (a' := ?_) #[T_,T_,T_,T_,T_,T_,T_,T_,F_,T_,T_,F_,F_,F_,F_,F_,F_,F_,F_,F_,F_,F_,F_,F_,F_,F_,F_,F_,F_] rfl rfl (take_ofW HT_.out HW_.out (by kernel_rfl)) (fun _ _ _ h => h) (Or.inl ⟨by rfl, ?_⟩) hHeld ?_ ?_
            rotate_left
            ·
             rintro w' ⟨s0, s1, s2, s3, s4⟩
             go_simp
             with_reducible rfl
            rotate_left
            ·
             exact zp_
            refine one_ (i := 8) (N := some 69) #[T_,T_,T_,T_,T_,T_,T_,T_,T_,T_,T_,F_,F_,F_,F_,F_,F_,F_,F_,F_,F_,F_,F_,F_,F_,F_,F_,F_,F_] rfl rfl (one_of HT_.out (by kernel_rfl)) (by decide) (fun K hK => ?_)
            refine goes_ Try.func59 (by kernel_rfl) rfl #[.slice (some ⟨go19, 0, none⟩) y1022.length co19] (by rfl) rfl rfl za_ ?_
            with_reducible refine (exchange_High.calls kj20 _ _ y1022 t1034 t1035 _ ?side1 ?side2 A55.out).mono ?_
            (case side1 => exact zd_ (Kd.N_reads' HO_5.out).2.2)
            (case side2 => exact (Kd.N_reads' HO_5.out).2.1)
            rintro e w72 ⟨rfl, hb⟩
            refine ⟨_, rfl, ?_⟩
            have n0_ := Aside0.mk (Kd.N_below (zn_ HO_5) hb)
            have n1_ := Aside0.mk (Kd.R_below (zr_ HO_8) hb)
            have n2_ := Aside0.mk (Kd.V_below (zv_ HO_1004000) hb)
            have n3_ := Aside0.mk (Kd.V_below (zv_ HO_1004001) hb)
            have n4_ := zk_ BK1003 hb
            have n5_ := Aside0.mk (below_step zb_ hb)
            clear HO_5
            clear HO_8
            clear HO_1004000
            clear HO_1004001
            clear BK1003
            clear HB
            have HO_5 := n0_
            have HO_8 := n1_
            have HO_1004000 := n2_
            have HO_1004001 := n3_
            have BK1003 := n4_
            have HB := n5_
            clear n0_ n1_ n2_ n3_ n4_ n5_
            (try clear hb)
            (try clear hb2)
            (try clear hk)
            (try clear hi)
            refine hK.out _ _ ⟨(blk_cell BK1003.out 0).trans rfl, (blk_cell BK1003.out 1).trans rfl, (blk_cell BK1003.out 2).trans rfl, (blk_cell BK1003.out 3).trans rfl, (blk_cell BK1003.out 4).trans rfl⟩ (fun hHeld => ?_)
            clear hK K
            refine norm_ (a' := ?_) ?_ ?_
            rotate_left
            ·
             show Act.put _ (some 69) _ = _
             simp only [Act.put, List.setIfInBounds_toArray, List.set_cons_zero, List.set_cons_succ, i64_w, i32_w]
             rfl
            refine pure_ (i := 11) (N := some 72) (v := ?_) (a' := ?_) #[T_,T_,T_,T_,T_,T_,T_,T_,T_,T_,T_,T_,F_,F_,F_,F_,F_,F_,F_,F_,F_,F_,F_,F_,F_,F_,F_,F_,F_] rfl rfl (any_of HT_.out (by kernel_rfl)) (fun _ _ _ h => h) (Or.inl ⟨by rfl, ?_⟩) ?_ ?_
            rotate_left
            ·
             intro w'; go_simp; with_reducible rfl
            rotate_left
            ·
             exact zp_
            refine pure_ (i := 12) (N := some 73) (v := ?_) (a' := ?_) #[T_,T_,T_,T_,T_,T_,T_,T_,T_,T_,T_,T_,T_,F_,F_,F_,F_,F_,F_,F_,F_,F_,F_,F_,F_,F_,F_,F_,F_] rfl rfl (any_of HT_.out (by kernel_rfl)) (fun _ _ _ h => h) (Or.inl ⟨by rfl, ?_⟩) ?_ ?_
            rotate_left
            ·
             intro w'; go_simp; with_reducible rfl
            rotate_left
            ·
             exact zp_
            refine pure_ (i := 13) (N := some 74) (v := ?_) (a' := ?_) #[T_,T_,T_,T_,T_,T_,T_,T_,T_,T_,T_,T_,T_,T_,F_,F_,F_,F_,F_,F_,F_,F_,F_,F_,F_,F_,F_,F_,F_] rfl rfl (any_of HT_.out (by kernel_rfl)) (fun _ _ _ h => h) (Or.inl ⟨by rfl, ?_⟩) ?_ ?_
            rotate_left
            ·
             intro w'; go_simp; with_reducible rfl
            rotate_left
            ·
             exact zp_
            refine pure_ (i := 14) (N := some 75) (v := ?_) (a' := ?_) #[T_,T_,T_,T_,T_,T_,T_,T_,T_,T_,T_,T_,T_,T_,T_,F_,F_,F_,F_,F_,F_,F_,F_,F_,F_,F_,F_,F_,F_] rfl rfl (any_of HT_.out (by kernel_rfl)) (fun _ _ _ h => h) (Or.inl ⟨by rfl, ?_⟩) ?_ ?_
            rotate_left
            ·
             intro w'; go_simp; with_reducible rfl
            rotate_left
            ·
             exact zp_
            refine pure_ (i := 16) (N := some 77) (v := ?_) (a' := ?_) #[T_,T_,T_,T_,T_,T_,T_,T_,T_,T_,T_,T_,T_,T_,T_,F_,T_,F_,F_,F_,F_,F_,F_,F_,F_,F_,F_,F_,F_] rfl rfl (any_of HT_.out (by kernel_rfl)) (fun _ _ _ h => h) (Or.inl ⟨by rfl, ?_⟩) ?_ ?_
            rotate_left
            ·
             intro w'; go_simp; with_reducible rfl
            rotate_left
            ·
             exact zp_
            refine take_ (i := 17) (N := some 78) (v := ?_) (a' := ?_) #[T_,T_,T_,T_,T_,T_,T_,T_,T_,T_,T_,T_,T_,T_,T_,F_,T_,T_,F_,F_,F_,F_,F_,F_,F_,F_,F_,F_,F_] rfl rfl (take_ofW HT_.out HW_.out (by kernel_rfl)) (fun _ _ _ h => h) (Or.inl ⟨by rfl, ?_⟩) hHeld ?_ ?_
            rotate_left
            ·
             rintro w' ⟨s0, s1, s2, s3, s4⟩
             go_simp
             with_reducible rfl
            rotate_left
            ·
             exact zp_
            refine one_ (i := 15) (N := some 76) #[T_,T_,T_,T_,T_,T_,T_,T_,T_,T_,T_,T_,T_,T_,T_,T_,T_,T_,F_,F_,F_,F_,F_,F_,F_,F_,F_,F_,F_] rfl rfl (one_of HT_.out (by kernel_rfl)) (by decide) (fun K hK => ?_)
            refine goes_ Try.func62 (by kernel_rfl) rfl #[.slice (some ⟨go19, 0, none⟩) y1022.length co19] (by rfl) rfl rfl za_ ?_
            with_reducible refine (exchange_Short.calls kj20 _ _ y1022 t1036 _ ?side1 ?side2 A57.out).mono ?_
            (case side1 => exact zd_ (Kd.N_reads' HO_5.out).2.2)
            (case side2 => exact (Kd.N_reads' HO_5.out).2.1)
            rintro e w73 ⟨v1037, rfl, ho0, hb⟩
            refine ⟨_, rfl, ?_⟩
            have n0_ := Aside0.mk (Kd.N_elder' (zn_ HO_5) (Kd.R_base ho0) hb)
            have n1_ := Aside0.mk (Kd.R_elder' (zr_ HO_8) (Kd.R_base ho0) hb)
            have n2_ := Aside0.mk (Kd.V_elder' (zv_ HO_1004000) (Kd.R_base ho0) hb)
            have n3_ := Aside0.mk (Kd.V_elder' (zv_ HO_1004001) (Kd.R_base ho0) hb)
            have n4_ := Aside0.mk (Kd.R_lower (Kd.R_new' (Kd.R_newM (M := fun k_ => (w.heap.size ≤ k_)) ho0 (below_size zb_) (fun k_ h_ => h_)) (Kd.R_lt (zr_ HO_8))) (below_size zb_))
            have n5_ := zk_ BK1003 hb
            have n6_ := Aside0.mk (below_step zb_ hb)
            clear HO_5
            clear HO_8
            clear HO_1004000
            clear HO_1004001
            clear BK1003
            clear HB
            have HO_5 := n0_
            have HO_8 := n1_
            have HO_1004000 := n2_
            have HO_1004001 := n3_
            have HO1038 := n4_
            have BK1003 := n5_
            have HB := n6_
            clear n0_ n1_ n2_ n3_ n4_ n5_ n6_
            (try clear hb)
            (try clear hb2)
            (try clear hk)
            (try clear hi)
            (try clear ho0)
            obtain ⟨Ao74, co74, eo74⟩ := Kd.R_slice HO1038.out
            (first | subst eo74 | (injection eo74 with f1_ f2_ f3_; have f4_ := f1_.symm; have f5_ := f3_.symm; clear f1_ f2_ f3_; subst f4_; subst f5_))
            refine hK.out _ _ ⟨(blk_cell BK1003.out 0).trans rfl, (blk_cell BK1003.out 1).trans rfl, (blk_cell BK1003.out 2).trans rfl, (blk_cell BK1003.out 3).trans rfl, (blk_cell BK1003.out 4).trans rfl⟩ (fun hHeld => ?_)
            clear hK K
            refine norm_ (a' := ?_) ?_ ?_
            rotate_left
            ·
             show Act.put _ (some 76) _ = _
             simp only [Act.put, List.setIfInBounds_toArray, List.set_cons_zero, List.set_cons_succ, i64_w, i32_w]
             rfl
            refine one_ (i := 18) (N := some 79) #[T_,T_,T_,T_,T_,T_,T_,T_,T_,T_,T_,T_,T_,T_,T_,T_,T_,T_,T_,F_,F_,F_,F_,F_,F_,F_,F_,F_,F_] rfl rfl (one_of HT_.out (by kernel_rfl)) (by decide) (fun K hK => ?_)
            refine goes_ Try.func30 (by kernel_rfl) rfl #[.slice Ao74 t1036.length co74, .slice A0_1 l0_1.length c0_1] (by rfl) rfl rfl za_ ?_
            with_reducible refine (folkmootref05_Same.calls kj20 _ _ t1036 _ _ l0_1 false _ ?side1 ?side2 ?side3 ?side4 A58.out).mono ?_
            (case side1 => exact zd_ (Kd.R_reads' HO1038.out).2.2)
            (case side2 => exact (Kd.R_reads' HO1038.out).2.1)
            (case side3 => exact zd_ (Kd.V_reads' HO_1004001.out).2.2)
            (case side4 => exact (Kd.V_reads' HO_1004001.out).2.1)
            rintro e w' ⟨rfl, ⟨nd, rfl⟩⟩
            refine ⟨_, rfl, ?_⟩
            refine hK.out _ _ ⟨(blk_cell BK1003.out 0).trans rfl, (blk_cell BK1003.out 1).trans rfl, (blk_cell BK1003.out 2).trans rfl, (blk_cell BK1003.out 3).trans rfl, (blk_cell BK1003.out 4).trans rfl⟩ (fun hHeld => ?_)
            clear hK K
            refine norm_ (a' := ?_) ?_ ?_
            rotate_left
            ·
             show Act.put _ (some 79) _ = _
             simp only [Act.put, List.setIfInBounds_toArray, List.set_cons_zero, List.set_cons_succ, i64_w, i32_w]
             rfl
            refine pure_ (i := 19) (N := some 80) (v := ?_) (a' := ?_) #[T_,T_,T_,T_,T_,T_,T_,T_,T_,T_,T_,T_,T_,T_,T_,T_,T_,T_,T_,T_,F_,F_,F_,F_,F_,F_,F_,F_,F_] rfl rfl (any_of HT_.out (by kernel_rfl)) (fun _ _ _ h => h) (Or.inl ⟨by rfl, ?_⟩) ?_ ?_
            rotate_left
            ·
             intro w'; go_simp; with_reducible rfl
            rotate_left
            ·
             exact zp_
            refine pure_ (i := 20) (N := some 81) (v := ?_) (a' := ?_) #[T_,T_,T_,T_,T_,T_,T_,T_,T_,T_,T_,T_,T_,T_,T_,T_,T_,T_,T_,T_,T_,F_,F_,F_,F_,F_,F_,F_,F_] rfl rfl (any_of HT_.out (by kernel_rfl)) (fun _ _ _ h => h) (Or.inl ⟨by rfl, ?_⟩) ?_ ?_
            rotate_left
            ·
             intro w'; go_simp; with_reducible rfl
            rotate_left
            ·
             exact zp_
            refine pure_ (i := 21) (N := some 82) (v := undef) (a' := ?_) #[T_,T_,T_,T_,T_,T_,T_,T_,T_,T_,T_,T_,T_,T_,T_,T_,T_,T_,T_,T_,T_,T_,F_,F_,F_,F_,F_,F_,F_] rfl rfl (any_of HT_.out (by kernel_rfl)) (fun _ _ _ h => h) (Or.inr ⟨by rfl, rfl⟩) ?_ ?_
            rotate_left
            ·
             exact zp_
            refine pure_ (i := 22) (N := some 83) (v := undef) (a' := ?_) #[T_,T_,T_,T_,T_,T_,T_,T_,T_,T_,T_,T_,T_,T_,T_,T_,T_,T_,T_,T_,T_,T_,T_,F_,F_,F_,F_,F_,F_] rfl rfl (any_of HT_.out (by kernel_rfl)) (fun _ _ _ h => h) (Or.inr ⟨by rfl, rfl⟩) ?_ ?_
            rotate_left
            ·
             exact zp_
            refine pure_ (i := 23) (N := some 84) (v := undef) (a' := ?_) #[T_,T_,T_,T_,T_,T_,T_,T_,T_,T_,T_,T_,T_,T_,T_,T_,T_,T_,T_,T_,T_,T_,T_,T_,F_,F_,F_,F_,F_] rfl rfl (any_of HT_.out (by kernel_rfl)) (fun _ _ _ h => h) (Or.inr ⟨by rfl, rfl⟩) ?_ ?_
            rotate_left
            ·
             exact zp_
            refine pure_ (i := 24) (N := some 85) (v := undef) (a' := ?_) #[T_,T_,T_,T_,T_,T_,T_,T_,T_,T_,T_,T_,T_,T_,T_,T_,T_,T_,T_,T_,T_,T_,T_,T_,T_,F_,F_,F_,F_] rfl rfl (any_of HT_.out (by kernel_rfl)) (fun _ _ _ h => h) (Or.inr ⟨by rfl, rfl⟩) ?_ ?_
            rotate_left
            ·
             exact zp_
            refine pure_ (i := 25) (N := some 86) (v := undef) (a' := ?_) #[T_,T_,T_,T_,T_,T_,T_,T_,T_,T_,T_,T_,T_,T_,T_,T_,T_,T_,T_,T_,T_,T_,T_,T_,T_,T_,F_,F_,F_] rfl rfl (any_of HT_.out (by kernel_rfl)) (fun _ _ _ h => h) (Or.inr ⟨by rfl, rfl⟩) ?_ ?_
            rotate_left
            ·
             exact zp_
            refine pure_ (i := 26) (N := some 87) (v := undef) (a' := ?_) #[T_,T_,T_,T_,T_,T_,T_,T_,T_,T_,T_,T_,T_,T_,T_,T_,T_,T_,T_,T_,T_,T_,T_,T_,T_,T_,T_,F_,F_] rfl rfl (any_of HT_.out (by kernel_rfl)) (fun _ _ _ h => h) (Or.inr ⟨by rfl, rfl⟩) ?_ ?_
            rotate_left
            ·
             exact zp_
            refine pure_ (i := 27) (N := some 88) (v := ?_) (a' := ?_) #[T_,T_,T_,T_,T_,T_,T_,T_,T_,T_,T_,T_,T_,T_,T_,T_,T_,T_,T_,T_,T_,T_,T_,T_,T_,T_,T_,T_,F_] rfl rfl (any_of HT_.out (by kernel_rfl)) (fun _ _ _ h => h) (Or.inl ⟨by rfl, ?_⟩) ?_ ?_
            rotate_left
            ·
             intro w'; go_simp; with_reducible rfl
            rotate_left
            ·
             exact zp_
            refine pure_ (i := 28) (N := some 4) (v := ?_) (a' := ?_) #[T_,T_,T_,T_,T_,T_,T_,T_,T_,T_,T_,T_,T_,T_,T_,T_,T_,T_,T_,T_,T_,T_,T_,T_,T_,T_,T_,T_,T_] rfl rfl (any_of HT_.out (by kernel_rfl)) (fun _ _ _ h => h) (Or.inl ⟨by rfl, ?_⟩) ?_ ?_
            rotate_left
            ·
             intro w'; go_simp; with_reducible rfl
            rotate_left
            ·
             exact zp_
            refine done_ (done_of HT_.out (by kernel_rfl)) ?_
            (try clear hHeld); (try clear HS0_)
            try go_wp2
            go_ret
            exact ⟨by first | rfl | (simp [errW_none, errW_some] <;> rfl) | (simp [*, errW_none, errW_some] <;> rfl), by repeat (first | (with_reducible first | exact HB.out | apply below_alloc | apply pw_below_drewN | apply below_drew1 | refine below_set ?_ GE1003.out) | exact HB.out)⟩
          ·
           rw [if_neg c56] at H
           have c56b0 : (t1034 == a0_3 && (t1035 == a0_4)) = false := by simpa using c56
           (try (have c56b1 : decide (t1034 = a0_3 && (t1035 == a0_4)) = false := by simpa using c56))
           (try (have c56b2 : (t1034 == a0_3 && (t1035 == a0_4)) = false := by simpa using c56))
           (try (have c56b3 : ¬ (t1034 = a0_3 && (t1035 == a0_4)) := by simpa using c56))
           clear c56
           obtain rfl := Option.some.inj H
           try go_wp2_with (first | ((with_reducible refine gate_callee (f := 68) rfl ?_); refine goesL_ (some 39) rfl rfl Try.func68 (by kernel_rfl) rfl #[.slice (some ⟨go19, 0, none⟩) y1022.length co19] rfl za_ ?_; (with_reducible refine (exchange_Next.calls kj20 _ _ y1022 t1026 _ ?side1 ?side2 A32.out).mono ?_); (case side1 => exact zd_ (Kd.N_reads' HO_5.out).2.2); (case side2 => exact (Kd.N_reads' HO_5.out).2.1); rintro e w75 ⟨rfl, hb⟩; refine ⟨_, rfl, ?_⟩; have n0_ := Aside0.mk (Kd.N_below (zn_ HO_5) hb); have n1_ := Aside0.mk (Kd.R_below (zr_ HO_8) hb); have n2_ := Aside0.mk (Kd.V_below (zv_ HO_1004000) hb); have n3_ := Aside0.mk (Kd.V_below (zv_ HO_1004001) hb); have n4_ := zk_ BK1003 hb; have n5_ := Aside0.mk (below_step zb_ hb); clear HO_5; clear HO_8; clear HO_1004000; clear HO_1004001; clear BK1003; clear HB; have HO_5 := n0_; have HO_8 := n1_; have HO_1004000 := n2_; have HO_1004001 := n3_; have BK1003 := n4_; have HB := n5_; clear n0_ n1_ n2_ n3_ n4_ n5_; (try clear hb); (try clear hb2); (try clear hk); (try clear hi)) | ((with_reducible refine gate_callee (f := 61) rfl ?_); refine goesL_ (some 43) rfl rfl Try.func61 (by kernel_rfl) rfl #[.slice (some ⟨go19, 0, none⟩) y1022.length co19] rfl za_ ?_; (with_reducible refine (exchange_Chosen.calls kj20 _ _ y1022 t1027 _ ?side1 ?side2 A34.out).mono ?_); (case side1 => exact zd_ (Kd.N_reads' HO_5.out).2.2); (case side2 => exact (Kd.N_reads' HO_5.out).2.1); rintro e w76 ⟨rfl, hb⟩; refine ⟨_, rfl, ?_⟩; have n0_ := Aside0.mk (Kd.N_below (zn_ HO_5) hb); have n1_ := Aside0.mk (Kd.R_below (zr_ HO_8) hb); have n2_ := Aside0.mk (Kd.V_below (zv_ HO_1004000) hb); have n3_ := Aside0.mk (Kd.V_below (zv_ HO_1004001) hb); have n4_ := zk_ BK1003 hb; have n5_ := Aside0.mk (below_step zb_ hb); clear HO_5; clear HO_8; clear HO_1004000; clear HO_1004001; clear BK1003; clear HB; have HO_5 := n0_; have HO_8 := n1_; have HO_1004000 := n2_; have HO_1004001 := n3_; have BK1003 := n4_; have HB := n5_; clear n0_ n1_ n2_ n3_ n4_ n5_; (try clear hb); (try clear hb2); (try clear hk); (try clear hi)))
           have n0_ := Aside0.mk (Kd.N_drew HO_5.out)
           have n1_ := Aside0.mk (Kd.R_drew HO_8.out)
           have n2_ := Aside0.mk (Kd.V_drew HO_1004000.out)
           have n3_ := Aside0.mk (Kd.V_drew HO_1004001.out)
           have n4_ := Aside0.mk (blk_drew BK1003.out)
           have n5_ := Aside0.mk (below_drew1 HB.out)
           clear HO_5
           clear HO_8
           clear HO_1004000
           clear HO_1004001
           clear BK1003
           clear HB
           have HO_5 := n0_
           have HO_8 := n1_
           have HO_1004000 := n2_
           have HO_1004001 := n3_
           have BK1003 := n4_
           have HB := n5_
           clear n0_ n1_ n2_ n3_ n4_ n5_
           refine start_ (n := 29) (S := fun w' => w'.cell? ⟨gb1003, 0, none⟩ = some (.slice A0_0 l0_0.length c0_0) ∧ w'.cell? ⟨gb1003, 1, none⟩ = some (.slice A0_1 l0_1.length c0_1) ∧ w'.cell? ⟨gb1003, 2, none⟩ = some (.int .i64 a0_2) ∧ w'.cell? ⟨gb1003, 3, none⟩ = some (.int .u64 a0_3) ∧ w'.cell? ⟨gb1003, 4, none⟩ = some (.int .i64 a0_4)) (ds := []) #[F_,F_,F_,F_,F_,F_,F_,F_,F_,F_,F_,F_,F_,F_,F_,F_,F_,F_,F_,F_,F_,F_,F_,F_,F_,F_,F_,F_,F_] (by kernel_rfl) rfl rfl ⟨(blk_cell BK1003.out 0).trans rfl, (blk_cell BK1003.out 1).trans rfl, (blk_cell BK1003.out 2).trans rfl, (blk_cell BK1003.out 3).trans rfl, (blk_cell BK1003.out 4).trans rfl⟩ (fun hHeld => ?_); refine with_tabW folkmootlaw16_ExchangeOne.tab13 folkmootlaw16_ExchangeOne.bits13 (fun HT_ HW_ => ?_)
           generalize w76.drew = w77 at HO_5 HO_8 HO_1004000 HO_1004001 BK1003 HB hHeld ⊢
           refine pure_ (i := 0) (N := some 61) (v := ?_) (a' := ?_) #[T_,F_,F_,F_,F_,F_,F_,F_,F_,F_,F_,F_,F_,F_,F_,F_,F_,F_,F_,F_,F_,F_,F_,F_,F_,F_,F_,F_,F_] rfl rfl (any_of HT_.out (by kernel_rfl)) (fun _ _ _ h => h) (Or.inl ⟨by rfl, ?_⟩) ?_ ?_
           rotate_left
           ·
            intro w'; go_simp; with_reducible rfl
           rotate_left
           ·
            exact zp_
           refine pure_ (i := 2) (N := some 63) (v := ?_) (a' := ?_) #[T_,F_,T_,F_,F_,F_,F_,F_,F_,F_,F_,F_,F_,F_,F_,F_,F_,F_,F_,F_,F_,F_,F_,F_,F_,F_,F_,F_,F_] rfl rfl (any_of HT_.out (by kernel_rfl)) (fun _ _ _ h => h) (Or.inl ⟨by rfl, ?_⟩) ?_ ?_
           rotate_left
           ·
            intro w'; go_simp; with_reducible rfl
           rotate_left
           ·
            exact zp_
           refine pure_ (i := 3) (N := some 64) (v := ?_) (a' := ?_) #[T_,F_,T_,T_,F_,F_,F_,F_,F_,F_,F_,F_,F_,F_,F_,F_,F_,F_,F_,F_,F_,F_,F_,F_,F_,F_,F_,F_,F_] rfl rfl (any_of HT_.out (by kernel_rfl)) (fun _ _ _ h => h) (Or.inl ⟨by rfl, ?_⟩) ?_ ?_
           rotate_left
           ·
            intro w'; go_simp; with_reducible rfl
           rotate_left
           ·
            exact zp_
           refine pure_ (i := 4) (N := some 65) (v := ?_) (a' := ?_) #[T_,F_,T_,T_,T_,F_,F_,F_,F_,F_,F_,F_,F_,F_,F_,F_,F_,F_,F_,F_,F_,F_,F_,F_,F_,F_,F_,F_,F_] rfl rfl (any_of HT_.out (by kernel_rfl)) (fun _ _ _ h => h) (Or.inl ⟨by rfl, ?_⟩) ?_ ?_
           rotate_left
           ·
            intro w'; go_simp; with_reducible rfl
           rotate_left
           ·
            exact zp_
           refine one_ (i := 1) (N := some 62) #[T_,T_,T_,T_,T_,F_,F_,F_,F_,F_,F_,F_,F_,F_,F_,F_,F_,F_,F_,F_,F_,F_,F_,F_,F_,F_,F_,F_,F_] rfl rfl (one_of HT_.out (by kernel_rfl)) (by decide) (fun K hK => ?_)
           refine goes_ Try.func61 (by kernel_rfl) rfl #[.slice (some ⟨go19, 0, none⟩) y1022.length co19] (by rfl) rfl rfl za_ ?_
           with_reducible refine (exchange_Chosen.calls kj20 _ _ y1022 t1033 _ ?side1 ?side2 A53.out).mono ?_
           (case side1 => exact zd_ (Kd.N_reads' HO_5.out).2.2)
           (case side2 => exact (Kd.N_reads' HO_5.out).2.1)
           rintro e w78 ⟨rfl, hb⟩
           refine ⟨_, rfl, ?_⟩
           have n0_ := Aside0.mk (Kd.N_below (zn_ HO_5) hb)
           have n1_ := Aside0.mk (Kd.R_below (zr_ HO_8) hb)
           have n2_ := Aside0.mk (Kd.V_below (zv_ HO_1004000) hb)
           have n3_ := Aside0.mk (Kd.V_below (zv_ HO_1004001) hb)
           have n4_ := zk_ BK1003 hb
           have n5_ := Aside0.mk (below_step zb_ hb)
           clear HO_5
           clear HO_8
           clear HO_1004000
           clear HO_1004001
           clear BK1003
           clear HB
           have HO_5 := n0_
           have HO_8 := n1_
           have HO_1004000 := n2_
           have HO_1004001 := n3_
           have BK1003 := n4_
           have HB := n5_
           clear n0_ n1_ n2_ n3_ n4_ n5_
           (try clear hb)
           (try clear hb2)
           (try clear hk)
           (try clear hi)
           refine hK.out _ _ ⟨(blk_cell BK1003.out 0).trans rfl, (blk_cell BK1003.out 1).trans rfl, (blk_cell BK1003.out 2).trans rfl, (blk_cell BK1003.out 3).trans rfl, (blk_cell BK1003.out 4).trans rfl⟩ (fun hHeld => ?_)
           clear hK K
           refine norm_ (a' := ?_) ?_ ?_
           rotate_left
           ·
            show Act.put _ (some 62) _ = _
            simp only [Act.put, List.setIfInBounds_toArray, List.set_cons_zero, List.set_cons_succ, i64_w, i32_w]
            rfl
           refine pure_ (i := 5) (N := some 66) (v := ?_) (a' := ?_) #[T_,T_,T_,T_,T_,T_,F_,F_,F_,F_,F_,F_,F_,F_,F_,F_,F_,F_,F_,F_,F_,F_,F_,F_,F_,F_,F_,F_,F_] rfl rfl (any_of HT_.out (by kernel_rfl)) (fun _ _ _ h => h) (Or.inl ⟨by rfl, ?_⟩) ?_ ?_
           rotate_left
           ·
            intro w'; go_simp; with_reducible rfl
           rotate_left
           ·
            exact zp_
           refine pure_ (i := 6) (N := some 67) (v := ?_) (a' := ?_) #[T_,T_,T_,T_,T_,T_,T_,F_,F_,F_,F_,F_,F_,F_,F_,F_,F_,F_,F_,F_,F_,F_,F_,F_,F_,F_,F_,F_,F_] rfl rfl (any_of HT_.out (by kernel_rfl)) (fun _ _ _ h => h) (Or.inl ⟨by rfl, ?_⟩) ?_ ?_
           rotate_left
           ·
            intro w'; go_simp; with_reducible rfl
           rotate_left
           ·
            exact zp_
           refine pure_ (i := 7) (N := some 68) (v := ?_) (a' := ?_) #[T_,T_,T_,T_,T_,T_,T_,T_,F_,F_,F_,F_,F_,F_,F_,F_,F_,F_,F_,F_,F_,F_,F_,F_,F_,F_,F_,F_,F_] rfl rfl (any_of HT_.out (by kernel_rfl)) (fun _ _ _ h => h) (Or.inl ⟨by rfl, ?_⟩) ?_ ?_
           rotate_left
           ·
            intro w'; go_simp; with_reducible rfl
           rotate_left
           ·
            exact zp_
           refine pure_ (i := 9) (N := some 70) (v := ?_) (a' := ?_) #[T_,T_,T_,T_,T_,T_,T_,T_,F_,T_,F_,F_,F_,F_,F_,F_,F_,F_,F_,F_,F_,F_,F_,F_,F_,F_,F_,F_,F_] rfl rfl (any_of HT_.out (by kernel_rfl)) (fun _ _ _ h => h) (Or.inl ⟨by rfl, ?_⟩) ?_ ?_
           rotate_left
           ·
            intro w'; go_simp; with_reducible rfl
           rotate_left
           ·
            exact zp_
           refine take_ (i := 10) (N := some 71) (v := ?_) (a' := ?_) #[T_,T_,T_,T_,T_,T_,T_,T_,F_,T_,T_,F_,F_,F_,F_,F_,F_,F_,F_,F_,F_,F_,F_,F_,F_,F_,F_,F_,F_] rfl rfl (take_ofW HT_.out HW_.out (by kernel_rfl)) (fun _ _ _ h => h) (Or.inl ⟨by rfl, ?_⟩) hHeld ?_ ?_
           rotate_left
           ·
            rintro w' ⟨s0, s1, s2, s3, s4⟩
            go_simp
            with_reducible rfl
           rotate_left
           ·
            exact zp_
           refine one_ (i := 8) (N := some 69) #[T_,T_,T_,T_,T_,T_,T_,T_,T_,T_,T_,F_,F_,F_,F_,F_,F_,F_,F_,F_,F_,F_,F_,F_,F_,F_,F_,F_,F_] rfl rfl (one_of HT_.out (by kernel_rfl)) (by decide) (fun K hK => ?_)
           refine goes_ Try.func59 (by kernel_rfl) rfl #[.slice (some ⟨go19, 0, none⟩) y1022.length co19] (by rfl) rfl rfl za_ ?_
           with_reducible refine (exchange_High.calls kj20 _ _ y1022 t1034 t1035 _ ?side1 ?side2 A55.out).mono ?_
           (case side1 => exact zd_ (Kd.N_reads' HO_5.out).2.2)
           (case side2 => exact (Kd.N_reads' HO_5.out).2.1)
           rintro e w79 ⟨rfl, hb⟩
           refine ⟨_, rfl, ?_⟩
           have n0_ := Aside0.mk (Kd.N_below (zn_ HO_5) hb)
           have n1_ := Aside0.mk (Kd.R_below (zr_ HO_8) hb)
           have n2_ := Aside0.mk (Kd.V_below (zv_ HO_1004000) hb)
           have n3_ := Aside0.mk (Kd.V_below (zv_ HO_1004001) hb)
           have n4_ := zk_ BK1003 hb
           have n5_ := Aside0.mk (below_step zb_ hb)
           clear HO_5
           clear HO_8
           clear HO_1004000
           clear HO_1004001
           clear BK1003
           clear HB
           have HO_5 := n0_
           have HO_8 := n1_
           have HO_1004000 := n2_
           have HO_1004001 := n3_
           have BK1003 := n4_
           have HB := n5_
           clear n0_ n1_ n2_ n3_ n4_ n5_
           (try clear hb)
           (try clear hb2)
           (try clear hk)
           (try clear hi)
           refine hK.out _ _ ⟨(blk_cell BK1003.out 0).trans rfl, (blk_cell BK1003.out 1).trans rfl, (blk_cell BK1003.out 2).trans rfl, (blk_cell BK1003.out 3).trans rfl, (blk_cell BK1003.out 4).trans rfl⟩ (fun hHeld => ?_)
           clear hK K
           refine norm_ (a' := ?_) ?_ ?_
           rotate_left
           ·
            show Act.put _ (some 69) _ = _
            simp only [Act.put, List.setIfInBounds_toArray, List.set_cons_zero, List.set_cons_succ, i64_w, i32_w]
            rfl
           refine pure_ (i := 11) (N := some 72) (v := ?_) (a' := ?_) #[T_,T_,T_,T_,T_,T_,T_,T_,T_,T_,T_,T_,F_,F_,F_,F_,F_,F_,F_,F_,F_,F_,F_,F_,F_,F_,F_,F_,F_] rfl rfl (any_of HT_.out (by kernel_rfl)) (fun _ _ _ h => h) (Or.inl ⟨by rfl, ?_⟩) ?_ ?_
           rotate_left
           ·
            intro w'; go_simp; with_reducible rfl
           rotate_left
           ·
            exact zp_
           refine pure_ (i := 12) (N := some 73) (v := ?_) (a' := ?_) #[T_,T_,T_,T_,T_,T_,T_,T_,T_,T_,T_,T_,T_,F_,F_,F_,F_,F_,F_,F_,F_,F_,F_,F_,F_,F_,F_,F_,F_] rfl rfl (any_of HT_.out (by kernel_rfl)) (fun _ _ _ h => h) (Or.inl ⟨by rfl, ?_⟩) ?_ ?_
           rotate_left
           ·
            intro w'; go_simp; with_reducible rfl
           rotate_left
           ·
            exact zp_
           refine pure_ (i := 13) (N := some 74) (v := ?_) (a' := ?_) #[T_,T_,T_,T_,T_,T_,T_,T_,T_,T_,T_,T_,T_,T_,F_,F_,F_,F_,F_,F_,F_,F_,F_,F_,F_,F_,F_,F_,F_] rfl rfl (any_of HT_.out (by kernel_rfl)) (fun _ _ _ h => h) (Or.inl ⟨by rfl, ?_⟩) ?_ ?_
           rotate_left
           ·
            intro w'; go_simp; with_reducible rfl
           rotate_left
           ·
            exact zp_
           refine pure_ (i := 14) (N := some 75) (v := undef) (a' := ?_) #[T_,T_,T_,T_,T_,T_,T_,T_,T_,T_,T_,T_,T_,T_,T_,F_,F_,F_,F_,F_,F_,F_,F_,F_,F_,F_,F_,F_,F_] rfl rfl (any_of HT_.out (by kernel_rfl)) (fun _ _ _ h => h) (Or.inr ⟨by rfl, rfl⟩) ?_ ?_
           rotate_left
           ·
            exact zp_
           refine pure_ (i := 15) (N := some 76) (v := undef) (a' := ?_) #[T_,T_,T_,T_,T_,T_,T_,T_,T_,T_,T_,T_,T_,T_,T_,T_,F_,F_,F_,F_,F_,F_,F_,F_,F_,F_,F_,F_,F_] rfl rfl (any_of HT_.out (by kernel_rfl)) (fun _ _ _ h => h) (Or.inr ⟨by rfl, rfl⟩) ?_ ?_
           rotate_left
           ·
            exact zp_
           refine pure_ (i := 16) (N := some 77) (v := undef) (a' := ?_) #[T_,T_,T_,T_,T_,T_,T_,T_,T_,T_,T_,T_,T_,T_,T_,T_,T_,F_,F_,F_,F_,F_,F_,F_,F_,F_,F_,F_,F_] rfl rfl (any_of HT_.out (by kernel_rfl)) (fun _ _ _ h => h) (Or.inr ⟨by rfl, rfl⟩) ?_ ?_
           rotate_left
           ·
            exact zp_
           refine pure_ (i := 17) (N := some 78) (v := undef) (a' := ?_) #[T_,T_,T_,T_,T_,T_,T_,T_,T_,T_,T_,T_,T_,T_,T_,T_,T_,T_,F_,F_,F_,F_,F_,F_,F_,F_,F_,F_,F_] rfl rfl (any_of HT_.out (by kernel_rfl)) (fun _ _ _ h => h) (Or.inr ⟨by rfl, rfl⟩) ?_ ?_
           rotate_left
           ·
            exact zp_
           refine pure_ (i := 18) (N := some 79) (v := undef) (a' := ?_) #[T_,T_,T_,T_,T_,T_,T_,T_,T_,T_,T_,T_,T_,T_,T_,T_,T_,T_,T_,F_,F_,F_,F_,F_,F_,F_,F_,F_,F_] rfl rfl (any_of HT_.out (by kernel_rfl)) (fun _ _ _ h => h) (Or.inr ⟨by rfl, rfl⟩) ?_ ?_
           rotate_left
           ·
            exact zp_
           refine pure_ (i := 19) (N := some 80) (v := ?_) (a' := ?_) #[T_,T_,T_,T_,T_,T_,T_,T_,T_,T_,T_,T_,T_,T_,T_,T_,T_,T_,T_,T_,F_,F_,F_,F_,F_,F_,F_,F_,F_] rfl rfl (any_of HT_.out (by kernel_rfl)) (fun _ _ _ h => h) (Or.inl ⟨by rfl, ?_⟩) ?_ ?_
           rotate_left
           ·
            intro w'; go_simp; with_reducible rfl
           rotate_left
           ·
            exact zp_
           refine pure_ (i := 20) (N := some 81) (v := ?_) (a' := ?_) #[T_,T_,T_,T_,T_,T_,T_,T_,T_,T_,T_,T_,T_,T_,T_,T_,T_,T_,T_,T_,T_,F_,F_,F_,F_,F_,F_,F_,F_] rfl rfl (any_of HT_.out (by kernel_rfl)) (fun _ _ _ h => h) (Or.inl ⟨by rfl, ?_⟩) ?_ ?_
           rotate_left
           ·
            intro w'; go_simp; with_reducible rfl
           rotate_left
           ·
            exact zp_
           refine pure_ (i := 21) (N := some 82) (v := undef) (a' := ?_) #[T_,T_,T_,T_,T_,T_,T_,T_,T_,T_,T_,T_,T_,T_,T_,T_,T_,T_,T_,T_,T_,T_,F_,F_,F_,F_,F_,F_,F_] rfl rfl (any_of HT_.out (by kernel_rfl)) (fun _ _ _ h => h) (Or.inr ⟨by rfl, rfl⟩) ?_ ?_
           rotate_left
           ·
            exact zp_
           refine pure_ (i := 22) (N := some 83) (v := undef) (a' := ?_) #[T_,T_,T_,T_,T_,T_,T_,T_,T_,T_,T_,T_,T_,T_,T_,T_,T_,T_,T_,T_,T_,T_,T_,F_,F_,F_,F_,F_,F_] rfl rfl (any_of HT_.out (by kernel_rfl)) (fun _ _ _ h => h) (Or.inr ⟨by rfl, rfl⟩) ?_ ?_
           rotate_left
           ·
            exact zp_
           refine pure_ (i := 23) (N := some 84) (v := undef) (a' := ?_) #[T_,T_,T_,T_,T_,T_,T_,T_,T_,T_,T_,T_,T_,T_,T_,T_,T_,T_,T_,T_,T_,T_,T_,T_,F_,F_,F_,F_,F_] rfl rfl (any_of HT_.out (by kernel_rfl)) (fun _ _ _ h => h) (Or.inr ⟨by rfl, rfl⟩) ?_ ?_
           rotate_left
           ·
            exact zp_
           refine pure_ (i := 24) (N := some 85) (v := undef) (a' := ?_) #[T_,T_,T_,T_,T_,T_,T_,T_,T_,T_,T_,T_,T_,T_,T_,T_,T_,T_,T_,T_,T_,T_,T_,T_,T_,F_,F_,F_,F_] rfl rfl (any_of HT_.out (by kernel_rfl)) (fun _ _ _ h => h) (Or.inr ⟨by rfl, rfl⟩) ?_ ?_
           rotate_left
           ·
            exact zp_
           refine pure_ (i := 25) (N := some 86) (v := undef) (a' := ?_) #[T_,T_,T_,T_,T_,T_,T_,T_,T_,T_,T_,T_,T_,T_,T_,T_,T_,T_,T_,T_,T_,T_,T_,T_,T_,T_,F_,F_,F_] rfl rfl (any_of HT_.out (by kernel_rfl)) (fun _ _ _ h => h) (Or.inr ⟨by rfl, rfl⟩) ?_ ?_
           rotate_left
           ·
            exact zp_
           refine pure_ (i := 26) (N := some 87) (v := undef) (a' := ?_) #[T_,T_,T_,T_,T_,T_,T_,T_,T_,T_,T_,T_,T_,T_,T_,T_,T_,T_,T_,T_,T_,T_,T_,T_,T_,T_,T_,F_,F_] rfl rfl (any_of HT_.out (by kernel_rfl)) (fun _ _ _ h => h) (Or.inr ⟨by rfl, rfl⟩) ?_ ?_
           rotate_left
           ·
            exact zp_
           refine pure_ (i := 27) (N := some 88) (v := ?_) (a' := ?_) #[T_,T_,T_,T_,T_,T_,T_,T_,T_,T_,T_,T_,T_,T_,T_,T_,T_,T_,T_,T_,T_,T_,T_,T_,T_,T_,T_,T_,F_] rfl rfl (any_of HT_.out (by kernel_rfl)) (fun _ _ _ h => h) (Or.inl ⟨by rfl, ?_⟩) ?_ ?_
           rotate_left
           ·
            intro w'; go_simp; with_reducible rfl
           rotate_left
           ·
            exact zp_
           refine pure_ (i := 28) (N := some 4) (v := ?_) (a' := ?_) #[T_,T_,T_,T_,T_,T_,T_,T_,T_,T_,T_,T_,T_,T_,T_,T_,T_,T_,T_,T_,T_,T_,T_,T_,T_,T_,T_,T_,T_] rfl rfl (any_of HT_.out (by kernel_rfl)) (fun _ _ _ h => h) (Or.inl ⟨by rfl, ?_⟩) ?_ ?_
           rotate_left
           ·
            intro w'; go_simp; with_reducible rfl
           rotate_left
           ·
            exact zp_
           refine done_ (done_of HT_.out (by kernel_rfl)) ?_
           (try clear hHeld); (try clear HS0_)
           try go_wp2
           go_ret
           exact ⟨by first | rfl | (simp [errW_none, errW_some] <;> rfl) | (simp [*, errW_none, errW_some] <;> rfl), by repeat (first | (with_reducible first | exact HB.out | apply below_alloc | apply pw_below_drewN | apply below_drew1 | refine below_set ?_ GE1003.out) | exact HB.out)⟩
         ·
          rw [if_neg c54] at H
          have c54b0 : (t1033 == (Int.tmod (wrap64 (a1)) 16)) = false := beq_eq_false_iff_ne.mpr c54
          have c54b1 : (t1033 != (Int.tmod (wrap64 (a1)) 16)) = true := bne_iff_ne.mpr c54
          obtain rfl := Option.some.inj H
          try go_wp2_with (first | ((with_reducible refine gate_callee (f := 68) rfl ?_); refine goesL_ (some 39) rfl rfl Try.func68 (by kernel_rfl) rfl #[.slice (some ⟨go19, 0, none⟩) y1022.length co19] rfl za_ ?_; (with_reducible refine (exchange_Next.calls kj20 _ _ y1022 t1026 _ ?side1 ?side2 A32.out).mono ?_); (case side1 => exact zd_ (Kd.N_reads' HO_5.out).2.2); (case side2 => exact (Kd.N_reads' HO_5.out).2.1); rintro e w80 ⟨rfl, hb⟩; refine ⟨_, rfl, ?_⟩; have n0_ := Aside0.mk (Kd.N_below (zn_ HO_5) hb); have n1_ := Aside0.mk (Kd.R_below (zr_ HO_8) hb); have n2_ := Aside0.mk (Kd.V_below (zv_ HO_1004000) hb); have n3_ := Aside0.mk (Kd.V_below (zv_ HO_1004001) hb); have n4_ := zk_ BK1003 hb; have n5_ := Aside0.mk (below_step zb_ hb); clear HO_5; clear HO_8; clear HO_1004000; clear HO_1004001; clear BK1003; clear HB; have HO_5 := n0_; have HO_8 := n1_; have HO_1004000 := n2_; have HO_1004001 := n3_; have BK1003 := n4_; have HB := n5_; clear n0_ n1_ n2_ n3_ n4_ n5_; (try clear hb); (try clear hb2); (try clear hk); (try clear hi)) | ((with_reducible refine gate_callee (f := 61) rfl ?_); refine goesL_ (some 43) rfl rfl Try.func61 (by kernel_rfl) rfl #[.slice (some ⟨go19, 0, none⟩) y1022.length co19] rfl za_ ?_; (with_reducible refine (exchange_Chosen.calls kj20 _ _ y1022 t1027 _ ?side1 ?side2 A34.out).mono ?_); (case side1 => exact zd_ (Kd.N_reads' HO_5.out).2.2); (case side2 => exact (Kd.N_reads' HO_5.out).2.1); rintro e w81 ⟨rfl, hb⟩; refine ⟨_, rfl, ?_⟩; have n0_ := Aside0.mk (Kd.N_below (zn_ HO_5) hb); have n1_ := Aside0.mk (Kd.R_below (zr_ HO_8) hb); have n2_ := Aside0.mk (Kd.V_below (zv_ HO_1004000) hb); have n3_ := Aside0.mk (Kd.V_below (zv_ HO_1004001) hb); have n4_ := zk_ BK1003 hb; have n5_ := Aside0.mk (below_step zb_ hb); clear HO_5; clear HO_8; clear HO_1004000; clear HO_1004001; clear BK1003; clear HB; have HO_5 := n0_; have HO_8 := n1_; have HO_1004000 := n2_; have HO_1004001 := n3_; have BK1003 := n4_; have HB := n5_; clear n0_ n1_ n2_ n3_ n4_ n5_; (try clear hb); (try clear hb2); (try clear hk); (try clear hi)))
          have n0_ := Aside0.mk (Kd.N_drew HO_5.out)
          have n1_ := Aside0.mk (Kd.R_drew HO_8.out)
          have n2_ := Aside0.mk (Kd.V_drew HO_1004000.out)
          have n3_ := Aside0.mk (Kd.V_drew HO_1004001.out)
          have n4_ := Aside0.mk (blk_drew BK1003.out)
          have n5_ := Aside0.mk (below_drew1 HB.out)
          clear HO_5
          clear HO_8
          clear HO_1004000
          clear HO_1004001
          clear BK1003
          clear HB
          have HO_5 := n0_
          have HO_8 := n1_
          have HO_1004000 := n2_
          have HO_1004001 := n3_
          have BK1003 := n4_
          have HB := n5_
          clear n0_ n1_ n2_ n3_ n4_ n5_
          refine start_ (n := 29) (S := fun w' => True) (ds := []) #[F_,F_,F_,F_,F_,F_,F_,F_,F_,F_,F_,F_,F_,F_,F_,F_,F_,F_,F_,F_,F_,F_,F_,F_,F_,F_,F_,F_,F_] (by kernel_rfl) rfl rfl trivial (fun hHeld => ?_); refine with_tabW folkmootlaw16_ExchangeOne.tab13 folkmootlaw16_ExchangeOne.bits13 (fun HT_ HW_ => ?_)
          generalize w81.drew = w82 at HO_5 HO_8 HO_1004000 HO_1004001 BK1003 HB hHeld ⊢
          refine pure_ (i := 0) (N := some 61) (v := ?_) (a' := ?_) #[T_,F_,F_,F_,F_,F_,F_,F_,F_,F_,F_,F_,F_,F_,F_,F_,F_,F_,F_,F_,F_,F_,F_,F_,F_,F_,F_,F_,F_] rfl rfl (any_of HT_.out (by kernel_rfl)) (fun _ _ _ h => h) (Or.inl ⟨by rfl, ?_⟩) ?_ ?_
          rotate_left
          ·
           intro w'; go_simp; with_reducible rfl
          rotate_left
          ·
           exact zp_
          refine pure_ (i := 2) (N := some 63) (v := ?_) (a' := ?_) #[T_,F_,T_,F_,F_,F_,F_,F_,F_,F_,F_,F_,F_,F_,F_,F_,F_,F_,F_,F_,F_,F_,F_,F_,F_,F_,F_,F_,F_] rfl rfl (any_of HT_.out (by kernel_rfl)) (fun _ _ _ h => h) (Or.inl ⟨by rfl, ?_⟩) ?_ ?_
          rotate_left
          ·
           intro w'; go_simp; with_reducible rfl
          rotate_left
          ·
           exact zp_
          refine pure_ (i := 3) (N := some 64) (v := ?_) (a' := ?_) #[T_,F_,T_,T_,F_,F_,F_,F_,F_,F_,F_,F_,F_,F_,F_,F_,F_,F_,F_,F_,F_,F_,F_,F_,F_,F_,F_,F_,F_] rfl rfl (any_of HT_.out (by kernel_rfl)) (fun _ _ _ h => h) (Or.inl ⟨by rfl, ?_⟩) ?_ ?_
          rotate_left
          ·
           intro w'; go_simp; with_reducible rfl
          rotate_left
          ·
           exact zp_
          refine pure_ (i := 4) (N := some 65) (v := ?_) (a' := ?_) #[T_,F_,T_,T_,T_,F_,F_,F_,F_,F_,F_,F_,F_,F_,F_,F_,F_,F_,F_,F_,F_,F_,F_,F_,F_,F_,F_,F_,F_] rfl rfl (any_of HT_.out (by kernel_rfl)) (fun _ _ _ h => h) (Or.inl ⟨by rfl, ?_⟩) ?_ ?_
          rotate_left
          ·
           intro w'; go_simp; with_reducible rfl
          rotate_left
          ·
           exact zp_
          refine one_ (i := 1) (N := some 62) #[T_,T_,T_,T_,T_,F_,F_,F_,F_,F_,F_,F_,F_,F_,F_,F_,F_,F_,F_,F_,F_,F_,F_,F_,F_,F_,F_,F_,F_] rfl rfl (one_of HT_.out (by kernel_rfl)) (by decide) (fun K hK => ?_)
          refine goes_ Try.func61 (by kernel_rfl) rfl #[.slice (some ⟨go19, 0, none⟩) y1022.length co19] (by rfl) rfl rfl za_ ?_
          with_reducible refine (exchange_Chosen.calls kj20 _ _ y1022 t1033 _ ?side1 ?side2 A53.out).mono ?_
          (case side1 => exact zd_ (Kd.N_reads' HO_5.out).2.2)
          (case side2 => exact (Kd.N_reads' HO_5.out).2.1)
          rintro e w83 ⟨rfl, hb⟩
          refine ⟨_, rfl, ?_⟩
          have n0_ := Aside0.mk (Kd.N_below (zn_ HO_5) hb)
          have n1_ := Aside0.mk (Kd.R_below (zr_ HO_8) hb)
          have n2_ := Aside0.mk (Kd.V_below (zv_ HO_1004000) hb)
          have n3_ := Aside0.mk (Kd.V_below (zv_ HO_1004001) hb)
          have n4_ := zk_ BK1003 hb
          have n5_ := Aside0.mk (below_step zb_ hb)
          clear HO_5
          clear HO_8
          clear HO_1004000
          clear HO_1004001
          clear BK1003
          clear HB
          have HO_5 := n0_
          have HO_8 := n1_
          have HO_1004000 := n2_
          have HO_1004001 := n3_
          have BK1003 := n4_
          have HB := n5_
          clear n0_ n1_ n2_ n3_ n4_ n5_
          (try clear hb)
          (try clear hb2)
          (try clear hk)
          (try clear hi)
          refine hK.out _ _ trivial (fun hHeld => ?_)
          clear hK K
          refine norm_ (a' := ?_) ?_ ?_
          rotate_left
          ·
           show Act.put _ (some 62) _ = _
           simp only [Act.put, List.setIfInBounds_toArray, List.set_cons_zero, List.set_cons_succ, i64_w, i32_w]
           rfl
          refine pure_ (i := 5) (N := some 66) (v := ?_) (a' := ?_) #[T_,T_,T_,T_,T_,T_,F_,F_,F_,F_,F_,F_,F_,F_,F_,F_,F_,F_,F_,F_,F_,F_,F_,F_,F_,F_,F_,F_,F_] rfl rfl (any_of HT_.out (by kernel_rfl)) (fun _ _ _ h => h) (Or.inl ⟨by rfl, ?_⟩) ?_ ?_
          rotate_left
          ·
           intro w'; go_simp; with_reducible rfl
          rotate_left
          ·
           exact zp_
          refine pure_ (i := 6) (N := some 67) (v := ?_) (a' := ?_) #[T_,T_,T_,T_,T_,T_,T_,F_,F_,F_,F_,F_,F_,F_,F_,F_,F_,F_,F_,F_,F_,F_,F_,F_,F_,F_,F_,F_,F_] rfl rfl (any_of HT_.out (by kernel_rfl)) (fun _ _ _ h => h) (Or.inl ⟨by rfl, ?_⟩) ?_ ?_
          rotate_left
          ·
           intro w'; go_simp; with_reducible rfl
          rotate_left
          ·
           exact zp_
          refine pure_ (i := 7) (N := some 68) (v := undef) (a' := ?_) #[T_,T_,T_,T_,T_,T_,T_,T_,F_,F_,F_,F_,F_,F_,F_,F_,F_,F_,F_,F_,F_,F_,F_,F_,F_,F_,F_,F_,F_] rfl rfl (any_of HT_.out (by kernel_rfl)) (fun _ _ _ h => h) (Or.inr ⟨by rfl, rfl⟩) ?_ ?_
          rotate_left
          ·
           exact zp_
          refine pure_ (i := 8) (N := some 69) (v := undef) (a' := ?_) #[T_,T_,T_,T_,T_,T_,T_,T_,T_,F_,F_,F_,F_,F_,F_,F_,F_,F_,F_,F_,F_,F_,F_,F_,F_,F_,F_,F_,F_] rfl rfl (any_of HT_.out (by kernel_rfl)) (fun _ _ _ h => h) (Or.inr ⟨by rfl, rfl⟩) ?_ ?_
          rotate_left
          ·
           exact zp_
          refine pure_ (i := 9) (N := some 70) (v := undef) (a' := ?_) #[T_,T_,T_,T_,T_,T_,T_,T_,T_,T_,F_,F_,F_,F_,F_,F_,F_,F_,F_,F_,F_,F_,F_,F_,F_,F_,F_,F_,F_] rfl rfl (any_of HT_.out (by kernel_rfl)) (fun _ _ _ h => h) (Or.inr ⟨by rfl, rfl⟩) ?_ ?_
          rotate_left
          ·
           exact zp_
          refine pure_ (i := 10) (N := some 71) (v := undef) (a' := ?_) #[T_,T_,T_,T_,T_,T_,T_,T_,T_,T_,T_,F_,F_,F_,F_,F_,F_,F_,F_,F_,F_,F_,F_,F_,F_,F_,F_,F_,F_] rfl rfl (any_of HT_.out (by kernel_rfl)) (fun _ _ _ h => h) (Or.inr ⟨by rfl, rfl⟩) ?_ ?_
          rotate_left
          ·
           exact zp_
          refine pure_ (i := 11) (N := some 72) (v := undef) (a' := ?_) #[T_,T_,T_,T_,T_,T_,T_,T_,T_,T_,T_,T_,F_,F_,F_,F_,F_,F_,F_,F_,F_,F_,F_,F_,F_,F_,F_,F_,F_] rfl rfl (any_of HT_.out (by kernel_rfl)) (fun _ _ _ h => h) (Or.inr ⟨by rfl, rfl⟩) ?_ ?_
          rotate_left
          ·
           exact zp_
          refine pure_ (i := 12) (N := some 73) (v := ?_) (a' := ?_) #[T_,T_,T_,T_,T_,T_,T_,T_,T_,T_,T_,T_,T_,F_,F_,F_,F_,F_,F_,F_,F_,F_,F_,F_,F_,F_,F_,F_,F_] rfl rfl (any_of HT_.out (by kernel_rfl)) (fun _ _ _ h => h) (Or.inl ⟨by rfl, ?_⟩) ?_ ?_
          rotate_left
          ·
           intro w'; go_simp; with_reducible rfl
          rotate_left
          ·
           exact zp_
          refine pure_ (i := 13) (N := some 74) (v := ?_) (a' := ?_) #[T_,T_,T_,T_,T_,T_,T_,T_,T_,T_,T_,T_,T_,T_,F_,F_,F_,F_,F_,F_,F_,F_,F_,F_,F_,F_,F_,F_,F_] rfl rfl (any_of HT_.out (by kernel_rfl)) (fun _ _ _ h => h) (Or.inl ⟨by rfl, ?_⟩) ?_ ?_
          rotate_left
          ·
           intro w'; go_simp; with_reducible rfl
          rotate_left
          ·
           exact zp_
          refine pure_ (i := 14) (N := some 75) (v := undef) (a' := ?_) #[T_,T_,T_,T_,T_,T_,T_,T_,T_,T_,T_,T_,T_,T_,T_,F_,F_,F_,F_,F_,F_,F_,F_,F_,F_,F_,F_,F_,F_] rfl rfl (any_of HT_.out (by kernel_rfl)) (fun _ _ _ h => h) (Or.inr ⟨by rfl, rfl⟩) ?_ ?_
          rotate_left
          ·
           exact zp_
          refine pure_ (i := 15) (N := some 76) (v := undef) (a' := ?_) #[T_,T_,T_,T_,T_,T_,T_,T_,T_,T_,T_,T_,T_,T_,T_,T_,F_,F_,F_,F_,F_,F_,F_,F_,F_,F_,F_,F_,F_] rfl rfl (any_of HT_.out (by kernel_rfl)) (fun _ _ _ h => h) (Or.inr ⟨by rfl, rfl⟩) ?_ ?_
          rotate_left
          ·
           exact zp_
          refine pure_ (i := 16) (N := some 77) (v := undef) (a' := ?_) #[T_,T_,T_,T_,T_,T_,T_,T_,T_,T_,T_,T_,T_,T_,T_,T_,T_,F_,F_,F_,F_,F_,F_,F_,F_,F_,F_,F_,F_] rfl rfl (any_of HT_.out (by kernel_rfl)) (fun _ _ _ h => h) (Or.inr ⟨by rfl, rfl⟩) ?_ ?_
          rotate_left
          ·
           exact zp_
          refine pure_ (i := 17) (N := some 78) (v := undef) (a' := ?_) #[T_,T_,T_,T_,T_,T_,T_,T_,T_,T_,T_,T_,T_,T_,T_,T_,T_,T_,F_,F_,F_,F_,F_,F_,F_,F_,F_,F_,F_] rfl rfl (any_of HT_.out (by kernel_rfl)) (fun _ _ _ h => h) (Or.inr ⟨by rfl, rfl⟩) ?_ ?_
          rotate_left
          ·
           exact zp_
          refine pure_ (i := 18) (N := some 79) (v := undef) (a' := ?_) #[T_,T_,T_,T_,T_,T_,T_,T_,T_,T_,T_,T_,T_,T_,T_,T_,T_,T_,T_,F_,F_,F_,F_,F_,F_,F_,F_,F_,F_] rfl rfl (any_of HT_.out (by kernel_rfl)) (fun _ _ _ h => h) (Or.inr ⟨by rfl, rfl⟩) ?_ ?_
          rotate_left
          ·
           exact zp_
          refine pure_ (i := 19) (N := some 80) (v := ?_) (a' := ?_) #[T_,T_,T_,T_,T_,T_,T_,T_,T_,T_,T_,T_,T_,T_,T_,T_,T_,T_,T_,T_,F_,F_,F_,F_,F_,F_,F_,F_,F_] rfl rfl (any_of HT_.out (by kernel_rfl)) (fun _ _ _ h => h) (Or.inl ⟨by rfl, ?_⟩) ?_ ?_
          rotate_left
          ·
           intro w'; go_simp; with_reducible rfl
          rotate_left
          ·
           exact zp_
          refine pure_ (i := 20) (N := some 81) (v := ?_) (a' := ?_) #[T_,T_,T_,T_,T_,T_,T_,T_,T_,T_,T_,T_,T_,T_,T_,T_,T_,T_,T_,T_,T_,F_,F_,F_,F_,F_,F_,F_,F_] rfl rfl (any_of HT_.out (by kernel_rfl)) (fun _ _ _ h => h) (Or.inl ⟨by rfl, ?_⟩) ?_ ?_
          rotate_left
          ·
           intro w'; go_simp; with_reducible rfl
          rotate_left
          ·
           exact zp_
          refine pure_ (i := 21) (N := some 82) (v := undef) (a' := ?_) #[T_,T_,T_,T_,T_,T_,T_,T_,T_,T_,T_,T_,T_,T_,T_,T_,T_,T_,T_,T_,T_,T_,F_,F_,F_,F_,F_,F_,F_] rfl rfl (any_of HT_.out (by kernel_rfl)) (fun _ _ _ h => h) (Or.inr ⟨by rfl, rfl⟩) ?_ ?_
          rotate_left
          ·
           exact zp_
          refine pure_ (i := 22) (N := some 83) (v := undef) (a' := ?_) #[T_,T_,T_,T_,T_,T_,T_,T_,T_,T_,T_,T_,T_,T_,T_,T_,T_,T_,T_,T_,T_,T_,T_,F_,F_,F_,F_,F_,F_] rfl rfl (any_of HT_.out (by kernel_rfl)) (fun _ _ _ h => h) (Or.inr ⟨by rfl, rfl⟩) ?_ ?_
          rotate_left
          ·
           exact zp_
          refine pure_ (i := 23) (N := some 84) (v := undef) (a' := ?_) #[T_,T_,T_,T_,T_,T_,T_,T_,T_,T_,T_,T_,T_,T_,T_,T_,T_,T_,T_,T_,T_,T_,T_,T_,F_,F_,F_,F_,F_] rfl rfl (any_of HT_.out (by kernel_rfl)) (fun _ _ _ h => h) (Or.inr ⟨by rfl, rfl⟩) ?_ ?_
          rotate_left
          ·
           exact zp_
          refine pure_ (i := 24) (N := some 85) (v := undef) (a' := ?_) #[T_,T_,T_,T_,T_,T_,T_,T_,T_,T_,T_,T_,T_,T_,T_,T_,T_,T_,T_,T_,T_,T_,T_,T_,T_,F_,F_,F_,F_] rfl rfl (any_of HT_.out (by kernel_rfl)) (fun _ _ _ h => h) (Or.inr ⟨by rfl, rfl⟩) ?_ ?_
          rotate_left
          ·
           exact zp_
          refine pure_ (i := 25) (N := some 86) (v := undef) (a' := ?_) #[T_,T_,T_,T_,T_,T_,T_,T_,T_,T_,T_,T_,T_,T_,T_,T_,T_,T_,T_,T_,T_,T_,T_,T_,T_,T_,F_,F_,F_] rfl rfl (any_of HT_.out (by kernel_rfl)) (fun _ _ _ h => h) (Or.inr ⟨by rfl, rfl⟩) ?_ ?_
          rotate_left
          ·
           exact zp_
          refine pure_ (i := 26) (N := some 87) (v := undef) (a' := ?_) #[T_,T_,T_,T_,T_,T_,T_,T_,T_,T_,T_,T_,T_,T_,T_,T_,T_,T_,T_,T_,T_,T_,T_,T_,T_,T_,T_,F_,F_] rfl rfl (any_of HT_.out (by kernel_rfl)) (fun _ _ _ h => h) (Or.inr ⟨by rfl, rfl⟩) ?_ ?_
          rotate_left
          ·
           exact zp_
          refine pure_ (i := 27) (N := some 88) (v := ?_) (a' := ?_) #[T_,T_,T_,T_,T_,T_,T_,T_,T_,T_,T_,T_,T_,T_,T_,T_,T_,T_,T_,T_,T_,T_,T_,T_,T_,T_,T_,T_,F_] rfl rfl (any_of HT_.out (by kernel_rfl)) (fun _ _ _ h => h) (Or.inl ⟨by rfl, ?_⟩) ?_ ?_
          rotate_left
          ·
           intro w'; go_simp; with_reducible rfl
          rotate_left
          ·
           exact zp_
          refine pure_ (i := 28) (N := some 4) (v := ?_) (a' := ?_) #[T_,T_,T_,T_,T_,T_,T_,T_,T_,T_,T_,T_,T_,T_,T_,T_,T_,T_,T_,T_,T_,T_,T_,T_,T_,T_,T_,T_,T_] rfl rfl (any_of HT_.out (by kernel_rfl)) (fun _ _ _ h => h) (Or.inl ⟨by rfl, ?_⟩) ?_ ?_
          rotate_left
          ·
           intro w'; go_simp; with_reducible rfl
          rotate_left
          ·
           exact zp_
          refine done_ (done_of HT_.out (by kernel_rfl)) ?_
          (try clear hHeld); (try clear HS0_)
          try go_wp2
          go_ret
          exact ⟨by first | rfl | (simp [errW_none, errW_some] <;> rfl) | (simp [*, errW_none, errW_some] <;> rfl), by repeat (first | (with_reducible first | exact HB.out | apply below_alloc | apply pw_below_drewN | apply below_drew1 | refine below_set ?_ GE1003.out) | exact HB.out)⟩
       ·
        rw [if_neg c33] at H
        have c33b0 : (t1026 == x9_20) = false := beq_eq_false_iff_ne.mpr c33
        have c33b1 : (t1026 != x9_20) = true := bne_iff_ne.mpr c33
        obtain rfl := Option.some.inj H
        go_wp2_with (first | ((with_reducible refine gate_callee (f := 68) rfl ?_); refine goesL_ (some 39) rfl rfl Try.func68 (by kernel_rfl) rfl #[.slice (some ⟨go19, 0, none⟩) y1022.length co19] rfl za_ ?_; (with_reducible refine (exchange_Next.calls kj20 _ _ y1022 t1026 _ ?side1 ?side2 A32.out).mono ?_); (case side1 => exact zd_ (Kd.N_reads' HO_5.out).2.2); (case side2 => exact (Kd.N_reads' HO_5.out).2.1); rintro e w84 ⟨rfl, hb⟩; refine ⟨_, rfl, ?_⟩; have n0_ := Aside0.mk (Kd.N_below (zn_ HO_5) hb); have n1_ := Aside0.mk (Kd.R_below (zr_ HO_8) hb); have n2_ := Aside0.mk (Kd.V_below (zv_ HO_1004000) hb); have n3_ := Aside0.mk (Kd.V_below (zv_ HO_1004001) hb); have n4_ := zk_ BK1003 hb; have n5_ := Aside0.mk (below_step zb_ hb); clear HO_5; clear HO_8; clear HO_1004000; clear HO_1004001; clear BK1003; clear HB; have HO_5 := n0_; have HO_8 := n1_; have HO_1004000 := n2_; have HO_1004001 := n3_; have BK1003 := n4_; have HB := n5_; clear n0_ n1_ n2_ n3_ n4_ n5_; (try clear hb); (try clear hb2); (try clear hk); (try clear hi)))
        go_ret
        exact ⟨by first | rfl | (simp [errW_none, errW_some] <;> rfl) | (simp [*, errW_none, errW_some] <;> rfl), by repeat (first | (with_reducible first | exact HB.out | apply below_alloc | apply pw_below_drewN | apply below_drew1 | refine below_set ?_ GE1003.out) | exact HB.out)⟩
    ·
     rw [if_neg c18] at H
     exact absurd H (by simp)
end Go.Proofs.Ytioooiflpabngaa.PAll
end
section
namespace Go.Proofs.Ytioooiflpabngaa.PAll
open Go.RowKit Go.Proofs.YtioooiflpabngaaW.PrintWords Go.Proofs.YtioooiflpabngaaW.PrintMore
set_option linter.unusedVariables false
set_option linter.unusedSimpArgs false
theorem one_last (s : S53) (n : Nat) (hn : n ≤ 255) (hF : Fine [⟨((n % 16 : Nat) : Int), sumM s⟩]) : Ev (fun k => folkmootlaw16_ExchangeOne.j1 k (n : Int) [⟨((n % 16 : Nat) : Int), sumM s⟩] (fullT [⟨((n % 16 : Nat) : Int), sumM s⟩]) (mx 1 s.f2) s.f0 s.f1 s.f2 s.f3.f0 s.f3.f1) true := by
  have e1 : Int.tmod (wrap64 (n : Int)) 16 = ((n % 16 : Nat) : Int) := by
    have : wrap64 (n : Int) = (n : Int) := by unfold wrap64; omega
    rw [this, Int.tmod_eq_emod_of_nonneg (by omega)]
    omega
  have hch := chosen_ev [(⟨((n % 16 : Nat) : Int), sumM s⟩ : S87)] hF.lt
  have hhi := high_ev [(⟨((n % 16 : Nat) : Int), sumM s⟩ : S87)] hF.lt
  have hsh := hF.short
  have hle : (shortT [(⟨((n % 16 : Nat) : Int), sumM s⟩ : S87)]).length ≤ (fullT [(⟨((n % 16 : Nat) : Int), sumM s⟩ : S87)]).length := by simp [fullT, behindL]
  have hord := hF.ord _ (List.mem_singleton.2 rfl)
  have hv : hiV ([(⟨((n % 16 : Nat) : Int), sumM s⟩ : S87)].map fun t => t.f1.f3) = hiStep ⟨0, 0⟩ s.f3 := rfl
  have hc : chosenT [(⟨((n % 16 : Nat) : Int), sumM s⟩ : S87)] = if eqV s.f3 (hiStep ⟨0, 0⟩ s.f3) = true then ((n % 16 : Nat) : Int) else -1 := by
    show chStep (hiStep ⟨0, 0⟩ s.f3) (-1) _ = _
    unfold chStep mx
    simp only [sumM]
    split
    · rw [if_pos (by omega)]
    · rfl
  have hs2 : shortT [(⟨((n % 16 : Nat) : Int), sumM s⟩ : S87)] = if eqV s.f3 (hiStep ⟨0, 0⟩ s.f3) = true then s.f1 else [] := by
    unfold shortT
    rw [hc, List.find?_cons]
    by_cases h : eqV s.f3 (hiStep ⟨0, 0⟩ s.f3) = true
    · simp only [h, if_true, decide_true]
      rfl
    · rw [Bool.not_eq_true] at h
      have h2 : ¬ ((n % 16 : Nat) : Int) = -1 := by omega
      simp only [h, Bool.false_eq_true, if_false, h2, decide_false, List.find?_nil]
  refine Ev.step (fun k => by rw [folkmootlaw16_ExchangeOne.j1]) (Ev.bind (next_ev [(⟨((n % 16 : Nat) : Int), sumM s⟩ : S87)] hF.lt) ?_)
  simp only [show nextT ([(⟨((n % 16 : Nat) : Int), sumM s⟩ : S87)].map fun t => t.f1.f2) = mx 1 s.f2 from rfl, if_true]
  refine Ev.bind hch ?_
  rw [hc] at hch ⊢
  rw [hv] at hhi
  rw [hs2] at hsh hle
  by_cases h : eqV s.f3 (hiStep ⟨0, 0⟩ s.f3) = true
  · have hx := eqV_iff.1 h
    have h2 : ¬ ((n % 16 : Nat) : Int) = -1 := by omega
    simp only [h, if_true] at hch hsh hle ⊢
    simp only [h2, if_false]
    refine Ev.bind hch ?_
    simp only [e1, if_true]
    refine Ev.bind hhi ?_
    rw [← hx]
    simp only [beq_self_eq_true, Bool.and_self, if_true]
    refine Ev.bind hsh (Ev.bind (sameL_ev s.f1 (by simp only [sumM] at hord; omega)) ?_)
    simp only [if_true]
    exact Ev.const fun _ => by rw [decide_eq_true]; omega
  · rw [Bool.not_eq_true] at h
    have h0 : hiStep ⟨0, 0⟩ s.f3 = ⟨0, 0⟩ := by
      unfold hiStep at h ⊢
      split
      · rename_i hg
        rw [if_pos hg, eqV_iff.2 rfl] at h
        cases h
      · rfl
    rw [h0] at h hhi
    simp only [h, h0, Bool.false_eq_true, if_false] at hsh ⊢
    simp only [if_true]
    refine Ev.bind hhi ?_
    have h3 : (!(s.f3.f0 == 0) || (!(s.f3.f1 == 0))) = true := by
      unfold eqV at h
      cases ha : s.f3.f0 == 0 <;> cases hb : s.f3.f1 == 0 <;> simp_all
    simp only [beq_self_eq_true, Bool.and_self, if_true, h3]
    exact Ev.bind hsh (Ev.const fun _ => rfl)
theorem pure_ExchangeOne (s : S53) (a1 : Int) (h0 : rightS s) (h1 : (Lit.int .u8 a1).wf = true) : ∃ k, folkmootlaw16_ExchangeOne.f k s.f0 s.f1 s.f2 s.f3.f0 s.f3.f1 a1 = some true := by
  refine Ev.get ?_
  unfold folkmootlaw16_ExchangeOne.f
  have hr : ∀ x ∈ [s], rightS x := fun x hx => by rw [List.mem_singleton.1 hx]; exact h0
  refine exch_start (j0 := fun k b => folkmootlaw16_ExchangeOne.j0 k a1 b s.f0 s.f1 s.f2 s.f3.f0 s.f3.f1) [s] (by simp) hr (Ev.step (fun k => by rw [folkmootlaw16_ExchangeOne.j0, if_pos rfl]) (Ev.bind awake16_ev (Ev.const fun _ => rfl))) fun hn ht => ?_
  obtain ⟨n, rfl, hb⟩ := u8_nat h1
  have hf := told_fine (a := 0) hr hn ht
  have ht0 : toldT [s] 0 = [⟨0, sumM s⟩] := rfl
  have hF : Fine [(⟨((n % 16 : Nat) : Int), sumM s⟩ : S87)] := by
    rw [ht0] at hf
    have g := fun t (h : t ∈ [(⟨((n % 16 : Nat) : Int), sumM s⟩ : S87)]) => List.mem_singleton.1 h
    refine ⟨by simp, fun t h => ?_, fun t h u hu _ => ?_, fun t h => ?_, fun t h => ?_, fun t h => ?_⟩
    · rw [g t h]; exact Int.natCast_nonneg _
    · rw [g t h, g u hu]
    · rw [g t h]; exact hf.con (⟨0, sumM s⟩ : S87) (List.mem_singleton.2 rfl)
    · rw [g t h]; exact hf.ord (⟨0, sumM s⟩ : S87) (List.mem_singleton.2 rfl)
    · rw [g t h]; exact hf.bytes (⟨0, sumM s⟩ : S87) (List.mem_singleton.2 rfl)
  have e1 : Int.tmod (wrap64 (n : Int)) 16 = ((n % 16 : Nat) : Int) := by
    have : wrap64 (n : Int) = (n : Int) := by unfold wrap64; omega
    rw [this, Int.tmod_eq_emod_of_nonneg (by omega)]
    omega
  have htold := told_ev [s] 0 (by omega) hn (con_few ht)
  rw [ht0] at htold
  refine Ev.step (fun k => by rw [folkmootlaw16_ExchangeOne.j0, if_neg (by simp)]) (Ev.bind (show Ev (fun k => folkmootlaw16_told.f k [s] 0) _ from htold) ?_)
  have c1 : (0 : Int) < (([(⟨0, sumM s⟩ : S87)].length : Nat) : Int) := by simp
  simp only [c1, if_true, Option.bind_some, e1]
  refine Ev.bind hF.full ?_
  by_cases hx : s.f2 < 1
  · simp only [hx, if_true]
    have := one_last s n hb hF
    rwa [show mx 1 s.f2 = 1 by unfold mx; rw [if_neg (by omega)]] at this
  · simp only [hx, if_false]
    have := one_last s n hb hF
    rwa [show mx 1 s.f2 = s.f2 by unfold mx; split <;> omega] at this
end Go.Proofs.Ytioooiflpabngaa.PAll
end
section
namespace Go.Proofs.Ytioooiflpabngaa
theorem head_signs : Try.prog.initOrder.toList = [104, 97, 114, 110, 101, 115, 115, 32, 98, 100, 54, 52, 55, 100, 48, 52, 56, 99, 56, 57, 55, 50, 49, 57, 98, 52, 100, 49, 52, 51, 55, 98, 57, 48, 102, 102, 48, 56, 49, 50, 49, 53, 100, 52, 49, 53, 51, 54, 99, 100, 49, 54, 52, 54, 49, 100, 52, 97, 49, 97, 54, 54, 102, 52, 101, 56, 53, 55, 97, 101, 50, 55, 32, 99, 117, 116, 32, 97, 116, 32, 102, 111, 108, 107, 109, 111, 111, 116, 47, 102, 111, 108, 107, 109, 111, 111, 116, 108, 97, 119, 49, 53, 46, 67, 111, 110, 116, 101, 110, 116, 70, 105, 110, 100, 115, 32, 102, 111, 108, 107, 109, 111, 111, 116, 47, 102, 111, 108, 107, 109, 111, 111, 116, 108, 97, 119, 49, 53, 46, 67, 111, 110, 116, 101, 110, 116, 75, 101, 101, 112, 115, 32, 102, 111, 108, 107, 109, 111, 111, 116, 47, 102, 111, 108, 107, 109, 111, 111, 116, 108, 97, 119, 49, 53, 46, 67, 111, 110, 116, 101, 110, 116, 77, 101, 114, 103, 101, 115, 32, 102, 111, 108, 107, 109, 111, 111, 116, 47, 102, 111, 108, 107, 109, 111, 111, 116, 108, 97, 119, 49, 53, 46, 67, 111, 110, 116, 101, 110, 116, 79, 114, 100, 101, 114, 32, 102, 111, 108, 107, 109, 111, 111, 116, 47, 102, 111, 108, 107, 109, 111, 111, 116, 108, 97, 119, 48, 53, 46, 76, 97, 98, 101, 108, 75, 101, 101, 112, 115, 32, 102, 111, 108, 107, 109, 111, 111, 116, 47, 102, 111, 108, 107, 109, 111, 111, 116, 108, 97, 119, 48, 53, 46, 76, 97, 98, 101, 108, 80, 97, 114, 116, 115, 32, 102, 111, 108, 107, 109, 111, 111, 116, 47, 102, 111, 108, 107, 109, 111, 111, 116, 108, 97, 119, 48, 53, 46, 76, 97, 98, 101, 108, 83, 111, 114, 116, 115, 32, 102, 111, 108, 107, 109, 111, 111, 116, 47, 102, 111, 108, 107, 109, 111, 111, 116, 108, 97, 119, 48, 53, 46, 76, 97, 98, 101, 108, 66, 101, 104, 105, 110, 100, 32, 102, 111, 108, 107, 109, 111, 111, 116, 47, 102, 111, 108, 107, 109, 111, 111, 116, 108, 97, 119, 48, 53, 46, 76, 97, 98, 101, 108, 79, 114, 100, 101, 114, 32, 102, 111, 108, 107, 109, 111, 111, 116, 47, 102, 111, 108, 107, 109, 111, 111, 116, 108, 97, 119, 49, 53, 46, 67, 111, 110, 116, 101, 110, 116, 65, 112, 97, 114, 116, 32, 102, 111, 108, 107, 109, 111, 111, 116, 47, 102, 111, 108, 107, 109, 111, 111, 116, 108, 97, 119, 49, 53, 46, 67, 111, 110, 116, 101, 110, 116, 79, 110, 101, 32, 102, 111, 108, 107, 109, 111, 111, 116, 47, 102, 111, 108, 107, 109, 111, 111, 116, 108, 97, 119, 49, 53, 46, 67, 111, 110, 116, 101, 110, 116, 82, 101, 97, 100, 115, 32, 102, 111, 108, 107, 109, 111, 111, 116, 47, 102, 111, 108, 107, 109, 111, 111, 116, 108, 97, 119, 49, 53, 46, 67, 111, 110, 116, 101, 110, 116, 65, 108, 108, 32, 102, 111, 108, 107, 109, 111, 111, 116, 47, 102, 111, 108, 107, 109, 111, 111, 116, 108, 97, 119, 49, 54, 46, 69, 120, 99, 104, 97, 110, 103, 101, 80, 108, 97, 121, 115, 32, 102, 111, 108, 107, 109, 111, 111, 116, 47, 102, 111, 108, 107, 109, 111, 111, 116, 108, 97, 119, 49, 54, 46, 69, 120, 99, 104, 97, 110, 103, 101, 84, 117, 114, 110, 101, 100, 32, 102, 111, 108, 107, 109, 111, 111, 116, 47, 102, 111, 108, 107, 109, 111, 111, 116, 108, 97, 119, 49, 54, 46, 69, 120, 99, 104, 97, 110, 103, 101, 70, 117, 108, 108, 32, 102, 111, 108, 107, 109, 111, 111, 116, 47, 102, 111, 108, 107, 109, 111, 111, 116, 108, 97, 119, 49, 54, 46, 69, 120, 99, 104, 97, 110, 103, 101, 75, 101, 101, 112, 115, 32, 102, 111, 108, 107, 109, 111, 111, 116, 47, 102, 111, 108, 107, 109, 111, 111, 116, 108, 97, 119, 49, 54, 46, 69, 120, 99, 104, 97, 110, 103, 101, 79, 110, 101, 32, 102, 111, 108, 107, 109, 111, 111, 116, 47, 102, 111, 108, 107, 109, 111, 111, 116, 108, 97, 119, 49, 54, 46, 69, 120, 99, 104, 97, 110, 103, 101, 77, 111, 114, 101].map Char.ofNat := by
  have h : Try.prog.initOrder = String.ofList ([104, 97, 114, 110, 101, 115, 115, 32, 98, 100, 54, 52, 55, 100, 48, 52, 56, 99, 56, 57, 55, 50, 49, 57, 98, 52, 100, 49, 52, 51, 55, 98, 57, 48, 102, 102, 48, 56, 49, 50, 49, 53, 100, 52, 49, 53, 51, 54, 99, 100, 49, 54, 52, 54, 49, 100, 52, 97, 49, 97, 54, 54, 102, 52, 101, 56, 53, 55, 97, 101, 50, 55, 32, 99, 117, 116, 32, 97, 116, 32, 102, 111, 108, 107, 109, 111, 111, 116, 47, 102, 111, 108, 107, 109, 111, 111, 116, 108, 97, 119, 49, 53, 46, 67, 111, 110, 116, 101, 110, 116, 70, 105, 110, 100, 115, 32, 102, 111, 108, 107, 109, 111, 111, 116, 47, 102, 111, 108, 107, 109, 111, 111, 116, 108, 97, 119, 49, 53, 46, 67, 111, 110, 116, 101, 110, 116, 75, 101, 101, 112, 115, 32, 102, 111, 108, 107, 109, 111, 111, 116, 47, 102, 111, 108, 107, 109, 111, 111, 116, 108, 97, 119, 49, 53, 46, 67, 111, 110, 116, 101, 110, 116, 77, 101, 114, 103, 101, 115, 32, 102, 111, 108, 107, 109, 111, 111, 116, 47, 102, 111, 108, 107, 109, 111, 111, 116, 108, 97, 119, 49, 53, 46, 67, 111, 110, 116, 101, 110, 116, 79, 114, 100, 101, 114, 32, 102, 111, 108, 107, 109, 111, 111, 116, 47, 102, 111, 108, 107, 109, 111, 111, 116, 108, 97, 119, 48, 53, 46, 76, 97, 98, 101, 108, 75, 101, 101, 112, 115, 32, 102, 111, 108, 107, 109, 111, 111, 116, 47, 102, 111, 108, 107, 109, 111, 111, 116, 108, 97, 119, 48, 53, 46, 76, 97, 98, 101, 108, 80, 97, 114, 116, 115, 32, 102, 111, 108, 107, 109, 111, 111, 116, 47, 102, 111, 108, 107, 109, 111, 111, 116, 108, 97, 119, 48, 53, 46, 76, 97, 98, 101, 108, 83, 111, 114, 116, 115, 32, 102, 111, 108, 107, 109, 111, 111, 116, 47, 102, 111, 108, 107, 109, 111, 111, 116, 108, 97, 119, 48, 53, 46, 76, 97, 98, 101, 108, 66, 101, 104, 105, 110, 100, 32, 102, 111, 108, 107, 109, 111, 111, 116, 47, 102, 111, 108, 107, 109, 111, 111, 116, 108, 97, 119, 48, 53, 46, 76, 97, 98, 101, 108, 79, 114, 100, 101, 114, 32, 102, 111, 108, 107, 109, 111, 111, 116, 47, 102, 111, 108, 107, 109, 111, 111, 116, 108, 97, 119, 49, 53, 46, 67, 111, 110, 116, 101, 110, 116, 65, 112, 97, 114, 116, 32, 102, 111, 108, 107, 109, 111, 111, 116, 47, 102, 111, 108, 107, 109, 111, 111, 116, 108, 97, 119, 49, 53, 46, 67, 111, 110, 116, 101, 110, 116, 79, 110, 101, 32, 102, 111, 108, 107, 109, 111, 111, 116, 47, 102, 111, 108, 107, 109, 111, 111, 116, 108, 97, 119, 49, 53, 46, 67, 111, 110, 116, 101, 110, 116, 82, 101, 97, 100, 115, 32, 102, 111, 108, 107, 109, 111, 111, 116, 47, 102, 111, 108, 107, 109, 111, 111, 116, 108, 97, 119, 49, 53, 46, 67, 111, 110, 116, 101, 110, 116, 65, 108, 108, 32, 102, 111, 108, 107, 109, 111, 111, 116, 47, 102, 111, 108, 107, 109, 111, 111, 116, 108, 97, 119, 49, 54, 46, 69, 120, 99, 104, 97, 110, 103, 101, 80, 108, 97, 121, 115, 32, 102, 111, 108, 107, 109, 111, 111, 116, 47, 102, 111, 108, 107, 109, 111, 111, 116, 108, 97, 119, 49, 54, 46, 69, 120, 99, 104, 97, 110, 103, 101, 84, 117, 114, 110, 101, 100, 32, 102, 111, 108, 107, 109, 111, 111, 116, 47, 102, 111, 108, 107, 109, 111, 111, 116, 108, 97, 119, 49, 54, 46, 69, 120, 99, 104, 97, 110, 103, 101, 70, 117, 108, 108, 32, 102, 111, 108, 107, 109, 111, 111, 116, 47, 102, 111, 108, 107, 109, 111, 111, 116, 108, 97, 119, 49, 54, 46, 69, 120, 99, 104, 97, 110, 103, 101, 75, 101, 101, 112, 115, 32, 102, 111, 108, 107, 109, 111, 111, 116, 47, 102, 111, 108, 107, 109, 111, 111, 116, 108, 97, 119, 49, 54, 46, 69, 120, 99, 104, 97, 110, 103, 101, 79, 110, 101, 32, 102, 111, 108, 107, 109, 111, 111, 116, 47, 102, 111, 108, 107, 109, 111, 111, 116, 108, 97, 119, 49, 54, 46, 69, 120, 99, 104, 97, 110, 103, 101, 77, 111, 114, 101].map Char.ofNat) := by kernel_rfl
  rw [h, String.toList_ofList]
theorem head_words : wordsSigns ([104, 97, 114, 110, 101, 115, 115, 32, 98, 100, 54, 52, 55, 100, 48, 52, 56, 99, 56, 57, 55, 50, 49, 57, 98, 52, 100, 49, 52, 51, 55, 98, 57, 48, 102, 102, 48, 56, 49, 50, 49, 53, 100, 52, 49, 53, 51, 54, 99, 100, 49, 54, 52, 54, 49, 100, 52, 97, 49, 97, 54, 54, 102, 52, 101, 56, 53, 55, 97, 101, 50, 55, 32, 99, 117, 116, 32, 97, 116, 32, 102, 111, 108, 107, 109, 111, 111, 116, 47, 102, 111, 108, 107, 109, 111, 111, 116, 108, 97, 119, 49, 53, 46, 67, 111, 110, 116, 101, 110, 116, 70, 105, 110, 100, 115, 32, 102, 111, 108, 107, 109, 111, 111, 116, 47, 102, 111, 108, 107, 109, 111, 111, 116, 108, 97, 119, 49, 53, 46, 67, 111, 110, 116, 101, 110, 116, 75, 101, 101, 112, 115, 32, 102, 111, 108, 107, 109, 111, 111, 116, 47, 102, 111, 108, 107, 109, 111, 111, 116, 108, 97, 119, 49, 53, 46, 67, 111, 110, 116, 101, 110, 116, 77, 101, 114, 103, 101, 115, 32, 102, 111, 108, 107, 109, 111, 111, 116, 47, 102, 111, 108, 107, 109, 111, 111, 116, 108, 97, 119, 49, 53, 46, 67, 111, 110, 116, 101, 110, 116, 79, 114, 100, 101, 114, 32, 102, 111, 108, 107, 109, 111, 111, 116, 47, 102, 111, 108, 107, 109, 111, 111, 116, 108, 97, 119, 48, 53, 46, 76, 97, 98, 101, 108, 75, 101, 101, 112, 115, 32, 102, 111, 108, 107, 109, 111, 111, 116, 47, 102, 111, 108, 107, 109, 111, 111, 116, 108, 97, 119, 48, 53, 46, 76, 97, 98, 101, 108, 80, 97, 114, 116, 115, 32, 102, 111, 108, 107, 109, 111, 111, 116, 47, 102, 111, 108, 107, 109, 111, 111, 116, 108, 97, 119, 48, 53, 46, 76, 97, 98, 101, 108, 83, 111, 114, 116, 115, 32, 102, 111, 108, 107, 109, 111, 111, 116, 47, 102, 111, 108, 107, 109, 111, 111, 116, 108, 97, 119, 48, 53, 46, 76, 97, 98, 101, 108, 66, 101, 104, 105, 110, 100, 32, 102, 111, 108, 107, 109, 111, 111, 116, 47, 102, 111, 108, 107, 109, 111, 111, 116, 108, 97, 119, 48, 53, 46, 76, 97, 98, 101, 108, 79, 114, 100, 101, 114, 32, 102, 111, 108, 107, 109, 111, 111, 116, 47, 102, 111, 108, 107, 109, 111, 111, 116, 108, 97, 119, 49, 53, 46, 67, 111, 110, 116, 101, 110, 116, 65, 112, 97, 114, 116, 32, 102, 111, 108, 107, 109, 111, 111, 116, 47, 102, 111, 108, 107, 109, 111, 111, 116, 108, 97, 119, 49, 53, 46, 67, 111, 110, 116, 101, 110, 116, 79, 110, 101, 32, 102, 111, 108, 107, 109, 111, 111, 116, 47, 102, 111, 108, 107, 109, 111, 111, 116, 108, 97, 119, 49, 53, 46, 67, 111, 110, 116, 101, 110, 116, 82, 101, 97, 100, 115, 32, 102, 111, 108, 107, 109, 111, 111, 116, 47, 102, 111, 108, 107, 109, 111, 111, 116, 108, 97, 119, 49, 53, 46, 67, 111, 110, 116, 101, 110, 116, 65, 108, 108, 32, 102, 111, 108, 107, 109, 111, 111, 116, 47, 102, 111, 108, 107, 109, 111, 111, 116, 108, 97, 119, 49, 54, 46, 69, 120, 99, 104, 97, 110, 103, 101, 80, 108, 97, 121, 115, 32, 102, 111, 108, 107, 109, 111, 111, 116, 47, 102, 111, 108, 107, 109, 111, 111, 116, 108, 97, 119, 49, 54, 46, 69, 120, 99, 104, 97, 110, 103, 101, 84, 117, 114, 110, 101, 100, 32, 102, 111, 108, 107, 109, 111, 111, 116, 47, 102, 111, 108, 107, 109, 111, 111, 116, 108, 97, 119, 49, 54, 46, 69, 120, 99, 104, 97, 110, 103, 101, 70, 117, 108, 108, 32, 102, 111, 108, 107, 109, 111, 111, 116, 47, 102, 111, 108, 107, 109, 111, 111, 116, 108, 97, 119, 49, 54, 46, 69, 120, 99, 104, 97, 110, 103, 101, 75, 101, 101, 112, 115, 32, 102, 111, 108, 107, 109, 111, 111, 116, 47, 102, 111, 108, 107, 109, 111, 111, 116, 108, 97, 119, 49, 54, 46, 69, 120, 99, 104, 97, 110, 103, 101, 79, 110, 101, 32, 102, 111, 108, 107, 109, 111, 111, 116, 47, 102, 111, 108, 107, 109, 111, 111, 116, 108, 97, 119, 49, 54, 46, 69, 120, 99, 104, 97, 110, 103, 101, 77, 111, 114, 101].map Char.ofNat) = [[104, 97, 114, 110, 101, 115, 115], [98, 100, 54, 52, 55, 100, 48, 52, 56, 99, 56, 57, 55, 50, 49, 57, 98, 52, 100, 49, 52, 51, 55, 98, 57, 48, 102, 102, 48, 56, 49, 50, 49, 53, 100, 52, 49, 53, 51, 54, 99, 100, 49, 54, 52, 54, 49, 100, 52, 97, 49, 97, 54, 54, 102, 52, 101, 56, 53, 55, 97, 101, 50, 55], [99, 117, 116], [97, 116], [102, 111, 108, 107, 109, 111, 111, 116, 47, 102, 111, 108, 107, 109, 111, 111, 116, 108, 97, 119, 49, 53, 46, 67, 111, 110, 116, 101, 110, 116, 70, 105, 110, 100, 115], [102, 111, 108, 107, 109, 111, 111, 116, 47, 102, 111, 108, 107, 109, 111, 111, 116, 108, 97, 119, 49, 53, 46, 67, 111, 110, 116, 101, 110, 116, 75, 101, 101, 112, 115], [102, 111, 108, 107, 109, 111, 111, 116, 47, 102, 111, 108, 107, 109, 111, 111, 116, 108, 97, 119, 49, 53, 46, 67, 111, 110, 116, 101, 110, 116, 77, 101, 114, 103, 101, 115], [102, 111, 108, 107, 109, 111, 111, 116, 47, 102, 111, 108, 107, 109, 111, 111, 116, 108, 97, 119, 49, 53, 46, 67, 111, 110, 116, 101, 110, 116, 79, 114, 100, 101, 114], [102, 111, 108, 107, 109, 111, 111, 116, 47, 102, 111, 108, 107, 109, 111, 111, 116, 108, 97, 119, 48, 53, 46, 76, 97, 98, 101, 108, 75, 101, 101, 112, 115], [102, 111, 108, 107, 109, 111, 111, 116, 47, 102, 111, 108, 107, 109, 111, 111, 116, 108, 97, 119, 48, 53, 46, 76, 97, 98, 101, 108, 80, 97, 114, 116, 115], [102, 111, 108, 107, 109, 111, 111, 116, 47, 102, 111, 108, 107, 109, 111, 111, 116, 108, 97, 119, 48, 53, 46, 76, 97, 98, 101, 108, 83, 111, 114, 116, 115], [102, 111, 108, 107, 109, 111, 111, 116, 47, 102, 111, 108, 107, 109, 111, 111, 116, 108, 97, 119, 48, 53, 46, 76, 97, 98, 101, 108, 66, 101, 104, 105, 110, 100], [102, 111, 108, 107, 109, 111, 111, 116, 47, 102, 111, 108, 107, 109, 111, 111, 116, 108, 97, 119, 48, 53, 46, 76, 97, 98, 101, 108, 79, 114, 100, 101, 114], [102, 111, 108, 107, 109, 111, 111, 116, 47, 102, 111, 108, 107, 109, 111, 111, 116, 108, 97, 119, 49, 53, 46, 67, 111, 110, 116, 101, 110, 116, 65, 112, 97, 114, 116], [102, 111, 108, 107, 109, 111, 111, 116, 47, 102, 111, 108, 107, 109, 111, 111, 116, 108, 97, 119, 49, 53, 46, 67, 111, 110, 116, 101, 110, 116, 79, 110, 101], [102, 111, 108, 107, 109, 111, 111, 116, 47, 102, 111, 108, 107, 109, 111, 111, 116, 108, 97, 119, 49, 53, 46, 67, 111, 110, 116, 101, 110, 116, 82, 101, 97, 100, 115], [102, 111, 108, 107, 109, 111, 111, 116, 47, 102, 111, 108, 107, 109, 111, 111, 116, 108, 97, 119, 49, 53, 46, 67, 111, 110, 116, 101, 110, 116, 65, 108, 108], [102, 111, 108, 107, 109, 111, 111, 116, 47, 102, 111, 108, 107, 109, 111, 111, 116, 108, 97, 119, 49, 54, 46, 69, 120, 99, 104, 97, 110, 103, 101, 80, 108, 97, 121, 115], [102, 111, 108, 107, 109, 111, 111, 116, 47, 102, 111, 108, 107, 109, 111, 111, 116, 108, 97, 119, 49, 54, 46, 69, 120, 99, 104, 97, 110, 103, 101, 84, 117, 114, 110, 101, 100], [102, 111, 108, 107, 109, 111, 111, 116, 47, 102, 111, 108, 107, 109, 111, 111, 116, 108, 97, 119, 49, 54, 46, 69, 120, 99, 104, 97, 110, 103, 101, 70, 117, 108, 108], [102, 111, 108, 107, 109, 111, 111, 116, 47, 102, 111, 108, 107, 109, 111, 111, 116, 108, 97, 119, 49, 54, 46, 69, 120, 99, 104, 97, 110, 103, 101, 75, 101, 101, 112, 115], [102, 111, 108, 107, 109, 111, 111, 116, 47, 102, 111, 108, 107, 109, 111, 111, 116, 108, 97, 119, 49, 54, 46, 69, 120, 99, 104, 97, 110, 103, 101, 79, 110, 101], [102, 111, 108, 107, 109, 111, 111, 116, 47, 102, 111, 108, 107, 109, 111, 111, 116, 108, 97, 119, 49, 54, 46, 69, 120, 99, 104, 97, 110, 103, 101, 77, 111, 114, 101]].map (List.map Char.ofNat) := by kernel_rfl
theorem head_behind : ∃ rest, behindMainWord (wordsSigns Try.prog.initOrder.toList) = [99, 117, 116].map Char.ofNat :: rest := by
  rw [head_signs, head_words]
  exact ⟨[[99, 117, 116], [97, 116], [102, 111, 108, 107, 109, 111, 111, 116, 47, 102, 111, 108, 107, 109, 111, 111, 116, 108, 97, 119, 49, 53, 46, 67, 111, 110, 116, 101, 110, 116, 70, 105, 110, 100, 115], [102, 111, 108, 107, 109, 111, 111, 116, 47, 102, 111, 108, 107, 109, 111, 111, 116, 108, 97, 119, 49, 53, 46, 67, 111, 110, 116, 101, 110, 116, 75, 101, 101, 112, 115], [102, 111, 108, 107, 109, 111, 111, 116, 47, 102, 111, 108, 107, 109, 111, 111, 116, 108, 97, 119, 49, 53, 46, 67, 111, 110, 116, 101, 110, 116, 77, 101, 114, 103, 101, 115], [102, 111, 108, 107, 109, 111, 111, 116, 47, 102, 111, 108, 107, 109, 111, 111, 116, 108, 97, 119, 49, 53, 46, 67, 111, 110, 116, 101, 110, 116, 79, 114, 100, 101, 114], [102, 111, 108, 107, 109, 111, 111, 116, 47, 102, 111, 108, 107, 109, 111, 111, 116, 108, 97, 119, 48, 53, 46, 76, 97, 98, 101, 108, 75, 101, 101, 112, 115], [102, 111, 108, 107, 109, 111, 111, 116, 47, 102, 111, 108, 107, 109, 111, 111, 116, 108, 97, 119, 48, 53, 46, 76, 97, 98, 101, 108, 80, 97, 114, 116, 115], [102, 111, 108, 107, 109, 111, 111, 116, 47, 102, 111, 108, 107, 109, 111, 111, 116, 108, 97, 119, 48, 53, 46, 76, 97, 98, 101, 108, 83, 111, 114, 116, 115], [102, 111, 108, 107, 109, 111, 111, 116, 47, 102, 111, 108, 107, 109, 111, 111, 116, 108, 97, 119, 48, 53, 46, 76, 97, 98, 101, 108, 66, 101, 104, 105, 110, 100], [102, 111, 108, 107, 109, 111, 111, 116, 47, 102, 111, 108, 107, 109, 111, 111, 116, 108, 97, 119, 48, 53, 46, 76, 97, 98, 101, 108, 79, 114, 100, 101, 114], [102, 111, 108, 107, 109, 111, 111, 116, 47, 102, 111, 108, 107, 109, 111, 111, 116, 108, 97, 119, 49, 53, 46, 67, 111, 110, 116, 101, 110, 116, 65, 112, 97, 114, 116], [102, 111, 108, 107, 109, 111, 111, 116, 47, 102, 111, 108, 107, 109, 111, 111, 116, 108, 97, 119, 49, 53, 46, 67, 111, 110, 116, 101, 110, 116, 79, 110, 101], [102, 111, 108, 107, 109, 111, 111, 116, 47, 102, 111, 108, 107, 109, 111, 111, 116, 108, 97, 119, 49, 53, 46, 67, 111, 110, 116, 101, 110, 116, 82, 101, 97, 100, 115], [102, 111, 108, 107, 109, 111, 111, 116, 47, 102, 111, 108, 107, 109, 111, 111, 116, 108, 97, 119, 49, 53, 46, 67, 111, 110, 116, 101, 110, 116, 65, 108, 108], [102, 111, 108, 107, 109, 111, 111, 116, 47, 102, 111, 108, 107, 109, 111, 111, 116, 108, 97, 119, 49, 54, 46, 69, 120, 99, 104, 97, 110, 103, 101, 80, 108, 97, 121, 115], [102, 111, 108, 107, 109, 111, 111, 116, 47, 102, 111, 108, 107, 109, 111, 111, 116, 108, 97, 119, 49, 54, 46, 69, 120, 99, 104, 97, 110, 103, 101, 84, 117, 114, 110, 101, 100], [102, 111, 108, 107, 109, 111, 111, 116, 47, 102, 111, 108, 107, 109, 111, 111, 116, 108, 97, 119, 49, 54, 46, 69, 120, 99, 104, 97, 110, 103, 101, 70, 117, 108, 108], [102, 111, 108, 107, 109, 111, 111, 116, 47, 102, 111, 108, 107, 109, 111, 111, 116, 108, 97, 119, 49, 54, 46, 69, 120, 99, 104, 97, 110, 103, 101, 75, 101, 101, 112, 115], [102, 111, 108, 107, 109, 111, 111, 116, 47, 102, 111, 108, 107, 109, 111, 111, 116, 108, 97, 119, 49, 54, 46, 69, 120, 99, 104, 97, 110, 103, 101, 79, 110, 101], [102, 111, 108, 107, 109, 111, 111, 116, 47, 102, 111, 108, 107, 109, 111, 111, 116, 108, 97, 119, 49, 54, 46, 69, 120, 99, 104, 97, 110, 103, 101, 77, 111, 114, 101]].tail.map (List.map Char.ofNat), by kernel_rfl⟩
theorem cut_gc : (([99, 117, 116].map Char.ofNat) == "gc".toList) = false := by kernel_rfl
theorem cut_spec : (([99, 117, 116].map Char.ofNat) == "spec".toList) = false := by kernel_rfl
theorem cut_carried : (([99, 117, 116].map Char.ofNat) == "carried".toList) = false := by kernel_rfl
theorem cut_cut : (([99, 117, 116].map Char.ofNat) == "cut".toList) = true := by kernel_rfl
theorem cut_some (rest : List (List Char)) : ((([99, 117, 116].map Char.ofNat) :: rest).head? == some "cut".toList) = true := cut_cut
theorem cut_strip (rest : List (List Char)) : stripLifts liftWords (([99, 117, 116].map Char.ofNat) :: rest) = ([], ([99, 117, 116].map Char.ofNat) :: rest) := by
  simp only [liftWords, stripLifts]
  rfl
theorem make_of {P : Program} {rest : List (List Char)} (h : behindMainWord (wordsSigns P.initOrder.toList) = [99, 117, 116].map Char.ofNat :: rest) : P.make = some .cut := by
  unfold Program.make
  rw [h]
  simp only [cut_gc, cut_spec, cut_cut, Bool.or_false, Bool.true_or, Bool.false_eq_true, if_false, if_true]
theorem lifts_of {P : Program} {rest : List (List Char)} (h : behindMainWord (wordsSigns P.initOrder.toList) = [99, 117, 116].map Char.ofNat :: rest) : P.liftsFinal = false := by
  unfold Program.liftsFinal Program.headLifts
  rw [h]
  simp only [cut_strip, List.head?_cons]
  show ((([99, 117, 116].map Char.ofNat) == "carried".toList) && _ || _) = false
  rw [cut_carried]
  kernel_rfl
theorem enter_of {P : Program} {rest : List (List Char)} (h : behindMainWord (wordsSigns P.initOrder.toList) = [99, 117, 116].map Char.ofNat :: rest) (h1 : P.laysLater = false) (h2 : P.bearsReflect = false) (h3 : P.doorFits [] = true) : P.mayEnter = true := by
  unfold Program.mayEnter
  rw [h]
  simp only [cut_strip, cut_some, cut_gc, cut_spec, cut_carried, h1, h2, h3, Bool.not_false, Bool.or_true, Bool.and_true, Bool.or_false, Bool.false_and, List.contains_nil]
theorem head_make : Try.prog.make = some .cut := head_behind.elim fun _ h => make_of h
theorem head_lifts : Try.prog.liftsFinal = false := head_behind.elim fun _ h => lifts_of h
theorem head_enter : Try.prog.mayEnter = true := head_behind.elim fun _ h => enter_of h (by kernel_rfl) (by kernel_rfl) (by kernel_rfl)
end Go.Proofs.Ytioooiflpabngaa
end
section
namespace Go.Proofs.Ytioooiflpabngaa.exchangeOne
open Go.ChangeShapes Go.WideShapes Go.ChangeAt Go.RowKit Go.Proofs.Ytioooiflpabngaa.PAll
set_option linter.unusedVariables false
theorem own : ownKnob Try.prog.godebug = none := by kernel_rfl
theorem laidOut : laidOutB Try.prog = true := by kernel_rfl
set_option maxRecDepth 100000 in
theorem lifted (os : Os) (started : os.Started) (H : Type) (enc : TypeId × Value → H) :
    ReturnsInHanded {} Try.checked os 20 .any (Rows.exchangeOneSpec.pre6 enc Try.prog Try.f20 Rows.exchangeOneRow.domain false) (Rows.exchangeOneSpec.post enc Try.prog Try.f20 false true false false) := by
  refine returnsInHanded_of_change_sized (C := Try.checked) own started (by kernel_rfl) Try.func20
    (ChangeSpec.witness6 (enc := enc) (C := Try.checked) false ⟨#[], #[.agg #[.slice none 0 0, .slice none 0 0, .int .i64 0, .int .u64 0, .int .i64 0], .int .u8 0], []⟩ 8 (by kernel_rfl) (by kernel_rfl) (by kernel_rfl) (by kernel_rfl)) ?_
  intro W base args ds gs before hval0 hW hcnd hsz0 _
  have hsz : (DataW.weightsEach Try.prog (Try.f20.params.toList ++ Rows.exchangeOneSpec.plain.varTypes Try.prog) (ds ++ gs)).all (· ≤ reachBytes) = true := hsz0
  have hval : ∀ (j : Nat) t v, Try.f20.params[j]? = some t → args[j]? = some v → Value.okWide Try.prog W .any base t v := hval0
  have hW' := hW
  obtain ⟨p, q, hA0, hV, rfl, hfz, hnd⟩ := hW
  have hA : DataW.TrodAll enc Try.prog W 0 (fun _ => true) true Try.f20.params.toList args.toList ds p := hA0
  rw [Try.params20] at hA hval hsz
  obtain ⟨v0, vs0, d0, ds0, p0, q0, hargs, rfl, rfl, h0, r0⟩ := trodAll_cons hA
  obtain ⟨v1, vs1, d1, ds1, p1, q1, rfl, rfl, rfl, h1, r1⟩ := trodAll_cons r0
  obtain ⟨rfl, rfl, rfl⟩ := trodAll_nil r1
  obtain rfl : args = #[v0, v1] := by cases args; simp_all
  obtain ⟨rfl, rfl⟩ := trodVars_none hV
  have z0 : ∀ n ∈ d0.weights Try.prog 53, n ≤ reachBytes := fun n hn => of_decide_eq_true (List.all_eq_true.1 hsz _ (DataW.weights_mem_each (j := 0) (t := 53) rfl rfl n hn))
  have k0 := h0
  have lt0 : ∀ x ∈ p0, x.block < W.heap.size := by obtain ⟨m, hm⟩ := k0; exact DataW.trod_lt m _ _ _ hm
  obtain ⟨cs0, rfl, _⟩ := okWide_struct Try.underlying53 (hval 0 53 v0 rfl rfl)
  obtain ⟨x0, hK0, ok0⟩ := arg_trod opensS h0 z0
  obtain ⟨A0, c0, B0, b0, hcs0, hc0, hr0, hb0, hq0⟩ := k53_open hK0
  have e0 := agg_of hcs0
  subst e0
  have hs0 := V_of_C (e := 32) hr0 hc0
  have ht0 := V_of_C (e := 27) hq0 hb0
  have z1 : ∀ n ∈ d1.weights Try.prog 5, n ≤ reachBytes := fun n hn => of_decide_eq_true (List.all_eq_true.1 hsz _ (DataW.weights_mem_each (j := 1) (t := 5) rfl rfl n hn))
  have k1 := h1
  have lt1 : ∀ x ∈ p1, x.block < W.heap.size := by obtain ⟨m, hm⟩ := k1; exact DataW.trod_lt m _ _ _ hm
  obtain ⟨a1, rfl, rfl, rfl, ok1⟩ := open_int Try.underlying5 (hval 1 5 v1 rfl rfl) h1
  clear hA0 hval0 hsz0 hsz
  obtain ⟨k, hp⟩ := pure_ExchangeOne x0 a1 ok0 ok1
  refine (folkmootlaw16_ExchangeOne.calls k (fun k_ => k_ < W.heap.size) _ _ x0.f0 (fun k_ => k_ < W.heap.size) _ _ x0.f1 x0.f2 x0.f3.f0 x0.f3.f1 a1 true W hs0 ht0 hp).mono fun e W' ⟨he, bel⟩ => ?_
  subst he
  exact ⟨_, rfl, _, _, _, [], _, [], hW', trodAll_mk1 (shut_bool Try.underlying4 _), (trodAll_cons_mk (Below.trod laidOut (by kernel_rfl) (of_decide_eq_true (by kernel_rfl)) k0 bel lt0) (trodAll_cons_mk (shut_int Try.underlying5 ok1) trodAll_mk0)), rfl, bel.frame _, fun h => by cases h⟩
theorem closed : joinedFacts Try.prog 20 Try.f20 Rows.exchangeOneSpec Rows.exchangeOneRow = true := by
  unfold joinedFacts
  rw [head_enter, head_lifts, head_make]
  kernel_rfl
theorem over : Rows.exchangeOneRow.holds Try.pinned (OpenSpec.ofChange Rows.exchangeOneSpec) :=
  OpenClaim.holds_of_wide 20 Try.f20 rfl rfl rfl rfl rfl rfl rfl ⟨rfl, rfl, rfl, rfl, rfl⟩ rfl rfl rfl rfl rfl (by kernel_rfl) Try.func20 closed
    (of_decide_eq_true (by kernel_rfl)) (by unfold Func.isWrapper; first | (rw [if_pos (by decide +kernel)]; kernel_rfl) | (rw [if_neg (by decide +kernel)]; exact ⟨rfl, rfl⟩))
    (fun os started H enc _ => lifted os started H enc)
theorem proved : Rows.ExchangeOneSaid := over
end Go.Proofs.Ytioooiflpabngaa.exchangeOne
end
