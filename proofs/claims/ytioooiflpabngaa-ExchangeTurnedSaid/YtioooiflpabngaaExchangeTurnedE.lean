/- Parts: PAllx88, ETold, ELab, PAllx100, QExchangeTurned, HJoined, RExchangeTurned. -/
import Derived.Test.YtioooiflpabngaaExchangeTurnedB
import Derived.Test.YtioooiflpabngaaExchangeTurnedC
import Derived.Test.YtioooiflpabngaaExchangeTurnedD
import Derived.Test.YtioooiflpabngaaRows
import Derived.ProofKit
import Derived.WalkKit
import Derived.OpenShut
import Derived.ShutString
import Derived.ChangeOld
import Derived.Below
import Derived.SizedLaws
set_option linter.unusedVariables false
set_option linter.unusedSimpArgs false
section
namespace Go.Proofs.Ytioooiflpabngaa.PAll
open Go.RowKit Go.Proofs.YtioooiflpabngaaW.PrintWords Go.Proofs.YtioooiflpabngaaW.PrintLast Go.Proofs.YtioooiflpabngaaW.PrintMore
attribute [local go_sem] max2_int min2_int max_two min_two max_three min_three max_four min_four   -- for this text's walks alone
set_option linter.unusedVariables false
set_option linter.unusedSimpArgs false
def folkmootlaw16_awake.f (k : Nat)  : Option (Bool) := (some (([(⟨0, (⟨([] : List (S32)), ([] : List (S27)), 1, (⟨1, 0⟩ : S25)⟩ : S53)⟩ : S87), (⟨1, (⟨([] : List (S32)), (([(⟨(⟨1, 0⟩ : S25), 1, 0⟩ : S27)] : List (S27))), 2, (⟨2, 0⟩ : S25)⟩ : S53)⟩ : S87)] : List (S87)) : List (S87))).bind fun y759 => ((exchange_Short.f k y759).bind fun t762 => ((folkmootref05_Same.f k t762 (([(⟨(⟨1, 0⟩ : S25), 1, 0⟩ : S27)] : List (S27)))).bind fun t768 => (if t768 = true then ((exchange_Chosen.f k y759).bind fun t769 => (if t769 = 1 then ((exchange_Next.f k y759).bind fun t770 => (some (t770 == 2))) else (some false))) else (some false))))
theorem folkmootlaw16_awake.mono : ∀ k, LeO (folkmootlaw16_awake.f k ) (folkmootlaw16_awake.f (k + 1) ) := by
 intro  k
 unfold folkmootlaw16_awake.f
 repeat' first
   | (with_reducible exact exchange_Chosen.mono _ _)
   | (with_reducible exact exchange_Next.mono _ _)
   | (with_reducible exact exchange_Short.mono _ _)
   | (with_reducible exact folkmootref05_Same.mono _ _ _)
   | (with_reducible exact LeO.refl _)
   | (with_reducible exact LeO.none _)
   | (with_reducible refine LeO.ite ?_ ?_)
   | (with_reducible refine LeO.bind ?_ (fun _ => ?_))
   | exact exchange_Chosen.mono _ _
   | exact exchange_Next.mono _ _
   | exact exchange_Short.mono _ _
   | exact folkmootref05_Same.mono _ _ _
   | exact LeO.none _
   | refine LeO.ite ?_ ?_
   | refine LeO.bind ?_ (fun _ => ?_)
def folkmootlaw16_awake.T3 : Bool × List (List Nat × List Nat) := (true, [([], []), ([0], [0]), ([], []), ([2], [2]), ([1, 3, 1], [1, 3]), ([4, 4], [4]), ([5], [5]), ([6, 5, 5], [5, 6]), ([7, 5], [5, 7]), ([5, 8], [5, 8]), ([9, 7], [9]), ([10], [10]), ([11, 10, 10], [10, 11]), ([12, 10], [10, 12]), ([10, 13], [10, 13]), ([14, 12, 0, 1, 2, 3, 4, 5, 6, 7, 8, 9, 10, 11, 12, 13, 14], [14])])
def folkmootlaw16_awake.B3 : List Nat := [0, 1, 0, 4, 15, 31, 63, 127, 255, 511, 1023, 2047, 4095, 8191, 16383, 32767]
theorem folkmootlaw16_awake.tab3 : rtab .any (opsOf Try.f55 3) = folkmootlaw16_awake.T3 := by kernel_rfl
theorem folkmootlaw16_awake.bits3 : waitsOk folkmootlaw16_awake.T3.2 folkmootlaw16_awake.B3 = true := by kernel_rfl
set_option maxHeartbeats 8000000 in
set_option maxRecDepth 100000 in
theorem folkmootlaw16_awake.calls (k : Nat)  (r : Bool) (w : World) (h : folkmootlaw16_awake.f k  = some r) :
  Calls Try.prog 55 #[] w fun e w' => e = .returned (.bool r) ∧ Below w.heap.size w w' := by
 have hu25 := Try.underlying25
 have hu27 := Try.underlying27
 have hu53 := Try.underlying53
 have hu87 := Try.underlying87
 have HB := Aside0.mk (Below.refl w.heap.size w)
 have H : ((some (([(⟨0, (⟨([] : List (S32)), ([] : List (S27)), 1, (⟨1, 0⟩ : S25)⟩ : S53)⟩ : S87), (⟨1, (⟨([] : List (S32)), (([(⟨(⟨1, 0⟩ : S25), 1, 0⟩ : S27)] : List (S27))), 2, (⟨2, 0⟩ : S25)⟩ : S53)⟩ : S87)] : List (S87)) : List (S87))).bind fun y759 => ((exchange_Short.f k y759).bind fun t762 => ((folkmootref05_Same.f k t762 (([(⟨(⟨1, 0⟩ : S25), 1, 0⟩ : S27)] : List (S27)))).bind fun t768 => (if t768 = true then ((exchange_Chosen.f k y759).bind fun t769 => (if t769 = 1 then ((exchange_Next.f k y759).bind fun t770 => (some (t770 == 2))) else (some false))) else (some false))))) = some r := h
 clear h
 obtain ⟨y756, hy756⟩ : ∃ y_ : List (S27), y_ = (([(⟨(⟨1, 0⟩ : S25), 1, 0⟩ : S27)] : List (S27))) := ⟨_, rfl⟩
 replace H : ((some (([(⟨0, (⟨([] : List (S32)), ([] : List (S27)), 1, (⟨1, 0⟩ : S25)⟩ : S53)⟩ : S87), (⟨1, (⟨([] : List (S32)), y756, 2, (⟨2, 0⟩ : S25)⟩ : S53)⟩ : S87)] : List (S87)) : List (S87))).bind fun y759 => ((exchange_Short.f k y759).bind fun t762 => ((folkmootref05_Same.f k t762 (([(⟨(⟨1, 0⟩ : S25), 1, 0⟩ : S27)] : List (S27)))).bind fun t768 => (if t768 = true then ((exchange_Chosen.f k y759).bind fun t769 => (if t769 = 1 then ((exchange_Next.f k y759).bind fun t770 => (some (t770 == 2))) else (some false))) else (some false))))) = some r := by first | (rw [hy756]; with_reducible exact H) | (have H2_ := (Option.bind_some _ _).symm.trans H; rw [hy756]; with_reducible exact H2_) | (have H2_ := (Option.bind_some _ _).symm.trans H; with_reducible exact H2_) | with_reducible exact H | (rw [hy756]; exact H) | exact H
 have Ny756 := Aside0.mk hy756
 clear hy756
 obtain ⟨y759, hy759⟩ : ∃ y_ : List (S87), y_ = (([(⟨0, (⟨([] : List (S32)), ([] : List (S27)), 1, (⟨1, 0⟩ : S25)⟩ : S53)⟩ : S87), (⟨1, (⟨([] : List (S32)), y756, 2, (⟨2, 0⟩ : S25)⟩ : S53)⟩ : S87)] : List (S87))) := ⟨_, rfl⟩
 replace H : ((exchange_Short.f k y759).bind fun t762 => ((folkmootref05_Same.f k t762 (([(⟨(⟨1, 0⟩ : S25), 1, 0⟩ : S27)] : List (S27)))).bind fun t768 => (if t768 = true then ((exchange_Chosen.f k y759).bind fun t769 => (if t769 = 1 then ((exchange_Next.f k y759).bind fun t770 => (some (t770 == 2))) else (some false))) else (some false)))) = some r := by first | (rw [hy759]; with_reducible exact H) | (have H2_ := (Option.bind_some _ _).symm.trans H; rw [hy759]; with_reducible exact H2_) | (have H2_ := (Option.bind_some _ _).symm.trans H; with_reducible exact H2_) | with_reducible exact H | (rw [hy759]; exact H) | exact H
 have Ny759 := Aside0.mk hy759
 clear hy759
 replace H := Option.bind_eq_some_iff.mp H
 obtain ⟨t762, A10, H⟩ := H
 replace H : ((folkmootref05_Same.f k t762 (([(⟨(⟨1, 0⟩ : S25), 1, 0⟩ : S27)] : List (S27)))).bind fun t768 => (if t768 = true then ((exchange_Chosen.f k y759).bind fun t769 => (if t769 = 1 then ((exchange_Next.f k y759).bind fun t770 => (some (t770 == 2))) else (some false))) else (some false))) = some r := H
 have A1 := Aside0.mk A10
 clear A10
 obtain ⟨y765, hy765⟩ : ∃ y_ : List (S27), y_ = (([(⟨(⟨1, 0⟩ : S25), 1, 0⟩ : S27)] : List (S27))) := ⟨_, rfl⟩
 replace H : ((folkmootref05_Same.f k t762 y765).bind fun t768 => (if t768 = true then ((exchange_Chosen.f k y759).bind fun t769 => (if t769 = 1 then ((exchange_Next.f k y759).bind fun t770 => (some (t770 == 2))) else (some false))) else (some false))) = some r := by first | (rw [hy765]; with_reducible exact H) | (have H2_ := (Option.bind_some _ _).symm.trans H; rw [hy765]; with_reducible exact H2_) | (have H2_ := (Option.bind_some _ _).symm.trans H; with_reducible exact H2_) | with_reducible exact H | (rw [hy765]; exact H) | exact H
 have Ny765 := Aside0.mk hy765
 clear hy765
 replace H := Option.bind_eq_some_iff.mp H
 obtain ⟨t768, A20, H⟩ := H
 replace H : (if t768 = true then ((exchange_Chosen.f k y759).bind fun t769 => (if t769 = 1 then ((exchange_Next.f k y759).bind fun t770 => (some (t770 == 2))) else (some false))) else (some false)) = some r := H
 have A2 := Aside0.mk A20
 clear A20
 by_cases c3 : t768 = true
 ·
  subst c3
  have H1 : ((exchange_Chosen.f k y759).bind fun t769 => (if t769 = 1 then ((exchange_Next.f k y759).bind fun t770 => (some (t770 == 2))) else (some false))) = some r := by rw [if_pos rfl] at H; exact H
  clear H
  have H := H1
  clear H1
  replace H := Option.bind_eq_some_iff.mp H
  obtain ⟨t769, A40, H⟩ := H
  replace H : (if t769 = 1 then ((exchange_Next.f k y759).bind fun t770 => (some (t770 == 2))) else (some false)) = some r := H
  have A4 := Aside0.mk A40
  clear A40
  by_cases c5 : t769 = 1
  ·
   rw [if_pos c5] at H
   have c5b0 : (t769 == 1) = true := beq_iff_eq.mpr c5
   have c5b1 : (t769 != 1) = false := bne_eq_false_iff_eq.mpr c5
   clear c5
   replace H := Option.bind_eq_some_iff.mp H
   obtain ⟨t770, A60, H⟩ := H
   replace H : (some (t770 == 2)) = some r := H
   have A6 := Aside0.mk A60
   clear A60
   obtain rfl := Option.some.inj H
   go_enter Try.func55, Try.ntmps55
   try go_wp2_with (first | ((with_reducible refine gate_dst (N := 1) rfl ?_); refine box_event ?hg (N := 1) ?hd (cs := #[.int .u64 0, .int .i64 0, .int .u64 0, .int .i64 0]) (t := 27) ?hr ?_; (case hd => rfl); (case hg => rfl); (case hr => first | (go_simp; done) | (go_simp; rfl)); intro gb755 hg w7 hbox hb; have n0_ := Aside0.mk (below_step zb_ hb); have n1_ := Aside0.mk (hbox); have n2_ := Aside0.mk ((by rw [hg]; exact (below_size zb_) : w.heap.size ≤ gb755)); have n3_ := Aside0.mk ((by rw [hg]; exact (below_size zb_) : w.heap.size ≤ gb755)); clear HB; have HB := n0_; have BK755 := n1_; have GW755 := n2_; have GE755 := n3_; clear n0_ n1_ n2_ n3_; clear hb hbox hg; have hcz8_0 : w7.cell? ⟨gb755, 0, none⟩ = some (.int .u64 0) := (blk_cell BK755.out 0).trans rfl; have hcz8_1 : w7.cell? ⟨gb755, 1, none⟩ = some (.int .i64 0) := (blk_cell BK755.out 1).trans rfl; have hcz8_2 : w7.cell? ⟨gb755, 2, none⟩ = some (.int .u64 0) := (blk_cell BK755.out 2).trans rfl; have hcz8_3 : w7.cell? ⟨gb755, 3, none⟩ = some (.int .i64 0) := (blk_cell BK755.out 3).trans rfl; have hfz8_0 := blk_frozen BK755.out 0; have hfz8_1 := blk_frozen BK755.out 1; have hfz8_2 := blk_frozen BK755.out 2; have hfz8_3 := blk_frozen BK755.out 3) | ((with_reducible refine gate_dst (N := 10) rfl ?_); refine Kd.R_lit k27 _ 27 ?hg (N := 10) ?hd (xs := ([(⟨(⟨1, 0⟩ : S25), 1, 0⟩ : S27)] : List (S27))) (inner := [.int .u64 1, .int .i64 0, .int .u64 1, .int .i64 0]) (ok := fun _ => True) (okp := fun _ => True) ?hr ?hp (fun _ hk => hk) trivial (Below.refl _ _) (Nat.le_refl _) (by simp) ?_; (case hd => rfl); (case hg => rfl); (case hr => first | (go_simp; done) | (go_simp; rfl)); (case hp => exact (Reps.c4 (show Kd.M k27 _ _ _ (⟨(⟨1, 0⟩ : S25), 1, 0⟩ : S27) [.int .u64 1, .int .i64 0, .int .u64 1, .int .i64 0] from (k27_mkM _ _ _ (⟨(⟨1, 0⟩ : S25), 1, 0⟩ : S27) )) (Reps.none _ _))); intro v757 w9 ho10 hb hg_ hnew_; clear hg_ hnew_; (first | rw [← Ny756.out] at ho10 | (simp only [Int.reduceToNat] at ho10; rw [← Ny756.out] at ho10)); have n0_ := Aside0.mk (Kd.R_lower (Kd.R_newB ho10 (g := gb755) (o := .cells #[.int .u64 1, .int .i64 0, .int .u64 1, .int .i64 0] 27 (0, 0)) (by (with_reducible repeat (first | refine blk_drewN ?_ _ | refine blk_drew ?_ | refine blk_alloc ?_ _)); refine blk_put (cs := #[.int .u64 1, .int .i64 0, .int .u64 1, .int .i64 0]) ?_ 3 _ rfl; (with_reducible repeat (first | refine blk_drewN ?_ _ | refine blk_drew ?_ | refine blk_alloc ?_ _)); refine blk_put (cs := #[.int .u64 1, .int .i64 0, .int .u64 0, .int .i64 0]) ?_ 2 _ rfl; (with_reducible repeat (first | refine blk_drewN ?_ _ | refine blk_drew ?_ | refine blk_alloc ?_ _)); refine blk_put (cs := #[.int .u64 1, .int .i64 0, .int .u64 0, .int .i64 0]) ?_ 1 _ rfl; (with_reducible repeat (first | refine blk_drewN ?_ _ | refine blk_drew ?_ | refine blk_alloc ?_ _)); refine blk_put (cs := #[.int .u64 0, .int .i64 0, .int .u64 0, .int .i64 0]) ?_ 0 _ rfl; (with_reducible repeat (first | refine blk_drewN ?_ _ | refine blk_drew ?_ | refine blk_alloc ?_ _)); exact BK755.out)) (below_size zb_)); have n1_ := Aside0.mk (blk_below (g := gb755) (o := .cells #[.int .u64 1, .int .i64 0, .int .u64 1, .int .i64 0] 27 (0, 0)) (by (with_reducible repeat (first | refine blk_drewN ?_ _ | refine blk_drew ?_ | refine blk_alloc ?_ _)); refine blk_put (cs := #[.int .u64 1, .int .i64 0, .int .u64 1, .int .i64 0]) ?_ 3 _ rfl; (with_reducible repeat (first | refine blk_drewN ?_ _ | refine blk_drew ?_ | refine blk_alloc ?_ _)); refine blk_put (cs := #[.int .u64 1, .int .i64 0, .int .u64 0, .int .i64 0]) ?_ 2 _ rfl; (with_reducible repeat (first | refine blk_drewN ?_ _ | refine blk_drew ?_ | refine blk_alloc ?_ _)); refine blk_put (cs := #[.int .u64 1, .int .i64 0, .int .u64 0, .int .i64 0]) ?_ 1 _ rfl; (with_reducible repeat (first | refine blk_drewN ?_ _ | refine blk_drew ?_ | refine blk_alloc ?_ _)); refine blk_put (cs := #[.int .u64 0, .int .i64 0, .int .u64 0, .int .i64 0]) ?_ 0 _ rfl; (with_reducible repeat (first | refine blk_drewN ?_ _ | refine blk_drew ?_ | refine blk_alloc ?_ _)); exact BK755.out) hb); have n2_ := Aside0.mk (below_step zb_ hb); clear BK755; clear HB; have HO758 := n0_; have BK755 := n1_; have HB := n2_; clear n0_ n1_ n2_; clear hb ho10; obtain ⟨Ao11, co11, eo11⟩ := Kd.R_slice HO758.out; subst eo11) | ((with_reducible refine gate_dst (N := 13) rfl ?_); refine Kd.N_lit k87 _ 87 ?hg (N' := 13) ?hd (xs := ([(⟨0, (⟨([] : List (S32)), ([] : List (S27)), 1, (⟨1, 0⟩ : S25)⟩ : S53)⟩ : S87), (⟨1, (⟨([] : List (S32)), y756, 2, (⟨2, 0⟩ : S25)⟩ : S53)⟩ : S87)] : List (S87))) (inner := [.int .i64 0, .slice none 0 0, .slice none 0 0, .int .i64 1, .int .u64 1, .int .i64 0, .int .i64 1, .slice none 0 0, .slice Ao11 y756.length co11, .int .i64 2, .int .u64 2, .int .i64 0]) (ok := (fun k_ => k_ ≠ gb755)) (okp := (fun k_ => k_ ≠ gb755)) ?hr ?hp (fun _ hk => hk) ((show ∀ k_, w9.heap.size ≤ k_ → (fun k_ => k_ ≠ gb755) k_ from fun k_ hk => Kd.freshB (g := gb755) (o := .cells #[.int .u64 1, .int .i64 0, .int .u64 1, .int .i64 0] 27 (0, 0)) (by (with_reducible repeat (first | refine blk_drewN ?_ _ | refine blk_drew ?_ | refine blk_alloc ?_ _)); exact BK755.out) k_ hk) _ (Nat.le_refl _)) (Below.refl _ _) (Nat.le_refl _) (by simp) ?_; (case hd => rfl); (case hg => rfl); (case hr => first | (go_simp; done) | (go_simp; rfl)); (case hp => exact (Reps.c6 (show Kd.FK k87 _ _ (⟨0, (⟨([] : List (S32)), ([] : List (S27)), 1, (⟨1, 0⟩ : S25)⟩ : S53)⟩ : S87) [.int .i64 0, .slice none 0 0, .slice none 0 0, .int .i64 1, .int .u64 1, .int .i64 0] from (k87_mkF _ _ (⟨0, (⟨([] : List (S32)), ([] : List (S27)), 1, (⟨1, 0⟩ : S25)⟩ : S53)⟩ : S87) (Nat.le_refl _) (Kd.F_nil _ _ _) (Nat.le_refl _) (Kd.F_nil _ _ _))) (Reps.c6 (show Kd.FK k87 _ _ (⟨1, (⟨([] : List (S32)), y756, 2, (⟨2, 0⟩ : S25)⟩ : S53)⟩ : S87) [.int .i64 1, .slice none 0 0, .slice Ao11 y756.length co11, .int .i64 2, .int .u64 2, .int .i64 0] from (k87_mkF _ _ (⟨1, (⟨([] : List (S32)), y756, 2, (⟨2, 0⟩ : S25)⟩ : S53)⟩ : S87) (Nat.le_refl _) (Kd.F_nil _ _ _) (Kd.R_reads' (Kd.R_mono (ok' := (fun k_ => k_ ≠ gb755)) (HO758.out) (fun k_ hk => hk.2))).2.1 (Kd.R_F (Kd.R_mono (ok' := (fun k_ => k_ ≠ gb755)) (HO758.out) (fun k_ hk => hk.2))))) (Reps.none _ _)))); intro v760 w12 ho13 hb hg_ hnew_; clear hg_ hnew_; (first | rw [← Ny759.out] at ho13 | (simp only [Int.reduceToNat] at ho13; rw [← Ny759.out] at ho13)); have n0_ := Aside0.mk (Kd.N_lower ho13 (below_size zb_)); have n1_ := zk_ BK755 hb; have n2_ := Aside0.mk (below_step zb_ hb); clear BK755; clear HB; clear HO758; have HO761 := n0_; have BK755 := n1_; have HB := n2_; clear n0_ n1_ n2_; clear hb ho13; obtain ⟨Ao14, co14, eo14⟩ := Kd.N_slice HO761.out; subst eo14))
   have n0_ := Aside0.mk (Kd.N_drew HO761.out)
   have n1_ := Aside0.mk (blk_drew BK755.out)
   have n2_ := Aside0.mk (below_drew1 HB.out)
   clear HO761
   clear BK755
   clear HB
   have HO761 := n0_
   have BK755 := n1_
   have HB := n2_
   clear n0_ n1_ n2_
   refine start_ (n := 16) (S := fun w' => w'.cell? ⟨gb755, 0, none⟩ = some (.int .u64 1) ∧ w'.cell? ⟨gb755, 1, none⟩ = some (.int .i64 0) ∧ w'.cell? ⟨gb755, 2, none⟩ = some (.int .u64 1) ∧ w'.cell? ⟨gb755, 3, none⟩ = some (.int .i64 0)) (ds := []) #[F_,F_,F_,F_,F_,F_,F_,F_,F_,F_,F_,F_,F_,F_,F_,F_] (by kernel_rfl) rfl rfl ⟨(blk_cell BK755.out 0).trans rfl, (blk_cell BK755.out 1).trans rfl, (blk_cell BK755.out 2).trans rfl, (blk_cell BK755.out 3).trans rfl⟩ (fun hHeld => ?_); refine with_tabW folkmootlaw16_awake.tab3 folkmootlaw16_awake.bits3 (fun HT_ HW_ => ?_)
   generalize w12.drew = w15 at HO761 BK755 HB hHeld ⊢
   refine pure_ (i := 0) (N := some 14) (v := ?_) (a' := ?_) #[T_,F_,F_,F_,F_,F_,F_,F_,F_,F_,F_,F_,F_,F_,F_,F_] rfl rfl (any_of HT_.out (by kernel_rfl)) (fun _ _ _ h => h) (Or.inl ⟨by rfl, ?_⟩) ?_ ?_
   rotate_left
   ·
    intro w'; go_simp; with_reducible rfl
   rotate_left
   ·
    exact zp_
   refine take_ (i := 2) (N := some 16) (v := ?_) (a' := ?_) #[T_,F_,T_,F_,F_,F_,F_,F_,F_,F_,F_,F_,F_,F_,F_,F_] rfl rfl (take_ofW HT_.out HW_.out (by kernel_rfl)) (fun _ _ _ h => h) (Or.inl ⟨by rfl, ?_⟩) hHeld ?_ ?_
   rotate_left
   ·
    rintro w' ⟨s0, s1, s2, s3⟩
    go_simp
    with_reducible rfl
   rotate_left
   ·
    exact zp_
   refine join_ (σ := Value × Value) 12 #[T_,T_,T_,T_,F_,F_,F_,F_,F_,F_,F_,F_,F_,F_,F_,F_] (fun s_ => [(15, s_.1), (17, s_.2)]) (fun s_ w' => (w'.cell? ⟨gb755, 0, none⟩ = some (.int .u64 1) ∧ w'.cell? ⟨gb755, 1, none⟩ = some (.int .i64 0) ∧ w'.cell? ⟨gb755, 2, none⟩ = some (.int .u64 1) ∧ w'.cell? ⟨gb755, 3, none⟩ = some (.int .i64 0)) ∧ (Kd.N k87 87 w' w.heap.size (fun k_ => some k_ ≠ (s_.1 : Value).ownBlock ∧ some k_ ≠ (s_.2 : Value).ownBlock ∧ k_ ≠ gb755) (.slice Ao14 y759.length co14) y759) ∧ (Kd.R k27 27 w' w.heap.size (fun k_ => some k_ ≠ (s_.2 : Value).ownBlock ∧ k_ ≠ gb755) s_.1 t762) ∧ (Kd.R k27 27 w' w.heap.size (fun k_ => some k_ ≠ (s_.1 : Value).ownBlock ∧ k_ ≠ gb755) s_.2 y765) ∧ (w'.heap[gb755]? = some (.cells #[.int .u64 1, .int .i64 0, .int .u64 1, .int .i64 0] 27 (0, 0))) ∧ (Below w.heap.size w w')) ?_ ?_
   rotate_left
   ·
    intro hCont
    refine two_ (i := 1) (j := 3) (Ni := some 15) (Nj := some 17) #[T_,T_,T_,F_,F_,F_,F_,F_,F_,F_,F_,F_,F_,F_,F_,F_] #[T_,F_,T_,T_,F_,F_,F_,F_,F_,F_,F_,F_,F_,F_,F_,F_] rfl rfl rfl rfl (two_of HT_.out (by kernel_rfl)) (by decide) (by decide) (fun K hK => ?_) (fun K hK => ?_)
    ·
     skip
     refine goes_ Try.func62 (by kernel_rfl) rfl #[.slice Ao14 y759.length co14] (by rfl) rfl rfl za_ ?_
     with_reducible refine (exchange_Short.calls k _ _ y759 t762 _ ?side1 ?side2 A1.out).mono ?_
     (case side1 => exact zd_ (Kd.N_reads' HO761.out).2.2)
     (case side2 => exact (Kd.N_reads' HO761.out).2.1)
     rintro e w16 ⟨v763, rfl, ho0, hb⟩
     refine ⟨_, rfl, ?_⟩
     have n0_ := Aside0.mk (Kd.N_elder' (zn_ HO761) (Kd.R_base ho0) hb)
     have n1_ := Aside0.mk (Kd.R_lower (Kd.R_newB ho0 (g := gb755) (o := .cells #[.int .u64 1, .int .i64 0, .int .u64 1, .int .i64 0] 27 (0, 0)) (by (with_reducible repeat (first | refine blk_drewN ?_ _ | refine blk_drew ?_ | refine blk_alloc ?_ _)); exact BK755.out)) (below_size zb_))
     have n2_ := zk_ BK755 hb
     have n3_ := Aside0.mk (below_step zb_ hb)
     clear HO761
     clear BK755
     clear HB
     have HO761 := n0_
     have HO764 := n1_
     have BK755 := n2_
     have HB := n3_
     clear n0_ n1_ n2_ n3_
     (try clear hb)
     (try clear hb2)
     (try clear hk)
     (try clear hi)
     (try clear ho0)
     refine hK.out _ _ ⟨(blk_cell BK755.out 0).trans rfl, (blk_cell BK755.out 1).trans rfl, (blk_cell BK755.out 2).trans rfl, (blk_cell BK755.out 3).trans rfl⟩ (fun hHeld => ?_)
     clear hK K
     refine norm_ (a' := ?_) ?_ ?_
     rotate_left
     ·
      show Act.put _ (some 15) _ = _
      simp only [Act.put, List.setIfInBounds_toArray, List.set_cons_zero, List.set_cons_succ, i64_w, i32_w]
      rfl
     refine one_ (i := 3) (N := some 17) #[T_,T_,T_,T_,F_,F_,F_,F_,F_,F_,F_,F_,F_,F_,F_,F_] rfl rfl (one_of HT_.out (by kernel_rfl)) (by decide) (fun K hK => ?_)
     refine Kd.R_lit_step k27 _ 27 ?hg (N := 17) ?hd (xs := ([(⟨(⟨1, 0⟩ : S25), 1, 0⟩ : S27)] : List (S27))) (inner := [.int .u64 1, .int .i64 0, .int .u64 1, .int .i64 0]) (ok := fun _ => True) (okp := fun _ => True) ?hr ?hp (fun _ hk => hk) trivial (Below.refl _ _) (Nat.le_refl _) (by simp) ?_; (case hd => rfl); (case hg => rfl); (case hr => first | (go_simp; done) | (go_simp; rfl)); (case hp => exact (Reps.c4 (show Kd.M k27 _ _ _ (⟨(⟨1, 0⟩ : S25), 1, 0⟩ : S27) [.int .u64 1, .int .i64 0, .int .u64 1, .int .i64 0] from (k27_mkM _ _ _ (⟨(⟨1, 0⟩ : S25), 1, 0⟩ : S27) )) (Reps.none _ _)))
     intro v766 w17 ho18 hb hg_ hnew_
     clear hg_ hnew_
     (first | rw [← Ny765.out] at ho18 | (simp only [Int.reduceToNat] at ho18; rw [← Ny765.out] at ho18))
     have n0_ := Aside0.mk (Kd.N_elder' (zn_ HO761) (Kd.R_base ho18) hb)
     have n1_ := Aside0.mk (Kd.R_elder' (zr_ HO764) (Kd.R_base ho18) hb)
     have n2_ := Aside0.mk (Kd.R_lower (Kd.R_newB (Kd.R_new' ho18 (Kd.R_lt (zr_ HO764))) (g := gb755) (o := .cells #[.int .u64 1, .int .i64 0, .int .u64 1, .int .i64 0] 27 (0, 0)) (by (with_reducible repeat (first | refine blk_drewN ?_ _ | refine blk_drew ?_ | refine blk_alloc ?_ _)); exact BK755.out)) (below_size zb_))
     have n3_ := zk_ BK755 hb
     have n4_ := Aside0.mk (below_step zb_ hb)
     clear HO761
     clear HO764
     clear BK755
     clear HB
     have HO761 := n0_
     have HO764 := n1_
     have HO767 := n2_
     have BK755 := n3_
     have HB := n4_
     clear n0_ n1_ n2_ n3_ n4_
     clear hb ho18
     refine hK.out _ _ ⟨(blk_cell BK755.out 0).trans rfl, (blk_cell BK755.out 1).trans rfl, (blk_cell BK755.out 2).trans rfl, (blk_cell BK755.out 3).trans rfl⟩ (fun hHeld => ?_)
     clear hK K
     refine norm_ (a' := ?_) ?_ ?_
     rotate_left
     ·
      show Act.put _ (some 17) _ = _
      simp only [Act.put, List.setIfInBounds_toArray, List.set_cons_zero, List.set_cons_succ, i64_w, i32_w]
      rfl
     exact norm_ (by simp only [putAll, Act.put, List.setIfInBounds_toArray, List.set_cons_zero, List.set_cons_succ]) (hCont (v763, v766) _ ⟨hHeld, (by (with_reducible repeat (first | apply Kd.N_alloc | apply Kd.N_drewN | apply Kd.N_drew)); exact Kd.N_mono HO761.out (fun _ hk => ⟨hk.1.2, ⟨hk.2, hk.1.1⟩⟩)), (by (with_reducible repeat (first | apply Kd.R_alloc | apply Kd.R_drewN | apply Kd.R_drew)); exact Kd.R_mono HO764.out (fun _ hk => ⟨hk.2, hk.1.2⟩)), (by (with_reducible repeat (first | apply Kd.R_alloc | apply Kd.R_drewN | apply Kd.R_drew)); exact Kd.R_mono HO767.out (fun _ hk => ⟨hk.1.2, hk.2⟩)), (by (with_reducible repeat (first | refine blk_drewN ?_ _ | refine blk_drew ?_ | refine blk_alloc ?_ _)); exact BK755.out), zb_⟩)
    ·
     skip
     refine Kd.R_lit_step k27 _ 27 ?hg (N := 17) ?hd (xs := ([(⟨(⟨1, 0⟩ : S25), 1, 0⟩ : S27)] : List (S27))) (inner := [.int .u64 1, .int .i64 0, .int .u64 1, .int .i64 0]) (ok := fun _ => True) (okp := fun _ => True) ?hr ?hp (fun _ hk => hk) trivial (Below.refl _ _) (Nat.le_refl _) (by simp) ?_; (case hd => rfl); (case hg => rfl); (case hr => first | (go_simp; done) | (go_simp; rfl)); (case hp => exact (Reps.c4 (show Kd.M k27 _ _ _ (⟨(⟨1, 0⟩ : S25), 1, 0⟩ : S27) [.int .u64 1, .int .i64 0, .int .u64 1, .int .i64 0] from (k27_mkM _ _ _ (⟨(⟨1, 0⟩ : S25), 1, 0⟩ : S27) )) (Reps.none _ _)))
     intro v766 w16 ho17 hb hg_ hnew_
     clear hg_ hnew_
     (first | rw [← Ny765.out] at ho17 | (simp only [Int.reduceToNat] at ho17; rw [← Ny765.out] at ho17))
     have n0_ := Aside0.mk (Kd.N_elder' (zn_ HO761) (Kd.R_base ho17) hb)
     have n1_ := Aside0.mk (Kd.R_lower (Kd.R_newB ho17 (g := gb755) (o := .cells #[.int .u64 1, .int .i64 0, .int .u64 1, .int .i64 0] 27 (0, 0)) (by (with_reducible repeat (first | refine blk_drewN ?_ _ | refine blk_drew ?_ | refine blk_alloc ?_ _)); exact BK755.out)) (below_size zb_))
     have n2_ := zk_ BK755 hb
     have n3_ := Aside0.mk (below_step zb_ hb)
     clear HO761
     clear BK755
     clear HB
     have HO761 := n0_
     have HO767 := n1_
     have BK755 := n2_
     have HB := n3_
     clear n0_ n1_ n2_ n3_
     clear hb ho17
     refine hK.out _ _ ⟨(blk_cell BK755.out 0).trans rfl, (blk_cell BK755.out 1).trans rfl, (blk_cell BK755.out 2).trans rfl, (blk_cell BK755.out 3).trans rfl⟩ (fun hHeld => ?_)
     clear hK K
     refine norm_ (a' := ?_) ?_ ?_
     rotate_left
     ·
      show Act.put _ (some 17) _ = _
      simp only [Act.put, List.setIfInBounds_toArray, List.set_cons_zero, List.set_cons_succ, i64_w, i32_w]
      rfl
     refine one_ (i := 1) (N := some 15) #[T_,T_,T_,T_,F_,F_,F_,F_,F_,F_,F_,F_,F_,F_,F_,F_] rfl rfl (one_of HT_.out (by kernel_rfl)) (by decide) (fun K hK => ?_)
     refine goes_ Try.func62 (by kernel_rfl) rfl #[.slice Ao14 y759.length co14] (by rfl) rfl rfl za_ ?_
     with_reducible refine (exchange_Short.calls k _ _ y759 t762 _ ?side1 ?side2 A1.out).mono ?_
     (case side1 => exact zd_ (Kd.N_reads' HO761.out).2.2)
     (case side2 => exact (Kd.N_reads' HO761.out).2.1)
     rintro e w18 ⟨v763, rfl, ho0, hb⟩
     refine ⟨_, rfl, ?_⟩
     have n0_ := Aside0.mk (Kd.N_elder' (zn_ HO761) (Kd.R_base ho0) hb)
     have n1_ := Aside0.mk (Kd.R_elder' (zr_ HO767) (Kd.R_base ho0) hb)
     have n2_ := Aside0.mk (Kd.R_lower (Kd.R_newB (Kd.R_new' ho0 (Kd.R_lt (zr_ HO767))) (g := gb755) (o := .cells #[.int .u64 1, .int .i64 0, .int .u64 1, .int .i64 0] 27 (0, 0)) (by (with_reducible repeat (first | refine blk_drewN ?_ _ | refine blk_drew ?_ | refine blk_alloc ?_ _)); exact BK755.out)) (below_size zb_))
     have n3_ := zk_ BK755 hb
     have n4_ := Aside0.mk (below_step zb_ hb)
     clear HO761
     clear HO767
     clear BK755
     clear HB
     have HO761 := n0_
     have HO767 := n1_
     have HO764 := n2_
     have BK755 := n3_
     have HB := n4_
     clear n0_ n1_ n2_ n3_ n4_
     (try clear hb)
     (try clear hb2)
     (try clear hk)
     (try clear hi)
     (try clear ho0)
     refine hK.out _ _ ⟨(blk_cell BK755.out 0).trans rfl, (blk_cell BK755.out 1).trans rfl, (blk_cell BK755.out 2).trans rfl, (blk_cell BK755.out 3).trans rfl⟩ (fun hHeld => ?_)
     clear hK K
     refine norm_ (a' := ?_) ?_ ?_
     rotate_left
     ·
      show Act.put _ (some 15) _ = _
      simp only [Act.put, List.setIfInBounds_toArray, List.set_cons_zero, List.set_cons_succ, i64_w, i32_w]
      rfl
     exact norm_ (by simp only [putAll, Act.put, List.setIfInBounds_toArray, List.set_cons_zero, List.set_cons_succ]) (hCont (v763, v766) _ ⟨hHeld, (by (with_reducible repeat (first | apply Kd.N_alloc | apply Kd.N_drewN | apply Kd.N_drew)); exact Kd.N_mono HO761.out (fun _ hk => ⟨hk.2, ⟨hk.1.2, hk.1.1⟩⟩)), (by (with_reducible repeat (first | apply Kd.R_alloc | apply Kd.R_drewN | apply Kd.R_drew)); exact Kd.R_mono HO764.out (fun _ hk => ⟨hk.1.2, hk.2⟩)), (by (with_reducible repeat (first | apply Kd.R_alloc | apply Kd.R_drewN | apply Kd.R_drew)); exact Kd.R_mono HO767.out (fun _ hk => ⟨hk.2, hk.1.2⟩)), (by (with_reducible repeat (first | refine blk_drewN ?_ _ | refine blk_drew ?_ | refine blk_alloc ?_ _)); exact BK755.out), zb_⟩)
   rintro ⟨v763, v766⟩ w19 ⟨hS_, h0_, h1_, h2_, h3_, h4_⟩
   have n0_ : Aside0 (Kd.N k87 87 w19 w.heap.size (fun k_ => some k_ ≠ (v763 : Value).ownBlock ∧ some k_ ≠ (v766 : Value).ownBlock ∧ k_ ≠ gb755) (.slice Ao14 y759.length co14) y759) := ⟨h0_⟩
   have n1_ : Aside0 (Kd.R k27 27 w19 w.heap.size (fun k_ => some k_ ≠ (v766 : Value).ownBlock ∧ k_ ≠ gb755) v763 t762) := ⟨h1_⟩
   have n2_ : Aside0 (Kd.R k27 27 w19 w.heap.size (fun k_ => some k_ ≠ (v763 : Value).ownBlock ∧ k_ ≠ gb755) v766 y765) := ⟨h2_⟩
   have n3_ : Aside0 (w19.heap[gb755]? = some (.cells #[.int .u64 1, .int .i64 0, .int .u64 1, .int .i64 0] 27 (0, 0))) := ⟨h3_⟩
   have n4_ : Aside0 (Below w.heap.size w w19) := ⟨h4_⟩
   clear HO761
   clear BK755
   clear HB
   clear h0_ h1_ h2_ h3_ h4_
   have HO761 := n0_
   have HO764 := n1_
   have HO767 := n2_
   have BK755 := n3_
   have HB := n4_
   clear n0_ n1_ n2_ n3_ n4_
   have hHeld : w19.cell? ⟨gb755, 0, none⟩ = some (.int .u64 1) ∧ w19.cell? ⟨gb755, 1, none⟩ = some (.int .i64 0) ∧ w19.cell? ⟨gb755, 2, none⟩ = some (.int .u64 1) ∧ w19.cell? ⟨gb755, 3, none⟩ = some (.int .i64 0) := hS_
   obtain ⟨Ao20, co20, eo20⟩ := Kd.R_slice HO764.out
   (first | subst eo20 | (injection eo20 with f1_ f2_ f3_; have f4_ := f1_.symm; have f5_ := f3_.symm; clear f1_ f2_ f3_; subst f4_; subst f5_))
   obtain ⟨Ao21, co21, eo21⟩ := Kd.R_slice HO767.out
   (first | subst eo21 | (injection eo21 with f1_ f2_ f3_; have f4_ := f1_.symm; have f5_ := f3_.symm; clear f1_ f2_ f3_; subst f4_; subst f5_))
   refine norm_ (a' := ?_) ?_ ?_
   rotate_left
   ·
    simp only [putAll, Act.put, List.setIfInBounds_toArray, List.set_cons_zero, List.set_cons_succ]
    rfl
   refine one_ (i := 4) (N := some 18) #[T_,T_,T_,T_,T_,F_,F_,F_,F_,F_,F_,F_,F_,F_,F_,F_] rfl rfl (one_of HT_.out (by kernel_rfl)) (by decide) (fun K hK => ?_)
   refine goes_ Try.func30 (by kernel_rfl) rfl #[.slice Ao20 t762.length co20, .slice Ao21 y765.length co21] (by rfl) rfl rfl za_ ?_
   with_reducible refine (folkmootref05_Same.calls k _ _ t762 _ _ y765 true _ ?side1 ?side2 ?side3 ?side4 A2.out).mono ?_
   (case side1 => exact zd_ (Kd.R_reads' HO764.out).2.2)
   (case side2 => exact (Kd.R_reads' HO764.out).2.1)
   (case side3 => exact zd_ (Kd.R_reads' HO767.out).2.2)
   (case side4 => exact (Kd.R_reads' HO767.out).2.1)
   rintro e w' ⟨rfl, ⟨nd, rfl⟩⟩
   refine ⟨_, rfl, ?_⟩
   refine hK.out _ _ ⟨(blk_cell BK755.out 0).trans rfl, (blk_cell BK755.out 1).trans rfl, (blk_cell BK755.out 2).trans rfl, (blk_cell BK755.out 3).trans rfl⟩ (fun hHeld => ?_)
   clear hK K
   refine norm_ (a' := ?_) ?_ ?_
   rotate_left
   ·
    show Act.put _ (some 18) _ = _
    simp only [Act.put, List.setIfInBounds_toArray, List.set_cons_zero, List.set_cons_succ, i64_w, i32_w]
    rfl
   refine pure_ (i := 5) (N := some 19) (v := ?_) (a' := ?_) #[T_,T_,T_,T_,T_,T_,F_,F_,F_,F_,F_,F_,F_,F_,F_,F_] rfl rfl (any_of HT_.out (by kernel_rfl)) (fun _ _ _ h => h) (Or.inl ⟨by rfl, ?_⟩) ?_ ?_
   rotate_left
   ·
    intro w'; go_simp; with_reducible rfl
   rotate_left
   ·
    exact zp_
   refine pure_ (i := 6) (N := some 20) (v := ?_) (a' := ?_) #[T_,T_,T_,T_,T_,T_,T_,F_,F_,F_,F_,F_,F_,F_,F_,F_] rfl rfl (any_of HT_.out (by kernel_rfl)) (fun _ _ _ h => h) (Or.inl ⟨by rfl, ?_⟩) ?_ ?_
   rotate_left
   ·
    intro w'; go_simp; with_reducible rfl
   rotate_left
   ·
    exact zp_
   refine one_ (i := 7) (N := some 21) #[T_,T_,T_,T_,T_,T_,T_,T_,F_,F_,F_,F_,F_,F_,F_,F_] rfl rfl (one_of HT_.out (by kernel_rfl)) (by decide) (fun K hK => ?_)
   refine goes_ Try.func61 (by kernel_rfl) rfl #[.slice Ao14 y759.length co14] (by rfl) rfl rfl za_ ?_
   with_reducible refine (exchange_Chosen.calls k _ _ y759 t769 _ ?side1 ?side2 A4.out).mono ?_
   (case side1 => exact zd_ (Kd.N_reads' HO761.out).2.2)
   (case side2 => exact (Kd.N_reads' HO761.out).2.1)
   rintro e w22 ⟨rfl, hb⟩
   refine ⟨_, rfl, ?_⟩
   have n0_ := Aside0.mk (Kd.N_below (zn_ HO761) hb)
   have n1_ := Aside0.mk (Kd.R_below (zr_ HO764) hb)
   have n2_ := Aside0.mk (Kd.R_below (zr_ HO767) hb)
   have n3_ := zk_ BK755 hb
   have n4_ := Aside0.mk (below_step zb_ hb)
   clear HO761
   clear HO764
   clear HO767
   clear BK755
   clear HB
   have HO761 := n0_
   have HO764 := n1_
   have HO767 := n2_
   have BK755 := n3_
   have HB := n4_
   clear n0_ n1_ n2_ n3_ n4_
   (try clear hb)
   (try clear hb2)
   (try clear hk)
   (try clear hi)
   refine hK.out _ _ ⟨(blk_cell BK755.out 0).trans rfl, (blk_cell BK755.out 1).trans rfl, (blk_cell BK755.out 2).trans rfl, (blk_cell BK755.out 3).trans rfl⟩ (fun hHeld => ?_)
   clear hK K
   refine norm_ (a' := ?_) ?_ ?_
   rotate_left
   ·
    show Act.put _ (some 21) _ = _
    simp only [Act.put, List.setIfInBounds_toArray, List.set_cons_zero, List.set_cons_succ, i64_w, i32_w]
    rfl
   refine pure_ (i := 8) (N := some 22) (v := ?_) (a' := ?_) #[T_,T_,T_,T_,T_,T_,T_,T_,T_,F_,F_,F_,F_,F_,F_,F_] rfl rfl (any_of HT_.out (by kernel_rfl)) (fun _ _ _ h => h) (Or.inl ⟨by rfl, ?_⟩) ?_ ?_
   rotate_left
   ·
    intro w'; go_simp; with_reducible rfl
   rotate_left
   ·
    exact zp_
   refine pure_ (i := 9) (N := some 23) (v := ?_) (a' := ?_) #[T_,T_,T_,T_,T_,T_,T_,T_,T_,T_,F_,F_,F_,F_,F_,F_] rfl rfl (any_of HT_.out (by kernel_rfl)) (fun _ _ _ h => h) (Or.inl ⟨by rfl, ?_⟩) ?_ ?_
   rotate_left
   ·
    intro w'; go_simp; with_reducible rfl
   rotate_left
   ·
    exact zp_
   refine pure_ (i := 10) (N := some 24) (v := ?_) (a' := ?_) #[T_,T_,T_,T_,T_,T_,T_,T_,T_,T_,T_,F_,F_,F_,F_,F_] rfl rfl (any_of HT_.out (by kernel_rfl)) (fun _ _ _ h => h) (Or.inl ⟨by rfl, ?_⟩) ?_ ?_
   rotate_left
   ·
    intro w'; go_simp; with_reducible rfl
   rotate_left
   ·
    exact zp_
   refine pure_ (i := 11) (N := some 25) (v := ?_) (a' := ?_) #[T_,T_,T_,T_,T_,T_,T_,T_,T_,T_,T_,T_,F_,F_,F_,F_] rfl rfl (any_of HT_.out (by kernel_rfl)) (fun _ _ _ h => h) (Or.inl ⟨by rfl, ?_⟩) ?_ ?_
   rotate_left
   ·
    intro w'; go_simp; with_reducible rfl
   rotate_left
   ·
    exact zp_
   refine one_ (i := 12) (N := some 26) #[T_,T_,T_,T_,T_,T_,T_,T_,T_,T_,T_,T_,T_,F_,F_,F_] rfl rfl (one_of HT_.out (by kernel_rfl)) (by decide) (fun K hK => ?_)
   refine goes_ Try.func68 (by kernel_rfl) rfl #[.slice Ao14 y759.length co14] (by rfl) rfl rfl za_ ?_
   with_reducible refine (exchange_Next.calls k _ _ y759 t770 _ ?side1 ?side2 A6.out).mono ?_
   (case side1 => exact zd_ (Kd.N_reads' HO761.out).2.2)
   (case side2 => exact (Kd.N_reads' HO761.out).2.1)
   rintro e w23 ⟨rfl, hb⟩
   refine ⟨_, rfl, ?_⟩
   have n0_ := Aside0.mk (Kd.N_below (zn_ HO761) hb)
   have n1_ := Aside0.mk (Kd.R_below (zr_ HO764) hb)
   have n2_ := Aside0.mk (Kd.R_below (zr_ HO767) hb)
   have n3_ := zk_ BK755 hb
   have n4_ := Aside0.mk (below_step zb_ hb)
   clear HO761
   clear HO764
   clear HO767
   clear BK755
   clear HB
   have HO761 := n0_
   have HO764 := n1_
   have HO767 := n2_
   have BK755 := n3_
   have HB := n4_
   clear n0_ n1_ n2_ n3_ n4_
   (try clear hb)
   (try clear hb2)
   (try clear hk)
   (try clear hi)
   refine hK.out _ _ ⟨(blk_cell BK755.out 0).trans rfl, (blk_cell BK755.out 1).trans rfl, (blk_cell BK755.out 2).trans rfl, (blk_cell BK755.out 3).trans rfl⟩ (fun hHeld => ?_)
   clear hK K
   refine norm_ (a' := ?_) ?_ ?_
   rotate_left
   ·
    show Act.put _ (some 26) _ = _
    simp only [Act.put, List.setIfInBounds_toArray, List.set_cons_zero, List.set_cons_succ, i64_w, i32_w]
    rfl
   refine pure_ (i := 13) (N := some 27) (v := ?_) (a' := ?_) #[T_,T_,T_,T_,T_,T_,T_,T_,T_,T_,T_,T_,T_,T_,F_,F_] rfl rfl (any_of HT_.out (by kernel_rfl)) (fun _ _ _ h => h) (Or.inl ⟨by rfl, ?_⟩) ?_ ?_
   rotate_left
   ·
    intro w'; go_simp; with_reducible rfl
   rotate_left
   ·
    exact zp_
   refine pure_ (i := 14) (N := some 28) (v := ?_) (a' := ?_) #[T_,T_,T_,T_,T_,T_,T_,T_,T_,T_,T_,T_,T_,T_,T_,F_] rfl rfl (any_of HT_.out (by kernel_rfl)) (fun _ _ _ h => h) (Or.inl ⟨by rfl, ?_⟩) ?_ ?_
   rotate_left
   ·
    intro w'; go_simp; with_reducible rfl
   rotate_left
   ·
    exact zp_
   refine pure_ (i := 15) (N := some 0) (v := ?_) (a' := ?_) #[T_,T_,T_,T_,T_,T_,T_,T_,T_,T_,T_,T_,T_,T_,T_,T_] rfl rfl (any_of HT_.out (by kernel_rfl)) (fun _ _ _ h => h) (Or.inl ⟨by rfl, ?_⟩) ?_ ?_
   rotate_left
   ·
    intro w'; go_simp; with_reducible rfl
   rotate_left
   ·
    exact zp_
   refine done_ (done_of HT_.out (by kernel_rfl)) ?_
   (try clear hHeld); (try clear HS0_)
   try go_wp2
   go_ret
   exact ⟨by first | rfl | (simp [errW_none, errW_some] <;> rfl) | (simp [*, errW_none, errW_some] <;> rfl), by repeat (first | (with_reducible first | exact HB.out | apply below_alloc | apply pw_below_drewN | apply below_drew1 | refine below_set ?_ GE755.out) | exact HB.out)⟩
  ·
   rw [if_neg c5] at H
   have c5b0 : (t769 == 1) = false := beq_eq_false_iff_ne.mpr c5
   have c5b1 : (t769 != 1) = true := bne_iff_ne.mpr c5
   obtain rfl := Option.some.inj H
   go_enter Try.func55, Try.ntmps55
   try go_wp2_with (first | ((with_reducible refine gate_dst (N := 1) rfl ?_); refine box_event ?hg (N := 1) ?hd (cs := #[.int .u64 0, .int .i64 0, .int .u64 0, .int .i64 0]) (t := 27) ?hr ?_; (case hd => rfl); (case hg => rfl); (case hr => first | (go_simp; done) | (go_simp; rfl)); intro gb755 hg w24 hbox hb; have n0_ := Aside0.mk (below_step zb_ hb); have n1_ := Aside0.mk (hbox); have n2_ := Aside0.mk ((by rw [hg]; exact (below_size zb_) : w.heap.size ≤ gb755)); have n3_ := Aside0.mk ((by rw [hg]; exact (below_size zb_) : w.heap.size ≤ gb755)); clear HB; have HB := n0_; have BK755 := n1_; have GW755 := n2_; have GE755 := n3_; clear n0_ n1_ n2_ n3_; clear hb hbox hg; have hcz25_0 : w24.cell? ⟨gb755, 0, none⟩ = some (.int .u64 0) := (blk_cell BK755.out 0).trans rfl; have hcz25_1 : w24.cell? ⟨gb755, 1, none⟩ = some (.int .i64 0) := (blk_cell BK755.out 1).trans rfl; have hcz25_2 : w24.cell? ⟨gb755, 2, none⟩ = some (.int .u64 0) := (blk_cell BK755.out 2).trans rfl; have hcz25_3 : w24.cell? ⟨gb755, 3, none⟩ = some (.int .i64 0) := (blk_cell BK755.out 3).trans rfl; have hfz25_0 := blk_frozen BK755.out 0; have hfz25_1 := blk_frozen BK755.out 1; have hfz25_2 := blk_frozen BK755.out 2; have hfz25_3 := blk_frozen BK755.out 3) | ((with_reducible refine gate_dst (N := 10) rfl ?_); refine Kd.R_lit k27 _ 27 ?hg (N := 10) ?hd (xs := ([(⟨(⟨1, 0⟩ : S25), 1, 0⟩ : S27)] : List (S27))) (inner := [.int .u64 1, .int .i64 0, .int .u64 1, .int .i64 0]) (ok := fun _ => True) (okp := fun _ => True) ?hr ?hp (fun _ hk => hk) trivial (Below.refl _ _) (Nat.le_refl _) (by simp) ?_; (case hd => rfl); (case hg => rfl); (case hr => first | (go_simp; done) | (go_simp; rfl)); (case hp => exact (Reps.c4 (show Kd.M k27 _ _ _ (⟨(⟨1, 0⟩ : S25), 1, 0⟩ : S27) [.int .u64 1, .int .i64 0, .int .u64 1, .int .i64 0] from (k27_mkM _ _ _ (⟨(⟨1, 0⟩ : S25), 1, 0⟩ : S27) )) (Reps.none _ _))); intro v757 w26 ho27 hb hg_ hnew_; clear hg_ hnew_; (first | rw [← Ny756.out] at ho27 | (simp only [Int.reduceToNat] at ho27; rw [← Ny756.out] at ho27)); have n0_ := Aside0.mk (Kd.R_lower (Kd.R_newB ho27 (g := gb755) (o := .cells #[.int .u64 1, .int .i64 0, .int .u64 1, .int .i64 0] 27 (0, 0)) (by (with_reducible repeat (first | refine blk_drewN ?_ _ | refine blk_drew ?_ | refine blk_alloc ?_ _)); refine blk_put (cs := #[.int .u64 1, .int .i64 0, .int .u64 1, .int .i64 0]) ?_ 3 _ rfl; (with_reducible repeat (first | refine blk_drewN ?_ _ | refine blk_drew ?_ | refine blk_alloc ?_ _)); refine blk_put (cs := #[.int .u64 1, .int .i64 0, .int .u64 0, .int .i64 0]) ?_ 2 _ rfl; (with_reducible repeat (first | refine blk_drewN ?_ _ | refine blk_drew ?_ | refine blk_alloc ?_ _)); refine blk_put (cs := #[.int .u64 1, .int .i64 0, .int .u64 0, .int .i64 0]) ?_ 1 _ rfl; (with_reducible repeat (first | refine blk_drewN ?_ _ | refine blk_drew ?_ | refine blk_alloc ?_ _)); refine blk_put (cs := #[.int .u64 0, .int .i64 0, .int .u64 0, .int .i64 0]) ?_ 0 _ rfl; (with_reducible repeat (first | refine blk_drewN ?_ _ | refine blk_drew ?_ | refine blk_alloc ?_ _)); exact BK755.out)) (below_size zb_)); have n1_ := Aside0.mk (blk_below (g := gb755) (o := .cells #[.int .u64 1, .int .i64 0, .int .u64 1, .int .i64 0] 27 (0, 0)) (by (with_reducible repeat (first | refine blk_drewN ?_ _ | refine blk_drew ?_ | refine blk_alloc ?_ _)); refine blk_put (cs := #[.int .u64 1, .int .i64 0, .int .u64 1, .int .i64 0]) ?_ 3 _ rfl; (with_reducible repeat (first | refine blk_drewN ?_ _ | refine blk_drew ?_ | refine blk_alloc ?_ _)); refine blk_put (cs := #[.int .u64 1, .int .i64 0, .int .u64 0, .int .i64 0]) ?_ 2 _ rfl; (with_reducible repeat (first | refine blk_drewN ?_ _ | refine blk_drew ?_ | refine blk_alloc ?_ _)); refine blk_put (cs := #[.int .u64 1, .int .i64 0, .int .u64 0, .int .i64 0]) ?_ 1 _ rfl; (with_reducible repeat (first | refine blk_drewN ?_ _ | refine blk_drew ?_ | refine blk_alloc ?_ _)); refine blk_put (cs := #[.int .u64 0, .int .i64 0, .int .u64 0, .int .i64 0]) ?_ 0 _ rfl; (with_reducible repeat (first | refine blk_drewN ?_ _ | refine blk_drew ?_ | refine blk_alloc ?_ _)); exact BK755.out) hb); have n2_ := Aside0.mk (below_step zb_ hb); clear BK755; clear HB; have HO758 := n0_; have BK755 := n1_; have HB := n2_; clear n0_ n1_ n2_; clear hb ho27; obtain ⟨Ao28, co28, eo28⟩ := Kd.R_slice HO758.out; subst eo28) | ((with_reducible refine gate_dst (N := 13) rfl ?_); refine Kd.N_lit k87 _ 87 ?hg (N' := 13) ?hd (xs := ([(⟨0, (⟨([] : List (S32)), ([] : List (S27)), 1, (⟨1, 0⟩ : S25)⟩ : S53)⟩ : S87), (⟨1, (⟨([] : List (S32)), y756, 2, (⟨2, 0⟩ : S25)⟩ : S53)⟩ : S87)] : List (S87))) (inner := [.int .i64 0, .slice none 0 0, .slice none 0 0, .int .i64 1, .int .u64 1, .int .i64 0, .int .i64 1, .slice none 0 0, .slice Ao28 y756.length co28, .int .i64 2, .int .u64 2, .int .i64 0]) (ok := (fun k_ => k_ ≠ gb755)) (okp := (fun k_ => k_ ≠ gb755)) ?hr ?hp (fun _ hk => hk) ((show ∀ k_, w26.heap.size ≤ k_ → (fun k_ => k_ ≠ gb755) k_ from fun k_ hk => Kd.freshB (g := gb755) (o := .cells #[.int .u64 1, .int .i64 0, .int .u64 1, .int .i64 0] 27 (0, 0)) (by (with_reducible repeat (first | refine blk_drewN ?_ _ | refine blk_drew ?_ | refine blk_alloc ?_ _)); exact BK755.out) k_ hk) _ (Nat.le_refl _)) (Below.refl _ _) (Nat.le_refl _) (by simp) ?_; (case hd => rfl); (case hg => rfl); (case hr => first | (go_simp; done) | (go_simp; rfl)); (case hp => exact (Reps.c6 (show Kd.FK k87 _ _ (⟨0, (⟨([] : List (S32)), ([] : List (S27)), 1, (⟨1, 0⟩ : S25)⟩ : S53)⟩ : S87) [.int .i64 0, .slice none 0 0, .slice none 0 0, .int .i64 1, .int .u64 1, .int .i64 0] from (k87_mkF _ _ (⟨0, (⟨([] : List (S32)), ([] : List (S27)), 1, (⟨1, 0⟩ : S25)⟩ : S53)⟩ : S87) (Nat.le_refl _) (Kd.F_nil _ _ _) (Nat.le_refl _) (Kd.F_nil _ _ _))) (Reps.c6 (show Kd.FK k87 _ _ (⟨1, (⟨([] : List (S32)), y756, 2, (⟨2, 0⟩ : S25)⟩ : S53)⟩ : S87) [.int .i64 1, .slice none 0 0, .slice Ao28 y756.length co28, .int .i64 2, .int .u64 2, .int .i64 0] from (k87_mkF _ _ (⟨1, (⟨([] : List (S32)), y756, 2, (⟨2, 0⟩ : S25)⟩ : S53)⟩ : S87) (Nat.le_refl _) (Kd.F_nil _ _ _) (Kd.R_reads' (Kd.R_mono (ok' := (fun k_ => k_ ≠ gb755)) (HO758.out) (fun k_ hk => hk.2))).2.1 (Kd.R_F (Kd.R_mono (ok' := (fun k_ => k_ ≠ gb755)) (HO758.out) (fun k_ hk => hk.2))))) (Reps.none _ _)))); intro v760 w29 ho30 hb hg_ hnew_; clear hg_ hnew_; (first | rw [← Ny759.out] at ho30 | (simp only [Int.reduceToNat] at ho30; rw [← Ny759.out] at ho30)); have n0_ := Aside0.mk (Kd.N_lower ho30 (below_size zb_)); have n1_ := zk_ BK755 hb; have n2_ := Aside0.mk (below_step zb_ hb); clear BK755; clear HB; clear HO758; have HO761 := n0_; have BK755 := n1_; have HB := n2_; clear n0_ n1_ n2_; clear hb ho30; obtain ⟨Ao31, co31, eo31⟩ := Kd.N_slice HO761.out; subst eo31))
   have n0_ := Aside0.mk (Kd.N_drew HO761.out)
   have n1_ := Aside0.mk (blk_drew BK755.out)
   have n2_ := Aside0.mk (below_drew1 HB.out)
   clear HO761
   clear BK755
   clear HB
   have HO761 := n0_
   have BK755 := n1_
   have HB := n2_
   clear n0_ n1_ n2_
   refine start_ (n := 16) (S := fun w' => w'.cell? ⟨gb755, 0, none⟩ = some (.int .u64 1) ∧ w'.cell? ⟨gb755, 1, none⟩ = some (.int .i64 0) ∧ w'.cell? ⟨gb755, 2, none⟩ = some (.int .u64 1) ∧ w'.cell? ⟨gb755, 3, none⟩ = some (.int .i64 0)) (ds := []) #[F_,F_,F_,F_,F_,F_,F_,F_,F_,F_,F_,F_,F_,F_,F_,F_] (by kernel_rfl) rfl rfl ⟨(blk_cell BK755.out 0).trans rfl, (blk_cell BK755.out 1).trans rfl, (blk_cell BK755.out 2).trans rfl, (blk_cell BK755.out 3).trans rfl⟩ (fun hHeld => ?_); refine with_tabW folkmootlaw16_awake.tab3 folkmootlaw16_awake.bits3 (fun HT_ HW_ => ?_)
   generalize w29.drew = w32 at HO761 BK755 HB hHeld ⊢
   refine pure_ (i := 0) (N := some 14) (v := ?_) (a' := ?_) #[T_,F_,F_,F_,F_,F_,F_,F_,F_,F_,F_,F_,F_,F_,F_,F_] rfl rfl (any_of HT_.out (by kernel_rfl)) (fun _ _ _ h => h) (Or.inl ⟨by rfl, ?_⟩) ?_ ?_
   rotate_left
   ·
    intro w'; go_simp; with_reducible rfl
   rotate_left
   ·
    exact zp_
   refine take_ (i := 2) (N := some 16) (v := ?_) (a' := ?_) #[T_,F_,T_,F_,F_,F_,F_,F_,F_,F_,F_,F_,F_,F_,F_,F_] rfl rfl (take_ofW HT_.out HW_.out (by kernel_rfl)) (fun _ _ _ h => h) (Or.inl ⟨by rfl, ?_⟩) hHeld ?_ ?_
   rotate_left
   ·
    rintro w' ⟨s0, s1, s2, s3⟩
    go_simp
    with_reducible rfl
   rotate_left
   ·
    exact zp_
   refine join_ (σ := Value × Value) 12 #[T_,T_,T_,T_,F_,F_,F_,F_,F_,F_,F_,F_,F_,F_,F_,F_] (fun s_ => [(15, s_.1), (17, s_.2)]) (fun s_ w' => (w'.cell? ⟨gb755, 0, none⟩ = some (.int .u64 1) ∧ w'.cell? ⟨gb755, 1, none⟩ = some (.int .i64 0) ∧ w'.cell? ⟨gb755, 2, none⟩ = some (.int .u64 1) ∧ w'.cell? ⟨gb755, 3, none⟩ = some (.int .i64 0)) ∧ (Kd.N k87 87 w' w.heap.size (fun k_ => some k_ ≠ (s_.1 : Value).ownBlock ∧ some k_ ≠ (s_.2 : Value).ownBlock ∧ k_ ≠ gb755) (.slice Ao31 y759.length co31) y759) ∧ (Kd.R k27 27 w' w.heap.size (fun k_ => some k_ ≠ (s_.2 : Value).ownBlock ∧ k_ ≠ gb755) s_.1 t762) ∧ (Kd.R k27 27 w' w.heap.size (fun k_ => some k_ ≠ (s_.1 : Value).ownBlock ∧ k_ ≠ gb755) s_.2 y765) ∧ (w'.heap[gb755]? = some (.cells #[.int .u64 1, .int .i64 0, .int .u64 1, .int .i64 0] 27 (0, 0))) ∧ (Below w.heap.size w w')) ?_ ?_
   rotate_left
   ·
    intro hCont
    refine two_ (i := 1) (j := 3) (Ni := some 15) (Nj := some 17) #[T_,T_,T_,F_,F_,F_,F_,F_,F_,F_,F_,F_,F_,F_,F_,F_] #[T_,F_,T_,T_,F_,F_,F_,F_,F_,F_,F_,F_,F_,F_,F_,F_] rfl rfl rfl rfl (two_of HT_.out (by kernel_rfl)) (by decide) (by decide) (fun K hK => ?_) (fun K hK => ?_)
    ·
     skip
     refine goes_ Try.func62 (by kernel_rfl) rfl #[.slice Ao31 y759.length co31] (by rfl) rfl rfl za_ ?_
     with_reducible refine (exchange_Short.calls k _ _ y759 t762 _ ?side1 ?side2 A1.out).mono ?_
     (case side1 => exact zd_ (Kd.N_reads' HO761.out).2.2)
     (case side2 => exact (Kd.N_reads' HO761.out).2.1)
     rintro e w33 ⟨v763, rfl, ho0, hb⟩
     refine ⟨_, rfl, ?_⟩
     have n0_ := Aside0.mk (Kd.N_elder' (zn_ HO761) (Kd.R_base ho0) hb)
     have n1_ := Aside0.mk (Kd.R_lower (Kd.R_newB ho0 (g := gb755) (o := .cells #[.int .u64 1, .int .i64 0, .int .u64 1, .int .i64 0] 27 (0, 0)) (by (with_reducible repeat (first | refine blk_drewN ?_ _ | refine blk_drew ?_ | refine blk_alloc ?_ _)); exact BK755.out)) (below_size zb_))
     have n2_ := zk_ BK755 hb
     have n3_ := Aside0.mk (below_step zb_ hb)
     clear HO761
     clear BK755
     clear HB
     have HO761 := n0_
     have HO764 := n1_
     have BK755 := n2_
     have HB := n3_
     clear n0_ n1_ n2_ n3_
     (try clear hb)
     (try clear hb2)
     (try clear hk)
     (try clear hi)
     (try clear ho0)
     refine hK.out _ _ ⟨(blk_cell BK755.out 0).trans rfl, (blk_cell BK755.out 1).trans rfl, (blk_cell BK755.out 2).trans rfl, (blk_cell BK755.out 3).trans rfl⟩ (fun hHeld => ?_)
     clear hK K
     refine norm_ (a' := ?_) ?_ ?_
     rotate_left
     ·
      show Act.put _ (some 15) _ = _
      simp only [Act.put, List.setIfInBounds_toArray, List.set_cons_zero, List.set_cons_succ, i64_w, i32_w]
      rfl
     refine one_ (i := 3) (N := some 17) #[T_,T_,T_,T_,F_,F_,F_,F_,F_,F_,F_,F_,F_,F_,F_,F_] rfl rfl (one_of HT_.out (by kernel_rfl)) (by decide) (fun K hK => ?_)
     refine Kd.R_lit_step k27 _ 27 ?hg (N := 17) ?hd (xs := ([(⟨(⟨1, 0⟩ : S25), 1, 0⟩ : S27)] : List (S27))) (inner := [.int .u64 1, .int .i64 0, .int .u64 1, .int .i64 0]) (ok := fun _ => True) (okp := fun _ => True) ?hr ?hp (fun _ hk => hk) trivial (Below.refl _ _) (Nat.le_refl _) (by simp) ?_; (case hd => rfl); (case hg => rfl); (case hr => first | (go_simp; done) | (go_simp; rfl)); (case hp => exact (Reps.c4 (show Kd.M k27 _ _ _ (⟨(⟨1, 0⟩ : S25), 1, 0⟩ : S27) [.int .u64 1, .int .i64 0, .int .u64 1, .int .i64 0] from (k27_mkM _ _ _ (⟨(⟨1, 0⟩ : S25), 1, 0⟩ : S27) )) (Reps.none _ _)))
     intro v766 w34 ho35 hb hg_ hnew_
     clear hg_ hnew_
     (first | rw [← Ny765.out] at ho35 | (simp only [Int.reduceToNat] at ho35; rw [← Ny765.out] at ho35))
     have n0_ := Aside0.mk (Kd.N_elder' (zn_ HO761) (Kd.R_base ho35) hb)
     have n1_ := Aside0.mk (Kd.R_elder' (zr_ HO764) (Kd.R_base ho35) hb)
     have n2_ := Aside0.mk (Kd.R_lower (Kd.R_newB (Kd.R_new' ho35 (Kd.R_lt (zr_ HO764))) (g := gb755) (o := .cells #[.int .u64 1, .int .i64 0, .int .u64 1, .int .i64 0] 27 (0, 0)) (by (with_reducible repeat (first | refine blk_drewN ?_ _ | refine blk_drew ?_ | refine blk_alloc ?_ _)); exact BK755.out)) (below_size zb_))
     have n3_ := zk_ BK755 hb
     have n4_ := Aside0.mk (below_step zb_ hb)
     clear HO761
     clear HO764
     clear BK755
     clear HB
     have HO761 := n0_
     have HO764 := n1_
     have HO767 := n2_
     have BK755 := n3_
     have HB := n4_
     clear n0_ n1_ n2_ n3_ n4_
     clear hb ho35
     refine hK.out _ _ ⟨(blk_cell BK755.out 0).trans rfl, (blk_cell BK755.out 1).trans rfl, (blk_cell BK755.out 2).trans rfl, (blk_cell BK755.out 3).trans rfl⟩ (fun hHeld => ?_)
     clear hK K
     refine norm_ (a' := ?_) ?_ ?_
     rotate_left
     ·
      show Act.put _ (some 17) _ = _
      simp only [Act.put, List.setIfInBounds_toArray, List.set_cons_zero, List.set_cons_succ, i64_w, i32_w]
      rfl
     exact norm_ (by simp only [putAll, Act.put, List.setIfInBounds_toArray, List.set_cons_zero, List.set_cons_succ]) (hCont (v763, v766) _ ⟨hHeld, (by (with_reducible repeat (first | apply Kd.N_alloc | apply Kd.N_drewN | apply Kd.N_drew)); exact Kd.N_mono HO761.out (fun _ hk => ⟨hk.1.2, ⟨hk.2, hk.1.1⟩⟩)), (by (with_reducible repeat (first | apply Kd.R_alloc | apply Kd.R_drewN | apply Kd.R_drew)); exact Kd.R_mono HO764.out (fun _ hk => ⟨hk.2, hk.1.2⟩)), (by (with_reducible repeat (first | apply Kd.R_alloc | apply Kd.R_drewN | apply Kd.R_drew)); exact Kd.R_mono HO767.out (fun _ hk => ⟨hk.1.2, hk.2⟩)), (by (with_reducible repeat (first | refine blk_drewN ?_ _ | refine blk_drew ?_ | refine blk_alloc ?_ _)); exact BK755.out), zb_⟩)
    ·
     skip
     refine Kd.R_lit_step k27 _ 27 ?hg (N := 17) ?hd (xs := ([(⟨(⟨1, 0⟩ : S25), 1, 0⟩ : S27)] : List (S27))) (inner := [.int .u64 1, .int .i64 0, .int .u64 1, .int .i64 0]) (ok := fun _ => True) (okp := fun _ => True) ?hr ?hp (fun _ hk => hk) trivial (Below.refl _ _) (Nat.le_refl _) (by simp) ?_; (case hd => rfl); (case hg => rfl); (case hr => first | (go_simp; done) | (go_simp; rfl)); (case hp => exact (Reps.c4 (show Kd.M k27 _ _ _ (⟨(⟨1, 0⟩ : S25), 1, 0⟩ : S27) [.int .u64 1, .int .i64 0, .int .u64 1, .int .i64 0] from (k27_mkM _ _ _ (⟨(⟨1, 0⟩ : S25), 1, 0⟩ : S27) )) (Reps.none _ _)))
     intro v766 w33 ho34 hb hg_ hnew_
     clear hg_ hnew_
     (first | rw [← Ny765.out] at ho34 | (simp only [Int.reduceToNat] at ho34; rw [← Ny765.out] at ho34))
     have n0_ := Aside0.mk (Kd.N_elder' (zn_ HO761) (Kd.R_base ho34) hb)
     have n1_ := Aside0.mk (Kd.R_lower (Kd.R_newB ho34 (g := gb755) (o := .cells #[.int .u64 1, .int .i64 0, .int .u64 1, .int .i64 0] 27 (0, 0)) (by (with_reducible repeat (first | refine blk_drewN ?_ _ | refine blk_drew ?_ | refine blk_alloc ?_ _)); exact BK755.out)) (below_size zb_))
     have n2_ := zk_ BK755 hb
     have n3_ := Aside0.mk (below_step zb_ hb)
     clear HO761
     clear BK755
     clear HB
     have HO761 := n0_
     have HO767 := n1_
     have BK755 := n2_
     have HB := n3_
     clear n0_ n1_ n2_ n3_
     clear hb ho34
     refine hK.out _ _ ⟨(blk_cell BK755.out 0).trans rfl, (blk_cell BK755.out 1).trans rfl, (blk_cell BK755.out 2).trans rfl, (blk_cell BK755.out 3).trans rfl⟩ (fun hHeld => ?_)
     clear hK K
     refine norm_ (a' := ?_) ?_ ?_
     rotate_left
     ·
      show Act.put _ (some 17) _ = _
      simp only [Act.put, List.setIfInBounds_toArray, List.set_cons_zero, List.set_cons_succ, i64_w, i32_w]
      rfl
     refine one_ (i := 1) (N := some 15) #[T_,T_,T_,T_,F_,F_,F_,F_,F_,F_,F_,F_,F_,F_,F_,F_] rfl rfl (one_of HT_.out (by kernel_rfl)) (by decide) (fun K hK => ?_)
     refine goes_ Try.func62 (by kernel_rfl) rfl #[.slice Ao31 y759.length co31] (by rfl) rfl rfl za_ ?_
     with_reducible refine (exchange_Short.calls k _ _ y759 t762 _ ?side1 ?side2 A1.out).mono ?_
     (case side1 => exact zd_ (Kd.N_reads' HO761.out).2.2)
     (case side2 => exact (Kd.N_reads' HO761.out).2.1)
     rintro e w35 ⟨v763, rfl, ho0, hb⟩
     refine ⟨_, rfl, ?_⟩
     have n0_ := Aside0.mk (Kd.N_elder' (zn_ HO761) (Kd.R_base ho0) hb)
     have n1_ := Aside0.mk (Kd.R_elder' (zr_ HO767) (Kd.R_base ho0) hb)
     have n2_ := Aside0.mk (Kd.R_lower (Kd.R_newB (Kd.R_new' ho0 (Kd.R_lt (zr_ HO767))) (g := gb755) (o := .cells #[.int .u64 1, .int .i64 0, .int .u64 1, .int .i64 0] 27 (0, 0)) (by (with_reducible repeat (first | refine blk_drewN ?_ _ | refine blk_drew ?_ | refine blk_alloc ?_ _)); exact BK755.out)) (below_size zb_))
     have n3_ := zk_ BK755 hb
     have n4_ := Aside0.mk (below_step zb_ hb)
     clear HO761
     clear HO767
     clear BK755
     clear HB
     have HO761 := n0_
     have HO767 := n1_
     have HO764 := n2_
     have BK755 := n3_
     have HB := n4_
     clear n0_ n1_ n2_ n3_ n4_
     (try clear hb)
     (try clear hb2)
     (try clear hk)
     (try clear hi)
     (try clear ho0)
     refine hK.out _ _ ⟨(blk_cell BK755.out 0).trans rfl, (blk_cell BK755.out 1).trans rfl, (blk_cell BK755.out 2).trans rfl, (blk_cell BK755.out 3).trans rfl⟩ (fun hHeld => ?_)
     clear hK K
     refine norm_ (a' := ?_) ?_ ?_
     rotate_left
     ·
      show Act.put _ (some 15) _ = _
      simp only [Act.put, List.setIfInBounds_toArray, List.set_cons_zero, List.set_cons_succ, i64_w, i32_w]
      rfl
     exact norm_ (by simp only [putAll, Act.put, List.setIfInBounds_toArray, List.set_cons_zero, List.set_cons_succ]) (hCont (v763, v766) _ ⟨hHeld, (by (with_reducible repeat (first | apply Kd.N_alloc | apply Kd.N_drewN | apply Kd.N_drew)); exact Kd.N_mono HO761.out (fun _ hk => ⟨hk.2, ⟨hk.1.2, hk.1.1⟩⟩)), (by (with_reducible repeat (first | apply Kd.R_alloc | apply Kd.R_drewN | apply Kd.R_drew)); exact Kd.R_mono HO764.out (fun _ hk => ⟨hk.1.2, hk.2⟩)), (by (with_reducible repeat (first | apply Kd.R_alloc | apply Kd.R_drewN | apply Kd.R_drew)); exact Kd.R_mono HO767.out (fun _ hk => ⟨hk.2, hk.1.2⟩)), (by (with_reducible repeat (first | refine blk_drewN ?_ _ | refine blk_drew ?_ | refine blk_alloc ?_ _)); exact BK755.out), zb_⟩)
   rintro ⟨v763, v766⟩ w36 ⟨hS_, h0_, h1_, h2_, h3_, h4_⟩
   have n0_ : Aside0 (Kd.N k87 87 w36 w.heap.size (fun k_ => some k_ ≠ (v763 : Value).ownBlock ∧ some k_ ≠ (v766 : Value).ownBlock ∧ k_ ≠ gb755) (.slice Ao31 y759.length co31) y759) := ⟨h0_⟩
   have n1_ : Aside0 (Kd.R k27 27 w36 w.heap.size (fun k_ => some k_ ≠ (v766 : Value).ownBlock ∧ k_ ≠ gb755) v763 t762) := ⟨h1_⟩
   have n2_ : Aside0 (Kd.R k27 27 w36 w.heap.size (fun k_ => some k_ ≠ (v763 : Value).ownBlock ∧ k_ ≠ gb755) v766 y765) := ⟨h2_⟩
   have n3_ : Aside0 (w36.heap[gb755]? = some (.cells #[.int .u64 1, .int .i64 0, .int .u64 1, .int .i64 0] 27 (0, 0))) := ⟨h3_⟩
   have n4_ : Aside0 (Below w.heap.size w w36) := ⟨h4_⟩
   clear HO761
   clear BK755
   clear HB
   clear h0_ h1_ h2_ h3_ h4_
   have HO761 := n0_
   have HO764 := n1_
   have HO767 := n2_
   have BK755 := n3_
   have HB := n4_
   clear n0_ n1_ n2_ n3_ n4_
   have hHeld : w36.cell? ⟨gb755, 0, none⟩ = some (.int .u64 1) ∧ w36.cell? ⟨gb755, 1, none⟩ = some (.int .i64 0) ∧ w36.cell? ⟨gb755, 2, none⟩ = some (.int .u64 1) ∧ w36.cell? ⟨gb755, 3, none⟩ = some (.int .i64 0) := hS_
   obtain ⟨Ao37, co37, eo37⟩ := Kd.R_slice HO764.out
   (first | subst eo37 | (injection eo37 with f1_ f2_ f3_; have f4_ := f1_.symm; have f5_ := f3_.symm; clear f1_ f2_ f3_; subst f4_; subst f5_))
   obtain ⟨Ao38, co38, eo38⟩ := Kd.R_slice HO767.out
   (first | subst eo38 | (injection eo38 with f1_ f2_ f3_; have f4_ := f1_.symm; have f5_ := f3_.symm; clear f1_ f2_ f3_; subst f4_; subst f5_))
   refine norm_ (a' := ?_) ?_ ?_
   rotate_left
   ·
    simp only [putAll, Act.put, List.setIfInBounds_toArray, List.set_cons_zero, List.set_cons_succ]
    rfl
   refine one_ (i := 4) (N := some 18) #[T_,T_,T_,T_,T_,F_,F_,F_,F_,F_,F_,F_,F_,F_,F_,F_] rfl rfl (one_of HT_.out (by kernel_rfl)) (by decide) (fun K hK => ?_)
   refine goes_ Try.func30 (by kernel_rfl) rfl #[.slice Ao37 t762.length co37, .slice Ao38 y765.length co38] (by rfl) rfl rfl za_ ?_
   with_reducible refine (folkmootref05_Same.calls k _ _ t762 _ _ y765 true _ ?side1 ?side2 ?side3 ?side4 A2.out).mono ?_
   (case side1 => exact zd_ (Kd.R_reads' HO764.out).2.2)
   (case side2 => exact (Kd.R_reads' HO764.out).2.1)
   (case side3 => exact zd_ (Kd.R_reads' HO767.out).2.2)
   (case side4 => exact (Kd.R_reads' HO767.out).2.1)
   rintro e w' ⟨rfl, ⟨nd, rfl⟩⟩
   refine ⟨_, rfl, ?_⟩
   refine hK.out _ _ ⟨(blk_cell BK755.out 0).trans rfl, (blk_cell BK755.out 1).trans rfl, (blk_cell BK755.out 2).trans rfl, (blk_cell BK755.out 3).trans rfl⟩ (fun hHeld => ?_)
   clear hK K
   refine norm_ (a' := ?_) ?_ ?_
   rotate_left
   ·
    show Act.put _ (some 18) _ = _
    simp only [Act.put, List.setIfInBounds_toArray, List.set_cons_zero, List.set_cons_succ, i64_w, i32_w]
    rfl
   refine pure_ (i := 5) (N := some 19) (v := ?_) (a' := ?_) #[T_,T_,T_,T_,T_,T_,F_,F_,F_,F_,F_,F_,F_,F_,F_,F_] rfl rfl (any_of HT_.out (by kernel_rfl)) (fun _ _ _ h => h) (Or.inl ⟨by rfl, ?_⟩) ?_ ?_
   rotate_left
   ·
    intro w'; go_simp; with_reducible rfl
   rotate_left
   ·
    exact zp_
   refine pure_ (i := 6) (N := some 20) (v := ?_) (a' := ?_) #[T_,T_,T_,T_,T_,T_,T_,F_,F_,F_,F_,F_,F_,F_,F_,F_] rfl rfl (any_of HT_.out (by kernel_rfl)) (fun _ _ _ h => h) (Or.inl ⟨by rfl, ?_⟩) ?_ ?_
   rotate_left
   ·
    intro w'; go_simp; with_reducible rfl
   rotate_left
   ·
    exact zp_
   refine one_ (i := 7) (N := some 21) #[T_,T_,T_,T_,T_,T_,T_,T_,F_,F_,F_,F_,F_,F_,F_,F_] rfl rfl (one_of HT_.out (by kernel_rfl)) (by decide) (fun K hK => ?_)
   refine goes_ Try.func61 (by kernel_rfl) rfl #[.slice Ao31 y759.length co31] (by rfl) rfl rfl za_ ?_
   with_reducible refine (exchange_Chosen.calls k _ _ y759 t769 _ ?side1 ?side2 A4.out).mono ?_
   (case side1 => exact zd_ (Kd.N_reads' HO761.out).2.2)
   (case side2 => exact (Kd.N_reads' HO761.out).2.1)
   rintro e w39 ⟨rfl, hb⟩
   refine ⟨_, rfl, ?_⟩
   have n0_ := Aside0.mk (Kd.N_below (zn_ HO761) hb)
   have n1_ := Aside0.mk (Kd.R_below (zr_ HO764) hb)
   have n2_ := Aside0.mk (Kd.R_below (zr_ HO767) hb)
   have n3_ := zk_ BK755 hb
   have n4_ := Aside0.mk (below_step zb_ hb)
   clear HO761
   clear HO764
   clear HO767
   clear BK755
   clear HB
   have HO761 := n0_
   have HO764 := n1_
   have HO767 := n2_
   have BK755 := n3_
   have HB := n4_
   clear n0_ n1_ n2_ n3_ n4_
   (try clear hb)
   (try clear hb2)
   (try clear hk)
   (try clear hi)
   refine hK.out _ _ ⟨(blk_cell BK755.out 0).trans rfl, (blk_cell BK755.out 1).trans rfl, (blk_cell BK755.out 2).trans rfl, (blk_cell BK755.out 3).trans rfl⟩ (fun hHeld => ?_)
   clear hK K
   refine norm_ (a' := ?_) ?_ ?_
   rotate_left
   ·
    show Act.put _ (some 21) _ = _
    simp only [Act.put, List.setIfInBounds_toArray, List.set_cons_zero, List.set_cons_succ, i64_w, i32_w]
    rfl
   refine pure_ (i := 8) (N := some 22) (v := ?_) (a' := ?_) #[T_,T_,T_,T_,T_,T_,T_,T_,T_,F_,F_,F_,F_,F_,F_,F_] rfl rfl (any_of HT_.out (by kernel_rfl)) (fun _ _ _ h => h) (Or.inl ⟨by rfl, ?_⟩) ?_ ?_
   rotate_left
   ·
    intro w'; go_simp; with_reducible rfl
   rotate_left
   ·
    exact zp_
   refine pure_ (i := 9) (N := some 23) (v := ?_) (a' := ?_) #[T_,T_,T_,T_,T_,T_,T_,T_,T_,T_,F_,F_,F_,F_,F_,F_] rfl rfl (any_of HT_.out (by kernel_rfl)) (fun _ _ _ h => h) (Or.inl ⟨by rfl, ?_⟩) ?_ ?_
   rotate_left
   ·
    intro w'; go_simp; with_reducible rfl
   rotate_left
   ·
    exact zp_
   refine pure_ (i := 10) (N := some 24) (v := ?_) (a' := ?_) #[T_,T_,T_,T_,T_,T_,T_,T_,T_,T_,T_,F_,F_,F_,F_,F_] rfl rfl (any_of HT_.out (by kernel_rfl)) (fun _ _ _ h => h) (Or.inl ⟨by rfl, ?_⟩) ?_ ?_
   rotate_left
   ·
    intro w'; go_simp; with_reducible rfl
   rotate_left
   ·
    exact zp_
   refine pure_ (i := 11) (N := some 25) (v := undef) (a' := ?_) #[T_,T_,T_,T_,T_,T_,T_,T_,T_,T_,T_,T_,F_,F_,F_,F_] rfl rfl (any_of HT_.out (by kernel_rfl)) (fun _ _ _ h => h) (Or.inr ⟨by rfl, rfl⟩) ?_ ?_
   rotate_left
   ·
    exact zp_
   refine pure_ (i := 12) (N := some 26) (v := undef) (a' := ?_) #[T_,T_,T_,T_,T_,T_,T_,T_,T_,T_,T_,T_,T_,F_,F_,F_] rfl rfl (any_of HT_.out (by kernel_rfl)) (fun _ _ _ h => h) (Or.inr ⟨by rfl, rfl⟩) ?_ ?_
   rotate_left
   ·
    exact zp_
   refine pure_ (i := 13) (N := some 27) (v := undef) (a' := ?_) #[T_,T_,T_,T_,T_,T_,T_,T_,T_,T_,T_,T_,T_,T_,F_,F_] rfl rfl (any_of HT_.out (by kernel_rfl)) (fun _ _ _ h => h) (Or.inr ⟨by rfl, rfl⟩) ?_ ?_
   rotate_left
   ·
    exact zp_
   refine pure_ (i := 14) (N := some 28) (v := ?_) (a' := ?_) #[T_,T_,T_,T_,T_,T_,T_,T_,T_,T_,T_,T_,T_,T_,T_,F_] rfl rfl (any_of HT_.out (by kernel_rfl)) (fun _ _ _ h => h) (Or.inl ⟨by rfl, ?_⟩) ?_ ?_
   rotate_left
   ·
    intro w'; go_simp; with_reducible rfl
   rotate_left
   ·
    exact zp_
   refine pure_ (i := 15) (N := some 0) (v := ?_) (a' := ?_) #[T_,T_,T_,T_,T_,T_,T_,T_,T_,T_,T_,T_,T_,T_,T_,T_] rfl rfl (any_of HT_.out (by kernel_rfl)) (fun _ _ _ h => h) (Or.inl ⟨by rfl, ?_⟩) ?_ ?_
   rotate_left
   ·
    intro w'; go_simp; with_reducible rfl
   rotate_left
   ·
    exact zp_
   refine done_ (done_of HT_.out (by kernel_rfl)) ?_
   (try clear hHeld); (try clear HS0_)
   try go_wp2
   go_ret
   exact ⟨by first | rfl | (simp [errW_none, errW_some] <;> rfl) | (simp [*, errW_none, errW_some] <;> rfl), by repeat (first | (with_reducible first | exact HB.out | apply below_alloc | apply pw_below_drewN | apply below_drew1 | refine below_set ?_ GE755.out) | exact HB.out)⟩
 ·
  replace c3 := Bool.eq_false_iff.mpr c3
  subst c3
  have H1 : (some false) = some r := by rw [if_neg (show ¬ (false = true) by decide)] at H; exact H
  clear H
  have H := H1
  clear H1
  obtain rfl := Option.some.inj H
  go_enter Try.func55, Try.ntmps55
  try go_wp2_with (first | ((with_reducible refine gate_dst (N := 1) rfl ?_); refine box_event ?hg (N := 1) ?hd (cs := #[.int .u64 0, .int .i64 0, .int .u64 0, .int .i64 0]) (t := 27) ?hr ?_; (case hd => rfl); (case hg => rfl); (case hr => first | (go_simp; done) | (go_simp; rfl)); intro gb755 hg w40 hbox hb; have n0_ := Aside0.mk (below_step zb_ hb); have n1_ := Aside0.mk (hbox); have n2_ := Aside0.mk ((by rw [hg]; exact (below_size zb_) : w.heap.size ≤ gb755)); have n3_ := Aside0.mk ((by rw [hg]; exact (below_size zb_) : w.heap.size ≤ gb755)); clear HB; have HB := n0_; have BK755 := n1_; have GW755 := n2_; have GE755 := n3_; clear n0_ n1_ n2_ n3_; clear hb hbox hg; have hcz41_0 : w40.cell? ⟨gb755, 0, none⟩ = some (.int .u64 0) := (blk_cell BK755.out 0).trans rfl; have hcz41_1 : w40.cell? ⟨gb755, 1, none⟩ = some (.int .i64 0) := (blk_cell BK755.out 1).trans rfl; have hcz41_2 : w40.cell? ⟨gb755, 2, none⟩ = some (.int .u64 0) := (blk_cell BK755.out 2).trans rfl; have hcz41_3 : w40.cell? ⟨gb755, 3, none⟩ = some (.int .i64 0) := (blk_cell BK755.out 3).trans rfl; have hfz41_0 := blk_frozen BK755.out 0; have hfz41_1 := blk_frozen BK755.out 1; have hfz41_2 := blk_frozen BK755.out 2; have hfz41_3 := blk_frozen BK755.out 3) | ((with_reducible refine gate_dst (N := 10) rfl ?_); refine Kd.R_lit k27 _ 27 ?hg (N := 10) ?hd (xs := ([(⟨(⟨1, 0⟩ : S25), 1, 0⟩ : S27)] : List (S27))) (inner := [.int .u64 1, .int .i64 0, .int .u64 1, .int .i64 0]) (ok := fun _ => True) (okp := fun _ => True) ?hr ?hp (fun _ hk => hk) trivial (Below.refl _ _) (Nat.le_refl _) (by simp) ?_; (case hd => rfl); (case hg => rfl); (case hr => first | (go_simp; done) | (go_simp; rfl)); (case hp => exact (Reps.c4 (show Kd.M k27 _ _ _ (⟨(⟨1, 0⟩ : S25), 1, 0⟩ : S27) [.int .u64 1, .int .i64 0, .int .u64 1, .int .i64 0] from (k27_mkM _ _ _ (⟨(⟨1, 0⟩ : S25), 1, 0⟩ : S27) )) (Reps.none _ _))); intro v757 w42 ho43 hb hg_ hnew_; clear hg_ hnew_; (first | rw [← Ny756.out] at ho43 | (simp only [Int.reduceToNat] at ho43; rw [← Ny756.out] at ho43)); have n0_ := Aside0.mk (Kd.R_lower (Kd.R_newB ho43 (g := gb755) (o := .cells #[.int .u64 1, .int .i64 0, .int .u64 1, .int .i64 0] 27 (0, 0)) (by (with_reducible repeat (first | refine blk_drewN ?_ _ | refine blk_drew ?_ | refine blk_alloc ?_ _)); refine blk_put (cs := #[.int .u64 1, .int .i64 0, .int .u64 1, .int .i64 0]) ?_ 3 _ rfl; (with_reducible repeat (first | refine blk_drewN ?_ _ | refine blk_drew ?_ | refine blk_alloc ?_ _)); refine blk_put (cs := #[.int .u64 1, .int .i64 0, .int .u64 0, .int .i64 0]) ?_ 2 _ rfl; (with_reducible repeat (first | refine blk_drewN ?_ _ | refine blk_drew ?_ | refine blk_alloc ?_ _)); refine blk_put (cs := #[.int .u64 1, .int .i64 0, .int .u64 0, .int .i64 0]) ?_ 1 _ rfl; (with_reducible repeat (first | refine blk_drewN ?_ _ | refine blk_drew ?_ | refine blk_alloc ?_ _)); refine blk_put (cs := #[.int .u64 0, .int .i64 0, .int .u64 0, .int .i64 0]) ?_ 0 _ rfl; (with_reducible repeat (first | refine blk_drewN ?_ _ | refine blk_drew ?_ | refine blk_alloc ?_ _)); exact BK755.out)) (below_size zb_)); have n1_ := Aside0.mk (blk_below (g := gb755) (o := .cells #[.int .u64 1, .int .i64 0, .int .u64 1, .int .i64 0] 27 (0, 0)) (by (with_reducible repeat (first | refine blk_drewN ?_ _ | refine blk_drew ?_ | refine blk_alloc ?_ _)); refine blk_put (cs := #[.int .u64 1, .int .i64 0, .int .u64 1, .int .i64 0]) ?_ 3 _ rfl; (with_reducible repeat (first | refine blk_drewN ?_ _ | refine blk_drew ?_ | refine blk_alloc ?_ _)); refine blk_put (cs := #[.int .u64 1, .int .i64 0, .int .u64 0, .int .i64 0]) ?_ 2 _ rfl; (with_reducible repeat (first | refine blk_drewN ?_ _ | refine blk_drew ?_ | refine blk_alloc ?_ _)); refine blk_put (cs := #[.int .u64 1, .int .i64 0, .int .u64 0, .int .i64 0]) ?_ 1 _ rfl; (with_reducible repeat (first | refine blk_drewN ?_ _ | refine blk_drew ?_ | refine blk_alloc ?_ _)); refine blk_put (cs := #[.int .u64 0, .int .i64 0, .int .u64 0, .int .i64 0]) ?_ 0 _ rfl; (with_reducible repeat (first | refine blk_drewN ?_ _ | refine blk_drew ?_ | refine blk_alloc ?_ _)); exact BK755.out) hb); have n2_ := Aside0.mk (below_step zb_ hb); clear BK755; clear HB; have HO758 := n0_; have BK755 := n1_; have HB := n2_; clear n0_ n1_ n2_; clear hb ho43; obtain ⟨Ao44, co44, eo44⟩ := Kd.R_slice HO758.out; subst eo44) | ((with_reducible refine gate_dst (N := 13) rfl ?_); refine Kd.N_lit k87 _ 87 ?hg (N' := 13) ?hd (xs := ([(⟨0, (⟨([] : List (S32)), ([] : List (S27)), 1, (⟨1, 0⟩ : S25)⟩ : S53)⟩ : S87), (⟨1, (⟨([] : List (S32)), y756, 2, (⟨2, 0⟩ : S25)⟩ : S53)⟩ : S87)] : List (S87))) (inner := [.int .i64 0, .slice none 0 0, .slice none 0 0, .int .i64 1, .int .u64 1, .int .i64 0, .int .i64 1, .slice none 0 0, .slice Ao44 y756.length co44, .int .i64 2, .int .u64 2, .int .i64 0]) (ok := (fun k_ => k_ ≠ gb755)) (okp := (fun k_ => k_ ≠ gb755)) ?hr ?hp (fun _ hk => hk) ((show ∀ k_, w42.heap.size ≤ k_ → (fun k_ => k_ ≠ gb755) k_ from fun k_ hk => Kd.freshB (g := gb755) (o := .cells #[.int .u64 1, .int .i64 0, .int .u64 1, .int .i64 0] 27 (0, 0)) (by (with_reducible repeat (first | refine blk_drewN ?_ _ | refine blk_drew ?_ | refine blk_alloc ?_ _)); exact BK755.out) k_ hk) _ (Nat.le_refl _)) (Below.refl _ _) (Nat.le_refl _) (by simp) ?_; (case hd => rfl); (case hg => rfl); (case hr => first | (go_simp; done) | (go_simp; rfl)); (case hp => exact (Reps.c6 (show Kd.FK k87 _ _ (⟨0, (⟨([] : List (S32)), ([] : List (S27)), 1, (⟨1, 0⟩ : S25)⟩ : S53)⟩ : S87) [.int .i64 0, .slice none 0 0, .slice none 0 0, .int .i64 1, .int .u64 1, .int .i64 0] from (k87_mkF _ _ (⟨0, (⟨([] : List (S32)), ([] : List (S27)), 1, (⟨1, 0⟩ : S25)⟩ : S53)⟩ : S87) (Nat.le_refl _) (Kd.F_nil _ _ _) (Nat.le_refl _) (Kd.F_nil _ _ _))) (Reps.c6 (show Kd.FK k87 _ _ (⟨1, (⟨([] : List (S32)), y756, 2, (⟨2, 0⟩ : S25)⟩ : S53)⟩ : S87) [.int .i64 1, .slice none 0 0, .slice Ao44 y756.length co44, .int .i64 2, .int .u64 2, .int .i64 0] from (k87_mkF _ _ (⟨1, (⟨([] : List (S32)), y756, 2, (⟨2, 0⟩ : S25)⟩ : S53)⟩ : S87) (Nat.le_refl _) (Kd.F_nil _ _ _) (Kd.R_reads' (Kd.R_mono (ok' := (fun k_ => k_ ≠ gb755)) (HO758.out) (fun k_ hk => hk.2))).2.1 (Kd.R_F (Kd.R_mono (ok' := (fun k_ => k_ ≠ gb755)) (HO758.out) (fun k_ hk => hk.2))))) (Reps.none _ _)))); intro v760 w45 ho46 hb hg_ hnew_; clear hg_ hnew_; (first | rw [← Ny759.out] at ho46 | (simp only [Int.reduceToNat] at ho46; rw [← Ny759.out] at ho46)); have n0_ := Aside0.mk (Kd.N_lower ho46 (below_size zb_)); have n1_ := zk_ BK755 hb; have n2_ := Aside0.mk (below_step zb_ hb); clear BK755; clear HB; clear HO758; have HO761 := n0_; have BK755 := n1_; have HB := n2_; clear n0_ n1_ n2_; clear hb ho46; obtain ⟨Ao47, co47, eo47⟩ := Kd.N_slice HO761.out; subst eo47))
  have n0_ := Aside0.mk (Kd.N_drew HO761.out)
  have n1_ := Aside0.mk (blk_drew BK755.out)
  have n2_ := Aside0.mk (below_drew1 HB.out)
  clear HO761
  clear BK755
  clear HB
  have HO761 := n0_
  have BK755 := n1_
  have HB := n2_
  clear n0_ n1_ n2_
  refine start_ (n := 16) (S := fun w' => w'.cell? ⟨gb755, 0, none⟩ = some (.int .u64 1) ∧ w'.cell? ⟨gb755, 1, none⟩ = some (.int .i64 0) ∧ w'.cell? ⟨gb755, 2, none⟩ = some (.int .u64 1) ∧ w'.cell? ⟨gb755, 3, none⟩ = some (.int .i64 0)) (ds := []) #[F_,F_,F_,F_,F_,F_,F_,F_,F_,F_,F_,F_,F_,F_,F_,F_] (by kernel_rfl) rfl rfl ⟨(blk_cell BK755.out 0).trans rfl, (blk_cell BK755.out 1).trans rfl, (blk_cell BK755.out 2).trans rfl, (blk_cell BK755.out 3).trans rfl⟩ (fun hHeld => ?_); refine with_tabW folkmootlaw16_awake.tab3 folkmootlaw16_awake.bits3 (fun HT_ HW_ => ?_)
  generalize w45.drew = w48 at HO761 BK755 HB hHeld ⊢
  refine pure_ (i := 0) (N := some 14) (v := ?_) (a' := ?_) #[T_,F_,F_,F_,F_,F_,F_,F_,F_,F_,F_,F_,F_,F_,F_,F_] rfl rfl (any_of HT_.out (by kernel_rfl)) (fun _ _ _ h => h) (Or.inl ⟨by rfl, ?_⟩) ?_ ?_
  rotate_left
  ·
   intro w'; go_simp; with_reducible rfl
  rotate_left
  ·
   exact zp_
  refine take_ (i := 2) (N := some 16) (v := ?_) (a' := ?_) #[T_,F_,T_,F_,F_,F_,F_,F_,F_,F_,F_,F_,F_,F_,F_,F_] rfl rfl (take_ofW HT_.out HW_.out (by kernel_rfl)) (fun _ _ _ h => h) (Or.inl ⟨by rfl, ?_⟩) hHeld ?_ ?_
  rotate_left
  ·
   rintro w' ⟨s0, s1, s2, s3⟩
   go_simp
   with_reducible rfl
  rotate_left
  ·
   exact zp_
  refine join_ (σ := Value × Value) 12 #[T_,T_,T_,T_,F_,F_,F_,F_,F_,F_,F_,F_,F_,F_,F_,F_] (fun s_ => [(15, s_.1), (17, s_.2)]) (fun s_ w' => (w'.cell? ⟨gb755, 0, none⟩ = some (.int .u64 1) ∧ w'.cell? ⟨gb755, 1, none⟩ = some (.int .i64 0) ∧ w'.cell? ⟨gb755, 2, none⟩ = some (.int .u64 1) ∧ w'.cell? ⟨gb755, 3, none⟩ = some (.int .i64 0)) ∧ (Kd.N k87 87 w' w.heap.size (fun k_ => some k_ ≠ (s_.1 : Value).ownBlock ∧ some k_ ≠ (s_.2 : Value).ownBlock ∧ k_ ≠ gb755) (.slice Ao47 y759.length co47) y759) ∧ (Kd.R k27 27 w' w.heap.size (fun k_ => some k_ ≠ (s_.2 : Value).ownBlock ∧ k_ ≠ gb755) s_.1 t762) ∧ (Kd.R k27 27 w' w.heap.size (fun k_ => some k_ ≠ (s_.1 : Value).ownBlock ∧ k_ ≠ gb755) s_.2 y765) ∧ (w'.heap[gb755]? = some (.cells #[.int .u64 1, .int .i64 0, .int .u64 1, .int .i64 0] 27 (0, 0))) ∧ (Below w.heap.size w w')) ?_ ?_
  rotate_left
  ·
   intro hCont
   refine two_ (i := 1) (j := 3) (Ni := some 15) (Nj := some 17) #[T_,T_,T_,F_,F_,F_,F_,F_,F_,F_,F_,F_,F_,F_,F_,F_] #[T_,F_,T_,T_,F_,F_,F_,F_,F_,F_,F_,F_,F_,F_,F_,F_] rfl rfl rfl rfl (two_of HT_.out (by kernel_rfl)) (by decide) (by decide) (fun K hK => ?_) (fun K hK => ?_)
   ·
    skip
    refine goes_ Try.func62 (by kernel_rfl) rfl #[.slice Ao47 y759.length co47] (by rfl) rfl rfl za_ ?_
    with_reducible refine (exchange_Short.calls k _ _ y759 t762 _ ?side1 ?side2 A1.out).mono ?_
    (case side1 => exact zd_ (Kd.N_reads' HO761.out).2.2)
    (case side2 => exact (Kd.N_reads' HO761.out).2.1)
    rintro e w49 ⟨v763, rfl, ho0, hb⟩
    refine ⟨_, rfl, ?_⟩
    have n0_ := Aside0.mk (Kd.N_elder' (zn_ HO761) (Kd.R_base ho0) hb)
    have n1_ := Aside0.mk (Kd.R_lower (Kd.R_newB ho0 (g := gb755) (o := .cells #[.int .u64 1, .int .i64 0, .int .u64 1, .int .i64 0] 27 (0, 0)) (by (with_reducible repeat (first | refine blk_drewN ?_ _ | refine blk_drew ?_ | refine blk_alloc ?_ _)); exact BK755.out)) (below_size zb_))
    have n2_ := zk_ BK755 hb
    have n3_ := Aside0.mk (below_step zb_ hb)
    clear HO761
    clear BK755
    clear HB
    have HO761 := n0_
    have HO764 := n1_
    have BK755 := n2_
    have HB := n3_
    clear n0_ n1_ n2_ n3_
    (try clear hb)
    (try clear hb2)
    (try clear hk)
    (try clear hi)
    (try clear ho0)
    refine hK.out _ _ ⟨(blk_cell BK755.out 0).trans rfl, (blk_cell BK755.out 1).trans rfl, (blk_cell BK755.out 2).trans rfl, (blk_cell BK755.out 3).trans rfl⟩ (fun hHeld => ?_)
    clear hK K
    refine norm_ (a' := ?_) ?_ ?_
    rotate_left
    ·
     show Act.put _ (some 15) _ = _
     simp only [Act.put, List.setIfInBounds_toArray, List.set_cons_zero, List.set_cons_succ, i64_w, i32_w]
     rfl
    refine one_ (i := 3) (N := some 17) #[T_,T_,T_,T_,F_,F_,F_,F_,F_,F_,F_,F_,F_,F_,F_,F_] rfl rfl (one_of HT_.out (by kernel_rfl)) (by decide) (fun K hK => ?_)
    refine Kd.R_lit_step k27 _ 27 ?hg (N := 17) ?hd (xs := ([(⟨(⟨1, 0⟩ : S25), 1, 0⟩ : S27)] : List (S27))) (inner := [.int .u64 1, .int .i64 0, .int .u64 1, .int .i64 0]) (ok := fun _ => True) (okp := fun _ => True) ?hr ?hp (fun _ hk => hk) trivial (Below.refl _ _) (Nat.le_refl _) (by simp) ?_; (case hd => rfl); (case hg => rfl); (case hr => first | (go_simp; done) | (go_simp; rfl)); (case hp => exact (Reps.c4 (show Kd.M k27 _ _ _ (⟨(⟨1, 0⟩ : S25), 1, 0⟩ : S27) [.int .u64 1, .int .i64 0, .int .u64 1, .int .i64 0] from (k27_mkM _ _ _ (⟨(⟨1, 0⟩ : S25), 1, 0⟩ : S27) )) (Reps.none _ _)))
    intro v766 w50 ho51 hb hg_ hnew_
    clear hg_ hnew_
    (first | rw [← Ny765.out] at ho51 | (simp only [Int.reduceToNat] at ho51; rw [← Ny765.out] at ho51))
    have n0_ := Aside0.mk (Kd.N_elder' (zn_ HO761) (Kd.R_base ho51) hb)
    have n1_ := Aside0.mk (Kd.R_elder' (zr_ HO764) (Kd.R_base ho51) hb)
    have n2_ := Aside0.mk (Kd.R_lower (Kd.R_newB (Kd.R_new' ho51 (Kd.R_lt (zr_ HO764))) (g := gb755) (o := .cells #[.int .u64 1, .int .i64 0, .int .u64 1, .int .i64 0] 27 (0, 0)) (by (with_reducible repeat (first | refine blk_drewN ?_ _ | refine blk_drew ?_ | refine blk_alloc ?_ _)); exact BK755.out)) (below_size zb_))
    have n3_ := zk_ BK755 hb
    have n4_ := Aside0.mk (below_step zb_ hb)
    clear HO761
    clear HO764
    clear BK755
    clear HB
    have HO761 := n0_
    have HO764 := n1_
    have HO767 := n2_
    have BK755 := n3_
    have HB := n4_
    clear n0_ n1_ n2_ n3_ n4_
    clear hb ho51
    refine hK.out _ _ ⟨(blk_cell BK755.out 0).trans rfl, (blk_cell BK755.out 1).trans rfl, (blk_cell BK755.out 2).trans rfl, (blk_cell BK755.out 3).trans rfl⟩ (fun hHeld => ?_)
    clear hK K
    refine norm_ (a' := ?_) ?_ ?_
    rotate_left
    ·
     show Act.put _ (some 17) _ = _
     simp only [Act.put, List.setIfInBounds_toArray, List.set_cons_zero, List.set_cons_succ, i64_w, i32_w]
     rfl
    exact norm_ (by simp only [putAll, Act.put, List.setIfInBounds_toArray, List.set_cons_zero, List.set_cons_succ]) (hCont (v763, v766) _ ⟨hHeld, (by (with_reducible repeat (first | apply Kd.N_alloc | apply Kd.N_drewN | apply Kd.N_drew)); exact Kd.N_mono HO761.out (fun _ hk => ⟨hk.1.2, ⟨hk.2, hk.1.1⟩⟩)), (by (with_reducible repeat (first | apply Kd.R_alloc | apply Kd.R_drewN | apply Kd.R_drew)); exact Kd.R_mono HO764.out (fun _ hk => ⟨hk.2, hk.1.2⟩)), (by (with_reducible repeat (first | apply Kd.R_alloc | apply Kd.R_drewN | apply Kd.R_drew)); exact Kd.R_mono HO767.out (fun _ hk => ⟨hk.1.2, hk.2⟩)), (by (with_reducible repeat (first | refine blk_drewN ?_ _ | refine blk_drew ?_ | refine blk_alloc ?_ _)); exact BK755.out), zb_⟩)
   ·
    skip
    refine Kd.R_lit_step k27 _ 27 ?hg (N := 17) ?hd (xs := ([(⟨(⟨1, 0⟩ : S25), 1, 0⟩ : S27)] : List (S27))) (inner := [.int .u64 1, .int .i64 0, .int .u64 1, .int .i64 0]) (ok := fun _ => True) (okp := fun _ => True) ?hr ?hp (fun _ hk => hk) trivial (Below.refl _ _) (Nat.le_refl _) (by simp) ?_; (case hd => rfl); (case hg => rfl); (case hr => first | (go_simp; done) | (go_simp; rfl)); (case hp => exact (Reps.c4 (show Kd.M k27 _ _ _ (⟨(⟨1, 0⟩ : S25), 1, 0⟩ : S27) [.int .u64 1, .int .i64 0, .int .u64 1, .int .i64 0] from (k27_mkM _ _ _ (⟨(⟨1, 0⟩ : S25), 1, 0⟩ : S27) )) (Reps.none _ _)))
    intro v766 w49 ho50 hb hg_ hnew_
    clear hg_ hnew_
    (first | rw [← Ny765.out] at ho50 | (simp only [Int.reduceToNat] at ho50; rw [← Ny765.out] at ho50))
    have n0_ := Aside0.mk (Kd.N_elder' (zn_ HO761) (Kd.R_base ho50) hb)
    have n1_ := Aside0.mk (Kd.R_lower (Kd.R_newB ho50 (g := gb755) (o := .cells #[.int .u64 1, .int .i64 0, .int .u64 1, .int .i64 0] 27 (0, 0)) (by (with_reducible repeat (first | refine blk_drewN ?_ _ | refine blk_drew ?_ | refine blk_alloc ?_ _)); exact BK755.out)) (below_size zb_))
    have n2_ := zk_ BK755 hb
    have n3_ := Aside0.mk (below_step zb_ hb)
    clear HO761
    clear BK755
    clear HB
    have HO761 := n0_
    have HO767 := n1_
    have BK755 := n2_
    have HB := n3_
    clear n0_ n1_ n2_ n3_
    clear hb ho50
    refine hK.out _ _ ⟨(blk_cell BK755.out 0).trans rfl, (blk_cell BK755.out 1).trans rfl, (blk_cell BK755.out 2).trans rfl, (blk_cell BK755.out 3).trans rfl⟩ (fun hHeld => ?_)
    clear hK K
    refine norm_ (a' := ?_) ?_ ?_
    rotate_left
    ·
     show Act.put _ (some 17) _ = _
     simp only [Act.put, List.setIfInBounds_toArray, List.set_cons_zero, List.set_cons_succ, i64_w, i32_w]
     rfl
    refine one_ (i := 1) (N := some 15) #[T_,T_,T_,T_,F_,F_,F_,F_,F_,F_,F_,F_,F_,F_,F_,F_] rfl rfl (one_of HT_.out (by kernel_rfl)) (by decide) (fun K hK => ?_)
    refine goes_ Try.func62 (by kernel_rfl) rfl #[.slice Ao47 y759.length co47] (by rfl) rfl rfl za_ ?_
    with_reducible refine (exchange_Short.calls k _ _ y759 t762 _ ?side1 ?side2 A1.out).mono ?_
    (case side1 => exact zd_ (Kd.N_reads' HO761.out).2.2)
    (case side2 => exact (Kd.N_reads' HO761.out).2.1)
    rintro e w51 ⟨v763, rfl, ho0, hb⟩
    refine ⟨_, rfl, ?_⟩
    have n0_ := Aside0.mk (Kd.N_elder' (zn_ HO761) (Kd.R_base ho0) hb)
    have n1_ := Aside0.mk (Kd.R_elder' (zr_ HO767) (Kd.R_base ho0) hb)
    have n2_ := Aside0.mk (Kd.R_lower (Kd.R_newB (Kd.R_new' ho0 (Kd.R_lt (zr_ HO767))) (g := gb755) (o := .cells #[.int .u64 1, .int .i64 0, .int .u64 1, .int .i64 0] 27 (0, 0)) (by (with_reducible repeat (first | refine blk_drewN ?_ _ | refine blk_drew ?_ | refine blk_alloc ?_ _)); exact BK755.out)) (below_size zb_))
    have n3_ := zk_ BK755 hb
    have n4_ := Aside0.mk (below_step zb_ hb)
    clear HO761
    clear HO767
    clear BK755
    clear HB
    have HO761 := n0_
    have HO767 := n1_
    have HO764 := n2_
    have BK755 := n3_
    have HB := n4_
    clear n0_ n1_ n2_ n3_ n4_
    (try clear hb)
    (try clear hb2)
    (try clear hk)
    (try clear hi)
    (try clear ho0)
    refine hK.out _ _ ⟨(blk_cell BK755.out 0).trans rfl, (blk_cell BK755.out 1).trans rfl, (blk_cell BK755.out 2).trans rfl, (blk_cell BK755.out 3).trans rfl⟩ (fun hHeld => ?_)
    clear hK K
    refine norm_ (a' := ?_) ?_ ?_
    rotate_left
    ·
     show Act.put _ (some 15) _ = _
     simp only [Act.put, List.setIfInBounds_toArray, List.set_cons_zero, List.set_cons_succ, i64_w, i32_w]
     rfl
    exact norm_ (by simp only [putAll, Act.put, List.setIfInBounds_toArray, List.set_cons_zero, List.set_cons_succ]) (hCont (v763, v766) _ ⟨hHeld, (by (with_reducible repeat (first | apply Kd.N_alloc | apply Kd.N_drewN | apply Kd.N_drew)); exact Kd.N_mono HO761.out (fun _ hk => ⟨hk.2, ⟨hk.1.2, hk.1.1⟩⟩)), (by (with_reducible repeat (first | apply Kd.R_alloc | apply Kd.R_drewN | apply Kd.R_drew)); exact Kd.R_mono HO764.out (fun _ hk => ⟨hk.1.2, hk.2⟩)), (by (with_reducible repeat (first | apply Kd.R_alloc | apply Kd.R_drewN | apply Kd.R_drew)); exact Kd.R_mono HO767.out (fun _ hk => ⟨hk.2, hk.1.2⟩)), (by (with_reducible repeat (first | refine blk_drewN ?_ _ | refine blk_drew ?_ | refine blk_alloc ?_ _)); exact BK755.out), zb_⟩)
  rintro ⟨v763, v766⟩ w52 ⟨hS_, h0_, h1_, h2_, h3_, h4_⟩
  have n0_ : Aside0 (Kd.N k87 87 w52 w.heap.size (fun k_ => some k_ ≠ (v763 : Value).ownBlock ∧ some k_ ≠ (v766 : Value).ownBlock ∧ k_ ≠ gb755) (.slice Ao47 y759.length co47) y759) := ⟨h0_⟩
  have n1_ : Aside0 (Kd.R k27 27 w52 w.heap.size (fun k_ => some k_ ≠ (v766 : Value).ownBlock ∧ k_ ≠ gb755) v763 t762) := ⟨h1_⟩
  have n2_ : Aside0 (Kd.R k27 27 w52 w.heap.size (fun k_ => some k_ ≠ (v763 : Value).ownBlock ∧ k_ ≠ gb755) v766 y765) := ⟨h2_⟩
  have n3_ : Aside0 (w52.heap[gb755]? = some (.cells #[.int .u64 1, .int .i64 0, .int .u64 1, .int .i64 0] 27 (0, 0))) := ⟨h3_⟩
  have n4_ : Aside0 (Below w.heap.size w w52) := ⟨h4_⟩
  clear HO761
  clear BK755
  clear HB
  clear h0_ h1_ h2_ h3_ h4_
  have HO761 := n0_
  have HO764 := n1_
  have HO767 := n2_
  have BK755 := n3_
  have HB := n4_
  clear n0_ n1_ n2_ n3_ n4_
  have hHeld : w52.cell? ⟨gb755, 0, none⟩ = some (.int .u64 1) ∧ w52.cell? ⟨gb755, 1, none⟩ = some (.int .i64 0) ∧ w52.cell? ⟨gb755, 2, none⟩ = some (.int .u64 1) ∧ w52.cell? ⟨gb755, 3, none⟩ = some (.int .i64 0) := hS_
  obtain ⟨Ao53, co53, eo53⟩ := Kd.R_slice HO764.out
  (first | subst eo53 | (injection eo53 with f1_ f2_ f3_; have f4_ := f1_.symm; have f5_ := f3_.symm; clear f1_ f2_ f3_; subst f4_; subst f5_))
  obtain ⟨Ao54, co54, eo54⟩ := Kd.R_slice HO767.out
  (first | subst eo54 | (injection eo54 with f1_ f2_ f3_; have f4_ := f1_.symm; have f5_ := f3_.symm; clear f1_ f2_ f3_; subst f4_; subst f5_))
  refine norm_ (a' := ?_) ?_ ?_
  rotate_left
  ·
   simp only [putAll, Act.put, List.setIfInBounds_toArray, List.set_cons_zero, List.set_cons_succ]
   rfl
  refine one_ (i := 4) (N := some 18) #[T_,T_,T_,T_,T_,F_,F_,F_,F_,F_,F_,F_,F_,F_,F_,F_] rfl rfl (one_of HT_.out (by kernel_rfl)) (by decide) (fun K hK => ?_)
  refine goes_ Try.func30 (by kernel_rfl) rfl #[.slice Ao53 t762.length co53, .slice Ao54 y765.length co54] (by rfl) rfl rfl za_ ?_
  with_reducible refine (folkmootref05_Same.calls k _ _ t762 _ _ y765 false _ ?side1 ?side2 ?side3 ?side4 A2.out).mono ?_
  (case side1 => exact zd_ (Kd.R_reads' HO764.out).2.2)
  (case side2 => exact (Kd.R_reads' HO764.out).2.1)
  (case side3 => exact zd_ (Kd.R_reads' HO767.out).2.2)
  (case side4 => exact (Kd.R_reads' HO767.out).2.1)
  rintro e w' ⟨rfl, ⟨nd, rfl⟩⟩
  refine ⟨_, rfl, ?_⟩
  refine hK.out _ _ ⟨(blk_cell BK755.out 0).trans rfl, (blk_cell BK755.out 1).trans rfl, (blk_cell BK755.out 2).trans rfl, (blk_cell BK755.out 3).trans rfl⟩ (fun hHeld => ?_)
  clear hK K
  refine norm_ (a' := ?_) ?_ ?_
  rotate_left
  ·
   show Act.put _ (some 18) _ = _
   simp only [Act.put, List.setIfInBounds_toArray, List.set_cons_zero, List.set_cons_succ, i64_w, i32_w]
   rfl
  refine pure_ (i := 5) (N := some 19) (v := ?_) (a' := ?_) #[T_,T_,T_,T_,T_,T_,F_,F_,F_,F_,F_,F_,F_,F_,F_,F_] rfl rfl (any_of HT_.out (by kernel_rfl)) (fun _ _ _ h => h) (Or.inl ⟨by rfl, ?_⟩) ?_ ?_
  rotate_left
  ·
   intro w'; go_simp; with_reducible rfl
  rotate_left
  ·
   exact zp_
  refine pure_ (i := 6) (N := some 20) (v := undef) (a' := ?_) #[T_,T_,T_,T_,T_,T_,T_,F_,F_,F_,F_,F_,F_,F_,F_,F_] rfl rfl (any_of HT_.out (by kernel_rfl)) (fun _ _ _ h => h) (Or.inr ⟨by rfl, rfl⟩) ?_ ?_
  rotate_left
  ·
   exact zp_
  refine pure_ (i := 7) (N := some 21) (v := undef) (a' := ?_) #[T_,T_,T_,T_,T_,T_,T_,T_,F_,F_,F_,F_,F_,F_,F_,F_] rfl rfl (any_of HT_.out (by kernel_rfl)) (fun _ _ _ h => h) (Or.inr ⟨by rfl, rfl⟩) ?_ ?_
  rotate_left
  ·
   exact zp_
  refine pure_ (i := 8) (N := some 22) (v := undef) (a' := ?_) #[T_,T_,T_,T_,T_,T_,T_,T_,T_,F_,F_,F_,F_,F_,F_,F_] rfl rfl (any_of HT_.out (by kernel_rfl)) (fun _ _ _ h => h) (Or.inr ⟨by rfl, rfl⟩) ?_ ?_
  rotate_left
  ·
   exact zp_
  refine pure_ (i := 9) (N := some 23) (v := ?_) (a' := ?_) #[T_,T_,T_,T_,T_,T_,T_,T_,T_,T_,F_,F_,F_,F_,F_,F_] rfl rfl (any_of HT_.out (by kernel_rfl)) (fun _ _ _ h => h) (Or.inl ⟨by rfl, ?_⟩) ?_ ?_
  rotate_left
  ·
   intro w'; go_simp; with_reducible rfl
  rotate_left
  ·
   exact zp_
  refine pure_ (i := 10) (N := some 24) (v := ?_) (a' := ?_) #[T_,T_,T_,T_,T_,T_,T_,T_,T_,T_,T_,F_,F_,F_,F_,F_] rfl rfl (any_of HT_.out (by kernel_rfl)) (fun _ _ _ h => h) (Or.inl ⟨by rfl, ?_⟩) ?_ ?_
  rotate_left
  ·
   intro w'; go_simp; with_reducible rfl
  rotate_left
  ·
   exact zp_
  refine pure_ (i := 11) (N := some 25) (v := undef) (a' := ?_) #[T_,T_,T_,T_,T_,T_,T_,T_,T_,T_,T_,T_,F_,F_,F_,F_] rfl rfl (any_of HT_.out (by kernel_rfl)) (fun _ _ _ h => h) (Or.inr ⟨by rfl, rfl⟩) ?_ ?_
  rotate_left
  ·
   exact zp_
  refine pure_ (i := 12) (N := some 26) (v := undef) (a' := ?_) #[T_,T_,T_,T_,T_,T_,T_,T_,T_,T_,T_,T_,T_,F_,F_,F_] rfl rfl (any_of HT_.out (by kernel_rfl)) (fun _ _ _ h => h) (Or.inr ⟨by rfl, rfl⟩) ?_ ?_
  rotate_left
  ·
   exact zp_
  refine pure_ (i := 13) (N := some 27) (v := undef) (a' := ?_) #[T_,T_,T_,T_,T_,T_,T_,T_,T_,T_,T_,T_,T_,T_,F_,F_] rfl rfl (any_of HT_.out (by kernel_rfl)) (fun _ _ _ h => h) (Or.inr ⟨by rfl, rfl⟩) ?_ ?_
  rotate_left
  ·
   exact zp_
  refine pure_ (i := 14) (N := some 28) (v := ?_) (a' := ?_) #[T_,T_,T_,T_,T_,T_,T_,T_,T_,T_,T_,T_,T_,T_,T_,F_] rfl rfl (any_of HT_.out (by kernel_rfl)) (fun _ _ _ h => h) (Or.inl ⟨by rfl, ?_⟩) ?_ ?_
  rotate_left
  ·
   intro w'; go_simp; with_reducible rfl
  rotate_left
  ·
   exact zp_
  refine pure_ (i := 15) (N := some 0) (v := ?_) (a' := ?_) #[T_,T_,T_,T_,T_,T_,T_,T_,T_,T_,T_,T_,T_,T_,T_,T_] rfl rfl (any_of HT_.out (by kernel_rfl)) (fun _ _ _ h => h) (Or.inl ⟨by rfl, ?_⟩) ?_ ?_
  rotate_left
  ·
   intro w'; go_simp; with_reducible rfl
  rotate_left
  ·
   exact zp_
  refine done_ (done_of HT_.out (by kernel_rfl)) ?_
  (try clear hHeld); (try clear HS0_)
  try go_wp2
  go_ret
  exact ⟨by first | rfl | (simp [errW_none, errW_some] <;> rfl) | (simp [*, errW_none, errW_some] <;> rfl), by repeat (first | (with_reducible first | exact HB.out | apply below_alloc | apply pw_below_drewN | apply below_drew1 | refine below_set ?_ GE755.out) | exact HB.out)⟩
end Go.Proofs.Ytioooiflpabngaa.PAll
end
section
namespace Go.Proofs.Ytioooiflpabngaa.PAll
open Go.RowKit Go.Proofs.YtioooiflpabngaaW.PrintWords Go.Proofs.YtioooiflpabngaaW.PrintMore
set_option linter.unusedVariables false
set_option linter.unusedSimpArgs false
def sumM (s : S53) : S53 := ⟨mergeR [] s.f0, s.f1, s.f2, s.f3⟩
def tellK (l : List S53) (k : Nat) : S87 := ⟨(k : Int), sumM (l.getD k z53)⟩
def toldT (l : List S53) (a : Nat) : List S87 := (List.range' 0 l.length).map fun i => tellK l ((i + a) % l.length)
theorem told_loop (l : List S53) (a : Nat) (ha : a ≤ 255) (hn : l.length ≤ 16) (hc : ∀ s ∈ l, s.f0.length ≤ 150) : ∀ (d i : Nat) (A : List S87), d = l.length - i → i ≤ l.length → A.length = i →
    Ev (fun k => folkmootlaw16_told.l0 k l (a : Int) A (A.map (·.f0)) (A.map (·.f1)) (i : Int)) (A ++ (List.range' i d).map (fun i => tellK l ((i + a) % l.length)), (A ++ (List.range' i d).map (fun i => tellK l ((i + a) % l.length))).map (·.f0), (A ++ (List.range' i d).map (fun i => tellK l ((i + a) % l.length))).map (·.f1)) := by
  intro d
  induction d with
  | zero =>
    intro i A hd hi hA
    refine Ev.step (fun k => by rw [folkmootlaw16_told.l0, if_neg (by omega)]) (Ev.const fun _ => ?_)
    simp
  | succ d ih =>
    intro i A hd hi hA
    have hlt : i < l.length := by omega
    have e1 : wrap64 (a : Int) = (a : Int) := by unfold wrap64; omega
    have e2 : wrap64 ((i : Int) + (a : Int)) = ((i + a : Nat) : Int) := by unfold wrap64; omega
    have e3 : Int.tmod ((i + a : Nat) : Int) (l.length : Int) = (((i + a) % l.length : Nat) : Int) := by
      rw [Int.tmod_eq_emod_of_nonneg (by omega), Int.natCast_emod]
    have hm : (i + a) % l.length < l.length := Nat.mod_lt _ (by omega)
    have e4 : l.getD ((i + a) % l.length) z53 = l[(i + a) % l.length] := by
      rw [List.getD_eq_getElem?_getD, List.getElem?_eq_getElem hm]
      rfl
    have hcm := hc l[(i + a) % l.length] (List.getElem_mem _)
    have e5 : tellK l ((i + a) % l.length) = ⟨(((i + a) % l.length : Nat) : Int), ⟨mergeR [] l[(i + a) % l.length].f0, l[(i + a) % l.length].f1, l[(i + a) % l.length].f2, l[(i + a) % l.length].f3⟩⟩ := by
      unfold tellK sumM
      rw [e4]
    have hrec := ih (i + 1) (A ++ [tellK l ((i + a) % l.length)]) (by omega) (by omega) (by simp; omega)
    rw [List.range'_succ, List.map_cons, show A ++ tellK l ((i + a) % l.length) :: (List.range' (i + 1) d).map (fun i => tellK l ((i + a) % l.length)) = (A ++ [tellK l ((i + a) % l.length)]) ++ (List.range' (i + 1) d).map (fun i => tellK l ((i + a) % l.length)) by simp]
    refine Ev.step (b := fun k => (folkmootref15_Merge.f k [] l[(i + a) % l.length].f0).bind fun t => if A.length < 1759218604441 then (if (A.map (·.f0)).length < 17592186044416 then (if (A.map (·.f1)).length < 1954687338268 then folkmootlaw16_told.l0 k l (a : Int) (A ++ [⟨(((i + a) % l.length : Nat) : Int), ⟨t, l[(i + a) % l.length].f1, l[(i + a) % l.length].f2, l[(i + a) % l.length].f3⟩⟩]) ((A.map (·.f0)) ++ [(((i + a) % l.length : Nat) : Int)]) ((A.map (·.f1)) ++ [⟨t, l[(i + a) % l.length].f1, l[(i + a) % l.length].f2, l[(i + a) % l.length].f3⟩]) ((i + 1 : Nat) : Int) else none) else none) else none) (fun k => ?_) (Ev.bind (refMerge_ev [] l[(i + a) % l.length].f0 (by simp; omega)) ?_)
    · rw [folkmootlaw16_told.l0, if_pos (by omega), if_neg (by omega), e1, e2, e3, if_pos (by omega), if_pos (by omega), rdS_nat hm, wrap_nat (by omega)]
    · have c1 : A.length < 1759218604441 := by omega
      have c2 : (A.map (·.f0)).length < 17592186044416 := by rw [List.length_map]; omega
      have c3 : (A.map (·.f1)).length < 1954687338268 := by rw [List.length_map]; omega
      simp only [c1, c2, c3, if_true]
      rw [List.map_append, List.map_append, e5] at hrec
      rw [e5]
      exact hrec
theorem told_ev (l : List S53) (a : Nat) (ha : a ≤ 255) (hn : l.length ≤ 16) (hc : ∀ s ∈ l, s.f0.length ≤ 150) : Ev (fun k => folkmootlaw16_told.f k l (a : Int)) (toldT l a, (toldT l a).map (·.f0), (toldT l a).map (·.f1)) := by
  have := told_loop l a ha hn hc l.length 0 [] (by omega) (by omega) rfl
  simpa [folkmootlaw16_told.f, toldT] using this
def total (l : List S53) : Nat := (l.map fun s => s.f0.length + s.f1.length).sum
def fewStep (x : Int) (s : S53) : Int := wrap64 (x + wrap64 ((s.f0.length : Int) + (s.f1.length : Int)))
theorem few_loop (l : List S53) (hl : l.length < 9223372036854775807) : ∀ (d i : Nat) (x : Int), d = l.length - i → i ≤ l.length → Ev (fun k => folkmootlaw16_few.l0 k l x (i : Int)) (if l.length ≤ 16 then decide ((l.drop i).foldl fewStep x ≤ 150) else false) := by
  intro d
  induction d with
  | zero =>
    intro i x hd hi
    have : i = l.length := by omega
    subst this
    refine Ev.step (fun k => by rw [folkmootlaw16_few.l0, if_neg (by omega)]) (Ev.const fun _ => ?_)
    rw [List.drop_length]
    by_cases hc : l.length ≤ 16
    · rw [if_pos hc, if_pos (by omega)]
      rfl
    · rw [if_neg hc, if_neg (by omega)]
  | succ d ih =>
    intro i x hd hi
    have hlt : i < l.length := by omega
    rw [List.drop_eq_getElem_cons hlt, List.foldl_cons]
    refine Ev.step (b := fun k => folkmootlaw16_few.l0 k l (fewStep x l[i]) ((i + 1 : Nat) : Int)) (fun k => ?_) (ih (i + 1) (fewStep x l[i]) (by omega) (by omega))
    rw [folkmootlaw16_few.l0, if_pos (by omega), if_pos (by omega), rdS_nat hlt, wrap_nat (by omega)]
    rfl
theorem few_fold : ∀ (l : List S53) (x : Nat), (∀ s ∈ l, s.f0.length + s.f1.length ≤ 8796093022208) → x + l.length * 8796093022208 < 4611686018427387904 → l.foldl fewStep (x : Int) = ((x + total l : Nat) : Int)
  | [], x, _, _ => by simp [total]
  | s :: l, x, hs, hx => by
    have h1 := hs s (List.mem_cons_self ..)
    simp only [List.length_cons] at hx
    have e : fewStep (x : Int) s = ((x + (s.f0.length + s.f1.length) : Nat) : Int) := by
      unfold fewStep
      have e1 : wrap64 ((s.f0.length : Int) + (s.f1.length : Int)) = ((s.f0.length + s.f1.length : Nat) : Int) := by unfold wrap64; omega
      rw [e1]
      unfold wrap64
      omega
    rw [List.foldl_cons, e, few_fold l _ (fun t ht => hs t (List.mem_cons_of_mem _ ht)) (by omega)]
    simp only [total, List.map_cons, List.sum_cons]
    congr 1
    omega
theorem rightS_size {s : S53} (h : rightS s) : s.f0.length + s.f1.length ≤ 8796093022208 := by
  have h1 := rightEs_len h.1
  have h2 := rightLs_len h.2.1
  omega
theorem summaries_len {l : List S53} (h : l.length * 72 ≤ reachBytes) : l.length < 1954687338269 := by
  have h2 := reachBytes_lt
  have e : (2 : Nat) ^ 47 = 140737488355328 := by decide
  rw [e] at h2
  omega
theorem few_ev (l : List S53) (hlen : l.length < 1954687338269) (h : ∀ x ∈ l, rightS x) : ∃ b, Ev (fun k => folkmootlaw16_few.f k l) b ∧ (b = true → l.length ≤ 16 ∧ total l ≤ 150) := by
  refine ⟨_, by simpa [folkmootlaw16_few.f] using few_loop l (by omega) l.length 0 0 (by omega) (by omega), ?_⟩
  intro hb
  simp only [Bool.and_eq_true, decide_eq_true_eq] at hb
  have := few_fold l 0 (fun s hs => rightS_size (h s hs)) (by omega)
  have e0 : ((0 : Nat) : Int) = 0 := rfl
  rw [e0] at this
  rw [this] at hb
  exact ⟨hb.1, by omega⟩
theorem total_mem : ∀ {l : List S53} {s : S53}, s ∈ l → s.f0.length + s.f1.length ≤ total l
  | x :: l, s, h => by
    simp only [total, List.map_cons, List.sum_cons]
    rcases List.mem_cons.1 h with rfl | h
    · omega
    · have := total_mem h
      simp only [total] at this
      omega
theorem awake16_ev : Ev (fun k => folkmootlaw16_awake.f k) true := Ev.of_mono (fun k => folkmootlaw16_awake.mono k) (K := 12) (by kernel_rfl)
theorem toldT_length (l : List S53) (a : Nat) : (toldT l a).length = l.length := by simp [toldT]
theorem mem_toldT {l : List S53} {a : Nat} {t : S87} : t ∈ toldT l a ↔ ∃ k, k < l.length ∧ t = tellK l k := by
  unfold toldT
  simp only [List.mem_map, List.mem_range'_1, Nat.zero_le, true_and, Nat.zero_add]
  constructor
  · rintro ⟨i, hi, rfl⟩
    exact ⟨_, Nat.mod_lt _ (by omega), rfl⟩
  · rintro ⟨k, hk, rfl⟩
    refine ⟨(k + (l.length - a % l.length)) % l.length, Nat.mod_lt _ (by omega), ?_⟩
    have h1 := Nat.mod_lt a (show l.length > 0 by omega)
    rw [← Nat.add_mod_mod, Nat.mod_add_mod, show k + (l.length - a % l.length) + a % l.length = k + l.length by omega, Nat.add_mod_right, Nat.mod_eq_of_lt hk]
structure Fine (T : List S87) : Prop where
  len : T.length ≤ 17
  node : ∀ t ∈ T, 0 ≤ t.f0
  uniq : ∀ t ∈ T, ∀ u ∈ T, t.f0 = u.f0 → t = u
  con : ∀ t ∈ T, t.f1.f0.length ≤ 150
  ord : ∀ t ∈ T, t.f1.f1.length ≤ 150
  bytes : ∀ t ∈ T, ∀ x ∈ t.f1.f0, x.f1.length < 140737488355328
theorem sizeC_le : ∀ {l : List (List S32)} {b : Nat}, (∀ x ∈ l, x.length ≤ b) → sizeC l ≤ l.length * b
  | [], b, _ => by simp [sizeC]
  | x :: l, b, h => by
    have h1 := h x (List.mem_cons_self ..)
    have h2 := sizeC_le (l := l) (b := b) fun y hy => h y (List.mem_cons_of_mem _ hy)
    simp only [sizeC, List.map_cons, List.sum_cons, List.length_cons] at h2 ⊢
    rw [Nat.add_mul]
    omega
theorem Fine.size {T : List S87} (h : Fine T) : sizeC (T.map fun t => t.f1.f0) ≤ 1000000 := by
  have h1 := sizeC_le (l := T.map fun t => t.f1.f0) (b := 150) fun x hx => by
    obtain ⟨t, ht, rfl⟩ := List.mem_map.1 hx
    exact h.con t ht
  rw [List.length_map] at h1
  have h2 := h.len
  have : T.length * 150 ≤ 17 * 150 := Nat.mul_le_mul_right _ h2
  omega
theorem told_fine {l : List S53} {a : Nat} (h : ∀ x ∈ l, rightS x) (hn : l.length ≤ 16) (ht : total l ≤ 150) : Fine (toldT l a) := by
  have hs : ∀ t ∈ toldT l a, ∃ k, ∃ hk : k < l.length, t = ⟨(k : Int), sumM l[k]⟩ := fun t h => by
    obtain ⟨k, hk, rfl⟩ := mem_toldT.1 h
    refine ⟨k, hk, ?_⟩
    unfold tellK
    rw [List.getD_eq_getElem?_getD, List.getElem?_eq_getElem hk]
    rfl
  refine ⟨by rw [toldT_length]; omega, fun t ht => ?_, fun t ht u hu e => ?_, fun t ht2 => ?_, fun t ht2 => ?_, fun t ht2 x hx => ?_⟩
  · obtain ⟨k, hk, rfl⟩ := hs t ht
    exact Int.natCast_nonneg _
  · obtain ⟨k, hk, rfl⟩ := hs t ht
    obtain ⟨j, hj, rfl⟩ := hs u hu
    have : k = j := by
      have e2 : (k : Int) = (j : Int) := e
      omega
    subst this
    rfl
  · obtain ⟨k, hk, rfl⟩ := hs t ht2
    have h1 := total_mem (List.getElem_mem hk)
    have h2 := mergeR_length l[k].f0 []
    simp only [sumM, List.length_nil] at h2 ⊢
    omega
  · obtain ⟨k, hk, rfl⟩ := hs t ht2
    have h1 := total_mem (List.getElem_mem hk)
    simp only [sumM]
    omega
  · obtain ⟨k, hk, rfl⟩ := hs t ht2
    simp only [sumM] at hx
    rcases mem_mergeR hx with hx | hx
    · cases hx
    · exact rightB_len ((h _ (List.getElem_mem hk)).1.2 x hx).2
theorem con_few {l : List S53} (ht : total l ≤ 150) : ∀ s ∈ l, s.f0.length ≤ 150 := fun s hs => by have := total_mem hs; omega
theorem exch_start {j0 : Nat → Bool → Option Bool} (l : List S53) (hlen : l.length < 1954687338269) (h : ∀ x ∈ l, rightS x) (hT : Ev (fun k => j0 k true) true) (hF : l.length ≤ 16 → total l ≤ 150 → Ev (fun k => j0 k false) true) :
    Ev (fun k => (folkmootlaw16_awake.f k).bind fun t => if t = true then ((folkmootlaw16_few.f k l).bind fun b => j0 k (!b)) else j0 k true) true := by
  obtain ⟨b, hb, hc⟩ := few_ev l hlen h
  refine Ev.bind awake16_ev ?_
  simp only [if_true]
  refine Ev.bind hb ?_
  cases b with
  | true => exact hF (hc rfl).1 (hc rfl).2
  | false => exact hT
theorem u8_nat {a : Int} (h : (Lit.int .u8 a).wf = true) : ∃ n : Nat, a = (n : Int) ∧ n ≤ 255 := by
  simp only [Lit.wf, Bool.and_eq_true, decide_eq_true_eq] at h
  have e1 : IntKind.u8.min = 0 := by decide
  have e2 : IntKind.u8.max = 255 := by decide
  exact ⟨a.toNat, by omega, by omega⟩
theorem Fine.lt {T : List S87} (h : Fine T) : T.length < 9223372036854775807 := by have := h.len; omega
theorem Fine.ord1 {T : List S87} (h : Fine T) : ∀ t ∈ T, t.f1.f1.length ≤ 1000000 := fun t ht => by have := h.ord t ht; omega
theorem Fine.short {T : List S87} (h : Fine T) : Ev (fun k => exchange_Short.f k T) (shortT T) := short_ev T h.lt fun t ht => by have := h.ord t ht; omega
theorem Fine.full {T : List S87} (h : Fine T) : Ev (fun k => exchange_Full.f k T) (fullT T) := full_ev T h.lt h.ord1 h.bytes h.size
theorem Fine.shortLen {T : List S87} (h : Fine T) : (shortT T).length ≤ 1000000 := shortT_length T 1000000 h.ord1
theorem Fine.knownLen {T : List S87} (h : Fine T) : (knownC (T.map fun t => t.f1.f0)).length ≤ 1000000 := Nat.le_trans (knownC_length _) h.size
theorem Fine.fullLen {T : List S87} (h : Fine T) : (fullT T).length ≤ 2000000 := by
  have h1 := h.shortLen
  have h2 := h.knownLen
  have h3 := List.length_filter_le (fun x => !memL x (shortT T)) (sortL ((knownC (T.map fun t => t.f1.f0)).map (·.f0)))
  have h4 := sortL_length ((knownC (T.map fun t => t.f1.f0)).map (·.f0))
  rw [List.length_map] at h4
  simp only [fullT, behindL, List.length_append]
  omega
end Go.Proofs.Ytioooiflpabngaa.PAll
end
section
namespace Go.Proofs.Ytioooiflpabngaa.PAll
open Go.RowKit Go.Proofs.YtioooiflpabngaaW.PrintWords
set_option linter.unusedVariables false
set_option linter.unusedSimpArgs false
theorem lab_putR {l : List S32} {x : S32} {b : S27} : (∃ e ∈ putR l x, e.f0 = b) ↔ (∃ e ∈ l, e.f0 = b) ∨ x.f0 = b := by
  unfold putR
  split
  · rename_i h
    constructor
    · exact .inl
    · rintro (h2 | rfl)
      · exact h2
      · obtain ⟨y, hy, h3, _⟩ := foundE_mem (m := (foundE l x.f0).1) (Prod.ext rfl h)
        exact ⟨y, hy, h3⟩
  · constructor
    · rintro ⟨e, he, rfl⟩
      rcases mem_aheadE.1 he with rfl | he
      · exact .inr rfl
      · exact .inl ⟨e, he, rfl⟩
    · rintro (⟨e, he, rfl⟩ | rfl)
      · exact ⟨e, mem_aheadE.2 (.inr he), rfl⟩
      · exact ⟨x, mem_aheadE.2 (.inl rfl), rfl⟩
theorem lab_mergeR {b : S27} : ∀ {more l : List S32}, (∃ e ∈ mergeR l more, e.f0 = b) ↔ (∃ e ∈ l, e.f0 = b) ∨ ∃ e ∈ more, e.f0 = b
  | [], l => by simp [mergeR]
  | x :: more, l => by
    have h := lab_mergeR (b := b) (more := more) (l := putR l x)
    show (∃ e ∈ mergeR (putR l x) more, e.f0 = b) ↔ _
    rw [h, lab_putR, or_assoc]
    simp only [List.mem_cons, exists_eq_or_imp]
end Go.Proofs.Ytioooiflpabngaa.PAll
end
section
namespace Go.Proofs.Ytioooiflpabngaa.PAll
open Go.RowKit Go.Proofs.YtioooiflpabngaaW.PrintWords Go.Proofs.YtioooiflpabngaaW.PrintLast Go.Proofs.YtioooiflpabngaaW.PrintMore
attribute [local go_sem] max2_int min2_int max_two min_two max_three min_three max_four min_four   -- for this text's walks alone
set_option linter.unusedVariables false
set_option linter.unusedSimpArgs false
attribute [local go_sem high] eqA25
def folkmootlaw16_ExchangeTurned.j0 : Nat → List (S53) → Int → Int → Bool → Option (Bool)
 | 0, _, _, _, _ => none
 | k + 1, x0, x1, x2, x19 => if x19 = true then ((folkmootlaw16_awake.f k).bind fun t879 => (some t879)) else ((folkmootlaw16_told.f k x0 x1).bind fun bt880 => ((folkmootlaw16_told.f k x0 x2).bind fun bt889 => ((exchange_Short.f k bt880.1).bind fun t898 => ((exchange_Short.f k bt889.1).bind fun t901 => ((folkmootref05_Same.f k t898 t901).bind fun t904 => (if t904 = true then ((exchange_Full.f k bt880.1).bind fun t905 => ((exchange_Full.f k bt889.1).bind fun t908 => ((folkmootref05_Same.f k t905 t908).bind fun t911 => (if t911 = true then ((exchange_High.f k bt880.1).bind fun bt912 => ((exchange_High.f k bt889.1).bind fun bt914 => (if (bt912.1 == bt914.1 && (bt912.2 == bt914.2)) = true then ((exchange_Chosen.f k bt880.1).bind fun t916 => ((exchange_Chosen.f k bt889.1).bind fun t917 => (if t916 = t917 then ((exchange_Next.f k bt880.1).bind fun t918 => ((exchange_Next.f k bt889.1).bind fun t919 => (some (t918 == t919)))) else (some false)))) else (some false)))) else (some false))))) else (some false)))))))
def folkmootlaw16_ExchangeTurned.f (k : Nat) (l0 : List (S53)) (a1 : Int) (a2 : Int) : Option (Bool) := (folkmootlaw16_awake.f k).bind fun t877 => (if t877 = true then ((folkmootlaw16_few.f k l0).bind fun t878 => (folkmootlaw16_ExchangeTurned.j0 k l0 a1 a2 (!t878))) else (folkmootlaw16_ExchangeTurned.j0 k l0 a1 a2 true))
set_option maxHeartbeats 8000000 in
set_option maxRecDepth 100000 in
theorem folkmootlaw16_ExchangeTurned.calls (k : Nat) (A0 : Option Addr) (c0 : Nat) (l0 : List (S53)) (a1 : Int) (a2 : Int) (r : Bool) (w : World) (hr0 : Kd.C k53 w A0 l0.length l0) (hc0 : l0.length ≤ c0) (h : folkmootlaw16_ExchangeTurned.f k l0 a1 a2 = some r) :
  Calls Try.prog 17 #[.slice A0 l0.length c0, .int .u8 a1, .int .u8 a2] w fun e w' => e = .returned (.bool r) ∧ Below w.heap.size w w' := by
 have HR0 := Aside0.mk hr0
 have HC0 := Aside0.mk hc0
 clear hr0 hc0
 have HB := Aside0.mk (Below.refl w.heap.size w)
 have H : ((folkmootlaw16_awake.f k).bind fun t877 => (if t877 = true then ((folkmootlaw16_few.f k l0).bind fun t878 => (folkmootlaw16_ExchangeTurned.j0 k l0 a1 a2 (!t878))) else (folkmootlaw16_ExchangeTurned.j0 k l0 a1 a2 true))) = some r := h
 clear h
 have HC4 := Aside0.mk H
 clear H
 go_enter Try.func17, Try.ntmps17
 go_upto_region 1 with (fail)
 go_cut [19] (fun v19 wc => ∃ (kq : Nat) (x19_3 : Bool), v19 = .bool x19_3 ∧ Aside0 (folkmootlaw16_ExchangeTurned.j0 kq l0 a1 a2 x19_3 = some r) ∧ Aside0 (kq ≤ k) ∧ Aside0 (Below w.heap.size w wc))
 case first =>
  have H := HC4.out
  clear HC4
  replace H := Option.bind_eq_some_iff.mp H
  obtain ⟨t877, A50, H⟩ := H
  replace H : (if t877 = true then ((folkmootlaw16_few.f k l0).bind fun t878 => (folkmootlaw16_ExchangeTurned.j0 k l0 a1 a2 (!t878))) else (folkmootlaw16_ExchangeTurned.j0 k l0 a1 a2 true)) = some r := H
  have A5 := Aside0.mk A50
  clear A50
  by_cases c6 : t877 = true
  ·
   subst c6
   have H1 : ((folkmootlaw16_few.f k l0).bind fun t878 => (folkmootlaw16_ExchangeTurned.j0 k l0 a1 a2 (!t878))) = some r := by rw [if_pos rfl] at H; exact H
   clear H
   have H := H1
   clear H1
   replace H := Option.bind_eq_some_iff.mp H
   obtain ⟨t878, A70, H⟩ := H
   replace H : (folkmootlaw16_ExchangeTurned.j0 k l0 a1 a2 (!t878)) = some r := H
   have A7 := Aside0.mk A70
   clear A70
   have H' := Aside0.mk H
   clear H
   go_wp2_with (first | ((with_reducible refine gate_callee (f := 55) rfl ?_); refine goesL_ (some 13) rfl rfl Try.func55 (by kernel_rfl) rfl #[] rfl za_ ?_; (with_reducible refine (folkmootlaw16_awake.calls k  true _ A5.out).mono ?_); rintro e w8 ⟨rfl, hb⟩; refine ⟨_, rfl, ?_⟩; have n0_ := Aside0.mk (below_step zb_ hb); clear HB; have HB := n0_; clear n0_; (try clear hb); (try clear hb2); (try clear hk); (try clear hi)) | (go_at_call 56; (with_reducible refine (folkmootlaw16_few.calls k _ _ l0 t878 _ ?side1 ?side2 A7.out).mono ?_); (case side1 => exact zc_ HR0 HB); (case side2 => exact HC0.out); rintro e w' ⟨rfl, ⟨nd, rfl⟩⟩))
   go_meet
   case rel => exact ⟨_, (!t878), (by first | rfl | (simp; done) | (simp [*]; done)), H', ⟨by first | omega | exact Nat.le_refl _⟩, ⟨by repeat (first | (with_reducible first | exact HB.out | apply below_alloc | apply pw_below_drewN | apply below_drew1) | exact HB.out)⟩⟩
  ·
   replace c6 := Bool.eq_false_iff.mpr c6
   subst c6
   have H1 : (folkmootlaw16_ExchangeTurned.j0 k l0 a1 a2 true) = some r := by rw [if_neg (show ¬ (false = true) by decide)] at H; exact H
   clear H
   have H := H1
   clear H1
   have H' := Aside0.mk H
   clear H
   go_wp2_with (first | ((with_reducible refine gate_callee (f := 55) rfl ?_); refine goesL_ (some 13) rfl rfl Try.func55 (by kernel_rfl) rfl #[] rfl za_ ?_; (with_reducible refine (folkmootlaw16_awake.calls k  false _ A5.out).mono ?_); rintro e w9 ⟨rfl, hb⟩; refine ⟨_, rfl, ?_⟩; have n0_ := Aside0.mk (below_step zb_ hb); clear HB; have HB := n0_; clear n0_; (try clear hb); (try clear hb2); (try clear hk); (try clear hi)))
   go_meet
   case rel => exact ⟨_, (true), (by first | rfl | (simp; done) | (simp [*]; done)), H', ⟨by first | omega | exact Nat.le_refl _⟩, ⟨by repeat (first | (with_reducible first | exact HB.out | apply below_alloc | apply pw_below_drewN | apply below_drew1) | exact HB.out)⟩⟩
 case rest =>
  clear HC4
  try clear c1
  try clear p2
  try clear c5
  try clear c6
  obtain ⟨kq, x19_3, rfl, HA, HJ3, HB⟩ := hcut
  cases kq with
  | zero => exact absurd HA.out (by simp [folkmootlaw16_ExchangeTurned.j0])
  | succ kj3 =>
   have H := HA.out
   clear HA
   simp only [folkmootlaw16_ExchangeTurned.j0] at H
   by_cases c10 : x19_3 = true
   ·
    subst c10
    have H1 : ((folkmootlaw16_awake.f kj3).bind fun t879 => (some t879)) = some r := by rw [if_pos rfl] at H; exact H
    clear H
    have H := H1
    clear H1
    replace H := Option.bind_eq_some_iff.mp H
    obtain ⟨t879, A110, H⟩ := H
    replace H : (some t879) = some r := H
    have A11 := Aside0.mk A110
    clear A110
    obtain rfl := Option.some.inj H
    go_wp2_with (first | ((with_reducible refine gate_callee (f := 55) rfl ?_); refine goesL_ (some 20) rfl rfl Try.func55 (by kernel_rfl) rfl #[] rfl za_ ?_; (with_reducible refine (folkmootlaw16_awake.calls kj3  t879 _ A11.out).mono ?_); rintro e w12 ⟨rfl, hb⟩; refine ⟨_, rfl, ?_⟩; have n0_ := Aside0.mk (below_step zb_ hb); clear HB; have HB := n0_; clear n0_; (try clear hb); (try clear hb2); (try clear hk); (try clear hi)))
    go_ret
    exact ⟨by first | rfl | (simp [errW_none, errW_some] <;> rfl) | (simp [*, errW_none, errW_some] <;> rfl), by repeat (first | (with_reducible first | exact HB.out | apply below_alloc | apply pw_below_drewN | apply below_drew1) | exact HB.out)⟩
   ·
    replace c10 := Bool.eq_false_iff.mpr c10
    subst c10
    have H1 : ((folkmootlaw16_told.f kj3 l0 a1).bind fun bt880 => ((folkmootlaw16_told.f kj3 l0 a2).bind fun bt889 => ((exchange_Short.f kj3 bt880.1).bind fun t898 => ((exchange_Short.f kj3 bt889.1).bind fun t901 => ((folkmootref05_Same.f kj3 t898 t901).bind fun t904 => (if t904 = true then ((exchange_Full.f kj3 bt880.1).bind fun t905 => ((exchange_Full.f kj3 bt889.1).bind fun t908 => ((folkmootref05_Same.f kj3 t905 t908).bind fun t911 => (if t911 = true then ((exchange_High.f kj3 bt880.1).bind fun bt912 => ((exchange_High.f kj3 bt889.1).bind fun bt914 => (if (bt912.1 == bt914.1 && (bt912.2 == bt914.2)) = true then ((exchange_Chosen.f kj3 bt880.1).bind fun t916 => ((exchange_Chosen.f kj3 bt889.1).bind fun t917 => (if t916 = t917 then ((exchange_Next.f kj3 bt880.1).bind fun t918 => ((exchange_Next.f kj3 bt889.1).bind fun t919 => (some (t918 == t919)))) else (some false)))) else (some false)))) else (some false))))) else (some false))))))) = some r := by rw [if_neg (show ¬ (false = true) by decide)] at H; exact H
    clear H
    have H := H1
    clear H1
    replace H := Option.bind_eq_some_iff.mp H
    obtain ⟨⟨t880, t883, t886⟩, A130, H⟩ := H
    replace H : ((folkmootlaw16_told.f kj3 l0 a2).bind fun bt889 => ((exchange_Short.f kj3 t880).bind fun t898 => ((exchange_Short.f kj3 bt889.1).bind fun t901 => ((folkmootref05_Same.f kj3 t898 t901).bind fun t904 => (if t904 = true then ((exchange_Full.f kj3 t880).bind fun t905 => ((exchange_Full.f kj3 bt889.1).bind fun t908 => ((folkmootref05_Same.f kj3 t905 t908).bind fun t911 => (if t911 = true then ((exchange_High.f kj3 t880).bind fun bt912 => ((exchange_High.f kj3 bt889.1).bind fun bt914 => (if (bt912.1 == bt914.1 && (bt912.2 == bt914.2)) = true then ((exchange_Chosen.f kj3 t880).bind fun t916 => ((exchange_Chosen.f kj3 bt889.1).bind fun t917 => (if t916 = t917 then ((exchange_Next.f kj3 t880).bind fun t918 => ((exchange_Next.f kj3 bt889.1).bind fun t919 => (some (t918 == t919)))) else (some false)))) else (some false)))) else (some false))))) else (some false)))))) = some r := H
    have A13 := Aside0.mk A130
    clear A130
    replace H := Option.bind_eq_some_iff.mp H
    obtain ⟨⟨t889, t892, t895⟩, A140, H⟩ := H
    replace H : ((exchange_Short.f kj3 t880).bind fun t898 => ((exchange_Short.f kj3 t889).bind fun t901 => ((folkmootref05_Same.f kj3 t898 t901).bind fun t904 => (if t904 = true then ((exchange_Full.f kj3 t880).bind fun t905 => ((exchange_Full.f kj3 t889).bind fun t908 => ((folkmootref05_Same.f kj3 t905 t908).bind fun t911 => (if t911 = true then ((exchange_High.f kj3 t880).bind fun bt912 => ((exchange_High.f kj3 t889).bind fun bt914 => (if (bt912.1 == bt914.1 && (bt912.2 == bt914.2)) = true then ((exchange_Chosen.f kj3 t880).bind fun t916 => ((exchange_Chosen.f kj3 t889).bind fun t917 => (if t916 = t917 then ((exchange_Next.f kj3 t880).bind fun t918 => ((exchange_Next.f kj3 t889).bind fun t919 => (some (t918 == t919)))) else (some false)))) else (some false)))) else (some false))))) else (some false))))) = some r := H
    have A14 := Aside0.mk A140
    clear A140
    replace H := Option.bind_eq_some_iff.mp H
    obtain ⟨t898, A150, H⟩ := H
    replace H : ((exchange_Short.f kj3 t889).bind fun t901 => ((folkmootref05_Same.f kj3 t898 t901).bind fun t904 => (if t904 = true then ((exchange_Full.f kj3 t880).bind fun t905 => ((exchange_Full.f kj3 t889).bind fun t908 => ((folkmootref05_Same.f kj3 t905 t908).bind fun t911 => (if t911 = true then ((exchange_High.f kj3 t880).bind fun bt912 => ((exchange_High.f kj3 t889).bind fun bt914 => (if (bt912.1 == bt914.1 && (bt912.2 == bt914.2)) = true then ((exchange_Chosen.f kj3 t880).bind fun t916 => ((exchange_Chosen.f kj3 t889).bind fun t917 => (if t916 = t917 then ((exchange_Next.f kj3 t880).bind fun t918 => ((exchange_Next.f kj3 t889).bind fun t919 => (some (t918 == t919)))) else (some false)))) else (some false)))) else (some false))))) else (some false)))) = some r := H
    have A15 := Aside0.mk A150
    clear A150
    replace H := Option.bind_eq_some_iff.mp H
    obtain ⟨t901, A160, H⟩ := H
    replace H : ((folkmootref05_Same.f kj3 t898 t901).bind fun t904 => (if t904 = true then ((exchange_Full.f kj3 t880).bind fun t905 => ((exchange_Full.f kj3 t889).bind fun t908 => ((folkmootref05_Same.f kj3 t905 t908).bind fun t911 => (if t911 = true then ((exchange_High.f kj3 t880).bind fun bt912 => ((exchange_High.f kj3 t889).bind fun bt914 => (if (bt912.1 == bt914.1 && (bt912.2 == bt914.2)) = true then ((exchange_Chosen.f kj3 t880).bind fun t916 => ((exchange_Chosen.f kj3 t889).bind fun t917 => (if t916 = t917 then ((exchange_Next.f kj3 t880).bind fun t918 => ((exchange_Next.f kj3 t889).bind fun t919 => (some (t918 == t919)))) else (some false)))) else (some false)))) else (some false))))) else (some false))) = some r := H
    have A16 := Aside0.mk A160
    clear A160
    replace H := Option.bind_eq_some_iff.mp H
    obtain ⟨t904, A170, H⟩ := H
    replace H : (if t904 = true then ((exchange_Full.f kj3 t880).bind fun t905 => ((exchange_Full.f kj3 t889).bind fun t908 => ((folkmootref05_Same.f kj3 t905 t908).bind fun t911 => (if t911 = true then ((exchange_High.f kj3 t880).bind fun bt912 => ((exchange_High.f kj3 t889).bind fun bt914 => (if (bt912.1 == bt914.1 && (bt912.2 == bt914.2)) = true then ((exchange_Chosen.f kj3 t880).bind fun t916 => ((exchange_Chosen.f kj3 t889).bind fun t917 => (if t916 = t917 then ((exchange_Next.f kj3 t880).bind fun t918 => ((exchange_Next.f kj3 t889).bind fun t919 => (some (t918 == t919)))) else (some false)))) else (some false)))) else (some false))))) else (some false)) = some r := H
    have A17 := Aside0.mk A170
    clear A170
    by_cases c18 : t904 = true
    ·
     subst c18
     have H1 : ((exchange_Full.f kj3 t880).bind fun t905 => ((exchange_Full.f kj3 t889).bind fun t908 => ((folkmootref05_Same.f kj3 t905 t908).bind fun t911 => (if t911 = true then ((exchange_High.f kj3 t880).bind fun bt912 => ((exchange_High.f kj3 t889).bind fun bt914 => (if (bt912.1 == bt914.1 && (bt912.2 == bt914.2)) = true then ((exchange_Chosen.f kj3 t880).bind fun t916 => ((exchange_Chosen.f kj3 t889).bind fun t917 => (if t916 = t917 then ((exchange_Next.f kj3 t880).bind fun t918 => ((exchange_Next.f kj3 t889).bind fun t919 => (some (t918 == t919)))) else (some false)))) else (some false)))) else (some false))))) = some r := by rw [if_pos rfl] at H; exact H
     clear H
     have H := H1
     clear H1
     replace H := Option.bind_eq_some_iff.mp H
     obtain ⟨t905, A190, H⟩ := H
     replace H : ((exchange_Full.f kj3 t889).bind fun t908 => ((folkmootref05_Same.f kj3 t905 t908).bind fun t911 => (if t911 = true then ((exchange_High.f kj3 t880).bind fun bt912 => ((exchange_High.f kj3 t889).bind fun bt914 => (if (bt912.1 == bt914.1 && (bt912.2 == bt914.2)) = true then ((exchange_Chosen.f kj3 t880).bind fun t916 => ((exchange_Chosen.f kj3 t889).bind fun t917 => (if t916 = t917 then ((exchange_Next.f kj3 t880).bind fun t918 => ((exchange_Next.f kj3 t889).bind fun t919 => (some (t918 == t919)))) else (some false)))) else (some false)))) else (some false)))) = some r := H
     have A19 := Aside0.mk A190
     clear A190
     replace H := Option.bind_eq_some_iff.mp H
     obtain ⟨t908, A200, H⟩ := H
     replace H : ((folkmootref05_Same.f kj3 t905 t908).bind fun t911 => (if t911 = true then ((exchange_High.f kj3 t880).bind fun bt912 => ((exchange_High.f kj3 t889).bind fun bt914 => (if (bt912.1 == bt914.1 && (bt912.2 == bt914.2)) = true then ((exchange_Chosen.f kj3 t880).bind fun t916 => ((exchange_Chosen.f kj3 t889).bind fun t917 => (if t916 = t917 then ((exchange_Next.f kj3 t880).bind fun t918 => ((exchange_Next.f kj3 t889).bind fun t919 => (some (t918 == t919)))) else (some false)))) else (some false)))) else (some false))) = some r := H
     have A20 := Aside0.mk A200
     clear A200
     replace H := Option.bind_eq_some_iff.mp H
     obtain ⟨t911, A210, H⟩ := H
     replace H : (if t911 = true then ((exchange_High.f kj3 t880).bind fun bt912 => ((exchange_High.f kj3 t889).bind fun bt914 => (if (bt912.1 == bt914.1 && (bt912.2 == bt914.2)) = true then ((exchange_Chosen.f kj3 t880).bind fun t916 => ((exchange_Chosen.f kj3 t889).bind fun t917 => (if t916 = t917 then ((exchange_Next.f kj3 t880).bind fun t918 => ((exchange_Next.f kj3 t889).bind fun t919 => (some (t918 == t919)))) else (some false)))) else (some false)))) else (some false)) = some r := H
     have A21 := Aside0.mk A210
     clear A210
     by_cases c22 : t911 = true
     ·
      subst c22
      have H1 : ((exchange_High.f kj3 t880).bind fun bt912 => ((exchange_High.f kj3 t889).bind fun bt914 => (if (bt912.1 == bt914.1 && (bt912.2 == bt914.2)) = true then ((exchange_Chosen.f kj3 t880).bind fun t916 => ((exchange_Chosen.f kj3 t889).bind fun t917 => (if t916 = t917 then ((exchange_Next.f kj3 t880).bind fun t918 => ((exchange_Next.f kj3 t889).bind fun t919 => (some (t918 == t919)))) else (some false)))) else (some false)))) = some r := by rw [if_pos rfl] at H; exact H
      clear H
      have H := H1
      clear H1
      replace H := Option.bind_eq_some_iff.mp H
      obtain ⟨⟨t912, t913⟩, A230, H⟩ := H
      replace H : ((exchange_High.f kj3 t889).bind fun bt914 => (if (t912 == bt914.1 && (t913 == bt914.2)) = true then ((exchange_Chosen.f kj3 t880).bind fun t916 => ((exchange_Chosen.f kj3 t889).bind fun t917 => (if t916 = t917 then ((exchange_Next.f kj3 t880).bind fun t918 => ((exchange_Next.f kj3 t889).bind fun t919 => (some (t918 == t919)))) else (some false)))) else (some false))) = some r := H
      have A23 := Aside0.mk A230
      clear A230
      replace H := Option.bind_eq_some_iff.mp H
      obtain ⟨⟨t914, t915⟩, A240, H⟩ := H
      replace H : (if (t912 == t914 && (t913 == t915)) = true then ((exchange_Chosen.f kj3 t880).bind fun t916 => ((exchange_Chosen.f kj3 t889).bind fun t917 => (if t916 = t917 then ((exchange_Next.f kj3 t880).bind fun t918 => ((exchange_Next.f kj3 t889).bind fun t919 => (some (t918 == t919)))) else (some false)))) else (some false)) = some r := H
      have A24 := Aside0.mk A240
      clear A240
      by_cases c25 : (t912 == t914 && (t913 == t915)) = true
      ·
       rw [if_pos c25] at H
       have c25b0 : (t912 == t914 && (t913 == t915)) = true := c25
       (try (have c25b1 : decide (t912 = t914 && (t913 == t915)) = true := by simpa using c25))
       (try (have c25b2 : (t912 == t914 && (t913 == t915)) = true := by simpa using c25))
       clear c25
       replace H := Option.bind_eq_some_iff.mp H
       obtain ⟨t916, A260, H⟩ := H
       replace H : ((exchange_Chosen.f kj3 t889).bind fun t917 => (if t916 = t917 then ((exchange_Next.f kj3 t880).bind fun t918 => ((exchange_Next.f kj3 t889).bind fun t919 => (some (t918 == t919)))) else (some false))) = some r := H
       have A26 := Aside0.mk A260
       clear A260
       replace H := Option.bind_eq_some_iff.mp H
       obtain ⟨t917, A270, H⟩ := H
       replace H : (if t916 = t917 then ((exchange_Next.f kj3 t880).bind fun t918 => ((exchange_Next.f kj3 t889).bind fun t919 => (some (t918 == t919)))) else (some false)) = some r := H
       have A27 := Aside0.mk A270
       clear A270
       by_cases c28 : t916 = t917
       ·
        rw [if_pos c28] at H
        have c28b0 : (t916 == t917) = true := beq_iff_eq.mpr c28
        have c28b1 : (t916 != t917) = false := bne_eq_false_iff_eq.mpr c28
        clear c28
        replace H := Option.bind_eq_some_iff.mp H
        obtain ⟨t918, A290, H⟩ := H
        replace H : ((exchange_Next.f kj3 t889).bind fun t919 => (some (t918 == t919))) = some r := H
        have A29 := Aside0.mk A290
        clear A290
        replace H := Option.bind_eq_some_iff.mp H
        obtain ⟨t919, A300, H⟩ := H
        replace H : (some (t918 == t919)) = some r := H
        have A30 := Aside0.mk A300
        clear A300
        obtain rfl := Option.some.inj H
        go_wp2_with (first | ((with_reducible refine gate_callee (f := 57) rfl ?_); refine goesL_ (some 24) rfl rfl Try.func57 (by kernel_rfl) rfl #[.slice A0 l0.length c0, .int .u8 a1] rfl za_ ?_; (with_reducible refine (folkmootlaw16_told.calls kj3 (fun k_ => k_ < w.heap.size) _ _ l0 a1 t880 t883 t886 _ ?side1 A13.out).mono ?_); (case side1 => exact Kd.V_mk HC0.out (Kd.F_below (Kd.C_F k53_heap HR0.out) zb_)); rintro e w31 ⟨v881, v884, v887, rfl, ho0, ho1, ho2, hb⟩; refine ⟨_, rfl, ?_⟩; have n0_ := Aside0.mk (Kd.N_lower (Kd.N_mono (ok' := fun k_ => some k_ ≠ (v884 : Value).ownBlock ∧ some k_ ≠ (v887 : Value).ownBlock) ho0 (fun k_ hk_ => ⟨hk_.2.1, hk_.2.2⟩)) (below_size zb_)); have n1_ := Aside0.mk (Kd.R_lower (Kd.R_mono (ok' := fun k_ => True) ho1 (fun _ hk_ => trivial)) (below_size zb_)); have n2_ := Aside0.mk (Kd.N_lower (Kd.N_mono (ok' := fun k_ => some k_ ≠ (v881 : Value).ownBlock ∧ some k_ ≠ (v884 : Value).ownBlock) ho2 (fun k_ hk_ => ⟨hk_.2.1, hk_.2.2⟩)) (below_size zb_)); have n3_ := Aside0.mk (below_step zb_ hb); clear HB; have HO882 := n0_; have HO885 := n1_; have HO888 := n2_; have HB := n3_; clear n0_ n1_ n2_ n3_; (try clear hb); (try clear hb2); (try clear hk); (try clear hi); (try clear ho0); (try clear ho1); (try clear ho2)) | ((with_reducible refine gate_callee (f := 57) rfl ?_); refine goesL_ (some 31) rfl rfl Try.func57 (by kernel_rfl) rfl #[.slice A0 l0.length c0, .int .u8 a2] rfl za_ ?_; (with_reducible refine (folkmootlaw16_told.calls kj3 (fun k_ => k_ < w.heap.size) _ _ l0 a2 t889 t892 t895 _ ?side1 A14.out).mono ?_); (case side1 => exact Kd.V_mk HC0.out (Kd.F_below (Kd.C_F k53_heap HR0.out) zb_)); rintro e w32 ⟨v890, v893, v896, rfl, ho0, ho1, ho2, hb⟩; refine ⟨_, rfl, ?_⟩; have n0_ := Aside0.mk (Kd.N_mono (Kd.N_told (Kd.N_told (Kd.N_told (Kd.N_old (zn_ HO882) hb) (Kd.N_base ho0)) (Kd.R_base ho1)) (Kd.N_base ho2)) (fun _ h_ => h_.1)); have n1_ := Aside0.mk (Kd.R_elder' (zr_ HO885) (Kd.R_base ho1) hb); have n2_ := Aside0.mk (Kd.N_mono (Kd.N_told (Kd.N_told (Kd.N_told (Kd.N_old (zn_ HO888) hb) (Kd.N_base ho0)) (Kd.R_base ho1)) (Kd.N_base ho2)) (fun _ h_ => h_.1)); have n3_ := Aside0.mk (Kd.N_lower (Kd.N_mono (ok' := fun k_ => some k_ ≠ (v893 : Value).ownBlock ∧ some k_ ≠ (v896 : Value).ownBlock ∧ some k_ ≠ (v881 : Value).ownBlock ∧ some k_ ≠ (v884 : Value).ownBlock ∧ some k_ ≠ (v887 : Value).ownBlock) ho0 (fun k_ hk_ => ⟨hk_.2.1, hk_.2.2, Or.elim hk_.1 (fun hs_ => fun e_ => Nat.not_le.2 hs_ (Kd.N_base HO882.out k_ e_.symm)) (fun hn_ => (Kd.fresh' (Kd.N_lt (zn_ HO882)) k_ hn_)), Or.elim hk_.1 (fun hs_ => fun e_ => Nat.not_le.2 hs_ (Kd.R_base HO885.out k_ e_.symm)) (fun hn_ => (Kd.fresh' (Kd.R_lt (zr_ HO885)) k_ hn_)), Or.elim hk_.1 (fun hs_ => fun e_ => Nat.not_le.2 hs_ (Kd.N_base HO888.out k_ e_.symm)) (fun hn_ => (Kd.fresh' (Kd.N_lt (zn_ HO888)) k_ hn_))⟩)) (below_size zb_)); have n4_ := Aside0.mk (Kd.R_lower (Kd.R_new' (Kd.R_mono (ok' := fun k_ => True) ho1 (fun _ hk_ => trivial)) (Kd.R_lt (zr_ HO885))) (below_size zb_)); have n5_ := Aside0.mk (Kd.N_lower (Kd.N_mono (ok' := fun k_ => some k_ ≠ (v890 : Value).ownBlock ∧ some k_ ≠ (v893 : Value).ownBlock ∧ some k_ ≠ (v881 : Value).ownBlock ∧ some k_ ≠ (v884 : Value).ownBlock ∧ some k_ ≠ (v887 : Value).ownBlock) ho2 (fun k_ hk_ => ⟨hk_.2.1, hk_.2.2, Or.elim hk_.1 (fun hs_ => fun e_ => Nat.not_le.2 hs_ (Kd.N_base HO882.out k_ e_.symm)) (fun hn_ => (Kd.fresh' (Kd.N_lt (zn_ HO882)) k_ hn_)), Or.elim hk_.1 (fun hs_ => fun e_ => Nat.not_le.2 hs_ (Kd.R_base HO885.out k_ e_.symm)) (fun hn_ => (Kd.fresh' (Kd.R_lt (zr_ HO885)) k_ hn_)), Or.elim hk_.1 (fun hs_ => fun e_ => Nat.not_le.2 hs_ (Kd.N_base HO888.out k_ e_.symm)) (fun hn_ => (Kd.fresh' (Kd.N_lt (zn_ HO888)) k_ hn_))⟩)) (below_size zb_)); have n6_ := Aside0.mk (below_step zb_ hb); clear HO882; clear HO885; clear HO888; clear HB; have HO882 := n0_; have HO885 := n1_; have HO888 := n2_; have HO891 := n3_; have HO894 := n4_; have HO897 := n5_; have HB := n6_; clear n0_ n1_ n2_ n3_ n4_ n5_ n6_; (try clear hb); (try clear hb2); (try clear hk); (try clear hi); (try clear ho0); (try clear ho1); (try clear ho2); obtain ⟨Ao33, co33, eo33⟩ := Kd.N_slice HO882.out; subst eo33) | ((with_reducible refine gate_callee (f := 62) rfl ?_); refine goesL_ (some 36) rfl rfl Try.func62 (by kernel_rfl) rfl #[.slice Ao33 t880.length co33] rfl za_ ?_; (with_reducible refine (exchange_Short.calls kj3 _ _ t880 t898 _ ?side1 ?side2 A15.out).mono ?_); (case side1 => exact zd_ (Kd.N_reads' HO882.out).2.2); (case side2 => exact (Kd.N_reads' HO882.out).2.1); rintro e w34 ⟨v899, rfl, ho0, hb⟩; refine ⟨_, rfl, ?_⟩; have n0_ := Aside0.mk (Kd.N_elder' (zn_ HO882) (Kd.R_base ho0) hb); have n1_ := Aside0.mk (Kd.R_below (zr_ HO885) hb); have n2_ := Aside0.mk (Kd.N_elder' (zn_ HO888) (Kd.R_base ho0) hb); have n3_ := Aside0.mk (Kd.N_elder' (zn_ HO891) (Kd.R_base ho0) hb); have n4_ := Aside0.mk (Kd.R_below (zr_ HO894) hb); have n5_ := Aside0.mk (Kd.N_elder' (zn_ HO897) (Kd.R_base ho0) hb); have n6_ := Aside0.mk (Kd.R_lower ho0 (below_size zb_)); have n7_ := Aside0.mk (below_step zb_ hb); clear HO882; clear HO885; clear HO888; clear HO891; clear HO894; clear HO897; clear HB; have HO882 := n0_; have HO885 := n1_; have HO888 := n2_; have HO891 := n3_; have HO894 := n4_; have HO897 := n5_; have HO900 := n6_; have HB := n7_; clear n0_ n1_ n2_ n3_ n4_ n5_ n6_ n7_; (try clear hb); (try clear hb2); (try clear hk); (try clear hi); (try clear ho0); obtain ⟨Ao35, co35, eo35⟩ := Kd.N_slice HO891.out; subst eo35) | ((with_reducible refine gate_callee (f := 62) rfl ?_); refine goesL_ (some 38) rfl rfl Try.func62 (by kernel_rfl) rfl #[.slice Ao35 t889.length co35] rfl za_ ?_; (with_reducible refine (exchange_Short.calls kj3 _ _ t889 t901 _ ?side1 ?side2 A16.out).mono ?_); (case side1 => exact zd_ (Kd.N_reads' HO891.out).2.2); (case side2 => exact (Kd.N_reads' HO891.out).2.1); rintro e w36 ⟨v902, rfl, ho0, hb⟩; refine ⟨_, rfl, ?_⟩; have n0_ := Aside0.mk (Kd.N_elder' (zn_ HO882) (Kd.R_base ho0) hb); have n1_ := Aside0.mk (Kd.R_below (zr_ HO885) hb); have n2_ := Aside0.mk (Kd.N_elder' (zn_ HO888) (Kd.R_base ho0) hb); have n3_ := Aside0.mk (Kd.N_elder' (zn_ HO891) (Kd.R_base ho0) hb); have n4_ := Aside0.mk (Kd.R_below (zr_ HO894) hb); have n5_ := Aside0.mk (Kd.N_elder' (zn_ HO897) (Kd.R_base ho0) hb); have n6_ := Aside0.mk (Kd.R_elder' (zr_ HO900) (Kd.R_base ho0) hb); have n7_ := Aside0.mk (Kd.R_lower (Kd.R_new' ho0 (Kd.R_lt (zr_ HO900))) (below_size zb_)); have n8_ := Aside0.mk (below_step zb_ hb); clear HO882; clear HO885; clear HO888; clear HO891; clear HO894; clear HO897; clear HO900; clear HB; have HO882 := n0_; have HO885 := n1_; have HO888 := n2_; have HO891 := n3_; have HO894 := n4_; have HO897 := n5_; have HO900 := n6_; have HO903 := n7_; have HB := n8_; clear n0_ n1_ n2_ n3_ n4_ n5_ n6_ n7_ n8_; (try clear hb); (try clear hb2); (try clear hk); (try clear hi); (try clear ho0); obtain ⟨Ao37, co37, eo37⟩ := Kd.R_slice HO900.out; subst eo37; obtain ⟨Ao38, co38, eo38⟩ := Kd.R_slice HO903.out; subst eo38) | ((with_reducible refine gate_callee (f := 30) rfl ?_); refine goesL_ (some 39) rfl rfl Try.func30 (by kernel_rfl) rfl #[.slice Ao37 t898.length co37, .slice Ao38 t901.length co38] rfl za_ ?_; (with_reducible refine (folkmootref05_Same.calls kj3 _ _ t898 _ _ t901 true _ ?side1 ?side2 ?side3 ?side4 A17.out).mono ?_); (case side1 => exact zd_ (Kd.R_reads' HO900.out).2.2); (case side2 => exact (Kd.R_reads' HO900.out).2.1); (case side3 => exact zd_ (Kd.R_reads' HO903.out).2.2); (case side4 => exact (Kd.R_reads' HO903.out).2.1); rintro e w' ⟨rfl, ⟨nd, rfl⟩⟩; refine ⟨_, rfl, ?_⟩) | (go_at_call 66; (with_reducible refine (exchange_Full.calls kj3 _ _ t880 t905 _ ?side1 ?side2 A19.out).mono ?_); (case side1 => exact zd_ (Kd.N_reads' HO882.out).2.2); (case side2 => exact (Kd.N_reads' HO882.out).2.1); rintro e w39 ⟨v906, rfl, ho0, hb⟩; have n0_ := Aside0.mk (Kd.N_elder' (zn_ HO882) (Kd.R_base ho0) hb); have n1_ := Aside0.mk (Kd.R_below (zr_ HO885) hb); have n2_ := Aside0.mk (Kd.N_elder' (zn_ HO888) (Kd.R_base ho0) hb); have n3_ := Aside0.mk (Kd.N_elder' (zn_ HO891) (Kd.R_base ho0) hb); have n4_ := Aside0.mk (Kd.R_below (zr_ HO894) hb); have n5_ := Aside0.mk (Kd.N_elder' (zn_ HO897) (Kd.R_base ho0) hb); have n6_ := Aside0.mk (Kd.R_elder' (zr_ HO900) (Kd.R_base ho0) hb); have n7_ := Aside0.mk (Kd.R_elder' (zr_ HO903) (Kd.R_base ho0) hb); have n8_ := Aside0.mk (Kd.R_lower (Kd.R_new' (Kd.R_new' ho0 (Kd.R_lt (zr_ HO900))) (Kd.R_lt (zr_ HO903))) (below_size zb_)); have n9_ := Aside0.mk (below_step zb_ hb); clear HO882; clear HO885; clear HO888; clear HO891; clear HO894; clear HO897; clear HO900; clear HO903; clear HB; have HO882 := n0_; have HO885 := n1_; have HO888 := n2_; have HO891 := n3_; have HO894 := n4_; have HO897 := n5_; have HO900 := n6_; have HO903 := n7_; have HO907 := n8_; have HB := n9_; clear n0_ n1_ n2_ n3_ n4_ n5_ n6_ n7_ n8_ n9_; (try clear hb); (try clear hb2); (try clear hk); (try clear hi); (try clear ho0)) | (go_at_call 66; (with_reducible refine (exchange_Full.calls kj3 _ _ t889 t908 _ ?side1 ?side2 A20.out).mono ?_); (case side1 => exact zd_ (Kd.N_reads' HO891.out).2.2); (case side2 => exact (Kd.N_reads' HO891.out).2.1); rintro e w40 ⟨v909, rfl, ho0, hb⟩; have n0_ := Aside0.mk (Kd.N_elder' (zn_ HO882) (Kd.R_base ho0) hb); have n1_ := Aside0.mk (Kd.R_below (zr_ HO885) hb); have n2_ := Aside0.mk (Kd.N_elder' (zn_ HO888) (Kd.R_base ho0) hb); have n3_ := Aside0.mk (Kd.N_elder' (zn_ HO891) (Kd.R_base ho0) hb); have n4_ := Aside0.mk (Kd.R_below (zr_ HO894) hb); have n5_ := Aside0.mk (Kd.N_elder' (zn_ HO897) (Kd.R_base ho0) hb); have n6_ := Aside0.mk (Kd.R_elder' (zr_ HO900) (Kd.R_base ho0) hb); have n7_ := Aside0.mk (Kd.R_elder' (zr_ HO903) (Kd.R_base ho0) hb); have n8_ := Aside0.mk (Kd.R_elder' (zr_ HO907) (Kd.R_base ho0) hb); have n9_ := Aside0.mk (Kd.R_lower (Kd.R_new' (Kd.R_new' (Kd.R_new' ho0 (Kd.R_lt (zr_ HO900))) (Kd.R_lt (zr_ HO903))) (Kd.R_lt (zr_ HO907))) (below_size zb_)); have n10_ := Aside0.mk (below_step zb_ hb); clear HO882; clear HO885; clear HO888; clear HO891; clear HO894; clear HO897; clear HO900; clear HO903; clear HO907; clear HB; have HO882 := n0_; have HO885 := n1_; have HO888 := n2_; have HO891 := n3_; have HO894 := n4_; have HO897 := n5_; have HO900 := n6_; have HO903 := n7_; have HO907 := n8_; have HO910 := n9_; have HB := n10_; clear n0_ n1_ n2_ n3_ n4_ n5_ n6_ n7_ n8_ n9_ n10_; (try clear hb); (try clear hb2); (try clear hk); (try clear hi); (try clear ho0); obtain ⟨Ao41, co41, eo41⟩ := Kd.R_slice HO907.out; subst eo41; obtain ⟨Ao42, co42, eo42⟩ := Kd.R_slice HO910.out; subst eo42) | (go_at_call 30; (with_reducible refine (folkmootref05_Same.calls kj3 _ _ t905 _ _ t908 true _ ?side1 ?side2 ?side3 ?side4 A21.out).mono ?_); (case side1 => exact zd_ (Kd.R_reads' HO907.out).2.2); (case side2 => exact (Kd.R_reads' HO907.out).2.1); (case side3 => exact zd_ (Kd.R_reads' HO910.out).2.2); (case side4 => exact (Kd.R_reads' HO910.out).2.1); rintro e w' ⟨rfl, ⟨nd, rfl⟩⟩) | (go_at_call 59; (with_reducible refine (exchange_High.calls kj3 _ _ t880 t912 t913 _ ?side1 ?side2 A23.out).mono ?_); (case side1 => exact zd_ (Kd.N_reads' HO882.out).2.2); (case side2 => exact (Kd.N_reads' HO882.out).2.1); rintro e w43 ⟨rfl, hb⟩; have n0_ := Aside0.mk (Kd.N_below (zn_ HO882) hb); have n1_ := Aside0.mk (Kd.R_below (zr_ HO885) hb); have n2_ := Aside0.mk (Kd.N_below (zn_ HO888) hb); have n3_ := Aside0.mk (Kd.N_below (zn_ HO891) hb); have n4_ := Aside0.mk (Kd.R_below (zr_ HO894) hb); have n5_ := Aside0.mk (Kd.N_below (zn_ HO897) hb); have n6_ := Aside0.mk (Kd.R_below (zr_ HO900) hb); have n7_ := Aside0.mk (Kd.R_below (zr_ HO903) hb); have n8_ := Aside0.mk (Kd.R_below (zr_ HO907) hb); have n9_ := Aside0.mk (Kd.R_below (zr_ HO910) hb); have n10_ := Aside0.mk (below_step zb_ hb); clear HO882; clear HO885; clear HO888; clear HO891; clear HO894; clear HO897; clear HO900; clear HO903; clear HO907; clear HO910; clear HB; have HO882 := n0_; have HO885 := n1_; have HO888 := n2_; have HO891 := n3_; have HO894 := n4_; have HO897 := n5_; have HO900 := n6_; have HO903 := n7_; have HO907 := n8_; have HO910 := n9_; have HB := n10_; clear n0_ n1_ n2_ n3_ n4_ n5_ n6_ n7_ n8_ n9_ n10_; (try clear hb); (try clear hb2); (try clear hk); (try clear hi)) | (go_at_call 59; (with_reducible refine (exchange_High.calls kj3 _ _ t889 t914 t915 _ ?side1 ?side2 A24.out).mono ?_); (case side1 => exact zd_ (Kd.N_reads' HO891.out).2.2); (case side2 => exact (Kd.N_reads' HO891.out).2.1); rintro e w44 ⟨rfl, hb⟩; have n0_ := Aside0.mk (Kd.N_below (zn_ HO882) hb); have n1_ := Aside0.mk (Kd.R_below (zr_ HO885) hb); have n2_ := Aside0.mk (Kd.N_below (zn_ HO888) hb); have n3_ := Aside0.mk (Kd.N_below (zn_ HO891) hb); have n4_ := Aside0.mk (Kd.R_below (zr_ HO894) hb); have n5_ := Aside0.mk (Kd.N_below (zn_ HO897) hb); have n6_ := Aside0.mk (Kd.R_below (zr_ HO900) hb); have n7_ := Aside0.mk (Kd.R_below (zr_ HO903) hb); have n8_ := Aside0.mk (Kd.R_below (zr_ HO907) hb); have n9_ := Aside0.mk (Kd.R_below (zr_ HO910) hb); have n10_ := Aside0.mk (below_step zb_ hb); clear HO882; clear HO885; clear HO888; clear HO891; clear HO894; clear HO897; clear HO900; clear HO903; clear HO907; clear HO910; clear HB; have HO882 := n0_; have HO885 := n1_; have HO888 := n2_; have HO891 := n3_; have HO894 := n4_; have HO897 := n5_; have HO900 := n6_; have HO903 := n7_; have HO907 := n8_; have HO910 := n9_; have HB := n10_; clear n0_ n1_ n2_ n3_ n4_ n5_ n6_ n7_ n8_ n9_ n10_; (try clear hb); (try clear hb2); (try clear hk); (try clear hi)) | (go_at_call 61; (with_reducible refine (exchange_Chosen.calls kj3 _ _ t880 t916 _ ?side1 ?side2 A26.out).mono ?_); (case side1 => exact zd_ (Kd.N_reads' HO882.out).2.2); (case side2 => exact (Kd.N_reads' HO882.out).2.1); rintro e w45 ⟨rfl, hb⟩; have n0_ := Aside0.mk (Kd.N_below (zn_ HO882) hb); have n1_ := Aside0.mk (Kd.R_below (zr_ HO885) hb); have n2_ := Aside0.mk (Kd.N_below (zn_ HO888) hb); have n3_ := Aside0.mk (Kd.N_below (zn_ HO891) hb); have n4_ := Aside0.mk (Kd.R_below (zr_ HO894) hb); have n5_ := Aside0.mk (Kd.N_below (zn_ HO897) hb); have n6_ := Aside0.mk (Kd.R_below (zr_ HO900) hb); have n7_ := Aside0.mk (Kd.R_below (zr_ HO903) hb); have n8_ := Aside0.mk (Kd.R_below (zr_ HO907) hb); have n9_ := Aside0.mk (Kd.R_below (zr_ HO910) hb); have n10_ := Aside0.mk (below_step zb_ hb); clear HO882; clear HO885; clear HO888; clear HO891; clear HO894; clear HO897; clear HO900; clear HO903; clear HO907; clear HO910; clear HB; have HO882 := n0_; have HO885 := n1_; have HO888 := n2_; have HO891 := n3_; have HO894 := n4_; have HO897 := n5_; have HO900 := n6_; have HO903 := n7_; have HO907 := n8_; have HO910 := n9_; have HB := n10_; clear n0_ n1_ n2_ n3_ n4_ n5_ n6_ n7_ n8_ n9_ n10_; (try clear hb); (try clear hb2); (try clear hk); (try clear hi)) | (go_at_call 61; (with_reducible refine (exchange_Chosen.calls kj3 _ _ t889 t917 _ ?side1 ?side2 A27.out).mono ?_); (case side1 => exact zd_ (Kd.N_reads' HO891.out).2.2); (case side2 => exact (Kd.N_reads' HO891.out).2.1); rintro e w46 ⟨rfl, hb⟩; have n0_ := Aside0.mk (Kd.N_below (zn_ HO882) hb); have n1_ := Aside0.mk (Kd.R_below (zr_ HO885) hb); have n2_ := Aside0.mk (Kd.N_below (zn_ HO888) hb); have n3_ := Aside0.mk (Kd.N_below (zn_ HO891) hb); have n4_ := Aside0.mk (Kd.R_below (zr_ HO894) hb); have n5_ := Aside0.mk (Kd.N_below (zn_ HO897) hb); have n6_ := Aside0.mk (Kd.R_below (zr_ HO900) hb); have n7_ := Aside0.mk (Kd.R_below (zr_ HO903) hb); have n8_ := Aside0.mk (Kd.R_below (zr_ HO907) hb); have n9_ := Aside0.mk (Kd.R_below (zr_ HO910) hb); have n10_ := Aside0.mk (below_step zb_ hb); clear HO882; clear HO885; clear HO888; clear HO891; clear HO894; clear HO897; clear HO900; clear HO903; clear HO907; clear HO910; clear HB; have HO882 := n0_; have HO885 := n1_; have HO888 := n2_; have HO891 := n3_; have HO894 := n4_; have HO897 := n5_; have HO900 := n6_; have HO903 := n7_; have HO907 := n8_; have HO910 := n9_; have HB := n10_; clear n0_ n1_ n2_ n3_ n4_ n5_ n6_ n7_ n8_ n9_ n10_; (try clear hb); (try clear hb2); (try clear hk); (try clear hi)) | (go_at_call 68; (with_reducible refine (exchange_Next.calls kj3 _ _ t880 t918 _ ?side1 ?side2 A29.out).mono ?_); (case side1 => exact zd_ (Kd.N_reads' HO882.out).2.2); (case side2 => exact (Kd.N_reads' HO882.out).2.1); rintro e w47 ⟨rfl, hb⟩; have n0_ := Aside0.mk (Kd.N_below (zn_ HO882) hb); have n1_ := Aside0.mk (Kd.R_below (zr_ HO885) hb); have n2_ := Aside0.mk (Kd.N_below (zn_ HO888) hb); have n3_ := Aside0.mk (Kd.N_below (zn_ HO891) hb); have n4_ := Aside0.mk (Kd.R_below (zr_ HO894) hb); have n5_ := Aside0.mk (Kd.N_below (zn_ HO897) hb); have n6_ := Aside0.mk (Kd.R_below (zr_ HO900) hb); have n7_ := Aside0.mk (Kd.R_below (zr_ HO903) hb); have n8_ := Aside0.mk (Kd.R_below (zr_ HO907) hb); have n9_ := Aside0.mk (Kd.R_below (zr_ HO910) hb); have n10_ := Aside0.mk (below_step zb_ hb); clear HO882; clear HO885; clear HO888; clear HO891; clear HO894; clear HO897; clear HO900; clear HO903; clear HO907; clear HO910; clear HB; have HO882 := n0_; have HO885 := n1_; have HO888 := n2_; have HO891 := n3_; have HO894 := n4_; have HO897 := n5_; have HO900 := n6_; have HO903 := n7_; have HO907 := n8_; have HO910 := n9_; have HB := n10_; clear n0_ n1_ n2_ n3_ n4_ n5_ n6_ n7_ n8_ n9_ n10_; (try clear hb); (try clear hb2); (try clear hk); (try clear hi)) | (go_at_call 68; (with_reducible refine (exchange_Next.calls kj3 _ _ t889 t919 _ ?side1 ?side2 A30.out).mono ?_); (case side1 => exact zd_ (Kd.N_reads' HO891.out).2.2); (case side2 => exact (Kd.N_reads' HO891.out).2.1); rintro e w48 ⟨rfl, hb⟩; have n0_ := Aside0.mk (Kd.N_below (zn_ HO882) hb); have n1_ := Aside0.mk (Kd.R_below (zr_ HO885) hb); have n2_ := Aside0.mk (Kd.N_below (zn_ HO888) hb); have n3_ := Aside0.mk (Kd.N_below (zn_ HO891) hb); have n4_ := Aside0.mk (Kd.R_below (zr_ HO894) hb); have n5_ := Aside0.mk (Kd.N_below (zn_ HO897) hb); have n6_ := Aside0.mk (Kd.R_below (zr_ HO900) hb); have n7_ := Aside0.mk (Kd.R_below (zr_ HO903) hb); have n8_ := Aside0.mk (Kd.R_below (zr_ HO907) hb); have n9_ := Aside0.mk (Kd.R_below (zr_ HO910) hb); have n10_ := Aside0.mk (below_step zb_ hb); clear HO882; clear HO885; clear HO888; clear HO891; clear HO894; clear HO897; clear HO900; clear HO903; clear HO907; clear HO910; clear HB; have HO882 := n0_; have HO885 := n1_; have HO888 := n2_; have HO891 := n3_; have HO894 := n4_; have HO897 := n5_; have HO900 := n6_; have HO903 := n7_; have HO907 := n8_; have HO910 := n9_; have HB := n10_; clear n0_ n1_ n2_ n3_ n4_ n5_ n6_ n7_ n8_ n9_ n10_; (try clear hb); (try clear hb2); (try clear hk); (try clear hi)))
        go_ret
        exact ⟨by first | rfl | (simp [errW_none, errW_some] <;> rfl) | (simp [*, errW_none, errW_some] <;> rfl), by repeat (first | (with_reducible first | exact HB.out | apply below_alloc | apply pw_below_drewN | apply below_drew1) | exact HB.out)⟩
       ·
        rw [if_neg c28] at H
        have c28b0 : (t916 == t917) = false := beq_eq_false_iff_ne.mpr c28
        have c28b1 : (t916 != t917) = true := bne_iff_ne.mpr c28
        obtain rfl := Option.some.inj H
        go_wp2_with (first | ((with_reducible refine gate_callee (f := 57) rfl ?_); refine goesL_ (some 24) rfl rfl Try.func57 (by kernel_rfl) rfl #[.slice A0 l0.length c0, .int .u8 a1] rfl za_ ?_; (with_reducible refine (folkmootlaw16_told.calls kj3 (fun k_ => k_ < w.heap.size) _ _ l0 a1 t880 t883 t886 _ ?side1 A13.out).mono ?_); (case side1 => exact Kd.V_mk HC0.out (Kd.F_below (Kd.C_F k53_heap HR0.out) zb_)); rintro e w49 ⟨v881, v884, v887, rfl, ho0, ho1, ho2, hb⟩; refine ⟨_, rfl, ?_⟩; have n0_ := Aside0.mk (Kd.N_lower (Kd.N_mono (ok' := fun k_ => some k_ ≠ (v884 : Value).ownBlock ∧ some k_ ≠ (v887 : Value).ownBlock) ho0 (fun k_ hk_ => ⟨hk_.2.1, hk_.2.2⟩)) (below_size zb_)); have n1_ := Aside0.mk (Kd.R_lower (Kd.R_mono (ok' := fun k_ => True) ho1 (fun _ hk_ => trivial)) (below_size zb_)); have n2_ := Aside0.mk (Kd.N_lower (Kd.N_mono (ok' := fun k_ => some k_ ≠ (v881 : Value).ownBlock ∧ some k_ ≠ (v884 : Value).ownBlock) ho2 (fun k_ hk_ => ⟨hk_.2.1, hk_.2.2⟩)) (below_size zb_)); have n3_ := Aside0.mk (below_step zb_ hb); clear HB; have HO882 := n0_; have HO885 := n1_; have HO888 := n2_; have HB := n3_; clear n0_ n1_ n2_ n3_; (try clear hb); (try clear hb2); (try clear hk); (try clear hi); (try clear ho0); (try clear ho1); (try clear ho2)) | ((with_reducible refine gate_callee (f := 57) rfl ?_); refine goesL_ (some 31) rfl rfl Try.func57 (by kernel_rfl) rfl #[.slice A0 l0.length c0, .int .u8 a2] rfl za_ ?_; (with_reducible refine (folkmootlaw16_told.calls kj3 (fun k_ => k_ < w.heap.size) _ _ l0 a2 t889 t892 t895 _ ?side1 A14.out).mono ?_); (case side1 => exact Kd.V_mk HC0.out (Kd.F_below (Kd.C_F k53_heap HR0.out) zb_)); rintro e w50 ⟨v890, v893, v896, rfl, ho0, ho1, ho2, hb⟩; refine ⟨_, rfl, ?_⟩; have n0_ := Aside0.mk (Kd.N_mono (Kd.N_told (Kd.N_told (Kd.N_told (Kd.N_old (zn_ HO882) hb) (Kd.N_base ho0)) (Kd.R_base ho1)) (Kd.N_base ho2)) (fun _ h_ => h_.1)); have n1_ := Aside0.mk (Kd.R_elder' (zr_ HO885) (Kd.R_base ho1) hb); have n2_ := Aside0.mk (Kd.N_mono (Kd.N_told (Kd.N_told (Kd.N_told (Kd.N_old (zn_ HO888) hb) (Kd.N_base ho0)) (Kd.R_base ho1)) (Kd.N_base ho2)) (fun _ h_ => h_.1)); have n3_ := Aside0.mk (Kd.N_lower (Kd.N_mono (ok' := fun k_ => some k_ ≠ (v893 : Value).ownBlock ∧ some k_ ≠ (v896 : Value).ownBlock ∧ some k_ ≠ (v881 : Value).ownBlock ∧ some k_ ≠ (v884 : Value).ownBlock ∧ some k_ ≠ (v887 : Value).ownBlock) ho0 (fun k_ hk_ => ⟨hk_.2.1, hk_.2.2, Or.elim hk_.1 (fun hs_ => fun e_ => Nat.not_le.2 hs_ (Kd.N_base HO882.out k_ e_.symm)) (fun hn_ => (Kd.fresh' (Kd.N_lt (zn_ HO882)) k_ hn_)), Or.elim hk_.1 (fun hs_ => fun e_ => Nat.not_le.2 hs_ (Kd.R_base HO885.out k_ e_.symm)) (fun hn_ => (Kd.fresh' (Kd.R_lt (zr_ HO885)) k_ hn_)), Or.elim hk_.1 (fun hs_ => fun e_ => Nat.not_le.2 hs_ (Kd.N_base HO888.out k_ e_.symm)) (fun hn_ => (Kd.fresh' (Kd.N_lt (zn_ HO888)) k_ hn_))⟩)) (below_size zb_)); have n4_ := Aside0.mk (Kd.R_lower (Kd.R_new' (Kd.R_mono (ok' := fun k_ => True) ho1 (fun _ hk_ => trivial)) (Kd.R_lt (zr_ HO885))) (below_size zb_)); have n5_ := Aside0.mk (Kd.N_lower (Kd.N_mono (ok' := fun k_ => some k_ ≠ (v890 : Value).ownBlock ∧ some k_ ≠ (v893 : Value).ownBlock ∧ some k_ ≠ (v881 : Value).ownBlock ∧ some k_ ≠ (v884 : Value).ownBlock ∧ some k_ ≠ (v887 : Value).ownBlock) ho2 (fun k_ hk_ => ⟨hk_.2.1, hk_.2.2, Or.elim hk_.1 (fun hs_ => fun e_ => Nat.not_le.2 hs_ (Kd.N_base HO882.out k_ e_.symm)) (fun hn_ => (Kd.fresh' (Kd.N_lt (zn_ HO882)) k_ hn_)), Or.elim hk_.1 (fun hs_ => fun e_ => Nat.not_le.2 hs_ (Kd.R_base HO885.out k_ e_.symm)) (fun hn_ => (Kd.fresh' (Kd.R_lt (zr_ HO885)) k_ hn_)), Or.elim hk_.1 (fun hs_ => fun e_ => Nat.not_le.2 hs_ (Kd.N_base HO888.out k_ e_.symm)) (fun hn_ => (Kd.fresh' (Kd.N_lt (zn_ HO888)) k_ hn_))⟩)) (below_size zb_)); have n6_ := Aside0.mk (below_step zb_ hb); clear HO882; clear HO885; clear HO888; clear HB; have HO882 := n0_; have HO885 := n1_; have HO888 := n2_; have HO891 := n3_; have HO894 := n4_; have HO897 := n5_; have HB := n6_; clear n0_ n1_ n2_ n3_ n4_ n5_ n6_; (try clear hb); (try clear hb2); (try clear hk); (try clear hi); (try clear ho0); (try clear ho1); (try clear ho2); obtain ⟨Ao51, co51, eo51⟩ := Kd.N_slice HO882.out; subst eo51) | ((with_reducible refine gate_callee (f := 62) rfl ?_); refine goesL_ (some 36) rfl rfl Try.func62 (by kernel_rfl) rfl #[.slice Ao51 t880.length co51] rfl za_ ?_; (with_reducible refine (exchange_Short.calls kj3 _ _ t880 t898 _ ?side1 ?side2 A15.out).mono ?_); (case side1 => exact zd_ (Kd.N_reads' HO882.out).2.2); (case side2 => exact (Kd.N_reads' HO882.out).2.1); rintro e w52 ⟨v899, rfl, ho0, hb⟩; refine ⟨_, rfl, ?_⟩; have n0_ := Aside0.mk (Kd.N_elder' (zn_ HO882) (Kd.R_base ho0) hb); have n1_ := Aside0.mk (Kd.R_below (zr_ HO885) hb); have n2_ := Aside0.mk (Kd.N_elder' (zn_ HO888) (Kd.R_base ho0) hb); have n3_ := Aside0.mk (Kd.N_elder' (zn_ HO891) (Kd.R_base ho0) hb); have n4_ := Aside0.mk (Kd.R_below (zr_ HO894) hb); have n5_ := Aside0.mk (Kd.N_elder' (zn_ HO897) (Kd.R_base ho0) hb); have n6_ := Aside0.mk (Kd.R_lower ho0 (below_size zb_)); have n7_ := Aside0.mk (below_step zb_ hb); clear HO882; clear HO885; clear HO888; clear HO891; clear HO894; clear HO897; clear HB; have HO882 := n0_; have HO885 := n1_; have HO888 := n2_; have HO891 := n3_; have HO894 := n4_; have HO897 := n5_; have HO900 := n6_; have HB := n7_; clear n0_ n1_ n2_ n3_ n4_ n5_ n6_ n7_; (try clear hb); (try clear hb2); (try clear hk); (try clear hi); (try clear ho0); obtain ⟨Ao53, co53, eo53⟩ := Kd.N_slice HO891.out; subst eo53) | ((with_reducible refine gate_callee (f := 62) rfl ?_); refine goesL_ (some 38) rfl rfl Try.func62 (by kernel_rfl) rfl #[.slice Ao53 t889.length co53] rfl za_ ?_; (with_reducible refine (exchange_Short.calls kj3 _ _ t889 t901 _ ?side1 ?side2 A16.out).mono ?_); (case side1 => exact zd_ (Kd.N_reads' HO891.out).2.2); (case side2 => exact (Kd.N_reads' HO891.out).2.1); rintro e w54 ⟨v902, rfl, ho0, hb⟩; refine ⟨_, rfl, ?_⟩; have n0_ := Aside0.mk (Kd.N_elder' (zn_ HO882) (Kd.R_base ho0) hb); have n1_ := Aside0.mk (Kd.R_below (zr_ HO885) hb); have n2_ := Aside0.mk (Kd.N_elder' (zn_ HO888) (Kd.R_base ho0) hb); have n3_ := Aside0.mk (Kd.N_elder' (zn_ HO891) (Kd.R_base ho0) hb); have n4_ := Aside0.mk (Kd.R_below (zr_ HO894) hb); have n5_ := Aside0.mk (Kd.N_elder' (zn_ HO897) (Kd.R_base ho0) hb); have n6_ := Aside0.mk (Kd.R_elder' (zr_ HO900) (Kd.R_base ho0) hb); have n7_ := Aside0.mk (Kd.R_lower (Kd.R_new' ho0 (Kd.R_lt (zr_ HO900))) (below_size zb_)); have n8_ := Aside0.mk (below_step zb_ hb); clear HO882; clear HO885; clear HO888; clear HO891; clear HO894; clear HO897; clear HO900; clear HB; have HO882 := n0_; have HO885 := n1_; have HO888 := n2_; have HO891 := n3_; have HO894 := n4_; have HO897 := n5_; have HO900 := n6_; have HO903 := n7_; have HB := n8_; clear n0_ n1_ n2_ n3_ n4_ n5_ n6_ n7_ n8_; (try clear hb); (try clear hb2); (try clear hk); (try clear hi); (try clear ho0); obtain ⟨Ao55, co55, eo55⟩ := Kd.R_slice HO900.out; subst eo55; obtain ⟨Ao56, co56, eo56⟩ := Kd.R_slice HO903.out; subst eo56) | ((with_reducible refine gate_callee (f := 30) rfl ?_); refine goesL_ (some 39) rfl rfl Try.func30 (by kernel_rfl) rfl #[.slice Ao55 t898.length co55, .slice Ao56 t901.length co56] rfl za_ ?_; (with_reducible refine (folkmootref05_Same.calls kj3 _ _ t898 _ _ t901 true _ ?side1 ?side2 ?side3 ?side4 A17.out).mono ?_); (case side1 => exact zd_ (Kd.R_reads' HO900.out).2.2); (case side2 => exact (Kd.R_reads' HO900.out).2.1); (case side3 => exact zd_ (Kd.R_reads' HO903.out).2.2); (case side4 => exact (Kd.R_reads' HO903.out).2.1); rintro e w' ⟨rfl, ⟨nd, rfl⟩⟩; refine ⟨_, rfl, ?_⟩) | (go_at_call 66; (with_reducible refine (exchange_Full.calls kj3 _ _ t880 t905 _ ?side1 ?side2 A19.out).mono ?_); (case side1 => exact zd_ (Kd.N_reads' HO882.out).2.2); (case side2 => exact (Kd.N_reads' HO882.out).2.1); rintro e w57 ⟨v906, rfl, ho0, hb⟩; have n0_ := Aside0.mk (Kd.N_elder' (zn_ HO882) (Kd.R_base ho0) hb); have n1_ := Aside0.mk (Kd.R_below (zr_ HO885) hb); have n2_ := Aside0.mk (Kd.N_elder' (zn_ HO888) (Kd.R_base ho0) hb); have n3_ := Aside0.mk (Kd.N_elder' (zn_ HO891) (Kd.R_base ho0) hb); have n4_ := Aside0.mk (Kd.R_below (zr_ HO894) hb); have n5_ := Aside0.mk (Kd.N_elder' (zn_ HO897) (Kd.R_base ho0) hb); have n6_ := Aside0.mk (Kd.R_elder' (zr_ HO900) (Kd.R_base ho0) hb); have n7_ := Aside0.mk (Kd.R_elder' (zr_ HO903) (Kd.R_base ho0) hb); have n8_ := Aside0.mk (Kd.R_lower (Kd.R_new' (Kd.R_new' ho0 (Kd.R_lt (zr_ HO900))) (Kd.R_lt (zr_ HO903))) (below_size zb_)); have n9_ := Aside0.mk (below_step zb_ hb); clear HO882; clear HO885; clear HO888; clear HO891; clear HO894; clear HO897; clear HO900; clear HO903; clear HB; have HO882 := n0_; have HO885 := n1_; have HO888 := n2_; have HO891 := n3_; have HO894 := n4_; have HO897 := n5_; have HO900 := n6_; have HO903 := n7_; have HO907 := n8_; have HB := n9_; clear n0_ n1_ n2_ n3_ n4_ n5_ n6_ n7_ n8_ n9_; (try clear hb); (try clear hb2); (try clear hk); (try clear hi); (try clear ho0)) | (go_at_call 66; (with_reducible refine (exchange_Full.calls kj3 _ _ t889 t908 _ ?side1 ?side2 A20.out).mono ?_); (case side1 => exact zd_ (Kd.N_reads' HO891.out).2.2); (case side2 => exact (Kd.N_reads' HO891.out).2.1); rintro e w58 ⟨v909, rfl, ho0, hb⟩; have n0_ := Aside0.mk (Kd.N_elder' (zn_ HO882) (Kd.R_base ho0) hb); have n1_ := Aside0.mk (Kd.R_below (zr_ HO885) hb); have n2_ := Aside0.mk (Kd.N_elder' (zn_ HO888) (Kd.R_base ho0) hb); have n3_ := Aside0.mk (Kd.N_elder' (zn_ HO891) (Kd.R_base ho0) hb); have n4_ := Aside0.mk (Kd.R_below (zr_ HO894) hb); have n5_ := Aside0.mk (Kd.N_elder' (zn_ HO897) (Kd.R_base ho0) hb); have n6_ := Aside0.mk (Kd.R_elder' (zr_ HO900) (Kd.R_base ho0) hb); have n7_ := Aside0.mk (Kd.R_elder' (zr_ HO903) (Kd.R_base ho0) hb); have n8_ := Aside0.mk (Kd.R_elder' (zr_ HO907) (Kd.R_base ho0) hb); have n9_ := Aside0.mk (Kd.R_lower (Kd.R_new' (Kd.R_new' (Kd.R_new' ho0 (Kd.R_lt (zr_ HO900))) (Kd.R_lt (zr_ HO903))) (Kd.R_lt (zr_ HO907))) (below_size zb_)); have n10_ := Aside0.mk (below_step zb_ hb); clear HO882; clear HO885; clear HO888; clear HO891; clear HO894; clear HO897; clear HO900; clear HO903; clear HO907; clear HB; have HO882 := n0_; have HO885 := n1_; have HO888 := n2_; have HO891 := n3_; have HO894 := n4_; have HO897 := n5_; have HO900 := n6_; have HO903 := n7_; have HO907 := n8_; have HO910 := n9_; have HB := n10_; clear n0_ n1_ n2_ n3_ n4_ n5_ n6_ n7_ n8_ n9_ n10_; (try clear hb); (try clear hb2); (try clear hk); (try clear hi); (try clear ho0); obtain ⟨Ao59, co59, eo59⟩ := Kd.R_slice HO907.out; subst eo59; obtain ⟨Ao60, co60, eo60⟩ := Kd.R_slice HO910.out; subst eo60) | (go_at_call 30; (with_reducible refine (folkmootref05_Same.calls kj3 _ _ t905 _ _ t908 true _ ?side1 ?side2 ?side3 ?side4 A21.out).mono ?_); (case side1 => exact zd_ (Kd.R_reads' HO907.out).2.2); (case side2 => exact (Kd.R_reads' HO907.out).2.1); (case side3 => exact zd_ (Kd.R_reads' HO910.out).2.2); (case side4 => exact (Kd.R_reads' HO910.out).2.1); rintro e w' ⟨rfl, ⟨nd, rfl⟩⟩) | (go_at_call 59; (with_reducible refine (exchange_High.calls kj3 _ _ t880 t912 t913 _ ?side1 ?side2 A23.out).mono ?_); (case side1 => exact zd_ (Kd.N_reads' HO882.out).2.2); (case side2 => exact (Kd.N_reads' HO882.out).2.1); rintro e w61 ⟨rfl, hb⟩; have n0_ := Aside0.mk (Kd.N_below (zn_ HO882) hb); have n1_ := Aside0.mk (Kd.R_below (zr_ HO885) hb); have n2_ := Aside0.mk (Kd.N_below (zn_ HO888) hb); have n3_ := Aside0.mk (Kd.N_below (zn_ HO891) hb); have n4_ := Aside0.mk (Kd.R_below (zr_ HO894) hb); have n5_ := Aside0.mk (Kd.N_below (zn_ HO897) hb); have n6_ := Aside0.mk (Kd.R_below (zr_ HO900) hb); have n7_ := Aside0.mk (Kd.R_below (zr_ HO903) hb); have n8_ := Aside0.mk (Kd.R_below (zr_ HO907) hb); have n9_ := Aside0.mk (Kd.R_below (zr_ HO910) hb); have n10_ := Aside0.mk (below_step zb_ hb); clear HO882; clear HO885; clear HO888; clear HO891; clear HO894; clear HO897; clear HO900; clear HO903; clear HO907; clear HO910; clear HB; have HO882 := n0_; have HO885 := n1_; have HO888 := n2_; have HO891 := n3_; have HO894 := n4_; have HO897 := n5_; have HO900 := n6_; have HO903 := n7_; have HO907 := n8_; have HO910 := n9_; have HB := n10_; clear n0_ n1_ n2_ n3_ n4_ n5_ n6_ n7_ n8_ n9_ n10_; (try clear hb); (try clear hb2); (try clear hk); (try clear hi)) | (go_at_call 59; (with_reducible refine (exchange_High.calls kj3 _ _ t889 t914 t915 _ ?side1 ?side2 A24.out).mono ?_); (case side1 => exact zd_ (Kd.N_reads' HO891.out).2.2); (case side2 => exact (Kd.N_reads' HO891.out).2.1); rintro e w62 ⟨rfl, hb⟩; have n0_ := Aside0.mk (Kd.N_below (zn_ HO882) hb); have n1_ := Aside0.mk (Kd.R_below (zr_ HO885) hb); have n2_ := Aside0.mk (Kd.N_below (zn_ HO888) hb); have n3_ := Aside0.mk (Kd.N_below (zn_ HO891) hb); have n4_ := Aside0.mk (Kd.R_below (zr_ HO894) hb); have n5_ := Aside0.mk (Kd.N_below (zn_ HO897) hb); have n6_ := Aside0.mk (Kd.R_below (zr_ HO900) hb); have n7_ := Aside0.mk (Kd.R_below (zr_ HO903) hb); have n8_ := Aside0.mk (Kd.R_below (zr_ HO907) hb); have n9_ := Aside0.mk (Kd.R_below (zr_ HO910) hb); have n10_ := Aside0.mk (below_step zb_ hb); clear HO882; clear HO885; clear HO888; clear HO891; clear HO894; clear HO897; clear HO900; clear HO903; clear HO907; clear HO910; clear HB; have HO882 := n0_; have HO885 := n1_; have HO888 := n2_; have HO891 := n3_; have HO894 := n4_; have HO897 := n5_; have HO900 := n6_; have HO903 := n7_; have HO907 := n8_; have HO910 := n9_; have HB := n10_; clear n0_ n1_ n2_ n3_ n4_ n5_ n6_ n7_ n8_ n9_ n10_; (try clear hb); (try clear hb2); (try clear hk); (try clear hi)) | (go_at_call 61; (with_reducible refine (exchange_Chosen.calls kj3 _ _ t880 t916 _ ?side1 ?side2 A26.out).mono ?_); (case side1 => exact zd_ (Kd.N_reads' HO882.out).2.2); (case side2 => exact (Kd.N_reads' HO882.out).2.1); rintro e w63 ⟨rfl, hb⟩; have n0_ := Aside0.mk (Kd.N_below (zn_ HO882) hb); have n1_ := Aside0.mk (Kd.R_below (zr_ HO885) hb); have n2_ := Aside0.mk (Kd.N_below (zn_ HO888) hb); have n3_ := Aside0.mk (Kd.N_below (zn_ HO891) hb); have n4_ := Aside0.mk (Kd.R_below (zr_ HO894) hb); have n5_ := Aside0.mk (Kd.N_below (zn_ HO897) hb); have n6_ := Aside0.mk (Kd.R_below (zr_ HO900) hb); have n7_ := Aside0.mk (Kd.R_below (zr_ HO903) hb); have n8_ := Aside0.mk (Kd.R_below (zr_ HO907) hb); have n9_ := Aside0.mk (Kd.R_below (zr_ HO910) hb); have n10_ := Aside0.mk (below_step zb_ hb); clear HO882; clear HO885; clear HO888; clear HO891; clear HO894; clear HO897; clear HO900; clear HO903; clear HO907; clear HO910; clear HB; have HO882 := n0_; have HO885 := n1_; have HO888 := n2_; have HO891 := n3_; have HO894 := n4_; have HO897 := n5_; have HO900 := n6_; have HO903 := n7_; have HO907 := n8_; have HO910 := n9_; have HB := n10_; clear n0_ n1_ n2_ n3_ n4_ n5_ n6_ n7_ n8_ n9_ n10_; (try clear hb); (try clear hb2); (try clear hk); (try clear hi)) | (go_at_call 61; (with_reducible refine (exchange_Chosen.calls kj3 _ _ t889 t917 _ ?side1 ?side2 A27.out).mono ?_); (case side1 => exact zd_ (Kd.N_reads' HO891.out).2.2); (case side2 => exact (Kd.N_reads' HO891.out).2.1); rintro e w64 ⟨rfl, hb⟩; have n0_ := Aside0.mk (Kd.N_below (zn_ HO882) hb); have n1_ := Aside0.mk (Kd.R_below (zr_ HO885) hb); have n2_ := Aside0.mk (Kd.N_below (zn_ HO888) hb); have n3_ := Aside0.mk (Kd.N_below (zn_ HO891) hb); have n4_ := Aside0.mk (Kd.R_below (zr_ HO894) hb); have n5_ := Aside0.mk (Kd.N_below (zn_ HO897) hb); have n6_ := Aside0.mk (Kd.R_below (zr_ HO900) hb); have n7_ := Aside0.mk (Kd.R_below (zr_ HO903) hb); have n8_ := Aside0.mk (Kd.R_below (zr_ HO907) hb); have n9_ := Aside0.mk (Kd.R_below (zr_ HO910) hb); have n10_ := Aside0.mk (below_step zb_ hb); clear HO882; clear HO885; clear HO888; clear HO891; clear HO894; clear HO897; clear HO900; clear HO903; clear HO907; clear HO910; clear HB; have HO882 := n0_; have HO885 := n1_; have HO888 := n2_; have HO891 := n3_; have HO894 := n4_; have HO897 := n5_; have HO900 := n6_; have HO903 := n7_; have HO907 := n8_; have HO910 := n9_; have HB := n10_; clear n0_ n1_ n2_ n3_ n4_ n5_ n6_ n7_ n8_ n9_ n10_; (try clear hb); (try clear hb2); (try clear hk); (try clear hi)))
        go_ret
        exact ⟨by first | rfl | (simp [errW_none, errW_some] <;> rfl) | (simp [*, errW_none, errW_some] <;> rfl), by repeat (first | (with_reducible first | exact HB.out | apply below_alloc | apply pw_below_drewN | apply below_drew1) | exact HB.out)⟩
      ·
       rw [if_neg c25] at H
       have c25b0 : (t912 == t914 && (t913 == t915)) = false := by simpa using c25
       (try (have c25b1 : decide (t912 = t914 && (t913 == t915)) = false := by simpa using c25))
       (try (have c25b2 : (t912 == t914 && (t913 == t915)) = false := by simpa using c25))
       (try (have c25b3 : ¬ (t912 = t914 && (t913 == t915)) := by simpa using c25))
       clear c25
       obtain rfl := Option.some.inj H
       go_wp2_with (first | ((with_reducible refine gate_callee (f := 57) rfl ?_); refine goesL_ (some 24) rfl rfl Try.func57 (by kernel_rfl) rfl #[.slice A0 l0.length c0, .int .u8 a1] rfl za_ ?_; (with_reducible refine (folkmootlaw16_told.calls kj3 (fun k_ => k_ < w.heap.size) _ _ l0 a1 t880 t883 t886 _ ?side1 A13.out).mono ?_); (case side1 => exact Kd.V_mk HC0.out (Kd.F_below (Kd.C_F k53_heap HR0.out) zb_)); rintro e w65 ⟨v881, v884, v887, rfl, ho0, ho1, ho2, hb⟩; refine ⟨_, rfl, ?_⟩; have n0_ := Aside0.mk (Kd.N_lower (Kd.N_mono (ok' := fun k_ => some k_ ≠ (v884 : Value).ownBlock ∧ some k_ ≠ (v887 : Value).ownBlock) ho0 (fun k_ hk_ => ⟨hk_.2.1, hk_.2.2⟩)) (below_size zb_)); have n1_ := Aside0.mk (Kd.R_lower (Kd.R_mono (ok' := fun k_ => True) ho1 (fun _ hk_ => trivial)) (below_size zb_)); have n2_ := Aside0.mk (Kd.N_lower (Kd.N_mono (ok' := fun k_ => some k_ ≠ (v881 : Value).ownBlock ∧ some k_ ≠ (v884 : Value).ownBlock) ho2 (fun k_ hk_ => ⟨hk_.2.1, hk_.2.2⟩)) (below_size zb_)); have n3_ := Aside0.mk (below_step zb_ hb); clear HB; have HO882 := n0_; have HO885 := n1_; have HO888 := n2_; have HB := n3_; clear n0_ n1_ n2_ n3_; (try clear hb); (try clear hb2); (try clear hk); (try clear hi); (try clear ho0); (try clear ho1); (try clear ho2)) | ((with_reducible refine gate_callee (f := 57) rfl ?_); refine goesL_ (some 31) rfl rfl Try.func57 (by kernel_rfl) rfl #[.slice A0 l0.length c0, .int .u8 a2] rfl za_ ?_; (with_reducible refine (folkmootlaw16_told.calls kj3 (fun k_ => k_ < w.heap.size) _ _ l0 a2 t889 t892 t895 _ ?side1 A14.out).mono ?_); (case side1 => exact Kd.V_mk HC0.out (Kd.F_below (Kd.C_F k53_heap HR0.out) zb_)); rintro e w66 ⟨v890, v893, v896, rfl, ho0, ho1, ho2, hb⟩; refine ⟨_, rfl, ?_⟩; have n0_ := Aside0.mk (Kd.N_mono (Kd.N_told (Kd.N_told (Kd.N_told (Kd.N_old (zn_ HO882) hb) (Kd.N_base ho0)) (Kd.R_base ho1)) (Kd.N_base ho2)) (fun _ h_ => h_.1)); have n1_ := Aside0.mk (Kd.R_elder' (zr_ HO885) (Kd.R_base ho1) hb); have n2_ := Aside0.mk (Kd.N_mono (Kd.N_told (Kd.N_told (Kd.N_told (Kd.N_old (zn_ HO888) hb) (Kd.N_base ho0)) (Kd.R_base ho1)) (Kd.N_base ho2)) (fun _ h_ => h_.1)); have n3_ := Aside0.mk (Kd.N_lower (Kd.N_mono (ok' := fun k_ => some k_ ≠ (v893 : Value).ownBlock ∧ some k_ ≠ (v896 : Value).ownBlock ∧ some k_ ≠ (v881 : Value).ownBlock ∧ some k_ ≠ (v884 : Value).ownBlock ∧ some k_ ≠ (v887 : Value).ownBlock) ho0 (fun k_ hk_ => ⟨hk_.2.1, hk_.2.2, Or.elim hk_.1 (fun hs_ => fun e_ => Nat.not_le.2 hs_ (Kd.N_base HO882.out k_ e_.symm)) (fun hn_ => (Kd.fresh' (Kd.N_lt (zn_ HO882)) k_ hn_)), Or.elim hk_.1 (fun hs_ => fun e_ => Nat.not_le.2 hs_ (Kd.R_base HO885.out k_ e_.symm)) (fun hn_ => (Kd.fresh' (Kd.R_lt (zr_ HO885)) k_ hn_)), Or.elim hk_.1 (fun hs_ => fun e_ => Nat.not_le.2 hs_ (Kd.N_base HO888.out k_ e_.symm)) (fun hn_ => (Kd.fresh' (Kd.N_lt (zn_ HO888)) k_ hn_))⟩)) (below_size zb_)); have n4_ := Aside0.mk (Kd.R_lower (Kd.R_new' (Kd.R_mono (ok' := fun k_ => True) ho1 (fun _ hk_ => trivial)) (Kd.R_lt (zr_ HO885))) (below_size zb_)); have n5_ := Aside0.mk (Kd.N_lower (Kd.N_mono (ok' := fun k_ => some k_ ≠ (v890 : Value).ownBlock ∧ some k_ ≠ (v893 : Value).ownBlock ∧ some k_ ≠ (v881 : Value).ownBlock ∧ some k_ ≠ (v884 : Value).ownBlock ∧ some k_ ≠ (v887 : Value).ownBlock) ho2 (fun k_ hk_ => ⟨hk_.2.1, hk_.2.2, Or.elim hk_.1 (fun hs_ => fun e_ => Nat.not_le.2 hs_ (Kd.N_base HO882.out k_ e_.symm)) (fun hn_ => (Kd.fresh' (Kd.N_lt (zn_ HO882)) k_ hn_)), Or.elim hk_.1 (fun hs_ => fun e_ => Nat.not_le.2 hs_ (Kd.R_base HO885.out k_ e_.symm)) (fun hn_ => (Kd.fresh' (Kd.R_lt (zr_ HO885)) k_ hn_)), Or.elim hk_.1 (fun hs_ => fun e_ => Nat.not_le.2 hs_ (Kd.N_base HO888.out k_ e_.symm)) (fun hn_ => (Kd.fresh' (Kd.N_lt (zn_ HO888)) k_ hn_))⟩)) (below_size zb_)); have n6_ := Aside0.mk (below_step zb_ hb); clear HO882; clear HO885; clear HO888; clear HB; have HO882 := n0_; have HO885 := n1_; have HO888 := n2_; have HO891 := n3_; have HO894 := n4_; have HO897 := n5_; have HB := n6_; clear n0_ n1_ n2_ n3_ n4_ n5_ n6_; (try clear hb); (try clear hb2); (try clear hk); (try clear hi); (try clear ho0); (try clear ho1); (try clear ho2); obtain ⟨Ao67, co67, eo67⟩ := Kd.N_slice HO882.out; subst eo67) | ((with_reducible refine gate_callee (f := 62) rfl ?_); refine goesL_ (some 36) rfl rfl Try.func62 (by kernel_rfl) rfl #[.slice Ao67 t880.length co67] rfl za_ ?_; (with_reducible refine (exchange_Short.calls kj3 _ _ t880 t898 _ ?side1 ?side2 A15.out).mono ?_); (case side1 => exact zd_ (Kd.N_reads' HO882.out).2.2); (case side2 => exact (Kd.N_reads' HO882.out).2.1); rintro e w68 ⟨v899, rfl, ho0, hb⟩; refine ⟨_, rfl, ?_⟩; have n0_ := Aside0.mk (Kd.N_elder' (zn_ HO882) (Kd.R_base ho0) hb); have n1_ := Aside0.mk (Kd.R_below (zr_ HO885) hb); have n2_ := Aside0.mk (Kd.N_elder' (zn_ HO888) (Kd.R_base ho0) hb); have n3_ := Aside0.mk (Kd.N_elder' (zn_ HO891) (Kd.R_base ho0) hb); have n4_ := Aside0.mk (Kd.R_below (zr_ HO894) hb); have n5_ := Aside0.mk (Kd.N_elder' (zn_ HO897) (Kd.R_base ho0) hb); have n6_ := Aside0.mk (Kd.R_lower ho0 (below_size zb_)); have n7_ := Aside0.mk (below_step zb_ hb); clear HO882; clear HO885; clear HO888; clear HO891; clear HO894; clear HO897; clear HB; have HO882 := n0_; have HO885 := n1_; have HO888 := n2_; have HO891 := n3_; have HO894 := n4_; have HO897 := n5_; have HO900 := n6_; have HB := n7_; clear n0_ n1_ n2_ n3_ n4_ n5_ n6_ n7_; (try clear hb); (try clear hb2); (try clear hk); (try clear hi); (try clear ho0); obtain ⟨Ao69, co69, eo69⟩ := Kd.N_slice HO891.out; subst eo69) | ((with_reducible refine gate_callee (f := 62) rfl ?_); refine goesL_ (some 38) rfl rfl Try.func62 (by kernel_rfl) rfl #[.slice Ao69 t889.length co69] rfl za_ ?_; (with_reducible refine (exchange_Short.calls kj3 _ _ t889 t901 _ ?side1 ?side2 A16.out).mono ?_); (case side1 => exact zd_ (Kd.N_reads' HO891.out).2.2); (case side2 => exact (Kd.N_reads' HO891.out).2.1); rintro e w70 ⟨v902, rfl, ho0, hb⟩; refine ⟨_, rfl, ?_⟩; have n0_ := Aside0.mk (Kd.N_elder' (zn_ HO882) (Kd.R_base ho0) hb); have n1_ := Aside0.mk (Kd.R_below (zr_ HO885) hb); have n2_ := Aside0.mk (Kd.N_elder' (zn_ HO888) (Kd.R_base ho0) hb); have n3_ := Aside0.mk (Kd.N_elder' (zn_ HO891) (Kd.R_base ho0) hb); have n4_ := Aside0.mk (Kd.R_below (zr_ HO894) hb); have n5_ := Aside0.mk (Kd.N_elder' (zn_ HO897) (Kd.R_base ho0) hb); have n6_ := Aside0.mk (Kd.R_elder' (zr_ HO900) (Kd.R_base ho0) hb); have n7_ := Aside0.mk (Kd.R_lower (Kd.R_new' ho0 (Kd.R_lt (zr_ HO900))) (below_size zb_)); have n8_ := Aside0.mk (below_step zb_ hb); clear HO882; clear HO885; clear HO888; clear HO891; clear HO894; clear HO897; clear HO900; clear HB; have HO882 := n0_; have HO885 := n1_; have HO888 := n2_; have HO891 := n3_; have HO894 := n4_; have HO897 := n5_; have HO900 := n6_; have HO903 := n7_; have HB := n8_; clear n0_ n1_ n2_ n3_ n4_ n5_ n6_ n7_ n8_; (try clear hb); (try clear hb2); (try clear hk); (try clear hi); (try clear ho0); obtain ⟨Ao71, co71, eo71⟩ := Kd.R_slice HO900.out; subst eo71; obtain ⟨Ao72, co72, eo72⟩ := Kd.R_slice HO903.out; subst eo72) | ((with_reducible refine gate_callee (f := 30) rfl ?_); refine goesL_ (some 39) rfl rfl Try.func30 (by kernel_rfl) rfl #[.slice Ao71 t898.length co71, .slice Ao72 t901.length co72] rfl za_ ?_; (with_reducible refine (folkmootref05_Same.calls kj3 _ _ t898 _ _ t901 true _ ?side1 ?side2 ?side3 ?side4 A17.out).mono ?_); (case side1 => exact zd_ (Kd.R_reads' HO900.out).2.2); (case side2 => exact (Kd.R_reads' HO900.out).2.1); (case side3 => exact zd_ (Kd.R_reads' HO903.out).2.2); (case side4 => exact (Kd.R_reads' HO903.out).2.1); rintro e w' ⟨rfl, ⟨nd, rfl⟩⟩; refine ⟨_, rfl, ?_⟩) | (go_at_call 66; (with_reducible refine (exchange_Full.calls kj3 _ _ t880 t905 _ ?side1 ?side2 A19.out).mono ?_); (case side1 => exact zd_ (Kd.N_reads' HO882.out).2.2); (case side2 => exact (Kd.N_reads' HO882.out).2.1); rintro e w73 ⟨v906, rfl, ho0, hb⟩; have n0_ := Aside0.mk (Kd.N_elder' (zn_ HO882) (Kd.R_base ho0) hb); have n1_ := Aside0.mk (Kd.R_below (zr_ HO885) hb); have n2_ := Aside0.mk (Kd.N_elder' (zn_ HO888) (Kd.R_base ho0) hb); have n3_ := Aside0.mk (Kd.N_elder' (zn_ HO891) (Kd.R_base ho0) hb); have n4_ := Aside0.mk (Kd.R_below (zr_ HO894) hb); have n5_ := Aside0.mk (Kd.N_elder' (zn_ HO897) (Kd.R_base ho0) hb); have n6_ := Aside0.mk (Kd.R_elder' (zr_ HO900) (Kd.R_base ho0) hb); have n7_ := Aside0.mk (Kd.R_elder' (zr_ HO903) (Kd.R_base ho0) hb); have n8_ := Aside0.mk (Kd.R_lower (Kd.R_new' (Kd.R_new' ho0 (Kd.R_lt (zr_ HO900))) (Kd.R_lt (zr_ HO903))) (below_size zb_)); have n9_ := Aside0.mk (below_step zb_ hb); clear HO882; clear HO885; clear HO888; clear HO891; clear HO894; clear HO897; clear HO900; clear HO903; clear HB; have HO882 := n0_; have HO885 := n1_; have HO888 := n2_; have HO891 := n3_; have HO894 := n4_; have HO897 := n5_; have HO900 := n6_; have HO903 := n7_; have HO907 := n8_; have HB := n9_; clear n0_ n1_ n2_ n3_ n4_ n5_ n6_ n7_ n8_ n9_; (try clear hb); (try clear hb2); (try clear hk); (try clear hi); (try clear ho0)) | (go_at_call 66; (with_reducible refine (exchange_Full.calls kj3 _ _ t889 t908 _ ?side1 ?side2 A20.out).mono ?_); (case side1 => exact zd_ (Kd.N_reads' HO891.out).2.2); (case side2 => exact (Kd.N_reads' HO891.out).2.1); rintro e w74 ⟨v909, rfl, ho0, hb⟩; have n0_ := Aside0.mk (Kd.N_elder' (zn_ HO882) (Kd.R_base ho0) hb); have n1_ := Aside0.mk (Kd.R_below (zr_ HO885) hb); have n2_ := Aside0.mk (Kd.N_elder' (zn_ HO888) (Kd.R_base ho0) hb); have n3_ := Aside0.mk (Kd.N_elder' (zn_ HO891) (Kd.R_base ho0) hb); have n4_ := Aside0.mk (Kd.R_below (zr_ HO894) hb); have n5_ := Aside0.mk (Kd.N_elder' (zn_ HO897) (Kd.R_base ho0) hb); have n6_ := Aside0.mk (Kd.R_elder' (zr_ HO900) (Kd.R_base ho0) hb); have n7_ := Aside0.mk (Kd.R_elder' (zr_ HO903) (Kd.R_base ho0) hb); have n8_ := Aside0.mk (Kd.R_elder' (zr_ HO907) (Kd.R_base ho0) hb); have n9_ := Aside0.mk (Kd.R_lower (Kd.R_new' (Kd.R_new' (Kd.R_new' ho0 (Kd.R_lt (zr_ HO900))) (Kd.R_lt (zr_ HO903))) (Kd.R_lt (zr_ HO907))) (below_size zb_)); have n10_ := Aside0.mk (below_step zb_ hb); clear HO882; clear HO885; clear HO888; clear HO891; clear HO894; clear HO897; clear HO900; clear HO903; clear HO907; clear HB; have HO882 := n0_; have HO885 := n1_; have HO888 := n2_; have HO891 := n3_; have HO894 := n4_; have HO897 := n5_; have HO900 := n6_; have HO903 := n7_; have HO907 := n8_; have HO910 := n9_; have HB := n10_; clear n0_ n1_ n2_ n3_ n4_ n5_ n6_ n7_ n8_ n9_ n10_; (try clear hb); (try clear hb2); (try clear hk); (try clear hi); (try clear ho0); obtain ⟨Ao75, co75, eo75⟩ := Kd.R_slice HO907.out; subst eo75; obtain ⟨Ao76, co76, eo76⟩ := Kd.R_slice HO910.out; subst eo76) | (go_at_call 30; (with_reducible refine (folkmootref05_Same.calls kj3 _ _ t905 _ _ t908 true _ ?side1 ?side2 ?side3 ?side4 A21.out).mono ?_); (case side1 => exact zd_ (Kd.R_reads' HO907.out).2.2); (case side2 => exact (Kd.R_reads' HO907.out).2.1); (case side3 => exact zd_ (Kd.R_reads' HO910.out).2.2); (case side4 => exact (Kd.R_reads' HO910.out).2.1); rintro e w' ⟨rfl, ⟨nd, rfl⟩⟩) | (go_at_call 59; (with_reducible refine (exchange_High.calls kj3 _ _ t880 t912 t913 _ ?side1 ?side2 A23.out).mono ?_); (case side1 => exact zd_ (Kd.N_reads' HO882.out).2.2); (case side2 => exact (Kd.N_reads' HO882.out).2.1); rintro e w77 ⟨rfl, hb⟩; have n0_ := Aside0.mk (Kd.N_below (zn_ HO882) hb); have n1_ := Aside0.mk (Kd.R_below (zr_ HO885) hb); have n2_ := Aside0.mk (Kd.N_below (zn_ HO888) hb); have n3_ := Aside0.mk (Kd.N_below (zn_ HO891) hb); have n4_ := Aside0.mk (Kd.R_below (zr_ HO894) hb); have n5_ := Aside0.mk (Kd.N_below (zn_ HO897) hb); have n6_ := Aside0.mk (Kd.R_below (zr_ HO900) hb); have n7_ := Aside0.mk (Kd.R_below (zr_ HO903) hb); have n8_ := Aside0.mk (Kd.R_below (zr_ HO907) hb); have n9_ := Aside0.mk (Kd.R_below (zr_ HO910) hb); have n10_ := Aside0.mk (below_step zb_ hb); clear HO882; clear HO885; clear HO888; clear HO891; clear HO894; clear HO897; clear HO900; clear HO903; clear HO907; clear HO910; clear HB; have HO882 := n0_; have HO885 := n1_; have HO888 := n2_; have HO891 := n3_; have HO894 := n4_; have HO897 := n5_; have HO900 := n6_; have HO903 := n7_; have HO907 := n8_; have HO910 := n9_; have HB := n10_; clear n0_ n1_ n2_ n3_ n4_ n5_ n6_ n7_ n8_ n9_ n10_; (try clear hb); (try clear hb2); (try clear hk); (try clear hi)) | (go_at_call 59; (with_reducible refine (exchange_High.calls kj3 _ _ t889 t914 t915 _ ?side1 ?side2 A24.out).mono ?_); (case side1 => exact zd_ (Kd.N_reads' HO891.out).2.2); (case side2 => exact (Kd.N_reads' HO891.out).2.1); rintro e w78 ⟨rfl, hb⟩; have n0_ := Aside0.mk (Kd.N_below (zn_ HO882) hb); have n1_ := Aside0.mk (Kd.R_below (zr_ HO885) hb); have n2_ := Aside0.mk (Kd.N_below (zn_ HO888) hb); have n3_ := Aside0.mk (Kd.N_below (zn_ HO891) hb); have n4_ := Aside0.mk (Kd.R_below (zr_ HO894) hb); have n5_ := Aside0.mk (Kd.N_below (zn_ HO897) hb); have n6_ := Aside0.mk (Kd.R_below (zr_ HO900) hb); have n7_ := Aside0.mk (Kd.R_below (zr_ HO903) hb); have n8_ := Aside0.mk (Kd.R_below (zr_ HO907) hb); have n9_ := Aside0.mk (Kd.R_below (zr_ HO910) hb); have n10_ := Aside0.mk (below_step zb_ hb); clear HO882; clear HO885; clear HO888; clear HO891; clear HO894; clear HO897; clear HO900; clear HO903; clear HO907; clear HO910; clear HB; have HO882 := n0_; have HO885 := n1_; have HO888 := n2_; have HO891 := n3_; have HO894 := n4_; have HO897 := n5_; have HO900 := n6_; have HO903 := n7_; have HO907 := n8_; have HO910 := n9_; have HB := n10_; clear n0_ n1_ n2_ n3_ n4_ n5_ n6_ n7_ n8_ n9_ n10_; (try clear hb); (try clear hb2); (try clear hk); (try clear hi)))
       go_ret
       exact ⟨by first | rfl | (simp [errW_none, errW_some] <;> rfl) | (simp [*, errW_none, errW_some] <;> rfl), by repeat (first | (with_reducible first | exact HB.out | apply below_alloc | apply pw_below_drewN | apply below_drew1) | exact HB.out)⟩
     ·
      replace c22 := Bool.eq_false_iff.mpr c22
      subst c22
      have H1 : (some false) = some r := by rw [if_neg (show ¬ (false = true) by decide)] at H; exact H
      clear H
      have H := H1
      clear H1
      obtain rfl := Option.some.inj H
      go_wp2_with (first | ((with_reducible refine gate_callee (f := 57) rfl ?_); refine goesL_ (some 24) rfl rfl Try.func57 (by kernel_rfl) rfl #[.slice A0 l0.length c0, .int .u8 a1] rfl za_ ?_; (with_reducible refine (folkmootlaw16_told.calls kj3 (fun k_ => k_ < w.heap.size) _ _ l0 a1 t880 t883 t886 _ ?side1 A13.out).mono ?_); (case side1 => exact Kd.V_mk HC0.out (Kd.F_below (Kd.C_F k53_heap HR0.out) zb_)); rintro e w79 ⟨v881, v884, v887, rfl, ho0, ho1, ho2, hb⟩; refine ⟨_, rfl, ?_⟩; have n0_ := Aside0.mk (Kd.N_lower (Kd.N_mono (ok' := fun k_ => some k_ ≠ (v884 : Value).ownBlock ∧ some k_ ≠ (v887 : Value).ownBlock) ho0 (fun k_ hk_ => ⟨hk_.2.1, hk_.2.2⟩)) (below_size zb_)); have n1_ := Aside0.mk (Kd.R_lower (Kd.R_mono (ok' := fun k_ => True) ho1 (fun _ hk_ => trivial)) (below_size zb_)); have n2_ := Aside0.mk (Kd.N_lower (Kd.N_mono (ok' := fun k_ => some k_ ≠ (v881 : Value).ownBlock ∧ some k_ ≠ (v884 : Value).ownBlock) ho2 (fun k_ hk_ => ⟨hk_.2.1, hk_.2.2⟩)) (below_size zb_)); have n3_ := Aside0.mk (below_step zb_ hb); clear HB; have HO882 := n0_; have HO885 := n1_; have HO888 := n2_; have HB := n3_; clear n0_ n1_ n2_ n3_; (try clear hb); (try clear hb2); (try clear hk); (try clear hi); (try clear ho0); (try clear ho1); (try clear ho2)) | ((with_reducible refine gate_callee (f := 57) rfl ?_); refine goesL_ (some 31) rfl rfl Try.func57 (by kernel_rfl) rfl #[.slice A0 l0.length c0, .int .u8 a2] rfl za_ ?_; (with_reducible refine (folkmootlaw16_told.calls kj3 (fun k_ => k_ < w.heap.size) _ _ l0 a2 t889 t892 t895 _ ?side1 A14.out).mono ?_); (case side1 => exact Kd.V_mk HC0.out (Kd.F_below (Kd.C_F k53_heap HR0.out) zb_)); rintro e w80 ⟨v890, v893, v896, rfl, ho0, ho1, ho2, hb⟩; refine ⟨_, rfl, ?_⟩; have n0_ := Aside0.mk (Kd.N_mono (Kd.N_told (Kd.N_told (Kd.N_told (Kd.N_old (zn_ HO882) hb) (Kd.N_base ho0)) (Kd.R_base ho1)) (Kd.N_base ho2)) (fun _ h_ => h_.1)); have n1_ := Aside0.mk (Kd.R_elder' (zr_ HO885) (Kd.R_base ho1) hb); have n2_ := Aside0.mk (Kd.N_mono (Kd.N_told (Kd.N_told (Kd.N_told (Kd.N_old (zn_ HO888) hb) (Kd.N_base ho0)) (Kd.R_base ho1)) (Kd.N_base ho2)) (fun _ h_ => h_.1)); have n3_ := Aside0.mk (Kd.N_lower (Kd.N_mono (ok' := fun k_ => some k_ ≠ (v893 : Value).ownBlock ∧ some k_ ≠ (v896 : Value).ownBlock ∧ some k_ ≠ (v881 : Value).ownBlock ∧ some k_ ≠ (v884 : Value).ownBlock ∧ some k_ ≠ (v887 : Value).ownBlock) ho0 (fun k_ hk_ => ⟨hk_.2.1, hk_.2.2, Or.elim hk_.1 (fun hs_ => fun e_ => Nat.not_le.2 hs_ (Kd.N_base HO882.out k_ e_.symm)) (fun hn_ => (Kd.fresh' (Kd.N_lt (zn_ HO882)) k_ hn_)), Or.elim hk_.1 (fun hs_ => fun e_ => Nat.not_le.2 hs_ (Kd.R_base HO885.out k_ e_.symm)) (fun hn_ => (Kd.fresh' (Kd.R_lt (zr_ HO885)) k_ hn_)), Or.elim hk_.1 (fun hs_ => fun e_ => Nat.not_le.2 hs_ (Kd.N_base HO888.out k_ e_.symm)) (fun hn_ => (Kd.fresh' (Kd.N_lt (zn_ HO888)) k_ hn_))⟩)) (below_size zb_)); have n4_ := Aside0.mk (Kd.R_lower (Kd.R_new' (Kd.R_mono (ok' := fun k_ => True) ho1 (fun _ hk_ => trivial)) (Kd.R_lt (zr_ HO885))) (below_size zb_)); have n5_ := Aside0.mk (Kd.N_lower (Kd.N_mono (ok' := fun k_ => some k_ ≠ (v890 : Value).ownBlock ∧ some k_ ≠ (v893 : Value).ownBlock ∧ some k_ ≠ (v881 : Value).ownBlock ∧ some k_ ≠ (v884 : Value).ownBlock ∧ some k_ ≠ (v887 : Value).ownBlock) ho2 (fun k_ hk_ => ⟨hk_.2.1, hk_.2.2, Or.elim hk_.1 (fun hs_ => fun e_ => Nat.not_le.2 hs_ (Kd.N_base HO882.out k_ e_.symm)) (fun hn_ => (Kd.fresh' (Kd.N_lt (zn_ HO882)) k_ hn_)), Or.elim hk_.1 (fun hs_ => fun e_ => Nat.not_le.2 hs_ (Kd.R_base HO885.out k_ e_.symm)) (fun hn_ => (Kd.fresh' (Kd.R_lt (zr_ HO885)) k_ hn_)), Or.elim hk_.1 (fun hs_ => fun e_ => Nat.not_le.2 hs_ (Kd.N_base HO888.out k_ e_.symm)) (fun hn_ => (Kd.fresh' (Kd.N_lt (zn_ HO888)) k_ hn_))⟩)) (below_size zb_)); have n6_ := Aside0.mk (below_step zb_ hb); clear HO882; clear HO885; clear HO888; clear HB; have HO882 := n0_; have HO885 := n1_; have HO888 := n2_; have HO891 := n3_; have HO894 := n4_; have HO897 := n5_; have HB := n6_; clear n0_ n1_ n2_ n3_ n4_ n5_ n6_; (try clear hb); (try clear hb2); (try clear hk); (try clear hi); (try clear ho0); (try clear ho1); (try clear ho2); obtain ⟨Ao81, co81, eo81⟩ := Kd.N_slice HO882.out; subst eo81) | ((with_reducible refine gate_callee (f := 62) rfl ?_); refine goesL_ (some 36) rfl rfl Try.func62 (by kernel_rfl) rfl #[.slice Ao81 t880.length co81] rfl za_ ?_; (with_reducible refine (exchange_Short.calls kj3 _ _ t880 t898 _ ?side1 ?side2 A15.out).mono ?_); (case side1 => exact zd_ (Kd.N_reads' HO882.out).2.2); (case side2 => exact (Kd.N_reads' HO882.out).2.1); rintro e w82 ⟨v899, rfl, ho0, hb⟩; refine ⟨_, rfl, ?_⟩; have n0_ := Aside0.mk (Kd.N_elder' (zn_ HO882) (Kd.R_base ho0) hb); have n1_ := Aside0.mk (Kd.R_below (zr_ HO885) hb); have n2_ := Aside0.mk (Kd.N_elder' (zn_ HO888) (Kd.R_base ho0) hb); have n3_ := Aside0.mk (Kd.N_elder' (zn_ HO891) (Kd.R_base ho0) hb); have n4_ := Aside0.mk (Kd.R_below (zr_ HO894) hb); have n5_ := Aside0.mk (Kd.N_elder' (zn_ HO897) (Kd.R_base ho0) hb); have n6_ := Aside0.mk (Kd.R_lower ho0 (below_size zb_)); have n7_ := Aside0.mk (below_step zb_ hb); clear HO882; clear HO885; clear HO888; clear HO891; clear HO894; clear HO897; clear HB; have HO882 := n0_; have HO885 := n1_; have HO888 := n2_; have HO891 := n3_; have HO894 := n4_; have HO897 := n5_; have HO900 := n6_; have HB := n7_; clear n0_ n1_ n2_ n3_ n4_ n5_ n6_ n7_; (try clear hb); (try clear hb2); (try clear hk); (try clear hi); (try clear ho0); obtain ⟨Ao83, co83, eo83⟩ := Kd.N_slice HO891.out; subst eo83) | ((with_reducible refine gate_callee (f := 62) rfl ?_); refine goesL_ (some 38) rfl rfl Try.func62 (by kernel_rfl) rfl #[.slice Ao83 t889.length co83] rfl za_ ?_; (with_reducible refine (exchange_Short.calls kj3 _ _ t889 t901 _ ?side1 ?side2 A16.out).mono ?_); (case side1 => exact zd_ (Kd.N_reads' HO891.out).2.2); (case side2 => exact (Kd.N_reads' HO891.out).2.1); rintro e w84 ⟨v902, rfl, ho0, hb⟩; refine ⟨_, rfl, ?_⟩; have n0_ := Aside0.mk (Kd.N_elder' (zn_ HO882) (Kd.R_base ho0) hb); have n1_ := Aside0.mk (Kd.R_below (zr_ HO885) hb); have n2_ := Aside0.mk (Kd.N_elder' (zn_ HO888) (Kd.R_base ho0) hb); have n3_ := Aside0.mk (Kd.N_elder' (zn_ HO891) (Kd.R_base ho0) hb); have n4_ := Aside0.mk (Kd.R_below (zr_ HO894) hb); have n5_ := Aside0.mk (Kd.N_elder' (zn_ HO897) (Kd.R_base ho0) hb); have n6_ := Aside0.mk (Kd.R_elder' (zr_ HO900) (Kd.R_base ho0) hb); have n7_ := Aside0.mk (Kd.R_lower (Kd.R_new' ho0 (Kd.R_lt (zr_ HO900))) (below_size zb_)); have n8_ := Aside0.mk (below_step zb_ hb); clear HO882; clear HO885; clear HO888; clear HO891; clear HO894; clear HO897; clear HO900; clear HB; have HO882 := n0_; have HO885 := n1_; have HO888 := n2_; have HO891 := n3_; have HO894 := n4_; have HO897 := n5_; have HO900 := n6_; have HO903 := n7_; have HB := n8_; clear n0_ n1_ n2_ n3_ n4_ n5_ n6_ n7_ n8_; (try clear hb); (try clear hb2); (try clear hk); (try clear hi); (try clear ho0); obtain ⟨Ao85, co85, eo85⟩ := Kd.R_slice HO900.out; subst eo85; obtain ⟨Ao86, co86, eo86⟩ := Kd.R_slice HO903.out; subst eo86) | ((with_reducible refine gate_callee (f := 30) rfl ?_); refine goesL_ (some 39) rfl rfl Try.func30 (by kernel_rfl) rfl #[.slice Ao85 t898.length co85, .slice Ao86 t901.length co86] rfl za_ ?_; (with_reducible refine (folkmootref05_Same.calls kj3 _ _ t898 _ _ t901 true _ ?side1 ?side2 ?side3 ?side4 A17.out).mono ?_); (case side1 => exact zd_ (Kd.R_reads' HO900.out).2.2); (case side2 => exact (Kd.R_reads' HO900.out).2.1); (case side3 => exact zd_ (Kd.R_reads' HO903.out).2.2); (case side4 => exact (Kd.R_reads' HO903.out).2.1); rintro e w' ⟨rfl, ⟨nd, rfl⟩⟩; refine ⟨_, rfl, ?_⟩) | (go_at_call 66; (with_reducible refine (exchange_Full.calls kj3 _ _ t880 t905 _ ?side1 ?side2 A19.out).mono ?_); (case side1 => exact zd_ (Kd.N_reads' HO882.out).2.2); (case side2 => exact (Kd.N_reads' HO882.out).2.1); rintro e w87 ⟨v906, rfl, ho0, hb⟩; have n0_ := Aside0.mk (Kd.N_elder' (zn_ HO882) (Kd.R_base ho0) hb); have n1_ := Aside0.mk (Kd.R_below (zr_ HO885) hb); have n2_ := Aside0.mk (Kd.N_elder' (zn_ HO888) (Kd.R_base ho0) hb); have n3_ := Aside0.mk (Kd.N_elder' (zn_ HO891) (Kd.R_base ho0) hb); have n4_ := Aside0.mk (Kd.R_below (zr_ HO894) hb); have n5_ := Aside0.mk (Kd.N_elder' (zn_ HO897) (Kd.R_base ho0) hb); have n6_ := Aside0.mk (Kd.R_elder' (zr_ HO900) (Kd.R_base ho0) hb); have n7_ := Aside0.mk (Kd.R_elder' (zr_ HO903) (Kd.R_base ho0) hb); have n8_ := Aside0.mk (Kd.R_lower (Kd.R_new' (Kd.R_new' ho0 (Kd.R_lt (zr_ HO900))) (Kd.R_lt (zr_ HO903))) (below_size zb_)); have n9_ := Aside0.mk (below_step zb_ hb); clear HO882; clear HO885; clear HO888; clear HO891; clear HO894; clear HO897; clear HO900; clear HO903; clear HB; have HO882 := n0_; have HO885 := n1_; have HO888 := n2_; have HO891 := n3_; have HO894 := n4_; have HO897 := n5_; have HO900 := n6_; have HO903 := n7_; have HO907 := n8_; have HB := n9_; clear n0_ n1_ n2_ n3_ n4_ n5_ n6_ n7_ n8_ n9_; (try clear hb); (try clear hb2); (try clear hk); (try clear hi); (try clear ho0)) | (go_at_call 66; (with_reducible refine (exchange_Full.calls kj3 _ _ t889 t908 _ ?side1 ?side2 A20.out).mono ?_); (case side1 => exact zd_ (Kd.N_reads' HO891.out).2.2); (case side2 => exact (Kd.N_reads' HO891.out).2.1); rintro e w88 ⟨v909, rfl, ho0, hb⟩; have n0_ := Aside0.mk (Kd.N_elder' (zn_ HO882) (Kd.R_base ho0) hb); have n1_ := Aside0.mk (Kd.R_below (zr_ HO885) hb); have n2_ := Aside0.mk (Kd.N_elder' (zn_ HO888) (Kd.R_base ho0) hb); have n3_ := Aside0.mk (Kd.N_elder' (zn_ HO891) (Kd.R_base ho0) hb); have n4_ := Aside0.mk (Kd.R_below (zr_ HO894) hb); have n5_ := Aside0.mk (Kd.N_elder' (zn_ HO897) (Kd.R_base ho0) hb); have n6_ := Aside0.mk (Kd.R_elder' (zr_ HO900) (Kd.R_base ho0) hb); have n7_ := Aside0.mk (Kd.R_elder' (zr_ HO903) (Kd.R_base ho0) hb); have n8_ := Aside0.mk (Kd.R_elder' (zr_ HO907) (Kd.R_base ho0) hb); have n9_ := Aside0.mk (Kd.R_lower (Kd.R_new' (Kd.R_new' (Kd.R_new' ho0 (Kd.R_lt (zr_ HO900))) (Kd.R_lt (zr_ HO903))) (Kd.R_lt (zr_ HO907))) (below_size zb_)); have n10_ := Aside0.mk (below_step zb_ hb); clear HO882; clear HO885; clear HO888; clear HO891; clear HO894; clear HO897; clear HO900; clear HO903; clear HO907; clear HB; have HO882 := n0_; have HO885 := n1_; have HO888 := n2_; have HO891 := n3_; have HO894 := n4_; have HO897 := n5_; have HO900 := n6_; have HO903 := n7_; have HO907 := n8_; have HO910 := n9_; have HB := n10_; clear n0_ n1_ n2_ n3_ n4_ n5_ n6_ n7_ n8_ n9_ n10_; (try clear hb); (try clear hb2); (try clear hk); (try clear hi); (try clear ho0); obtain ⟨Ao89, co89, eo89⟩ := Kd.R_slice HO907.out; subst eo89; obtain ⟨Ao90, co90, eo90⟩ := Kd.R_slice HO910.out; subst eo90) | (go_at_call 30; (with_reducible refine (folkmootref05_Same.calls kj3 _ _ t905 _ _ t908 false _ ?side1 ?side2 ?side3 ?side4 A21.out).mono ?_); (case side1 => exact zd_ (Kd.R_reads' HO907.out).2.2); (case side2 => exact (Kd.R_reads' HO907.out).2.1); (case side3 => exact zd_ (Kd.R_reads' HO910.out).2.2); (case side4 => exact (Kd.R_reads' HO910.out).2.1); rintro e w' ⟨rfl, ⟨nd, rfl⟩⟩))
      go_ret
      exact ⟨by first | rfl | (simp [errW_none, errW_some] <;> rfl) | (simp [*, errW_none, errW_some] <;> rfl), by repeat (first | (with_reducible first | exact HB.out | apply below_alloc | apply pw_below_drewN | apply below_drew1) | exact HB.out)⟩
    ·
     replace c18 := Bool.eq_false_iff.mpr c18
     subst c18
     have H1 : (some false) = some r := by rw [if_neg (show ¬ (false = true) by decide)] at H; exact H
     clear H
     have H := H1
     clear H1
     obtain rfl := Option.some.inj H
     go_wp2_with (first | ((with_reducible refine gate_callee (f := 57) rfl ?_); refine goesL_ (some 24) rfl rfl Try.func57 (by kernel_rfl) rfl #[.slice A0 l0.length c0, .int .u8 a1] rfl za_ ?_; (with_reducible refine (folkmootlaw16_told.calls kj3 (fun k_ => k_ < w.heap.size) _ _ l0 a1 t880 t883 t886 _ ?side1 A13.out).mono ?_); (case side1 => exact Kd.V_mk HC0.out (Kd.F_below (Kd.C_F k53_heap HR0.out) zb_)); rintro e w91 ⟨v881, v884, v887, rfl, ho0, ho1, ho2, hb⟩; refine ⟨_, rfl, ?_⟩; have n0_ := Aside0.mk (Kd.N_lower (Kd.N_mono (ok' := fun k_ => some k_ ≠ (v884 : Value).ownBlock ∧ some k_ ≠ (v887 : Value).ownBlock) ho0 (fun k_ hk_ => ⟨hk_.2.1, hk_.2.2⟩)) (below_size zb_)); have n1_ := Aside0.mk (Kd.R_lower (Kd.R_mono (ok' := fun k_ => True) ho1 (fun _ hk_ => trivial)) (below_size zb_)); have n2_ := Aside0.mk (Kd.N_lower (Kd.N_mono (ok' := fun k_ => some k_ ≠ (v881 : Value).ownBlock ∧ some k_ ≠ (v884 : Value).ownBlock) ho2 (fun k_ hk_ => ⟨hk_.2.1, hk_.2.2⟩)) (below_size zb_)); have n3_ := Aside0.mk (below_step zb_ hb); clear HB; have HO882 := n0_; have HO885 := n1_; have HO888 := n2_; have HB := n3_; clear n0_ n1_ n2_ n3_; (try clear hb); (try clear hb2); (try clear hk); (try clear hi); (try clear ho0); (try clear ho1); (try clear ho2)) | ((with_reducible refine gate_callee (f := 57) rfl ?_); refine goesL_ (some 31) rfl rfl Try.func57 (by kernel_rfl) rfl #[.slice A0 l0.length c0, .int .u8 a2] rfl za_ ?_; (with_reducible refine (folkmootlaw16_told.calls kj3 (fun k_ => k_ < w.heap.size) _ _ l0 a2 t889 t892 t895 _ ?side1 A14.out).mono ?_); (case side1 => exact Kd.V_mk HC0.out (Kd.F_below (Kd.C_F k53_heap HR0.out) zb_)); rintro e w92 ⟨v890, v893, v896, rfl, ho0, ho1, ho2, hb⟩; refine ⟨_, rfl, ?_⟩; have n0_ := Aside0.mk (Kd.N_mono (Kd.N_told (Kd.N_told (Kd.N_told (Kd.N_old (zn_ HO882) hb) (Kd.N_base ho0)) (Kd.R_base ho1)) (Kd.N_base ho2)) (fun _ h_ => h_.1)); have n1_ := Aside0.mk (Kd.R_elder' (zr_ HO885) (Kd.R_base ho1) hb); have n2_ := Aside0.mk (Kd.N_mono (Kd.N_told (Kd.N_told (Kd.N_told (Kd.N_old (zn_ HO888) hb) (Kd.N_base ho0)) (Kd.R_base ho1)) (Kd.N_base ho2)) (fun _ h_ => h_.1)); have n3_ := Aside0.mk (Kd.N_lower (Kd.N_mono (ok' := fun k_ => some k_ ≠ (v893 : Value).ownBlock ∧ some k_ ≠ (v896 : Value).ownBlock ∧ some k_ ≠ (v881 : Value).ownBlock ∧ some k_ ≠ (v884 : Value).ownBlock ∧ some k_ ≠ (v887 : Value).ownBlock) ho0 (fun k_ hk_ => ⟨hk_.2.1, hk_.2.2, Or.elim hk_.1 (fun hs_ => fun e_ => Nat.not_le.2 hs_ (Kd.N_base HO882.out k_ e_.symm)) (fun hn_ => (Kd.fresh' (Kd.N_lt (zn_ HO882)) k_ hn_)), Or.elim hk_.1 (fun hs_ => fun e_ => Nat.not_le.2 hs_ (Kd.R_base HO885.out k_ e_.symm)) (fun hn_ => (Kd.fresh' (Kd.R_lt (zr_ HO885)) k_ hn_)), Or.elim hk_.1 (fun hs_ => fun e_ => Nat.not_le.2 hs_ (Kd.N_base HO888.out k_ e_.symm)) (fun hn_ => (Kd.fresh' (Kd.N_lt (zn_ HO888)) k_ hn_))⟩)) (below_size zb_)); have n4_ := Aside0.mk (Kd.R_lower (Kd.R_new' (Kd.R_mono (ok' := fun k_ => True) ho1 (fun _ hk_ => trivial)) (Kd.R_lt (zr_ HO885))) (below_size zb_)); have n5_ := Aside0.mk (Kd.N_lower (Kd.N_mono (ok' := fun k_ => some k_ ≠ (v890 : Value).ownBlock ∧ some k_ ≠ (v893 : Value).ownBlock ∧ some k_ ≠ (v881 : Value).ownBlock ∧ some k_ ≠ (v884 : Value).ownBlock ∧ some k_ ≠ (v887 : Value).ownBlock) ho2 (fun k_ hk_ => ⟨hk_.2.1, hk_.2.2, Or.elim hk_.1 (fun hs_ => fun e_ => Nat.not_le.2 hs_ (Kd.N_base HO882.out k_ e_.symm)) (fun hn_ => (Kd.fresh' (Kd.N_lt (zn_ HO882)) k_ hn_)), Or.elim hk_.1 (fun hs_ => fun e_ => Nat.not_le.2 hs_ (Kd.R_base HO885.out k_ e_.symm)) (fun hn_ => (Kd.fresh' (Kd.R_lt (zr_ HO885)) k_ hn_)), Or.elim hk_.1 (fun hs_ => fun e_ => Nat.not_le.2 hs_ (Kd.N_base HO888.out k_ e_.symm)) (fun hn_ => (Kd.fresh' (Kd.N_lt (zn_ HO888)) k_ hn_))⟩)) (below_size zb_)); have n6_ := Aside0.mk (below_step zb_ hb); clear HO882; clear HO885; clear HO888; clear HB; have HO882 := n0_; have HO885 := n1_; have HO888 := n2_; have HO891 := n3_; have HO894 := n4_; have HO897 := n5_; have HB := n6_; clear n0_ n1_ n2_ n3_ n4_ n5_ n6_; (try clear hb); (try clear hb2); (try clear hk); (try clear hi); (try clear ho0); (try clear ho1); (try clear ho2); obtain ⟨Ao93, co93, eo93⟩ := Kd.N_slice HO882.out; subst eo93) | ((with_reducible refine gate_callee (f := 62) rfl ?_); refine goesL_ (some 36) rfl rfl Try.func62 (by kernel_rfl) rfl #[.slice Ao93 t880.length co93] rfl za_ ?_; (with_reducible refine (exchange_Short.calls kj3 _ _ t880 t898 _ ?side1 ?side2 A15.out).mono ?_); (case side1 => exact zd_ (Kd.N_reads' HO882.out).2.2); (case side2 => exact (Kd.N_reads' HO882.out).2.1); rintro e w94 ⟨v899, rfl, ho0, hb⟩; refine ⟨_, rfl, ?_⟩; have n0_ := Aside0.mk (Kd.N_elder' (zn_ HO882) (Kd.R_base ho0) hb); have n1_ := Aside0.mk (Kd.R_below (zr_ HO885) hb); have n2_ := Aside0.mk (Kd.N_elder' (zn_ HO888) (Kd.R_base ho0) hb); have n3_ := Aside0.mk (Kd.N_elder' (zn_ HO891) (Kd.R_base ho0) hb); have n4_ := Aside0.mk (Kd.R_below (zr_ HO894) hb); have n5_ := Aside0.mk (Kd.N_elder' (zn_ HO897) (Kd.R_base ho0) hb); have n6_ := Aside0.mk (Kd.R_lower ho0 (below_size zb_)); have n7_ := Aside0.mk (below_step zb_ hb); clear HO882; clear HO885; clear HO888; clear HO891; clear HO894; clear HO897; clear HB; have HO882 := n0_; have HO885 := n1_; have HO888 := n2_; have HO891 := n3_; have HO894 := n4_; have HO897 := n5_; have HO900 := n6_; have HB := n7_; clear n0_ n1_ n2_ n3_ n4_ n5_ n6_ n7_; (try clear hb); (try clear hb2); (try clear hk); (try clear hi); (try clear ho0); obtain ⟨Ao95, co95, eo95⟩ := Kd.N_slice HO891.out; subst eo95) | ((with_reducible refine gate_callee (f := 62) rfl ?_); refine goesL_ (some 38) rfl rfl Try.func62 (by kernel_rfl) rfl #[.slice Ao95 t889.length co95] rfl za_ ?_; (with_reducible refine (exchange_Short.calls kj3 _ _ t889 t901 _ ?side1 ?side2 A16.out).mono ?_); (case side1 => exact zd_ (Kd.N_reads' HO891.out).2.2); (case side2 => exact (Kd.N_reads' HO891.out).2.1); rintro e w96 ⟨v902, rfl, ho0, hb⟩; refine ⟨_, rfl, ?_⟩; have n0_ := Aside0.mk (Kd.N_elder' (zn_ HO882) (Kd.R_base ho0) hb); have n1_ := Aside0.mk (Kd.R_below (zr_ HO885) hb); have n2_ := Aside0.mk (Kd.N_elder' (zn_ HO888) (Kd.R_base ho0) hb); have n3_ := Aside0.mk (Kd.N_elder' (zn_ HO891) (Kd.R_base ho0) hb); have n4_ := Aside0.mk (Kd.R_below (zr_ HO894) hb); have n5_ := Aside0.mk (Kd.N_elder' (zn_ HO897) (Kd.R_base ho0) hb); have n6_ := Aside0.mk (Kd.R_elder' (zr_ HO900) (Kd.R_base ho0) hb); have n7_ := Aside0.mk (Kd.R_lower (Kd.R_new' ho0 (Kd.R_lt (zr_ HO900))) (below_size zb_)); have n8_ := Aside0.mk (below_step zb_ hb); clear HO882; clear HO885; clear HO888; clear HO891; clear HO894; clear HO897; clear HO900; clear HB; have HO882 := n0_; have HO885 := n1_; have HO888 := n2_; have HO891 := n3_; have HO894 := n4_; have HO897 := n5_; have HO900 := n6_; have HO903 := n7_; have HB := n8_; clear n0_ n1_ n2_ n3_ n4_ n5_ n6_ n7_ n8_; (try clear hb); (try clear hb2); (try clear hk); (try clear hi); (try clear ho0); obtain ⟨Ao97, co97, eo97⟩ := Kd.R_slice HO900.out; subst eo97; obtain ⟨Ao98, co98, eo98⟩ := Kd.R_slice HO903.out; subst eo98) | ((with_reducible refine gate_callee (f := 30) rfl ?_); refine goesL_ (some 39) rfl rfl Try.func30 (by kernel_rfl) rfl #[.slice Ao97 t898.length co97, .slice Ao98 t901.length co98] rfl za_ ?_; (with_reducible refine (folkmootref05_Same.calls kj3 _ _ t898 _ _ t901 false _ ?side1 ?side2 ?side3 ?side4 A17.out).mono ?_); (case side1 => exact zd_ (Kd.R_reads' HO900.out).2.2); (case side2 => exact (Kd.R_reads' HO900.out).2.1); (case side3 => exact zd_ (Kd.R_reads' HO903.out).2.2); (case side4 => exact (Kd.R_reads' HO903.out).2.1); rintro e w' ⟨rfl, ⟨nd, rfl⟩⟩; refine ⟨_, rfl, ?_⟩))
     go_ret
     exact ⟨by first | rfl | (simp [errW_none, errW_some] <;> rfl) | (simp [*, errW_none, errW_some] <;> rfl), by repeat (first | (with_reducible first | exact HB.out | apply below_alloc | apply pw_below_drewN | apply below_drew1) | exact HB.out)⟩
end Go.Proofs.Ytioooiflpabngaa.PAll
end
section
namespace Go.Proofs.Ytioooiflpabngaa.PAll
open Go.RowKit Go.Proofs.YtioooiflpabngaaW.PrintWords Go.Proofs.YtioooiflpabngaaW.PrintMore
set_option linter.unusedVariables false
set_option linter.unusedSimpArgs false
def gtV (x v : S25) : Prop := v.f0 < x.f0 ∨ (v.f0 = x.f0 ∧ v.f1 < x.f1)
theorem cmpV_gt (x v : S25) : cmpV x v > 0 ↔ gtV x v := by
  unfold cmpV gtV cmpI
  rcases Int.lt_trichotomy x.f0 v.f0 with h | h | h
  · simp [h]
    omega
  · rcases Int.lt_trichotomy x.f1 v.f1 with h2 | h2 | h2
    · simp [h, h2]
      omega
    · simp [h, h2]
    · simp [h, h2, show ¬ x.f1 < v.f1 by omega]
  · simp [h, show ¬ x.f0 < v.f0 by omega]
theorem extV {a b : S25} (h1 : a.f0 = b.f0) (h2 : a.f1 = b.f1) : a = b := by
  cases a; cases b; simp_all
theorem hi_fold : ∀ (l : List S25) (v : S25), (l.foldl hiStep v = v ∨ l.foldl hiStep v ∈ l) ∧ ¬ gtV v (l.foldl hiStep v) ∧ ∀ x ∈ l, ¬ gtV x (l.foldl hiStep v)
  | [], v => ⟨.inl rfl, by unfold gtV; simp, by simp⟩
  | y :: l, v => by
    obtain ⟨h1, h2, h3⟩ := hi_fold l (hiStep v y)
    rw [List.foldl_cons]
    generalize l.foldl hiStep (hiStep v y) = r at h1 h2 h3 ⊢
    unfold hiStep at h1 h2
    by_cases hc : cmpV y v > 0
    · rw [if_pos hc] at h1 h2
      rw [cmpV_gt] at hc
      refine ⟨.inr ?_, ?_, fun x hx => ?_⟩
      · rcases h1 with rfl | h1
        · exact List.mem_cons_self ..
        · exact List.mem_cons_of_mem _ h1
      · unfold gtV at *
        omega
      · rcases List.mem_cons.1 hx with rfl | hx
        · exact h2
        · exact h3 x hx
    · rw [if_neg hc] at h1 h2
      rw [cmpV_gt] at hc
      refine ⟨?_, h2, fun x hx => ?_⟩
      · rcases h1 with h1 | h1
        · exact .inl h1
        · exact .inr (List.mem_cons_of_mem _ h1)
      · rcases List.mem_cons.1 hx with rfl | hx
        · unfold gtV at *
          omega
        · exact h3 x hx
theorem hiV_same {l m : List S25} (h : ∀ x, x ∈ l ↔ x ∈ m) : hiV l = hiV m := by
  obtain ⟨a1, a2, a3⟩ := hi_fold l ⟨0, 0⟩
  obtain ⟨b1, b2, b3⟩ := hi_fold m ⟨0, 0⟩
  unfold hiV
  generalize l.foldl hiStep ⟨0, 0⟩ = r at a1 a2 a3 ⊢
  generalize m.foldl hiStep ⟨0, 0⟩ = q at b1 b2 b3 ⊢
  have c1 : ¬ gtV r q := by
    rcases a1 with rfl | a1
    · exact b2
    · exact b3 r ((h r).1 a1)
  have c2 : ¬ gtV q r := by
    rcases b1 with rfl | b1
    · exact a2
    · exact a3 q ((h q).2 b1)
  unfold gtV at c1 c2
  exact extV (by omega) (by omega)
theorem ch_fold (v : S25) : ∀ (l : List S87) (b : Int), (l.foldl (chStep v) b = b ∨ ∃ t ∈ l, eqV t.f1.f3 v = true ∧ l.foldl (chStep v) b = t.f0) ∧ b ≤ l.foldl (chStep v) b ∧ ∀ t ∈ l, eqV t.f1.f3 v = true → t.f0 ≤ l.foldl (chStep v) b
  | [], b => ⟨.inl rfl, Int.le_refl _, by simp⟩
  | y :: l, b => by
    obtain ⟨h1, h2, h3⟩ := ch_fold v l (chStep v b y)
    rw [List.foldl_cons]
    generalize l.foldl (chStep v) (chStep v b y) = r at h1 h2 h3 ⊢
    have hs : chStep v b y = if eqV y.f1.f3 v = true then (if b < y.f0 then y.f0 else b) else b := rfl
    rw [hs] at h1 h2
    by_cases hc : eqV y.f1.f3 v = true
    · rw [if_pos hc] at h1 h2
      by_cases hb : b < y.f0
      · rw [if_pos hb] at h1 h2
        refine ⟨.inr ?_, by omega, fun t ht he => ?_⟩
        · rcases h1 with rfl | ⟨t, ht, h4, h5⟩
          · exact ⟨y, List.mem_cons_self .., hc, rfl⟩
          · exact ⟨t, List.mem_cons_of_mem _ ht, h4, h5⟩
        · rcases List.mem_cons.1 ht with rfl | ht
          · exact h2
          · exact h3 t ht he
      · rw [if_neg hb] at h1 h2
        refine ⟨?_, h2, fun t ht he => ?_⟩
        · rcases h1 with h1 | ⟨t, ht, h4, h5⟩
          · exact .inl h1
          · exact .inr ⟨t, List.mem_cons_of_mem _ ht, h4, h5⟩
        · rcases List.mem_cons.1 ht with rfl | ht
          · omega
          · exact h3 t ht he
    · rw [if_neg hc] at h1 h2
      refine ⟨?_, h2, fun t ht he => ?_⟩
      · rcases h1 with h1 | ⟨t, ht, h4, h5⟩
        · exact .inl h1
        · exact .inr ⟨t, List.mem_cons_of_mem _ ht, h4, h5⟩
      · rcases List.mem_cons.1 ht with rfl | ht
        · exact absurd he hc
        · exact h3 t ht he
theorem map_mem {α β : Type} {l m : List α} (f : α → β) (h : ∀ x, x ∈ l ↔ x ∈ m) : ∀ y, y ∈ l.map f ↔ y ∈ m.map f := fun y => by
  simp only [List.mem_map]
  constructor
  · rintro ⟨x, hx, rfl⟩
    exact ⟨x, (h x).1 hx, rfl⟩
  · rintro ⟨x, hx, rfl⟩
    exact ⟨x, (h x).2 hx, rfl⟩
theorem chosen_same {l m : List S87} (h : ∀ x, x ∈ l ↔ x ∈ m) : chosenT l = chosenT m := by
  unfold chosenT
  rw [hiV_same (map_mem (fun t => t.f1.f3) h)]
  generalize hiV (m.map fun t => t.f1.f3) = v
  obtain ⟨a1, a2, a3⟩ := ch_fold v l (-1)
  obtain ⟨b1, b2, b3⟩ := ch_fold v m (-1)
  generalize l.foldl (chStep v) (-1) = r at a1 a2 a3 ⊢
  generalize m.foldl (chStep v) (-1) = q at b1 b2 b3 ⊢
  have c1 : r ≤ q := by
    rcases a1 with rfl | ⟨t, ht, he, rfl⟩
    · exact b2
    · exact b3 t ((h t).1 ht) he
  have c2 : q ≤ r := by
    rcases b1 with rfl | ⟨t, ht, he, rfl⟩
    · exact a2
    · exact a3 t ((h t).2 ht) he
  omega
theorem mx_fold : ∀ (l : List Int) (b : Int), (l.foldl mx b = b ∨ l.foldl mx b ∈ l) ∧ b ≤ l.foldl mx b ∧ ∀ t ∈ l, t ≤ l.foldl mx b
  | [], b => ⟨.inl rfl, Int.le_refl _, by simp⟩
  | y :: l, b => by
    obtain ⟨h1, h2, h3⟩ := mx_fold l (mx b y)
    rw [List.foldl_cons]
    generalize l.foldl mx (mx b y) = r at h1 h2 h3 ⊢
    unfold mx at h1 h2
    by_cases hb : b < y
    · rw [if_pos hb] at h1 h2
      refine ⟨.inr ?_, by omega, fun t ht => ?_⟩
      · rcases h1 with rfl | h1
        · exact List.mem_cons_self ..
        · exact List.mem_cons_of_mem _ h1
      · rcases List.mem_cons.1 ht with rfl | ht
        · exact h2
        · exact h3 t ht
    · rw [if_neg hb] at h1 h2
      refine ⟨?_, h2, fun t ht => ?_⟩
      · rcases h1 with h1 | h1
        · exact .inl h1
        · exact .inr (List.mem_cons_of_mem _ h1)
      · rcases List.mem_cons.1 ht with rfl | ht
        · omega
        · exact h3 t ht
theorem next_same {l m : List Int} (h : ∀ x, x ∈ l ↔ x ∈ m) : nextT l = nextT m := by
  unfold nextT
  obtain ⟨a1, a2, a3⟩ := mx_fold l 1
  obtain ⟨b1, b2, b3⟩ := mx_fold m 1
  generalize l.foldl mx 1 = r at a1 a2 a3 ⊢
  generalize m.foldl mx 1 = q at b1 b2 b3 ⊢
  have c1 : r ≤ q := by
    rcases a1 with rfl | a1
    · exact b2
    · exact b3 r ((h r).1 a1)
  have c2 : q ≤ r := by
    rcases b1 with rfl | b1
    · exact a2
    · exact a3 q ((h q).2 b1)
  omega
theorem short_same {l m : List S87} (h : ∀ x, x ∈ l ↔ x ∈ m) (hu : ∀ t ∈ l, ∀ u ∈ l, t.f0 = u.f0 → t = u) : shortT l = shortT m := by
  unfold shortT
  rw [chosen_same h]
  cases h1 : l.find? (fun t => decide (t.f0 = chosenT m)) with
  | none =>
    have : m.find? (fun t => decide (t.f0 = chosenT m)) = none := List.find?_eq_none.2 fun t ht => List.find?_eq_none.1 h1 t ((h t).2 ht)
    rw [this]
  | some t =>
    have ht := List.mem_of_find?_eq_some h1
    have hc := List.find?_some h1
    simp only [decide_eq_true_eq] at hc
    cases h2 : m.find? (fun t => decide (t.f0 = chosenT m)) with
    | none =>
      have := List.find?_eq_none.1 h2 t ((h t).1 ht)
      simp [hc] at this
    | some u =>
      have hu2 := List.mem_of_find?_eq_some h2
      have hd := List.find?_some h2
      simp only [decide_eq_true_eq] at hd
      rw [hu t ht u ((h u).2 hu2) (by rw [hc, hd])]
theorem lab_known {b : S27} : ∀ (l : List (List S32)) (acc : List S32), (∃ e ∈ l.foldl mergeR acc, e.f0 = b) ↔ (∃ e ∈ acc, e.f0 = b) ∨ ∃ c ∈ l, ∃ e ∈ c, e.f0 = b
  | [], acc => by simp
  | x :: l, acc => by
    rw [List.foldl_cons, lab_known l, lab_mergeR, or_assoc]
    simp only [List.mem_cons, exists_eq_or_imp]
theorem full_same {l m : List S87} (h : ∀ x, x ∈ l ↔ x ∈ m) (hu : ∀ t ∈ l, ∀ u ∈ l, t.f0 = u.f0 → t = u) : fullT l = fullT m := by
  unfold fullT
  rw [short_same h hu]
  unfold behindL
  congr 2
  refine riseL_ext (sortL_rise _) (sortL_rise _) fun x => ?_
  rw [mem_sortL, mem_sortL, List.mem_map, List.mem_map]
  show (∃ e ∈ knownC (l.map fun t => t.f1.f0), e.f0 = x) ↔ ∃ e ∈ knownC (m.map fun t => t.f1.f0), e.f0 = x
  unfold knownC
  rw [lab_known, lab_known]
  have hm := map_mem (fun t : S87 => t.f1.f0) h
  constructor
  · rintro (⟨e, he, _⟩ | ⟨c, hc, he⟩)
    · exact absurd he List.not_mem_nil
    · exact .inr ⟨c, (hm c).1 hc, he⟩
  · rintro (⟨e, he, _⟩ | ⟨c, hc, he⟩)
    · exact absurd he List.not_mem_nil
    · exact .inr ⟨c, (hm c).2 hc, he⟩
theorem pure_ExchangeTurned (l0 : List S53) (a1 a2 : Int) (h0 : l0.length * 72 ≤ reachBytes ∧ ∀ x ∈ l0, rightS x) (h1 : (Lit.int .u8 a1).wf = true) (h2 : (Lit.int .u8 a2).wf = true) :
    ∃ k, folkmootlaw16_ExchangeTurned.f k l0 a1 a2 = some true := by
  refine Ev.get ?_
  unfold folkmootlaw16_ExchangeTurned.f
  refine exch_start (j0 := fun k b => folkmootlaw16_ExchangeTurned.j0 k l0 a1 a2 b) l0 (summaries_len h0.1) h0.2 (Ev.step (fun k => by rw [folkmootlaw16_ExchangeTurned.j0, if_pos rfl]) (Ev.bind awake16_ev (Ev.const fun _ => rfl))) fun hn ht => ?_
  obtain ⟨a, rfl, ha⟩ := u8_nat h1
  obtain ⟨b, rfl, hb⟩ := u8_nat h2
  have hf := told_fine (a := a) h0.2 hn ht
  have hg := told_fine (a := b) h0.2 hn ht
  have hm : ∀ t, t ∈ toldT l0 b ↔ t ∈ toldT l0 a := fun t => by rw [mem_toldT, mem_toldT]
  have s1 := hg.short
  have s2 := hg.full
  have s3 := high_ev (toldT l0 b) hg.lt
  have s4 := chosen_ev (toldT l0 b) hg.lt
  have s5 := next_ev (toldT l0 b) hg.lt
  rw [short_same hm hg.uniq] at s1
  rw [full_same hm hg.uniq] at s2
  rw [hiV_same (map_mem (fun t => t.f1.f3) hm)] at s3
  rw [chosen_same hm] at s4
  rw [next_same (map_mem (fun t => t.f1.f2) hm)] at s5
  have z1 := hf.shortLen
  have z2 := hf.fullLen
  refine Ev.step (fun k => by rw [folkmootlaw16_ExchangeTurned.j0, if_neg (by simp)]) (Ev.bind (told_ev l0 a ha hn (con_few ht)) (Ev.bind (told_ev l0 b hb hn (con_few ht)) (Ev.bind hf.short (Ev.bind s1 (Ev.bind (sameL_ev (shortT (toldT l0 a)) (by omega)) ?_)))))
  simp only [if_true]
  refine Ev.bind hf.full (Ev.bind s2 (Ev.bind (sameL_ev (fullT (toldT l0 a)) (by omega)) ?_))
  simp only [if_true]
  refine Ev.bind (high_ev _ hf.lt) (Ev.bind s3 ?_)
  simp only [beq_self_eq_true, Bool.and_self, if_true]
  refine Ev.bind (chosen_ev _ hf.lt) (Ev.bind s4 ?_)
  simp only [if_true]
  exact Ev.bind (next_ev _ hf.lt) (Ev.bind s5 (Ev.const fun _ => by simp))
end Go.Proofs.Ytioooiflpabngaa.PAll
end
section
namespace Go.Proofs.Ytioooiflpabngaa
theorem head_signs : Try.prog.initOrder.toList = [104, 97, 114, 110, 101, 115, 115, 32, 98, 100, 54, 52, 55, 100, 48, 52, 56, 99, 56, 57, 55, 50, 49, 57, 98, 52, 100, 49, 52, 51, 55, 98, 57, 48, 102, 102, 48, 56, 49, 50, 49, 53, 100, 52, 49, 53, 51, 54, 99, 100, 49, 54, 52, 54, 49, 100, 52, 97, 49, 97, 54, 54, 102, 52, 101, 56, 53, 55, 97, 101, 50, 55, 32, 99, 117, 116, 32, 97, 116, 32, 102, 111, 108, 107, 109, 111, 111, 116, 47, 102, 111, 108, 107, 109, 111, 111, 116, 108, 97, 119, 49, 53, 46, 67, 111, 110, 116, 101, 110, 116, 70, 105, 110, 100, 115, 32, 102, 111, 108, 107, 109, 111, 111, 116, 47, 102, 111, 108, 107, 109, 111, 111, 116, 108, 97, 119, 49, 53, 46, 67, 111, 110, 116, 101, 110, 116, 75, 101, 101, 112, 115, 32, 102, 111, 108, 107, 109, 111, 111, 116, 47, 102, 111, 108, 107, 109, 111, 111, 116, 108, 97, 119, 49, 53, 46, 67, 111, 110, 116, 101, 110, 116, 77, 101, 114, 103, 101, 115, 32, 102, 111, 108, 107, 109, 111, 111, 116, 47, 102, 111, 108, 107, 109, 111, 111, 116, 108, 97, 119, 49, 53, 46, 67, 111, 110, 116, 101, 110, 116, 79, 114, 100, 101, 114, 32, 102, 111, 108, 107, 109, 111, 111, 116, 47, 102, 111, 108, 107, 109, 111, 111, 116, 108, 97, 119, 48, 53, 46, 76, 97, 98, 101, 108, 75, 101, 101, 112, 115, 32, 102, 111, 108, 107, 109, 111, 111, 116, 47, 102, 111, 108, 107, 109, 111, 111, 116, 108, 97, 119, 48, 53, 46, 76, 97, 98, 101, 108, 80, 97, 114, 116, 115, 32, 102, 111, 108, 107, 109, 111, 111, 116, 47, 102, 111, 108, 107, 109, 111, 111, 116, 108, 97, 119, 48, 53, 46, 76, 97, 98, 101, 108, 83, 111, 114, 116, 115, 32, 102, 111, 108, 107, 109, 111, 111, 116, 47, 102, 111, 108, 107, 109, 111, 111, 116, 108, 97, 119, 48, 53, 46, 76, 97, 98, 101, 108, 66, 101, 104, 105, 110, 100, 32, 102, 111, 108, 107, 109, 111, 111, 116, 47, 102, 111, 108, 107, 109, 111, 111, 116, 108, 97, 119, 48, 53, 46, 76, 97, 98, 101, 108, 79, 114, 100, 101, 114, 32, 102, 111, 108, 107, 109, 111, 111, 116, 47, 102, 111, 108, 107, 109, 111, 111, 116, 108, 97, 119, 49, 53, 46, 67, 111, 110, 116, 101, 110, 116, 65, 112, 97, 114, 116, 32, 102, 111, 108, 107, 109, 111, 111, 116, 47, 102, 111, 108, 107, 109, 111, 111, 116, 108, 97, 119, 49, 53, 46, 67, 111, 110, 116, 101, 110, 116, 79, 110, 101, 32, 102, 111, 108, 107, 109, 111, 111, 116, 47, 102, 111, 108, 107, 109, 111, 111, 116, 108, 97, 119, 49, 53, 46, 67, 111, 110, 116, 101, 110, 116, 82, 101, 97, 100, 115, 32, 102, 111, 108, 107, 109, 111, 111, 116, 47, 102, 111, 108, 107, 109, 111, 111, 116, 108, 97, 119, 49, 53, 46, 67, 111, 110, 116, 101, 110, 116, 65, 108, 108, 32, 102, 111, 108, 107, 109, 111, 111, 116, 47, 102, 111, 108, 107, 109, 111, 111, 116, 108, 97, 119, 49, 54, 46, 69, 120, 99, 104, 97, 110, 103, 101, 80, 108, 97, 121, 115, 32, 102, 111, 108, 107, 109, 111, 111, 116, 47, 102, 111, 108, 107, 109, 111, 111, 116, 108, 97, 119, 49, 54, 46, 69, 120, 99, 104, 97, 110, 103, 101, 84, 117, 114, 110, 101, 100, 32, 102, 111, 108, 107, 109, 111, 111, 116, 47, 102, 111, 108, 107, 109, 111, 111, 116, 108, 97, 119, 49, 54, 46, 69, 120, 99, 104, 97, 110, 103, 101, 70, 117, 108, 108, 32, 102, 111, 108, 107, 109, 111, 111, 116, 47, 102, 111, 108, 107, 109, 111, 111, 116, 108, 97, 119, 49, 54, 46, 69, 120, 99, 104, 97, 110, 103, 101, 75, 101, 101, 112, 115, 32, 102, 111, 108, 107, 109, 111, 111, 116, 47, 102, 111, 108, 107, 109, 111, 111, 116, 108, 97, 119, 49, 54, 46, 69, 120, 99, 104, 97, 110, 103, 101, 79, 110, 101, 32, 102, 111, 108, 107, 109, 111, 111, 116, 47, 102, 111, 108, 107, 109, 111, 111, 116, 108, 97, 119, 49, 54, 46, 69, 120, 99, 104, 97, 110, 103, 101, 77, 111, 114, 101].map Char.ofNat := by
  have h : Try.prog.initOrder = String.ofList ([104, 97, 114, 110, 101, 115, 115, 32, 98, 100, 54, 52, 55, 100, 48, 52, 56, 99, 56, 57, 55, 50, 49, 57, 98, 52, 100, 49, 52, 51, 55, 98, 57, 48, 102, 102, 48, 56, 49, 50, 49, 53, 100, 52, 49, 53, 51, 54, 99, 100, 49, 54, 52, 54, 49, 100, 52, 97, 49, 97, 54, 54, 102, 52, 101, 56, 53, 55, 97, 101, 50, 55, 32, 99, 117, 116, 32, 97, 116, 32, 102, 111, 108, 107, 109, 111, 111, 116, 47, 102, 111, 108, 107, 109, 111, 111, 116, 108, 97, 119, 49, 53, 46, 67, 111, 110, 116, 101, 110, 116, 70, 105, 110, 100, 115, 32, 102, 111, 108, 107, 109, 111, 111, 116, 47, 102, 111, 108, 107, 109, 111, 111, 116, 108, 97, 119, 49, 53, 46, 67, 111, 110, 116, 101, 110, 116, 75, 101, 101, 112, 115, 32, 102, 111, 108, 107, 109, 111, 111, 116, 47, 102, 111, 108, 107, 109, 111, 111, 116, 108, 97, 119, 49, 53, 46, 67, 111, 110, 116, 101, 110, 116, 77, 101, 114, 103, 101, 115, 32, 102, 111, 108, 107, 109, 111, 111, 116, 47, 102, 111, 108, 107, 109, 111, 111, 116, 108, 97, 119, 49, 53, 46, 67, 111, 110, 116, 101, 110, 116, 79, 114, 100, 101, 114, 32, 102, 111, 108, 107, 109, 111, 111, 116, 47, 102, 111, 108, 107, 109, 111, 111, 116, 108, 97, 119, 48, 53, 46, 76, 97, 98, 101, 108, 75, 101, 101, 112, 115, 32, 102, 111, 108, 107, 109, 111, 111, 116, 47, 102, 111, 108, 107, 109, 111, 111, 116, 108, 97, 119, 48, 53, 46, 76, 97, 98, 101, 108, 80, 97, 114, 116, 115, 32, 102, 111, 108, 107, 109, 111, 111, 116, 47, 102, 111, 108, 107, 109, 111, 111, 116, 108, 97, 119, 48, 53, 46, 76, 97, 98, 101, 108, 83, 111, 114, 116, 115, 32, 102, 111, 108, 107, 109, 111, 111, 116, 47, 102, 111, 108, 107, 109, 111, 111, 116, 108, 97, 119, 48, 53, 46, 76, 97, 98, 101, 108, 66, 101, 104, 105, 110, 100, 32, 102, 111, 108, 107, 109, 111, 111, 116, 47, 102, 111, 108, 107, 109, 111, 111, 116, 108, 97, 119, 48, 53, 46, 76, 97, 98, 101, 108, 79, 114, 100, 101, 114, 32, 102, 111, 108, 107, 109, 111, 111, 116, 47, 102, 111, 108, 107, 109, 111, 111, 116, 108, 97, 119, 49, 53, 46, 67, 111, 110, 116, 101, 110, 116, 65, 112, 97, 114, 116, 32, 102, 111, 108, 107, 109, 111, 111, 116, 47, 102, 111, 108, 107, 109, 111, 111, 116, 108, 97, 119, 49, 53, 46, 67, 111, 110, 116, 101, 110, 116, 79, 110, 101, 32, 102, 111, 108, 107, 109, 111, 111, 116, 47, 102, 111, 108, 107, 109, 111, 111, 116, 108, 97, 119, 49, 53, 46, 67, 111, 110, 116, 101, 110, 116, 82, 101, 97, 100, 115, 32, 102, 111, 108, 107, 109, 111, 111, 116, 47, 102, 111, 108, 107, 109, 111, 111, 116, 108, 97, 119, 49, 53, 46, 67, 111, 110, 116, 101, 110, 116, 65, 108, 108, 32, 102, 111, 108, 107, 109, 111, 111, 116, 47, 102, 111, 108, 107, 109, 111, 111, 116, 108, 97, 119, 49, 54, 46, 69, 120, 99, 104, 97, 110, 103, 101, 80, 108, 97, 121, 115, 32, 102, 111, 108, 107, 109, 111, 111, 116, 47, 102, 111, 108, 107, 109, 111, 111, 116, 108, 97, 119, 49, 54, 46, 69, 120, 99, 104, 97, 110, 103, 101, 84, 117, 114, 110, 101, 100, 32, 102, 111, 108, 107, 109, 111, 111, 116, 47, 102, 111, 108, 107, 109, 111, 111, 116, 108, 97, 119, 49, 54, 46, 69, 120, 99, 104, 97, 110, 103, 101, 70, 117, 108, 108, 32, 102, 111, 108, 107, 109, 111, 111, 116, 47, 102, 111, 108, 107, 109, 111, 111, 116, 108, 97, 119, 49, 54, 46, 69, 120, 99, 104, 97, 110, 103, 101, 75, 101, 101, 112, 115, 32, 102, 111, 108, 107, 109, 111, 111, 116, 47, 102, 111, 108, 107, 109, 111, 111, 116, 108, 97, 119, 49, 54, 46, 69, 120, 99, 104, 97, 110, 103, 101, 79, 110, 101, 32, 102, 111, 108, 107, 109, 111, 111, 116, 47, 102, 111, 108, 107, 109, 111, 111, 116, 108, 97, 119, 49, 54, 46, 69, 120, 99, 104, 97, 110, 103, 101, 77, 111, 114, 101].map Char.ofNat) := by kernel_rfl
  rw [h, String.toList_ofList]
theorem head_words : wordsSigns ([104, 97, 114, 110, 101, 115, 115, 32, 98, 100, 54, 52, 55, 100, 48, 52, 56, 99, 56, 57, 55, 50, 49, 57, 98, 52, 100, 49, 52, 51, 55, 98, 57, 48, 102, 102, 48, 56, 49, 50, 49, 53, 100, 52, 49, 53, 51, 54, 99, 100, 49, 54, 52, 54, 49, 100, 52, 97, 49, 97, 54, 54, 102, 52, 101, 56, 53, 55, 97, 101, 50, 55, 32, 99, 117, 116, 32, 97, 116, 32, 102, 111, 108, 107, 109, 111, 111, 116, 47, 102, 111, 108, 107, 109, 111, 111, 116, 108, 97, 119, 49, 53, 46, 67, 111, 110, 116, 101, 110, 116, 70, 105, 110, 100, 115, 32, 102, 111, 108, 107, 109, 111, 111, 116, 47, 102, 111, 108, 107, 109, 111, 111, 116, 108, 97, 119, 49, 53, 46, 67, 111, 110, 116, 101, 110, 116, 75, 101, 101, 112, 115, 32, 102, 111, 108, 107, 109, 111, 111, 116, 47, 102, 111, 108, 107, 109, 111, 111, 116, 108, 97, 119, 49, 53, 46, 67, 111, 110, 116, 101, 110, 116, 77, 101, 114, 103, 101, 115, 32, 102, 111, 108, 107, 109, 111, 111, 116, 47, 102, 111, 108, 107, 109, 111, 111, 116, 108, 97, 119, 49, 53, 46, 67, 111, 110, 116, 101, 110, 116, 79, 114, 100, 101, 114, 32, 102, 111, 108, 107, 109, 111, 111, 116, 47, 102, 111, 108, 107, 109, 111, 111, 116, 108, 97, 119, 48, 53, 46, 76, 97, 98, 101, 108, 75, 101, 101, 112, 115, 32, 102, 111, 108, 107, 109, 111, 111, 116, 47, 102, 111, 108, 107, 109, 111, 111, 116, 108, 97, 119, 48, 53, 46, 76, 97, 98, 101, 108, 80, 97, 114, 116, 115, 32, 102, 111, 108, 107, 109, 111, 111, 116, 47, 102, 111, 108, 107, 109, 111, 111, 116, 108, 97, 119, 48, 53, 46, 76, 97, 98, 101, 108, 83, 111, 114, 116, 115, 32, 102, 111, 108, 107, 109, 111, 111, 116, 47, 102, 111, 108, 107, 109, 111, 111, 116, 108, 97, 119, 48, 53, 46, 76, 97, 98, 101, 108, 66, 101, 104, 105, 110, 100, 32, 102, 111, 108, 107, 109, 111, 111, 116, 47, 102, 111, 108, 107, 109, 111, 111, 116, 108, 97, 119, 48, 53, 46, 76, 97, 98, 101, 108, 79, 114, 100, 101, 114, 32, 102, 111, 108, 107, 109, 111, 111, 116, 47, 102, 111, 108, 107, 109, 111, 111, 116, 108, 97, 119, 49, 53, 46, 67, 111, 110, 116, 101, 110, 116, 65, 112, 97, 114, 116, 32, 102, 111, 108, 107, 109, 111, 111, 116, 47, 102, 111, 108, 107, 109, 111, 111, 116, 108, 97, 119, 49, 53, 46, 67, 111, 110, 116, 101, 110, 116, 79, 110, 101, 32, 102, 111, 108, 107, 109, 111, 111, 116, 47, 102, 111, 108, 107, 109, 111, 111, 116, 108, 97, 119, 49, 53, 46, 67, 111, 110, 116, 101, 110, 116, 82, 101, 97, 100, 115, 32, 102, 111, 108, 107, 109, 111, 111, 116, 47, 102, 111, 108, 107, 109, 111, 111, 116, 108, 97, 119, 49, 53, 46, 67, 111, 110, 116, 101, 110, 116, 65, 108, 108, 32, 102, 111, 108, 107, 109, 111, 111, 116, 47, 102, 111, 108, 107, 109, 111, 111, 116, 108, 97, 119, 49, 54, 46, 69, 120, 99, 104, 97, 110, 103, 101, 80, 108, 97, 121, 115, 32, 102, 111, 108, 107, 109, 111, 111, 116, 47, 102, 111, 108, 107, 109, 111, 111, 116, 108, 97, 119, 49, 54, 46, 69, 120, 99, 104, 97, 110, 103, 101, 84, 117, 114, 110, 101, 100, 32, 102, 111, 108, 107, 109, 111, 111, 116, 47, 102, 111, 108, 107, 109, 111, 111, 116, 108, 97, 119, 49, 54, 46, 69, 120, 99, 104, 97, 110, 103, 101, 70, 117, 108, 108, 32, 102, 111, 108, 107, 109, 111, 111, 116, 47, 102, 111, 108, 107, 109, 111, 111, 116, 108, 97, 119, 49, 54, 46, 69, 120, 99, 104, 97, 110, 103, 101, 75, 101, 101, 112, 115, 32, 102, 111, 108, 107, 109, 111, 111, 116, 47, 102, 111, 108, 107, 109, 111, 111, 116, 108, 97, 119, 49, 54, 46, 69, 120, 99, 104, 97, 110, 103, 101, 79, 110, 101, 32, 102, 111, 108, 107, 109, 111, 111, 116, 47, 102, 111, 108, 107, 109, 111, 111, 116, 108, 97, 119, 49, 54, 46, 69, 120, 99, 104, 97, 110, 103, 101, 77, 111, 114, 101].map Char.ofNat) = [[104, 97, 114, 110, 101, 115, 115], [98, 100, 54, 52, 55, 100, 48, 52, 56, 99, 56, 57, 55, 50, 49, 57, 98, 52, 100, 49, 52, 51, 55, 98, 57, 48, 102, 102, 48, 56, 49, 50, 49, 53, 100, 52, 49, 53, 51, 54, 99, 100, 49, 54, 52, 54, 49, 100, 52, 97, 49, 97, 54, 54, 102, 52, 101, 56, 53, 55, 97, 101, 50, 55], [99, 117, 116], [97, 116], [102, 111, 108, 107, 109, 111, 111, 116, 47, 102, 111, 108, 107, 109, 111, 111, 116, 108, 97, 119, 49, 53, 46, 67, 111, 110, 116, 101, 110, 116, 70, 105, 110, 100, 115], [102, 111, 108, 107, 109, 111, 111, 116, 47, 102, 111, 108, 107, 109, 111, 111, 116, 108, 97, 119, 49, 53, 46, 67, 111, 110, 116, 101, 110, 116, 75, 101, 101, 112, 115], [102, 111, 108, 107, 109, 111, 111, 116, 47, 102, 111, 108, 107, 109, 111, 111, 116, 108, 97, 119, 49, 53, 46, 67, 111, 110, 116, 101, 110, 116, 77, 101, 114, 103, 101, 115], [102, 111, 108, 107, 109, 111, 111, 116, 47, 102, 111, 108, 107, 109, 111, 111, 116, 108, 97, 119, 49, 53, 46, 67, 111, 110, 116, 101, 110, 116, 79, 114, 100, 101, 114], [102, 111, 108, 107, 109, 111, 111, 116, 47, 102, 111, 108, 107, 109, 111, 111, 116, 108, 97, 119, 48, 53, 46, 76, 97, 98, 101, 108, 75, 101, 101, 112, 115], [102, 111, 108, 107, 109, 111, 111, 116, 47, 102, 111, 108, 107, 109, 111, 111, 116, 108, 97, 119, 48, 53, 46, 76, 97, 98, 101, 108, 80, 97, 114, 116, 115], [102, 111, 108, 107, 109, 111, 111, 116, 47, 102, 111, 108, 107, 109, 111, 111, 116, 108, 97, 119, 48, 53, 46, 76, 97, 98, 101, 108, 83, 111, 114, 116, 115], [102, 111, 108, 107, 109, 111, 111, 116, 47, 102, 111, 108, 107, 109, 111, 111, 116, 108, 97, 119, 48, 53, 46, 76, 97, 98, 101, 108, 66, 101, 104, 105, 110, 100], [102, 111, 108, 107, 109, 111, 111, 116, 47, 102, 111, 108, 107, 109, 111, 111, 116, 108, 97, 119, 48, 53, 46, 76, 97, 98, 101, 108, 79, 114, 100, 101, 114], [102, 111, 108, 107, 109, 111, 111, 116, 47, 102, 111, 108, 107, 109, 111, 111, 116, 108, 97, 119, 49, 53, 46, 67, 111, 110, 116, 101, 110, 116, 65, 112, 97, 114, 116], [102, 111, 108, 107, 109, 111, 111, 116, 47, 102, 111, 108, 107, 109, 111, 111, 116, 108, 97, 119, 49, 53, 46, 67, 111, 110, 116, 101, 110, 116, 79, 110, 101], [102, 111, 108, 107, 109, 111, 111, 116, 47, 102, 111, 108, 107, 109, 111, 111, 116, 108, 97, 119, 49, 53, 46, 67, 111, 110, 116, 101, 110, 116, 82, 101, 97, 100, 115], [102, 111, 108, 107, 109, 111, 111, 116, 47, 102, 111, 108, 107, 109, 111, 111, 116, 108, 97, 119, 49, 53, 46, 67, 111, 110, 116, 101, 110, 116, 65, 108, 108], [102, 111, 108, 107, 109, 111, 111, 116, 47, 102, 111, 108, 107, 109, 111, 111, 116, 108, 97, 119, 49, 54, 46, 69, 120, 99, 104, 97, 110, 103, 101, 80, 108, 97, 121, 115], [102, 111, 108, 107, 109, 111, 111, 116, 47, 102, 111, 108, 107, 109, 111, 111, 116, 108, 97, 119, 49, 54, 46, 69, 120, 99, 104, 97, 110, 103, 101, 84, 117, 114, 110, 101, 100], [102, 111, 108, 107, 109, 111, 111, 116, 47, 102, 111, 108, 107, 109, 111, 111, 116, 108, 97, 119, 49, 54, 46, 69, 120, 99, 104, 97, 110, 103, 101, 70, 117, 108, 108], [102, 111, 108, 107, 109, 111, 111, 116, 47, 102, 111, 108, 107, 109, 111, 111, 116, 108, 97, 119, 49, 54, 46, 69, 120, 99, 104, 97, 110, 103, 101, 75, 101, 101, 112, 115], [102, 111, 108, 107, 109, 111, 111, 116, 47, 102, 111, 108, 107, 109, 111, 111, 116, 108, 97, 119, 49, 54, 46, 69, 120, 99, 104, 97, 110, 103, 101, 79, 110, 101], [102, 111, 108, 107, 109, 111, 111, 116, 47, 102, 111, 108, 107, 109, 111, 111, 116, 108, 97, 119, 49, 54, 46, 69, 120, 99, 104, 97, 110, 103, 101, 77, 111, 114, 101]].map (List.map Char.ofNat) := by kernel_rfl
theorem head_behind : ∃ rest, behindMainWord (wordsSigns Try.prog.initOrder.toList) = [99, 117, 116].map Char.ofNat :: rest := by
  rw [head_signs, head_words]
  exact ⟨[[99, 117, 116], [97, 116], [102, 111, 108, 107, 109, 111, 111, 116, 47, 102, 111, 108, 107, 109, 111, 111, 116, 108, 97, 119, 49, 53, 46, 67, 111, 110, 116, 101, 110, 116, 70, 105, 110, 100, 115], [102, 111, 108, 107, 109, 111, 111, 116, 47, 102, 111, 108, 107, 109, 111, 111, 116, 108, 97, 119, 49, 53, 46, 67, 111, 110, 116, 101, 110, 116, 75, 101, 101, 112, 115], [102, 111, 108, 107, 109, 111, 111, 116, 47, 102, 111, 108, 107, 109, 111, 111, 116, 108, 97, 119, 49, 53, 46, 67, 111, 110, 116, 101, 110, 116, 77, 101, 114, 103, 101, 115], [102, 111, 108, 107, 109, 111, 111, 116, 47, 102, 111, 108, 107, 109, 111, 111, 116, 108, 97, 119, 49, 53, 46, 67, 111, 110, 116, 101, 110, 116, 79, 114, 100, 101, 114], [102, 111, 108, 107, 109, 111, 111, 116, 47, 102, 111, 108, 107, 109, 111, 111, 116, 108, 97, 119, 48, 53, 46, 76, 97, 98, 101, 108, 75, 101, 101, 112, 115], [102, 111, 108, 107, 109, 111, 111, 116, 47, 102, 111, 108, 107, 109, 111, 111, 116, 108, 97, 119, 48, 53, 46, 76, 97, 98, 101, 108, 80, 97, 114, 116, 115], [102, 111, 108, 107, 109, 111, 111, 116, 47, 102, 111, 108, 107, 109, 111, 111, 116, 108, 97, 119, 48, 53, 46, 76, 97, 98, 101, 108, 83, 111, 114, 116, 115], [102, 111, 108, 107, 109, 111, 111, 116, 47, 102, 111, 108, 107, 109, 111, 111, 116, 108, 97, 119, 48, 53, 46, 76, 97, 98, 101, 108, 66, 101, 104, 105, 110, 100], [102, 111, 108, 107, 109, 111, 111, 116, 47, 102, 111, 108, 107, 109, 111, 111, 116, 108, 97, 119, 48, 53, 46, 76, 97, 98, 101, 108, 79, 114, 100, 101, 114], [102, 111, 108, 107, 109, 111, 111, 116, 47, 102, 111, 108, 107, 109, 111, 111, 116, 108, 97, 119, 49, 53, 46, 67, 111, 110, 116, 101, 110, 116, 65, 112, 97, 114, 116], [102, 111, 108, 107, 109, 111, 111, 116, 47, 102, 111, 108, 107, 109, 111, 111, 116, 108, 97, 119, 49, 53, 46, 67, 111, 110, 116, 101, 110, 116, 79, 110, 101], [102, 111, 108, 107, 109, 111, 111, 116, 47, 102, 111, 108, 107, 109, 111, 111, 116, 108, 97, 119, 49, 53, 46, 67, 111, 110, 116, 101, 110, 116, 82, 101, 97, 100, 115], [102, 111, 108, 107, 109, 111, 111, 116, 47, 102, 111, 108, 107, 109, 111, 111, 116, 108, 97, 119, 49, 53, 46, 67, 111, 110, 116, 101, 110, 116, 65, 108, 108], [102, 111, 108, 107, 109, 111, 111, 116, 47, 102, 111, 108, 107, 109, 111, 111, 116, 108, 97, 119, 49, 54, 46, 69, 120, 99, 104, 97, 110, 103, 101, 80, 108, 97, 121, 115], [102, 111, 108, 107, 109, 111, 111, 116, 47, 102, 111, 108, 107, 109, 111, 111, 116, 108, 97, 119, 49, 54, 46, 69, 120, 99, 104, 97, 110, 103, 101, 84, 117, 114, 110, 101, 100], [102, 111, 108, 107, 109, 111, 111, 116, 47, 102, 111, 108, 107, 109, 111, 111, 116, 108, 97, 119, 49, 54, 46, 69, 120, 99, 104, 97, 110, 103, 101, 70, 117, 108, 108], [102, 111, 108, 107, 109, 111, 111, 116, 47, 102, 111, 108, 107, 109, 111, 111, 116, 108, 97, 119, 49, 54, 46, 69, 120, 99, 104, 97, 110, 103, 101, 75, 101, 101, 112, 115], [102, 111, 108, 107, 109, 111, 111, 116, 47, 102, 111, 108, 107, 109, 111, 111, 116, 108, 97, 119, 49, 54, 46, 69, 120, 99, 104, 97, 110, 103, 101, 79, 110, 101], [102, 111, 108, 107, 109, 111, 111, 116, 47, 102, 111, 108, 107, 109, 111, 111, 116, 108, 97, 119, 49, 54, 46, 69, 120, 99, 104, 97, 110, 103, 101, 77, 111, 114, 101]].tail.map (List.map Char.ofNat), by kernel_rfl⟩
theorem cut_gc : (([99, 117, 116].map Char.ofNat) == "gc".toList) = false := by kernel_rfl
theorem cut_spec : (([99, 117, 116].map Char.ofNat) == "spec".toList) = false := by kernel_rfl
theorem cut_carried : (([99, 117, 116].map Char.ofNat) == "carried".toList) = false := by kernel_rfl
theorem cut_cut : (([99, 117, 116].map Char.ofNat) == "cut".toList) = true := by kernel_rfl
theorem cut_some (rest : List (List Char)) : ((([99, 117, 116].map Char.ofNat) :: rest).head? == some "cut".toList) = true := cut_cut
theorem cut_strip (rest : List (List Char)) : stripLifts liftWords (([99, 117, 116].map Char.ofNat) :: rest) = ([], ([99, 117, 116].map Char.ofNat) :: rest) := by
  simp only [liftWords, stripLifts]
  rfl
theorem make_of {P : Program} {rest : List (List Char)} (h : behindMainWord (wordsSigns P.initOrder.toList) = [99, 117, 116].map Char.ofNat :: rest) : P.make = some .cut := by
  unfold Program.make
  rw [h]
  simp only [cut_gc, cut_spec, cut_cut, Bool.or_false, Bool.true_or, Bool.false_eq_true, if_false, if_true]
theorem lifts_of {P : Program} {rest : List (List Char)} (h : behindMainWord (wordsSigns P.initOrder.toList) = [99, 117, 116].map Char.ofNat :: rest) : P.liftsFinal = false := by
  unfold Program.liftsFinal Program.headLifts
  rw [h]
  simp only [cut_strip, List.head?_cons]
  show ((([99, 117, 116].map Char.ofNat) == "carried".toList) && _ || _) = false
  rw [cut_carried]
  kernel_rfl
theorem enter_of {P : Program} {rest : List (List Char)} (h : behindMainWord (wordsSigns P.initOrder.toList) = [99, 117, 116].map Char.ofNat :: rest) (h1 : P.laysLater = false) (h2 : P.bearsReflect = false) (h3 : P.doorFits [] = true) : P.mayEnter = true := by
  unfold Program.mayEnter
  rw [h]
  simp only [cut_strip, cut_some, cut_gc, cut_spec, cut_carried, h1, h2, h3, Bool.not_false, Bool.or_true, Bool.and_true, Bool.or_false, Bool.false_and, List.contains_nil]
theorem head_make : Try.prog.make = some .cut := head_behind.elim fun _ h => make_of h
theorem head_lifts : Try.prog.liftsFinal = false := head_behind.elim fun _ h => lifts_of h
theorem head_enter : Try.prog.mayEnter = true := head_behind.elim fun _ h => enter_of h (by kernel_rfl) (by kernel_rfl) (by kernel_rfl)
end Go.Proofs.Ytioooiflpabngaa
end
section
namespace Go.Proofs.Ytioooiflpabngaa.exchangeTurned
open Go.ChangeShapes Go.WideShapes Go.ChangeAt Go.RowKit Go.Proofs.Ytioooiflpabngaa.PAll
set_option linter.unusedVariables false
theorem own : ownKnob Try.prog.godebug = none := by kernel_rfl
theorem laidOut : laidOutB Try.prog = true := by kernel_rfl
set_option maxRecDepth 100000 in
theorem lifted (os : Os) (started : os.Started) (H : Type) (enc : TypeId × Value → H) :
    ReturnsInHanded {} Try.checked os 17 .any (Rows.exchangeTurnedSpec.pre6 enc Try.prog Try.f17 Rows.exchangeTurnedRow.domain false) (Rows.exchangeTurnedSpec.post enc Try.prog Try.f17 false true false false) := by
  refine returnsInHanded_of_change_sized (C := Try.checked) own started (by kernel_rfl) Try.func17
    (ChangeSpec.witness6 (enc := enc) (C := Try.checked) false ⟨#[], #[.slice none 0 0, .int .u8 0, .int .u8 0], []⟩ 8 (by kernel_rfl) (by kernel_rfl) (by kernel_rfl) (by kernel_rfl)) ?_
  intro W base args ds gs before hval0 hW hcnd hsz0 _
  have hsz : (DataW.weightsEach Try.prog (Try.f17.params.toList ++ Rows.exchangeTurnedSpec.plain.varTypes Try.prog) (ds ++ gs)).all (· ≤ reachBytes) = true := hsz0
  have hval : ∀ (j : Nat) t v, Try.f17.params[j]? = some t → args[j]? = some v → Value.okWide Try.prog W .any base t v := hval0
  have hW' := hW
  obtain ⟨p, q, hA0, hV, rfl, hfz, hnd⟩ := hW
  have hA : DataW.TrodAll enc Try.prog W 0 (fun _ => true) true Try.f17.params.toList args.toList ds p := hA0
  rw [Try.params17] at hA hval hsz
  obtain ⟨v0, vs0, d0, ds0, p0, q0, hargs, rfl, rfl, h0, r0⟩ := trodAll_cons hA
  obtain ⟨v1, vs1, d1, ds1, p1, q1, rfl, rfl, rfl, h1, r1⟩ := trodAll_cons r0
  obtain ⟨v2, vs2, d2, ds2, p2, q2, rfl, rfl, rfl, h2, r2⟩ := trodAll_cons r1
  obtain ⟨rfl, rfl, rfl⟩ := trodAll_nil r2
  obtain rfl : args = #[v0, v1, v2] := by cases args; simp_all
  obtain ⟨rfl, rfl⟩ := trodVars_none hV
  have z0 : ∀ n ∈ d0.weights Try.prog 69, n ≤ reachBytes := fun n hn => of_decide_eq_true (List.all_eq_true.1 hsz _ (DataW.weights_mem_each (j := 0) (t := 69) rfl rfl n hn))
  have k0 := h0
  have lt0 : ∀ x ∈ p0, x.block < W.heap.size := by obtain ⟨m, hm⟩ := k0; exact DataW.trod_lt m _ _ _ hm
  obtain ⟨a0, len0, cap0, rfl⟩ := okWide_slice Try.underlying69 (hval 0 69 v0 rfl rfl)
  obtain ⟨l0, hK0, ok0⟩ := arg_trod opensSs h0 z0
  obtain ⟨rfl, hc0, hr0⟩ := arg_slice hK0
  have z1 : ∀ n ∈ d1.weights Try.prog 5, n ≤ reachBytes := fun n hn => of_decide_eq_true (List.all_eq_true.1 hsz _ (DataW.weights_mem_each (j := 1) (t := 5) rfl rfl n hn))
  have k1 := h1
  have lt1 : ∀ x ∈ p1, x.block < W.heap.size := by obtain ⟨m, hm⟩ := k1; exact DataW.trod_lt m _ _ _ hm
  obtain ⟨a1, rfl, rfl, rfl, ok1⟩ := open_int Try.underlying5 (hval 1 5 v1 rfl rfl) h1
  have z2 : ∀ n ∈ d2.weights Try.prog 5, n ≤ reachBytes := fun n hn => of_decide_eq_true (List.all_eq_true.1 hsz _ (DataW.weights_mem_each (j := 2) (t := 5) rfl rfl n hn))
  have k2 := h2
  have lt2 : ∀ x ∈ p2, x.block < W.heap.size := by obtain ⟨m, hm⟩ := k2; exact DataW.trod_lt m _ _ _ hm
  obtain ⟨a2, rfl, rfl, rfl, ok2⟩ := open_int Try.underlying5 (hval 2 5 v2 rfl rfl) h2
  clear hA0 hval0 hsz0 hsz
  obtain ⟨k, hp⟩ := pure_ExchangeTurned l0 a1 a2 ok0 ok1 ok2
  refine (folkmootlaw16_ExchangeTurned.calls k _ _ l0 a1 a2 true W hr0 hc0 hp).mono fun e W' ⟨he, bel⟩ => ?_
  subst he
  exact ⟨_, rfl, _, _, _, [], _, [], hW', trodAll_mk1 (shut_bool Try.underlying4 _), (trodAll_cons_mk (Below.trod laidOut (by kernel_rfl) (of_decide_eq_true (by kernel_rfl)) k0 bel lt0) (trodAll_cons_mk (shut_int Try.underlying5 ok1) (trodAll_cons_mk (shut_int Try.underlying5 ok2) trodAll_mk0))), rfl, bel.frame _, fun h => by cases h⟩
theorem closed : joinedFacts Try.prog 17 Try.f17 Rows.exchangeTurnedSpec Rows.exchangeTurnedRow = true := by
  unfold joinedFacts
  rw [head_enter, head_lifts, head_make]
  kernel_rfl
theorem over : Rows.exchangeTurnedRow.holds Try.pinned (OpenSpec.ofChange Rows.exchangeTurnedSpec) :=
  OpenClaim.holds_of_wide 17 Try.f17 rfl rfl rfl rfl rfl rfl rfl ⟨rfl, rfl, rfl, rfl, rfl⟩ rfl rfl rfl rfl rfl (by kernel_rfl) Try.func17 closed
    (of_decide_eq_true (by kernel_rfl)) (by unfold Func.isWrapper; first | (rw [if_pos (by decide +kernel)]; kernel_rfl) | (rw [if_neg (by decide +kernel)]; exact ⟨rfl, rfl⟩))
    (fun os started H enc _ => lifted os started H enc)
theorem proved : Rows.ExchangeTurnedSaid := over
end Go.Proofs.Ytioooiflpabngaa.exchangeTurned
end
