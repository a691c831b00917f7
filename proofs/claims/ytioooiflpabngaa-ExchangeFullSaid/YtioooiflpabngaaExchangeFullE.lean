/- Parts: PAllx88, ETold, PAllx101, QExchangeFull, HJoined, RExchangeFull. -/
import Derived.Test.YtioooiflpabngaaExchangeFullB
import Derived.Test.YtioooiflpabngaaExchangeFullC
import Derived.Test.YtioooiflpabngaaExchangeFullD
import Derived.Test.YtioooiflpabngaaRows
import Derived.ProofKit
import Derived.WalkKit
import Derived.OpenShut
import Derived.ShutString
import Derived.ChangeOld
import Derived.Below
import Derived.SizedLaws
set_option linter.unusedVariables false
set_option linter.unusedSimpArgs false
section
namespace Go.Proofs.Ytioooiflpabngaa.PAll
open Go.RowKit Go.Proofs.YtioooiflpabngaaW.PrintWords Go.Proofs.YtioooiflpabngaaW.PrintLast Go.Proofs.YtioooiflpabngaaW.PrintMore
attribute [local go_sem] max2_int min2_int max_two min_two max_three min_three max_four min_four   -- for this text's walks alone
set_option linter.unusedVariables false
set_option linter.unusedSimpArgs false
def folkmootlaw16_awake.f (k : Nat)  : Option (Bool) := (some (([(⟨0, (⟨([] : List (S32)), ([] : List (S27)), 1, (⟨1, 0⟩ : S25)⟩ : S53)⟩ : S87), (⟨1, (⟨([] : List (S32)), (([(⟨(⟨1, 0⟩ : S25), 1, 0⟩ : S27)] : List (S27))), 2, (⟨2, 0⟩ : S25)⟩ : S53)⟩ : S87)] : List (S87)) : List (S87))).bind fun y759 => ((exchange_Short.f k y759).bind fun t762 => ((folkmootref05_Same.f k t762 (([(⟨(⟨1, 0⟩ : S25), 1, 0⟩ : S27)] : List (S27)))).bind fun t768 => (if t768 = true then ((exchange_Chosen.f k y759).bind fun t769 => (if t769 = 1 then ((exchange_Next.f k y759).bind fun t770 => (some (t770 == 2))) else (some false))) else (some false))))
theorem folkmootlaw16_awake.mono : ∀ k, LeO (folkmootlaw16_awake.f k ) (folkmootlaw16_awake.f (k + 1) ) := by
 intro  k
 unfold folkmootlaw16_awake.f
 repeat' first
   | (with_reducible exact exchange_Chosen.mono _ _)
   | (with_reducible exact exchange_Next.mono _ _)
   | (with_reducible exact exchange_Short.mono _ _)
   | (with_reducible exact folkmootref05_Same.mono _ _ _)
   | (with_reducible exact LeO.refl _)
   | (with_reducible exact LeO.none _)
   | (with_reducible refine LeO.ite ?_ ?_)
   | (with_reducible refine LeO.bind ?_ (fun _ => ?_))
   | exact exchange_Chosen.mono _ _
   | exact exchange_Next.mono _ _
   | exact exchange_Short.mono _ _
   | exact folkmootref05_Same.mono _ _ _
   | exact LeO.none _
   | refine LeO.ite ?_ ?_
   | refine LeO.bind ?_ (fun _ => ?_)
def folkmootlaw16_awake.T3 : Bool × List (List Nat × List Nat) := (true, [([], []), ([0], [0]), ([], []), ([2], [2]), ([1, 3, 1], [1, 3]), ([4, 4], [4]), ([5], [5]), ([6, 5, 5], [5, 6]), ([7, 5], [5, 7]), ([5, 8], [5, 8]), ([9, 7], [9]), ([10], [10]), ([11, 10, 10], [10, 11]), ([12, 10], [10, 12]), ([10, 13], [10, 13]), ([14, 12, 0, 1, 2, 3, 4, 5, 6, 7, 8, 9, 10, 11, 12, 13, 14], [14])])
def folkmootlaw16_awake.B3 : List Nat := [0, 1, 0, 4, 15, 31, 63, 127, 255, 511, 1023, 2047, 4095, 8191, 16383, 32767]
theorem folkmootlaw16_awake.tab3 : rtab .any (opsOf Try.f55 3) = folkmootlaw16_awake.T3 := by kernel_rfl
theorem folkmootlaw16_awake.bits3 : waitsOk folkmootlaw16_awake.T3.2 folkmootlaw16_awake.B3 = true := by kernel_rfl
set_option maxHeartbeats 8000000 in
set_option maxRecDepth 100000 in
theorem folkmootlaw16_awake.calls (k : Nat)  (r : Bool) (w : World) (h : folkmootlaw16_awake.f k  = some r) :
  Calls Try.prog 55 #[] w fun e w' => e = .returned (.bool r) ∧ Below w.heap.size w w' := by
 have hu25 := Try.underlying25
 have hu27 := Try.underlying27
 have hu53 := Try.underlying53
 have hu87 := Try.underlying87
 have HB := Aside0.mk (Below.refl w.heap.size w)
 have H : ((some (([(⟨0, (⟨([] : List (S32)), ([] : List (S27)), 1, (⟨1, 0⟩ : S25)⟩ : S53)⟩ : S87), (⟨1, (⟨([] : List (S32)), (([(⟨(⟨1, 0⟩ : S25), 1, 0⟩ : S27)] : List (S27))), 2, (⟨2, 0⟩ : S25)⟩ : S53)⟩ : S87)] : List (S87)) : List (S87))).bind fun y759 => ((exchange_Short.f k y759).bind fun t762 => ((folkmootref05_Same.f k t762 (([(⟨(⟨1, 0⟩ : S25), 1, 0⟩ : S27)] : List (S27)))).bind fun t768 => (if t768 = true then ((exchange_Chosen.f k y759).bind fun t769 => (if t769 = 1 then ((exchange_Next.f k y759).bind fun t770 => (some (t770 == 2))) else (some false))) else (some false))))) = some r := h
 clear h
 obtain ⟨y756, hy756⟩ : ∃ y_ : List (S27), y_ = (([(⟨(⟨1, 0⟩ : S25), 1, 0⟩ : S27)] : List (S27))) := ⟨_, rfl⟩
 replace H : ((some (([(⟨0, (⟨([] : List (S32)), ([] : List (S27)), 1, (⟨1, 0⟩ : S25)⟩ : S53)⟩ : S87), (⟨1, (⟨([] : List (S32)), y756, 2, (⟨2, 0⟩ : S25)⟩ : S53)⟩ : S87)] : List (S87)) : List (S87))).bind fun y759 => ((exchange_Short.f k y759).bind fun t762 => ((folkmootref05_Same.f k t762 (([(⟨(⟨1, 0⟩ : S25), 1, 0⟩ : S27)] : List (S27)))).bind fun t768 => (if t768 = true then ((exchange_Chosen.f k y759).bind fun t769 => (if t769 = 1 then ((exchange_Next.f k y759).bind fun t770 => (some (t770 == 2))) else (some false))) else (some false))))) = some r := by first | (rw [hy756]; with_reducible exact H) | (have H2_ := (Option.bind_some _ _).symm.trans H; rw [hy756]; with_reducible exact H2_) | (have H2_ := (Option.bind_some _ _).symm.trans H; with_reducible exact H2_) | with_reducible exact H | (rw [hy756]; exact H) | exact H
 have Ny756 := Aside0.mk hy756
 clear hy756
 obtain ⟨y759, hy759⟩ : ∃ y_ : List (S87), y_ = (([(⟨0, (⟨([] : List (S32)), ([] : List (S27)), 1, (⟨1, 0⟩ : S25)⟩ : S53)⟩ : S87), (⟨1, (⟨([] : List (S32)), y756, 2, (⟨2, 0⟩ : S25)⟩ : S53)⟩ : S87)] : List (S87))) := ⟨_, rfl⟩
 replace H : ((exchange_Short.f k y759).bind fun t762 => ((folkmootref05_Same.f k t762 (([(⟨(⟨1, 0⟩ : S25), 1, 0⟩ : S27)] : List (S27)))).bind fun t768 => (if t768 = true then ((exchange_Chosen.f k y759).bind fun t769 => (if t769 = 1 then ((exchange_Next.f k y759).bind fun t770 => (some (t770 == 2))) else (some false))) else (some false)))) = some r := by first | (rw [hy759]; with_reducible exact H) | (have H2_ := (Option.bind_some _ _).symm.trans H; rw [hy759]; with_reducible exact H2_) | (have H2_ := (Option.bind_some _ _).symm.trans H; with_reducible exact H2_) | with_reducible exact H | (rw [hy759]; exact H) | exact H
 have Ny759 := Aside0.mk hy759
 clear hy759
 replace H := Option.bind_eq_some_iff.mp H
 obtain ⟨t762, A10, H⟩ := H
 replace H : ((folkmootref05_Same.f k t762 (([(⟨(⟨1, 0⟩ : S25), 1, 0⟩ : S27)] : List (S27)))).bind fun t768 => (if t768 = true then ((exchange_Chosen.f k y759).bind fun t769 => (if t769 = 1 then ((exchange_Next.f k y759).bind fun t770 => (some (t770 == 2))) else (some false))) else (some false))) = some r := H
 have A1 := Aside0.mk A10
 clear A10
 obtain ⟨y765, hy765⟩ : ∃ y_ : List (S27), y_ = (([(⟨(⟨1, 0⟩ : S25), 1, 0⟩ : S27)] : List (S27))) := ⟨_, rfl⟩
 replace H : ((folkmootref05_Same.f k t762 y765).bind fun t768 => (if t768 = true then ((exchange_Chosen.f k y759).bind fun t769 => (if t769 = 1 then ((exchange_Next.f k y759).bind fun t770 => (some (t770 == 2))) else (some false))) else (some false))) = some r := by first | (rw [hy765]; with_reducible exact H) | (have H2_ := (Option.bind_some _ _).symm.trans H; rw [hy765]; with_reducible exact H2_) | (have H2_ := (Option.bind_some _ _).symm.trans H; with_reducible exact H2_) | with_reducible exact H | (rw [hy765]; exact H) | exact H
 have Ny765 := Aside0.mk hy765
 clear hy765
 replace H := Option.bind_eq_some_iff.mp H
 obtain ⟨t768, A20, H⟩ := H
 replace H : (if t768 = true then ((exchange_Chosen.f k y759).bind fun t769 => (if t769 = 1 then ((exchange_Next.f k y759).bind fun t770 => (some (t770 == 2))) else (some false))) else (some false)) = some r := H
 have A2 := Aside0.mk A20
 clear A20
 by_cases c3 : t768 = true
 ·
  subst c3
  have H1 : ((exchange_Chosen.f k y759).bind fun t769 => (if t769 = 1 then ((exchange_Next.f k y759).bind fun t770 => (some (t770 == 2))) else (some false))) = some r := by rw [if_pos rfl] at H; exact H
  clear H
  have H := H1
  clear H1
  replace H := Option.bind_eq_some_iff.mp H
  obtain ⟨t769, A40, H⟩ := H
  replace H : (if t769 = 1 then ((exchange_Next.f k y759).bind fun t770 => (some (t770 == 2))) else (some false)) = some r := H
  have A4 := Aside0.mk A40
  clear A40
  by_cases c5 : t769 = 1
  ·
   rw [if_pos c5] at H
   have c5b0 : (t769 == 1) = true := beq_iff_eq.mpr c5
   have c5b1 : (t769 != 1) = false := bne_eq_false_iff_eq.mpr c5
   clear c5
   replace H := Option.bind_eq_some_iff.mp H
   obtain ⟨t770, A60, H⟩ := H
   replace H : (some (t770 == 2)) = some r := H
   have A6 := Aside0.mk A60
   clear A60
   obtain rfl := Option.some.inj H
   go_enter Try.func55, Try.ntmps55
   try go_wp2_with (first | ((with_reducible refine gate_dst (N := 1) rfl ?_); refine box_event ?hg (N := 1) ?hd (cs := #[.int .u64 0, .int .i64 0, .int .u64 0, .int .i64 0]) (t := 27) ?hr ?_; (case hd => rfl); (case hg => rfl); (case hr => first | (go_simp; done) | (go_simp; rfl)); intro gb755 hg w7 hbox hb; have n0_ := Aside0.mk (below_step zb_ hb); have n1_ := Aside0.mk (hbox); have n2_ := Aside0.mk ((by rw [hg]; exact (below_size zb_) : w.heap.size ≤ gb755)); have n3_ := Aside0.mk ((by rw [hg]; exact (below_size zb_) : w.heap.size ≤ gb755)); clear HB; have HB := n0_; have BK755 := n1_; have GW755 := n2_; have GE755 := n3_; clear n0_ n1_ n2_ n3_; clear hb hbox hg; have hcz8_0 : w7.cell? ⟨gb755, 0, none⟩ = some (.int .u64 0) := (blk_cell BK755.out 0).trans rfl; have hcz8_1 : w7.cell? ⟨gb755, 1, none⟩ = some (.int .i64 0) := (blk_cell BK755.out 1).trans rfl; have hcz8_2 : w7.cell? ⟨gb755, 2, none⟩ = some (.int .u64 0) := (blk_cell BK755.out 2).trans rfl; have hcz8_3 : w7.cell? ⟨gb755, 3, none⟩ = some (.int .i64 0) := (blk_cell BK755.out 3).trans rfl; have hfz8_0 := blk_frozen BK755.out 0; have hfz8_1 := blk_frozen BK755.out 1; have hfz8_2 := blk_frozen BK755.out 2; have hfz8_3 := blk_frozen BK755.out 3) | ((with_reducible refine gate_dst (N := 10) rfl ?_); refine Kd.R_lit k27 _ 27 ?hg (N := 10) ?hd (xs := ([(⟨(⟨1, 0⟩ : S25), 1, 0⟩ : S27)] : List (S27))) (inner := [.int .u64 1, .int .i64 0, .int .u64 1, .int .i64 0]) (ok := fun _ => True) (okp := fun _ => True) ?hr ?hp (fun _ hk => hk) trivial (Below.refl _ _) (Nat.le_refl _) (by simp) ?_; (case hd => rfl); (case hg => rfl); (case hr => first | (go_simp; done) | (go_simp; rfl)); (case hp => exact (Reps.c4 (show Kd.M k27 _ _ _ (⟨(⟨1, 0⟩ : S25), 1, 0⟩ : S27) [.int .u64 1, .int .i64 0, .int .u64 1, .int .i64 0] from (k27_mkM _ _ _ (⟨(⟨1, 0⟩ : S25), 1, 0⟩ : S27) )) (Reps.none _ _))); intro v757 w9 ho10 hb hg_ hnew_; clear hg_ hnew_; (first | rw [← Ny756.out] at ho10 | (simp only [Int.reduceToNat] at ho10; rw [← Ny756.out] at ho10)); have n0_ := Aside0.mk (Kd.R_lower (Kd.R_newB ho10 (g := gb755) (o := .cells #[.int .u64 1, .int .i64 0, .int .u64 1, .int .i64 0] 27 (0, 0)) (by (with_reducible repeat (first | refine blk_drewN ?_ _ | refine blk_drew ?_ | refine blk_alloc ?_ _)); refine blk_put (cs := #[.int .u64 1, .int .i64 0, .int .u64 1, .int .i64 0]) ?_ 3 _ rfl; (with_reducible repeat (first | refine blk_drewN ?_ _ | refine blk_drew ?_ | refine blk_alloc ?_ _)); refine blk_put (cs := #[.int .u64 1, .int .i64 0, .int .u64 0, .int .i64 0]) ?_ 2 _ rfl; (with_reducible repeat (first | refine blk_drewN ?_ _ | refine blk_drew ?_ | refine blk_alloc ?_ _)); refine blk_put (cs := #[.int .u64 1, .int .i64 0, .int .u64 0, .int .i64 0]) ?_ 1 _ rfl; (with_reducible repeat (first | refine blk_drewN ?_ _ | refine blk_drew ?_ | refine blk_alloc ?_ _)); refine blk_put (cs := #[.int .u64 0, .int .i64 0, .int .u64 0, .int .i64 0]) ?_ 0 _ rfl; (with_reducible repeat (first | refine blk_drewN ?_ _ | refine blk_drew ?_ | refine blk_alloc ?_ _)); exact BK755.out)) (below_size zb_)); have n1_ := Aside0.mk (blk_below (g := gb755) (o := .cells #[.int .u64 1, .int .i64 0, .int .u64 1, .int .i64 0] 27 (0, 0)) (by (with_reducible repeat (first | refine blk_drewN ?_ _ | refine blk_drew ?_ | refine blk_alloc ?_ _)); refine blk_put (cs := #[.int .u64 1, .int .i64 0, .int .u64 1, .int .i64 0]) ?_ 3 _ rfl; (with_reducible repeat (first | refine blk_drewN ?_ _ | refine blk_drew ?_ | refine blk_alloc ?_ _)); refine blk_put (cs := #[.int .u64 1, .int .i64 0, .int .u64 0, .int .i64 0]) ?_ 2 _ rfl; (with_reducible repeat (first | refine blk_drewN ?_ _ | refine blk_drew ?_ | refine blk_alloc ?_ _)); refine blk_put (cs := #[.int .u64 1, .int .i64 0, .int .u64 0, .int .i64 0]) ?_ 1 _ rfl; (with_reducible repeat (first | refine blk_drewN ?_ _ | refine blk_drew ?_ | refine blk_alloc ?_ _)); refine blk_put (cs := #[.int .u64 0, .int .i64 0, .int .u64 0, .int .i64 0]) ?_ 0 _ rfl; (with_reducible repeat (first | refine blk_drewN ?_ _ | refine blk_drew ?_ | refine blk_alloc ?_ _)); exact BK755.out) hb); have n2_ := Aside0.mk (below_step zb_ hb); clear BK755; clear HB; have HO758 := n0_; have BK755 := n1_; have HB := n2_; clear n0_ n1_ n2_; clear hb ho10; obtain ⟨Ao11, co11, eo11⟩ := Kd.R_slice HO758.out; subst eo11) | ((with_reducible refine gate_dst (N := 13) rfl ?_); refine Kd.N_lit k87 _ 87 ?hg (N' := 13) ?hd (xs := ([(⟨0, (⟨([] : List (S32)), ([] : List (S27)), 1, (⟨1, 0⟩ : S25)⟩ : S53)⟩ : S87), (⟨1, (⟨([] : List (S32)), y756, 2, (⟨2, 0⟩ : S25)⟩ : S53)⟩ : S87)] : List (S87))) (inner := [.int .i64 0, .slice none 0 0, .slice none 0 0, .int .i64 1, .int .u64 1, .int .i64 0, .int .i64 1, .slice none 0 0, .slice Ao11 y756.length co11, .int .i64 2, .int .u64 2, .int .i64 0]) (ok := (fun k_ => k_ ≠ gb755)) (okp := (fun k_ => k_ ≠ gb755)) ?hr ?hp (fun _ hk => hk) ((show ∀ k_, w9.heap.size ≤ k_ → (fun k_ => k_ ≠ gb755) k_ from fun k_ hk => Kd.freshB (g := gb755) (o := .cells #[.int .u64 1, .int .i64 0, .int .u64 1, .int .i64 0] 27 (0, 0)) (by (with_reducible repeat (first | refine blk_drewN ?_ _ | refine blk_drew ?_ | refine blk_alloc ?_ _)); exact BK755.out) k_ hk) _ (Nat.le_refl _)) (Below.refl _ _) (Nat.le_refl _) (by simp) ?_; (case hd => rfl); (case hg => rfl); (case hr => first | (go_simp; done) | (go_simp; rfl)); (case hp => exact (Reps.c6 (show Kd.FK k87 _ _ (⟨0, (⟨([] : List (S32)), ([] : List (S27)), 1, (⟨1, 0⟩ : S25)⟩ : S53)⟩ : S87) [.int .i64 0, .slice none 0 0, .slice none 0 0, .int .i64 1, .int .u64 1, .int .i64 0] from (k87_mkF _ _ (⟨0, (⟨([] : List (S32)), ([] : List (S27)), 1, (⟨1, 0⟩ : S25)⟩ : S53)⟩ : S87) (Nat.le_refl _) (Kd.F_nil _ _ _) (Nat.le_refl _) (Kd.F_nil _ _ _))) (Reps.c6 (show Kd.FK k87 _ _ (⟨1, (⟨([] : List (S32)), y756, 2, (⟨2, 0⟩ : S25)⟩ : S53)⟩ : S87) [.int .i64 1, .slice none 0 0, .slice Ao11 y756.length co11, .int .i64 2, .int .u64 2, .int .i64 0] from (k87_mkF _ _ (⟨1, (⟨([] : List (S32)), y756, 2, (⟨2, 0⟩ : S25)⟩ : S53)⟩ : S87) (Nat.le_refl _) (Kd.F_nil _ _ _) (Kd.R_reads' (Kd.R_mono (ok' := (fun k_ => k_ ≠ gb755)) (HO758.out) (fun k_ hk => hk.2))).2.1 (Kd.R_F (Kd.R_mono (ok' := (fun k_ => k_ ≠ gb755)) (HO758.out) (fun k_ hk => hk.2))))) (Reps.none _ _)))); intro v760 w12 ho13 hb hg_ hnew_; clear hg_ hnew_; (first | rw [← Ny759.out] at ho13 | (simp only [Int.reduceToNat] at ho13; rw [← Ny759.out] at ho13)); have n0_ := Aside0.mk (Kd.N_lower ho13 (below_size zb_)); have n1_ := zk_ BK755 hb; have n2_ := Aside0.mk (below_step zb_ hb); clear BK755; clear HB; clear HO758; have HO761 := n0_; have BK755 := n1_; have HB := n2_; clear n0_ n1_ n2_; clear hb ho13; obtain ⟨Ao14, co14, eo14⟩ := Kd.N_slice HO761.out; subst eo14))
   have n0_ := Aside0.mk (Kd.N_drew HO761.out)
   have n1_ := Aside0.mk (blk_drew BK755.out)
   have n2_ := Aside0.mk (below_drew1 HB.out)
   clear HO761
   clear BK755
   clear HB
   have HO761 := n0_
   have BK755 := n1_
   have HB := n2_
   clear n0_ n1_ n2_
   refine start_ (n := 16) (S := fun w' => w'.cell? ⟨gb755, 0, none⟩ = some (.int .u64 1) ∧ w'.cell? ⟨gb755, 1, none⟩ = some (.int .i64 0) ∧ w'.cell? ⟨gb755, 2, none⟩ = some (.int .u64 1) ∧ w'.cell? ⟨gb755, 3, none⟩ = some (.int .i64 0)) (ds := []) #[F_,F_,F_,F_,F_,F_,F_,F_,F_,F_,F_,F_,F_,F_,F_,F_] (by kernel_rfl) rfl rfl ⟨(blk_cell BK755.out 0).trans rfl, (blk_cell BK755.out 1).trans rfl, (blk_cell BK755.out 2).trans rfl, (blk_cell BK755.out 3).trans rfl⟩ (fun hHeld => ?_); refine with_tabW folkmootlaw16_awake.tab3 folkmootlaw16_awake.bits3 (fun HT_ HW_ => ?_)
   generalize w12.drew = w15 at HO761 BK755 HB hHeld ⊢
   refine pure_ (i := 0) (N := some 14) (v := ?_) (a' := ?_) #[T_,F_,F_,F_,F_,F_,F_,F_,F_,F_,F_,F_,F_,F_,F_,F_] rfl rfl (any_of HT_.out (by kernel_rfl)) (fun _ _ _ h => h) (Or.inl ⟨by rfl, ?_⟩) ?_ ?_
   rotate_left
   ·
    intro w'; go_simp; with_reducible rfl
   rotate_left
   ·
    exact zp_
   refine take_ (i := 2) (N := some 16) (v := ?_) (a' := ?_) #[T_,F_,T_,F_,F_,F_,F_,F_,F_,F_,F_,F_,F_,F_,F_,F_] rfl rfl (take_ofW HT_.out HW_.out (by kernel_rfl)) (fun _ _ _ h => h) (Or.inl ⟨by rfl, ?_⟩) hHeld ?_ ?_
   rotate_left
   ·
    rintro w' ⟨s0, s1, s2, s3⟩
    go_simp
    with_reducible rfl
   rotate_left
   ·
    exact zp_
   refine join_ (σ := Value × Value) 12 #[T_,T_,T_,T_,F_,F_,F_,F_,F_,F_,F_,F_,F_,F_,F_,F_] (fun s_ => [(15, s_.1), (17, s_.2)]) (fun s_ w' => (w'.cell? ⟨gb755, 0, none⟩ = some (.int .u64 1) ∧ w'.cell? ⟨gb755, 1, none⟩ = some (.int .i64 0) ∧ w'.cell? ⟨gb755, 2, none⟩ = some (.int .u64 1) ∧ w'.cell? ⟨gb755, 3, none⟩ = some (.int .i64 0)) ∧ (Kd.N k87 87 w' w.heap.size (fun k_ => some k_ ≠ (s_.1 : Value).ownBlock ∧ some k_ ≠ (s_.2 : Value).ownBlock ∧ k_ ≠ gb755) (.slice Ao14 y759.length co14) y759) ∧ (Kd.R k27 27 w' w.heap.size (fun k_ => some k_ ≠ (s_.2 : Value).ownBlock ∧ k_ ≠ gb755) s_.1 t762) ∧ (Kd.R k27 27 w' w.heap.size (fun k_ => some k_ ≠ (s_.1 : Value).ownBlock ∧ k_ ≠ gb755) s_.2 y765) ∧ (w'.heap[gb755]? = some (.cells #[.int .u64 1, .int .i64 0, .int .u64 1, .int .i64 0] 27 (0, 0))) ∧ (Below w.heap.size w w')) ?_ ?_
   rotate_left
   ·
    intro hCont
    refine two_ (i := 1) (j := 3) (Ni := some 15) (Nj := some 17) #[T_,T_,T_,F_,F_,F_,F_,F_,F_,F_,F_,F_,F_,F_,F_,F_] #[T_,F_,T_,T_,F_,F_,F_,F_,F_,F_,F_,F_,F_,F_,F_,F_] rfl rfl rfl rfl (two_of HT_.out (by kernel_rfl)) (by decide) (by decide) (fun K hK => ?_) (fun K hK => ?_)
    ·
     skip
     refine goes_ Try.func62 (by kernel_rfl) rfl #[.slice Ao14 y759.length co14] (by rfl) rfl rfl za_ ?_
     with_reducible refine (exchange_Short.calls k _ _ y759 t762 _ ?side1 ?side2 A1.out).mono ?_
     (case side1 => exact zd_ (Kd.N_reads' HO761.out).2.2)
     (case side2 => exact (Kd.N_reads' HO761.out).2.1)
     rintro e w16 ⟨v763, rfl, ho0, hb⟩
     refine ⟨_, rfl, ?_⟩
     have n0_ := Aside0.mk (Kd.N_elder' (zn_ HO761) (Kd.R_base ho0) hb)
     have n1_ := Aside0.mk (Kd.R_lower (Kd.R_newB ho0 (g := gb755) (o := .cells #[.int .u64 1, .int .i64 0, .int .u64 1, .int .i64 0] 27 (0, 0)) (by (with_reducible repeat (first | refine blk_drewN ?_ _ | refine blk_drew ?_ | refine blk_alloc ?_ _)); exact BK755.out)) (below_size zb_))
     have n2_ := zk_ BK755 hb
     have n3_ := Aside0.mk (below_step zb_ hb)
     clear HO761
     clear BK755
     clear HB
     have HO761 := n0_
     have HO764 := n1_
     have BK755 := n2_
     have HB := n3_
     clear n0_ n1_ n2_ n3_
     (try clear hb)
     (try clear hb2)
     (try clear hk)
     (try clear hi)
     (try clear ho0)
     refine hK.out _ _ ⟨(blk_cell BK755.out 0).trans rfl, (blk_cell BK755.out 1).trans rfl, (blk_cell BK755.out 2).trans rfl, (blk_cell BK755.out 3).trans rfl⟩ (fun hHeld => ?_)
     clear hK K
     refine norm_ (a' := ?_) ?_ ?_
     rotate_left
     ·
      show Act.put _ (some 15) _ = _
      simp only [Act.put, List.setIfInBounds_toArray, List.set_cons_zero, List.set_cons_succ, i64_w, i32_w]
      rfl
     refine one_ (i := 3) (N := some 17) #[T_,T_,T_,T_,F_,F_,F_,F_,F_,F_,F_,F_,F_,F_,F_,F_] rfl rfl (one_of HT_.out (by kernel_rfl)) (by decide) (fun K hK => ?_)
     refine Kd.R_lit_step k27 _ 27 ?hg (N := 17) ?hd (xs := ([(⟨(⟨1, 0⟩ : S25), 1, 0⟩ : S27)] : List (S27))) (inner := [.int .u64 1, .int .i64 0, .int .u64 1, .int .i64 0]) (ok := fun _ => True) (okp := fun _ => True) ?hr ?hp (fun _ hk => hk) trivial (Below.refl _ _) (Nat.le_refl _) (by simp) ?_; (case hd => rfl); (case hg => rfl); (case hr => first | (go_simp; done) | (go_simp; rfl)); (case hp => exact (Reps.c4 (show Kd.M k27 _ _ _ (⟨(⟨1, 0⟩ : S25), 1, 0⟩ : S27) [.int .u64 1, .int .i64 0, .int .u64 1, .int .i64 0] from (k27_mkM _ _ _ (⟨(⟨1, 0⟩ : S25), 1, 0⟩ : S27) )) (Reps.none _ _)))
     intro v766 w17 ho18 hb hg_ hnew_
     clear hg_ hnew_
     (first | rw [← Ny765.out] at ho18 | (simp only [Int.reduceToNat] at ho18; rw [← Ny765.out] at ho18))
     have n0_ := Aside0.mk (Kd.N_elder' (zn_ HO761) (Kd.R_base ho18) hb)
     have n1_ := Aside0.mk (Kd.R_elder' (zr_ HO764) (Kd.R_base ho18) hb)
     have n2_ := Aside0.mk (Kd.R_lower (Kd.R_newB (Kd.R_new' ho18 (Kd.R_lt (zr_ HO764))) (g := gb755) (o := .cells #[.int .u64 1, .int .i64 0, .int .u64 1, .int .i64 0] 27 (0, 0)) (by (with_reducible repeat (first | refine blk_drewN ?_ _ | refine blk_drew ?_ | refine blk_alloc ?_ _)); exact BK755.out)) (below_size zb_))
     have n3_ := zk_ BK755 hb
     have n4_ := Aside0.mk (below_step zb_ hb)
     clear HO761
     clear HO764
     clear BK755
     clear HB
     have HO761 := n0_
     have HO764 := n1_
     have HO767 := n2_
     have BK755 := n3_
     have HB := n4_
     clear n0_ n1_ n2_ n3_ n4_
     clear hb ho18
     refine hK.out _ _ ⟨(blk_cell BK755.out 0).trans rfl, (blk_cell BK755.out 1).trans rfl, (blk_cell BK755.out 2).trans rfl, (blk_cell BK755.out 3).trans rfl⟩ (fun hHeld => ?_)
     clear hK K
     refine norm_ (a' := ?_) ?_ ?_
     rotate_left
     ·
      show Act.put _ (some 17) _ = _
      simp only [Act.put, List.setIfInBounds_toArray, List.set_cons_zero, List.set_cons_succ, i64_w, i32_w]
      rfl
     exact norm_ (by simp only [putAll, Act.put, List.setIfInBounds_toArray, List.set_cons_zero, List.set_cons_succ]) (hCont (v763, v766) _ ⟨hHeld, (by (with_reducible repeat (first | apply Kd.N_alloc | apply Kd.N_drewN | apply Kd.N_drew)); exact Kd.N_mono HO761.out (fun _ hk => ⟨hk.1.2, ⟨hk.2, hk.1.1⟩⟩)), (by (with_reducible repeat (first | apply Kd.R_alloc | apply Kd.R_drewN | apply Kd.R_drew)); exact Kd.R_mono HO764.out (fun _ hk => ⟨hk.2, hk.1.2⟩)), (by (with_reducible repeat (first | apply Kd.R_alloc | apply Kd.R_drewN | apply Kd.R_drew)); exact Kd.R_mono HO767.out (fun _ hk => ⟨hk.1.2, hk.2⟩)), (by (with_reducible repeat (first | refine blk_drewN ?_ _ | refine blk_drew ?_ | refine blk_alloc ?_ _)); exact BK755.out), zb_⟩)
    ·
     skip
     refine Kd.R_lit_step k27 _ 27 ?hg (N := 17) ?hd (xs := ([(⟨(⟨1, 0⟩ : S25), 1, 0⟩ : S27)] : List (S27))) (inner := [.int .u64 1, .int .i64 0, .int .u64 1, .int .i64 0]) (ok := fun _ => True) (okp := fun _ => True) ?hr ?hp (fun _ hk => hk) trivial (Below.refl _ _) (Nat.le_refl _) (by simp) ?_; (case hd => rfl); (case hg => rfl); (case hr => first | (go_simp; done) | (go_simp; rfl)); (case hp => exact (Reps.c4 (show Kd.M k27 _ _ _ (⟨(⟨1, 0⟩ : S25), 1, 0⟩ : S27) [.int .u64 1, .int .i64 0, .int .u64 1, .int .i64 0] from (k27_mkM _ _ _ (⟨(⟨1, 0⟩ : S25), 1, 0⟩ : S27) )) (Reps.none _ _)))
     intro v766 w16 ho17 hb hg_ hnew_
     clear hg_ hnew_
     (first | rw [← Ny765.out] at ho17 | (simp only [Int.reduceToNat] at ho17; rw [← Ny765.out] at ho17))
     have n0_ := Aside0.mk (Kd.N_elder' (zn_ HO761) (Kd.R_base ho17) hb)
     have n1_ := Aside0.mk (Kd.R_lower (Kd.R_newB ho17 (g := gb755) (o := .cells #[.int .u64 1, .int .i64 0, .int .u64 1, .int .i64 0] 27 (0, 0)) (by (with_reducible repeat (first | refine blk_drewN ?_ _ | refine blk_drew ?_ | refine blk_alloc ?_ _)); exact BK755.out)) (below_size zb_))
     have n2_ := zk_ BK755 hb
     have n3_ := Aside0.mk (below_step zb_ hb)
     clear HO761
     clear BK755
     clear HB
     have HO761 := n0_
     have HO767 := n1_
     have BK755 := n2_
     have HB := n3_
     clear n0_ n1_ n2_ n3_
     clear hb ho17
     refine hK.out _ _ ⟨(blk_cell BK755.out 0).trans rfl, (blk_cell BK755.out 1).trans rfl, (blk_cell BK755.out 2).trans rfl, (blk_cell BK755.out 3).trans rfl⟩ (fun hHeld => ?_)
     clear hK K
     refine norm_ (a' := ?_) ?_ ?_
     rotate_left
     ·
      show Act.put _ (some 17) _ = _
      simp only [Act.put, List.setIfInBounds_toArray, List.set_cons_zero, List.set_cons_succ, i64_w, i32_w]
      rfl
     refine one_ (i := 1) (N := some 15) #[T_,T_,T_,T_,F_,F_,F_,F_,F_,F_,F_,F_,F_,F_,F_,F_] rfl rfl (one_of HT_.out (by kernel_rfl)) (by decide) (fun K hK => ?_)
     refine goes_ Try.func62 (by kernel_rfl) rfl #[.slice Ao14 y759.length co14] (by rfl) rfl rfl za_ ?_
     with_reducible refine (exchange_Short.calls k _ _ y759 t762 _ ?side1 ?side2 A1.out).mono ?_
     (case side1 => exact zd_ (Kd.N_reads' HO761.out).2.2)
     (case side2 => exact (Kd.N_reads' HO761.out).2.1)
     rintro e w18 ⟨v763, rfl, ho0, hb⟩
     refine ⟨_, rfl, ?_⟩
     have n0_ := Aside0.mk (Kd.N_elder' (zn_ HO761) (Kd.R_base ho0) hb)
     have n1_ := Aside0.mk (Kd.R_elder' (zr_ HO767) (Kd.R_base ho0) hb)
     have n2_ := Aside0.mk (Kd.R_lower (Kd.R_newB (Kd.R_new' ho0 (Kd.R_lt (zr_ HO767))) (g := gb755) (o := .cells #[.int .u64 1, .int .i64 0, .int .u64 1, .int .i64 0] 27 (0, 0)) (by (with_reducible repeat (first | refine blk_drewN ?_ _ | refine blk_drew ?_ | refine blk_alloc ?_ _)); exact BK755.out)) (below_size zb_))
     have n3_ := zk_ BK755 hb
     have n4_ := Aside0.mk (below_step zb_ hb)
     clear HO761
     clear HO767
     clear BK755
     clear HB
     have HO761 := n0_
     have HO767 := n1_
     have HO764 := n2_
     have BK755 := n3_
     have HB := n4_
     clear n0_ n1_ n2_ n3_ n4_
     (try clear hb)
     (try clear hb2)
     (try clear hk)
     (try clear hi)
     (try clear ho0)
     refine hK.out _ _ ⟨(blk_cell BK755.out 0).trans rfl, (blk_cell BK755.out 1).trans rfl, (blk_cell BK755.out 2).trans rfl, (blk_cell BK755.out 3).trans rfl⟩ (fun hHeld => ?_)
     clear hK K
     refine norm_ (a' := ?_) ?_ ?_
     rotate_left
     ·
      show Act.put _ (some 15) _ = _
      simp only [Act.put, List.setIfInBounds_toArray, List.set_cons_zero, List.set_cons_succ, i64_w, i32_w]
      rfl
     exact norm_ (by simp only [putAll, Act.put, List.setIfInBounds_toArray, List.set_cons_zero, List.set_cons_succ]) (hCont (v763, v766) _ ⟨hHeld, (by (with_reducible repeat (first | apply Kd.N_alloc | apply Kd.N_drewN | apply Kd.N_drew)); exact Kd.N_mono HO761.out (fun _ hk => ⟨hk.2, ⟨hk.1.2, hk.1.1⟩⟩)), (by (with_reducible repeat (first | apply Kd.R_alloc | apply Kd.R_drewN | apply Kd.R_drew)); exact Kd.R_mono HO764.out (fun _ hk => ⟨hk.1.2, hk.2⟩)), (by (with_reducible repeat (first | apply Kd.R_alloc | apply Kd.R_drewN | apply Kd.R_drew)); exact Kd.R_mono HO767.out (fun _ hk => ⟨hk.2, hk.1.2⟩)), (by (with_reducible repeat (first | refine blk_drewN ?_ _ | refine blk_drew ?_ | refine blk_alloc ?_ _)); exact BK755.out), zb_⟩)
   rintro ⟨v763, v766⟩ w19 ⟨hS_, h0_, h1_, h2_, h3_, h4_⟩
   have n0_ : Aside0 (Kd.N k87 87 w19 w.heap.size (fun k_ => some k_ ≠ (v763 : Value).ownBlock ∧ some k_ ≠ (v766 : Value).ownBlock ∧ k_ ≠ gb755) (.slice Ao14 y759.length co14) y759) := ⟨h0_⟩
   have n1_ : Aside0 (Kd.R k27 27 w19 w.heap.size (fun k_ => some k_ ≠ (v766 : Value).ownBlock ∧ k_ ≠ gb755) v763 t762) := ⟨h1_⟩
   have n2_ : Aside0 (Kd.R k27 27 w19 w.heap.size (fun k_ => some k_ ≠ (v763 : Value).ownBlock ∧ k_ ≠ gb755) v766 y765) := ⟨h2_⟩
   have n3_ : Aside0 (w19.heap[gb755]? = some (.cells #[.int .u64 1, .int .i64 0, .int .u64 1, .int .i64 0] 27 (0, 0))) := ⟨h3_⟩
   have n4_ : Aside0 (Below w.heap.size w w19) := ⟨h4_⟩
   clear HO761
   clear BK755
   clear HB
   clear h0_ h1_ h2_ h3_ h4_
   have HO761 := n0_
   have HO764 := n1_
   have HO767 := n2_
   have BK755 := n3_
   have HB := n4_
   clear n0_ n1_ n2_ n3_ n4_
   have hHeld : w19.cell? ⟨gb755, 0, none⟩ = some (.int .u64 1) ∧ w19.cell? ⟨gb755, 1, none⟩ = some (.int .i64 0) ∧ w19.cell? ⟨gb755, 2, none⟩ = some (.int .u64 1) ∧ w19.cell? ⟨gb755, 3, none⟩ = some (.int .i64 0) := hS_
   obtain ⟨Ao20, co20, eo20⟩ := Kd.R_slice HO764.out
   (first | subst eo20 | (injection eo20 with f1_ f2_ f3_; have f4_ := f1_.symm; have f5_ := f3_.symm; clear f1_ f2_ f3_; subst f4_; subst f5_))
   obtain ⟨Ao21, co21, eo21⟩ := Kd.R_slice HO767.out
   (first | subst eo21 | (injection eo21 with f1_ f2_ f3_; have f4_ := f1_.symm; have f5_ := f3_.symm; clear f1_ f2_ f3_; subst f4_; subst f5_))
   refine norm_ (a' := ?_) ?_ ?_
   rotate_left
   ·
    simp only [putAll, Act.put, List.setIfInBounds_toArray, List.set_cons_zero, List.set_cons_succ]
    rfl
   refine one_ (i := 4) (N := some 18) #[T_,T_,T_,T_,T_,F_,F_,F_,F_,F_,F_,F_,F_,F_,F_,F_] rfl rfl (one_of HT_.out (by kernel_rfl)) (by decide) (fun K hK => ?_)
   refine goes_ Try.func30 (by kernel_rfl) rfl #[.slice Ao20 t762.length co20, .slice Ao21 y765.length co21] (by rfl) rfl rfl za_ ?_
   with_reducible refine (folkmootref05_Same.calls k _ _ t762 _ _ y765 true _ ?side1 ?side2 ?side3 ?side4 A2.out).mono ?_
   (case side1 => exact zd_ (Kd.R_reads' HO764.out).2.2)
   (case side2 => exact (Kd.R_reads' HO764.out).2.1)
   (case side3 => exact zd_ (Kd.R_reads' HO767.out).2.2)
   (case side4 => exact (Kd.R_reads' HO767.out).2.1)
   rintro e w' ⟨rfl, ⟨nd, rfl⟩⟩
   refine ⟨_, rfl, ?_⟩
   refine hK.out _ _ ⟨(blk_cell BK755.out 0).trans rfl, (blk_cell BK755.out 1).trans rfl, (blk_cell BK755.out 2).trans rfl, (blk_cell BK755.out 3).trans rfl⟩ (fun hHeld => ?_)
   clear hK K
   refine norm_ (a' := ?_) ?_ ?_
   rotate_left
   ·
    show Act.put _ (some 18) _ = _
    simp only [Act.put, List.setIfInBounds_toArray, List.set_cons_zero, List.set_cons_succ, i64_w, i32_w]
    rfl
   refine pure_ (i := 5) (N := some 19) (v := ?_) (a' := ?_) #[T_,T_,T_,T_,T_,T_,F_,F_,F_,F_,F_,F_,F_,F_,F_,F_] rfl rfl (any_of HT_.out (by kernel_rfl)) (fun _ _ _ h => h) (Or.inl ⟨by rfl, ?_⟩) ?_ ?_
   rotate_left
   ·
    intro w'; go_simp; with_reducible rfl
   rotate_left
   ·
    exact zp_
   refine pure_ (i := 6) (N := some 20) (v := ?_) (a' := ?_) #[T_,T_,T_,T_,T_,T_,T_,F_,F_,F_,F_,F_,F_,F_,F_,F_] rfl rfl (any_of HT_.out (by kernel_rfl)) (fun _ _ _ h => h) (Or.inl ⟨by rfl, ?_⟩) ?_ ?_
   rotate_left
   ·
    intro w'; go_simp; with_reducible rfl
   rotate_left
   ·
    exact zp_
   refine one_ (i := 7) (N := some 21) #[T_,T_,T_,T_,T_,T_,T_,T_,F_,F_,F_,F_,F_,F_,F_,F_] rfl rfl (one_of HT_.out (by kernel_rfl)) (by decide) (fun K hK => ?_)
   refine goes_ Try.func61 (by kernel_rfl) rfl #[.slice Ao14 y759.length co14] (by rfl) rfl rfl za_ ?_
   with_reducible refine (exchange_Chosen.calls k _ _ y759 t769 _ ?side1 ?side2 A4.out).mono ?_
   (case side1 => exact zd_ (Kd.N_reads' HO761.out).2.2)
   (case side2 => exact (Kd.N_reads' HO761.out).2.1)
   rintro e w22 ⟨rfl, hb⟩
   refine ⟨_, rfl, ?_⟩
   have n0_ := Aside0.mk (Kd.N_below (zn_ HO761) hb)
   have n1_ := Aside0.mk (Kd.R_below (zr_ HO764) hb)
   have n2_ := Aside0.mk (Kd.R_below (zr_ HO767) hb)
   have n3_ := zk_ BK755 hb
   have n4_ := Aside0.mk (below_step zb_ hb)
   clear HO761
   clear HO764
   clear HO767
   clear BK755
   clear HB
   have HO761 := n0_
   have HO764 := n1_
   have HO767 := n2_
   have BK755 := n3_
   have HB := n4_
   clear n0_ n1_ n2_ n3_ n4_
   (try clear hb)
   (try clear hb2)
   (try clear hk)
   (try clear hi)
   refine hK.out _ _ ⟨(blk_cell BK755.out 0).trans rfl, (blk_cell BK755.out 1).trans rfl, (blk_cell BK755.out 2).trans rfl, (blk_cell BK755.out 3).trans rfl⟩ (fun hHeld => ?_)
   clear hK K
   refine norm_ (a' := ?_) ?_ ?_
   rotate_left
   ·
    show Act.put _ (some 21) _ = _
    simp only [Act.put, List.setIfInBounds_toArray, List.set_cons_zero, List.set_cons_succ, i64_w, i32_w]
    rfl
   refine pure_ (i := 8) (N := some 22) (v := ?_) (a' := ?_) #[T_,T_,T_,T_,T_,T_,T_,T_,T_,F_,F_,F_,F_,F_,F_,F_] rfl rfl (any_of HT_.out (by kernel_rfl)) (fun _ _ _ h => h) (Or.inl ⟨by rfl, ?_⟩) ?_ ?_
   rotate_left
   ·
    intro w'; go_simp; with_reducible rfl
   rotate_left
   ·
    exact zp_
   refine pure_ (i := 9) (N := some 23) (v := ?_) (a' := ?_) #[T_,T_,T_,T_,T_,T_,T_,T_,T_,T_,F_,F_,F_,F_,F_,F_] rfl rfl (any_of HT_.out (by kernel_rfl)) (fun _ _ _ h => h) (Or.inl ⟨by rfl, ?_⟩) ?_ ?_
   rotate_left
   ·
    intro w'; go_simp; with_reducible rfl
   rotate_left
   ·
    exact zp_
   refine pure_ (i := 10) (N := some 24) (v := ?_) (a' := ?_) #[T_,T_,T_,T_,T_,T_,T_,T_,T_,T_,T_,F_,F_,F_,F_,F_] rfl rfl (any_of HT_.out (by kernel_rfl)) (fun _ _ _ h => h) (Or.inl ⟨by rfl, ?_⟩) ?_ ?_
   rotate_left
   ·
    intro w'; go_simp; with_reducible rfl
   rotate_left
   ·
    exact zp_
   refine pure_ (i := 11) (N := some 25) (v := ?_) (a' := ?_) #[T_,T_,T_,T_,T_,T_,T_,T_,T_,T_,T_,T_,F_,F_,F_,F_] rfl rfl (any_of HT_.out (by kernel_rfl)) (fun _ _ _ h => h) (Or.inl ⟨by rfl, ?_⟩) ?_ ?_
   rotate_left
   ·
    intro w'; go_simp; with_reducible rfl
   rotate_left
   ·
    exact zp_
   refine one_ (i := 12) (N := some 26) #[T_,T_,T_,T_,T_,T_,T_,T_,T_,T_,T_,T_,T_,F_,F_,F_] rfl rfl (one_of HT_.out (by kernel_rfl)) (by decide) (fun K hK => ?_)
   refine goes_ Try.func68 (by kernel_rfl) rfl #[.slice Ao14 y759.length co14] (by rfl) rfl rfl za_ ?_
   with_reducible refine (exchange_Next.calls k _ _ y759 t770 _ ?side1 ?side2 A6.out).mono ?_
   (case side1 => exact zd_ (Kd.N_reads' HO761.out).2.2)
   (case side2 => exact (Kd.N_reads' HO761.out).2.1)
   rintro e w23 ⟨rfl, hb⟩
   refine ⟨_, rfl, ?_⟩
   have n0_ := Aside0.mk (Kd.N_below (zn_ HO761) hb)
   have n1_ := Aside0.mk (Kd.R_below (zr_ HO764) hb)
   have n2_ := Aside0.mk (Kd.R_below (zr_ HO767) hb)
   have n3_ := zk_ BK755 hb
   have n4_ := Aside0.mk (below_step zb_ hb)
   clear HO761
   clear HO764
   clear HO767
   clear BK755
   clear HB
   have HO761 := n0_
   have HO764 := n1_
   have HO767 := n2_
   have BK755 := n3_
   have HB := n4_
   clear n0_ n1_ n2_ n3_ n4_
   (try clear hb)
   (try clear hb2)
   (try clear hk)
   (try clear hi)
   refine hK.out _ _ ⟨(blk_cell BK755.out 0).trans rfl, (blk_cell BK755.out 1).trans rfl, (blk_cell BK755.out 2).trans rfl, (blk_cell BK755.out 3).trans rfl⟩ (fun hHeld => ?_)
   clear hK K
   refine norm_ (a' := ?_) ?_ ?_
   rotate_left
   ·
    show Act.put _ (some 26) _ = _
    simp only [Act.put, List.setIfInBounds_toArray, List.set_cons_zero, List.set_cons_succ, i64_w, i32_w]
    rfl
   refine pure_ (i := 13) (N := some 27) (v := ?_) (a' := ?_) #[T_,T_,T_,T_,T_,T_,T_,T_,T_,T_,T_,T_,T_,T_,F_,F_] rfl rfl (any_of HT_.out (by kernel_rfl)) (fun _ _ _ h => h) (Or.inl ⟨by rfl, ?_⟩) ?_ ?_
   rotate_left
   ·
    intro w'; go_simp; with_reducible rfl
   rotate_left
   ·
    exact zp_
   refine pure_ (i := 14) (N := some 28) (v := ?_) (a' := ?_) #[T_,T_,T_,T_,T_,T_,T_,T_,T_,T_,T_,T_,T_,T_,T_,F_] rfl rfl (any_of HT_.out (by kernel_rfl)) (fun _ _ _ h => h) (Or.inl ⟨by rfl, ?_⟩) ?_ ?_
   rotate_left
   ·
    intro w'; go_simp; with_reducible rfl
   rotate_left
   ·
    exact zp_
   refine pure_ (i := 15) (N := some 0) (v := ?_) (a' := ?_) #[T_,T_,T_,T_,T_,T_,T_,T_,T_,T_,T_,T_,T_,T_,T_,T_] rfl rfl (any_of HT_.out (by kernel_rfl)) (fun _ _ _ h => h) (Or.inl ⟨by rfl, ?_⟩) ?_ ?_
   rotate_left
   ·
    intro w'; go_simp; with_reducible rfl
   rotate_left
   ·
    exact zp_
   refine done_ (done_of HT_.out (by kernel_rfl)) ?_
   (try clear hHeld); (try clear HS0_)
   try go_wp2
   go_ret
   exact ⟨by first | rfl | (simp [errW_none, errW_some] <;> rfl) | (simp [*, errW_none, errW_some] <;> rfl), by repeat (first | (with_reducible first | exact HB.out | apply below_alloc | apply pw_below_drewN | apply below_drew1 | refine below_set ?_ GE755.out) | exact HB.out)⟩
  ·
   rw [if_neg c5] at H
   have c5b0 : (t769 == 1) = false := beq_eq_false_iff_ne.mpr c5
   have c5b1 : (t769 != 1) = true := bne_iff_ne.mpr c5
   obtain rfl := Option.some.inj H
   go_enter Try.func55, Try.ntmps55
   try go_wp2_with (first | ((with_reducible refine gate_dst (N := 1) rfl ?_); refine box_event ?hg (N := 1) ?hd (cs := #[.int .u64 0, .int .i64 0, .int .u64 0, .int .i64 0]) (t := 27) ?hr ?_; (case hd => rfl); (case hg => rfl); (case hr => first | (go_simp; done) | (go_simp; rfl)); intro gb755 hg w24 hbox hb; have n0_ := Aside0.mk (below_step zb_ hb); have n1_ := Aside0.mk (hbox); have n2_ := Aside0.mk ((by rw [hg]; exact (below_size zb_) : w.heap.size ≤ gb755)); have n3_ := Aside0.mk ((by rw [hg]; exact (below_size zb_) : w.heap.size ≤ gb755)); clear HB; have HB := n0_; have BK755 := n1_; have GW755 := n2_; have GE755 := n3_; clear n0_ n1_ n2_ n3_; clear hb hbox hg; have hcz25_0 : w24.cell? ⟨gb755, 0, none⟩ = some (.int .u64 0) := (blk_cell BK755.out 0).trans rfl; have hcz25_1 : w24.cell? ⟨gb755, 1, none⟩ = some (.int .i64 0) := (blk_cell BK755.out 1).trans rfl; have hcz25_2 : w24.cell? ⟨gb755, 2, none⟩ = some (.int .u64 0) := (blk_cell BK755.out 2).trans rfl; have hcz25_3 : w24.cell? ⟨gb755, 3, none⟩ = some (.int .i64 0) := (blk_cell BK755.out 3).trans rfl; have hfz25_0 := blk_frozen BK755.out 0; have hfz25_1 := blk_frozen BK755.out 1; have hfz25_2 := blk_frozen BK755.out 2; have hfz25_3 := blk_frozen BK755.out 3) | ((with_reducible refine gate_dst (N := 10) rfl ?_); refine Kd.R_lit k27 _ 27 ?hg (N := 10) ?hd (xs := ([(⟨(⟨1, 0⟩ : S25), 1, 0⟩ : S27)] : List (S27))) (inner := [.int .u64 1, .int .i64 0, .int .u64 1, .int .i64 0]) (ok := fun _ => True) (okp := fun _ => True) ?hr ?hp (fun _ hk => hk) trivial (Below.refl _ _) (Nat.le_refl _) (by simp) ?_; (case hd => rfl); (case hg => rfl); (case hr => first | (go_simp; done) | (go_simp; rfl)); (case hp => exact (Reps.c4 (show Kd.M k27 _ _ _ (⟨(⟨1, 0⟩ : S25), 1, 0⟩ : S27) [.int .u64 1, .int .i64 0, .int .u64 1, .int .i64 0] from (k27_mkM _ _ _ (⟨(⟨1, 0⟩ : S25), 1, 0⟩ : S27) )) (Reps.none _ _))); intro v757 w26 ho27 hb hg_ hnew_; clear hg_ hnew_; (first | rw [← Ny756.out] at ho27 | (simp only [Int.reduceToNat] at ho27; rw [← Ny756.out] at ho27)); have n0_ := Aside0.mk (Kd.R_lower (Kd.R_newB ho27 (g := gb755) (o := .cells #[.int .u64 1, .int .i64 0, .int .u64 1, .int .i64 0] 27 (0, 0)) (by (with_reducible repeat (first | refine blk_drewN ?_ _ | refine blk_drew ?_ | refine blk_alloc ?_ _)); refine blk_put (cs := #[.int .u64 1, .int .i64 0, .int .u64 1, .int .i64 0]) ?_ 3 _ rfl; (with_reducible repeat (first | refine blk_drewN ?_ _ | refine blk_drew ?_ | refine blk_alloc ?_ _)); refine blk_put (cs := #[.int .u64 1, .int .i64 0, .int .u64 0, .int .i64 0]) ?_ 2 _ rfl; (with_reducible repeat (first | refine blk_drewN ?_ _ | refine blk_drew ?_ | refine blk_alloc ?_ _)); refine blk_put (cs := #[.int .u64 1, .int .i64 0, .int .u64 0, .int .i64 0]) ?_ 1 _ rfl; (with_reducible repeat (first | refine blk_drewN ?_ _ | refine blk_drew ?_ | refine blk_alloc ?_ _)); refine blk_put (cs := #[.int .u64 0, .int .i64 0, .int .u64 0, .int .i64 0]) ?_ 0 _ rfl; (with_reducible repeat (first | refine blk_drewN ?_ _ | refine blk_drew ?_ | refine blk_alloc ?_ _)); exact BK755.out)) (below_size zb_)); have n1_ := Aside0.mk (blk_below (g := gb755) (o := .cells #[.int .u64 1, .int .i64 0, .int .u64 1, .int .i64 0] 27 (0, 0)) (by (with_reducible repeat (first | refine blk_drewN ?_ _ | refine blk_drew ?_ | refine blk_alloc ?_ _)); refine blk_put (cs := #[.int .u64 1, .int .i64 0, .int .u64 1, .int .i64 0]) ?_ 3 _ rfl; (with_reducible repeat (first | refine blk_drewN ?_ _ | refine blk_drew ?_ | refine blk_alloc ?_ _)); refine blk_put (cs := #[.int .u64 1, .int .i64 0, .int .u64 0, .int .i64 0]) ?_ 2 _ rfl; (with_reducible repeat (first | refine blk_drewN ?_ _ | refine blk_drew ?_ | refine blk_alloc ?_ _)); refine blk_put (cs := #[.int .u64 1, .int .i64 0, .int .u64 0, .int .i64 0]) ?_ 1 _ rfl; (with_reducible repeat (first | refine blk_drewN ?_ _ | refine blk_drew ?_ | refine blk_alloc ?_ _)); refine blk_put (cs := #[.int .u64 0, .int .i64 0, .int .u64 0, .int .i64 0]) ?_ 0 _ rfl; (with_reducible repeat (first | refine blk_drewN ?_ _ | refine blk_drew ?_ | refine blk_alloc ?_ _)); exact BK755.out) hb); have n2_ := Aside0.mk (below_step zb_ hb); clear BK755; clear HB; have HO758 := n0_; have BK755 := n1_; have HB := n2_; clear n0_ n1_ n2_; clear hb ho27; obtain ⟨Ao28, co28, eo28⟩ := Kd.R_slice HO758.out; subst eo28) | ((with_reducible refine gate_dst (N := 13) rfl ?_); refine Kd.N_lit k87 _ 87 ?hg (N' := 13) ?hd (xs := ([(⟨0, (⟨([] : List (S32)), ([] : List (S27)), 1, (⟨1, 0⟩ : S25)⟩ : S53)⟩ : S87), (⟨1, (⟨([] : List (S32)), y756, 2, (⟨2, 0⟩ : S25)⟩ : S53)⟩ : S87)] : List (S87))) (inner := [.int .i64 0, .slice none 0 0, .slice none 0 0, .int .i64 1, .int .u64 1, .int .i64 0, .int .i64 1, .slice none 0 0, .slice Ao28 y756.length co28, .int .i64 2, .int .u64 2, .int .i64 0]) (ok := (fun k_ => k_ ≠ gb755)) (okp := (fun k_ => k_ ≠ gb755)) ?hr ?hp (fun _ hk => hk) ((show ∀ k_, w26.heap.size ≤ k_ → (fun k_ => k_ ≠ gb755) k_ from fun k_ hk => Kd.freshB (g := gb755) (o := .cells #[.int .u64 1, .int .i64 0, .int .u64 1, .int .i64 0] 27 (0, 0)) (by (with_reducible repeat (first | refine blk_drewN ?_ _ | refine blk_drew ?_ | refine blk_alloc ?_ _)); exact BK755.out) k_ hk) _ (Nat.le_refl _)) (Below.refl _ _) (Nat.le_refl _) (by simp) ?_; (case hd => rfl); (case hg => rfl); (case hr => first | (go_simp; done) | (go_simp; rfl)); (case hp => exact (Reps.c6 (show Kd.FK k87 _ _ (⟨0, (⟨([] : List (S32)), ([] : List (S27)), 1, (⟨1, 0⟩ : S25)⟩ : S53)⟩ : S87) [.int .i64 0, .slice none 0 0, .slice none 0 0, .int .i64 1, .int .u64 1, .int .i64 0] from (k87_mkF _ _ (⟨0, (⟨([] : List (S32)), ([] : List (S27)), 1, (⟨1, 0⟩ : S25)⟩ : S53)⟩ : S87) (Nat.le_refl _) (Kd.F_nil _ _ _) (Nat.le_refl _) (Kd.F_nil _ _ _))) (Reps.c6 (show Kd.FK k87 _ _ (⟨1, (⟨([] : List (S32)), y756, 2, (⟨2, 0⟩ : S25)⟩ : S53)⟩ : S87) [.int .i64 1, .slice none 0 0, .slice Ao28 y756.length co28, .int .i64 2, .int .u64 2, .int .i64 0] from (k87_mkF _ _ (⟨1, (⟨([] : List (S32)), y756, 2, (⟨2, 0⟩ : S25)⟩ : S53)⟩ : S87) (Nat.le_refl _) (Kd.F_nil _ _ _) (Kd.R_reads' (Kd.R_mono (ok' := (fun k_ => k_ ≠ gb755)) (HO758.out) (fun k_ hk => hk.2))).2.1 (Kd.R_F (Kd.R_mono (ok' := (fun k_ => k_ ≠ gb755)) (HO758.out) (fun k_ hk => hk.2))))) (Reps.none _ _)))); intro v760 w29 ho30 hb hg_ hnew_; clear hg_ hnew_; (first | rw [← Ny759.out] at ho30 | (simp only [Int.reduceToNat] at ho30; rw [← Ny759.out] at ho30)); have n0_ := Aside0.mk (Kd.N_lower ho30 (below_size zb_)); have n1_ := zk_ BK755 hb; have n2_ := Aside0.mk (below_step zb_ hb); clear BK755; clear HB; clear HO758; have HO761 := n0_; have BK755 := n1_; have HB := n2_; clear n0_ n1_ n2_; clear hb ho30; obtain ⟨Ao31, co31, eo31⟩ := Kd.N_slice HO761.out; subst eo31))
   have n0_ := Aside0.mk (Kd.N_drew HO761.out)
   have n1_ := Aside0.mk (blk_drew BK755.out)
   have n2_ := Aside0.mk (below_drew1 HB.out)
   clear HO761
   clear BK755
   clear HB
   have HO761 := n0_
   have BK755 := n1_
   have HB := n2_
   clear n0_ n1_ n2_
   refine start_ (n := 16) (S := fun w' => w'.cell? ⟨gb755, 0, none⟩ = some (.int .u64 1) ∧ w'.cell? ⟨gb755, 1, none⟩ = some (.int .i64 0) ∧ w'.cell? ⟨gb755, 2, none⟩ = some (.int .u64 1) ∧ w'.cell? ⟨gb755, 3, none⟩ = some (.int .i64 0)) (ds := []) #[F_,F_,F_,F_,F_,F_,F_,F_,F_,F_,F_,F_,F_,F_,F_,F_] (by kernel_rfl) rfl rfl ⟨(blk_cell BK755.out 0).trans rfl, (blk_cell BK755.out 1).trans rfl, (blk_cell BK755.out 2).trans rfl, (blk_cell BK755.out 3).trans rfl⟩ (fun hHeld => ?_); refine with_tabW folkmootlaw16_awake.tab3 folkmootlaw16_awake.bits3 (fun HT_ HW_ => ?_)
   generalize w29.drew = w32 at HO761 BK755 HB hHeld ⊢
   refine pure_ (i := 0) (N := some 14) (v := ?_) (a' := ?_) #[T_,F_,F_,F_,F_,F_,F_,F_,F_,F_,F_,F_,F_,F_,F_,F_] rfl rfl (any_of HT_.out (by kernel_rfl)) (fun _ _ _ h => h) (Or.inl ⟨by rfl, ?_⟩) ?_ ?_
   rotate_left
   ·
    intro w'; go_simp; with_reducible rfl
   rotate_left
   ·
    exact zp_
   refine take_ (i := 2) (N := some 16) (v := ?_) (a' := ?_) #[T_,F_,T_,F_,F_,F_,F_,F_,F_,F_,F_,F_,F_,F_,F_,F_] rfl rfl (take_ofW HT_.out HW_.out (by kernel_rfl)) (fun _ _ _ h => h) (Or.inl ⟨by rfl, ?_⟩) hHeld ?_ ?_
   rotate_left
   ·
    rintro w' ⟨s0, s1, s2, s3⟩
    go_simp
    with_reducible rfl
   rotate_left
   ·
    exact zp_
   refine join_ (σ := Value × Value) 12 #[T_,T_,T_,T_,F_,F_,F_,F_,F_,F_,F_,F_,F_,F_,F_,F_] (fun s_ => [(15, s_.1), (17, s_.2)]) (fun s_ w' => (w'.cell? ⟨gb755, 0, none⟩ = some (.int .u64 1) ∧ w'.cell? ⟨gb755, 1, none⟩ = some (.int .i64 0) ∧ w'.cell? ⟨gb755, 2, none⟩ = some (.int .u64 1) ∧ w'.cell? ⟨gb755, 3, none⟩ = some (.int .i64 0)) ∧ (Kd.N k87 87 w' w.heap.size (fun k_ => some k_ ≠ (s_.1 : Value).ownBlock ∧ some k_ ≠ (s_.2 : Value).ownBlock ∧ k_ ≠ gb755) (.slice Ao31 y759.length co31) y759) ∧ (Kd.R k27 27 w' w.heap.size (fun k_ => some k_ ≠ (s_.2 : Value).ownBlock ∧ k_ ≠ gb755) s_.1 t762) ∧ (Kd.R k27 27 w' w.heap.size (fun k_ => some k_ ≠ (s_.1 : Value).ownBlock ∧ k_ ≠ gb755) s_.2 y765) ∧ (w'.heap[gb755]? = some (.cells #[.int .u64 1, .int .i64 0, .int .u64 1, .int .i64 0] 27 (0, 0))) ∧ (Below w.heap.size w w')) ?_ ?_
   rotate_left
   ·
    intro hCont
    refine two_ (i := 1) (j := 3) (Ni := some 15) (Nj := some 17) #[T_,T_,T_,F_,F_,F_,F_,F_,F_,F_,F_,F_,F_,F_,F_,F_] #[T_,F_,T_,T_,F_,F_,F_,F_,F_,F_,F_,F_,F_,F_,F_,F_] rfl rfl rfl rfl (two_of HT_.out (by kernel_rfl)) (by decide) (by decide) (fun K hK => ?_) (fun K hK => ?_)
    ·
     skip
     refine goes_ Try.func62 (by kernel_rfl) rfl #[.slice Ao31 y759.length co31] (by rfl) rfl rfl za_ ?_
     with_reducible refine (exchange_Short.calls k _ _ y759 t762 _ ?side1 ?side2 A1.out).mono ?_
     (case side1 => exact zd_ (Kd.N_reads' HO761.out).2.2)
     (case side2 => exact (Kd.N_reads' HO761.out).2.1)
     rintro e w33 ⟨v763, rfl, ho0, hb⟩
     refine ⟨_, rfl, ?_⟩
     have n0_ := Aside0.mk (Kd.N_elder' (zn_ HO761) (Kd.R_base ho0) hb)
     have n1_ := Aside0.mk (Kd.R_lower (Kd.R_newB ho0 (g := gb755) (o := .cells #[.int .u64 1, .int .i64 0, .int .u64 1, .int .i64 0] 27 (0, 0)) (by (with_reducible repeat (first | refine blk_drewN ?_ _ | refine blk_drew ?_ | refine blk_alloc ?_ _)); exact BK755.out)) (below_size zb_))
     have n2_ := zk_ BK755 hb
     have n3_ := Aside0.mk (below_step zb_ hb)
     clear HO761
     clear BK755
     clear HB
     have HO761 := n0_
     have HO764 := n1_
     have BK755 := n2_
     have HB := n3_
     clear n0_ n1_ n2_ n3_
     (try clear hb)
     (try clear hb2)
     (try clear hk)
     (try clear hi)
     (try clear ho0)
     refine hK.out _ _ ⟨(blk_cell BK755.out 0).trans rfl, (blk_cell BK755.out 1).trans rfl, (blk_cell BK755.out 2).trans rfl, (blk_cell BK755.out 3).trans rfl⟩ (fun hHeld => ?_)
     clear hK K
     refine norm_ (a' := ?_) ?_ ?_
     rotate_left
     ·
      show Act.put _ (some 15) _ = _
      simp only [Act.put, List.setIfInBounds_toArray, List.set_cons_zero, List.set_cons_succ, i64_w, i32_w]
      rfl
     refine one_ (i := 3) (N := some 17) #[T_,T_,T_,T_,F_,F_,F_,F_,F_,F_,F_,F_,F_,F_,F_,F_] rfl rfl (one_of HT_.out (by kernel_rfl)) (by decide) (fun K hK => ?_)
     refine Kd.R_lit_step k27 _ 27 ?hg (N := 17) ?hd (xs := ([(⟨(⟨1, 0⟩ : S25), 1, 0⟩ : S27)] : List (S27))) (inner := [.int .u64 1, .int .i64 0, .int .u64 1, .int .i64 0]) (ok := fun _ => True) (okp := fun _ => True) ?hr ?hp (fun _ hk => hk) trivial (Below.refl _ _) (Nat.le_refl _) (by simp) ?_; (case hd => rfl); (case hg => rfl); (case hr => first | (go_simp; done) | (go_simp; rfl)); (case hp => exact (Reps.c4 (show Kd.M k27 _ _ _ (⟨(⟨1, 0⟩ : S25), 1, 0⟩ : S27) [.int .u64 1, .int .i64 0, .int .u64 1, .int .i64 0] from (k27_mkM _ _ _ (⟨(⟨1, 0⟩ : S25), 1, 0⟩ : S27) )) (Reps.none _ _)))
     intro v766 w34 ho35 hb hg_ hnew_
     clear hg_ hnew_
     (first | rw [← Ny765.out] at ho35 | (simp only [Int.reduceToNat] at ho35; rw [← Ny765.out] at ho35))
     have n0_ := Aside0.mk (Kd.N_elder' (zn_ HO761) (Kd.R_base ho35) hb)
     have n1_ := Aside0.mk (Kd.R_elder' (zr_ HO764) (Kd.R_base ho35) hb)
     have n2_ := Aside0.mk (Kd.R_lower (Kd.R_newB (Kd.R_new' ho35 (Kd.R_lt (zr_ HO764))) (g := gb755) (o := .cells #[.int .u64 1, .int .i64 0, .int .u64 1, .int .i64 0] 27 (0, 0)) (by (with_reducible repeat (first | refine blk_drewN ?_ _ | refine blk_drew ?_ | refine blk_alloc ?_ _)); exact BK755.out)) (below_size zb_))
     have n3_ := zk_ BK755 hb
     have n4_ := Aside0.mk (below_step zb_ hb)
     clear HO761
     clear HO764
     clear BK755
     clear HB
     have HO761 := n0_
     have HO764 := n1_
     have HO767 := n2_
     have BK755 := n3_
     have HB := n4_
     clear n0_ n1_ n2_ n3_ n4_
     clear hb ho35
     refine hK.out _ _ ⟨(blk_cell BK755.out 0).trans rfl, (blk_cell BK755.out 1).trans rfl, (blk_cell BK755.out 2).trans rfl, (blk_cell BK755.out 3).trans rfl⟩ (fun hHeld => ?_)
     clear hK K
     refine norm_ (a' := ?_) ?_ ?_
     rotate_left
     ·
      show Act.put _ (some 17) _ = _
      simp only [Act.put, List.setIfInBounds_toArray, List.set_cons_zero, List.set_cons_succ, i64_w, i32_w]
      rfl
     exact norm_ (by simp only [putAll, Act.put, List.setIfInBounds_toArray, List.set_cons_zero, List.set_cons_succ]) (hCont (v763, v766) _ ⟨hHeld, (by (with_reducible repeat (first | apply Kd.N_alloc | apply Kd.N_drewN | apply Kd.N_drew)); exact Kd.N_mono HO761.out (fun _ hk => ⟨hk.1.2, ⟨hk.2, hk.1.1⟩⟩)), (by (with_reducible repeat (first | apply Kd.R_alloc | apply Kd.R_drewN | apply Kd.R_drew)); exact Kd.R_mono HO764.out (fun _ hk => ⟨hk.2, hk.1.2⟩)), (by (with_reducible repeat (first | apply Kd.R_alloc | apply Kd.R_drewN | apply Kd.R_drew)); exact Kd.R_mono HO767.out (fun _ hk => ⟨hk.1.2, hk.2⟩)), (by (with_reducible repeat (first | refine blk_drewN ?_ _ | refine blk_drew ?_ | refine blk_alloc ?_ _)); exact BK755.out), zb_⟩)
    ·
     skip
     refine Kd.R_lit_step k27 _ 27 ?hg (N := 17) ?hd (xs := ([(⟨(⟨1, 0⟩ : S25), 1, 0⟩ : S27)] : List (S27))) (inner := [.int .u64 1, .int .i64 0, .int .u64 1, .int .i64 0]) (ok := fun _ => True) (okp := fun _ => True) ?hr ?hp (fun _ hk => hk) trivial (Below.refl _ _) (Nat.le_refl _) (by simp) ?_; (case hd => rfl); (case hg => rfl); (case hr => first | (go_simp; done) | (go_simp; rfl)); (case hp => exact (Reps.c4 (show Kd.M k27 _ _ _ (⟨(⟨1, 0⟩ : S25), 1, 0⟩ : S27) [.int .u64 1, .int .i64 0, .int .u64 1, .int .i64 0] from (k27_mkM _ _ _ (⟨(⟨1, 0⟩ : S25), 1, 0⟩ : S27) )) (Reps.none _ _)))
     intro v766 w33 ho34 hb hg_ hnew_
     clear hg_ hnew_
     (first | rw [← Ny765.out] at ho34 | (simp only [Int.reduceToNat] at ho34; rw [← Ny765.out] at ho34))
     have n0_ := Aside0.mk (Kd.N_elder' (zn_ HO761) (Kd.R_base ho34) hb)
     have n1_ := Aside0.mk (Kd.R_lower (Kd.R_newB ho34 (g := gb755) (o := .cells #[.int .u64 1, .int .i64 0, .int .u64 1, .int .i64 0] 27 (0, 0)) (by (with_reducible repeat (first | refine blk_drewN ?_ _ | refine blk_drew ?_ | refine blk_alloc ?_ _)); exact BK755.out)) (below_size zb_))
     have n2_ := zk_ BK755 hb
     have n3_ := Aside0.mk (below_step zb_ hb)
     clear HO761
     clear BK755
     clear HB
     have HO761 := n0_
     have HO767 := n1_
     have BK755 := n2_
     have HB := n3_
     clear n0_ n1_ n2_ n3_
     clear hb ho34
     refine hK.out _ _ ⟨(blk_cell BK755.out 0).trans rfl, (blk_cell BK755.out 1).trans rfl, (blk_cell BK755.out 2).trans rfl, (blk_cell BK755.out 3).trans rfl⟩ (fun hHeld => ?_)
     clear hK K
     refine norm_ (a' := ?_) ?_ ?_
     rotate_left
     ·
      show Act.put _ (some 17) _ = _
      simp only [Act.put, List.setIfInBounds_toArray, List.set_cons_zero, List.set_cons_succ, i64_w, i32_w]
      rfl
     refine one_ (i := 1) (N := some 15) #[T_,T_,T_,T_,F_,F_,F_,F_,F_,F_,F_,F_,F_,F_,F_,F_] rfl rfl (one_of HT_.out (by kernel_rfl)) (by decide) (fun K hK => ?_)
     refine goes_ Try.func62 (by kernel_rfl) rfl #[.slice Ao31 y759.length co31] (by rfl) rfl rfl za_ ?_
     with_reducible refine (exchange_Short.calls k _ _ y759 t762 _ ?side1 ?side2 A1.out).mono ?_
     (case side1 => exact zd_ (Kd.N_reads' HO761.out).2.2)
     (case side2 => exact (Kd.N_reads' HO761.out).2.1)
     rintro e w35 ⟨v763, rfl, ho0, hb⟩
     refine ⟨_, rfl, ?_⟩
     have n0_ := Aside0.mk (Kd.N_elder' (zn_ HO761) (Kd.R_base ho0) hb)
     have n1_ := Aside0.mk (Kd.R_elder' (zr_ HO767) (Kd.R_base ho0) hb)
     have n2_ := Aside0.mk (Kd.R_lower (Kd.R_newB (Kd.R_new' ho0 (Kd.R_lt (zr_ HO767))) (g := gb755) (o := .cells #[.int .u64 1, .int .i64 0, .int .u64 1, .int .i64 0] 27 (0, 0)) (by (with_reducible repeat (first | refine blk_drewN ?_ _ | refine blk_drew ?_ | refine blk_alloc ?_ _)); exact BK755.out)) (below_size zb_))
     have n3_ := zk_ BK755 hb
     have n4_ := Aside0.mk (below_step zb_ hb)
     clear HO761
     clear HO767
     clear BK755
     clear HB
     have HO761 := n0_
     have HO767 := n1_
     have HO764 := n2_
     have BK755 := n3_
     have HB := n4_
     clear n0_ n1_ n2_ n3_ n4_
     (try clear hb)
     (try clear hb2)
     (try clear hk)
     (try clear hi)
     (try clear ho0)
     refine hK.out _ _ ⟨(blk_cell BK755.out 0).trans rfl, (blk_cell BK755.out 1).trans rfl, (blk_cell BK755.out 2).trans rfl, (blk_cell BK755.out 3).trans rfl⟩ (fun hHeld => ?_)
     clear hK K
     refine norm_ (a' := ?_) ?_ ?_
     rotate_left
     ·
      show Act.put _ (some 15) _ = _
      simp only [Act.put, List.setIfInBounds_toArray, List.set_cons_zero, List.set_cons_succ, i64_w, i32_w]
      rfl
     exact norm_ (by simp only [putAll, Act.put, List.setIfInBounds_toArray, List.set_cons_zero, List.set_cons_succ]) (hCont (v763, v766) _ ⟨hHeld, (by (with_reducible repeat (first | apply Kd.N_alloc | apply Kd.N_drewN | apply Kd.N_drew)); exact Kd.N_mono HO761.out (fun _ hk => ⟨hk.2, ⟨hk.1.2, hk.1.1⟩⟩)), (by (with_reducible repeat (first | apply Kd.R_alloc | apply Kd.R_drewN | apply Kd.R_drew)); exact Kd.R_mono HO764.out (fun _ hk => ⟨hk.1.2, hk.2⟩)), (by (with_reducible repeat (first | apply Kd.R_alloc | apply Kd.R_drewN | apply Kd.R_drew)); exact Kd.R_mono HO767.out (fun _ hk => ⟨hk.2, hk.1.2⟩)), (by (with_reducible repeat (first | refine blk_drewN ?_ _ | refine blk_drew ?_ | refine blk_alloc ?_ _)); exact BK755.out), zb_⟩)
   rintro ⟨v763, v766⟩ w36 ⟨hS_, h0_, h1_, h2_, h3_, h4_⟩
   have n0_ : Aside0 (Kd.N k87 87 w36 w.heap.size (fun k_ => some k_ ≠ (v763 : Value).ownBlock ∧ some k_ ≠ (v766 : Value).ownBlock ∧ k_ ≠ gb755) (.slice Ao31 y759.length co31) y759) := ⟨h0_⟩
   have n1_ : Aside0 (Kd.R k27 27 w36 w.heap.size (fun k_ => some k_ ≠ (v766 : Value).ownBlock ∧ k_ ≠ gb755) v763 t762) := ⟨h1_⟩
   have n2_ : Aside0 (Kd.R k27 27 w36 w.heap.size (fun k_ => some k_ ≠ (v763 : Value).ownBlock ∧ k_ ≠ gb755) v766 y765) := ⟨h2_⟩
   have n3_ : Aside0 (w36.heap[gb755]? = some (.cells #[.int .u64 1, .int .i64 0, .int .u64 1, .int .i64 0] 27 (0, 0))) := ⟨h3_⟩
   have n4_ : Aside0 (Below w.heap.size w w36) := ⟨h4_⟩
   clear HO761
   clear BK755
   clear HB
   clear h0_ h1_ h2_ h3_ h4_
   have HO761 := n0_
   have HO764 := n1_
   have HO767 := n2_
   have BK755 := n3_
   have HB := n4_
   clear n0_ n1_ n2_ n3_ n4_
   have hHeld : w36.cell? ⟨gb755, 0, none⟩ = some (.int .u64 1) ∧ w36.cell? ⟨gb755, 1, none⟩ = some (.int .i64 0) ∧ w36.cell? ⟨gb755, 2, none⟩ = some (.int .u64 1) ∧ w36.cell? ⟨gb755, 3, none⟩ = some (.int .i64 0) := hS_
   obtain ⟨Ao37, co37, eo37⟩ := Kd.R_slice HO764.out
   (first | subst eo37 | (injection eo37 with f1_ f2_ f3_; have f4_ := f1_.symm; have f5_ := f3_.symm; clear f1_ f2_ f3_; subst f4_; subst f5_))
   obtain ⟨Ao38, co38, eo38⟩ := Kd.R_slice HO767.out
   (first | subst eo38 | (injection eo38 with f1_ f2_ f3_; have f4_ := f1_.symm; have f5_ := f3_.symm; clear f1_ f2_ f3_; subst f4_; subst f5_))
   refine norm_ (a' := ?_) ?_ ?_
   rotate_left
   ·
    simp only [putAll, Act.put, List.setIfInBounds_toArray, List.set_cons_zero, List.set_cons_succ]
    rfl
   refine one_ (i := 4) (N := some 18) #[T_,T_,T_,T_,T_,F_,F_,F_,F_,F_,F_,F_,F_,F_,F_,F_] rfl rfl (one_of HT_.out (by kernel_rfl)) (by decide) (fun K hK => ?_)
   refine goes_ Try.func30 (by kernel_rfl) rfl #[.slice Ao37 t762.length co37, .slice Ao38 y765.length co38] (by rfl) rfl rfl za_ ?_
   with_reducible refine (folkmootref05_Same.calls k _ _ t762 _ _ y765 true _ ?side1 ?side2 ?side3 ?side4 A2.out).mono ?_
   (case side1 => exact zd_ (Kd.R_reads' HO764.out).2.2)
   (case side2 => exact (Kd.R_reads' HO764.out).2.1)
   (case side3 => exact zd_ (Kd.R_reads' HO767.out).2.2)
   (case side4 => exact (Kd.R_reads' HO767.out).2.1)
   rintro e w' ⟨rfl, ⟨nd, rfl⟩⟩
   refine ⟨_, rfl, ?_⟩
   refine hK.out _ _ ⟨(blk_cell BK755.out 0).trans rfl, (blk_cell BK755.out 1).trans rfl, (blk_cell BK755.out 2).trans rfl, (blk_cell BK755.out 3).trans rfl⟩ (fun hHeld => ?_)
   clear hK K
   refine norm_ (a' := ?_) ?_ ?_
   rotate_left
   ·
    show Act.put _ (some 18) _ = _
    simp only [Act.put, List.setIfInBounds_toArray, List.set_cons_zero, List.set_cons_succ, i64_w, i32_w]
    rfl
   refine pure_ (i := 5) (N := some 19) (v := ?_) (a' := ?_) #[T_,T_,T_,T_,T_,T_,F_,F_,F_,F_,F_,F_,F_,F_,F_,F_] rfl rfl (any_of HT_.out (by kernel_rfl)) (fun _ _ _ h => h) (Or.inl ⟨by rfl, ?_⟩) ?_ ?_
   rotate_left
   ·
    intro w'; go_simp; with_reducible rfl
   rotate_left
   ·
    exact zp_
   refine pure_ (i := 6) (N := some 20) (v := ?_) (a' := ?_) #[T_,T_,T_,T_,T_,T_,T_,F_,F_,F_,F_,F_,F_,F_,F_,F_] rfl rfl (any_of HT_.out (by kernel_rfl)) (fun _ _ _ h => h) (Or.inl ⟨by rfl, ?_⟩) ?_ ?_
   rotate_left
   ·
    intro w'; go_simp; with_reducible rfl
   rotate_left
   ·
    exact zp_
   refine one_ (i := 7) (N := some 21) #[T_,T_,T_,T_,T_,T_,T_,T_,F_,F_,F_,F_,F_,F_,F_,F_] rfl rfl (one_of HT_.out (by kernel_rfl)) (by decide) (fun K hK => ?_)
   refine goes_ Try.func61 (by kernel_rfl) rfl #[.slice Ao31 y759.length co31] (by rfl) rfl rfl za_ ?_
   with_reducible refine (exchange_Chosen.calls k _ _ y759 t769 _ ?side1 ?side2 A4.out).mono ?_
   (case side1 => exact zd_ (Kd.N_reads' HO761.out).2.2)
   (case side2 => exact (Kd.N_reads' HO761.out).2.1)
   rintro e w39 ⟨rfl, hb⟩
   refine ⟨_, rfl, ?_⟩
   have n0_ := Aside0.mk (Kd.N_below (zn_ HO761) hb)
   have n1_ := Aside0.mk (Kd.R_below (zr_ HO764) hb)
   have n2_ := Aside0.mk (Kd.R_below (zr_ HO767) hb)
   have n3_ := zk_ BK755 hb
   have n4_ := Aside0.mk (below_step zb_ hb)
   clear HO761
   clear HO764
   clear HO767
   clear BK755
   clear HB
   have HO761 := n0_
   have HO764 := n1_
   have HO767 := n2_
   have BK755 := n3_
   have HB := n4_
   clear n0_ n1_ n2_ n3_ n4_
   (try clear hb)
   (try clear hb2)
   (try clear hk)
   (try clear hi)
   refine hK.out _ _ ⟨(blk_cell BK755.out 0).trans rfl, (blk_cell BK755.out 1).trans rfl, (blk_cell BK755.out 2).trans rfl, (blk_cell BK755.out 3).trans rfl⟩ (fun hHeld => ?_)
   clear hK K
   refine norm_ (a' := ?_) ?_ ?_
   rotate_left
   ·
    show Act.put _ (some 21) _ = _
    simp only [Act.put, List.setIfInBounds_toArray, List.set_cons_zero, List.set_cons_succ, i64_w, i32_w]
    rfl
   refine pure_ (i := 8) (N := some 22) (v := ?_) (a' := ?_) #[T_,T_,T_,T_,T_,T_,T_,T_,T_,F_,F_,F_,F_,F_,F_,F_] rfl rfl (any_of HT_.out (by kernel_rfl)) (fun _ _ _ h => h) (Or.inl ⟨by rfl, ?_⟩) ?_ ?_
   rotate_left
   ·
    intro w'; go_simp; with_reducible rfl
   rotate_left
   ·
    exact zp_
   refine pure_ (i := 9) (N := some 23) (v := ?_) (a' := ?_) #[T_,T_,T_,T_,T_,T_,T_,T_,T_,T_,F_,F_,F_,F_,F_,F_] rfl rfl (any_of HT_.out (by kernel_rfl)) (fun _ _ _ h => h) (Or.inl ⟨by rfl, ?_⟩) ?_ ?_
   rotate_left
   ·
    intro w'; go_simp; with_reducible rfl
   rotate_left
   ·
    exact zp_
   refine pure_ (i := 10) (N := some 24) (v := ?_) (a' := ?_) #[T_,T_,T_,T_,T_,T_,T_,T_,T_,T_,T_,F_,F_,F_,F_,F_] rfl rfl (any_of HT_.out (by kernel_rfl)) (fun _ _ _ h => h) (Or.inl ⟨by rfl, ?_⟩) ?_ ?_
   rotate_left
   ·
    intro w'; go_simp; with_reducible rfl
   rotate_left
   ·
    exact zp_
   refine pure_ (i := 11) (N := some 25) (v := undef) (a' := ?_) #[T_,T_,T_,T_,T_,T_,T_,T_,T_,T_,T_,T_,F_,F_,F_,F_] rfl rfl (any_of HT_.out (by kernel_rfl)) (fun _ _ _ h => h) (Or.inr ⟨by rfl, rfl⟩) ?_ ?_
   rotate_left
   ·
    exact zp_
   refine pure_ (i := 12) (N := some 26) (v := undef) (a' := ?_) #[T_,T_,T_,T_,T_,T_,T_,T_,T_,T_,T_,T_,T_,F_,F_,F_] rfl rfl (any_of HT_.out (by kernel_rfl)) (fun _ _ _ h => h) (Or.inr ⟨by rfl, rfl⟩) ?_ ?_
   rotate_left
   ·
    exact zp_
   refine pure_ (i := 13) (N := some 27) (v := undef) (a' := ?_) #[T_,T_,T_,T_,T_,T_,T_,T_,T_,T_,T_,T_,T_,T_,F_,F_] rfl rfl (any_of HT_.out (by kernel_rfl)) (fun _ _ _ h => h) (Or.inr ⟨by rfl, rfl⟩) ?_ ?_
   rotate_left
   ·
    exact zp_
   refine pure_ (i := 14) (N := some 28) (v := ?_) (a' := ?_) #[T_,T_,T_,T_,T_,T_,T_,T_,T_,T_,T_,T_,T_,T_,T_,F_] rfl rfl (any_of HT_.out (by kernel_rfl)) (fun _ _ _ h => h) (Or.inl ⟨by rfl, ?_⟩) ?_ ?_
   rotate_left
   ·
    intro w'; go_simp; with_reducible rfl
   rotate_left
   ·
    exact zp_
   refine pure_ (i := 15) (N := some 0) (v := ?_) (a' := ?_) #[T_,T_,T_,T_,T_,T_,T_,T_,T_,T_,T_,T_,T_,T_,T_,T_] rfl rfl (any_of HT_.out (by kernel_rfl)) (fun _ _ _ h => h) (Or.inl ⟨by rfl, ?_⟩) ?_ ?_
   rotate_left
   ·
    intro w'; go_simp; with_reducible rfl
   rotate_left
   ·
    exact zp_
   refine done_ (done_of HT_.out (by kernel_rfl)) ?_
   (try clear hHeld); (try clear HS0_)
   try go_wp2
   go_ret
   exact ⟨by first | rfl | (simp [errW_none, errW_some] <;> rfl) | (simp [*, errW_none, errW_some] <;> rfl), by repeat (first | (with_reducible first | exact HB.out | apply below_alloc | apply pw_below_drewN | apply below_drew1 | refine below_set ?_ GE755.out) | exact HB.out)⟩
 ·
  replace c3 := Bool.eq_false_iff.mpr c3
  subst c3
  have H1 : (some false) = some r := by rw [if_neg (show ¬ (false = true) by decide)] at H; exact H
  clear H
  have H := H1
  clear H1
  obtain rfl := Option.some.inj H
  go_enter Try.func55, Try.ntmps55
  try go_wp2_with (first | ((with_reducible refine gate_dst (N := 1) rfl ?_); refine box_event ?hg (N := 1) ?hd (cs := #[.int .u64 0, .int .i64 0, .int .u64 0, .int .i64 0]) (t := 27) ?hr ?_; (case hd => rfl); (case hg => rfl); (case hr => first | (go_simp; done) | (go_simp; rfl)); intro gb755 hg w40 hbox hb; have n0_ := Aside0.mk (below_step zb_ hb); have n1_ := Aside0.mk (hbox); have n2_ := Aside0.mk ((by rw [hg]; exact (below_size zb_) : w.heap.size ≤ gb755)); have n3_ := Aside0.mk ((by rw [hg]; exact (below_size zb_) : w.heap.size ≤ gb755)); clear HB; have HB := n0_; have BK755 := n1_; have GW755 := n2_; have GE755 := n3_; clear n0_ n1_ n2_ n3_; clear hb hbox hg; have hcz41_0 : w40.cell? ⟨gb755, 0, none⟩ = some (.int .u64 0) := (blk_cell BK755.out 0).trans rfl; have hcz41_1 : w40.cell? ⟨gb755, 1, none⟩ = some (.int .i64 0) := (blk_cell BK755.out 1).trans rfl; have hcz41_2 : w40.cell? ⟨gb755, 2, none⟩ = some (.int .u64 0) := (blk_cell BK755.out 2).trans rfl; have hcz41_3 : w40.cell? ⟨gb755, 3, none⟩ = some (.int .i64 0) := (blk_cell BK755.out 3).trans rfl; have hfz41_0 := blk_frozen BK755.out 0; have hfz41_1 := blk_frozen BK755.out 1; have hfz41_2 := blk_frozen BK755.out 2; have hfz41_3 := blk_frozen BK755.out 3) | ((with_reducible refine gate_dst (N := 10) rfl ?_); refine Kd.R_lit k27 _ 27 ?hg (N := 10) ?hd (xs := ([(⟨(⟨1, 0⟩ : S25), 1, 0⟩ : S27)] : List (S27))) (inner := [.int .u64 1, .int .i64 0, .int .u64 1, .int .i64 0]) (ok := fun _ => True) (okp := fun _ => True) ?hr ?hp (fun _ hk => hk) trivial (Below.refl _ _) (Nat.le_refl _) (by simp) ?_; (case hd => rfl); (case hg => rfl); (case hr => first | (go_simp; done) | (go_simp; rfl)); (case hp => exact (Reps.c4 (show Kd.M k27 _ _ _ (⟨(⟨1, 0⟩ : S25), 1, 0⟩ : S27) [.int .u64 1, .int .i64 0, .int .u64 1, .int .i64 0] from (k27_mkM _ _ _ (⟨(⟨1, 0⟩ : S25), 1, 0⟩ : S27) )) (Reps.none _ _))); intro v757 w42 ho43 hb hg_ hnew_; clear hg_ hnew_; (first | rw [← Ny756.out] at ho43 | (simp only [Int.reduceToNat] at ho43; rw [← Ny756.out] at ho43)); have n0_ := Aside0.mk (Kd.R_lower (Kd.R_newB ho43 (g := gb755) (o := .cells #[.int .u64 1, .int .i64 0, .int .u64 1, .int .i64 0] 27 (0, 0)) (by (with_reducible repeat (first | refine blk_drewN ?_ _ | refine blk_drew ?_ | refine blk_alloc ?_ _)); refine blk_put (cs := #[.int .u64 1, .int .i64 0, .int .u64 1, .int .i64 0]) ?_ 3 _ rfl; (with_reducible repeat (first | refine blk_drewN ?_ _ | refine blk_drew ?_ | refine blk_alloc ?_ _)); refine blk_put (cs := #[.int .u64 1, .int .i64 0, .int .u64 0, .int .i64 0]) ?_ 2 _ rfl; (with_reducible repeat (first | refine blk_drewN ?_ _ | refine blk_drew ?_ | refine blk_alloc ?_ _)); refine blk_put (cs := #[.int .u64 1, .int .i64 0, .int .u64 0, .int .i64 0]) ?_ 1 _ rfl; (with_reducible repeat (first | refine blk_drewN ?_ _ | refine blk_drew ?_ | refine blk_alloc ?_ _)); refine blk_put (cs := #[.int .u64 0, .int .i64 0, .int .u64 0, .int .i64 0]) ?_ 0 _ rfl; (with_reducible repeat (first | refine blk_drewN ?_ _ | refine blk_drew ?_ | refine blk_alloc ?_ _)); exact BK755.out)) (below_size zb_)); have n1_ := Aside0.mk (blk_below (g := gb755) (o := .cells #[.int .u64 1, .int .i64 0, .int .u64 1, .int .i64 0] 27 (0, 0)) (by (with_reducible repeat (first | refine blk_drewN ?_ _ | refine blk_drew ?_ | refine blk_alloc ?_ _)); refine blk_put (cs := #[.int .u64 1, .int .i64 0, .int .u64 1, .int .i64 0]) ?_ 3 _ rfl; (with_reducible repeat (first | refine blk_drewN ?_ _ | refine blk_drew ?_ | refine blk_alloc ?_ _)); refine blk_put (cs := #[.int .u64 1, .int .i64 0, .int .u64 0, .int .i64 0]) ?_ 2 _ rfl; (with_reducible repeat (first | refine blk_drewN ?_ _ | refine blk_drew ?_ | refine blk_alloc ?_ _)); refine blk_put (cs := #[.int .u64 1, .int .i64 0, .int .u64 0, .int .i64 0]) ?_ 1 _ rfl; (with_reducible repeat (first | refine blk_drewN ?_ _ | refine blk_drew ?_ | refine blk_alloc ?_ _)); refine blk_put (cs := #[.int .u64 0, .int .i64 0, .int .u64 0, .int .i64 0]) ?_ 0 _ rfl; (with_reducible repeat (first | refine blk_drewN ?_ _ | refine blk_drew ?_ | refine blk_alloc ?_ _)); exact BK755.out) hb); have n2_ := Aside0.mk (below_step zb_ hb); clear BK755; clear HB; have HO758 := n0_; have BK755 := n1_; have HB := n2_; clear n0_ n1_ n2_; clear hb ho43; obtain ⟨Ao44, co44, eo44⟩ := Kd.R_slice HO758.out; subst eo44) | ((with_reducible refine gate_dst (N := 13) rfl ?_); refine Kd.N_lit k87 _ 87 ?hg (N' := 13) ?hd (xs := ([(⟨0, (⟨([] : List (S32)), ([] : List (S27)), 1, (⟨1, 0⟩ : S25)⟩ : S53)⟩ : S87), (⟨1, (⟨([] : List (S32)), y756, 2, (⟨2, 0⟩ : S25)⟩ : S53)⟩ : S87)] : List (S87))) (inner := [.int .i64 0, .slice none 0 0, .slice none 0 0, .int .i64 1, .int .u64 1, .int .i64 0, .int .i64 1, .slice none 0 0, .slice Ao44 y756.length co44, .int .i64 2, .int .u64 2, .int .i64 0]) (ok := (fun k_ => k_ ≠ gb755)) (okp := (fun k_ => k_ ≠ gb755)) ?hr ?hp (fun _ hk => hk) ((show ∀ k_, w42.heap.size ≤ k_ → (fun k_ => k_ ≠ gb755) k_ from fun k_ hk => Kd.freshB (g := gb755) (o := .cells #[.int .u64 1, .int .i64 0, .int .u64 1, .int .i64 0] 27 (0, 0)) (by (with_reducible repeat (first | refine blk_drewN ?_ _ | refine blk_drew ?_ | refine blk_alloc ?_ _)); exact BK755.out) k_ hk) _ (Nat.le_refl _)) (Below.refl _ _) (Nat.le_refl _) (by simp) ?_; (case hd => rfl); (case hg => rfl); (case hr => first | (go_simp; done) | (go_simp; rfl)); (case hp => exact (Reps.c6 (show Kd.FK k87 _ _ (⟨0, (⟨([] : List (S32)), ([] : List (S27)), 1, (⟨1, 0⟩ : S25)⟩ : S53)⟩ : S87) [.int .i64 0, .slice none 0 0, .slice none 0 0, .int .i64 1, .int .u64 1, .int .i64 0] from (k87_mkF _ _ (⟨0, (⟨([] : List (S32)), ([] : List (S27)), 1, (⟨1, 0⟩ : S25)⟩ : S53)⟩ : S87) (Nat.le_refl _) (Kd.F_nil _ _ _) (Nat.le_refl _) (Kd.F_nil _ _ _))) (Reps.c6 (show Kd.FK k87 _ _ (⟨1, (⟨([] : List (S32)), y756, 2, (⟨2, 0⟩ : S25)⟩ : S53)⟩ : S87) [.int .i64 1, .slice none 0 0, .slice Ao44 y756.length co44, .int .i64 2, .int .u64 2, .int .i64 0] from (k87_mkF _ _ (⟨1, (⟨([] : List (S32)), y756, 2, (⟨2, 0⟩ : S25)⟩ : S53)⟩ : S87) (Nat.le_refl _) (Kd.F_nil _ _ _) (Kd.R_reads' (Kd.R_mono (ok' := (fun k_ => k_ ≠ gb755)) (HO758.out) (fun k_ hk => hk.2))).2.1 (Kd.R_F (Kd.R_mono (ok' := (fun k_ => k_ ≠ gb755)) (HO758.out) (fun k_ hk => hk.2))))) (Reps.none _ _)))); intro v760 w45 ho46 hb hg_ hnew_; clear hg_ hnew_; (first | rw [← Ny759.out] at ho46 | (simp only [Int.reduceToNat] at ho46; rw [← Ny759.out] at ho46)); have n0_ := Aside0.mk (Kd.N_lower ho46 (below_size zb_)); have n1_ := zk_ BK755 hb; have n2_ := Aside0.mk (below_step zb_ hb); clear BK755; clear HB; clear HO758; have HO761 := n0_; have BK755 := n1_; have HB := n2_; clear n0_ n1_ n2_; clear hb ho46; obtain ⟨Ao47, co47, eo47⟩ := Kd.N_slice HO761.out; subst eo47))
  have n0_ := Aside0.mk (Kd.N_drew HO761.out)
  have n1_ := Aside0.mk (blk_drew BK755.out)
  have n2_ := Aside0.mk (below_drew1 HB.out)
  clear HO761
  clear BK755
  clear HB
  have HO761 := n0_
  have BK755 := n1_
  have HB := n2_
  clear n0_ n1_ n2_
  refine start_ (n := 16) (S := fun w' => w'.cell? ⟨gb755, 0, none⟩ = some (.int .u64 1) ∧ w'.cell? ⟨gb755, 1, none⟩ = some (.int .i64 0) ∧ w'.cell? ⟨gb755, 2, none⟩ = some (.int .u64 1) ∧ w'.cell? ⟨gb755, 3, none⟩ = some (.int .i64 0)) (ds := []) #[F_,F_,F_,F_,F_,F_,F_,F_,F_,F_,F_,F_,F_,F_,F_,F_] (by kernel_rfl) rfl rfl ⟨(blk_cell BK755.out 0).trans rfl, (blk_cell BK755.out 1).trans rfl, (blk_cell BK755.out 2).trans rfl, (blk_cell BK755.out 3).trans rfl⟩ (fun hHeld => ?_); refine with_tabW folkmootlaw16_awake.tab3 folkmootlaw16_awake.bits3 (fun HT_ HW_ => ?_)
  generalize w45.drew = w48 at HO761 BK755 HB hHeld ⊢
  refine pure_ (i := 0) (N := some 14) (v := ?_) (a' := ?_) #[T_,F_,F_,F_,F_,F_,F_,F_,F_,F_,F_,F_,F_,F_,F_,F_] rfl rfl (any_of HT_.out (by kernel_rfl)) (fun _ _ _ h => h) (Or.inl ⟨by rfl, ?_⟩) ?_ ?_
  rotate_left
  ·
   intro w'; go_simp; with_reducible rfl
  rotate_left
  ·
   exact zp_
  refine take_ (i := 2) (N := some 16) (v := ?_) (a' := ?_) #[T_,F_,T_,F_,F_,F_,F_,F_,F_,F_,F_,F_,F_,F_,F_,F_] rfl rfl (take_ofW HT_.out HW_.out (by kernel_rfl)) (fun _ _ _ h => h) (Or.inl ⟨by rfl, ?_⟩) hHeld ?_ ?_
  rotate_left
  ·
   rintro w' ⟨s0, s1, s2, s3⟩
   go_simp
   with_reducible rfl
  rotate_left
  ·
   exact zp_
  refine join_ (σ := Value × Value) 12 #[T_,T_,T_,T_,F_,F_,F_,F_,F_,F_,F_,F_,F_,F_,F_,F_] (fun s_ => [(15, s_.1), (17, s_.2)]) (fun s_ w' => (w'.cell? ⟨gb755, 0, none⟩ = some (.int .u64 1) ∧ w'.cell? ⟨gb755, 1, none⟩ = some (.int .i64 0) ∧ w'.cell? ⟨gb755, 2, none⟩ = some (.int .u64 1) ∧ w'.cell? ⟨gb755, 3, none⟩ = some (.int .i64 0)) ∧ (Kd.N k87 87 w' w.heap.size (fun k_ => some k_ ≠ (s_.1 : Value).ownBlock ∧ some k_ ≠ (s_.2 : Value).ownBlock ∧ k_ ≠ gb755) (.slice Ao47 y759.length co47) y759) ∧ (Kd.R k27 27 w' w.heap.size (fun k_ => some k_ ≠ (s_.2 : Value).ownBlock ∧ k_ ≠ gb755) s_.1 t762) ∧ (Kd.R k27 27 w' w.heap.size (fun k_ => some k_ ≠ (s_.1 : Value).ownBlock ∧ k_ ≠ gb755) s_.2 y765) ∧ (w'.heap[gb755]? = some (.cells #[.int .u64 1, .int .i64 0, .int .u64 1, .int .i64 0] 27 (0, 0))) ∧ (Below w.heap.size w w')) ?_ ?_
  rotate_left
  ·
   intro hCont
   refine two_ (i := 1) (j := 3) (Ni := some 15) (Nj := some 17) #[T_,T_,T_,F_,F_,F_,F_,F_,F_,F_,F_,F_,F_,F_,F_,F_] #[T_,F_,T_,T_,F_,F_,F_,F_,F_,F_,F_,F_,F_,F_,F_,F_] rfl rfl rfl rfl (two_of HT_.out (by kernel_rfl)) (by decide) (by decide) (fun K hK => ?_) (fun K hK => ?_)
   ·
    skip
    refine goes_ Try.func62 (by kernel_rfl) rfl #[.slice Ao47 y759.length co47] (by rfl) rfl rfl za_ ?_
    with_reducible refine (exchange_Short.calls k _ _ y759 t762 _ ?side1 ?side2 A1.out).mono ?_
    (case side1 => exact zd_ (Kd.N_reads' HO761.out).2.2)
    (case side2 => exact (Kd.N_reads' HO761.out).2.1)
    rintro e w49 ⟨v763, rfl, ho0, hb⟩
    refine ⟨_, rfl, ?_⟩
    have n0_ := Aside0.mk (Kd.N_elder' (zn_ HO761) (Kd.R_base ho0) hb)
    have n1_ := Aside0.mk (Kd.R_lower (Kd.R_newB ho0 (g := gb755) (o := .cells #[.int .u64 1, .int .i64 0, .int .u64 1, .int .i64 0] 27 (0, 0)) (by (with_reducible repeat (first | refine blk_drewN ?_ _ | refine blk_drew ?_ | refine blk_alloc ?_ _)); exact BK755.out)) (below_size zb_))
    have n2_ := zk_ BK755 hb
    have n3_ := Aside0.mk (below_step zb_ hb)
    clear HO761
    clear BK755
    clear HB
    have HO761 := n0_
    have HO764 := n1_
    have BK755 := n2_
    have HB := n3_
    clear n0_ n1_ n2_ n3_
    (try clear hb)
    (try clear hb2)
    (try clear hk)
    (try clear hi)
    (try clear ho0)
    refine hK.out _ _ ⟨(blk_cell BK755.out 0).trans rfl, (blk_cell BK755.out 1).trans rfl, (blk_cell BK755.out 2).trans rfl, (blk_cell BK755.out 3).trans rfl⟩ (fun hHeld => ?_)
    clear hK K
    refine norm_ (a' := ?_) ?_ ?_
    rotate_left
    ·
     show Act.put _ (some 15) _ = _
     simp only [Act.put, List.setIfInBounds_toArray, List.set_cons_zero, List.set_cons_succ, i64_w, i32_w]
     rfl
    refine one_ (i := 3) (N := some 17) #[T_,T_,T_,T_,F_,F_,F_,F_,F_,F_,F_,F_,F_,F_,F_,F_] rfl rfl (one_of HT_.out (by kernel_rfl)) (by decide) (fun K hK => ?_)
    refine Kd.R_lit_step k27 _ 27 ?hg (N := 17) ?hd (xs := ([(⟨(⟨1, 0⟩ : S25), 1, 0⟩ : S27)] : List (S27))) (inner := [.int .u64 1, .int .i64 0, .int .u64 1, .int .i64 0]) (ok := fun _ => True) (okp := fun _ => True) ?hr ?hp (fun _ hk => hk) trivial (Below.refl _ _) (Nat.le_refl _) (by simp) ?_; (case hd => rfl); (case hg => rfl); (case hr => first | (go_simp; done) | (go_simp; rfl)); (case hp => exact (Reps.c4 (show Kd.M k27 _ _ _ (⟨(⟨1, 0⟩ : S25), 1, 0⟩ : S27) [.int .u64 1, .int .i64 0, .int .u64 1, .int .i64 0] from (k27_mkM _ _ _ (⟨(⟨1, 0⟩ : S25), 1, 0⟩ : S27) )) (Reps.none _ _)))
    intro v766 w50 ho51 hb hg_ hnew_
    clear hg_ hnew_
    (first | rw [← Ny765.out] at ho51 | (simp only [Int.reduceToNat] at ho51; rw [← Ny765.out] at ho51))
    have n0_ := Aside0.mk (Kd.N_elder' (zn_ HO761) (Kd.R_base ho51) hb)
    have n1_ := Aside0.mk (Kd.R_elder' (zr_ HO764) (Kd.R_base ho51) hb)
    have n2_ := Aside0.mk (Kd.R_lower (Kd.R_newB (Kd.R_new' ho51 (Kd.R_lt (zr_ HO764))) (g := gb755) (o := .cells #[.int .u64 1, .int .i64 0, .int .u64 1, .int .i64 0] 27 (0, 0)) (by (with_reducible repeat (first | refine blk_drewN ?_ _ | refine blk_drew ?_ | refine blk_alloc ?_ _)); exact BK755.out)) (below_size zb_))
    have n3_ := zk_ BK755 hb
    have n4_ := Aside0.mk (below_step zb_ hb)
    clear HO761
    clear HO764
    clear BK755
    clear HB
    have HO761 := n0_
    have HO764 := n1_
    have HO767 := n2_
    have BK755 := n3_
    have HB := n4_
    clear n0_ n1_ n2_ n3_ n4_
    clear hb ho51
    refine hK.out _ _ ⟨(blk_cell BK755.out 0).trans rfl, (blk_cell BK755.out 1).trans rfl, (blk_cell BK755.out 2).trans rfl, (blk_cell BK755.out 3).trans rfl⟩ (fun hHeld => ?_)
    clear hK K
    refine norm_ (a' := ?_) ?_ ?_
    rotate_left
    ·
     show Act.put _ (some 17) _ = _
     simp only [Act.put, List.setIfInBounds_toArray, List.set_cons_zero, List.set_cons_succ, i64_w, i32_w]
     rfl
    exact norm_ (by simp only [putAll, Act.put, List.setIfInBounds_toArray, List.set_cons_zero, List.set_cons_succ]) (hCont (v763, v766) _ ⟨hHeld, (by (with_reducible repeat (first | apply Kd.N_alloc | apply Kd.N_drewN | apply Kd.N_drew)); exact Kd.N_mono HO761.out (fun _ hk => ⟨hk.1.2, ⟨hk.2, hk.1.1⟩⟩)), (by (with_reducible repeat (first | apply Kd.R_alloc | apply Kd.R_drewN | apply Kd.R_drew)); exact Kd.R_mono HO764.out (fun _ hk => ⟨hk.2, hk.1.2⟩)), (by (with_reducible repeat (first | apply Kd.R_alloc | apply Kd.R_drewN | apply Kd.R_drew)); exact Kd.R_mono HO767.out (fun _ hk => ⟨hk.1.2, hk.2⟩)), (by (with_reducible repeat (first | refine blk_drewN ?_ _ | refine blk_drew ?_ | refine blk_alloc ?_ _)); exact BK755.out), zb_⟩)
   ·
    skip
    refine Kd.R_lit_step k27 _ 27 ?hg (N := 17) ?hd (xs := ([(⟨(⟨1, 0⟩ : S25), 1, 0⟩ : S27)] : List (S27))) (inner := [.int .u64 1, .int .i64 0, .int .u64 1, .int .i64 0]) (ok := fun _ => True) (okp := fun _ => True) ?hr ?hp (fun _ hk => hk) trivial (Below.refl _ _) (Nat.le_refl _) (by simp) ?_; (case hd => rfl); (case hg => rfl); (case hr => first | (go_simp; done) | (go_simp; rfl)); (case hp => exact (Reps.c4 (show Kd.M k27 _ _ _ (⟨(⟨1, 0⟩ : S25), 1, 0⟩ : S27) [.int .u64 1, .int .i64 0, .int .u64 1, .int .i64 0] from (k27_mkM _ _ _ (⟨(⟨1, 0⟩ : S25), 1, 0⟩ : S27) )) (Reps.none _ _)))
    intro v766 w49 ho50 hb hg_ hnew_
    clear hg_ hnew_
    (first | rw [← Ny765.out] at ho50 | (simp only [Int.reduceToNat] at ho50; rw [← Ny765.out] at ho50))
    have n0_ := Aside0.mk (Kd.N_elder' (zn_ HO761) (Kd.R_base ho50) hb)
    have n1_ := Aside0.mk (Kd.R_lower (Kd.R_newB ho50 (g := gb755) (o := .cells #[.int .u64 1, .int .i64 0, .int .u64 1, .int .i64 0] 27 (0, 0)) (by (with_reducible repeat (first | refine blk_drewN ?_ _ | refine blk_drew ?_ | refine blk_alloc ?_ _)); exact BK755.out)) (below_size zb_))
    have n2_ := zk_ BK755 hb
    have n3_ := Aside0.mk (below_step zb_ hb)
    clear HO761
    clear BK755
    clear HB
    have HO761 := n0_
    have HO767 := n1_
    have BK755 := n2_
    have HB := n3_
    clear n0_ n1_ n2_ n3_
    clear hb ho50
    refine hK.out _ _ ⟨(blk_cell BK755.out 0).trans rfl, (blk_cell BK755.out 1).trans rfl, (blk_cell BK755.out 2).trans rfl, (blk_cell BK755.out 3).trans rfl⟩ (fun hHeld => ?_)
    clear hK K
    refine norm_ (a' := ?_) ?_ ?_
    rotate_left
    ·
     show Act.put _ (some 17) _ = _
     simp only [Act.put, List.setIfInBounds_toArray, List.set_cons_zero, List.set_cons_succ, i64_w, i32_w]
     rfl
    refine one_ (i := 1) (N := some 15) #[T_,T_,T_,T_,F_,F_,F_,F_,F_,F_,F_,F_,F_,F_,F_,F_] rfl rfl (one_of HT_.out (by kernel_rfl)) (by decide) (fun K hK => ?_)
    refine goes_ Try.func62 (by kernel_rfl) rfl #[.slice Ao47 y759.length co47] (by rfl) rfl rfl za_ ?_
    with_reducible refine (exchange_Short.calls k _ _ y759 t762 _ ?side1 ?side2 A1.out).mono ?_
    (case side1 => exact zd_ (Kd.N_reads' HO761.out).2.2)
    (case side2 => exact (Kd.N_reads' HO761.out).2.1)
    rintro e w51 ⟨v763, rfl, ho0, hb⟩
    refine ⟨_, rfl, ?_⟩
    have n0_ := Aside0.mk (Kd.N_elder' (zn_ HO761) (Kd.R_base ho0) hb)
    have n1_ := Aside0.mk (Kd.R_elder' (zr_ HO767) (Kd.R_base ho0) hb)
    have n2_ := Aside0.mk (Kd.R_lower (Kd.R_newB (Kd.R_new' ho0 (Kd.R_lt (zr_ HO767))) (g := gb755) (o := .cells #[.int .u64 1, .int .i64 0, .int .u64 1, .int .i64 0] 27 (0, 0)) (by (with_reducible repeat (first | refine blk_drewN ?_ _ | refine blk_drew ?_ | refine blk_alloc ?_ _)); exact BK755.out)) (below_size zb_))
    have n3_ := zk_ BK755 hb
    have n4_ := Aside0.mk (below_step zb_ hb)
    clear HO761
    clear HO767
    clear BK755
    clear HB
    have HO761 := n0_
    have HO767 := n1_
    have HO764 := n2_
    have BK755 := n3_
    have HB := n4_
    clear n0_ n1_ n2_ n3_ n4_
    (try clear hb)
    (try clear hb2)
    (try clear hk)
    (try clear hi)
    (try clear ho0)
    refine hK.out _ _ ⟨(blk_cell BK755.out 0).trans rfl, (blk_cell BK755.out 1).trans rfl, (blk_cell BK755.out 2).trans rfl, (blk_cell BK755.out 3).trans rfl⟩ (fun hHeld => ?_)
    clear hK K
    refine norm_ (a' := ?_) ?_ ?_
    rotate_left
    ·
     show Act.put _ (some 15) _ = _
     simp only [Act.put, List.setIfInBounds_toArray, List.set_cons_zero, List.set_cons_succ, i64_w, i32_w]
     rfl
    exact norm_ (by simp only [putAll, Act.put, List.setIfInBounds_toArray, List.set_cons_zero, List.set_cons_succ]) (hCont (v763, v766) _ ⟨hHeld, (by (with_reducible repeat (first | apply Kd.N_alloc | apply Kd.N_drewN | apply Kd.N_drew)); exact Kd.N_mono HO761.out (fun _ hk => ⟨hk.2, ⟨hk.1.2, hk.1.1⟩⟩)), (by (with_reducible repeat (first | apply Kd.R_alloc | apply Kd.R_drewN | apply Kd.R_drew)); exact Kd.R_mono HO764.out (fun _ hk => ⟨hk.1.2, hk.2⟩)), (by (with_reducible repeat (first | apply Kd.R_alloc | apply Kd.R_drewN | apply Kd.R_drew)); exact Kd.R_mono HO767.out (fun _ hk => ⟨hk.2, hk.1.2⟩)), (by (with_reducible repeat (first | refine blk_drewN ?_ _ | refine blk_drew ?_ | refine blk_alloc ?_ _)); exact BK755.out), zb_⟩)
  rintro ⟨v763, v766⟩ w52 ⟨hS_, h0_, h1_, h2_, h3_, h4_⟩
  have n0_ : Aside0 (Kd.N k87 87 w52 w.heap.size (fun k_ => some k_ ≠ (v763 : Value).ownBlock ∧ some k_ ≠ (v766 : Value).ownBlock ∧ k_ ≠ gb755) (.slice Ao47 y759.length co47) y759) := ⟨h0_⟩
  have n1_ : Aside0 (Kd.R k27 27 w52 w.heap.size (fun k_ => some k_ ≠ (v766 : Value).ownBlock ∧ k_ ≠ gb755) v763 t762) := ⟨h1_⟩
  have n2_ : Aside0 (Kd.R k27 27 w52 w.heap.size (fun k_ => some k_ ≠ (v763 : Value).ownBlock ∧ k_ ≠ gb755) v766 y765) := ⟨h2_⟩
  have n3_ : Aside0 (w52.heap[gb755]? = some (.cells #[.int .u64 1, .int .i64 0, .int .u64 1, .int .i64 0] 27 (0, 0))) := ⟨h3_⟩
  have n4_ : Aside0 (Below w.heap.size w w52) := ⟨h4_⟩
  clear HO761
  clear BK755
  clear HB
  clear h0_ h1_ h2_ h3_ h4_
  have HO761 := n0_
  have HO764 := n1_
  have HO767 := n2_
  have BK755 := n3_
  have HB := n4_
  clear n0_ n1_ n2_ n3_ n4_
  have hHeld : w52.cell? ⟨gb755, 0, none⟩ = some (.int .u64 1) ∧ w52.cell? ⟨gb755, 1, none⟩ = some (.int .i64 0) ∧ w52.cell? ⟨gb755, 2, none⟩ = some (.int .u64 1) ∧ w52.cell? ⟨gb755, 3, none⟩ = some (.int .i64 0) := hS_
  obtain ⟨Ao53, co53, eo53⟩ := Kd.R_slice HO764.out
  (first | subst eo53 | (injection eo53 with f1_ f2_ f3_; have f4_ := f1_.symm; have f5_ := f3_.symm; clear f1_ f2_ f3_; subst f4_; subst f5_))
  obtain ⟨Ao54, co54, eo54⟩ := Kd.R_slice HO767.out
  (first | subst eo54 | (injection eo54 with f1_ f2_ f3_; have f4_ := f1_.symm; have f5_ := f3_.symm; clear f1_ f2_ f3_; subst f4_; subst f5_))
  refine norm_ (a' := ?_) ?_ ?_
  rotate_left
  ·
   simp only [putAll, Act.put, List.setIfInBounds_toArray, List.set_cons_zero, List.set_cons_succ]
   rfl
  refine one_ (i := 4) (N := some 18) #[T_,T_,T_,T_,T_,F_,F_,F_,F_,F_,F_,F_,F_,F_,F_,F_] rfl rfl (one_of HT_.out (by kernel_rfl)) (by decide) (fun K hK => ?_)
  refine goes_ Try.func30 (by kernel_rfl) rfl #[.slice Ao53 t762.length co53, .slice Ao54 y765.length co54] (by rfl) rfl rfl za_ ?_
  with_reducible refine (folkmootref05_Same.calls k _ _ t762 _ _ y765 false _ ?side1 ?side2 ?side3 ?side4 A2.out).mono ?_
  (case side1 => exact zd_ (Kd.R_reads' HO764.out).2.2)
  (case side2 => exact (Kd.R_reads' HO764.out).2.1)
  (case side3 => exact zd_ (Kd.R_reads' HO767.out).2.2)
  (case side4 => exact (Kd.R_reads' HO767.out).2.1)
  rintro e w' ⟨rfl, ⟨nd, rfl⟩⟩
  refine ⟨_, rfl, ?_⟩
  refine hK.out _ _ ⟨(blk_cell BK755.out 0).trans rfl, (blk_cell BK755.out 1).trans rfl, (blk_cell BK755.out 2).trans rfl, (blk_cell BK755.out 3).trans rfl⟩ (fun hHeld => ?_)
  clear hK K
  refine norm_ (a' := ?_) ?_ ?_
  rotate_left
  ·
   show Act.put _ (some 18) _ = _
   simp only [Act.put, List.setIfInBounds_toArray, List.set_cons_zero, List.set_cons_succ, i64_w, i32_w]
   rfl
  refine pure_ (i := 5) (N := some 19) (v := ?_) (a' := ?_) #[T_,T_,T_,T_,T_,T_,F_,F_,F_,F_,F_,F_,F_,F_,F_,F_] rfl rfl (any_of HT_.out (by kernel_rfl)) (fun _ _ _ h => h) (Or.inl ⟨by rfl, ?_⟩) ?_ ?_
  rotate_left
  ·
   intro w'; go_simp; with_reducible rfl
  rotate_left
  ·
   exact zp_
  refine pure_ (i := 6) (N := some 20) (v := undef) (a' := ?_) #[T_,T_,T_,T_,T_,T_,T_,F_,F_,F_,F_,F_,F_,F_,F_,F_] rfl rfl (any_of HT_.out (by kernel_rfl)) (fun _ _ _ h => h) (Or.inr ⟨by rfl, rfl⟩) ?_ ?_
  rotate_left
  ·
   exact zp_
  refine pure_ (i := 7) (N := some 21) (v := undef) (a' := ?_) #[T_,T_,T_,T_,T_,T_,T_,T_,F_,F_,F_,F_,F_,F_,F_,F_] rfl rfl (any_of HT_.out (by kernel_rfl)) (fun _ _ _ h => h) (Or.inr ⟨by rfl, rfl⟩) ?_ ?_
  rotate_left
  ·
   exact zp_
  refine pure_ (i := 8) (N := some 22) (v := undef) (a' := ?_) #[T_,T_,T_,T_,T_,T_,T_,T_,T_,F_,F_,F_,F_,F_,F_,F_] rfl rfl (any_of HT_.out (by kernel_rfl)) (fun _ _ _ h => h) (Or.inr ⟨by rfl, rfl⟩) ?_ ?_
  rotate_left
  ·
   exact zp_
  refine pure_ (i := 9) (N := some 23) (v := ?_) (a' := ?_) #[T_,T_,T_,T_,T_,T_,T_,T_,T_,T_,F_,F_,F_,F_,F_,F_] rfl rfl (any_of HT_.out (by kernel_rfl)) (fun _ _ _ h => h) (Or.inl ⟨by rfl, ?_⟩) ?_ ?_
  rotate_left
  ·
   intro w'; go_simp; with_reducible rfl
  rotate_left
  ·
   exact zp_
  refine pure_ (i := 10) (N := some 24) (v := ?_) (a' := ?_) #[T_,T_,T_,T_,T_,T_,T_,T_,T_,T_,T_,F_,F_,F_,F_,F_] rfl rfl (any_of HT_.out (by kernel_rfl)) (fun _ _ _ h => h) (Or.inl ⟨by rfl, ?_⟩) ?_ ?_
  rotate_left
  ·
   intro w'; go_simp; with_reducible rfl
  rotate_left
  ·
   exact zp_
  refine pure_ (i := 11) (N := some 25) (v := undef) (a' := ?_) #[T_,T_,T_,T_,T_,T_,T_,T_,T_,T_,T_,T_,F_,F_,F_,F_] rfl rfl (any_of HT_.out (by kernel_rfl)) (fun _ _ _ h => h) (Or.inr ⟨by rfl, rfl⟩) ?_ ?_
  rotate_left
  ·
   exact zp_
  refine pure_ (i := 12) (N := some 26) (v := undef) (a' := ?_) #[T_,T_,T_,T_,T_,T_,T_,T_,T_,T_,T_,T_,T_,F_,F_,F_] rfl rfl (any_of HT_.out (by kernel_rfl)) (fun _ _ _ h => h) (Or.inr ⟨by rfl, rfl⟩) ?_ ?_
  rotate_left
  ·
   exact zp_
  refine pure_ (i := 13) (N := some 27) (v := undef) (a' := ?_) #[T_,T_,T_,T_,T_,T_,T_,T_,T_,T_,T_,T_,T_,T_,F_,F_] rfl rfl (any_of HT_.out (by kernel_rfl)) (fun _ _ _ h => h) (Or.inr ⟨by rfl, rfl⟩) ?_ ?_
  rotate_left
  ·
   exact zp_
  refine pure_ (i := 14) (N := some 28) (v := ?_) (a' := ?_) #[T_,T_,T_,T_,T_,T_,T_,T_,T_,T_,T_,T_,T_,T_,T_,F_] rfl rfl (any_of HT_.out (by kernel_rfl)) (fun _ _ _ h => h) (Or.inl ⟨by rfl, ?_⟩) ?_ ?_
  rotate_left
  ·
   intro w'; go_simp; with_reducible rfl
  rotate_left
  ·
   exact zp_
  refine pure_ (i := 15) (N := some 0) (v := ?_) (a' := ?_) #[T_,T_,T_,T_,T_,T_,T_,T_,T_,T_,T_,T_,T_,T_,T_,T_] rfl rfl (any_of HT_.out (by kernel_rfl)) (fun _ _ _ h => h) (Or.inl ⟨by rfl, ?_⟩) ?_ ?_
  rotate_left
  ·
   intro w'; go_simp; with_reducible rfl
  rotate_left
  ·
   exact zp_
  refine done_ (done_of HT_.out (by kernel_rfl)) ?_
  (try clear hHeld); (try clear HS0_)
  try go_wp2
  go_ret
  exact ⟨by first | rfl | (simp [errW_none, errW_some] <;> rfl) | (simp [*, errW_none, errW_some] <;> rfl), by repeat (first | (with_reducible first | exact HB.out | apply below_alloc | apply pw_below_drewN | apply below_drew1 | refine below_set ?_ GE755.out) | exact HB.out)⟩
end Go.Proofs.Ytioooiflpabngaa.PAll
end
section
namespace Go.Proofs.Ytioooiflpabngaa.PAll
open Go.RowKit Go.Proofs.YtioooiflpabngaaW.PrintWords Go.Proofs.YtioooiflpabngaaW.PrintMore
set_option linter.unusedVariables false
set_option linter.unusedSimpArgs false
def sumM (s : S53) : S53 := ⟨mergeR [] s.f0, s.f1, s.f2, s.f3⟩
def tellK (l : List S53) (k : Nat) : S87 := ⟨(k : Int), sumM (l.getD k z53)⟩
def toldT (l : List S53) (a : Nat) : List S87 := (List.range' 0 l.length).map fun i => tellK l ((i + a) % l.length)
theorem told_loop (l : List S53) (a : Nat) (ha : a ≤ 255) (hn : l.length ≤ 16) (hc : ∀ s ∈ l, s.f0.length ≤ 150) : ∀ (d i : Nat) (A : List S87), d = l.length - i → i ≤ l.length → A.length = i →
    Ev (fun k => folkmootlaw16_told.l0 k l (a : Int) A (A.map (·.f0)) (A.map (·.f1)) (i : Int)) (A ++ (List.range' i d).map (fun i => tellK l ((i + a) % l.length)), (A ++ (List.range' i d).map (fun i => tellK l ((i + a) % l.length))).map (·.f0), (A ++ (List.range' i d).map (fun i => tellK l ((i + a) % l.length))).map (·.f1)) := by
  intro d
  induction d with
  | zero =>
    intro i A hd hi hA
    refine Ev.step (fun k => by rw [folkmootlaw16_told.l0, if_neg (by omega)]) (Ev.const fun _ => ?_)
    simp
  | succ d ih =>
    intro i A hd hi hA
    have hlt : i < l.length := by omega
    have e1 : wrap64 (a : Int) = (a : Int) := by unfold wrap64; omega
    have e2 : wrap64 ((i : Int) + (a : Int)) = ((i + a : Nat) : Int) := by unfold wrap64; omega
    have e3 : Int.tmod ((i + a : Nat) : Int) (l.length : Int) = (((i + a) % l.length : Nat) : Int) := by
      rw [Int.tmod_eq_emod_of_nonneg (by omega), Int.natCast_emod]
    have hm : (i + a) % l.length < l.length := Nat.mod_lt _ (by omega)
    have e4 : l.getD ((i + a) % l.length) z53 = l[(i + a) % l.length] := by
      rw [List.getD_eq_getElem?_getD, List.getElem?_eq_getElem hm]
      rfl
    have hcm := hc l[(i + a) % l.length] (List.getElem_mem _)
    have e5 : tellK l ((i + a) % l.length) = ⟨(((i + a) % l.length : Nat) : Int), ⟨mergeR [] l[(i + a) % l.length].f0, l[(i + a) % l.length].f1, l[(i + a) % l.length].f2, l[(i + a) % l.length].f3⟩⟩ := by
      unfold tellK sumM
      rw [e4]
    have hrec := ih (i + 1) (A ++ [tellK l ((i + a) % l.length)]) (by omega) (by omega) (by simp; omega)
    rw [List.range'_succ, List.map_cons, show A ++ tellK l ((i + a) % l.length) :: (List.range' (i + 1) d).map (fun i => tellK l ((i + a) % l.length)) = (A ++ [tellK l ((i + a) % l.length)]) ++ (List.range' (i + 1) d).map (fun i => tellK l ((i + a) % l.length)) by simp]
    refine Ev.step (b := fun k => (folkmootref15_Merge.f k [] l[(i + a) % l.length].f0).bind fun t => if A.length < 1759218604441 then (if (A.map (·.f0)).length < 17592186044416 then (if (A.map (·.f1)).length < 1954687338268 then folkmootlaw16_told.l0 k l (a : Int) (A ++ [⟨(((i + a) % l.length : Nat) : Int), ⟨t, l[(i + a) % l.length].f1, l[(i + a) % l.length].f2, l[(i + a) % l.length].f3⟩⟩]) ((A.map (·.f0)) ++ [(((i + a) % l.length : Nat) : Int)]) ((A.map (·.f1)) ++ [⟨t, l[(i + a) % l.length].f1, l[(i + a) % l.length].f2, l[(i + a) % l.length].f3⟩]) ((i + 1 : Nat) : Int) else none) else none) else none) (fun k => ?_) (Ev.bind (refMerge_ev [] l[(i + a) % l.length].f0 (by simp; omega)) ?_)
    · rw [folkmootlaw16_told.l0, if_pos (by omega), if_neg (by omega), e1, e2, e3, if_pos (by omega), if_pos (by omega), rdS_nat hm, wrap_nat (by omega)]
    · have c1 : A.length < 1759218604441 := by omega
      have c2 : (A.map (·.f0)).length < 17592186044416 := by rw [List.length_map]; omega
      have c3 : (A.map (·.f1)).length < 1954687338268 := by rw [List.length_map]; omega
      simp only [c1, c2, c3, if_true]
      rw [List.map_append, List.map_append, e5] at hrec
      rw [e5]
      exact hrec
theorem told_ev (l : List S53) (a : Nat) (ha : a ≤ 255) (hn : l.length ≤ 16) (hc : ∀ s ∈ l, s.f0.length ≤ 150) : Ev (fun k => folkmootlaw16_told.f k l (a : Int)) (toldT l a, (toldT l a).map (·.f0), (toldT l a).map (·.f1)) := by
  have := told_loop l a ha hn hc l.length 0 [] (by omega) (by omega) rfl
  simpa [folkmootlaw16_told.f, toldT] using this
def total (l : List S53) : Nat := (l.map fun s => s.f0.length + s.f1.length).sum
def fewStep (x : Int) (s : S53) : Int := wrap64 (x + wrap64 ((s.f0.length : Int) + (s.f1.length : Int)))
theorem few_loop (l : List S53) (hl : l.length < 9223372036854775807) : ∀ (d i : Nat) (x : Int), d = l.length - i → i ≤ l.length → Ev (fun k => folkmootlaw16_few.l0 k l x (i : Int)) (if l.length ≤ 16 then decide ((l.drop i).foldl fewStep x ≤ 150) else false) := by
  intro d
  induction d with
  | zero =>
    intro i x hd hi
    have : i = l.length := by omega
    subst this
    refine Ev.step (fun k => by rw [folkmootlaw16_few.l0, if_neg (by omega)]) (Ev.const fun _ => ?_)
    rw [List.drop_length]
    by_cases hc : l.length ≤ 16
    · rw [if_pos hc, if_pos (by omega)]
      rfl
    · rw [if_neg hc, if_neg (by omega)]
  | succ d ih =>
    intro i x hd hi
    have hlt : i < l.length := by omega
    rw [List.drop_eq_getElem_cons hlt, List.foldl_cons]
    refine Ev.step (b := fun k => folkmootlaw16_few.l0 k l (fewStep x l[i]) ((i + 1 : Nat) : Int)) (fun k => ?_) (ih (i + 1) (fewStep x l[i]) (by omega) (by omega))
    rw [folkmootlaw16_few.l0, if_pos (by omega), if_pos (by omega), rdS_nat hlt, wrap_nat (by omega)]
    rfl
theorem few_fold : ∀ (l : List S53) (x : Nat), (∀ s ∈ l, s.f0.length + s.f1.length ≤ 8796093022208) → x + l.length * 8796093022208 < 4611686018427387904 → l.foldl fewStep (x : Int) = ((x + total l : Nat) : Int)
  | [], x, _, _ => by simp [total]
  | s :: l, x, hs, hx => by
    have h1 := hs s (List.mem_cons_self ..)
    simp only [List.length_cons] at hx
    have e : fewStep (x : Int) s = ((x + (s.f0.length + s.f1.length) : Nat) : Int) := by
      unfold fewStep
      have e1 : wrap64 ((s.f0.length : Int) + (s.f1.length : Int)) = ((s.f0.length + s.f1.length : Nat) : Int) := by unfold wrap64; omega
      rw [e1]
      unfold wrap64
      omega
    rw [List.foldl_cons, e, few_fold l _ (fun t ht => hs t (List.mem_cons_of_mem _ ht)) (by omega)]
    simp only [total, List.map_cons, List.sum_cons]
    congr 1
    omega
theorem rightS_size {s : S53} (h : rightS s) : s.f0.length + s.f1.length ≤ 8796093022208 := by
  have h1 := rightEs_len h.1
  have h2 := rightLs_len h.2.1
  omega
theorem summaries_len {l : List S53} (h : l.length * 72 ≤ reachBytes) : l.length < 1954687338269 := by
  have h2 := reachBytes_lt
  have e : (2 : Nat) ^ 47 = 140737488355328 := by decide
  rw [e] at h2
  omega
theorem few_ev (l : List S53) (hlen : l.length < 1954687338269) (h : ∀ x ∈ l, rightS x) : ∃ b, Ev (fun k => folkmootlaw16_few.f k l) b ∧ (b = true → l.length ≤ 16 ∧ total l ≤ 150) := by
  refine ⟨_, by simpa [folkmootlaw16_few.f] using few_loop l (by omega) l.length 0 0 (by omega) (by omega), ?_⟩
  intro hb
  simp only [Bool.and_eq_true, decide_eq_true_eq] at hb
  have := few_fold l 0 (fun s hs => rightS_size (h s hs)) (by omega)
  have e0 : ((0 : Nat) : Int) = 0 := rfl
  rw [e0] at this
  rw [this] at hb
  exact ⟨hb.1, by omega⟩
theorem total_mem : ∀ {l : List S53} {s : S53}, s ∈ l → s.f0.length + s.f1.length ≤ total l
  | x :: l, s, h => by
    simp only [total, List.map_cons, List.sum_cons]
    rcases List.mem_cons.1 h with rfl | h
    · omega
    · have := total_mem h
      simp only [total] at this
      omega
theorem awake16_ev : Ev (fun k => folkmootlaw16_awake.f k) true := Ev.of_mono (fun k => folkmootlaw16_awake.mono k) (K := 12) (by kernel_rfl)
theorem toldT_length (l : List S53) (a : Nat) : (toldT l a).length = l.length := by simp [toldT]
theorem mem_toldT {l : List S53} {a : Nat} {t : S87} : t ∈ toldT l a ↔ ∃ k, k < l.length ∧ t = tellK l k := by
  unfold toldT
  simp only [List.mem_map, List.mem_range'_1, Nat.zero_le, true_and, Nat.zero_add]
  constructor
  · rintro ⟨i, hi, rfl⟩
    exact ⟨_, Nat.mod_lt _ (by omega), rfl⟩
  · rintro ⟨k, hk, rfl⟩
    refine ⟨(k + (l.length - a % l.length)) % l.length, Nat.mod_lt _ (by omega), ?_⟩
    have h1 := Nat.mod_lt a (show l.length > 0 by omega)
    rw [← Nat.add_mod_mod, Nat.mod_add_mod, show k + (l.length - a % l.length) + a % l.length = k + l.length by omega, Nat.add_mod_right, Nat.mod_eq_of_lt hk]
structure Fine (T : List S87) : Prop where
  len : T.length ≤ 17
  node : ∀ t ∈ T, 0 ≤ t.f0
  uniq : ∀ t ∈ T, ∀ u ∈ T, t.f0 = u.f0 → t = u
  con : ∀ t ∈ T, t.f1.f0.length ≤ 150
  ord : ∀ t ∈ T, t.f1.f1.length ≤ 150
  bytes : ∀ t ∈ T, ∀ x ∈ t.f1.f0, x.f1.length < 140737488355328
theorem sizeC_le : ∀ {l : List (List S32)} {b : Nat}, (∀ x ∈ l, x.length ≤ b) → sizeC l ≤ l.length * b
  | [], b, _ => by simp [sizeC]
  | x :: l, b, h => by
    have h1 := h x (List.mem_cons_self ..)
    have h2 := sizeC_le (l := l) (b := b) fun y hy => h y (List.mem_cons_of_mem _ hy)
    simp only [sizeC, List.map_cons, List.sum_cons, List.length_cons] at h2 ⊢
    rw [Nat.add_mul]
    omega
theorem Fine.size {T : List S87} (h : Fine T) : sizeC (T.map fun t => t.f1.f0) ≤ 1000000 := by
  have h1 := sizeC_le (l := T.map fun t => t.f1.f0) (b := 150) fun x hx => by
    obtain ⟨t, ht, rfl⟩ := List.mem_map.1 hx
    exact h.con t ht
  rw [List.length_map] at h1
  have h2 := h.len
  have : T.length * 150 ≤ 17 * 150 := Nat.mul_le_mul_right _ h2
  omega
theorem told_fine {l : List S53} {a : Nat} (h : ∀ x ∈ l, rightS x) (hn : l.length ≤ 16) (ht : total l ≤ 150) : Fine (toldT l a) := by
  have hs : ∀ t ∈ toldT l a, ∃ k, ∃ hk : k < l.length, t = ⟨(k : Int), sumM l[k]⟩ := fun t h => by
    obtain ⟨k, hk, rfl⟩ := mem_toldT.1 h
    refine ⟨k, hk, ?_⟩
    unfold tellK
    rw [List.getD_eq_getElem?_getD, List.getElem?_eq_getElem hk]
    rfl
  refine ⟨by rw [toldT_length]; omega, fun t ht => ?_, fun t ht u hu e => ?_, fun t ht2 => ?_, fun t ht2 => ?_, fun t ht2 x hx => ?_⟩
  · obtain ⟨k, hk, rfl⟩ := hs t ht
    exact Int.natCast_nonneg _
  · obtain ⟨k, hk, rfl⟩ := hs t ht
    obtain ⟨j, hj, rfl⟩ := hs u hu
    have : k = j := by
      have e2 : (k : Int) = (j : Int) := e
      omega
    subst this
    rfl
  · obtain ⟨k, hk, rfl⟩ := hs t ht2
    have h1 := total_mem (List.getElem_mem hk)
    have h2 := mergeR_length l[k].f0 []
    simp only [sumM, List.length_nil] at h2 ⊢
    omega
  · obtain ⟨k, hk, rfl⟩ := hs t ht2
    have h1 := total_mem (List.getElem_mem hk)
    simp only [sumM]
    omega
  · obtain ⟨k, hk, rfl⟩ := hs t ht2
    simp only [sumM] at hx
    rcases mem_mergeR hx with hx | hx
    · cases hx
    · exact rightB_len ((h _ (List.getElem_mem hk)).1.2 x hx).2
theorem con_few {l : List S53} (ht : total l ≤ 150) : ∀ s ∈ l, s.f0.length ≤ 150 := fun s hs => by have := total_mem hs; omega
theorem exch_start {j0 : Nat → Bool → Option Bool} (l : List S53) (hlen : l.length < 1954687338269) (h : ∀ x ∈ l, rightS x) (hT : Ev (fun k => j0 k true) true) (hF : l.length ≤ 16 → total l ≤ 150 → Ev (fun k => j0 k false) true) :
    Ev (fun k => (folkmootlaw16_awake.f k).bind fun t => if t = true then ((folkmootlaw16_few.f k l).bind fun b => j0 k (!b)) else j0 k true) true := by
  obtain ⟨b, hb, hc⟩ := few_ev l hlen h
  refine Ev.bind awake16_ev ?_
  simp only [if_true]
  refine Ev.bind hb ?_
  cases b with
  | true => exact hF (hc rfl).1 (hc rfl).2
  | false => exact hT
theorem Fine.lt {T : List S87} (h : Fine T) : T.length < 9223372036854775807 := by have := h.len; omega
theorem Fine.ord1 {T : List S87} (h : Fine T) : ∀ t ∈ T, t.f1.f1.length ≤ 1000000 := fun t ht => by have := h.ord t ht; omega
theorem Fine.short {T : List S87} (h : Fine T) : Ev (fun k => exchange_Short.f k T) (shortT T) := short_ev T h.lt fun t ht => by have := h.ord t ht; omega
theorem Fine.full {T : List S87} (h : Fine T) : Ev (fun k => exchange_Full.f k T) (fullT T) := full_ev T h.lt h.ord1 h.bytes h.size
theorem Fine.refKnown {T : List S87} (h : Fine T) : Ev (fun k => folkmootref16_Known.f k (T.map (·.f1))) (knownC (T.map fun t => t.f1.f0)) := by
  have e : (T.map (·.f1)).map (fun t => t.f0) = T.map fun t => t.f1.f0 := by rw [List.map_map]; rfl
  have h1 := h.size
  have hk := refKnown_ev (T.map (·.f1)) (by rw [List.length_map]; exact h.lt) (by rw [e]; omega)
  rwa [e] at hk
theorem Fine.shortLen {T : List S87} (h : Fine T) : (shortT T).length ≤ 1000000 := shortT_length T 1000000 h.ord1
theorem Fine.knownLen {T : List S87} (h : Fine T) : (knownC (T.map fun t => t.f1.f0)).length ≤ 1000000 := Nat.le_trans (knownC_length _) h.size
theorem Fine.fullLen {T : List S87} (h : Fine T) : (fullT T).length ≤ 2000000 := by
  have h1 := h.shortLen
  have h2 := h.knownLen
  have h3 := List.length_filter_le (fun x => !memL x (shortT T)) (sortL ((knownC (T.map fun t => t.f1.f0)).map (·.f0)))
  have h4 := sortL_length ((knownC (T.map fun t => t.f1.f0)).map (·.f0))
  rw [List.length_map] at h4
  simp only [fullT, behindL, List.length_append]
  omega
end Go.Proofs.Ytioooiflpabngaa.PAll
end
section
namespace Go.Proofs.Ytioooiflpabngaa.PAll
open Go.RowKit Go.Proofs.YtioooiflpabngaaW.PrintWords Go.Proofs.YtioooiflpabngaaW.PrintLast Go.Proofs.YtioooiflpabngaaW.PrintMore
attribute [local go_sem] max2_int min2_int max_two min_two max_three min_three max_four min_four   -- for this text's walks alone
set_option linter.unusedVariables false
set_option linter.unusedSimpArgs false
mutual
def folkmootlaw16_ExchangeFull.j0 : Nat → List (S53) → Bool → Option (Bool)
 | 0, _, _ => none
 | k + 1, x0, x17 => if x17 = true then ((folkmootlaw16_awake.f k).bind fun t922 => (some t922)) else ((folkmootlaw16_told.f k x0 0).bind fun bt923 => ((exchange_Short.f k bt923.1).bind fun t932 => ((exchange_Full.f k bt923.1).bind fun t935 => ((folkmootref16_Known.f k bt923.2.2).bind fun t938 => (if (t935.length : Int) < (t932.length : Int) then (folkmootlaw16_ExchangeFull.j1 k t932 t935 t938 true) else (if 0 ≤ (t932.length : Int) then (if (t932.length : Int) ≤ (t935.length : Int) then ((folkmootref05_Same.f k (t935.take ((t932.length : Int) : Int).toNat) t932).bind fun t946 => (folkmootlaw16_ExchangeFull.j1 k t932 t935 t938 (!t946))) else (none)) else (none)))))))
def folkmootlaw16_ExchangeFull.j1 : Nat → List (S27) → List (S27) → List (S32) → Bool → Option (Bool)
 | 0, _, _, _, _ => none
 | k + 1, x6, x7, x8, x44 => if x44 = true then (some false) else (folkmootlaw16_ExchangeFull.l0 k x6 x7 x8 0)
def folkmootlaw16_ExchangeFull.l0 : Nat → List (S27) → List (S27) → List (S32) → Int → Option (Bool)
 | 0, _, _, _, _ => none
 | k + 1, x6, x7, x8, x9 => if x9 < (x8.length : Int) then (if 0 ≤ x9 then ((folkmootref05_In.f k x7 ((rd_T32 x8 x9).f0.f0.f0) ((rd_T32 x8 x9).f0.f0.f1) ((rd_T32 x8 x9).f0.f1) ((rd_T32 x8 x9).f0.f2)).bind fun t948 => (if t948 = true then (folkmootlaw16_ExchangeFull.l0 k x6 x7 x8 (wrap64 (x9 + 1))) else (some false))) else (none)) else (folkmootlaw16_ExchangeFull.l1 k x6 x7 (x6.length : Int))
def folkmootlaw16_ExchangeFull.l1 : Nat → List (S27) → List (S27) → Int → Option (Bool)
 | 0, _, _, _ => none
 | k + 1, x6, x7, x10 => if x10 < (x7.length : Int) then (if 0 ≤ x10 then (if x10 ≤ (x7.length : Int) then ((folkmootref05_In.f k (x7.take (x10 : Int).toNat) ((rd_T27 x7 x10).f0.f0) ((rd_T27 x7 x10).f0.f1) ((rd_T27 x7 x10).f1) ((rd_T27 x7 x10).f2)).bind fun t955 => (if t955 = true then (some false) else (if x10 > (x6.length : Int) then (if 0 ≤ (wrap64 (x10 - 1)) then (if (wrap64 (x10 - 1)) < (x7.length : Int) then ((folkmootref05_Less.f k ((rd_T27 x7 (wrap64 (x10 - 1))).f0.f0) ((rd_T27 x7 (wrap64 (x10 - 1))).f0.f1) ((rd_T27 x7 (wrap64 (x10 - 1))).f1) ((rd_T27 x7 (wrap64 (x10 - 1))).f2) ((rd_T27 x7 x10).f0.f0) ((rd_T27 x7 x10).f0.f1) ((rd_T27 x7 x10).f1) ((rd_T27 x7 x10).f2)).bind fun t958 => (if t958 = true then (folkmootlaw16_ExchangeFull.l1 k x6 x7 (wrap64 (x10 + 1))) else (some false))) else (none)) else (none)) else (folkmootlaw16_ExchangeFull.l1 k x6 x7 (wrap64 (x10 + 1)))))) else (none)) else (none)) else (some true)
end
def folkmootlaw16_ExchangeFull.f (k : Nat) (l0 : List (S53)) : Option (Bool) := (folkmootlaw16_awake.f k).bind fun t920 => (if t920 = true then ((folkmootlaw16_few.f k l0).bind fun t921 => (folkmootlaw16_ExchangeFull.j0 k l0 (!t921))) else (folkmootlaw16_ExchangeFull.j0 k l0 true))
def folkmootlaw16_ExchangeFull.T17 : Bool × List (List Nat × List Nat) := (true, [([], []), ([], []), ([0, 1], [0, 1]), ([], []), ([], []), ([3, 4], [3, 4]), ([5], [5]), ([2, 6], [2, 6]), ([7, 7], [7]), ([8], [8]), ([8], [8]), ([10, 8], [8, 10]), ([9, 11, 8], [8, 9, 11]), ([12, 8, 8], [8, 12]), ([13], [13]), ([13], [13]), ([15, 13], [13, 15]), ([14, 16, 13], [13, 14, 16]), ([17, 13], [13, 17]), ([13], [13]), ([13], [13]), ([19, 20, 13], [13, 19, 20]), ([21, 13], [13, 21]), ([18, 22, 13, 13], [13, 18, 22]), ([23, 13], [13, 23]), ([13, 24, 8], [8, 13, 24]), ([8, 25], [8, 25])])
def folkmootlaw16_ExchangeFull.B17 : List Nat := [0, 0, 3, 0, 0, 24, 56, 127, 255, 511, 511, 1535, 4095, 8191, 16383, 16383, 49151, 131071, 262143, 16383, 16383, 1589247, 3686399, 8388607, 16777215, 33554431, 67108863]
theorem folkmootlaw16_ExchangeFull.tab17 : rtab .any (opsOf Try.f18 17) = folkmootlaw16_ExchangeFull.T17 := by kernel_rfl
theorem folkmootlaw16_ExchangeFull.bits17 : waitsOk folkmootlaw16_ExchangeFull.T17.2 folkmootlaw16_ExchangeFull.B17 = true := by kernel_rfl
set_option maxHeartbeats 8000000 in
set_option maxRecDepth 100000 in
theorem folkmootlaw16_ExchangeFull.calls (k : Nat) (A0 : Option Addr) (c0 : Nat) (l0 : List (S53)) (r : Bool) (w : World) (hr0 : Kd.C k53 w A0 l0.length l0) (hc0 : l0.length ≤ c0) (h : folkmootlaw16_ExchangeFull.f k l0 = some r) :
  Calls Try.prog 18 #[.slice A0 l0.length c0] w fun e w' => e = .returned (.bool r) ∧ Below w.heap.size w w' := by
 have hu27 := Try.underlying27
 have HR0 := Aside0.mk hr0
 have HC0 := Aside0.mk hc0
 clear hr0 hc0
 have HB := Aside0.mk (Below.refl w.heap.size w)
 have H : ((folkmootlaw16_awake.f k).bind fun t920 => (if t920 = true then ((folkmootlaw16_few.f k l0).bind fun t921 => (folkmootlaw16_ExchangeFull.j0 k l0 (!t921))) else (folkmootlaw16_ExchangeFull.j0 k l0 true))) = some r := h
 clear h
 have HC2 := Aside0.mk H
 clear H
 go_enter Try.func18, Try.ntmps18
 go_upto_region 1 with (fail)
 go_cut [17] (fun v17 wc => ∃ (kq : Nat) (x17_1 : Bool), v17 = .bool x17_1 ∧ Aside0 (folkmootlaw16_ExchangeFull.j0 kq l0 x17_1 = some r) ∧ Aside0 (kq ≤ k) ∧ Aside0 (Below w.heap.size w wc))
 case first =>
  have H := HC2.out
  clear HC2
  replace H := Option.bind_eq_some_iff.mp H
  obtain ⟨t920, A30, H⟩ := H
  replace H : (if t920 = true then ((folkmootlaw16_few.f k l0).bind fun t921 => (folkmootlaw16_ExchangeFull.j0 k l0 (!t921))) else (folkmootlaw16_ExchangeFull.j0 k l0 true)) = some r := H
  have A3 := Aside0.mk A30
  clear A30
  by_cases c4 : t920 = true
  ·
   subst c4
   have H1 : ((folkmootlaw16_few.f k l0).bind fun t921 => (folkmootlaw16_ExchangeFull.j0 k l0 (!t921))) = some r := by rw [if_pos rfl] at H; exact H
   clear H
   have H := H1
   clear H1
   replace H := Option.bind_eq_some_iff.mp H
   obtain ⟨t921, A50, H⟩ := H
   replace H : (folkmootlaw16_ExchangeFull.j0 k l0 (!t921)) = some r := H
   have A5 := Aside0.mk A50
   clear A50
   have H' := Aside0.mk H
   clear H
   go_wp2_with (first | ((with_reducible refine gate_callee (f := 55) rfl ?_); refine goesL_ (some 11) rfl rfl Try.func55 (by kernel_rfl) rfl #[] rfl za_ ?_; (with_reducible refine (folkmootlaw16_awake.calls k  true _ A3.out).mono ?_); rintro e w6 ⟨rfl, hb⟩; refine ⟨_, rfl, ?_⟩; have n0_ := Aside0.mk (below_step zb_ hb); clear HB; have HB := n0_; clear n0_; (try clear hb); (try clear hb2); (try clear hk); (try clear hi)) | (go_at_call 56; (with_reducible refine (folkmootlaw16_few.calls k _ _ l0 t921 _ ?side1 ?side2 A5.out).mono ?_); (case side1 => exact zc_ HR0 HB); (case side2 => exact HC0.out); rintro e w' ⟨rfl, ⟨nd, rfl⟩⟩))
   go_meet
   case rel => exact ⟨_, (!t921), (by first | rfl | (simp; done) | (simp [*]; done)), H', ⟨by first | omega | exact Nat.le_refl _⟩, ⟨by repeat (first | (with_reducible first | exact HB.out | apply below_alloc | apply pw_below_drewN | apply below_drew1) | exact HB.out)⟩⟩
  ·
   replace c4 := Bool.eq_false_iff.mpr c4
   subst c4
   have H1 : (folkmootlaw16_ExchangeFull.j0 k l0 true) = some r := by rw [if_neg (show ¬ (false = true) by decide)] at H; exact H
   clear H
   have H := H1
   clear H1
   have H' := Aside0.mk H
   clear H
   go_wp2_with (first | ((with_reducible refine gate_callee (f := 55) rfl ?_); refine goesL_ (some 11) rfl rfl Try.func55 (by kernel_rfl) rfl #[] rfl za_ ?_; (with_reducible refine (folkmootlaw16_awake.calls k  false _ A3.out).mono ?_); rintro e w7 ⟨rfl, hb⟩; refine ⟨_, rfl, ?_⟩; have n0_ := Aside0.mk (below_step zb_ hb); clear HB; have HB := n0_; clear n0_; (try clear hb); (try clear hb2); (try clear hk); (try clear hi)))
   go_meet
   case rel => exact ⟨_, (true), (by first | rfl | (simp; done) | (simp [*]; done)), H', ⟨by first | omega | exact Nat.le_refl _⟩, ⟨by repeat (first | (with_reducible first | exact HB.out | apply below_alloc | apply pw_below_drewN | apply below_drew1) | exact HB.out)⟩⟩
 case rest =>
  clear HC2
  try clear c1
  try clear p2
  try clear c4
  try clear c5
  obtain ⟨kq, x17_1, rfl, HA, HJ1, HB⟩ := hcut
  cases kq with
  | zero => exact absurd HA.out (by simp [folkmootlaw16_ExchangeFull.j0])
  | succ kj1 =>
   have H := HA.out
   clear HA
   simp only [folkmootlaw16_ExchangeFull.j0] at H
   by_cases c8 : x17_1 = true
   ·
    subst c8
    have H1 : ((folkmootlaw16_awake.f kj1).bind fun t922 => (some t922)) = some r := by rw [if_pos rfl] at H; exact H
    clear H
    have H := H1
    clear H1
    replace H := Option.bind_eq_some_iff.mp H
    obtain ⟨t922, A90, H⟩ := H
    replace H : (some t922) = some r := H
    have A9 := Aside0.mk A90
    clear A90
    obtain rfl := Option.some.inj H
    go_wp2_with (first | ((with_reducible refine gate_callee (f := 55) rfl ?_); refine goesL_ (some 18) rfl rfl Try.func55 (by kernel_rfl) rfl #[] rfl za_ ?_; (with_reducible refine (folkmootlaw16_awake.calls kj1  t922 _ A9.out).mono ?_); rintro e w10 ⟨rfl, hb⟩; refine ⟨_, rfl, ?_⟩; have n0_ := Aside0.mk (below_step zb_ hb); clear HB; have HB := n0_; clear n0_; (try clear hb); (try clear hb2); (try clear hk); (try clear hi)))
    go_ret
    exact ⟨by first | rfl | (simp [errW_none, errW_some] <;> rfl) | (simp [*, errW_none, errW_some] <;> rfl), by repeat (first | (with_reducible first | exact HB.out | apply below_alloc | apply pw_below_drewN | apply below_drew1) | exact HB.out)⟩
   ·
    replace c8 := Bool.eq_false_iff.mpr c8
    subst c8
    have H1 : ((folkmootlaw16_told.f kj1 l0 0).bind fun bt923 => ((exchange_Short.f kj1 bt923.1).bind fun t932 => ((exchange_Full.f kj1 bt923.1).bind fun t935 => ((folkmootref16_Known.f kj1 bt923.2.2).bind fun t938 => (if (t935.length : Int) < (t932.length : Int) then (folkmootlaw16_ExchangeFull.j1 kj1 t932 t935 t938 true) else (if 0 ≤ (t932.length : Int) then (if (t932.length : Int) ≤ (t935.length : Int) then ((folkmootref05_Same.f kj1 (t935.take ((t932.length : Int) : Int).toNat) t932).bind fun t946 => (folkmootlaw16_ExchangeFull.j1 kj1 t932 t935 t938 (!t946))) else (none)) else (none))))))) = some r := by rw [if_neg (show ¬ (false = true) by decide)] at H; exact H
    clear H
    have H := H1
    clear H1
    replace H := Option.bind_eq_some_iff.mp H
    obtain ⟨⟨t923, t926, t929⟩, A110, H⟩ := H
    replace H : ((exchange_Short.f kj1 t923).bind fun t932 => ((exchange_Full.f kj1 t923).bind fun t935 => ((folkmootref16_Known.f kj1 t929).bind fun t938 => (if (t935.length : Int) < (t932.length : Int) then (folkmootlaw16_ExchangeFull.j1 kj1 t932 t935 t938 true) else (if 0 ≤ (t932.length : Int) then (if (t932.length : Int) ≤ (t935.length : Int) then ((folkmootref05_Same.f kj1 (t935.take ((t932.length : Int) : Int).toNat) t932).bind fun t946 => (folkmootlaw16_ExchangeFull.j1 kj1 t932 t935 t938 (!t946))) else (none)) else (none)))))) = some r := H
    have A11 := Aside0.mk A110
    clear A110
    replace H := Option.bind_eq_some_iff.mp H
    obtain ⟨t932, A120, H⟩ := H
    replace H : ((exchange_Full.f kj1 t923).bind fun t935 => ((folkmootref16_Known.f kj1 t929).bind fun t938 => (if (t935.length : Int) < (t932.length : Int) then (folkmootlaw16_ExchangeFull.j1 kj1 t932 t935 t938 true) else (if 0 ≤ (t932.length : Int) then (if (t932.length : Int) ≤ (t935.length : Int) then ((folkmootref05_Same.f kj1 (t935.take ((t932.length : Int) : Int).toNat) t932).bind fun t946 => (folkmootlaw16_ExchangeFull.j1 kj1 t932 t935 t938 (!t946))) else (none)) else (none))))) = some r := H
    have A12 := Aside0.mk A120
    clear A120
    replace H := Option.bind_eq_some_iff.mp H
    obtain ⟨t935, A130, H⟩ := H
    replace H : ((folkmootref16_Known.f kj1 t929).bind fun t938 => (if (t935.length : Int) < (t932.length : Int) then (folkmootlaw16_ExchangeFull.j1 kj1 t932 t935 t938 true) else (if 0 ≤ (t932.length : Int) then (if (t932.length : Int) ≤ (t935.length : Int) then ((folkmootref05_Same.f kj1 (t935.take ((t932.length : Int) : Int).toNat) t932).bind fun t946 => (folkmootlaw16_ExchangeFull.j1 kj1 t932 t935 t938 (!t946))) else (none)) else (none)))) = some r := H
    have A13 := Aside0.mk A130
    clear A130
    replace H := Option.bind_eq_some_iff.mp H
    obtain ⟨t938, A140, H⟩ := H
    replace H : (if (t935.length : Int) < (t932.length : Int) then (folkmootlaw16_ExchangeFull.j1 kj1 t932 t935 t938 true) else (if 0 ≤ (t932.length : Int) then (if (t932.length : Int) ≤ (t935.length : Int) then ((folkmootref05_Same.f kj1 (t935.take ((t932.length : Int) : Int).toNat) t932).bind fun t946 => (folkmootlaw16_ExchangeFull.j1 kj1 t932 t935 t938 (!t946))) else (none)) else (none))) = some r := H
    have A14 := Aside0.mk A140
    clear A140
    have HC15 := Aside0.mk H
    clear H
    go_upto_region 7 with (first | ((with_reducible refine gate_callee (f := 57) rfl ?_); refine goesL_ (some 21) rfl rfl Try.func57 (by kernel_rfl) rfl #[.slice A0 l0.length c0, .int .u8 0] rfl za_ ?_; (with_reducible refine (folkmootlaw16_told.calls kj1 (fun k_ => k_ < w.heap.size) _ _ l0 0 t923 t926 t929 _ ?side1 A11.out).mono ?_); (case side1 => exact Kd.V_mk HC0.out (Kd.F_below (Kd.C_F k53_heap HR0.out) zb_)); rintro e w16 ⟨v924, v927, v930, rfl, ho0, ho1, ho2, hb⟩; refine ⟨_, rfl, ?_⟩; have n0_ := Aside0.mk (Kd.N_lower (Kd.N_mono (ok' := fun k_ => some k_ ≠ (v927 : Value).ownBlock ∧ some k_ ≠ (v930 : Value).ownBlock) ho0 (fun k_ hk_ => ⟨hk_.2.1, hk_.2.2⟩)) (below_size zb_)); have n1_ := Aside0.mk (Kd.R_lower (Kd.R_mono (ok' := fun k_ => True) ho1 (fun _ hk_ => trivial)) (below_size zb_)); have n2_ := Aside0.mk (Kd.N_lower (Kd.N_mono (ok' := fun k_ => some k_ ≠ (v924 : Value).ownBlock ∧ some k_ ≠ (v927 : Value).ownBlock) ho2 (fun k_ hk_ => ⟨hk_.2.1, hk_.2.2⟩)) (below_size zb_)); have n3_ := Aside0.mk (below_step zb_ hb); clear HB; have HO925 := n0_; have HO928 := n1_; have HO931 := n2_; have HB := n3_; clear n0_ n1_ n2_ n3_; (try clear hb); (try clear hb2); (try clear hk); (try clear hi); (try clear ho0); (try clear ho1); (try clear ho2); obtain ⟨Ao17, co17, eo17⟩ := Kd.N_slice HO925.out; subst eo17) | ((with_reducible refine gate_callee (f := 62) rfl ?_); refine goesL_ (some 26) rfl rfl Try.func62 (by kernel_rfl) rfl #[.slice Ao17 t923.length co17] rfl za_ ?_; (with_reducible refine (exchange_Short.calls kj1 _ _ t923 t932 _ ?side1 ?side2 A12.out).mono ?_); (case side1 => exact zd_ (Kd.N_reads' HO925.out).2.2); (case side2 => exact (Kd.N_reads' HO925.out).2.1); rintro e w18 ⟨v933, rfl, ho0, hb⟩; refine ⟨_, rfl, ?_⟩; have n0_ := Aside0.mk (Kd.N_elder' (zn_ HO925) (Kd.R_base ho0) hb); have n1_ := Aside0.mk (Kd.R_below (zr_ HO928) hb); have n2_ := Aside0.mk (Kd.N_elder' (zn_ HO931) (Kd.R_base ho0) hb); have n3_ := Aside0.mk (Kd.R_lower ho0 (below_size zb_)); have n4_ := Aside0.mk (below_step zb_ hb); clear HO925; clear HO928; clear HO931; clear HB; have HO925 := n0_; have HO928 := n1_; have HO931 := n2_; have HO934 := n3_; have HB := n4_; clear n0_ n1_ n2_ n3_ n4_; (try clear hb); (try clear hb2); (try clear hk); (try clear hi); (try clear ho0)) | ((with_reducible refine gate_callee (f := 66) rfl ?_); refine goesL_ (some 28) rfl rfl Try.func66 (by kernel_rfl) rfl #[.slice Ao17 t923.length co17] rfl za_ ?_; (with_reducible refine (exchange_Full.calls kj1 _ _ t923 t935 _ ?side1 ?side2 A13.out).mono ?_); (case side1 => exact zd_ (Kd.N_reads' HO925.out).2.2); (case side2 => exact (Kd.N_reads' HO925.out).2.1); rintro e w19 ⟨v936, rfl, ho0, hb⟩; refine ⟨_, rfl, ?_⟩; have n0_ := Aside0.mk (Kd.N_elder' (zn_ HO925) (Kd.R_base ho0) hb); have n1_ := Aside0.mk (Kd.R_below (zr_ HO928) hb); have n2_ := Aside0.mk (Kd.N_elder' (zn_ HO931) (Kd.R_base ho0) hb); have n3_ := Aside0.mk (Kd.R_elder' (zr_ HO934) (Kd.R_base ho0) hb); have n4_ := Aside0.mk (Kd.R_lower (Kd.R_new' ho0 (Kd.R_lt (zr_ HO934))) (below_size zb_)); have n5_ := Aside0.mk (below_step zb_ hb); clear HO925; clear HO928; clear HO931; clear HO934; clear HB; have HO925 := n0_; have HO928 := n1_; have HO931 := n2_; have HO934 := n3_; have HO937 := n4_; have HB := n5_; clear n0_ n1_ n2_ n3_ n4_ n5_; (try clear hb); (try clear hb2); (try clear hk); (try clear hi); (try clear ho0); obtain ⟨Ao20, co20, eo20⟩ := Kd.N_slice HO931.out; subst eo20) | ((with_reducible refine gate_callee (f := 65) rfl ?_); refine goesL_ (some 30) rfl rfl Try.func65 (by kernel_rfl) rfl #[.slice Ao20 t929.length co20] rfl za_ ?_; (with_reducible refine (folkmootref16_Known.calls kj1 (fun k_ => (((some k_ ≠ (.slice Ao17 t923.length co17 : Value).ownBlock ∧ some k_ ≠ (v927 : Value).ownBlock) ∧ some k_ ≠ (v933 : Value).ownBlock) ∧ some k_ ≠ (v936 : Value).ownBlock)) _ _ t929 t938 _ ?side1 A14.out).mono ?_); (case side1 => exact Kd.N_V (HO931.out)); rintro e w21 ⟨v939, rfl, ho0, hb⟩; refine ⟨_, rfl, ?_⟩; have n0_ := Aside0.mk (Kd.N_below (zn_ HO925) hb); have n1_ := Aside0.mk (Kd.R_below (zr_ HO928) hb); have n2_ := Aside0.mk (Kd.N_below (zn_ HO931) hb); have n3_ := Aside0.mk (Kd.R_below (zr_ HO934) hb); have n4_ := Aside0.mk (Kd.R_below (zr_ HO937) hb); have n5_ := Aside0.mk (Kd.V_lower (Kd.V_mono (ok' := fun k_ => some k_ ≠ (.slice Ao17 t923.length co17 : Value).ownBlock ∧ some k_ ≠ (v927 : Value).ownBlock ∧ some k_ ≠ (v933 : Value).ownBlock ∧ some k_ ≠ (v936 : Value).ownBlock) ho0 (fun k_ hk_ => ⟨Or.elim hk_ (fun hs_ => hs_.1.1.1) (fun hn_ => (Kd.fresh' (Kd.N_lt (zn_ HO925)) k_ hn_)), Or.elim hk_ (fun hs_ => hs_.1.1.2) (fun hn_ => (Kd.fresh' (Kd.R_lt (zr_ HO928)) k_ hn_)), Or.elim hk_ (fun hs_ => hs_.1.2) (fun hn_ => (Kd.fresh' (Kd.R_lt (zr_ HO934)) k_ hn_)), Or.elim hk_ (fun hs_ => hs_.2) (fun hn_ => (Kd.fresh' (Kd.R_lt (zr_ HO937)) k_ hn_))⟩)) (below_size zb_)); have n6_ := Aside0.mk (below_step zb_ hb); clear HO925; clear HO928; clear HO931; clear HO934; clear HO937; clear HB; have HO925 := n0_; have HO928 := n1_; have HO931 := n2_; have HO934 := n3_; have HO937 := n4_; have HO940 := n5_; have HB := n6_; clear n0_ n1_ n2_ n3_ n4_ n5_ n6_; (try clear hb); (try clear hb2); (try clear hk); (try clear hi); (try clear ho0)))
    (try simp only [Act.put, List.setIfInBounds_toArray, List.set_cons_zero, List.set_cons_succ])
    go_cut [44] (fun v44 wc => ∃ (kq : Nat) (x44_14 : Bool), v44 = .bool x44_14 ∧ Aside0 (folkmootlaw16_ExchangeFull.j1 kq t932 t935 t938 x44_14 = some r) ∧ Aside0 (kq ≤ kj1) ∧ Aside0 (Kd.R k27 27 wc w.heap.size (fun k_ => some k_ ≠ (v936 : Value).ownBlock) v933 t932) ∧ Aside0 (Kd.R k27 27 wc w.heap.size (fun k_ => some k_ ≠ (v933 : Value).ownBlock) v936 t935) ∧ Aside0 (Kd.V k32 32 wc w.heap.size (fun k_ => some k_ ≠ (v933 : Value).ownBlock ∧ some k_ ≠ (v936 : Value).ownBlock) v939 t938) ∧ Aside0 (Below w.heap.size w wc))
    case first =>
     have H := HC15.out
     clear HC15
     by_cases c22 : (t935.length : Int) < (t932.length : Int)
     ·
      rw [if_pos c22] at H
      have c22b0 : decide ((t935.length : Int) < (t932.length : Int)) = true := decide_eq_true c22
      have c22b1 : decide (t935.length < t932.length) = true := decide_eq_true (Int.ofNat_lt.mp c22)
      clear c22
      (first | rw [c22b0] | (simp only [i64_w, i32_w]; rw [c22b0]) | skip)
      have H' := Aside0.mk H
      clear H
      obtain ⟨Ao23, co23, eo23⟩ := Kd.R_slice HO937.out
      subst eo23
      obtain ⟨Ao24, co24, eo24⟩ := Kd.R_slice HO934.out
      subst eo24
      go_wp2
      go_meet
      case rel => exact ⟨_, (true), (by first | rfl | (simp; done) | (simp [*]; done)), H', ⟨by have := HJ1.out; first | omega | exact Nat.le_refl _⟩, ⟨by (with_reducible repeat (first | apply Kd.R_alloc | apply Kd.R_drewN | apply Kd.R_drew)); exact Kd.R_mono HO934.out (fun _ hk => hk.2)⟩, ⟨by (with_reducible repeat (first | apply Kd.R_alloc | apply Kd.R_drewN | apply Kd.R_drew)); exact Kd.R_mono HO937.out (fun _ hk => hk.2)⟩, ⟨by (with_reducible repeat (first | apply Kd.V_alloc | apply Kd.V_drewN | apply Kd.V_drew)); exact Kd.V_mono HO940.out (fun _ hk => ⟨hk.2.2.1, hk.2.2.2⟩)⟩, ⟨by repeat (first | (with_reducible first | exact HB.out | apply below_alloc | apply pw_below_drewN | apply below_drew1) | exact HB.out)⟩⟩
     ·
      rw [if_neg c22] at H
      have c22b0 : decide ((t935.length : Int) < (t932.length : Int)) = false := decide_eq_false c22
      have c22b1 : decide (t935.length < t932.length) = false := decide_eq_false (fun h => c22 (Int.ofNat_lt.mpr h))
      clear c22
      (first | rw [c22b0] | (simp only [i64_w, i32_w]; rw [c22b0]) | skip)
      by_cases c25 : 0 ≤ (t932.length : Int)
      ·
       rw [if_pos c25] at H
       have c25b0 := eq_true c25
       have c25b1 : decide (0 ≤ (t932.length : Int)) = true := decide_eq_true c25
       clear c25
       by_cases c26 : (t932.length : Int) ≤ (t935.length : Int)
       ·
        rw [if_pos c26] at H
        have c26b0 := eq_true c26
        have c26b1 : decide ((t932.length : Int) ≤ (t935.length : Int)) = true := decide_eq_true c26
        clear c26
        obtain ⟨y941, hy941⟩ : ∃ y_ : List (S27), y_ = (t935.take ((t932.length : Int) : Int).toNat) := ⟨_, rfl⟩
        replace H : ((folkmootref05_Same.f kj1 y941 t932).bind fun t946 => (folkmootlaw16_ExchangeFull.j1 kj1 t932 t935 t938 (!t946))) = some r := by first | (rw [hy941]; with_reducible exact H) | (have H2_ := (Option.bind_some _ _).symm.trans H; rw [hy941]; with_reducible exact H2_) | (have H2_ := (Option.bind_some _ _).symm.trans H; with_reducible exact H2_) | with_reducible exact H | (rw [hy941]; exact H) | exact H
        have Ny941 := Aside0.mk hy941
        clear hy941
        replace H := Option.bind_eq_some_iff.mp H
        obtain ⟨t946, A270, H⟩ := H
        replace H : (folkmootlaw16_ExchangeFull.j1 kj1 t932 t935 t938 (!t946)) = some r := H
        have A27 := Aside0.mk A270
        clear A270
        have H' := Aside0.mk H
        clear H
        obtain ⟨Ao28, co28, eo28⟩ := Kd.R_slice HO937.out
        subst eo28
        obtain ⟨Ao29, co29, eo29⟩ := Kd.R_slice HO934.out
        subst eo29
        have q30 : ((t932.length : Int) : Int) ≤ ((t935.length : Int) : Int) := of_decide_eq_true zs_
        obtain ⟨i030, hi030, _, hsz30, _⟩ := info_parts info27
        have hroom30 : t935.length ≤ co28 := (Kd.R_reads' HO937.out).2.1
        have hC30 : Kd.F k27 _ _ Ao28 t935.length t935 := (Kd.V_at (base := w.heap.size) (Kd.R_V (Kd.R_apart' (Kd.R_apart' (Kd.R_apart' (HO937.out) (Kd.N_typed HO925.out) (by decide)) (Kd.R_typed HO928.out) (by decide)) (Kd.N_typed HO931.out) (by decide)))).2.2
        have hcut30 := cut_to (P := Try.prog) 41 27 .i64 Try.underlying41 hi030 Ao28 t935.length co28 (t932.length : Int) (of_decide_eq_true zs_) q30 hroom30
        have hr30 := Kd.F_take (m := ((t932.length : Int) : Int).toNat) hC30 (by omega)
        have hy30 : y941.length = ((t932.length : Int) : Int).toNat := (by rw [Ny941.out, List.length_take]; omega)
        rw [← Ny941.out] at hr30
        rw [← hy30] at hcut30
        have HO945 := Aside0.mk (show Kd.V k27 27 _ w.heap.size _ (.slice Ao28 y941.length co28) y941 from Kd.V_mk (by omega) hr30)
        have HC945 := Aside0.mk (show y941.length ≤ co28 from by omega)
        clear hr30 hC30 hroom30 hi030 hsz30
        have KY30 := Aside0.mk hy30
        clear hy30
        replace q30 := eq_true q30
        go_wp2_with (first | (go_at_call 30; (with_reducible refine (folkmootref05_Same.calls kj1 _ _ y941 _ _ t932 t946 _ ?side1 ?side2 ?side3 ?side4 A27.out).mono ?_); (case side1 => exact zd_ (Kd.V_reads' HO945.out).2.2); (case side2 => exact (Kd.V_reads' HO945.out).2.1); (case side3 => exact zd_ (Kd.R_reads' HO934.out).2.2); (case side4 => exact (Kd.R_reads' HO934.out).2.1); rintro e w' ⟨rfl, ⟨nd, rfl⟩⟩))
        go_meet
        case rel => exact ⟨_, (!t946), (by first | rfl | (simp; done) | (simp [*]; done)), H', ⟨by have := HJ1.out; first | omega | exact Nat.le_refl _⟩, ⟨by (with_reducible repeat (first | apply Kd.R_alloc | apply Kd.R_drewN | apply Kd.R_drew)); exact Kd.R_mono HO934.out (fun _ hk => hk.2)⟩, ⟨by (with_reducible repeat (first | apply Kd.R_alloc | apply Kd.R_drewN | apply Kd.R_drew)); exact Kd.R_mono HO937.out (fun _ hk => hk.2)⟩, ⟨by (with_reducible repeat (first | apply Kd.V_alloc | apply Kd.V_drewN | apply Kd.V_drew)); exact Kd.V_mono HO940.out (fun _ hk => ⟨hk.2.2.1, hk.2.2.2⟩)⟩, ⟨by repeat (first | (with_reducible first | exact HB.out | apply below_alloc | apply pw_below_drewN | apply below_drew1) | exact HB.out)⟩⟩
       ·
        rw [if_neg c26] at H
        exact absurd H (by simp)
      ·
       rw [if_neg c25] at H
       exact absurd H (by simp)
    case rest =>
     clear HC15
     try clear c1
     try clear c2
     try clear p2
     try clear q3
     try clear c4
     try clear c5
     try clear c6
     try clear c8
     try clear c18
     try clear c22
     try clear c22b0
     try clear c22b1
     try clear c25
     try clear c25b0
     try clear c25b1
     try clear c26
     try clear c26b0
     try clear c26b1
     try clear q30
     try clear p2
     try clear q30
     obtain ⟨kq, x44_14, rfl, HA, HJ14, HO_6, HO_7, HO_8, HB⟩ := hcut
     cases kq with
     | zero => exact absurd HA.out (by simp [folkmootlaw16_ExchangeFull.j1])
     | succ kj14 =>
      have H := HA.out
      clear HA
      simp only [folkmootlaw16_ExchangeFull.j1] at H
      by_cases c31 : x44_14 = true
      ·
       subst c31
       have H1 : (some false) = some r := by rw [if_pos rfl] at H; exact H
       clear H
       have H := H1
       clear H1
       obtain rfl := Option.some.inj H
       go_wp2
       go_ret
       exact ⟨by first | rfl | (simp [errW_none, errW_some] <;> rfl) | (simp [*, errW_none, errW_some] <;> rfl), by repeat (first | (with_reducible first | exact HB.out | apply below_alloc | apply pw_below_drewN | apply below_drew1) | exact HB.out)⟩
      ·
       replace c31 := Bool.eq_false_iff.mpr c31
       subst c31
       have H1 : (folkmootlaw16_ExchangeFull.l0 kj14 t932 t935 t938 0) = some r := by rw [if_neg (show ¬ (false = true) by decide)] at H; exact H
       clear H
       have H := H1
       clear H1
       have H' := Aside0.mk H
       clear H
       go_wp2
       go_loopg [9] kj14 (fun kq v9 w' => ∃ (x9_3 : Int), v9 = .int .i64 x9_3 ∧ Aside0 (folkmootlaw16_ExchangeFull.l0 kq t932 t935 t938 x9_3 = some r) ∧ Aside0 (kq ≤ kj14) ∧ Aside0 (Kd.R k27 27 w' w.heap.size (fun k_ => some k_ ≠ (v936 : Value).ownBlock) v933 t932) ∧ Aside0 (Kd.R k27 27 w' w.heap.size (fun k_ => some k_ ≠ (v933 : Value).ownBlock) v936 t935) ∧ Aside0 (Kd.V k32 32 w' w.heap.size (fun k_ => some k_ ≠ (v933 : Value).ownBlock ∧ some k_ ≠ (v936 : Value).ownBlock) v939 t938) ∧ Aside0 (Below w.heap.size w w'))
       case atStart => exact ⟨(0), (by first | rfl | (simp; done) | (simp [*]; done)), H', ⟨Nat.le_refl _⟩, ⟨by (with_reducible repeat (first | apply Kd.R_alloc | apply Kd.R_drewN | apply Kd.R_drew)); exact HO_6.out⟩, ⟨by (with_reducible repeat (first | apply Kd.R_alloc | apply Kd.R_drewN | apply Kd.R_drew)); exact HO_7.out⟩, ⟨by (with_reducible repeat (first | apply Kd.V_alloc | apply Kd.V_drewN | apply Kd.V_drew)); exact HO_8.out⟩, ⟨by repeat (first | (with_reducible first | exact HB.out | apply below_alloc | apply pw_below_drewN | apply below_drew1) | exact HB.out)⟩⟩
       case round =>
        clear H'
        try clear c1
        try clear c2
        try clear p2
        try clear c3
        try clear q3
        try clear c4
        try clear c5
        try clear c6
        try clear c8
        try clear c18
        try clear c22
        try clear c22b0
        try clear c22b1
        try clear c25
        try clear c25b0
        try clear c25b1
        try clear c26
        try clear c26b0
        try clear c26b1
        try clear q30
        try clear c31
        try clear p2
        try clear q3
        try clear q30
        obtain ⟨x9_3, rfl, HA, HK3, HO_6, HO_7, HO_8, HB⟩ := hrel
        cases gk with
        | zero => exact absurd HA.out (by simp [folkmootlaw16_ExchangeFull.l0])
        | succ k3 =>
         have H := HA.out
         clear HA
         simp only [folkmootlaw16_ExchangeFull.l0] at H
         by_cases c32 : x9_3 < (t938.length : Int)
         ·
          rw [if_pos c32] at H
          have c32b0 : decide (x9_3 < (t938.length : Int)) = true := decide_eq_true c32
          clear c32
          by_cases c33 : 0 ≤ x9_3
          ·
           rw [if_pos c33] at H
           have c33b0 : decide (0 ≤ x9_3) = true := decide_eq_true c33
           clear c33
           replace H := Option.bind_eq_some_iff.mp H
           obtain ⟨t948, A340, H⟩ := H
           replace H : (if t948 = true then (folkmootlaw16_ExchangeFull.l0 k3 t932 t935 t938 (wrap64 (x9_3 + 1))) else (some false)) = some r := H
           have A34 := Aside0.mk A340
           clear A340
           by_cases c35 : t948 = true
           ·
            subst c35
            have H1 : (folkmootlaw16_ExchangeFull.l0 k3 t932 t935 t938 (wrap64 (x9_3 + 1))) = some r := by rw [if_pos rfl] at H; exact H
            clear H
            have H := H1
            clear H1
            have H' := Aside0.mk H
            clear H
            obtain ⟨Ao36, co36, eo36⟩ := Kd.V_slice HO_8.out
            subst eo36
            have p947 : 0 ≤ (x9_3 : Int) := of_decide_eq_true zs_
            have q947 : x9_3 < (t938.length : Int) := of_decide_eq_true zs_
            obtain ⟨ad947, A947_4, c947_4, e947, hx947_0, hx947_1, hx947_2, hx947_3, hx947_4, hl947_4, hi947_4⟩ := at_T32 (Kd.V_reads' HO_8.out).2.2 x9_3 p947 q947
            cases e947
            obtain ⟨ce947, hce947, hMe947, hcc947⟩ := Kd.V_get HO_8.out z32 x9_3 p947 (by first | exact q947 | exact of_decide_eq_true zs_ | (have e_ := (Kd.V_reads' HO_8.out).1; omega))
            obtain ⟨ua947_4, uc947_4, rfl, ul947_4, ge947_4⟩ := k32_openF hMe947
            have hv947_4 := hcc947 4 _ rfl
            rw [add_field _ _ 4 (by omega)] at hv947_4
            replace hv947_4 := Option.some.inj (hv947_4.symm.trans hx947_4)
            injection hv947_4 with hva_ hvn_ hvc_
            rw [hva_] at ge947_4
            rw [hvc_] at ul947_4
            have HL947_4 := Aside0.mk (show Kd.V (Kd.int .u8) 5 _ w.heap.size _ _ ((rd_T32 t938 x9_3).f1) from Kd.V_mk ul947_4 ge947_4)
            clear hva_ hvn_ hvc_ ge947_4 ul947_4
            clear hcc947 hce947
            have HR947_4 := Aside0.mk hi947_4
            have HC947_4 := Aside0.mk hl947_4
            clear hi947_4 hl947_4
            replace p947 := eq_true p947
            replace q947 := eq_true q947
            obtain ⟨Ao37, co37, eo37⟩ := Kd.R_slice HO_7.out
            subst eo37
            go_wp2_with (first | ((with_reducible refine gate_callee (f := 36) rfl ?_); refine goesL_ (some 57) rfl rfl Try.func36 (by kernel_rfl) rfl #[.slice Ao37 t935.length co37, .agg #[.int .u64 ((rd_T32 t938 x9_3).f0.f0.f0), .int .i64 ((rd_T32 t938 x9_3).f0.f0.f1), .int .u64 ((rd_T32 t938 x9_3).f0.f1), .int .i64 ((rd_T32 t938 x9_3).f0.f2)]] rfl za_ ?_; (with_reducible refine (folkmootref05_In.calls k3 _ _ t935 ((rd_T32 t938 x9_3).f0.f0.f0) ((rd_T32 t938 x9_3).f0.f0.f1) ((rd_T32 t938 x9_3).f0.f1) ((rd_T32 t938 x9_3).f0.f2) true _ ?side1 ?side2 A34.out).mono ?_); (case side1 => exact zd_ (Kd.R_reads' HO_7.out).2.2); (case side2 => exact (Kd.R_reads' HO_7.out).2.1); rintro e w38 ⟨rfl, hb⟩; refine ⟨_, rfl, ?_⟩; have n0_ := Aside0.mk (Kd.R_below (zr_ HO_6) hb); have n1_ := Aside0.mk (Kd.R_below (zr_ HO_7) hb); have n2_ := Aside0.mk (Kd.V_below (zv_ HO_8) hb); have n3_ := Aside0.mk (Kd.V_below (zv_ HL947_4) hb); have n4_ := Aside0.mk (Kd.C_below (by repeat (first | (with_reducible exact HR947_4.out) | (with_reducible refine Kd.C_alloc ?_ _) | (with_reducible refine Kd.C_drewN ?_ _) | (with_reducible refine Kd.C_drew ?_) | exact HR947_4.out | exact (Kd.V_reads' HL947_4.out).2.2)) hb); have n5_ := Aside0.mk (below_step zb_ hb); clear HO_6; clear HO_7; clear HO_8; clear HL947_4; clear HR947_4; clear HB; have HO_6 := n0_; have HO_7 := n1_; have HO_8 := n2_; have HL947_4 := n3_; have HR947_4 := n4_; have HB := n5_; clear n0_ n1_ n2_ n3_ n4_ n5_; (try clear hb); (try clear hb2); (try clear hk); (try clear hi)))
            go_roundg k3
            case measure => have := HJ1.out; have := HJ14.out; have := HK3.out; omega
            case rel => exact ⟨(wrap64 (x9_3 + 1)), (by first | rfl | (simp; done) | (simp [*]; done)), H', ⟨by have := HJ1.out; have := HJ14.out; have := HK3.out; omega⟩, ⟨by (with_reducible repeat (first | apply Kd.R_alloc | apply Kd.R_drewN | apply Kd.R_drew)); exact HO_6.out⟩, ⟨by (with_reducible repeat (first | apply Kd.R_alloc | apply Kd.R_drewN | apply Kd.R_drew)); exact HO_7.out⟩, ⟨by (with_reducible repeat (first | apply Kd.V_alloc | apply Kd.V_drewN | apply Kd.V_drew)); exact HO_8.out⟩, ⟨by repeat (first | (with_reducible first | exact HB.out | apply below_alloc | apply pw_below_drewN | apply below_drew1) | exact HB.out)⟩⟩
           ·
            replace c35 := Bool.eq_false_iff.mpr c35
            subst c35
            have H1 : (some false) = some r := by rw [if_neg (show ¬ (false = true) by decide)] at H; exact H
            clear H
            have H := H1
            clear H1
            obtain rfl := Option.some.inj H
            obtain ⟨Ao39, co39, eo39⟩ := Kd.V_slice HO_8.out
            subst eo39
            have p947 : 0 ≤ (x9_3 : Int) := of_decide_eq_true zs_
            have q947 : x9_3 < (t938.length : Int) := of_decide_eq_true zs_
            obtain ⟨ad947, A947_4, c947_4, e947, hx947_0, hx947_1, hx947_2, hx947_3, hx947_4, hl947_4, hi947_4⟩ := at_T32 (Kd.V_reads' HO_8.out).2.2 x9_3 p947 q947
            cases e947
            obtain ⟨ce947, hce947, hMe947, hcc947⟩ := Kd.V_get HO_8.out z32 x9_3 p947 (by first | exact q947 | exact of_decide_eq_true zs_ | (have e_ := (Kd.V_reads' HO_8.out).1; omega))
            obtain ⟨ua947_4, uc947_4, rfl, ul947_4, ge947_4⟩ := k32_openF hMe947
            have hv947_4 := hcc947 4 _ rfl
            rw [add_field _ _ 4 (by omega)] at hv947_4
            replace hv947_4 := Option.some.inj (hv947_4.symm.trans hx947_4)
            injection hv947_4 with hva_ hvn_ hvc_
            rw [hva_] at ge947_4
            rw [hvc_] at ul947_4
            have HL947_4 := Aside0.mk (show Kd.V (Kd.int .u8) 5 _ w.heap.size _ _ ((rd_T32 t938 x9_3).f1) from Kd.V_mk ul947_4 ge947_4)
            clear hva_ hvn_ hvc_ ge947_4 ul947_4
            clear hcc947 hce947
            have HR947_4 := Aside0.mk hi947_4
            have HC947_4 := Aside0.mk hl947_4
            clear hi947_4 hl947_4
            replace p947 := eq_true p947
            replace q947 := eq_true q947
            obtain ⟨Ao40, co40, eo40⟩ := Kd.R_slice HO_7.out
            subst eo40
            go_wp2_with (first | ((with_reducible refine gate_callee (f := 36) rfl ?_); refine goesL_ (some 57) rfl rfl Try.func36 (by kernel_rfl) rfl #[.slice Ao40 t935.length co40, .agg #[.int .u64 ((rd_T32 t938 x9_3).f0.f0.f0), .int .i64 ((rd_T32 t938 x9_3).f0.f0.f1), .int .u64 ((rd_T32 t938 x9_3).f0.f1), .int .i64 ((rd_T32 t938 x9_3).f0.f2)]] rfl za_ ?_; (with_reducible refine (folkmootref05_In.calls k3 _ _ t935 ((rd_T32 t938 x9_3).f0.f0.f0) ((rd_T32 t938 x9_3).f0.f0.f1) ((rd_T32 t938 x9_3).f0.f1) ((rd_T32 t938 x9_3).f0.f2) false _ ?side1 ?side2 A34.out).mono ?_); (case side1 => exact zd_ (Kd.R_reads' HO_7.out).2.2); (case side2 => exact (Kd.R_reads' HO_7.out).2.1); rintro e w41 ⟨rfl, hb⟩; refine ⟨_, rfl, ?_⟩; have n0_ := Aside0.mk (Kd.R_below (zr_ HO_6) hb); have n1_ := Aside0.mk (Kd.R_below (zr_ HO_7) hb); have n2_ := Aside0.mk (Kd.V_below (zv_ HO_8) hb); have n3_ := Aside0.mk (Kd.V_below (zv_ HL947_4) hb); have n4_ := Aside0.mk (Kd.C_below (by repeat (first | (with_reducible exact HR947_4.out) | (with_reducible refine Kd.C_alloc ?_ _) | (with_reducible refine Kd.C_drewN ?_ _) | (with_reducible refine Kd.C_drew ?_) | exact HR947_4.out | exact (Kd.V_reads' HL947_4.out).2.2)) hb); have n5_ := Aside0.mk (below_step zb_ hb); clear HO_6; clear HO_7; clear HO_8; clear HL947_4; clear HR947_4; clear HB; have HO_6 := n0_; have HO_7 := n1_; have HO_8 := n2_; have HL947_4 := n3_; have HR947_4 := n4_; have HB := n5_; clear n0_ n1_ n2_ n3_ n4_ n5_; (try clear hb); (try clear hb2); (try clear hk); (try clear hi)))
            go_ret
            exact ⟨by first | rfl | (simp [errW_none, errW_some] <;> rfl) | (simp [*, errW_none, errW_some] <;> rfl), by repeat (first | (with_reducible first | exact HB.out | apply below_alloc | apply pw_below_drewN | apply below_drew1) | exact HB.out)⟩
          ·
           rw [if_neg c33] at H
           exact absurd H (by simp)
         ·
          rw [if_neg c32] at H
          have c32b0 : decide (x9_3 < (t938.length : Int)) = false := decide_eq_false c32
          clear c32
          have H' := Aside0.mk H
          clear H
          obtain ⟨Ao42, co42, eo42⟩ := Kd.V_slice HO_8.out
          subst eo42
          obtain ⟨Ao43, co43, eo43⟩ := Kd.R_slice HO_6.out
          subst eo43
          go_wp2
          go_loopg [10] k3 (fun kq v10 w' => ∃ (x10_4 : Int), v10 = .int .i64 x10_4 ∧ Aside0 (folkmootlaw16_ExchangeFull.l1 kq t932 t935 x10_4 = some r) ∧ Aside0 (kq ≤ k3) ∧ Aside0 (Kd.R k27 27 w' w.heap.size (fun k_ => some k_ ≠ (v936 : Value).ownBlock) (.slice Ao43 t932.length co43) t932) ∧ Aside0 (Kd.R k27 27 w' w.heap.size (fun k_ => some k_ ≠ ((.slice Ao43 t932.length co43) : Value).ownBlock) v936 t935) ∧ Aside0 (Below w.heap.size w w'))
          case atStart => exact ⟨((t932.length : Int)), (by first | rfl | (simp; done) | (simp [*]; done)), H', ⟨Nat.le_refl _⟩, ⟨by (with_reducible repeat (first | apply Kd.R_alloc | apply Kd.R_drewN | apply Kd.R_drew)); exact HO_6.out⟩, ⟨by (with_reducible repeat (first | apply Kd.R_alloc | apply Kd.R_drewN | apply Kd.R_drew)); exact HO_7.out⟩, ⟨by repeat (first | (with_reducible first | exact HB.out | apply below_alloc | apply pw_below_drewN | apply below_drew1) | exact HB.out)⟩⟩
          case round =>
           clear H'
           try clear c1
           try clear c2
           try clear p2
           try clear c3
           try clear q3
           try clear c4
           try clear c5
           try clear c6
           try clear p6
           try clear c8
           try clear c9
           try clear p9
           try clear q9
           try clear hx9
           try clear c18
           try clear c22
           try clear c22b0
           try clear c22b1
           try clear c25
           try clear c25b0
           try clear c25b1
           try clear c26
           try clear c26b0
           try clear c26b1
           try clear q30
           try clear c31
           try clear c32
           try clear c32b0
           try clear c33
           try clear c33b0
           try clear c35
           try clear c36
           try clear hx947_0
           try clear hx947_1
           try clear hx947_2
           try clear hx947_3
           try clear hx947_4
           try clear p2
           try clear p947
           try clear q3
           try clear q30
           try clear q947
           obtain ⟨x10_4, rfl, HA, HK4, HO_6, HO_7, HB⟩ := hrel
           cases gk with
           | zero => exact absurd HA.out (by simp [folkmootlaw16_ExchangeFull.l1])
           | succ k4 =>
            have H := HA.out
            clear HA
            simp only [folkmootlaw16_ExchangeFull.l1] at H
            by_cases c44 : x10_4 < (t935.length : Int)
            ·
             rw [if_pos c44] at H
             have c44b0 : decide (x10_4 < (t935.length : Int)) = true := decide_eq_true c44
             clear c44
             by_cases c45 : 0 ≤ x10_4
             ·
              rw [if_pos c45] at H
              have c45b0 := eq_true c45
              have c45b1 : decide (0 ≤ x10_4) = true := decide_eq_true c45
              clear c45
              by_cases c46 : x10_4 ≤ (t935.length : Int)
              ·
               rw [if_pos c46] at H
               have c46b0 := eq_true c46
               have c46b1 : decide (x10_4 ≤ (t935.length : Int)) = true := decide_eq_true c46
               clear c46
               obtain ⟨y949, hy949⟩ : ∃ y_ : List (S27), y_ = (t935.take (x10_4 : Int).toNat) := ⟨_, rfl⟩
               replace H : ((folkmootref05_In.f k4 y949 ((rd_T27 t935 x10_4).f0.f0) ((rd_T27 t935 x10_4).f0.f1) ((rd_T27 t935 x10_4).f1) ((rd_T27 t935 x10_4).f2)).bind fun t955 => (if t955 = true then (some false) else (if x10_4 > (t932.length : Int) then (if 0 ≤ (wrap64 (x10_4 - 1)) then (if (wrap64 (x10_4 - 1)) < (t935.length : Int) then ((folkmootref05_Less.f k4 ((rd_T27 t935 (wrap64 (x10_4 - 1))).f0.f0) ((rd_T27 t935 (wrap64 (x10_4 - 1))).f0.f1) ((rd_T27 t935 (wrap64 (x10_4 - 1))).f1) ((rd_T27 t935 (wrap64 (x10_4 - 1))).f2) ((rd_T27 t935 x10_4).f0.f0) ((rd_T27 t935 x10_4).f0.f1) ((rd_T27 t935 x10_4).f1) ((rd_T27 t935 x10_4).f2)).bind fun t958 => (if t958 = true then (folkmootlaw16_ExchangeFull.l1 k4 t932 t935 (wrap64 (x10_4 + 1))) else (some false))) else (none)) else (none)) else (folkmootlaw16_ExchangeFull.l1 k4 t932 t935 (wrap64 (x10_4 + 1)))))) = some r := by first | (rw [hy949]; with_reducible exact H) | (have H2_ := (Option.bind_some _ _).symm.trans H; rw [hy949]; with_reducible exact H2_) | (have H2_ := (Option.bind_some _ _).symm.trans H; with_reducible exact H2_) | with_reducible exact H | (rw [hy949]; exact H) | exact H
               have Ny949 := Aside0.mk hy949
               clear hy949
               replace H := Option.bind_eq_some_iff.mp H
               obtain ⟨t955, A470, H⟩ := H
               replace H : (if t955 = true then (some false) else (if x10_4 > (t932.length : Int) then (if 0 ≤ (wrap64 (x10_4 - 1)) then (if (wrap64 (x10_4 - 1)) < (t935.length : Int) then ((folkmootref05_Less.f k4 ((rd_T27 t935 (wrap64 (x10_4 - 1))).f0.f0) ((rd_T27 t935 (wrap64 (x10_4 - 1))).f0.f1) ((rd_T27 t935 (wrap64 (x10_4 - 1))).f1) ((rd_T27 t935 (wrap64 (x10_4 - 1))).f2) ((rd_T27 t935 x10_4).f0.f0) ((rd_T27 t935 x10_4).f0.f1) ((rd_T27 t935 x10_4).f1) ((rd_T27 t935 x10_4).f2)).bind fun t958 => (if t958 = true then (folkmootlaw16_ExchangeFull.l1 k4 t932 t935 (wrap64 (x10_4 + 1))) else (some false))) else (none)) else (none)) else (folkmootlaw16_ExchangeFull.l1 k4 t932 t935 (wrap64 (x10_4 + 1))))) = some r := H
               have A47 := Aside0.mk A470
               clear A470
               by_cases c48 : t955 = true
               ·
                subst c48
                have H1 : (some false) = some r := by rw [if_pos rfl] at H; exact H
                clear H
                have H := H1
                clear H1
                obtain rfl := Option.some.inj H
                obtain ⟨Ao49, co49, eo49⟩ := Kd.R_slice HO_7.out
                subst eo49
                try go_wp2
                have n0_ := Aside0.mk (Kd.R_drew HO_6.out)
                have n1_ := Aside0.mk (Kd.R_drew HO_7.out)
                have n2_ := Aside0.mk (below_drew1 HB.out)
                clear HO_6
                clear HO_7
                clear HB
                have HO_6 := n0_
                have HO_7 := n1_
                have HB := n2_
                clear n0_ n1_ n2_
                have q51 : (x10_4 : Int) ≤ ((t935.length : Int) : Int) := of_decide_eq_true zs_
                obtain ⟨i051, hi051, _, hsz51, _⟩ := info_parts info27
                have hroom51 : t935.length ≤ co49 := (Kd.R_reads' HO_7.out).2.1
                have hC51 : Kd.F k27 _ _ Ao49 t935.length t935 := (Kd.V_at (base := w.heap.size) (Kd.R_V HO_7.out)).2.2
                have hcut51 := cut_to (P := Try.prog) 41 27 .i64 Try.underlying41 hi051 Ao49 t935.length co49 x10_4 (of_decide_eq_true zs_) q51 hroom51
                have hr51 := Kd.F_take (m := (x10_4 : Int).toNat) hC51 (by omega)
                have hy51 : y949.length = (x10_4 : Int).toNat := (by rw [Ny949.out, List.length_take]; omega)
                rw [← Ny949.out] at hr51
                rw [← hy51] at hcut51
                have HO953 := Aside0.mk (show Kd.V k27 27 _ w.heap.size _ (.slice Ao49 y949.length co49) y949 from Kd.V_mk (by omega) hr51)
                have HC953 := Aside0.mk (show y949.length ≤ co49 from by omega)
                clear hr51 hC51 hroom51 hi051 hsz51
                have KY51 := Aside0.mk hy51
                clear hy51
                replace q51 := eq_true q51
                have p954 : 0 ≤ (x10_4 : Int) := of_decide_eq_true zs_
                have q954 : x10_4 < (t935.length : Int) := of_decide_eq_true zs_
                obtain ⟨ad954, e954, hx954_0, hx954_1, hx954_2, hx954_3⟩ := at_T27 (Kd.R_reads' HO_7.out).2.2 x10_4 p954 q954
                cases e954
                replace p954 := eq_true p954
                replace q954 := eq_true q954
                refine start_ (n := 27) (S := fun w' => w'.cell? (ad954.add ((x10_4).toNat * 4)) = some (.int .u64 ((rd_T27 t935 x10_4).f0.f0)) ∧ w'.cell? ⟨(ad954.add ((x10_4).toNat * 4)).block, (ad954.add ((x10_4).toNat * 4)).off + 1, none⟩ = some (.int .i64 ((rd_T27 t935 x10_4).f0.f1)) ∧ w'.cell? ⟨(ad954.add ((x10_4).toNat * 4)).block, (ad954.add ((x10_4).toNat * 4)).off + 2, none⟩ = some (.int .u64 ((rd_T27 t935 x10_4).f1)) ∧ w'.cell? ⟨(ad954.add ((x10_4).toNat * 4)).block, (ad954.add ((x10_4).toNat * 4)).off + 3, none⟩ = some (.int .i64 ((rd_T27 t935 x10_4).f2))) (ds := []) #[F_,F_,F_,F_,F_,F_,F_,F_,F_,F_,F_,F_,F_,F_,F_,F_,F_,F_,F_,F_,F_,F_,F_,F_,F_,F_,F_] (by kernel_rfl) rfl rfl ⟨hx954_0, hx954_1, hx954_2, hx954_3⟩ (fun hHeld => ?_); refine with_tabW folkmootlaw16_ExchangeFull.tab17 folkmootlaw16_ExchangeFull.bits17 (fun HT_ HW_ => ?_)
                generalize wr.drew = w50 at HO_6 HO_7 HB HO953 hx954_0 hx954_1 hx954_2 hx954_3 hHeld ⊢
                refine pure_ (i := 0) (N := some 67) (v := ?_) (a' := ?_) #[T_,F_,F_,F_,F_,F_,F_,F_,F_,F_,F_,F_,F_,F_,F_,F_,F_,F_,F_,F_,F_,F_,F_,F_,F_,F_,F_] rfl rfl (any_of HT_.out (by kernel_rfl)) (fun _ _ _ h => h) (Or.inl ⟨by rfl, ?_⟩) ?_ ?_
                rotate_left
                ·
                 intro w'; go_simp; with_reducible rfl
                rotate_left
                ·
                 exact zp_
                refine pure_ (i := 1) (N := some 68) (v := ?_) (a' := ?_) #[T_,T_,F_,F_,F_,F_,F_,F_,F_,F_,F_,F_,F_,F_,F_,F_,F_,F_,F_,F_,F_,F_,F_,F_,F_,F_,F_] rfl rfl (any_of HT_.out (by kernel_rfl)) (fun _ _ _ h => h) (Or.inl ⟨by rfl, ?_⟩) ?_ ?_
                rotate_left
                ·
                 intro w'; go_simp; with_reducible rfl
                rotate_left
                ·
                 exact zp_
                refine pure_ (i := 2) (N := some 69) (v := ?_) (a' := ?_) #[T_,T_,T_,F_,F_,F_,F_,F_,F_,F_,F_,F_,F_,F_,F_,F_,F_,F_,F_,F_,F_,F_,F_,F_,F_,F_,F_] rfl rfl (any_of HT_.out (by kernel_rfl)) (fun _ _ _ h => h) (Or.inl ⟨by rfl, ?_⟩) ?_ ?_
                rotate_left
                ·
                 intro w'; go_simp; with_reducible rfl
                rotate_left
                ·
                 exact zp_
                refine pure_ (i := 3) (N := some 70) (v := ?_) (a' := ?_) #[T_,T_,T_,T_,F_,F_,F_,F_,F_,F_,F_,F_,F_,F_,F_,F_,F_,F_,F_,F_,F_,F_,F_,F_,F_,F_,F_] rfl rfl (any_of HT_.out (by kernel_rfl)) (fun _ _ _ h => h) (Or.inl ⟨by rfl, ?_⟩) ?_ ?_
                rotate_left
                ·
                 intro w'; go_simp; with_reducible rfl
                rotate_left
                ·
                 exact zp_
                refine pure_ (i := 4) (N := some 71) (v := ?_) (a' := ?_) #[T_,T_,T_,T_,T_,F_,F_,F_,F_,F_,F_,F_,F_,F_,F_,F_,F_,F_,F_,F_,F_,F_,F_,F_,F_,F_,F_] rfl rfl (any_of HT_.out (by kernel_rfl)) (fun _ _ _ h => h) (Or.inl ⟨by rfl, ?_⟩) ?_ ?_
                rotate_left
                ·
                 intro w'; go_simp; with_reducible rfl
                rotate_left
                ·
                 exact zp_
                refine pure_ (i := 5) (N := some 72) (v := ?_) (a' := ?_) #[T_,T_,T_,T_,T_,T_,F_,F_,F_,F_,F_,F_,F_,F_,F_,F_,F_,F_,F_,F_,F_,F_,F_,F_,F_,F_,F_] rfl rfl (any_of HT_.out (by kernel_rfl)) (fun _ _ _ h => h) (Or.inl ⟨by rfl, ?_⟩) ?_ ?_
                rotate_left
                ·
                 intro w'; go_simp; with_reducible rfl
                rotate_left
                ·
                 exact zp_
                refine take_ (i := 6) (N := some 73) (v := ?_) (a' := ?_) #[T_,T_,T_,T_,T_,T_,T_,F_,F_,F_,F_,F_,F_,F_,F_,F_,F_,F_,F_,F_,F_,F_,F_,F_,F_,F_,F_] rfl rfl (take_ofW HT_.out HW_.out (by kernel_rfl)) (fun _ _ _ h => h) (Or.inl ⟨by rfl, ?_⟩) hHeld ?_ ?_
                rotate_left
                ·
                 rintro w' ⟨s0, s1, s2, s3⟩
                 go_simp
                 with_reducible rfl
                rotate_left
                ·
                 exact zp_
                refine one_ (i := 7) (N := some 74) #[T_,T_,T_,T_,T_,T_,T_,T_,F_,F_,F_,F_,F_,F_,F_,F_,F_,F_,F_,F_,F_,F_,F_,F_,F_,F_,F_] rfl rfl (one_of HT_.out (by kernel_rfl)) (by decide) (fun K hK => ?_)
                refine goes_ Try.func36 (by kernel_rfl) rfl #[.slice (some ad954) y949.length co49, .agg #[.int .u64 ((rd_T27 t935 x10_4).f0.f0), .int .i64 ((rd_T27 t935 x10_4).f0.f1), .int .u64 ((rd_T27 t935 x10_4).f1), .int .i64 ((rd_T27 t935 x10_4).f2)]] (by rfl) rfl rfl za_ ?_
                with_reducible refine (folkmootref05_In.calls k4 _ _ y949 ((rd_T27 t935 x10_4).f0.f0) ((rd_T27 t935 x10_4).f0.f1) ((rd_T27 t935 x10_4).f1) ((rd_T27 t935 x10_4).f2) true _ ?side1 ?side2 A47.out).mono ?_
                (case side1 => exact zd_ (Kd.V_reads' HO953.out).2.2)
                (case side2 => exact (Kd.V_reads' HO953.out).2.1)
                rintro e w52 ⟨rfl, hb⟩
                have HS0_ := (hb.cell (World.block_lt_of_cell? _ _ (hHeld.1))).trans (hHeld.1)
                have HS1_ := (hb.cell (World.block_lt_of_cell? _ _ (hHeld.2.1))).trans (hHeld.2.1)
                have HS2_ := (hb.cell (World.block_lt_of_cell? _ _ (hHeld.2.2.1))).trans (hHeld.2.2.1)
                have HS3_ := (hb.cell (World.block_lt_of_cell? _ _ (hHeld.2.2.2))).trans (hHeld.2.2.2)
                refine ⟨_, rfl, ?_⟩
                have n0_ := Aside0.mk (Kd.R_below (zr_ HO_6) hb)
                have n1_ := Aside0.mk (Kd.R_below (zr_ HO_7) hb)
                have n2_ := Aside0.mk (Kd.V_below (zv_ HO953) hb)
                have n3_ := Aside0.mk (below_step zb_ hb)
                clear HO_6
                clear HO_7
                clear HO953
                clear HB
                have HO_6 := n0_
                have HO_7 := n1_
                have HO953 := n2_
                have HB := n3_
                clear n0_ n1_ n2_ n3_
                (try clear hb)
                (try clear hb2)
                (try clear hk)
                (try clear hi)
                refine hK.out _ _ ⟨HS0_, HS1_, HS2_, HS3_⟩ (fun hHeld => ?_)
                clear hK K
                refine norm_ (a' := ?_) ?_ ?_
                rotate_left
                ·
                 show Act.put _ (some 74) _ = _
                 simp only [Act.put, List.setIfInBounds_toArray, List.set_cons_zero, List.set_cons_succ, i64_w, i32_w]
                 rfl
                refine pure_ (i := 8) (N := some 75) (v := ?_) (a' := ?_) #[T_,T_,T_,T_,T_,T_,T_,T_,T_,F_,F_,F_,F_,F_,F_,F_,F_,F_,F_,F_,F_,F_,F_,F_,F_,F_,F_] rfl rfl (any_of HT_.out (by kernel_rfl)) (fun _ _ _ h => h) (Or.inl ⟨by rfl, ?_⟩) ?_ ?_
                rotate_left
                ·
                 intro w'; go_simp; with_reducible rfl
                rotate_left
                ·
                 exact zp_
                refine pure_ (i := 9) (N := some 76) (v := undef) (a' := ?_) #[T_,T_,T_,T_,T_,T_,T_,T_,T_,T_,F_,F_,F_,F_,F_,F_,F_,F_,F_,F_,F_,F_,F_,F_,F_,F_,F_] rfl rfl (any_of HT_.out (by kernel_rfl)) (fun _ _ _ h => h) (Or.inr ⟨by rfl, rfl⟩) ?_ ?_
                rotate_left
                ·
                 exact zp_
                refine pure_ (i := 10) (N := some 77) (v := undef) (a' := ?_) #[T_,T_,T_,T_,T_,T_,T_,T_,T_,T_,T_,F_,F_,F_,F_,F_,F_,F_,F_,F_,F_,F_,F_,F_,F_,F_,F_] rfl rfl (any_of HT_.out (by kernel_rfl)) (fun _ _ _ h => h) (Or.inr ⟨by rfl, rfl⟩) ?_ ?_
                rotate_left
                ·
                 exact zp_
                refine pure_ (i := 11) (N := some 78) (v := undef) (a' := ?_) #[T_,T_,T_,T_,T_,T_,T_,T_,T_,T_,T_,T_,F_,F_,F_,F_,F_,F_,F_,F_,F_,F_,F_,F_,F_,F_,F_] rfl rfl (any_of HT_.out (by kernel_rfl)) (fun _ _ _ h => h) (Or.inr ⟨by rfl, rfl⟩) ?_ ?_
                rotate_left
                ·
                 exact zp_
                refine pure_ (i := 12) (N := some 79) (v := undef) (a' := ?_) #[T_,T_,T_,T_,T_,T_,T_,T_,T_,T_,T_,T_,T_,F_,F_,F_,F_,F_,F_,F_,F_,F_,F_,F_,F_,F_,F_] rfl rfl (any_of HT_.out (by kernel_rfl)) (fun _ _ _ h => h) (Or.inr ⟨by rfl, rfl⟩) ?_ ?_
                rotate_left
                ·
                 exact zp_
                refine pure_ (i := 13) (N := some 80) (v := undef) (a' := ?_) #[T_,T_,T_,T_,T_,T_,T_,T_,T_,T_,T_,T_,T_,T_,F_,F_,F_,F_,F_,F_,F_,F_,F_,F_,F_,F_,F_] rfl rfl (any_of HT_.out (by kernel_rfl)) (fun _ _ _ h => h) (Or.inr ⟨by rfl, rfl⟩) ?_ ?_
                rotate_left
                ·
                 exact zp_
                refine pure_ (i := 14) (N := some 81) (v := undef) (a' := ?_) #[T_,T_,T_,T_,T_,T_,T_,T_,T_,T_,T_,T_,T_,T_,T_,F_,F_,F_,F_,F_,F_,F_,F_,F_,F_,F_,F_] rfl rfl (any_of HT_.out (by kernel_rfl)) (fun _ _ _ h => h) (Or.inr ⟨by rfl, rfl⟩) ?_ ?_
                rotate_left
                ·
                 exact zp_
                refine pure_ (i := 15) (N := some 82) (v := undef) (a' := ?_) #[T_,T_,T_,T_,T_,T_,T_,T_,T_,T_,T_,T_,T_,T_,T_,T_,F_,F_,F_,F_,F_,F_,F_,F_,F_,F_,F_] rfl rfl (any_of HT_.out (by kernel_rfl)) (fun _ _ _ h => h) (Or.inr ⟨by rfl, rfl⟩) ?_ ?_
                rotate_left
                ·
                 exact zp_
                refine pure_ (i := 16) (N := some 83) (v := undef) (a' := ?_) #[T_,T_,T_,T_,T_,T_,T_,T_,T_,T_,T_,T_,T_,T_,T_,T_,T_,F_,F_,F_,F_,F_,F_,F_,F_,F_,F_] rfl rfl (any_of HT_.out (by kernel_rfl)) (fun _ _ _ h => h) (Or.inr ⟨by rfl, rfl⟩) ?_ ?_
                rotate_left
                ·
                 exact zp_
                refine pure_ (i := 17) (N := some 84) (v := undef) (a' := ?_) #[T_,T_,T_,T_,T_,T_,T_,T_,T_,T_,T_,T_,T_,T_,T_,T_,T_,T_,F_,F_,F_,F_,F_,F_,F_,F_,F_] rfl rfl (any_of HT_.out (by kernel_rfl)) (fun _ _ _ h => h) (Or.inr ⟨by rfl, rfl⟩) ?_ ?_
                rotate_left
                ·
                 exact zp_
                refine pure_ (i := 18) (N := some 85) (v := undef) (a' := ?_) #[T_,T_,T_,T_,T_,T_,T_,T_,T_,T_,T_,T_,T_,T_,T_,T_,T_,T_,T_,F_,F_,F_,F_,F_,F_,F_,F_] rfl rfl (any_of HT_.out (by kernel_rfl)) (fun _ _ _ h => h) (Or.inr ⟨by rfl, rfl⟩) ?_ ?_
                rotate_left
                ·
                 exact zp_
                refine pure_ (i := 19) (N := some 86) (v := undef) (a' := ?_) #[T_,T_,T_,T_,T_,T_,T_,T_,T_,T_,T_,T_,T_,T_,T_,T_,T_,T_,T_,T_,F_,F_,F_,F_,F_,F_,F_] rfl rfl (any_of HT_.out (by kernel_rfl)) (fun _ _ _ h => h) (Or.inr ⟨by rfl, rfl⟩) ?_ ?_
                rotate_left
                ·
                 exact zp_
                refine pure_ (i := 20) (N := some 87) (v := undef) (a' := ?_) #[T_,T_,T_,T_,T_,T_,T_,T_,T_,T_,T_,T_,T_,T_,T_,T_,T_,T_,T_,T_,T_,F_,F_,F_,F_,F_,F_] rfl rfl (any_of HT_.out (by kernel_rfl)) (fun _ _ _ h => h) (Or.inr ⟨by rfl, rfl⟩) ?_ ?_
                rotate_left
                ·
                 exact zp_
                refine pure_ (i := 21) (N := some 88) (v := undef) (a' := ?_) #[T_,T_,T_,T_,T_,T_,T_,T_,T_,T_,T_,T_,T_,T_,T_,T_,T_,T_,T_,T_,T_,T_,F_,F_,F_,F_,F_] rfl rfl (any_of HT_.out (by kernel_rfl)) (fun _ _ _ h => h) (Or.inr ⟨by rfl, rfl⟩) ?_ ?_
                rotate_left
                ·
                 exact zp_
                refine pure_ (i := 22) (N := some 89) (v := undef) (a' := ?_) #[T_,T_,T_,T_,T_,T_,T_,T_,T_,T_,T_,T_,T_,T_,T_,T_,T_,T_,T_,T_,T_,T_,T_,F_,F_,F_,F_] rfl rfl (any_of HT_.out (by kernel_rfl)) (fun _ _ _ h => h) (Or.inr ⟨by rfl, rfl⟩) ?_ ?_
                rotate_left
                ·
                 exact zp_
                refine pure_ (i := 23) (N := some 90) (v := undef) (a' := ?_) #[T_,T_,T_,T_,T_,T_,T_,T_,T_,T_,T_,T_,T_,T_,T_,T_,T_,T_,T_,T_,T_,T_,T_,T_,F_,F_,F_] rfl rfl (any_of HT_.out (by kernel_rfl)) (fun _ _ _ h => h) (Or.inr ⟨by rfl, rfl⟩) ?_ ?_
                rotate_left
                ·
                 exact zp_
                refine pure_ (i := 24) (N := some 91) (v := undef) (a' := ?_) #[T_,T_,T_,T_,T_,T_,T_,T_,T_,T_,T_,T_,T_,T_,T_,T_,T_,T_,T_,T_,T_,T_,T_,T_,T_,F_,F_] rfl rfl (any_of HT_.out (by kernel_rfl)) (fun _ _ _ h => h) (Or.inr ⟨by rfl, rfl⟩) ?_ ?_
                rotate_left
                ·
                 exact zp_
                refine pure_ (i := 25) (N := some 92) (v := undef) (a' := ?_) #[T_,T_,T_,T_,T_,T_,T_,T_,T_,T_,T_,T_,T_,T_,T_,T_,T_,T_,T_,T_,T_,T_,T_,T_,T_,T_,F_] rfl rfl (any_of HT_.out (by kernel_rfl)) (fun _ _ _ h => h) (Or.inr ⟨by rfl, rfl⟩) ?_ ?_
                rotate_left
                ·
                 exact zp_
                refine pure_ (i := 26) (N := some 93) (v := ?_) (a' := ?_) #[T_,T_,T_,T_,T_,T_,T_,T_,T_,T_,T_,T_,T_,T_,T_,T_,T_,T_,T_,T_,T_,T_,T_,T_,T_,T_,T_] rfl rfl (any_of HT_.out (by kernel_rfl)) (fun _ _ _ h => h) (Or.inl ⟨by rfl, ?_⟩) ?_ ?_
                rotate_left
                ·
                 intro w'; go_simp; with_reducible rfl
                rotate_left
                ·
                 exact zp_
                refine done_ (done_of HT_.out (by kernel_rfl)) ?_
                (try clear hHeld); (try clear HS0_); (try clear HS1_); (try clear HS2_); (try clear HS3_); (try clear HS4_); (try clear HS5_); (try clear HS6_); (try clear HS7_); (try clear HS8_); (try clear HS9_); (try clear HS10_); (try clear HS11_)
                try go_wp2
                go_ret
                exact ⟨by first | rfl | (simp [errW_none, errW_some] <;> rfl) | (simp [*, errW_none, errW_some] <;> rfl), by repeat (first | (with_reducible first | exact HB.out | apply below_alloc | apply pw_below_drewN | apply below_drew1) | exact HB.out)⟩
               ·
                replace c48 := Bool.eq_false_iff.mpr c48
                subst c48
                have H1 : (if x10_4 > (t932.length : Int) then (if 0 ≤ (wrap64 (x10_4 - 1)) then (if (wrap64 (x10_4 - 1)) < (t935.length : Int) then ((folkmootref05_Less.f k4 ((rd_T27 t935 (wrap64 (x10_4 - 1))).f0.f0) ((rd_T27 t935 (wrap64 (x10_4 - 1))).f0.f1) ((rd_T27 t935 (wrap64 (x10_4 - 1))).f1) ((rd_T27 t935 (wrap64 (x10_4 - 1))).f2) ((rd_T27 t935 x10_4).f0.f0) ((rd_T27 t935 x10_4).f0.f1) ((rd_T27 t935 x10_4).f1) ((rd_T27 t935 x10_4).f2)).bind fun t958 => (if t958 = true then (folkmootlaw16_ExchangeFull.l1 k4 t932 t935 (wrap64 (x10_4 + 1))) else (some false))) else (none)) else (none)) else (folkmootlaw16_ExchangeFull.l1 k4 t932 t935 (wrap64 (x10_4 + 1)))) = some r := by rw [if_neg (show ¬ (false = true) by decide)] at H; exact H
                clear H
                have H := H1
                clear H1
                by_cases c53 : x10_4 > (t932.length : Int)
                ·
                 rw [if_pos c53] at H
                 have c53b0 : decide ((t932.length : Int) < x10_4) = true := decide_eq_true c53
                 clear c53
                 obtain ⟨ji54, hji54⟩ : ∃ j_ : Int, (wrap64 (x10_4 - 1)) = j_ := ⟨_, rfl⟩
                 replace H : (if 0 ≤ (ji54) then (if (ji54) < (t935.length : Int) then ((folkmootref05_Less.f k4 ((rd_T27 t935 (ji54)).f0.f0) ((rd_T27 t935 (ji54)).f0.f1) ((rd_T27 t935 (ji54)).f1) ((rd_T27 t935 (ji54)).f2) ((rd_T27 t935 x10_4).f0.f0) ((rd_T27 t935 x10_4).f0.f1) ((rd_T27 t935 x10_4).f1) ((rd_T27 t935 x10_4).f2)).bind fun t958 => (if t958 = true then (folkmootlaw16_ExchangeFull.l1 k4 t932 t935 (wrap64 (x10_4 + 1))) else (some false))) else (none)) else (none)) = some r := by first | (rw [hji54] at H; exact H) | (simp only [hji54] at H ⊢; exact H)
                 (try rw [hji54] at A47)
                 have hji54w : (IntKind.i64.wrap (x10_4 - 1)) = ji54 := (i64_w _).trans hji54
                 by_cases c55 : 0 ≤ (ji54)
                 ·
                  rw [if_pos c55] at H
                  have c55b0 : decide (0 ≤ (ji54)) = true := decide_eq_true c55
                  clear c55
                  by_cases c56 : (ji54) < (t935.length : Int)
                  ·
                   rw [if_pos c56] at H
                   have c56b0 : decide ((ji54) < (t935.length : Int)) = true := decide_eq_true c56
                   clear c56
                   replace H := Option.bind_eq_some_iff.mp H
                   obtain ⟨t958, A570, H⟩ := H
                   replace H : (if t958 = true then (folkmootlaw16_ExchangeFull.l1 k4 t932 t935 (wrap64 (x10_4 + 1))) else (some false)) = some r := H
                   have A57 := Aside0.mk A570
                   clear A570
                   by_cases c58 : t958 = true
                   ·
                    subst c58
                    have H1 : (folkmootlaw16_ExchangeFull.l1 k4 t932 t935 (wrap64 (x10_4 + 1))) = some r := by rw [if_pos rfl] at H; exact H
                    clear H
                    have H := H1
                    clear H1
                    have H' := Aside0.mk H
                    clear H
                    obtain ⟨Ao59, co59, eo59⟩ := Kd.R_slice HO_7.out
                    subst eo59
                    try go_wp2
                    have n0_ := Aside0.mk (Kd.R_drew HO_6.out)
                    have n1_ := Aside0.mk (Kd.R_drew HO_7.out)
                    have n2_ := Aside0.mk (below_drew1 HB.out)
                    clear HO_6
                    clear HO_7
                    clear HB
                    have HO_6 := n0_
                    have HO_7 := n1_
                    have HB := n2_
                    clear n0_ n1_ n2_
                    have q61 : (x10_4 : Int) ≤ ((t935.length : Int) : Int) := of_decide_eq_true zs_
                    obtain ⟨i061, hi061, _, hsz61, _⟩ := info_parts info27
                    have hroom61 : t935.length ≤ co59 := (Kd.R_reads' HO_7.out).2.1
                    have hC61 : Kd.F k27 _ _ Ao59 t935.length t935 := (Kd.V_at (base := w.heap.size) (Kd.R_V HO_7.out)).2.2
                    have hcut61 := cut_to (P := Try.prog) 41 27 .i64 Try.underlying41 hi061 Ao59 t935.length co59 x10_4 (of_decide_eq_true zs_) q61 hroom61
                    have hr61 := Kd.F_take (m := (x10_4 : Int).toNat) hC61 (by omega)
                    have hy61 : y949.length = (x10_4 : Int).toNat := (by rw [Ny949.out, List.length_take]; omega)
                    rw [← Ny949.out] at hr61
                    rw [← hy61] at hcut61
                    have HO953 := Aside0.mk (show Kd.V k27 27 _ w.heap.size _ (.slice Ao59 y949.length co59) y949 from Kd.V_mk (by omega) hr61)
                    have HC953 := Aside0.mk (show y949.length ≤ co59 from by omega)
                    clear hr61 hC61 hroom61 hi061 hsz61
                    have KY61 := Aside0.mk hy61
                    clear hy61
                    replace q61 := eq_true q61
                    have p954 : 0 ≤ (x10_4 : Int) := of_decide_eq_true zs_
                    have q954 : x10_4 < (t935.length : Int) := of_decide_eq_true zs_
                    obtain ⟨ad954, e954, hx954_0, hx954_1, hx954_2, hx954_3⟩ := at_T27 (Kd.R_reads' HO_7.out).2.2 x10_4 p954 q954
                    cases e954
                    replace p954 := eq_true p954
                    replace q954 := eq_true q954
                    have p956 : 0 ≤ ((ji54) : Int) := of_decide_eq_true zs_
                    have q956 : (ji54) < (t935.length : Int) := of_decide_eq_true zs_
                    obtain ⟨ad956, e956, hx956_0, hx956_1, hx956_2, hx956_3⟩ := at_T27 (Kd.R_reads' HO_7.out).2.2 (ji54) p956 q956
                    obtain rfl : ad954 = ad956 := (by injection e956)
                    replace p956 := eq_true p956
                    replace q956 := eq_true q956
                    have p957 : 0 ≤ (x10_4 : Int) := of_decide_eq_true zs_
                    have q957 : x10_4 < (t935.length : Int) := of_decide_eq_true zs_
                    obtain ⟨ad957, e957, hx957_0, hx957_1, hx957_2, hx957_3⟩ := at_T27 (Kd.R_reads' HO_7.out).2.2 x10_4 p957 q957
                    obtain rfl : ad954 = ad957 := (by injection e957)
                    replace p957 := eq_true p957
                    replace q957 := eq_true q957
                    refine start_ (n := 27) (S := fun w' => w'.cell? (ad954.add ((x10_4).toNat * 4)) = some (.int .u64 ((rd_T27 t935 x10_4).f0.f0)) ∧ w'.cell? ⟨(ad954.add ((x10_4).toNat * 4)).block, (ad954.add ((x10_4).toNat * 4)).off + 1, none⟩ = some (.int .i64 ((rd_T27 t935 x10_4).f0.f1)) ∧ w'.cell? ⟨(ad954.add ((x10_4).toNat * 4)).block, (ad954.add ((x10_4).toNat * 4)).off + 2, none⟩ = some (.int .u64 ((rd_T27 t935 x10_4).f1)) ∧ w'.cell? ⟨(ad954.add ((x10_4).toNat * 4)).block, (ad954.add ((x10_4).toNat * 4)).off + 3, none⟩ = some (.int .i64 ((rd_T27 t935 x10_4).f2)) ∧ w'.cell? (ad954.add (((ji54)).toNat * 4)) = some (.int .u64 ((rd_T27 t935 (ji54)).f0.f0)) ∧ w'.cell? ⟨(ad954.add (((ji54)).toNat * 4)).block, (ad954.add (((ji54)).toNat * 4)).off + 1, none⟩ = some (.int .i64 ((rd_T27 t935 (ji54)).f0.f1)) ∧ w'.cell? ⟨(ad954.add (((ji54)).toNat * 4)).block, (ad954.add (((ji54)).toNat * 4)).off + 2, none⟩ = some (.int .u64 ((rd_T27 t935 (ji54)).f1)) ∧ w'.cell? ⟨(ad954.add (((ji54)).toNat * 4)).block, (ad954.add (((ji54)).toNat * 4)).off + 3, none⟩ = some (.int .i64 ((rd_T27 t935 (ji54)).f2)) ∧ w'.cell? (ad954.add ((x10_4).toNat * 4)) = some (.int .u64 ((rd_T27 t935 x10_4).f0.f0)) ∧ w'.cell? ⟨(ad954.add ((x10_4).toNat * 4)).block, (ad954.add ((x10_4).toNat * 4)).off + 1, none⟩ = some (.int .i64 ((rd_T27 t935 x10_4).f0.f1)) ∧ w'.cell? ⟨(ad954.add ((x10_4).toNat * 4)).block, (ad954.add ((x10_4).toNat * 4)).off + 2, none⟩ = some (.int .u64 ((rd_T27 t935 x10_4).f1)) ∧ w'.cell? ⟨(ad954.add ((x10_4).toNat * 4)).block, (ad954.add ((x10_4).toNat * 4)).off + 3, none⟩ = some (.int .i64 ((rd_T27 t935 x10_4).f2))) (ds := []) #[F_,F_,F_,F_,F_,F_,F_,F_,F_,F_,F_,F_,F_,F_,F_,F_,F_,F_,F_,F_,F_,F_,F_,F_,F_,F_,F_] (by kernel_rfl) rfl rfl ⟨hx954_0, hx954_1, hx954_2, hx954_3, hx956_0, hx956_1, hx956_2, hx956_3, hx957_0, hx957_1, hx957_2, hx957_3⟩ (fun hHeld => ?_); refine with_tabW folkmootlaw16_ExchangeFull.tab17 folkmootlaw16_ExchangeFull.bits17 (fun HT_ HW_ => ?_)
                    generalize wr.drew = w60 at HO_6 HO_7 HB HO953 hx954_0 hx954_1 hx954_2 hx954_3 hx956_0 hx956_1 hx956_2 hx956_3 hx957_0 hx957_1 hx957_2 hx957_3 hHeld ⊢
                    refine pure_ (i := 0) (N := some 67) (v := ?_) (a' := ?_) #[T_,F_,F_,F_,F_,F_,F_,F_,F_,F_,F_,F_,F_,F_,F_,F_,F_,F_,F_,F_,F_,F_,F_,F_,F_,F_,F_] rfl rfl (any_of HT_.out (by kernel_rfl)) (fun _ _ _ h => h) (Or.inl ⟨by rfl, ?_⟩) ?_ ?_
                    rotate_left
                    ·
                     intro w'; go_simp; with_reducible rfl
                    rotate_left
                    ·
                     exact zp_
                    refine pure_ (i := 1) (N := some 68) (v := ?_) (a' := ?_) #[T_,T_,F_,F_,F_,F_,F_,F_,F_,F_,F_,F_,F_,F_,F_,F_,F_,F_,F_,F_,F_,F_,F_,F_,F_,F_,F_] rfl rfl (any_of HT_.out (by kernel_rfl)) (fun _ _ _ h => h) (Or.inl ⟨by rfl, ?_⟩) ?_ ?_
                    rotate_left
                    ·
                     intro w'; go_simp; with_reducible rfl
                    rotate_left
                    ·
                     exact zp_
                    refine pure_ (i := 2) (N := some 69) (v := ?_) (a' := ?_) #[T_,T_,T_,F_,F_,F_,F_,F_,F_,F_,F_,F_,F_,F_,F_,F_,F_,F_,F_,F_,F_,F_,F_,F_,F_,F_,F_] rfl rfl (any_of HT_.out (by kernel_rfl)) (fun _ _ _ h => h) (Or.inl ⟨by rfl, ?_⟩) ?_ ?_
                    rotate_left
                    ·
                     intro w'; go_simp; with_reducible rfl
                    rotate_left
                    ·
                     exact zp_
                    refine pure_ (i := 3) (N := some 70) (v := ?_) (a' := ?_) #[T_,T_,T_,T_,F_,F_,F_,F_,F_,F_,F_,F_,F_,F_,F_,F_,F_,F_,F_,F_,F_,F_,F_,F_,F_,F_,F_] rfl rfl (any_of HT_.out (by kernel_rfl)) (fun _ _ _ h => h) (Or.inl ⟨by rfl, ?_⟩) ?_ ?_
                    rotate_left
                    ·
                     intro w'; go_simp; with_reducible rfl
                    rotate_left
                    ·
                     exact zp_
                    refine pure_ (i := 4) (N := some 71) (v := ?_) (a' := ?_) #[T_,T_,T_,T_,T_,F_,F_,F_,F_,F_,F_,F_,F_,F_,F_,F_,F_,F_,F_,F_,F_,F_,F_,F_,F_,F_,F_] rfl rfl (any_of HT_.out (by kernel_rfl)) (fun _ _ _ h => h) (Or.inl ⟨by rfl, ?_⟩) ?_ ?_
                    rotate_left
                    ·
                     intro w'; go_simp; with_reducible rfl
                    rotate_left
                    ·
                     exact zp_
                    refine pure_ (i := 5) (N := some 72) (v := ?_) (a' := ?_) #[T_,T_,T_,T_,T_,T_,F_,F_,F_,F_,F_,F_,F_,F_,F_,F_,F_,F_,F_,F_,F_,F_,F_,F_,F_,F_,F_] rfl rfl (any_of HT_.out (by kernel_rfl)) (fun _ _ _ h => h) (Or.inl ⟨by rfl, ?_⟩) ?_ ?_
                    rotate_left
                    ·
                     intro w'; go_simp; with_reducible rfl
                    rotate_left
                    ·
                     exact zp_
                    refine take_ (i := 6) (N := some 73) (v := ?_) (a' := ?_) #[T_,T_,T_,T_,T_,T_,T_,F_,F_,F_,F_,F_,F_,F_,F_,F_,F_,F_,F_,F_,F_,F_,F_,F_,F_,F_,F_] rfl rfl (take_ofW HT_.out HW_.out (by kernel_rfl)) (fun _ _ _ h => h) (Or.inl ⟨by rfl, ?_⟩) hHeld ?_ ?_
                    rotate_left
                    ·
                     rintro w' ⟨s0, s1, s2, s3, s4, s5, s6, s7, s8, s9, s10, s11⟩
                     go_simp
                     with_reducible rfl
                    rotate_left
                    ·
                     exact zp_
                    refine one_ (i := 7) (N := some 74) #[T_,T_,T_,T_,T_,T_,T_,T_,F_,F_,F_,F_,F_,F_,F_,F_,F_,F_,F_,F_,F_,F_,F_,F_,F_,F_,F_] rfl rfl (one_of HT_.out (by kernel_rfl)) (by decide) (fun K hK => ?_)
                    refine goes_ Try.func36 (by kernel_rfl) rfl #[.slice (some ad954) y949.length co59, .agg #[.int .u64 ((rd_T27 t935 x10_4).f0.f0), .int .i64 ((rd_T27 t935 x10_4).f0.f1), .int .u64 ((rd_T27 t935 x10_4).f1), .int .i64 ((rd_T27 t935 x10_4).f2)]] (by rfl) rfl rfl za_ ?_
                    with_reducible refine (folkmootref05_In.calls k4 _ _ y949 ((rd_T27 t935 x10_4).f0.f0) ((rd_T27 t935 x10_4).f0.f1) ((rd_T27 t935 x10_4).f1) ((rd_T27 t935 x10_4).f2) false _ ?side1 ?side2 A47.out).mono ?_
                    (case side1 => exact zd_ (Kd.V_reads' HO953.out).2.2)
                    (case side2 => exact (Kd.V_reads' HO953.out).2.1)
                    rintro e w62 ⟨rfl, hb⟩
                    have HS0_ := (hb.cell (World.block_lt_of_cell? _ _ (hHeld.1))).trans (hHeld.1)
                    have HS1_ := (hb.cell (World.block_lt_of_cell? _ _ (hHeld.2.1))).trans (hHeld.2.1)
                    have HS2_ := (hb.cell (World.block_lt_of_cell? _ _ (hHeld.2.2.1))).trans (hHeld.2.2.1)
                    have HS3_ := (hb.cell (World.block_lt_of_cell? _ _ (hHeld.2.2.2.1))).trans (hHeld.2.2.2.1)
                    have HS4_ := (hb.cell (World.block_lt_of_cell? _ _ (hHeld.2.2.2.2.1))).trans (hHeld.2.2.2.2.1)
                    have HS5_ := (hb.cell (World.block_lt_of_cell? _ _ (hHeld.2.2.2.2.2.1))).trans (hHeld.2.2.2.2.2.1)
                    have HS6_ := (hb.cell (World.block_lt_of_cell? _ _ (hHeld.2.2.2.2.2.2.1))).trans (hHeld.2.2.2.2.2.2.1)
                    have HS7_ := (hb.cell (World.block_lt_of_cell? _ _ (hHeld.2.2.2.2.2.2.2.1))).trans (hHeld.2.2.2.2.2.2.2.1)
                    have HS8_ := (hb.cell (World.block_lt_of_cell? _ _ (hHeld.2.2.2.2.2.2.2.2.1))).trans (hHeld.2.2.2.2.2.2.2.2.1)
                    have HS9_ := (hb.cell (World.block_lt_of_cell? _ _ (hHeld.2.2.2.2.2.2.2.2.2.1))).trans (hHeld.2.2.2.2.2.2.2.2.2.1)
                    have HS10_ := (hb.cell (World.block_lt_of_cell? _ _ (hHeld.2.2.2.2.2.2.2.2.2.2.1))).trans (hHeld.2.2.2.2.2.2.2.2.2.2.1)
                    have HS11_ := (hb.cell (World.block_lt_of_cell? _ _ (hHeld.2.2.2.2.2.2.2.2.2.2.2))).trans (hHeld.2.2.2.2.2.2.2.2.2.2.2)
                    refine ⟨_, rfl, ?_⟩
                    have n0_ := Aside0.mk (Kd.R_below (zr_ HO_6) hb)
                    have n1_ := Aside0.mk (Kd.R_below (zr_ HO_7) hb)
                    have n2_ := Aside0.mk (Kd.V_below (zv_ HO953) hb)
                    have n3_ := Aside0.mk (below_step zb_ hb)
                    clear HO_6
                    clear HO_7
                    clear HO953
                    clear HB
                    have HO_6 := n0_
                    have HO_7 := n1_
                    have HO953 := n2_
                    have HB := n3_
                    clear n0_ n1_ n2_ n3_
                    (try clear hb)
                    (try clear hb2)
                    (try clear hk)
                    (try clear hi)
                    refine hK.out _ _ ⟨HS0_, HS1_, HS2_, HS3_, HS4_, HS5_, HS6_, HS7_, HS8_, HS9_, HS10_, HS11_⟩ (fun hHeld => ?_)
                    clear hK K
                    refine norm_ (a' := ?_) ?_ ?_
                    rotate_left
                    ·
                     show Act.put _ (some 74) _ = _
                     simp only [Act.put, List.setIfInBounds_toArray, List.set_cons_zero, List.set_cons_succ, i64_w, i32_w]
                     rfl
                    refine pure_ (i := 8) (N := some 75) (v := ?_) (a' := ?_) #[T_,T_,T_,T_,T_,T_,T_,T_,T_,F_,F_,F_,F_,F_,F_,F_,F_,F_,F_,F_,F_,F_,F_,F_,F_,F_,F_] rfl rfl (any_of HT_.out (by kernel_rfl)) (fun _ _ _ h => h) (Or.inl ⟨by rfl, ?_⟩) ?_ ?_
                    rotate_left
                    ·
                     intro w'; go_simp; with_reducible rfl
                    rotate_left
                    ·
                     exact zp_
                    refine pure_ (i := 9) (N := some 76) (v := ?_) (a' := ?_) #[T_,T_,T_,T_,T_,T_,T_,T_,T_,T_,F_,F_,F_,F_,F_,F_,F_,F_,F_,F_,F_,F_,F_,F_,F_,F_,F_] rfl rfl (any_of HT_.out (by kernel_rfl)) (fun _ _ _ h => h) (Or.inl ⟨by rfl, ?_⟩) ?_ ?_
                    rotate_left
                    ·
                     intro w'; go_simp; with_reducible rfl
                    rotate_left
                    ·
                     exact zp_
                    refine pure_ (i := 10) (N := some 77) (v := ?_) (a' := ?_) #[T_,T_,T_,T_,T_,T_,T_,T_,T_,T_,T_,F_,F_,F_,F_,F_,F_,F_,F_,F_,F_,F_,F_,F_,F_,F_,F_] rfl rfl (any_of HT_.out (by kernel_rfl)) (fun _ _ _ h => h) (Or.inl ⟨by rfl, ?_⟩) ?_ ?_
                    rotate_left
                    ·
                     intro w'; go_simp; with_reducible rfl
                    rotate_left
                    ·
                     exact zp_
                    refine pure_ (i := 11) (N := some 78) (v := ?_) (a' := ?_) #[T_,T_,T_,T_,T_,T_,T_,T_,T_,T_,T_,T_,F_,F_,F_,F_,F_,F_,F_,F_,F_,F_,F_,F_,F_,F_,F_] rfl rfl (any_of HT_.out (by kernel_rfl)) (fun _ _ _ h => h) (Or.inl ⟨by rfl, ?_⟩) ?_ ?_
                    rotate_left
                    ·
                     intro w'; go_simp; with_reducible rfl
                    rotate_left
                    ·
                     exact zp_
                    refine pure_ (i := 12) (N := some 79) (v := ?_) (a' := ?_) #[T_,T_,T_,T_,T_,T_,T_,T_,T_,T_,T_,T_,T_,F_,F_,F_,F_,F_,F_,F_,F_,F_,F_,F_,F_,F_,F_] rfl rfl (any_of HT_.out (by kernel_rfl)) (fun _ _ _ h => h) (Or.inl ⟨by rfl, ?_⟩) ?_ ?_
                    rotate_left
                    ·
                     intro w'; go_simp; with_reducible rfl
                    rotate_left
                    ·
                     exact zp_
                    refine pure_ (i := 13) (N := some 80) (v := ?_) (a' := ?_) #[T_,T_,T_,T_,T_,T_,T_,T_,T_,T_,T_,T_,T_,T_,F_,F_,F_,F_,F_,F_,F_,F_,F_,F_,F_,F_,F_] rfl rfl (any_of HT_.out (by kernel_rfl)) (fun _ _ _ h => h) (Or.inl ⟨by rfl, ?_⟩) ?_ ?_
                    rotate_left
                    ·
                     intro w'; go_simp; with_reducible rfl
                    rotate_left
                    ·
                     exact zp_
                    refine pure_ (i := 14) (N := some 81) (v := ?_) (a' := ?_) #[T_,T_,T_,T_,T_,T_,T_,T_,T_,T_,T_,T_,T_,T_,T_,F_,F_,F_,F_,F_,F_,F_,F_,F_,F_,F_,F_] rfl rfl (any_of HT_.out (by kernel_rfl)) (fun _ _ _ h => h) (Or.inl ⟨by rfl, ?_⟩) ?_ ?_
                    rotate_left
                    ·
                     intro w'; go_simp; with_reducible rfl
                    rotate_left
                    ·
                     exact zp_
                    refine pure_ (i := 15) (N := some 82) (v := ?_) (a' := ?_) #[T_,T_,T_,T_,T_,T_,T_,T_,T_,T_,T_,T_,T_,T_,T_,T_,F_,F_,F_,F_,F_,F_,F_,F_,F_,F_,F_] rfl rfl (any_of HT_.out (by kernel_rfl)) (fun _ _ _ h => h) (Or.inl ⟨by rfl, ?_⟩) ?_ ?_
                    rotate_left
                    ·
                     intro w'; go_simp; with_reducible rfl
                    rotate_left
                    ·
                     exact zp_
                    refine pure_ (i := 16) (N := some 83) (v := ?_) (a' := ?_) #[T_,T_,T_,T_,T_,T_,T_,T_,T_,T_,T_,T_,T_,T_,T_,T_,T_,F_,F_,F_,F_,F_,F_,F_,F_,F_,F_] rfl rfl (any_of HT_.out (by kernel_rfl)) (fun _ _ _ h => h) (Or.inl ⟨by rfl, ?_⟩) ?_ ?_
                    rotate_left
                    ·
                     intro w'; go_simp; with_reducible rfl
                    rotate_left
                    ·
                     exact zp_
                    refine pure_ (i := 17) (N := some 84) (v := ?_) (a' := ?_) #[T_,T_,T_,T_,T_,T_,T_,T_,T_,T_,T_,T_,T_,T_,T_,T_,T_,T_,F_,F_,F_,F_,F_,F_,F_,F_,F_] rfl rfl (any_of HT_.out (by kernel_rfl)) (fun _ _ _ h => h) (Or.inl ⟨by rfl, ?_⟩) ?_ ?_
                    rotate_left
                    ·
                     intro w'; go_simp; with_reducible rfl
                    rotate_left
                    ·
                     exact zp_
                    refine pure_ (i := 19) (N := some 86) (v := ?_) (a' := ?_) #[T_,T_,T_,T_,T_,T_,T_,T_,T_,T_,T_,T_,T_,T_,T_,T_,T_,T_,F_,T_,F_,F_,F_,F_,F_,F_,F_] rfl rfl (any_of HT_.out (by kernel_rfl)) (fun _ _ _ h => h) (Or.inl ⟨by rfl, ?_⟩) ?_ ?_
                    rotate_left
                    ·
                     intro w'; go_simp; with_reducible rfl
                    rotate_left
                    ·
                     exact zp_
                    refine pure_ (i := 20) (N := some 87) (v := ?_) (a' := ?_) #[T_,T_,T_,T_,T_,T_,T_,T_,T_,T_,T_,T_,T_,T_,T_,T_,T_,T_,F_,T_,T_,F_,F_,F_,F_,F_,F_] rfl rfl (any_of HT_.out (by kernel_rfl)) (fun _ _ _ h => h) (Or.inl ⟨by rfl, ?_⟩) ?_ ?_
                    rotate_left
                    ·
                     intro w'; go_simp; with_reducible rfl
                    rotate_left
                    ·
                     exact zp_
                    refine pure_ (i := 21) (N := some 88) (v := ?_) (a' := ?_) #[T_,T_,T_,T_,T_,T_,T_,T_,T_,T_,T_,T_,T_,T_,T_,T_,T_,T_,F_,T_,T_,T_,F_,F_,F_,F_,F_] rfl rfl (any_of HT_.out (by kernel_rfl)) (fun _ _ _ h => h) (Or.inl ⟨by rfl, ?_⟩) ?_ ?_
                    rotate_left
                    ·
                     intro w'; go_simp; with_reducible rfl
                    rotate_left
                    ·
                     exact zp_
                    refine take_ (i := 18) (N := some 85) (v := ?_) (a' := ?_) #[T_,T_,T_,T_,T_,T_,T_,T_,T_,T_,T_,T_,T_,T_,T_,T_,T_,T_,T_,T_,T_,T_,F_,F_,F_,F_,F_] rfl rfl (take_ofW HT_.out HW_.out (by kernel_rfl)) (fun _ _ _ h => h) (Or.inl ⟨by rfl, ?_⟩) hHeld ?_ ?_
                    rotate_left
                    ·
                     rintro w' ⟨s0, s1, s2, s3, s4, s5, s6, s7, s8, s9, s10, s11⟩
                     go_simp
                     with_reducible rfl
                    rotate_left
                    ·
                     exact zp_
                    refine take_ (i := 22) (N := some 89) (v := ?_) (a' := ?_) #[T_,T_,T_,T_,T_,T_,T_,T_,T_,T_,T_,T_,T_,T_,T_,T_,T_,T_,T_,T_,T_,T_,T_,F_,F_,F_,F_] rfl rfl (take_ofW HT_.out HW_.out (by kernel_rfl)) (fun _ _ _ h => h) (Or.inl ⟨by rfl, ?_⟩) hHeld ?_ ?_
                    rotate_left
                    ·
                     rintro w' ⟨s0, s1, s2, s3, s4, s5, s6, s7, s8, s9, s10, s11⟩
                     go_simp
                     with_reducible rfl
                    rotate_left
                    ·
                     exact zp_
                    refine one_ (i := 23) (N := some 90) #[T_,T_,T_,T_,T_,T_,T_,T_,T_,T_,T_,T_,T_,T_,T_,T_,T_,T_,T_,T_,T_,T_,T_,T_,F_,F_,F_] rfl rfl (one_of HT_.out (by kernel_rfl)) (by decide) (fun K hK => ?_)
                    refine goes_ Try.func43 (by kernel_rfl) rfl #[.agg #[.int .u64 ((rd_T27 t935 (ji54)).f0.f0), .int .i64 ((rd_T27 t935 (ji54)).f0.f1), .int .u64 ((rd_T27 t935 (ji54)).f1), .int .i64 ((rd_T27 t935 (ji54)).f2)], .agg #[.int .u64 ((rd_T27 t935 x10_4).f0.f0), .int .i64 ((rd_T27 t935 x10_4).f0.f1), .int .u64 ((rd_T27 t935 x10_4).f1), .int .i64 ((rd_T27 t935 x10_4).f2)]] (by rfl) rfl rfl (by (try simp only [List.map_toArray, List.map_cons, List.map_nil]); first | done | (simp only [hji54]; rfl) | rfl | (simp only [List.length_drop, List.length_take]; rfl)) ?_
                    with_reducible refine (folkmootref05_Less.calls k4 ((rd_T27 t935 (ji54)).f0.f0) ((rd_T27 t935 (ji54)).f0.f1) ((rd_T27 t935 (ji54)).f1) ((rd_T27 t935 (ji54)).f2) ((rd_T27 t935 x10_4).f0.f0) ((rd_T27 t935 x10_4).f0.f1) ((rd_T27 t935 x10_4).f1) ((rd_T27 t935 x10_4).f2) true _ A57.out).mono ?_
                    rintro e w63 ⟨rfl, hb⟩
                    have HS0_ := (hb.cell (World.block_lt_of_cell? _ _ (hHeld.1))).trans (hHeld.1)
                    have HS1_ := (hb.cell (World.block_lt_of_cell? _ _ (hHeld.2.1))).trans (hHeld.2.1)
                    have HS2_ := (hb.cell (World.block_lt_of_cell? _ _ (hHeld.2.2.1))).trans (hHeld.2.2.1)
                    have HS3_ := (hb.cell (World.block_lt_of_cell? _ _ (hHeld.2.2.2.1))).trans (hHeld.2.2.2.1)
                    have HS4_ := (hb.cell (World.block_lt_of_cell? _ _ (hHeld.2.2.2.2.1))).trans (hHeld.2.2.2.2.1)
                    have HS5_ := (hb.cell (World.block_lt_of_cell? _ _ (hHeld.2.2.2.2.2.1))).trans (hHeld.2.2.2.2.2.1)
                    have HS6_ := (hb.cell (World.block_lt_of_cell? _ _ (hHeld.2.2.2.2.2.2.1))).trans (hHeld.2.2.2.2.2.2.1)
                    have HS7_ := (hb.cell (World.block_lt_of_cell? _ _ (hHeld.2.2.2.2.2.2.2.1))).trans (hHeld.2.2.2.2.2.2.2.1)
                    have HS8_ := (hb.cell (World.block_lt_of_cell? _ _ (hHeld.2.2.2.2.2.2.2.2.1))).trans (hHeld.2.2.2.2.2.2.2.2.1)
                    have HS9_ := (hb.cell (World.block_lt_of_cell? _ _ (hHeld.2.2.2.2.2.2.2.2.2.1))).trans (hHeld.2.2.2.2.2.2.2.2.2.1)
                    have HS10_ := (hb.cell (World.block_lt_of_cell? _ _ (hHeld.2.2.2.2.2.2.2.2.2.2.1))).trans (hHeld.2.2.2.2.2.2.2.2.2.2.1)
                    have HS11_ := (hb.cell (World.block_lt_of_cell? _ _ (hHeld.2.2.2.2.2.2.2.2.2.2.2))).trans (hHeld.2.2.2.2.2.2.2.2.2.2.2)
                    refine ⟨_, rfl, ?_⟩
                    have n0_ := Aside0.mk (Kd.R_below (zr_ HO_6) hb)
                    have n1_ := Aside0.mk (Kd.R_below (zr_ HO_7) hb)
                    have n2_ := Aside0.mk (Kd.V_below (zv_ HO953) hb)
                    have n3_ := Aside0.mk (below_step zb_ hb)
                    clear HO_6
                    clear HO_7
                    clear HO953
                    clear HB
                    have HO_6 := n0_
                    have HO_7 := n1_
                    have HO953 := n2_
                    have HB := n3_
                    clear n0_ n1_ n2_ n3_
                    (try clear hb)
                    (try clear hb2)
                    (try clear hk)
                    (try clear hi)
                    refine hK.out _ _ ⟨HS0_, HS1_, HS2_, HS3_, HS4_, HS5_, HS6_, HS7_, HS8_, HS9_, HS10_, HS11_⟩ (fun hHeld => ?_)
                    clear hK K
                    refine norm_ (a' := ?_) ?_ ?_
                    rotate_left
                    ·
                     show Act.put _ (some 90) _ = _
                     simp only [Act.put, List.setIfInBounds_toArray, List.set_cons_zero, List.set_cons_succ, i64_w, i32_w]
                     rfl
                    refine pure_ (i := 24) (N := some 91) (v := ?_) (a' := ?_) #[T_,T_,T_,T_,T_,T_,T_,T_,T_,T_,T_,T_,T_,T_,T_,T_,T_,T_,T_,T_,T_,T_,T_,T_,T_,F_,F_] rfl rfl (any_of HT_.out (by kernel_rfl)) (fun _ _ _ h => h) (Or.inl ⟨by rfl, ?_⟩) ?_ ?_
                    rotate_left
                    ·
                     intro w'; go_simp; with_reducible rfl
                    rotate_left
                    ·
                     exact zp_
                    refine pure_ (i := 25) (N := some 92) (v := ?_) (a' := ?_) #[T_,T_,T_,T_,T_,T_,T_,T_,T_,T_,T_,T_,T_,T_,T_,T_,T_,T_,T_,T_,T_,T_,T_,T_,T_,T_,F_] rfl rfl (any_of HT_.out (by kernel_rfl)) (fun _ _ _ h => h) (Or.inl ⟨by rfl, ?_⟩) ?_ ?_
                    rotate_left
                    ·
                     intro w'; go_simp; with_reducible rfl
                    rotate_left
                    ·
                     exact zp_
                    refine pure_ (i := 26) (N := some 93) (v := ?_) (a' := ?_) #[T_,T_,T_,T_,T_,T_,T_,T_,T_,T_,T_,T_,T_,T_,T_,T_,T_,T_,T_,T_,T_,T_,T_,T_,T_,T_,T_] rfl rfl (any_of HT_.out (by kernel_rfl)) (fun _ _ _ h => h) (Or.inl ⟨by rfl, ?_⟩) ?_ ?_
                    rotate_left
                    ·
                     intro w'; go_simp; with_reducible rfl
                    rotate_left
                    ·
                     exact zp_
                    refine done_ (done_of HT_.out (by kernel_rfl)) ?_
                    (try clear hHeld); (try clear HS0_); (try clear HS1_); (try clear HS2_); (try clear HS3_); (try clear HS4_); (try clear HS5_); (try clear HS6_); (try clear HS7_); (try clear HS8_); (try clear HS9_); (try clear HS10_); (try clear HS11_)
                    try go_wp2
                    go_roundg k4
                    case measure => have := HJ1.out; have := HJ14.out; have := HK3.out; have := HK4.out; omega
                    case rel => exact ⟨(wrap64 (x10_4 + 1)), (by first | rfl | (simp; done) | (simp [*]; done)), H', ⟨by have := HJ1.out; have := HJ14.out; have := HK3.out; have := HK4.out; omega⟩, ⟨by (with_reducible repeat (first | apply Kd.R_alloc | apply Kd.R_drewN | apply Kd.R_drew)); exact HO_6.out⟩, ⟨by (with_reducible repeat (first | apply Kd.R_alloc | apply Kd.R_drewN | apply Kd.R_drew)); exact HO_7.out⟩, ⟨by repeat (first | (with_reducible first | exact HB.out | apply below_alloc | apply pw_below_drewN | apply below_drew1) | exact HB.out)⟩⟩
                   ·
                    replace c58 := Bool.eq_false_iff.mpr c58
                    subst c58
                    have H1 : (some false) = some r := by rw [if_neg (show ¬ (false = true) by decide)] at H; exact H
                    clear H
                    have H := H1
                    clear H1
                    obtain rfl := Option.some.inj H
                    obtain ⟨Ao64, co64, eo64⟩ := Kd.R_slice HO_7.out
                    subst eo64
                    try go_wp2
                    have n0_ := Aside0.mk (Kd.R_drew HO_6.out)
                    have n1_ := Aside0.mk (Kd.R_drew HO_7.out)
                    have n2_ := Aside0.mk (below_drew1 HB.out)
                    clear HO_6
                    clear HO_7
                    clear HB
                    have HO_6 := n0_
                    have HO_7 := n1_
                    have HB := n2_
                    clear n0_ n1_ n2_
                    have q66 : (x10_4 : Int) ≤ ((t935.length : Int) : Int) := of_decide_eq_true zs_
                    obtain ⟨i066, hi066, _, hsz66, _⟩ := info_parts info27
                    have hroom66 : t935.length ≤ co64 := (Kd.R_reads' HO_7.out).2.1
                    have hC66 : Kd.F k27 _ _ Ao64 t935.length t935 := (Kd.V_at (base := w.heap.size) (Kd.R_V HO_7.out)).2.2
                    have hcut66 := cut_to (P := Try.prog) 41 27 .i64 Try.underlying41 hi066 Ao64 t935.length co64 x10_4 (of_decide_eq_true zs_) q66 hroom66
                    have hr66 := Kd.F_take (m := (x10_4 : Int).toNat) hC66 (by omega)
                    have hy66 : y949.length = (x10_4 : Int).toNat := (by rw [Ny949.out, List.length_take]; omega)
                    rw [← Ny949.out] at hr66
                    rw [← hy66] at hcut66
                    have HO953 := Aside0.mk (show Kd.V k27 27 _ w.heap.size _ (.slice Ao64 y949.length co64) y949 from Kd.V_mk (by omega) hr66)
                    have HC953 := Aside0.mk (show y949.length ≤ co64 from by omega)
                    clear hr66 hC66 hroom66 hi066 hsz66
                    have KY66 := Aside0.mk hy66
                    clear hy66
                    replace q66 := eq_true q66
                    have p954 : 0 ≤ (x10_4 : Int) := of_decide_eq_true zs_
                    have q954 : x10_4 < (t935.length : Int) := of_decide_eq_true zs_
                    obtain ⟨ad954, e954, hx954_0, hx954_1, hx954_2, hx954_3⟩ := at_T27 (Kd.R_reads' HO_7.out).2.2 x10_4 p954 q954
                    cases e954
                    replace p954 := eq_true p954
                    replace q954 := eq_true q954
                    have p956 : 0 ≤ ((ji54) : Int) := of_decide_eq_true zs_
                    have q956 : (ji54) < (t935.length : Int) := of_decide_eq_true zs_
                    obtain ⟨ad956, e956, hx956_0, hx956_1, hx956_2, hx956_3⟩ := at_T27 (Kd.R_reads' HO_7.out).2.2 (ji54) p956 q956
                    obtain rfl : ad954 = ad956 := (by injection e956)
                    replace p956 := eq_true p956
                    replace q956 := eq_true q956
                    have p957 : 0 ≤ (x10_4 : Int) := of_decide_eq_true zs_
                    have q957 : x10_4 < (t935.length : Int) := of_decide_eq_true zs_
                    obtain ⟨ad957, e957, hx957_0, hx957_1, hx957_2, hx957_3⟩ := at_T27 (Kd.R_reads' HO_7.out).2.2 x10_4 p957 q957
                    obtain rfl : ad954 = ad957 := (by injection e957)
                    replace p957 := eq_true p957
                    replace q957 := eq_true q957
                    refine start_ (n := 27) (S := fun w' => w'.cell? (ad954.add ((x10_4).toNat * 4)) = some (.int .u64 ((rd_T27 t935 x10_4).f0.f0)) ∧ w'.cell? ⟨(ad954.add ((x10_4).toNat * 4)).block, (ad954.add ((x10_4).toNat * 4)).off + 1, none⟩ = some (.int .i64 ((rd_T27 t935 x10_4).f0.f1)) ∧ w'.cell? ⟨(ad954.add ((x10_4).toNat * 4)).block, (ad954.add ((x10_4).toNat * 4)).off + 2, none⟩ = some (.int .u64 ((rd_T27 t935 x10_4).f1)) ∧ w'.cell? ⟨(ad954.add ((x10_4).toNat * 4)).block, (ad954.add ((x10_4).toNat * 4)).off + 3, none⟩ = some (.int .i64 ((rd_T27 t935 x10_4).f2)) ∧ w'.cell? (ad954.add (((ji54)).toNat * 4)) = some (.int .u64 ((rd_T27 t935 (ji54)).f0.f0)) ∧ w'.cell? ⟨(ad954.add (((ji54)).toNat * 4)).block, (ad954.add (((ji54)).toNat * 4)).off + 1, none⟩ = some (.int .i64 ((rd_T27 t935 (ji54)).f0.f1)) ∧ w'.cell? ⟨(ad954.add (((ji54)).toNat * 4)).block, (ad954.add (((ji54)).toNat * 4)).off + 2, none⟩ = some (.int .u64 ((rd_T27 t935 (ji54)).f1)) ∧ w'.cell? ⟨(ad954.add (((ji54)).toNat * 4)).block, (ad954.add (((ji54)).toNat * 4)).off + 3, none⟩ = some (.int .i64 ((rd_T27 t935 (ji54)).f2)) ∧ w'.cell? (ad954.add ((x10_4).toNat * 4)) = some (.int .u64 ((rd_T27 t935 x10_4).f0.f0)) ∧ w'.cell? ⟨(ad954.add ((x10_4).toNat * 4)).block, (ad954.add ((x10_4).toNat * 4)).off + 1, none⟩ = some (.int .i64 ((rd_T27 t935 x10_4).f0.f1)) ∧ w'.cell? ⟨(ad954.add ((x10_4).toNat * 4)).block, (ad954.add ((x10_4).toNat * 4)).off + 2, none⟩ = some (.int .u64 ((rd_T27 t935 x10_4).f1)) ∧ w'.cell? ⟨(ad954.add ((x10_4).toNat * 4)).block, (ad954.add ((x10_4).toNat * 4)).off + 3, none⟩ = some (.int .i64 ((rd_T27 t935 x10_4).f2))) (ds := []) #[F_,F_,F_,F_,F_,F_,F_,F_,F_,F_,F_,F_,F_,F_,F_,F_,F_,F_,F_,F_,F_,F_,F_,F_,F_,F_,F_] (by kernel_rfl) rfl rfl ⟨hx954_0, hx954_1, hx954_2, hx954_3, hx956_0, hx956_1, hx956_2, hx956_3, hx957_0, hx957_1, hx957_2, hx957_3⟩ (fun hHeld => ?_); refine with_tabW folkmootlaw16_ExchangeFull.tab17 folkmootlaw16_ExchangeFull.bits17 (fun HT_ HW_ => ?_)
                    generalize wr.drew = w65 at HO_6 HO_7 HB HO953 hx954_0 hx954_1 hx954_2 hx954_3 hx956_0 hx956_1 hx956_2 hx956_3 hx957_0 hx957_1 hx957_2 hx957_3 hHeld ⊢
                    refine pure_ (i := 0) (N := some 67) (v := ?_) (a' := ?_) #[T_,F_,F_,F_,F_,F_,F_,F_,F_,F_,F_,F_,F_,F_,F_,F_,F_,F_,F_,F_,F_,F_,F_,F_,F_,F_,F_] rfl rfl (any_of HT_.out (by kernel_rfl)) (fun _ _ _ h => h) (Or.inl ⟨by rfl, ?_⟩) ?_ ?_
                    rotate_left
                    ·
                     intro w'; go_simp; with_reducible rfl
                    rotate_left
                    ·
                     exact zp_
                    refine pure_ (i := 1) (N := some 68) (v := ?_) (a' := ?_) #[T_,T_,F_,F_,F_,F_,F_,F_,F_,F_,F_,F_,F_,F_,F_,F_,F_,F_,F_,F_,F_,F_,F_,F_,F_,F_,F_] rfl rfl (any_of HT_.out (by kernel_rfl)) (fun _ _ _ h => h) (Or.inl ⟨by rfl, ?_⟩) ?_ ?_
                    rotate_left
                    ·
                     intro w'; go_simp; with_reducible rfl
                    rotate_left
                    ·
                     exact zp_
                    refine pure_ (i := 2) (N := some 69) (v := ?_) (a' := ?_) #[T_,T_,T_,F_,F_,F_,F_,F_,F_,F_,F_,F_,F_,F_,F_,F_,F_,F_,F_,F_,F_,F_,F_,F_,F_,F_,F_] rfl rfl (any_of HT_.out (by kernel_rfl)) (fun _ _ _ h => h) (Or.inl ⟨by rfl, ?_⟩) ?_ ?_
                    rotate_left
                    ·
                     intro w'; go_simp; with_reducible rfl
                    rotate_left
                    ·
                     exact zp_
                    refine pure_ (i := 3) (N := some 70) (v := ?_) (a' := ?_) #[T_,T_,T_,T_,F_,F_,F_,F_,F_,F_,F_,F_,F_,F_,F_,F_,F_,F_,F_,F_,F_,F_,F_,F_,F_,F_,F_] rfl rfl (any_of HT_.out (by kernel_rfl)) (fun _ _ _ h => h) (Or.inl ⟨by rfl, ?_⟩) ?_ ?_
                    rotate_left
                    ·
                     intro w'; go_simp; with_reducible rfl
                    rotate_left
                    ·
                     exact zp_
                    refine pure_ (i := 4) (N := some 71) (v := ?_) (a' := ?_) #[T_,T_,T_,T_,T_,F_,F_,F_,F_,F_,F_,F_,F_,F_,F_,F_,F_,F_,F_,F_,F_,F_,F_,F_,F_,F_,F_] rfl rfl (any_of HT_.out (by kernel_rfl)) (fun _ _ _ h => h) (Or.inl ⟨by rfl, ?_⟩) ?_ ?_
                    rotate_left
                    ·
                     intro w'; go_simp; with_reducible rfl
                    rotate_left
                    ·
                     exact zp_
                    refine pure_ (i := 5) (N := some 72) (v := ?_) (a' := ?_) #[T_,T_,T_,T_,T_,T_,F_,F_,F_,F_,F_,F_,F_,F_,F_,F_,F_,F_,F_,F_,F_,F_,F_,F_,F_,F_,F_] rfl rfl (any_of HT_.out (by kernel_rfl)) (fun _ _ _ h => h) (Or.inl ⟨by rfl, ?_⟩) ?_ ?_
                    rotate_left
                    ·
                     intro w'; go_simp; with_reducible rfl
                    rotate_left
                    ·
                     exact zp_
                    refine take_ (i := 6) (N := some 73) (v := ?_) (a' := ?_) #[T_,T_,T_,T_,T_,T_,T_,F_,F_,F_,F_,F_,F_,F_,F_,F_,F_,F_,F_,F_,F_,F_,F_,F_,F_,F_,F_] rfl rfl (take_ofW HT_.out HW_.out (by kernel_rfl)) (fun _ _ _ h => h) (Or.inl ⟨by rfl, ?_⟩) hHeld ?_ ?_
                    rotate_left
                    ·
                     rintro w' ⟨s0, s1, s2, s3, s4, s5, s6, s7, s8, s9, s10, s11⟩
                     go_simp
                     with_reducible rfl
                    rotate_left
                    ·
                     exact zp_
                    refine one_ (i := 7) (N := some 74) #[T_,T_,T_,T_,T_,T_,T_,T_,F_,F_,F_,F_,F_,F_,F_,F_,F_,F_,F_,F_,F_,F_,F_,F_,F_,F_,F_] rfl rfl (one_of HT_.out (by kernel_rfl)) (by decide) (fun K hK => ?_)
                    refine goes_ Try.func36 (by kernel_rfl) rfl #[.slice (some ad954) y949.length co64, .agg #[.int .u64 ((rd_T27 t935 x10_4).f0.f0), .int .i64 ((rd_T27 t935 x10_4).f0.f1), .int .u64 ((rd_T27 t935 x10_4).f1), .int .i64 ((rd_T27 t935 x10_4).f2)]] (by rfl) rfl rfl za_ ?_
                    with_reducible refine (folkmootref05_In.calls k4 _ _ y949 ((rd_T27 t935 x10_4).f0.f0) ((rd_T27 t935 x10_4).f0.f1) ((rd_T27 t935 x10_4).f1) ((rd_T27 t935 x10_4).f2) false _ ?side1 ?side2 A47.out).mono ?_
                    (case side1 => exact zd_ (Kd.V_reads' HO953.out).2.2)
                    (case side2 => exact (Kd.V_reads' HO953.out).2.1)
                    rintro e w67 ⟨rfl, hb⟩
                    have HS0_ := (hb.cell (World.block_lt_of_cell? _ _ (hHeld.1))).trans (hHeld.1)
                    have HS1_ := (hb.cell (World.block_lt_of_cell? _ _ (hHeld.2.1))).trans (hHeld.2.1)
                    have HS2_ := (hb.cell (World.block_lt_of_cell? _ _ (hHeld.2.2.1))).trans (hHeld.2.2.1)
                    have HS3_ := (hb.cell (World.block_lt_of_cell? _ _ (hHeld.2.2.2.1))).trans (hHeld.2.2.2.1)
                    have HS4_ := (hb.cell (World.block_lt_of_cell? _ _ (hHeld.2.2.2.2.1))).trans (hHeld.2.2.2.2.1)
                    have HS5_ := (hb.cell (World.block_lt_of_cell? _ _ (hHeld.2.2.2.2.2.1))).trans (hHeld.2.2.2.2.2.1)
                    have HS6_ := (hb.cell (World.block_lt_of_cell? _ _ (hHeld.2.2.2.2.2.2.1))).trans (hHeld.2.2.2.2.2.2.1)
                    have HS7_ := (hb.cell (World.block_lt_of_cell? _ _ (hHeld.2.2.2.2.2.2.2.1))).trans (hHeld.2.2.2.2.2.2.2.1)
                    have HS8_ := (hb.cell (World.block_lt_of_cell? _ _ (hHeld.2.2.2.2.2.2.2.2.1))).trans (hHeld.2.2.2.2.2.2.2.2.1)
                    have HS9_ := (hb.cell (World.block_lt_of_cell? _ _ (hHeld.2.2.2.2.2.2.2.2.2.1))).trans (hHeld.2.2.2.2.2.2.2.2.2.1)
                    have HS10_ := (hb.cell (World.block_lt_of_cell? _ _ (hHeld.2.2.2.2.2.2.2.2.2.2.1))).trans (hHeld.2.2.2.2.2.2.2.2.2.2.1)
                    have HS11_ := (hb.cell (World.block_lt_of_cell? _ _ (hHeld.2.2.2.2.2.2.2.2.2.2.2))).trans (hHeld.2.2.2.2.2.2.2.2.2.2.2)
                    refine ⟨_, rfl, ?_⟩
                    have n0_ := Aside0.mk (Kd.R_below (zr_ HO_6) hb)
                    have n1_ := Aside0.mk (Kd.R_below (zr_ HO_7) hb)
                    have n2_ := Aside0.mk (Kd.V_below (zv_ HO953) hb)
                    have n3_ := Aside0.mk (below_step zb_ hb)
                    clear HO_6
                    clear HO_7
                    clear HO953
                    clear HB
                    have HO_6 := n0_
                    have HO_7 := n1_
                    have HO953 := n2_
                    have HB := n3_
                    clear n0_ n1_ n2_ n3_
                    (try clear hb)
                    (try clear hb2)
                    (try clear hk)
                    (try clear hi)
                    refine hK.out _ _ ⟨HS0_, HS1_, HS2_, HS3_, HS4_, HS5_, HS6_, HS7_, HS8_, HS9_, HS10_, HS11_⟩ (fun hHeld => ?_)
                    clear hK K
                    refine norm_ (a' := ?_) ?_ ?_
                    rotate_left
                    ·
                     show Act.put _ (some 74) _ = _
                     simp only [Act.put, List.setIfInBounds_toArray, List.set_cons_zero, List.set_cons_succ, i64_w, i32_w]
                     rfl
                    refine pure_ (i := 8) (N := some 75) (v := ?_) (a' := ?_) #[T_,T_,T_,T_,T_,T_,T_,T_,T_,F_,F_,F_,F_,F_,F_,F_,F_,F_,F_,F_,F_,F_,F_,F_,F_,F_,F_] rfl rfl (any_of HT_.out (by kernel_rfl)) (fun _ _ _ h => h) (Or.inl ⟨by rfl, ?_⟩) ?_ ?_
                    rotate_left
                    ·
                     intro w'; go_simp; with_reducible rfl
                    rotate_left
                    ·
                     exact zp_
                    refine pure_ (i := 9) (N := some 76) (v := ?_) (a' := ?_) #[T_,T_,T_,T_,T_,T_,T_,T_,T_,T_,F_,F_,F_,F_,F_,F_,F_,F_,F_,F_,F_,F_,F_,F_,F_,F_,F_] rfl rfl (any_of HT_.out (by kernel_rfl)) (fun _ _ _ h => h) (Or.inl ⟨by rfl, ?_⟩) ?_ ?_
                    rotate_left
                    ·
                     intro w'; go_simp; with_reducible rfl
                    rotate_left
                    ·
                     exact zp_
                    refine pure_ (i := 10) (N := some 77) (v := ?_) (a' := ?_) #[T_,T_,T_,T_,T_,T_,T_,T_,T_,T_,T_,F_,F_,F_,F_,F_,F_,F_,F_,F_,F_,F_,F_,F_,F_,F_,F_] rfl rfl (any_of HT_.out (by kernel_rfl)) (fun _ _ _ h => h) (Or.inl ⟨by rfl, ?_⟩) ?_ ?_
                    rotate_left
                    ·
                     intro w'; go_simp; with_reducible rfl
                    rotate_left
                    ·
                     exact zp_
                    refine pure_ (i := 11) (N := some 78) (v := ?_) (a' := ?_) #[T_,T_,T_,T_,T_,T_,T_,T_,T_,T_,T_,T_,F_,F_,F_,F_,F_,F_,F_,F_,F_,F_,F_,F_,F_,F_,F_] rfl rfl (any_of HT_.out (by kernel_rfl)) (fun _ _ _ h => h) (Or.inl ⟨by rfl, ?_⟩) ?_ ?_
                    rotate_left
                    ·
                     intro w'; go_simp; with_reducible rfl
                    rotate_left
                    ·
                     exact zp_
                    refine pure_ (i := 12) (N := some 79) (v := ?_) (a' := ?_) #[T_,T_,T_,T_,T_,T_,T_,T_,T_,T_,T_,T_,T_,F_,F_,F_,F_,F_,F_,F_,F_,F_,F_,F_,F_,F_,F_] rfl rfl (any_of HT_.out (by kernel_rfl)) (fun _ _ _ h => h) (Or.inl ⟨by rfl, ?_⟩) ?_ ?_
                    rotate_left
                    ·
                     intro w'; go_simp; with_reducible rfl
                    rotate_left
                    ·
                     exact zp_
                    refine pure_ (i := 13) (N := some 80) (v := ?_) (a' := ?_) #[T_,T_,T_,T_,T_,T_,T_,T_,T_,T_,T_,T_,T_,T_,F_,F_,F_,F_,F_,F_,F_,F_,F_,F_,F_,F_,F_] rfl rfl (any_of HT_.out (by kernel_rfl)) (fun _ _ _ h => h) (Or.inl ⟨by rfl, ?_⟩) ?_ ?_
                    rotate_left
                    ·
                     intro w'; go_simp; with_reducible rfl
                    rotate_left
                    ·
                     exact zp_
                    refine pure_ (i := 14) (N := some 81) (v := ?_) (a' := ?_) #[T_,T_,T_,T_,T_,T_,T_,T_,T_,T_,T_,T_,T_,T_,T_,F_,F_,F_,F_,F_,F_,F_,F_,F_,F_,F_,F_] rfl rfl (any_of HT_.out (by kernel_rfl)) (fun _ _ _ h => h) (Or.inl ⟨by rfl, ?_⟩) ?_ ?_
                    rotate_left
                    ·
                     intro w'; go_simp; with_reducible rfl
                    rotate_left
                    ·
                     exact zp_
                    refine pure_ (i := 15) (N := some 82) (v := ?_) (a' := ?_) #[T_,T_,T_,T_,T_,T_,T_,T_,T_,T_,T_,T_,T_,T_,T_,T_,F_,F_,F_,F_,F_,F_,F_,F_,F_,F_,F_] rfl rfl (any_of HT_.out (by kernel_rfl)) (fun _ _ _ h => h) (Or.inl ⟨by rfl, ?_⟩) ?_ ?_
                    rotate_left
                    ·
                     intro w'; go_simp; with_reducible rfl
                    rotate_left
                    ·
                     exact zp_
                    refine pure_ (i := 16) (N := some 83) (v := ?_) (a' := ?_) #[T_,T_,T_,T_,T_,T_,T_,T_,T_,T_,T_,T_,T_,T_,T_,T_,T_,F_,F_,F_,F_,F_,F_,F_,F_,F_,F_] rfl rfl (any_of HT_.out (by kernel_rfl)) (fun _ _ _ h => h) (Or.inl ⟨by rfl, ?_⟩) ?_ ?_
                    rotate_left
                    ·
                     intro w'; go_simp; with_reducible rfl
                    rotate_left
                    ·
                     exact zp_
                    refine pure_ (i := 17) (N := some 84) (v := ?_) (a' := ?_) #[T_,T_,T_,T_,T_,T_,T_,T_,T_,T_,T_,T_,T_,T_,T_,T_,T_,T_,F_,F_,F_,F_,F_,F_,F_,F_,F_] rfl rfl (any_of HT_.out (by kernel_rfl)) (fun _ _ _ h => h) (Or.inl ⟨by rfl, ?_⟩) ?_ ?_
                    rotate_left
                    ·
                     intro w'; go_simp; with_reducible rfl
                    rotate_left
                    ·
                     exact zp_
                    refine pure_ (i := 19) (N := some 86) (v := ?_) (a' := ?_) #[T_,T_,T_,T_,T_,T_,T_,T_,T_,T_,T_,T_,T_,T_,T_,T_,T_,T_,F_,T_,F_,F_,F_,F_,F_,F_,F_] rfl rfl (any_of HT_.out (by kernel_rfl)) (fun _ _ _ h => h) (Or.inl ⟨by rfl, ?_⟩) ?_ ?_
                    rotate_left
                    ·
                     intro w'; go_simp; with_reducible rfl
                    rotate_left
                    ·
                     exact zp_
                    refine pure_ (i := 20) (N := some 87) (v := ?_) (a' := ?_) #[T_,T_,T_,T_,T_,T_,T_,T_,T_,T_,T_,T_,T_,T_,T_,T_,T_,T_,F_,T_,T_,F_,F_,F_,F_,F_,F_] rfl rfl (any_of HT_.out (by kernel_rfl)) (fun _ _ _ h => h) (Or.inl ⟨by rfl, ?_⟩) ?_ ?_
                    rotate_left
                    ·
                     intro w'; go_simp; with_reducible rfl
                    rotate_left
                    ·
                     exact zp_
                    refine pure_ (i := 21) (N := some 88) (v := ?_) (a' := ?_) #[T_,T_,T_,T_,T_,T_,T_,T_,T_,T_,T_,T_,T_,T_,T_,T_,T_,T_,F_,T_,T_,T_,F_,F_,F_,F_,F_] rfl rfl (any_of HT_.out (by kernel_rfl)) (fun _ _ _ h => h) (Or.inl ⟨by rfl, ?_⟩) ?_ ?_
                    rotate_left
                    ·
                     intro w'; go_simp; with_reducible rfl
                    rotate_left
                    ·
                     exact zp_
                    refine take_ (i := 18) (N := some 85) (v := ?_) (a' := ?_) #[T_,T_,T_,T_,T_,T_,T_,T_,T_,T_,T_,T_,T_,T_,T_,T_,T_,T_,T_,T_,T_,T_,F_,F_,F_,F_,F_] rfl rfl (take_ofW HT_.out HW_.out (by kernel_rfl)) (fun _ _ _ h => h) (Or.inl ⟨by rfl, ?_⟩) hHeld ?_ ?_
                    rotate_left
                    ·
                     rintro w' ⟨s0, s1, s2, s3, s4, s5, s6, s7, s8, s9, s10, s11⟩
                     go_simp
                     with_reducible rfl
                    rotate_left
                    ·
                     exact zp_
                    refine take_ (i := 22) (N := some 89) (v := ?_) (a' := ?_) #[T_,T_,T_,T_,T_,T_,T_,T_,T_,T_,T_,T_,T_,T_,T_,T_,T_,T_,T_,T_,T_,T_,T_,F_,F_,F_,F_] rfl rfl (take_ofW HT_.out HW_.out (by kernel_rfl)) (fun _ _ _ h => h) (Or.inl ⟨by rfl, ?_⟩) hHeld ?_ ?_
                    rotate_left
                    ·
                     rintro w' ⟨s0, s1, s2, s3, s4, s5, s6, s7, s8, s9, s10, s11⟩
                     go_simp
                     with_reducible rfl
                    rotate_left
                    ·
                     exact zp_
                    refine one_ (i := 23) (N := some 90) #[T_,T_,T_,T_,T_,T_,T_,T_,T_,T_,T_,T_,T_,T_,T_,T_,T_,T_,T_,T_,T_,T_,T_,T_,F_,F_,F_] rfl rfl (one_of HT_.out (by kernel_rfl)) (by decide) (fun K hK => ?_)
                    refine goes_ Try.func43 (by kernel_rfl) rfl #[.agg #[.int .u64 ((rd_T27 t935 (ji54)).f0.f0), .int .i64 ((rd_T27 t935 (ji54)).f0.f1), .int .u64 ((rd_T27 t935 (ji54)).f1), .int .i64 ((rd_T27 t935 (ji54)).f2)], .agg #[.int .u64 ((rd_T27 t935 x10_4).f0.f0), .int .i64 ((rd_T27 t935 x10_4).f0.f1), .int .u64 ((rd_T27 t935 x10_4).f1), .int .i64 ((rd_T27 t935 x10_4).f2)]] (by rfl) rfl rfl (by (try simp only [List.map_toArray, List.map_cons, List.map_nil]); first | done | (simp only [hji54]; rfl) | rfl | (simp only [List.length_drop, List.length_take]; rfl)) ?_
                    with_reducible refine (folkmootref05_Less.calls k4 ((rd_T27 t935 (ji54)).f0.f0) ((rd_T27 t935 (ji54)).f0.f1) ((rd_T27 t935 (ji54)).f1) ((rd_T27 t935 (ji54)).f2) ((rd_T27 t935 x10_4).f0.f0) ((rd_T27 t935 x10_4).f0.f1) ((rd_T27 t935 x10_4).f1) ((rd_T27 t935 x10_4).f2) false _ A57.out).mono ?_
                    rintro e w68 ⟨rfl, hb⟩
                    have HS0_ := (hb.cell (World.block_lt_of_cell? _ _ (hHeld.1))).trans (hHeld.1)
                    have HS1_ := (hb.cell (World.block_lt_of_cell? _ _ (hHeld.2.1))).trans (hHeld.2.1)
                    have HS2_ := (hb.cell (World.block_lt_of_cell? _ _ (hHeld.2.2.1))).trans (hHeld.2.2.1)
                    have HS3_ := (hb.cell (World.block_lt_of_cell? _ _ (hHeld.2.2.2.1))).trans (hHeld.2.2.2.1)
                    have HS4_ := (hb.cell (World.block_lt_of_cell? _ _ (hHeld.2.2.2.2.1))).trans (hHeld.2.2.2.2.1)
                    have HS5_ := (hb.cell (World.block_lt_of_cell? _ _ (hHeld.2.2.2.2.2.1))).trans (hHeld.2.2.2.2.2.1)
                    have HS6_ := (hb.cell (World.block_lt_of_cell? _ _ (hHeld.2.2.2.2.2.2.1))).trans (hHeld.2.2.2.2.2.2.1)
                    have HS7_ := (hb.cell (World.block_lt_of_cell? _ _ (hHeld.2.2.2.2.2.2.2.1))).trans (hHeld.2.2.2.2.2.2.2.1)
                    have HS8_ := (hb.cell (World.block_lt_of_cell? _ _ (hHeld.2.2.2.2.2.2.2.2.1))).trans (hHeld.2.2.2.2.2.2.2.2.1)
                    have HS9_ := (hb.cell (World.block_lt_of_cell? _ _ (hHeld.2.2.2.2.2.2.2.2.2.1))).trans (hHeld.2.2.2.2.2.2.2.2.2.1)
                    have HS10_ := (hb.cell (World.block_lt_of_cell? _ _ (hHeld.2.2.2.2.2.2.2.2.2.2.1))).trans (hHeld.2.2.2.2.2.2.2.2.2.2.1)
                    have HS11_ := (hb.cell (World.block_lt_of_cell? _ _ (hHeld.2.2.2.2.2.2.2.2.2.2.2))).trans (hHeld.2.2.2.2.2.2.2.2.2.2.2)
                    refine ⟨_, rfl, ?_⟩
                    have n0_ := Aside0.mk (Kd.R_below (zr_ HO_6) hb)
                    have n1_ := Aside0.mk (Kd.R_below (zr_ HO_7) hb)
                    have n2_ := Aside0.mk (Kd.V_below (zv_ HO953) hb)
                    have n3_ := Aside0.mk (below_step zb_ hb)
                    clear HO_6
                    clear HO_7
                    clear HO953
                    clear HB
                    have HO_6 := n0_
                    have HO_7 := n1_
                    have HO953 := n2_
                    have HB := n3_
                    clear n0_ n1_ n2_ n3_
                    (try clear hb)
                    (try clear hb2)
                    (try clear hk)
                    (try clear hi)
                    refine hK.out _ _ ⟨HS0_, HS1_, HS2_, HS3_, HS4_, HS5_, HS6_, HS7_, HS8_, HS9_, HS10_, HS11_⟩ (fun hHeld => ?_)
                    clear hK K
                    refine norm_ (a' := ?_) ?_ ?_
                    rotate_left
                    ·
                     show Act.put _ (some 90) _ = _
                     simp only [Act.put, List.setIfInBounds_toArray, List.set_cons_zero, List.set_cons_succ, i64_w, i32_w]
                     rfl
                    refine pure_ (i := 24) (N := some 91) (v := ?_) (a' := ?_) #[T_,T_,T_,T_,T_,T_,T_,T_,T_,T_,T_,T_,T_,T_,T_,T_,T_,T_,T_,T_,T_,T_,T_,T_,T_,F_,F_] rfl rfl (any_of HT_.out (by kernel_rfl)) (fun _ _ _ h => h) (Or.inl ⟨by rfl, ?_⟩) ?_ ?_
                    rotate_left
                    ·
                     intro w'; go_simp; with_reducible rfl
                    rotate_left
                    ·
                     exact zp_
                    refine pure_ (i := 25) (N := some 92) (v := ?_) (a' := ?_) #[T_,T_,T_,T_,T_,T_,T_,T_,T_,T_,T_,T_,T_,T_,T_,T_,T_,T_,T_,T_,T_,T_,T_,T_,T_,T_,F_] rfl rfl (any_of HT_.out (by kernel_rfl)) (fun _ _ _ h => h) (Or.inl ⟨by rfl, ?_⟩) ?_ ?_
                    rotate_left
                    ·
                     intro w'; go_simp; with_reducible rfl
                    rotate_left
                    ·
                     exact zp_
                    refine pure_ (i := 26) (N := some 93) (v := ?_) (a' := ?_) #[T_,T_,T_,T_,T_,T_,T_,T_,T_,T_,T_,T_,T_,T_,T_,T_,T_,T_,T_,T_,T_,T_,T_,T_,T_,T_,T_] rfl rfl (any_of HT_.out (by kernel_rfl)) (fun _ _ _ h => h) (Or.inl ⟨by rfl, ?_⟩) ?_ ?_
                    rotate_left
                    ·
                     intro w'; go_simp; with_reducible rfl
                    rotate_left
                    ·
                     exact zp_
                    refine done_ (done_of HT_.out (by kernel_rfl)) ?_
                    (try clear hHeld); (try clear HS0_); (try clear HS1_); (try clear HS2_); (try clear HS3_); (try clear HS4_); (try clear HS5_); (try clear HS6_); (try clear HS7_); (try clear HS8_); (try clear HS9_); (try clear HS10_); (try clear HS11_)
                    try go_wp2
                    go_ret
                    exact ⟨by first | rfl | (simp [errW_none, errW_some] <;> rfl) | (simp only [← hji54]; first | rfl | (simp [errW_none, errW_some] <;> rfl)) | (simp [*, errW_none, errW_some] <;> rfl), by repeat (first | (with_reducible first | exact HB.out | apply below_alloc | apply pw_below_drewN | apply below_drew1) | exact HB.out)⟩
                  ·
                   rw [if_neg c56] at H
                   exact absurd H (by simp)
                 ·
                  rw [if_neg c55] at H
                  exact absurd H (by simp)
                ·
                 rw [if_neg c53] at H
                 have c53b0 : decide ((t932.length : Int) < x10_4) = false := decide_eq_false c53
                 clear c53
                 have H' := Aside0.mk H
                 clear H
                 obtain ⟨Ao69, co69, eo69⟩ := Kd.R_slice HO_7.out
                 subst eo69
                 try go_wp2
                 have n0_ := Aside0.mk (Kd.R_drew HO_6.out)
                 have n1_ := Aside0.mk (Kd.R_drew HO_7.out)
                 have n2_ := Aside0.mk (below_drew1 HB.out)
                 clear HO_6
                 clear HO_7
                 clear HB
                 have HO_6 := n0_
                 have HO_7 := n1_
                 have HB := n2_
                 clear n0_ n1_ n2_
                 have q71 : (x10_4 : Int) ≤ ((t935.length : Int) : Int) := of_decide_eq_true zs_
                 obtain ⟨i071, hi071, _, hsz71, _⟩ := info_parts info27
                 have hroom71 : t935.length ≤ co69 := (Kd.R_reads' HO_7.out).2.1
                 have hC71 : Kd.F k27 _ _ Ao69 t935.length t935 := (Kd.V_at (base := w.heap.size) (Kd.R_V HO_7.out)).2.2
                 have hcut71 := cut_to (P := Try.prog) 41 27 .i64 Try.underlying41 hi071 Ao69 t935.length co69 x10_4 (of_decide_eq_true zs_) q71 hroom71
                 have hr71 := Kd.F_take (m := (x10_4 : Int).toNat) hC71 (by omega)
                 have hy71 : y949.length = (x10_4 : Int).toNat := (by rw [Ny949.out, List.length_take]; omega)
                 rw [← Ny949.out] at hr71
                 rw [← hy71] at hcut71
                 have HO953 := Aside0.mk (show Kd.V k27 27 _ w.heap.size _ (.slice Ao69 y949.length co69) y949 from Kd.V_mk (by omega) hr71)
                 have HC953 := Aside0.mk (show y949.length ≤ co69 from by omega)
                 clear hr71 hC71 hroom71 hi071 hsz71
                 have KY71 := Aside0.mk hy71
                 clear hy71
                 replace q71 := eq_true q71
                 have p954 : 0 ≤ (x10_4 : Int) := of_decide_eq_true zs_
                 have q954 : x10_4 < (t935.length : Int) := of_decide_eq_true zs_
                 obtain ⟨ad954, e954, hx954_0, hx954_1, hx954_2, hx954_3⟩ := at_T27 (Kd.R_reads' HO_7.out).2.2 x10_4 p954 q954
                 cases e954
                 replace p954 := eq_true p954
                 replace q954 := eq_true q954
                 refine start_ (n := 27) (S := fun w' => w'.cell? (ad954.add ((x10_4).toNat * 4)) = some (.int .u64 ((rd_T27 t935 x10_4).f0.f0)) ∧ w'.cell? ⟨(ad954.add ((x10_4).toNat * 4)).block, (ad954.add ((x10_4).toNat * 4)).off + 1, none⟩ = some (.int .i64 ((rd_T27 t935 x10_4).f0.f1)) ∧ w'.cell? ⟨(ad954.add ((x10_4).toNat * 4)).block, (ad954.add ((x10_4).toNat * 4)).off + 2, none⟩ = some (.int .u64 ((rd_T27 t935 x10_4).f1)) ∧ w'.cell? ⟨(ad954.add ((x10_4).toNat * 4)).block, (ad954.add ((x10_4).toNat * 4)).off + 3, none⟩ = some (.int .i64 ((rd_T27 t935 x10_4).f2))) (ds := []) #[F_,F_,F_,F_,F_,F_,F_,F_,F_,F_,F_,F_,F_,F_,F_,F_,F_,F_,F_,F_,F_,F_,F_,F_,F_,F_,F_] (by kernel_rfl) rfl rfl ⟨hx954_0, hx954_1, hx954_2, hx954_3⟩ (fun hHeld => ?_); refine with_tabW folkmootlaw16_ExchangeFull.tab17 folkmootlaw16_ExchangeFull.bits17 (fun HT_ HW_ => ?_)
                 generalize wr.drew = w70 at HO_6 HO_7 HB HO953 hx954_0 hx954_1 hx954_2 hx954_3 hHeld ⊢
                 refine pure_ (i := 0) (N := some 67) (v := ?_) (a' := ?_) #[T_,F_,F_,F_,F_,F_,F_,F_,F_,F_,F_,F_,F_,F_,F_,F_,F_,F_,F_,F_,F_,F_,F_,F_,F_,F_,F_] rfl rfl (any_of HT_.out (by kernel_rfl)) (fun _ _ _ h => h) (Or.inl ⟨by rfl, ?_⟩) ?_ ?_
                 rotate_left
                 ·
                  intro w'; go_simp; with_reducible rfl
                 rotate_left
                 ·
                  exact zp_
                 refine pure_ (i := 1) (N := some 68) (v := ?_) (a' := ?_) #[T_,T_,F_,F_,F_,F_,F_,F_,F_,F_,F_,F_,F_,F_,F_,F_,F_,F_,F_,F_,F_,F_,F_,F_,F_,F_,F_] rfl rfl (any_of HT_.out (by kernel_rfl)) (fun _ _ _ h => h) (Or.inl ⟨by rfl, ?_⟩) ?_ ?_
                 rotate_left
                 ·
                  intro w'; go_simp; with_reducible rfl
                 rotate_left
                 ·
                  exact zp_
                 refine pure_ (i := 2) (N := some 69) (v := ?_) (a' := ?_) #[T_,T_,T_,F_,F_,F_,F_,F_,F_,F_,F_,F_,F_,F_,F_,F_,F_,F_,F_,F_,F_,F_,F_,F_,F_,F_,F_] rfl rfl (any_of HT_.out (by kernel_rfl)) (fun _ _ _ h => h) (Or.inl ⟨by rfl, ?_⟩) ?_ ?_
                 rotate_left
                 ·
                  intro w'; go_simp; with_reducible rfl
                 rotate_left
                 ·
                  exact zp_
                 refine pure_ (i := 3) (N := some 70) (v := ?_) (a' := ?_) #[T_,T_,T_,T_,F_,F_,F_,F_,F_,F_,F_,F_,F_,F_,F_,F_,F_,F_,F_,F_,F_,F_,F_,F_,F_,F_,F_] rfl rfl (any_of HT_.out (by kernel_rfl)) (fun _ _ _ h => h) (Or.inl ⟨by rfl, ?_⟩) ?_ ?_
                 rotate_left
                 ·
                  intro w'; go_simp; with_reducible rfl
                 rotate_left
                 ·
                  exact zp_
                 refine pure_ (i := 4) (N := some 71) (v := ?_) (a' := ?_) #[T_,T_,T_,T_,T_,F_,F_,F_,F_,F_,F_,F_,F_,F_,F_,F_,F_,F_,F_,F_,F_,F_,F_,F_,F_,F_,F_] rfl rfl (any_of HT_.out (by kernel_rfl)) (fun _ _ _ h => h) (Or.inl ⟨by rfl, ?_⟩) ?_ ?_
                 rotate_left
                 ·
                  intro w'; go_simp; with_reducible rfl
                 rotate_left
                 ·
                  exact zp_
                 refine pure_ (i := 5) (N := some 72) (v := ?_) (a' := ?_) #[T_,T_,T_,T_,T_,T_,F_,F_,F_,F_,F_,F_,F_,F_,F_,F_,F_,F_,F_,F_,F_,F_,F_,F_,F_,F_,F_] rfl rfl (any_of HT_.out (by kernel_rfl)) (fun _ _ _ h => h) (Or.inl ⟨by rfl, ?_⟩) ?_ ?_
                 rotate_left
                 ·
                  intro w'; go_simp; with_reducible rfl
                 rotate_left
                 ·
                  exact zp_
                 refine take_ (i := 6) (N := some 73) (v := ?_) (a' := ?_) #[T_,T_,T_,T_,T_,T_,T_,F_,F_,F_,F_,F_,F_,F_,F_,F_,F_,F_,F_,F_,F_,F_,F_,F_,F_,F_,F_] rfl rfl (take_ofW HT_.out HW_.out (by kernel_rfl)) (fun _ _ _ h => h) (Or.inl ⟨by rfl, ?_⟩) hHeld ?_ ?_
                 rotate_left
                 ·
                  rintro w' ⟨s0, s1, s2, s3⟩
                  go_simp
                  with_reducible rfl
                 rotate_left
                 ·
                  exact zp_
                 refine one_ (i := 7) (N := some 74) #[T_,T_,T_,T_,T_,T_,T_,T_,F_,F_,F_,F_,F_,F_,F_,F_,F_,F_,F_,F_,F_,F_,F_,F_,F_,F_,F_] rfl rfl (one_of HT_.out (by kernel_rfl)) (by decide) (fun K hK => ?_)
                 refine goes_ Try.func36 (by kernel_rfl) rfl #[.slice (some ad954) y949.length co69, .agg #[.int .u64 ((rd_T27 t935 x10_4).f0.f0), .int .i64 ((rd_T27 t935 x10_4).f0.f1), .int .u64 ((rd_T27 t935 x10_4).f1), .int .i64 ((rd_T27 t935 x10_4).f2)]] (by rfl) rfl rfl za_ ?_
                 with_reducible refine (folkmootref05_In.calls k4 _ _ y949 ((rd_T27 t935 x10_4).f0.f0) ((rd_T27 t935 x10_4).f0.f1) ((rd_T27 t935 x10_4).f1) ((rd_T27 t935 x10_4).f2) false _ ?side1 ?side2 A47.out).mono ?_
                 (case side1 => exact zd_ (Kd.V_reads' HO953.out).2.2)
                 (case side2 => exact (Kd.V_reads' HO953.out).2.1)
                 rintro e w72 ⟨rfl, hb⟩
                 have HS0_ := (hb.cell (World.block_lt_of_cell? _ _ (hHeld.1))).trans (hHeld.1)
                 have HS1_ := (hb.cell (World.block_lt_of_cell? _ _ (hHeld.2.1))).trans (hHeld.2.1)
                 have HS2_ := (hb.cell (World.block_lt_of_cell? _ _ (hHeld.2.2.1))).trans (hHeld.2.2.1)
                 have HS3_ := (hb.cell (World.block_lt_of_cell? _ _ (hHeld.2.2.2))).trans (hHeld.2.2.2)
                 refine ⟨_, rfl, ?_⟩
                 have n0_ := Aside0.mk (Kd.R_below (zr_ HO_6) hb)
                 have n1_ := Aside0.mk (Kd.R_below (zr_ HO_7) hb)
                 have n2_ := Aside0.mk (Kd.V_below (zv_ HO953) hb)
                 have n3_ := Aside0.mk (below_step zb_ hb)
                 clear HO_6
                 clear HO_7
                 clear HO953
                 clear HB
                 have HO_6 := n0_
                 have HO_7 := n1_
                 have HO953 := n2_
                 have HB := n3_
                 clear n0_ n1_ n2_ n3_
                 (try clear hb)
                 (try clear hb2)
                 (try clear hk)
                 (try clear hi)
                 refine hK.out _ _ ⟨HS0_, HS1_, HS2_, HS3_⟩ (fun hHeld => ?_)
                 clear hK K
                 refine norm_ (a' := ?_) ?_ ?_
                 rotate_left
                 ·
                  show Act.put _ (some 74) _ = _
                  simp only [Act.put, List.setIfInBounds_toArray, List.set_cons_zero, List.set_cons_succ, i64_w, i32_w]
                  rfl
                 refine pure_ (i := 8) (N := some 75) (v := ?_) (a' := ?_) #[T_,T_,T_,T_,T_,T_,T_,T_,T_,F_,F_,F_,F_,F_,F_,F_,F_,F_,F_,F_,F_,F_,F_,F_,F_,F_,F_] rfl rfl (any_of HT_.out (by kernel_rfl)) (fun _ _ _ h => h) (Or.inl ⟨by rfl, ?_⟩) ?_ ?_
                 rotate_left
                 ·
                  intro w'; go_simp; with_reducible rfl
                 rotate_left
                 ·
                  exact zp_
                 refine pure_ (i := 9) (N := some 76) (v := ?_) (a' := ?_) #[T_,T_,T_,T_,T_,T_,T_,T_,T_,T_,F_,F_,F_,F_,F_,F_,F_,F_,F_,F_,F_,F_,F_,F_,F_,F_,F_] rfl rfl (any_of HT_.out (by kernel_rfl)) (fun _ _ _ h => h) (Or.inl ⟨by rfl, ?_⟩) ?_ ?_
                 rotate_left
                 ·
                  intro w'; go_simp; with_reducible rfl
                 rotate_left
                 ·
                  exact zp_
                 refine pure_ (i := 10) (N := some 77) (v := ?_) (a' := ?_) #[T_,T_,T_,T_,T_,T_,T_,T_,T_,T_,T_,F_,F_,F_,F_,F_,F_,F_,F_,F_,F_,F_,F_,F_,F_,F_,F_] rfl rfl (any_of HT_.out (by kernel_rfl)) (fun _ _ _ h => h) (Or.inl ⟨by rfl, ?_⟩) ?_ ?_
                 rotate_left
                 ·
                  intro w'; go_simp; with_reducible rfl
                 rotate_left
                 ·
                  exact zp_
                 refine pure_ (i := 11) (N := some 78) (v := ?_) (a' := ?_) #[T_,T_,T_,T_,T_,T_,T_,T_,T_,T_,T_,T_,F_,F_,F_,F_,F_,F_,F_,F_,F_,F_,F_,F_,F_,F_,F_] rfl rfl (any_of HT_.out (by kernel_rfl)) (fun _ _ _ h => h) (Or.inl ⟨by rfl, ?_⟩) ?_ ?_
                 rotate_left
                 ·
                  intro w'; go_simp; with_reducible rfl
                 rotate_left
                 ·
                  exact zp_
                 refine pure_ (i := 12) (N := some 79) (v := ?_) (a' := ?_) #[T_,T_,T_,T_,T_,T_,T_,T_,T_,T_,T_,T_,T_,F_,F_,F_,F_,F_,F_,F_,F_,F_,F_,F_,F_,F_,F_] rfl rfl (any_of HT_.out (by kernel_rfl)) (fun _ _ _ h => h) (Or.inl ⟨by rfl, ?_⟩) ?_ ?_
                 rotate_left
                 ·
                  intro w'; go_simp; with_reducible rfl
                 rotate_left
                 ·
                  exact zp_
                 refine pure_ (i := 13) (N := some 80) (v := ?_) (a' := ?_) #[T_,T_,T_,T_,T_,T_,T_,T_,T_,T_,T_,T_,T_,T_,F_,F_,F_,F_,F_,F_,F_,F_,F_,F_,F_,F_,F_] rfl rfl (any_of HT_.out (by kernel_rfl)) (fun _ _ _ h => h) (Or.inl ⟨by rfl, ?_⟩) ?_ ?_
                 rotate_left
                 ·
                  intro w'; go_simp; with_reducible rfl
                 rotate_left
                 ·
                  exact zp_
                 refine pure_ (i := 14) (N := some 81) (v := undef) (a' := ?_) #[T_,T_,T_,T_,T_,T_,T_,T_,T_,T_,T_,T_,T_,T_,T_,F_,F_,F_,F_,F_,F_,F_,F_,F_,F_,F_,F_] rfl rfl (any_of HT_.out (by kernel_rfl)) (fun _ _ _ h => h) (Or.inr ⟨by rfl, rfl⟩) ?_ ?_
                 rotate_left
                 ·
                  exact zp_
                 refine pure_ (i := 15) (N := some 82) (v := undef) (a' := ?_) #[T_,T_,T_,T_,T_,T_,T_,T_,T_,T_,T_,T_,T_,T_,T_,T_,F_,F_,F_,F_,F_,F_,F_,F_,F_,F_,F_] rfl rfl (any_of HT_.out (by kernel_rfl)) (fun _ _ _ h => h) (Or.inr ⟨by rfl, rfl⟩) ?_ ?_
                 rotate_left
                 ·
                  exact zp_
                 refine pure_ (i := 16) (N := some 83) (v := undef) (a' := ?_) #[T_,T_,T_,T_,T_,T_,T_,T_,T_,T_,T_,T_,T_,T_,T_,T_,T_,F_,F_,F_,F_,F_,F_,F_,F_,F_,F_] rfl rfl (any_of HT_.out (by kernel_rfl)) (fun _ _ _ h => h) (Or.inr ⟨by rfl, rfl⟩) ?_ ?_
                 rotate_left
                 ·
                  exact zp_
                 refine pure_ (i := 17) (N := some 84) (v := undef) (a' := ?_) #[T_,T_,T_,T_,T_,T_,T_,T_,T_,T_,T_,T_,T_,T_,T_,T_,T_,T_,F_,F_,F_,F_,F_,F_,F_,F_,F_] rfl rfl (any_of HT_.out (by kernel_rfl)) (fun _ _ _ h => h) (Or.inr ⟨by rfl, rfl⟩) ?_ ?_
                 rotate_left
                 ·
                  exact zp_
                 refine pure_ (i := 18) (N := some 85) (v := undef) (a' := ?_) #[T_,T_,T_,T_,T_,T_,T_,T_,T_,T_,T_,T_,T_,T_,T_,T_,T_,T_,T_,F_,F_,F_,F_,F_,F_,F_,F_] rfl rfl (any_of HT_.out (by kernel_rfl)) (fun _ _ _ h => h) (Or.inr ⟨by rfl, rfl⟩) ?_ ?_
                 rotate_left
                 ·
                  exact zp_
                 refine pure_ (i := 19) (N := some 86) (v := undef) (a' := ?_) #[T_,T_,T_,T_,T_,T_,T_,T_,T_,T_,T_,T_,T_,T_,T_,T_,T_,T_,T_,T_,F_,F_,F_,F_,F_,F_,F_] rfl rfl (any_of HT_.out (by kernel_rfl)) (fun _ _ _ h => h) (Or.inr ⟨by rfl, rfl⟩) ?_ ?_
                 rotate_left
                 ·
                  exact zp_
                 refine pure_ (i := 20) (N := some 87) (v := undef) (a' := ?_) #[T_,T_,T_,T_,T_,T_,T_,T_,T_,T_,T_,T_,T_,T_,T_,T_,T_,T_,T_,T_,T_,F_,F_,F_,F_,F_,F_] rfl rfl (any_of HT_.out (by kernel_rfl)) (fun _ _ _ h => h) (Or.inr ⟨by rfl, rfl⟩) ?_ ?_
                 rotate_left
                 ·
                  exact zp_
                 refine pure_ (i := 21) (N := some 88) (v := undef) (a' := ?_) #[T_,T_,T_,T_,T_,T_,T_,T_,T_,T_,T_,T_,T_,T_,T_,T_,T_,T_,T_,T_,T_,T_,F_,F_,F_,F_,F_] rfl rfl (any_of HT_.out (by kernel_rfl)) (fun _ _ _ h => h) (Or.inr ⟨by rfl, rfl⟩) ?_ ?_
                 rotate_left
                 ·
                  exact zp_
                 refine pure_ (i := 22) (N := some 89) (v := undef) (a' := ?_) #[T_,T_,T_,T_,T_,T_,T_,T_,T_,T_,T_,T_,T_,T_,T_,T_,T_,T_,T_,T_,T_,T_,T_,F_,F_,F_,F_] rfl rfl (any_of HT_.out (by kernel_rfl)) (fun _ _ _ h => h) (Or.inr ⟨by rfl, rfl⟩) ?_ ?_
                 rotate_left
                 ·
                  exact zp_
                 refine pure_ (i := 23) (N := some 90) (v := undef) (a' := ?_) #[T_,T_,T_,T_,T_,T_,T_,T_,T_,T_,T_,T_,T_,T_,T_,T_,T_,T_,T_,T_,T_,T_,T_,T_,F_,F_,F_] rfl rfl (any_of HT_.out (by kernel_rfl)) (fun _ _ _ h => h) (Or.inr ⟨by rfl, rfl⟩) ?_ ?_
                 rotate_left
                 ·
                  exact zp_
                 refine pure_ (i := 24) (N := some 91) (v := undef) (a' := ?_) #[T_,T_,T_,T_,T_,T_,T_,T_,T_,T_,T_,T_,T_,T_,T_,T_,T_,T_,T_,T_,T_,T_,T_,T_,T_,F_,F_] rfl rfl (any_of HT_.out (by kernel_rfl)) (fun _ _ _ h => h) (Or.inr ⟨by rfl, rfl⟩) ?_ ?_
                 rotate_left
                 ·
                  exact zp_
                 refine pure_ (i := 25) (N := some 92) (v := ?_) (a' := ?_) #[T_,T_,T_,T_,T_,T_,T_,T_,T_,T_,T_,T_,T_,T_,T_,T_,T_,T_,T_,T_,T_,T_,T_,T_,T_,T_,F_] rfl rfl (any_of HT_.out (by kernel_rfl)) (fun _ _ _ h => h) (Or.inl ⟨by rfl, ?_⟩) ?_ ?_
                 rotate_left
                 ·
                  intro w'; go_simp; with_reducible rfl
                 rotate_left
                 ·
                  exact zp_
                 refine pure_ (i := 26) (N := some 93) (v := ?_) (a' := ?_) #[T_,T_,T_,T_,T_,T_,T_,T_,T_,T_,T_,T_,T_,T_,T_,T_,T_,T_,T_,T_,T_,T_,T_,T_,T_,T_,T_] rfl rfl (any_of HT_.out (by kernel_rfl)) (fun _ _ _ h => h) (Or.inl ⟨by rfl, ?_⟩) ?_ ?_
                 rotate_left
                 ·
                  intro w'; go_simp; with_reducible rfl
                 rotate_left
                 ·
                  exact zp_
                 refine done_ (done_of HT_.out (by kernel_rfl)) ?_
                 (try clear hHeld); (try clear HS0_); (try clear HS1_); (try clear HS2_); (try clear HS3_); (try clear HS4_); (try clear HS5_); (try clear HS6_); (try clear HS7_); (try clear HS8_); (try clear HS9_); (try clear HS10_); (try clear HS11_)
                 try go_wp2
                 go_roundg k4
                 case measure => have := HJ1.out; have := HJ14.out; have := HK3.out; have := HK4.out; omega
                 case rel => exact ⟨(wrap64 (x10_4 + 1)), (by first | rfl | (simp; done) | (simp [*]; done)), H', ⟨by have := HJ1.out; have := HJ14.out; have := HK3.out; have := HK4.out; omega⟩, ⟨by (with_reducible repeat (first | apply Kd.R_alloc | apply Kd.R_drewN | apply Kd.R_drew)); exact HO_6.out⟩, ⟨by (with_reducible repeat (first | apply Kd.R_alloc | apply Kd.R_drewN | apply Kd.R_drew)); exact HO_7.out⟩, ⟨by repeat (first | (with_reducible first | exact HB.out | apply below_alloc | apply pw_below_drewN | apply below_drew1) | exact HB.out)⟩⟩
              ·
               rw [if_neg c46] at H
               exact absurd H (by simp)
             ·
              rw [if_neg c45] at H
              exact absurd H (by simp)
            ·
             rw [if_neg c44] at H
             have c44b0 : decide (x10_4 < (t935.length : Int)) = false := decide_eq_false c44
             clear c44
             obtain rfl := Option.some.inj H
             obtain ⟨Ao73, co73, eo73⟩ := Kd.R_slice HO_7.out
             subst eo73
             go_wp2
             go_ret
             exact ⟨by first | rfl | (simp [errW_none, errW_some] <;> rfl) | (simp [*, errW_none, errW_some] <;> rfl), by repeat (first | (with_reducible first | exact HB.out | apply below_alloc | apply pw_below_drewN | apply below_drew1) | exact HB.out)⟩
end Go.Proofs.Ytioooiflpabngaa.PAll
end
section
namespace Go.Proofs.Ytioooiflpabngaa.PAll
open Go.RowKit Go.Proofs.YtioooiflpabngaaW.PrintWords Go.Proofs.YtioooiflpabngaaW.PrintMore
set_option linter.unusedVariables false
set_option linter.unusedSimpArgs false
theorem behind_take (S K : List S27) : (behindL S K).take S.length = S := by simp [behindL]
theorem behind_le (S K : List S27) : S.length ≤ (behindL S K).length := by simp [behindL]
theorem mem_behind {S K : List S27} {x : S27} (h : x ∈ K) : x ∈ behindL S K := by
  unfold behindL
  cases hc : memL x S with
  | true => exact List.mem_append_left _ (memL_iff.1 hc)
  | false => exact List.mem_append_right _ (List.mem_filter.2 ⟨mem_sortL.2 h, by simp [hc]⟩)
theorem behind_new (S K : List S27) (i : Nat) (h : S.length ≤ i) (hi : i < (behindL S K).length) : memL (behindL S K)[i] ((behindL S K).take i) = false := by
  cases hm : memL (behindL S K)[i] ((behindL S K).take i) with
  | false => rfl
  | true =>
    exfalso
    rw [memL_iff] at hm
    have hr : RiseL ((sortL K).filter fun x => !memL x S) := (sortL_rise K).filter _
    have e : (behindL S K)[i] = ((sortL K).filter fun x => !memL x S)[i - S.length]'(by simp only [behindL, List.length_append] at hi; omega) := by
      simp only [behindL]
      rw [List.getElem_append_right h]
    rw [e] at hm
    simp only [behindL] at hm
    rw [List.take_append, List.mem_append] at hm
    rcases hm with hm | hm
    · have hf := (List.mem_filter.1 (List.getElem_mem (l := (sortL K).filter fun x => !memL x S) (n := i - S.length) (by simp only [behindL, List.length_append] at hi; omega))).2
      rw [memL_iff.2 (List.mem_of_mem_take hm)] at hf
      cases hf
    · obtain ⟨j, hj, he⟩ := List.getElem_of_mem hm
      rw [List.length_take] at hj
      rw [List.getElem_take] at he
      have := List.pairwise_iff_getElem.1 hr j (i - S.length) (by omega) (by simp only [behindL, List.length_append] at hi; omega) (by omega)
      rw [he] at this
      exact ltL_irrefl _ this
theorem behind_less (S K : List S27) (i : Nat) (h : S.length < i) (hi : i < (behindL S K).length) : ltL ((behindL S K)[i - 1]'(by omega)) (behindL S K)[i] := by
  have hr : RiseL ((sortL K).filter fun x => !memL x S) := (sortL_rise K).filter _
  have e : ∀ j (hj : j < (behindL S K).length) (hs : S.length ≤ j), (behindL S K)[j] = ((sortL K).filter fun x => !memL x S)[j - S.length]'(by simp only [behindL, List.length_append] at hj; omega) := fun j hj hs => by
    simp only [behindL]
    rw [List.getElem_append_right hs]
  rw [e i hi (by omega), e (i - 1) (by omega) (by omega)]
  exact List.pairwise_iff_getElem.1 hr _ _ _ _ (by omega)
theorem full_last (S K : List S27) (hb : (behindL S K).length < 9223372036854775807) : ∀ (d i : Nat), d = (behindL S K).length - i → S.length ≤ i → Ev (fun k => folkmootlaw16_ExchangeFull.l1 k S (behindL S K) (i : Int)) true := by
  intro d
  induction d with
  | zero =>
    intro i hd hi
    exact Ev.step (fun k => by rw [folkmootlaw16_ExchangeFull.l1, if_neg (by omega)]) (Ev.const fun _ => rfl)
  | succ d ih =>
    intro i hd hi
    have hlt : i < (behindL S K).length := by omega
    have hin := refIn_ev ((behindL S K).take i) (behindL S K)[i] (by rw [List.length_take]; omega)
    rw [behind_new S K i hi hlt] at hin
    refine Ev.step (fun k => by rw [folkmootlaw16_ExchangeFull.l1, if_pos (by omega), if_pos (by omega), if_pos (by omega), rdL_nat hlt, Int.toNat_natCast]) (Ev.bind hin ?_)
    simp only [Bool.false_eq_true, if_false]
    by_cases hg : (i : Int) > (S.length : Int)
    · have e1 : wrap64 ((i : Int) - 1) = ((i - 1 : Nat) : Int) := by unfold wrap64; omega
      have hl1 : i - 1 < (behindL S K).length := by omega
      have c1 : (0 : Int) ≤ ((i - 1 : Nat) : Int) := by omega
      have c2 : ((i - 1 : Nat) : Int) < ((behindL S K).length : Int) := by omega
      have hls := refLess_ev (behindL S K)[i - 1] (behindL S K)[i]
      rw [decide_eq_true ((cmpL_neg _ _).2 (behind_less S K i (by omega) hlt))] at hls
      simp only [hg, e1, c1, c2, if_true, rdL_nat hl1]
      refine Ev.bind hls ?_
      simp only [if_true, wrap_nat (show i < 9223372036854775807 by omega)]
      exact ih (i + 1) (by omega) (by omega)
    · simp only [hg, if_false, wrap_nat (show i < 9223372036854775807 by omega)]
      exact ih (i + 1) (by omega) (by omega)
theorem full_first (S K : List S27) (E : List S32) (hE : ∀ e ∈ E, e.f0 ∈ K) (hb : (behindL S K).length < 9223372036854775807) (hl : E.length < 9223372036854775807) : ∀ (d i : Nat), d = E.length - i → i ≤ E.length → Ev (fun k => folkmootlaw16_ExchangeFull.l0 k S (behindL S K) E (i : Int)) true := by
  intro d
  induction d with
  | zero =>
    intro i hd hi
    exact Ev.step (fun k => by rw [folkmootlaw16_ExchangeFull.l0, if_neg (by omega)]) (full_last S K hb _ S.length rfl (Nat.le_refl _))
  | succ d ih =>
    intro i hd hi
    have hlt : i < E.length := by omega
    have hin := refIn_ev (behindL S K) E[i].f0 hb
    rw [memL_iff.2 (mem_behind (hE _ (List.getElem_mem hlt)))] at hin
    refine Ev.step (fun k => by rw [folkmootlaw16_ExchangeFull.l0, if_pos (by omega), if_pos (by omega), rdE_nat hlt, wrap_nat (by omega)]) (Ev.bind hin ?_)
    simp only [if_true]
    exact ih (i + 1) (by omega) (by omega)
theorem pure_ExchangeFull (l0 : List S53) (h0 : l0.length * 72 ≤ reachBytes ∧ ∀ x ∈ l0, rightS x) : ∃ k, folkmootlaw16_ExchangeFull.f k l0 = some true := by
  refine Ev.get ?_
  unfold folkmootlaw16_ExchangeFull.f
  refine exch_start (j0 := fun k b => folkmootlaw16_ExchangeFull.j0 k l0 b) l0 (summaries_len h0.1) h0.2 (Ev.step (fun k => by rw [folkmootlaw16_ExchangeFull.j0, if_pos rfl]) (Ev.bind awake16_ev (Ev.const fun _ => rfl))) fun hn ht => ?_
  have hf := told_fine (a := 0) h0.2 hn ht
  have h1 := hf.shortLen
  have h2 := hf.fullLen
  have h3 := hf.knownLen
  have hle : (shortT (toldT l0 0)).length ≤ (fullT (toldT l0 0)).length := behind_le _ _
  have htk : (fullT (toldT l0 0)).take (shortT (toldT l0 0)).length = shortT (toldT l0 0) := behind_take _ _
  refine Ev.step (fun k => by rw [folkmootlaw16_ExchangeFull.j0, if_neg (by simp)]) (Ev.bind (show Ev (fun k => folkmootlaw16_told.f k l0 0) _ from told_ev l0 0 (by omega) hn (con_few ht)) (Ev.bind hf.short (Ev.bind hf.full (Ev.bind hf.refKnown ?_))))
  have c1 : ¬ ((fullT (toldT l0 0)).length : Int) < ((shortT (toldT l0 0)).length : Int) := by omega
  have c2 : (0 : Int) ≤ ((shortT (toldT l0 0)).length : Int) := by omega
  have c3 : ((shortT (toldT l0 0)).length : Int) ≤ ((fullT (toldT l0 0)).length : Int) := by omega
  simp only [c1, c2, c3, if_true, if_false, Int.toNat_natCast, htk]
  refine Ev.bind (sameL_ev (shortT (toldT l0 0)) (by omega)) ?_
  refine Ev.step (fun k => by rw [folkmootlaw16_ExchangeFull.j1, if_neg (by simp)]) ?_
  exact full_first (shortT (toldT l0 0)) _ _ (fun e he => List.mem_map.2 ⟨e, he, rfl⟩) (by show (fullT (toldT l0 0)).length < _; omega) (by omega) _ 0 rfl (Nat.zero_le _)
end Go.Proofs.Ytioooiflpabngaa.PAll
end
section
namespace Go.Proofs.Ytioooiflpabngaa
theorem head_signs : Try.prog.initOrder.toList = [104, 97, 114, 110, 101, 115, 115, 32, 98, 100, 54, 52, 55, 100, 48, 52, 56, 99, 56, 57, 55, 50, 49, 57, 98, 52, 100, 49, 52, 51, 55, 98, 57, 48, 102, 102, 48, 56, 49, 50, 49, 53, 100, 52, 49, 53, 51, 54, 99, 100, 49, 54, 52, 54, 49, 100, 52, 97, 49, 97, 54, 54, 102, 52, 101, 56, 53, 55, 97, 101, 50, 55, 32, 99, 117, 116, 32, 97, 116, 32, 102, 111, 108, 107, 109, 111, 111, 116, 47, 102, 111, 108, 107, 109, 111, 111, 116, 108, 97, 119, 49, 53, 46, 67, 111, 110, 116, 101, 110, 116, 70, 105, 110, 100, 115, 32, 102, 111, 108, 107, 109, 111, 111, 116, 47, 102, 111, 108, 107, 109, 111, 111, 116, 108, 97, 119, 49, 53, 46, 67, 111, 110, 116, 101, 110, 116, 75, 101, 101, 112, 115, 32, 102, 111, 108, 107, 109, 111, 111, 116, 47, 102, 111, 108, 107, 109, 111, 111, 116, 108, 97, 119, 49, 53, 46, 67, 111, 110, 116, 101, 110, 116, 77, 101, 114, 103, 101, 115, 32, 102, 111, 108, 107, 109, 111, 111, 116, 47, 102, 111, 108, 107, 109, 111, 111, 116, 108, 97, 119, 49, 53, 46, 67, 111, 110, 116, 101, 110, 116, 79, 114, 100, 101, 114, 32, 102, 111, 108, 107, 109, 111, 111, 116, 47, 102, 111, 108, 107, 109, 111, 111, 116, 108, 97, 119, 48, 53, 46, 76, 97, 98, 101, 108, 75, 101, 101, 112, 115, 32, 102, 111, 108, 107, 109, 111, 111, 116, 47, 102, 111, 108, 107, 109, 111, 111, 116, 108, 97, 119, 48, 53, 46, 76, 97, 98, 101, 108, 80, 97, 114, 116, 115, 32, 102, 111, 108, 107, 109, 111, 111, 116, 47, 102, 111, 108, 107, 109, 111, 111, 116, 108, 97, 119, 48, 53, 46, 76, 97, 98, 101, 108, 83, 111, 114, 116, 115, 32, 102, 111, 108, 107, 109, 111, 111, 116, 47, 102, 111, 108, 107, 109, 111, 111, 116, 108, 97, 119, 48, 53, 46, 76, 97, 98, 101, 108, 66, 101, 104, 105, 110, 100, 32, 102, 111, 108, 107, 109, 111, 111, 116, 47, 102, 111, 108, 107, 109, 111, 111, 116, 108, 97, 119, 48, 53, 46, 76, 97, 98, 101, 108, 79, 114, 100, 101, 114, 32, 102, 111, 108, 107, 109, 111, 111, 116, 47, 102, 111, 108, 107, 109, 111, 111, 116, 108, 97, 119, 49, 53, 46, 67, 111, 110, 116, 101, 110, 116, 65, 112, 97, 114, 116, 32, 102, 111, 108, 107, 109, 111, 111, 116, 47, 102, 111, 108, 107, 109, 111, 111, 116, 108, 97, 119, 49, 53, 46, 67, 111, 110, 116, 101, 110, 116, 79, 110, 101, 32, 102, 111, 108, 107, 109, 111, 111, 116, 47, 102, 111, 108, 107, 109, 111, 111, 116, 108, 97, 119, 49, 53, 46, 67, 111, 110, 116, 101, 110, 116, 82, 101, 97, 100, 115, 32, 102, 111, 108, 107, 109, 111, 111, 116, 47, 102, 111, 108, 107, 109, 111, 111, 116, 108, 97, 119, 49, 53, 46, 67, 111, 110, 116, 101, 110, 116, 65, 108, 108, 32, 102, 111, 108, 107, 109, 111, 111, 116, 47, 102, 111, 108, 107, 109, 111, 111, 116, 108, 97, 119, 49, 54, 46, 69, 120, 99, 104, 97, 110, 103, 101, 80, 108, 97, 121, 115, 32, 102, 111, 108, 107, 109, 111, 111, 116, 47, 102, 111, 108, 107, 109, 111, 111, 116, 108, 97, 119, 49, 54, 46, 69, 120, 99, 104, 97, 110, 103, 101, 84, 117, 114, 110, 101, 100, 32, 102, 111, 108, 107, 109, 111, 111, 116, 47, 102, 111, 108, 107, 109, 111, 111, 116, 108, 97, 119, 49, 54, 46, 69, 120, 99, 104, 97, 110, 103, 101, 70, 117, 108, 108, 32, 102, 111, 108, 107, 109, 111, 111, 116, 47, 102, 111, 108, 107, 109, 111, 111, 116, 108, 97, 119, 49, 54, 46, 69, 120, 99, 104, 97, 110, 103, 101, 75, 101, 101, 112, 115, 32, 102, 111, 108, 107, 109, 111, 111, 116, 47, 102, 111, 108, 107, 109, 111, 111, 116, 108, 97, 119, 49, 54, 46, 69, 120, 99, 104, 97, 110, 103, 101, 79, 110, 101, 32, 102, 111, 108, 107, 109, 111, 111, 116, 47, 102, 111, 108, 107, 109, 111, 111, 116, 108, 97, 119, 49, 54, 46, 69, 120, 99, 104, 97, 110, 103, 101, 77, 111, 114, 101].map Char.ofNat := by
  have h : Try.prog.initOrder = String.ofList ([104, 97, 114, 110, 101, 115, 115, 32, 98, 100, 54, 52, 55, 100, 48, 52, 56, 99, 56, 57, 55, 50, 49, 57, 98, 52, 100, 49, 52, 51, 55, 98, 57, 48, 102, 102, 48, 56, 49, 50, 49, 53, 100, 52, 49, 53, 51, 54, 99, 100, 49, 54, 52, 54, 49, 100, 52, 97, 49, 97, 54, 54, 102, 52, 101, 56, 53, 55, 97, 101, 50, 55, 32, 99, 117, 116, 32, 97, 116, 32, 102, 111, 108, 107, 109, 111, 111, 116, 47, 102, 111, 108, 107, 109, 111, 111, 116, 108, 97, 119, 49, 53, 46, 67, 111, 110, 116, 101, 110, 116, 70, 105, 110, 100, 115, 32, 102, 111, 108, 107, 109, 111, 111, 116, 47, 102, 111, 108, 107, 109, 111, 111, 116, 108, 97, 119, 49, 53, 46, 67, 111, 110, 116, 101, 110, 116, 75, 101, 101, 112, 115, 32, 102, 111, 108, 107, 109, 111, 111, 116, 47, 102, 111, 108, 107, 109, 111, 111, 116, 108, 97, 119, 49, 53, 46, 67, 111, 110, 116, 101, 110, 116, 77, 101, 114, 103, 101, 115, 32, 102, 111, 108, 107, 109, 111, 111, 116, 47, 102, 111, 108, 107, 109, 111, 111, 116, 108, 97, 119, 49, 53, 46, 67, 111, 110, 116, 101, 110, 116, 79, 114, 100, 101, 114, 32, 102, 111, 108, 107, 109, 111, 111, 116, 47, 102, 111, 108, 107, 109, 111, 111, 116, 108, 97, 119, 48, 53, 46, 76, 97, 98, 101, 108, 75, 101, 101, 112, 115, 32, 102, 111, 108, 107, 109, 111, 111, 116, 47, 102, 111, 108, 107, 109, 111, 111, 116, 108, 97, 119, 48, 53, 46, 76, 97, 98, 101, 108, 80, 97, 114, 116, 115, 32, 102, 111, 108, 107, 109, 111, 111, 116, 47, 102, 111, 108, 107, 109, 111, 111, 116, 108, 97, 119, 48, 53, 46, 76, 97, 98, 101, 108, 83, 111, 114, 116, 115, 32, 102, 111, 108, 107, 109, 111, 111, 116, 47, 102, 111, 108, 107, 109, 111, 111, 116, 108, 97, 119, 48, 53, 46, 76, 97, 98, 101, 108, 66, 101, 104, 105, 110, 100, 32, 102, 111, 108, 107, 109, 111, 111, 116, 47, 102, 111, 108, 107, 109, 111, 111, 116, 108, 97, 119, 48, 53, 46, 76, 97, 98, 101, 108, 79, 114, 100, 101, 114, 32, 102, 111, 108, 107, 109, 111, 111, 116, 47, 102, 111, 108, 107, 109, 111, 111, 116, 108, 97, 119, 49, 53, 46, 67, 111, 110, 116, 101, 110, 116, 65, 112, 97, 114, 116, 32, 102, 111, 108, 107, 109, 111, 111, 116, 47, 102, 111, 108, 107, 109, 111, 111, 116, 108, 97, 119, 49, 53, 46, 67, 111, 110, 116, 101, 110, 116, 79, 110, 101, 32, 102, 111, 108, 107, 109, 111, 111, 116, 47, 102, 111, 108, 107, 109, 111, 111, 116, 108, 97, 119, 49, 53, 46, 67, 111, 110, 116, 101, 110, 116, 82, 101, 97, 100, 115, 32, 102, 111, 108, 107, 109, 111, 111, 116, 47, 102, 111, 108, 107, 109, 111, 111, 116, 108, 97, 119, 49, 53, 46, 67, 111, 110, 116, 101, 110, 116, 65, 108, 108, 32, 102, 111, 108, 107, 109, 111, 111, 116, 47, 102, 111, 108, 107, 109, 111, 111, 116, 108, 97, 119, 49, 54, 46, 69, 120, 99, 104, 97, 110, 103, 101, 80, 108, 97, 121, 115, 32, 102, 111, 108, 107, 109, 111, 111, 116, 47, 102, 111, 108, 107, 109, 111, 111, 116, 108, 97, 119, 49, 54, 46, 69, 120, 99, 104, 97, 110, 103, 101, 84, 117, 114, 110, 101, 100, 32, 102, 111, 108, 107, 109, 111, 111, 116, 47, 102, 111, 108, 107, 109, 111, 111, 116, 108, 97, 119, 49, 54, 46, 69, 120, 99, 104, 97, 110, 103, 101, 70, 117, 108, 108, 32, 102, 111, 108, 107, 109, 111, 111, 116, 47, 102, 111, 108, 107, 109, 111, 111, 116, 108, 97, 119, 49, 54, 46, 69, 120, 99, 104, 97, 110, 103, 101, 75, 101, 101, 112, 115, 32, 102, 111, 108, 107, 109, 111, 111, 116, 47, 102, 111, 108, 107, 109, 111, 111, 116, 108, 97, 119, 49, 54, 46, 69, 120, 99, 104, 97, 110, 103, 101, 79, 110, 101, 32, 102, 111, 108, 107, 109, 111, 111, 116, 47, 102, 111, 108, 107, 109, 111, 111, 116, 108, 97, 119, 49, 54, 46, 69, 120, 99, 104, 97, 110, 103, 101, 77, 111, 114, 101].map Char.ofNat) := by kernel_rfl
  rw [h, String.toList_ofList]
theorem head_words : wordsSigns ([104, 97, 114, 110, 101, 115, 115, 32, 98, 100, 54, 52, 55, 100, 48, 52, 56, 99, 56, 57, 55, 50, 49, 57, 98, 52, 100, 49, 52, 51, 55, 98, 57, 48, 102, 102, 48, 56, 49, 50, 49, 53, 100, 52, 49, 53, 51, 54, 99, 100, 49, 54, 52, 54, 49, 100, 52, 97, 49, 97, 54, 54, 102, 52, 101, 56, 53, 55, 97, 101, 50, 55, 32, 99, 117, 116, 32, 97, 116, 32, 102, 111, 108, 107, 109, 111, 111, 116, 47, 102, 111, 108, 107, 109, 111, 111, 116, 108, 97, 119, 49, 53, 46, 67, 111, 110, 116, 101, 110, 116, 70, 105, 110, 100, 115, 32, 102, 111, 108, 107, 109, 111, 111, 116, 47, 102, 111, 108, 107, 109, 111, 111, 116, 108, 97, 119, 49, 53, 46, 67, 111, 110, 116, 101, 110, 116, 75, 101, 101, 112, 115, 32, 102, 111, 108, 107, 109, 111, 111, 116, 47, 102, 111, 108, 107, 109, 111, 111, 116, 108, 97, 119, 49, 53, 46, 67, 111, 110, 116, 101, 110, 116, 77, 101, 114, 103, 101, 115, 32, 102, 111, 108, 107, 109, 111, 111, 116, 47, 102, 111, 108, 107, 109, 111, 111, 116, 108, 97, 119, 49, 53, 46, 67, 111, 110, 116, 101, 110, 116, 79, 114, 100, 101, 114, 32, 102, 111, 108, 107, 109, 111, 111, 116, 47, 102, 111, 108, 107, 109, 111, 111, 116, 108, 97, 119, 48, 53, 46, 76, 97, 98, 101, 108, 75, 101, 101, 112, 115, 32, 102, 111, 108, 107, 109, 111, 111, 116, 47, 102, 111, 108, 107, 109, 111, 111, 116, 108, 97, 119, 48, 53, 46, 76, 97, 98, 101, 108, 80, 97, 114, 116, 115, 32, 102, 111, 108, 107, 109, 111, 111, 116, 47, 102, 111, 108, 107, 109, 111, 111, 116, 108, 97, 119, 48, 53, 46, 76, 97, 98, 101, 108, 83, 111, 114, 116, 115, 32, 102, 111, 108, 107, 109, 111, 111, 116, 47, 102, 111, 108, 107, 109, 111, 111, 116, 108, 97, 119, 48, 53, 46, 76, 97, 98, 101, 108, 66, 101, 104, 105, 110, 100, 32, 102, 111, 108, 107, 109, 111, 111, 116, 47, 102, 111, 108, 107, 109, 111, 111, 116, 108, 97, 119, 48, 53, 46, 76, 97, 98, 101, 108, 79, 114, 100, 101, 114, 32, 102, 111, 108, 107, 109, 111, 111, 116, 47, 102, 111, 108, 107, 109, 111, 111, 116, 108, 97, 119, 49, 53, 46, 67, 111, 110, 116, 101, 110, 116, 65, 112, 97, 114, 116, 32, 102, 111, 108, 107, 109, 111, 111, 116, 47, 102, 111, 108, 107, 109, 111, 111, 116, 108, 97, 119, 49, 53, 46, 67, 111, 110, 116, 101, 110, 116, 79, 110, 101, 32, 102, 111, 108, 107, 109, 111, 111, 116, 47, 102, 111, 108, 107, 109, 111, 111, 116, 108, 97, 119, 49, 53, 46, 67, 111, 110, 116, 101, 110, 116, 82, 101, 97, 100, 115, 32, 102, 111, 108, 107, 109, 111, 111, 116, 47, 102, 111, 108, 107, 109, 111, 111, 116, 108, 97, 119, 49, 53, 46, 67, 111, 110, 116, 101, 110, 116, 65, 108, 108, 32, 102, 111, 108, 107, 109, 111, 111, 116, 47, 102, 111, 108, 107, 109, 111, 111, 116, 108, 97, 119, 49, 54, 46, 69, 120, 99, 104, 97, 110, 103, 101, 80, 108, 97, 121, 115, 32, 102, 111, 108, 107, 109, 111, 111, 116, 47, 102, 111, 108, 107, 109, 111, 111, 116, 108, 97, 119, 49, 54, 46, 69, 120, 99, 104, 97, 110, 103, 101, 84, 117, 114, 110, 101, 100, 32, 102, 111, 108, 107, 109, 111, 111, 116, 47, 102, 111, 108, 107, 109, 111, 111, 116, 108, 97, 119, 49, 54, 46, 69, 120, 99, 104, 97, 110, 103, 101, 70, 117, 108, 108, 32, 102, 111, 108, 107, 109, 111, 111, 116, 47, 102, 111, 108, 107, 109, 111, 111, 116, 108, 97, 119, 49, 54, 46, 69, 120, 99, 104, 97, 110, 103, 101, 75, 101, 101, 112, 115, 32, 102, 111, 108, 107, 109, 111, 111, 116, 47, 102, 111, 108, 107, 109, 111, 111, 116, 108, 97, 119, 49, 54, 46, 69, 120, 99, 104, 97, 110, 103, 101, 79, 110, 101, 32, 102, 111, 108, 107, 109, 111, 111, 116, 47, 102, 111, 108, 107, 109, 111, 111, 116, 108, 97, 119, 49, 54, 46, 69, 120, 99, 104, 97, 110, 103, 101, 77, 111, 114, 101].map Char.ofNat) = [[104, 97, 114, 110, 101, 115, 115], [98, 100, 54, 52, 55, 100, 48, 52, 56, 99, 56, 57, 55, 50, 49, 57, 98, 52, 100, 49, 52, 51, 55, 98, 57, 48, 102, 102, 48, 56, 49, 50, 49, 53, 100, 52, 49, 53, 51, 54, 99, 100, 49, 54, 52, 54, 49, 100, 52, 97, 49, 97, 54, 54, 102, 52, 101, 56, 53, 55, 97, 101, 50, 55], [99, 117, 116], [97, 116], [102, 111, 108, 107, 109, 111, 111, 116, 47, 102, 111, 108, 107, 109, 111, 111, 116, 108, 97, 119, 49, 53, 46, 67, 111, 110, 116, 101, 110, 116, 70, 105, 110, 100, 115], [102, 111, 108, 107, 109, 111, 111, 116, 47, 102, 111, 108, 107, 109, 111, 111, 116, 108, 97, 119, 49, 53, 46, 67, 111, 110, 116, 101, 110, 116, 75, 101, 101, 112, 115], [102, 111, 108, 107, 109, 111, 111, 116, 47, 102, 111, 108, 107, 109, 111, 111, 116, 108, 97, 119, 49, 53, 46, 67, 111, 110, 116, 101, 110, 116, 77, 101, 114, 103, 101, 115], [102, 111, 108, 107, 109, 111, 111, 116, 47, 102, 111, 108, 107, 109, 111, 111, 116, 108, 97, 119, 49, 53, 46, 67, 111, 110, 116, 101, 110, 116, 79, 114, 100, 101, 114], [102, 111, 108, 107, 109, 111, 111, 116, 47, 102, 111, 108, 107, 109, 111, 111, 116, 108, 97, 119, 48, 53, 46, 76, 97, 98, 101, 108, 75, 101, 101, 112, 115], [102, 111, 108, 107, 109, 111, 111, 116, 47, 102, 111, 108, 107, 109, 111, 111, 116, 108, 97, 119, 48, 53, 46, 76, 97, 98, 101, 108, 80, 97, 114, 116, 115], [102, 111, 108, 107, 109, 111, 111, 116, 47, 102, 111, 108, 107, 109, 111, 111, 116, 108, 97, 119, 48, 53, 46, 76, 97, 98, 101, 108, 83, 111, 114, 116, 115], [102, 111, 108, 107, 109, 111, 111, 116, 47, 102, 111, 108, 107, 109, 111, 111, 116, 108, 97, 119, 48, 53, 46, 76, 97, 98, 101, 108, 66, 101, 104, 105, 110, 100], [102, 111, 108, 107, 109, 111, 111, 116, 47, 102, 111, 108, 107, 109, 111, 111, 116, 108, 97, 119, 48, 53, 46, 76, 97, 98, 101, 108, 79, 114, 100, 101, 114], [102, 111, 108, 107, 109, 111, 111, 116, 47, 102, 111, 108, 107, 109, 111, 111, 116, 108, 97, 119, 49, 53, 46, 67, 111, 110, 116, 101, 110, 116, 65, 112, 97, 114, 116], [102, 111, 108, 107, 109, 111, 111, 116, 47, 102, 111, 108, 107, 109, 111, 111, 116, 108, 97, 119, 49, 53, 46, 67, 111, 110, 116, 101, 110, 116, 79, 110, 101], [102, 111, 108, 107, 109, 111, 111, 116, 47, 102, 111, 108, 107, 109, 111, 111, 116, 108, 97, 119, 49, 53, 46, 67, 111, 110, 116, 101, 110, 116, 82, 101, 97, 100, 115], [102, 111, 108, 107, 109, 111, 111, 116, 47, 102, 111, 108, 107, 109, 111, 111, 116, 108, 97, 119, 49, 53, 46, 67, 111, 110, 116, 101, 110, 116, 65, 108, 108], [102, 111, 108, 107, 109, 111, 111, 116, 47, 102, 111, 108, 107, 109, 111, 111, 116, 108, 97, 119, 49, 54, 46, 69, 120, 99, 104, 97, 110, 103, 101, 80, 108, 97, 121, 115], [102, 111, 108, 107, 109, 111, 111, 116, 47, 102, 111, 108, 107, 109, 111, 111, 116, 108, 97, 119, 49, 54, 46, 69, 120, 99, 104, 97, 110, 103, 101, 84, 117, 114, 110, 101, 100], [102, 111, 108, 107, 109, 111, 111, 116, 47, 102, 111, 108, 107, 109, 111, 111, 116, 108, 97, 119, 49, 54, 46, 69, 120, 99, 104, 97, 110, 103, 101, 70, 117, 108, 108], [102, 111, 108, 107, 109, 111, 111, 116, 47, 102, 111, 108, 107, 109, 111, 111, 116, 108, 97, 119, 49, 54, 46, 69, 120, 99, 104, 97, 110, 103, 101, 75, 101, 101, 112, 115], [102, 111, 108, 107, 109, 111, 111, 116, 47, 102, 111, 108, 107, 109, 111, 111, 116, 108, 97, 119, 49, 54, 46, 69, 120, 99, 104, 97, 110, 103, 101, 79, 110, 101], [102, 111, 108, 107, 109, 111, 111, 116, 47, 102, 111, 108, 107, 109, 111, 111, 116, 108, 97, 119, 49, 54, 46, 69, 120, 99, 104, 97, 110, 103, 101, 77, 111, 114, 101]].map (List.map Char.ofNat) := by kernel_rfl
theorem head_behind : ∃ rest, behindMainWord (wordsSigns Try.prog.initOrder.toList) = [99, 117, 116].map Char.ofNat :: rest := by
  rw [head_signs, head_words]
  exact ⟨[[99, 117, 116], [97, 116], [102, 111, 108, 107, 109, 111, 111, 116, 47, 102, 111, 108, 107, 109, 111, 111, 116, 108, 97, 119, 49, 53, 46, 67, 111, 110, 116, 101, 110, 116, 70, 105, 110, 100, 115], [102, 111, 108, 107, 109, 111, 111, 116, 47, 102, 111, 108, 107, 109, 111, 111, 116, 108, 97, 119, 49, 53, 46, 67, 111, 110, 116, 101, 110, 116, 75, 101, 101, 112, 115], [102, 111, 108, 107, 109, 111, 111, 116, 47, 102, 111, 108, 107, 109, 111, 111, 116, 108, 97, 119, 49, 53, 46, 67, 111, 110, 116, 101, 110, 116, 77, 101, 114, 103, 101, 115], [102, 111, 108, 107, 109, 111, 111, 116, 47, 102, 111, 108, 107, 109, 111, 111, 116, 108, 97, 119, 49, 53, 46, 67, 111, 110, 116, 101, 110, 116, 79, 114, 100, 101, 114], [102, 111, 108, 107, 109, 111, 111, 116, 47, 102, 111, 108, 107, 109, 111, 111, 116, 108, 97, 119, 48, 53, 46, 76, 97, 98, 101, 108, 75, 101, 101, 112, 115], [102, 111, 108, 107, 109, 111, 111, 116, 47, 102, 111, 108, 107, 109, 111, 111, 116, 108, 97, 119, 48, 53, 46, 76, 97, 98, 101, 108, 80, 97, 114, 116, 115], [102, 111, 108, 107, 109, 111, 111, 116, 47, 102, 111, 108, 107, 109, 111, 111, 116, 108, 97, 119, 48, 53, 46, 76, 97, 98, 101, 108, 83, 111, 114, 116, 115], [102, 111, 108, 107, 109, 111, 111, 116, 47, 102, 111, 108, 107, 109, 111, 111, 116, 108, 97, 119, 48, 53, 46, 76, 97, 98, 101, 108, 66, 101, 104, 105, 110, 100], [102, 111, 108, 107, 109, 111, 111, 116, 47, 102, 111, 108, 107, 109, 111, 111, 116, 108, 97, 119, 48, 53, 46, 76, 97, 98, 101, 108, 79, 114, 100, 101, 114], [102, 111, 108, 107, 109, 111, 111, 116, 47, 102, 111, 108, 107, 109, 111, 111, 116, 108, 97, 119, 49, 53, 46, 67, 111, 110, 116, 101, 110, 116, 65, 112, 97, 114, 116], [102, 111, 108, 107, 109, 111, 111, 116, 47, 102, 111, 108, 107, 109, 111, 111, 116, 108, 97, 119, 49, 53, 46, 67, 111, 110, 116, 101, 110, 116, 79, 110, 101], [102, 111, 108, 107, 109, 111, 111, 116, 47, 102, 111, 108, 107, 109, 111, 111, 116, 108, 97, 119, 49, 53, 46, 67, 111, 110, 116, 101, 110, 116, 82, 101, 97, 100, 115], [102, 111, 108, 107, 109, 111, 111, 116, 47, 102, 111, 108, 107, 109, 111, 111, 116, 108, 97, 119, 49, 53, 46, 67, 111, 110, 116, 101, 110, 116, 65, 108, 108], [102, 111, 108, 107, 109, 111, 111, 116, 47, 102, 111, 108, 107, 109, 111, 111, 116, 108, 97, 119, 49, 54, 46, 69, 120, 99, 104, 97, 110, 103, 101, 80, 108, 97, 121, 115], [102, 111, 108, 107, 109, 111, 111, 116, 47, 102, 111, 108, 107, 109, 111, 111, 116, 108, 97, 119, 49, 54, 46, 69, 120, 99, 104, 97, 110, 103, 101, 84, 117, 114, 110, 101, 100], [102, 111, 108, 107, 109, 111, 111, 116, 47, 102, 111, 108, 107, 109, 111, 111, 116, 108, 97, 119, 49, 54, 46, 69, 120, 99, 104, 97, 110, 103, 101, 70, 117, 108, 108], [102, 111, 108, 107, 109, 111, 111, 116, 47, 102, 111, 108, 107, 109, 111, 111, 116, 108, 97, 119, 49, 54, 46, 69, 120, 99, 104, 97, 110, 103, 101, 75, 101, 101, 112, 115], [102, 111, 108, 107, 109, 111, 111, 116, 47, 102, 111, 108, 107, 109, 111, 111, 116, 108, 97, 119, 49, 54, 46, 69, 120, 99, 104, 97, 110, 103, 101, 79, 110, 101], [102, 111, 108, 107, 109, 111, 111, 116, 47, 102, 111, 108, 107, 109, 111, 111, 116, 108, 97, 119, 49, 54, 46, 69, 120, 99, 104, 97, 110, 103, 101, 77, 111, 114, 101]].tail.map (List.map Char.ofNat), by kernel_rfl⟩
theorem cut_gc : (([99, 117, 116].map Char.ofNat) == "gc".toList) = false := by kernel_rfl
theorem cut_spec : (([99, 117, 116].map Char.ofNat) == "spec".toList) = false := by kernel_rfl
theorem cut_carried : (([99, 117, 116].map Char.ofNat) == "carried".toList) = false := by kernel_rfl
theorem cut_cut : (([99, 117, 116].map Char.ofNat) == "cut".toList) = true := by kernel_rfl
theorem cut_some (rest : List (List Char)) : ((([99, 117, 116].map Char.ofNat) :: rest).head? == some "cut".toList) = true := cut_cut
theorem cut_strip (rest : List (List Char)) : stripLifts liftWords (([99, 117, 116].map Char.ofNat) :: rest) = ([], ([99, 117, 116].map Char.ofNat) :: rest) := by
  simp only [liftWords, stripLifts]
  rfl
theorem make_of {P : Program} {rest : List (List Char)} (h : behindMainWord (wordsSigns P.initOrder.toList) = [99, 117, 116].map Char.ofNat :: rest) : P.make = some .cut := by
  unfold Program.make
  rw [h]
  simp only [cut_gc, cut_spec, cut_cut, Bool.or_false, Bool.true_or, Bool.false_eq_true, if_false, if_true]
theorem lifts_of {P : Program} {rest : List (List Char)} (h : behindMainWord (wordsSigns P.initOrder.toList) = [99, 117, 116].map Char.ofNat :: rest) : P.liftsFinal = false := by
  unfold Program.liftsFinal Program.headLifts
  rw [h]
  simp only [cut_strip, List.head?_cons]
  show ((([99, 117, 116].map Char.ofNat) == "carried".toList) && _ || _) = false
  rw [cut_carried]
  kernel_rfl
theorem enter_of {P : Program} {rest : List (List Char)} (h : behindMainWord (wordsSigns P.initOrder.toList) = [99, 117, 116].map Char.ofNat :: rest) (h1 : P.laysLater = false) (h2 : P.bearsReflect = false) (h3 : P.doorFits [] = true) : P.mayEnter = true := by
  unfold Program.mayEnter
  rw [h]
  simp only [cut_strip, cut_some, cut_gc, cut_spec, cut_carried, h1, h2, h3, Bool.not_false, Bool.or_true, Bool.and_true, Bool.or_false, Bool.false_and, List.contains_nil]
theorem head_make : Try.prog.make = some .cut := head_behind.elim fun _ h => make_of h
theorem head_lifts : Try.prog.liftsFinal = false := head_behind.elim fun _ h => lifts_of h
theorem head_enter : Try.prog.mayEnter = true := head_behind.elim fun _ h => enter_of h (by kernel_rfl) (by kernel_rfl) (by kernel_rfl)
end Go.Proofs.Ytioooiflpabngaa
end
section
namespace Go.Proofs.Ytioooiflpabngaa.exchangeFull
open Go.ChangeShapes Go.WideShapes Go.ChangeAt Go.RowKit Go.Proofs.Ytioooiflpabngaa.PAll
set_option linter.unusedVariables false
theorem own : ownKnob Try.prog.godebug = none := by kernel_rfl
theorem laidOut : laidOutB Try.prog = true := by kernel_rfl
set_option maxRecDepth 100000 in
theorem lifted (os : Os) (started : os.Started) (H : Type) (enc : TypeId × Value → H) :
    ReturnsInHanded {} Try.checked os 18 .any (Rows.exchangeFullSpec.pre6 enc Try.prog Try.f18 Rows.exchangeFullRow.domain false) (Rows.exchangeFullSpec.post enc Try.prog Try.f18 false true false false) := by
  refine returnsInHanded_of_change_sized (C := Try.checked) own started (by kernel_rfl) Try.func18
    (ChangeSpec.witness6 (enc := enc) (C := Try.checked) false ⟨#[], #[.slice none 0 0], []⟩ 8 (by kernel_rfl) (by kernel_rfl) (by kernel_rfl) (by kernel_rfl)) ?_
  intro W base args ds gs before hval0 hW hcnd hsz0 _
  have hsz : (DataW.weightsEach Try.prog (Try.f18.params.toList ++ Rows.exchangeFullSpec.plain.varTypes Try.prog) (ds ++ gs)).all (· ≤ reachBytes) = true := hsz0
  have hval : ∀ (j : Nat) t v, Try.f18.params[j]? = some t → args[j]? = some v → Value.okWide Try.prog W .any base t v := hval0
  have hW' := hW
  obtain ⟨p, q, hA0, hV, rfl, hfz, hnd⟩ := hW
  have hA : DataW.TrodAll enc Try.prog W 0 (fun _ => true) true Try.f18.params.toList args.toList ds p := hA0
  rw [Try.params18] at hA hval hsz
  obtain ⟨v0, vs0, d0, ds0, p0, q0, hargs, rfl, rfl, h0, r0⟩ := trodAll_cons hA
  obtain ⟨rfl, rfl, rfl⟩ := trodAll_nil r0
  obtain rfl : args = #[v0] := by cases args; simp_all
  obtain ⟨rfl, rfl⟩ := trodVars_none hV
  have z0 : ∀ n ∈ d0.weights Try.prog 69, n ≤ reachBytes := fun n hn => of_decide_eq_true (List.all_eq_true.1 hsz _ (DataW.weights_mem_each (j := 0) (t := 69) rfl rfl n hn))
  have k0 := h0
  have lt0 : ∀ x ∈ p0, x.block < W.heap.size := by obtain ⟨m, hm⟩ := k0; exact DataW.trod_lt m _ _ _ hm
  obtain ⟨a0, len0, cap0, rfl⟩ := okWide_slice Try.underlying69 (hval 0 69 v0 rfl rfl)
  obtain ⟨l0, hK0, ok0⟩ := arg_trod opensSs h0 z0
  obtain ⟨rfl, hc0, hr0⟩ := arg_slice hK0
  clear hA0 hval0 hsz0 hsz
  obtain ⟨k, hp⟩ := pure_ExchangeFull l0 ok0
  refine (folkmootlaw16_ExchangeFull.calls k _ _ l0 true W hr0 hc0 hp).mono fun e W' ⟨he, bel⟩ => ?_
  subst he
  exact ⟨_, rfl, _, _, _, [], _, [], hW', trodAll_mk1 (shut_bool Try.underlying4 _), (trodAll_cons_mk (Below.trod laidOut (by kernel_rfl) (of_decide_eq_true (by kernel_rfl)) k0 bel lt0) trodAll_mk0), rfl, bel.frame _, fun h => by cases h⟩
theorem closed : joinedFacts Try.prog 18 Try.f18 Rows.exchangeFullSpec Rows.exchangeFullRow = true := by
  unfold joinedFacts
  rw [head_enter, head_lifts, head_make]
  kernel_rfl
theorem over : Rows.exchangeFullRow.holds Try.pinned (OpenSpec.ofChange Rows.exchangeFullSpec) :=
  OpenClaim.holds_of_wide 18 Try.f18 rfl rfl rfl rfl rfl rfl rfl ⟨rfl, rfl, rfl, rfl, rfl⟩ rfl rfl rfl rfl rfl (by kernel_rfl) Try.func18 closed
    (of_decide_eq_true (by kernel_rfl)) (by unfold Func.isWrapper; first | (rw [if_pos (by decide +kernel)]; kernel_rfl) | (rw [if_neg (by decide +kernel)]; exact ⟨rfl, rfl⟩))
    (fun os started H enc _ => lifted os started H enc)
theorem proved : Rows.ExchangeFullSaid := over
end Go.Proofs.Ytioooiflpabngaa.exchangeFull
end
