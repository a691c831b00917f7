/- Parts: PAllx88, ETold, QExchangeFull, ELab, EMore, HLawMore, HJoined, RExchangeMore. -/
import Derived.Test.YtioooiflpabngaaExchangeMoreB
import Derived.Test.YtioooiflpabngaaExchangeMoreC
import Derived.Test.YtioooiflpabngaaExchangeMoreD
import Derived.Test.YtioooiflpabngaaRows
import Derived.ProofKit
import Derived.WalkKit
import Derived.OpenShut
import Derived.ShutString
import Derived.ChangeOld
import Derived.Below
import Derived.SizedLaws
set_option linter.unusedVariables false
set_option linter.unusedSimpArgs false
section
namespace Go.Proofs.Ytioooiflpabngaa.PAll
open Go.RowKit Go.Proofs.YtioooiflpabngaaW.PrintWords Go.Proofs.YtioooiflpabngaaW.PrintLast Go.Proofs.YtioooiflpabngaaW.PrintMore
attribute [local go_sem] max2_int min2_int max_two min_two max_three min_three max_four min_four   -- for this text's walks alone
set_option linter.unusedVariables false
set_option linter.unusedSimpArgs false
def folkmootlaw16_awake.f (k : Nat)  : Option (Bool) := (some (([(⟨0, (⟨([] : List (S32)), ([] : List (S27)), 1, (⟨1, 0⟩ : S25)⟩ : S53)⟩ : S87), (⟨1, (⟨([] : List (S32)), (([(⟨(⟨1, 0⟩ : S25), 1, 0⟩ : S27)] : List (S27))), 2, (⟨2, 0⟩ : S25)⟩ : S53)⟩ : S87)] : List (S87)) : List (S87))).bind fun y759 => ((exchange_Short.f k y759).bind fun t762 => ((folkmootref05_Same.f k t762 (([(⟨(⟨1, 0⟩ : S25), 1, 0⟩ : S27)] : List (S27)))).bind fun t768 => (if t768 = true then ((exchange_Chosen.f k y759).bind fun t769 => (if t769 = 1 then ((exchange_Next.f k y759).bind fun t770 => (some (t770 == 2))) else (some false))) else (some false))))
theorem folkmootlaw16_awake.mono : ∀ k, LeO (folkmootlaw16_awake.f k ) (folkmootlaw16_awake.f (k + 1) ) := by
 intro  k
 unfold folkmootlaw16_awake.f
 repeat' first
   | (with_reducible exact exchange_Chosen.mono _ _)
   | (with_reducible exact exchange_Next.mono _ _)
   | (with_reducible exact exchange_Short.mono _ _)
   | (with_reducible exact folkmootref05_Same.mono _ _ _)
   | (with_reducible exact LeO.refl _)
   | (with_reducible exact LeO.none _)
   | (with_reducible refine LeO.ite ?_ ?_)
   | (with_reducible refine LeO.bind ?_ (fun _ => ?_))
   | exact exchange_Chosen.mono _ _
   | exact exchange_Next.mono _ _
   | exact exchange_Short.mono _ _
   | exact folkmootref05_Same.mono _ _ _
   | exact LeO.none _
   | refine LeO.ite ?_ ?_
   | refine LeO.bind ?_ (fun _ => ?_)
def folkmootlaw16_awake.T3 : Bool × List (List Nat × List Nat) := (true, [([], []), ([0], [0]), ([], []), ([2], [2]), ([1, 3, 1], [1, 3]), ([4, 4], [4]), ([5], [5]), ([6, 5, 5], [5, 6]), ([7, 5], [5, 7]), ([5, 8], [5, 8]), ([9, 7], [9]), ([10], [10]), ([11, 10, 10], [10, 11]), ([12, 10], [10, 12]), ([10, 13], [10, 13]), ([14, 12, 0, 1, 2, 3, 4, 5, 6, 7, 8, 9, 10, 11, 12, 13, 14], [14])])
def folkmootlaw16_awake.B3 : List Nat := [0, 1, 0, 4, 15, 31, 63, 127, 255, 511, 1023, 2047, 4095, 8191, 16383, 32767]
theorem folkmootlaw16_awake.tab3 : rtab .any (opsOf Try.f55 3) = folkmootlaw16_awake.T3 := by kernel_rfl
theorem folkmootlaw16_awake.bits3 : waitsOk folkmootlaw16_awake.T3.2 folkmootlaw16_awake.B3 = true := by kernel_rfl
set_option maxHeartbeats 8000000 in
set_option maxRecDepth 100000 in
theorem folkmootlaw16_awake.calls (k : Nat)  (r : Bool) (w : World) (h : folkmootlaw16_awake.f k  = some r) :
  Calls Try.prog 55 #[] w fun e w' => e = .returned (.bool r) ∧ Below w.heap.size w w' := by
 have hu25 := Try.underlying25
 have hu27 := Try.underlying27
 have hu53 := Try.underlying53
 have hu87 := Try.underlying87
 have HB := Aside0.mk (Below.refl w.heap.size w)
 have H : ((some (([(⟨0, (⟨([] : List (S32)), ([] : List (S27)), 1, (⟨1, 0⟩ : S25)⟩ : S53)⟩ : S87), (⟨1, (⟨([] : List (S32)), (([(⟨(⟨1, 0⟩ : S25), 1, 0⟩ : S27)] : List (S27))), 2, (⟨2, 0⟩ : S25)⟩ : S53)⟩ : S87)] : List (S87)) : List (S87))).bind fun y759 => ((exchange_Short.f k y759).bind fun t762 => ((folkmootref05_Same.f k t762 (([(⟨(⟨1, 0⟩ : S25), 1, 0⟩ : S27)] : List (S27)))).bind fun t768 => (if t768 = true then ((exchange_Chosen.f k y759).bind fun t769 => (if t769 = 1 then ((exchange_Next.f k y759).bind fun t770 => (some (t770 == 2))) else (some false))) else (some false))))) = some r := h
 clear h
 obtain ⟨y756, hy756⟩ : ∃ y_ : List (S27), y_ = (([(⟨(⟨1, 0⟩ : S25), 1, 0⟩ : S27)] : List (S27))) := ⟨_, rfl⟩
 replace H : ((some (([(⟨0, (⟨([] : List (S32)), ([] : List (S27)), 1, (⟨1, 0⟩ : S25)⟩ : S53)⟩ : S87), (⟨1, (⟨([] : List (S32)), y756, 2, (⟨2, 0⟩ : S25)⟩ : S53)⟩ : S87)] : List (S87)) : List (S87))).bind fun y759 => ((exchange_Short.f k y759).bind fun t762 => ((folkmootref05_Same.f k t762 (([(⟨(⟨1, 0⟩ : S25), 1, 0⟩ : S27)] : List (S27)))).bind fun t768 => (if t768 = true then ((exchange_Chosen.f k y759).bind fun t769 => (if t769 = 1 then ((exchange_Next.f k y759).bind fun t770 => (some (t770 == 2))) else (some false))) else (some false))))) = some r := by first | (rw [hy756]; with_reducible exact H) | (have H2_ := (Option.bind_some _ _).symm.trans H; rw [hy756]; with_reducible exact H2_) | (have H2_ := (Option.bind_some _ _).symm.trans H; with_reducible exact H2_) | with_reducible exact H | (rw [hy756]; exact H) | exact H
 have Ny756 := Aside0.mk hy756
 clear hy756
 obtain ⟨y759, hy759⟩ : ∃ y_ : List (S87), y_ = (([(⟨0, (⟨([] : List (S32)), ([] : List (S27)), 1, (⟨1, 0⟩ : S25)⟩ : S53)⟩ : S87), (⟨1, (⟨([] : List (S32)), y756, 2, (⟨2, 0⟩ : S25)⟩ : S53)⟩ : S87)] : List (S87))) := ⟨_, rfl⟩
 replace H : ((exchange_Short.f k y759).bind fun t762 => ((folkmootref05_Same.f k t762 (([(⟨(⟨1, 0⟩ : S25), 1, 0⟩ : S27)] : List (S27)))).bind fun t768 => (if t768 = true then ((exchange_Chosen.f k y759).bind fun t769 => (if t769 = 1 then ((exchange_Next.f k y759).bind fun t770 => (some (t770 == 2))) else (some false))) else (some false)))) = some r := by first | (rw [hy759]; with_reducible exact H) | (have H2_ := (Option.bind_some _ _).symm.trans H; rw [hy759]; with_reducible exact H2_) | (have H2_ := (Option.bind_some _ _).symm.trans H; with_reducible exact H2_) | with_reducible exact H | (rw [hy759]; exact H) | exact H
 have Ny759 := Aside0.mk hy759
 clear hy759
 replace H := Option.bind_eq_some_iff.mp H
 obtain ⟨t762, A10, H⟩ := H
 replace H : ((folkmootref05_Same.f k t762 (([(⟨(⟨1, 0⟩ : S25), 1, 0⟩ : S27)] : List (S27)))).bind fun t768 => (if t768 = true then ((exchange_Chosen.f k y759).bind fun t769 => (if t769 = 1 then ((exchange_Next.f k y759).bind fun t770 => (some (t770 == 2))) else (some false))) else (some false))) = some r := H
 have A1 := Aside0.mk A10
 clear A10
 obtain ⟨y765, hy765⟩ : ∃ y_ : List (S27), y_ = (([(⟨(⟨1, 0⟩ : S25), 1, 0⟩ : S27)] : List (S27))) := ⟨_, rfl⟩
 replace H : ((folkmootref05_Same.f k t762 y765).bind fun t768 => (if t768 = true then ((exchange_Chosen.f k y759).bind fun t769 => (if t769 = 1 then ((exchange_Next.f k y759).bind fun t770 => (some (t770 == 2))) else (some false))) else (some false))) = some r := by first | (rw [hy765]; with_reducible exact H) | (have H2_ := (Option.bind_some _ _).symm.trans H; rw [hy765]; with_reducible exact H2_) | (have H2_ := (Option.bind_some _ _).symm.trans H; with_reducible exact H2_) | with_reducible exact H | (rw [hy765]; exact H) | exact H
 have Ny765 := Aside0.mk hy765
 clear hy765
 replace H := Option.bind_eq_some_iff.mp H
 obtain ⟨t768, A20, H⟩ := H
 replace H : (if t768 = true then ((exchange_Chosen.f k y759).bind fun t769 => (if t769 = 1 then ((exchange_Next.f k y759).bind fun t770 => (some (t770 == 2))) else (some false))) else (some false)) = some r := H
 have A2 := Aside0.mk A20
 clear A20
 by_cases c3 : t768 = true
 ·
  subst c3
  have H1 : ((exchange_Chosen.f k y759).bind fun t769 => (if t769 = 1 then ((exchange_Next.f k y759).bind fun t770 => (some (t770 == 2))) else (some false))) = some r := by rw [if_pos rfl] at H; exact H
  clear H
  have H := H1
  clear H1
  replace H := Option.bind_eq_some_iff.mp H
  obtain ⟨t769, A40, H⟩ := H
  replace H : (if t769 = 1 then ((exchange_Next.f k y759).bind fun t770 => (some (t770 == 2))) else (some false)) = some r := H
  have A4 := Aside0.mk A40
  clear A40
  by_cases c5 : t769 = 1
  ·
   rw [if_pos c5] at H
   have c5b0 : (t769 == 1) = true := beq_iff_eq.mpr c5
   have c5b1 : (t769 != 1) = false := bne_eq_false_iff_eq.mpr c5
   clear c5
   replace H := Option.bind_eq_some_iff.mp H
   obtain ⟨t770, A60, H⟩ := H
   replace H : (some (t770 == 2)) = some r := H
   have A6 := Aside0.mk A60
   clear A60
   obtain rfl := Option.some.inj H
   go_enter Try.func55, Try.ntmps55
   try go_wp2_with (first | ((with_reducible refine gate_dst (N := 1) rfl ?_); refine box_event ?hg (N := 1) ?hd (cs := #[.int .u64 0, .int .i64 0, .int .u64 0, .int .i64 0]) (t := 27) ?hr ?_; (case hd => rfl); (case hg => rfl); (case hr => first | (go_simp; done) | (go_simp; rfl)); intro gb755 hg w7 hbox hb; have n0_ := Aside0.mk (below_step zb_ hb); have n1_ := Aside0.mk (hbox); have n2_ := Aside0.mk ((by rw [hg]; exact (below_size zb_) : w.heap.size ≤ gb755)); have n3_ := Aside0.mk ((by rw [hg]; exact (below_size zb_) : w.heap.size ≤ gb755)); clear HB; have HB := n0_; have BK755 := n1_; have GW755 := n2_; have GE755 := n3_; clear n0_ n1_ n2_ n3_; clear hb hbox hg; have hcz8_0 : w7.cell? ⟨gb755, 0, none⟩ = some (.int .u64 0) := (blk_cell BK755.out 0).trans rfl; have hcz8_1 : w7.cell? ⟨gb755, 1, none⟩ = some (.int .i64 0) := (blk_cell BK755.out 1).trans rfl; have hcz8_2 : w7.cell? ⟨gb755, 2, none⟩ = some (.int .u64 0) := (blk_cell BK755.out 2).trans rfl; have hcz8_3 : w7.cell? ⟨gb755, 3, none⟩ = some (.int .i64 0) := (blk_cell BK755.out 3).trans rfl; have hfz8_0 := blk_frozen BK755.out 0; have hfz8_1 := blk_frozen BK755.out 1; have hfz8_2 := blk_frozen BK755.out 2; have hfz8_3 := blk_frozen BK755.out 3) | ((with_reducible refine gate_dst (N := 10) rfl ?_); refine Kd.R_lit k27 _ 27 ?hg (N := 10) ?hd (xs := ([(⟨(⟨1, 0⟩ : S25), 1, 0⟩ : S27)] : List (S27))) (inner := [.int .u64 1, .int .i64 0, .int .u64 1, .int .i64 0]) (ok := fun _ => True) (okp := fun _ => True) ?hr ?hp (fun _ hk => hk) trivial (Below.refl _ _) (Nat.le_refl _) (by simp) ?_; (case hd => rfl); (case hg => rfl); (case hr => first | (go_simp; done) | (go_simp; rfl)); (case hp => exact (Reps.c4 (show Kd.M k27 _ _ _ (⟨(⟨1, 0⟩ : S25), 1, 0⟩ : S27) [.int .u64 1, .int .i64 0, .int .u64 1, .int .i64 0] from (k27_mkM _ _ _ (⟨(⟨1, 0⟩ : S25), 1, 0⟩ : S27) )) (Reps.none _ _))); intro v757 w9 ho10 hb hg_ hnew_; clear hg_ hnew_; (first | rw [← Ny756.out] at ho10 | (simp only [Int.reduceToNat] at ho10; rw [← Ny756.out] at ho10)); have n0_ := Aside0.mk (Kd.R_lower (Kd.R_newB ho10 (g := gb755) (o := .cells #[.int .u64 1, .int .i64 0, .int .u64 1, .int .i64 0] 27 (0, 0)) (by (with_reducible repeat (first | refine blk_drewN ?_ _ | refine blk_drew ?_ | refine blk_alloc ?_ _)); refine blk_put (cs := #[.int .u64 1, .int .i64 0, .int .u64 1, .int .i64 0]) ?_ 3 _ rfl; (with_reducible repeat (first | refine blk_drewN ?_ _ | refine blk_drew ?_ | refine blk_alloc ?_ _)); refine blk_put (cs := #[.int .u64 1, .int .i64 0, .int .u64 0, .int .i64 0]) ?_ 2 _ rfl; (with_reducible repeat (first | refine blk_drewN ?_ _ | refine blk_drew ?_ | refine blk_alloc ?_ _)); refine blk_put (cs := #[.int .u64 1, .int .i64 0, .int .u64 0, .int .i64 0]) ?_ 1 _ rfl; (with_reducible repeat (first | refine blk_drewN ?_ _ | refine blk_drew ?_ | refine blk_alloc ?_ _)); refine blk_put (cs := #[.int .u64 0, .int .i64 0, .int .u64 0, .int .i64 0]) ?_ 0 _ rfl; (with_reducible repeat (first | refine blk_drewN ?_ _ | refine blk_drew ?_ | refine blk_alloc ?_ _)); exact BK755.out)) (below_size zb_)); have n1_ := Aside0.mk (blk_below (g := gb755) (o := .cells #[.int .u64 1, .int .i64 0, .int .u64 1, .int .i64 0] 27 (0, 0)) (by (with_reducible repeat (first | refine blk_drewN ?_ _ | refine blk_drew ?_ | refine blk_alloc ?_ _)); refine blk_put (cs := #[.int .u64 1, .int .i64 0, .int .u64 1, .int .i64 0]) ?_ 3 _ rfl; (with_reducible repeat (first | refine blk_drewN ?_ _ | refine blk_drew ?_ | refine blk_alloc ?_ _)); refine blk_put (cs := #[.int .u64 1, .int .i64 0, .int .u64 0, .int .i64 0]) ?_ 2 _ rfl; (with_reducible repeat (first | refine blk_drewN ?_ _ | refine blk_drew ?_ | refine blk_alloc ?_ _)); refine blk_put (cs := #[.int .u64 1, .int .i64 0, .int .u64 0, .int .i64 0]) ?_ 1 _ rfl; (with_reducible repeat (first | refine blk_drewN ?_ _ | refine blk_drew ?_ | refine blk_alloc ?_ _)); refine blk_put (cs := #[.int .u64 0, .int .i64 0, .int .u64 0, .int .i64 0]) ?_ 0 _ rfl; (with_reducible repeat (first | refine blk_drewN ?_ _ | refine blk_drew ?_ | refine blk_alloc ?_ _)); exact BK755.out) hb); have n2_ := Aside0.mk (below_step zb_ hb); clear BK755; clear HB; have HO758 := n0_; have BK755 := n1_; have HB := n2_; clear n0_ n1_ n2_; clear hb ho10; obtain ⟨Ao11, co11, eo11⟩ := Kd.R_slice HO758.out; subst eo11) | ((with_reducible refine gate_dst (N := 13) rfl ?_); refine Kd.N_lit k87 _ 87 ?hg (N' := 13) ?hd (xs := ([(⟨0, (⟨([] : List (S32)), ([] : List (S27)), 1, (⟨1, 0⟩ : S25)⟩ : S53)⟩ : S87), (⟨1, (⟨([] : List (S32)), y756, 2, (⟨2, 0⟩ : S25)⟩ : S53)⟩ : S87)] : List (S87))) (inner := [.int .i64 0, .slice none 0 0, .slice none 0 0, .int .i64 1, .int .u64 1, .int .i64 0, .int .i64 1, .slice none 0 0, .slice Ao11 y756.length co11, .int .i64 2, .int .u64 2, .int .i64 0]) (ok := (fun k_ => k_ ≠ gb755)) (okp := (fun k_ => k_ ≠ gb755)) ?hr ?hp (fun _ hk => hk) ((show ∀ k_, w9.heap.size ≤ k_ → (fun k_ => k_ ≠ gb755) k_ from fun k_ hk => Kd.freshB (g := gb755) (o := .cells #[.int .u64 1, .int .i64 0, .int .u64 1, .int .i64 0] 27 (0, 0)) (by (with_reducible repeat (first | refine blk_drewN ?_ _ | refine blk_drew ?_ | refine blk_alloc ?_ _)); exact BK755.out) k_ hk) _ (Nat.le_refl _)) (Below.refl _ _) (Nat.le_refl _) (by simp) ?_; (case hd => rfl); (case hg => rfl); (case hr => first | (go_simp; done) | (go_simp; rfl)); (case hp => exact (Reps.c6 (show Kd.FK k87 _ _ (⟨0, (⟨([] : List (S32)), ([] : List (S27)), 1, (⟨1, 0⟩ : S25)⟩ : S53)⟩ : S87) [.int .i64 0, .slice none 0 0, .slice none 0 0, .int .i64 1, .int .u64 1, .int .i64 0] from (k87_mkF _ _ (⟨0, (⟨([] : List (S32)), ([] : List (S27)), 1, (⟨1, 0⟩ : S25)⟩ : S53)⟩ : S87) (Nat.le_refl _) (Kd.F_nil _ _ _) (Nat.le_refl _) (Kd.F_nil _ _ _))) (Reps.c6 (show Kd.FK k87 _ _ (⟨1, (⟨([] : List (S32)), y756, 2, (⟨2, 0⟩ : S25)⟩ : S53)⟩ : S87) [.int .i64 1, .slice none 0 0, .slice Ao11 y756.length co11, .int .i64 2, .int .u64 2, .int .i64 0] from (k87_mkF _ _ (⟨1, (⟨([] : List (S32)), y756, 2, (⟨2, 0⟩ : S25)⟩ : S53)⟩ : S87) (Nat.le_refl _) (Kd.F_nil _ _ _) (Kd.R_reads' (Kd.R_mono (ok' := (fun k_ => k_ ≠ gb755)) (HO758.out) (fun k_ hk => hk.2))).2.1 (Kd.R_F (Kd.R_mono (ok' := (fun k_ => k_ ≠ gb755)) (HO758.out) (fun k_ hk => hk.2))))) (Reps.none _ _)))); intro v760 w12 ho13 hb hg_ hnew_; clear hg_ hnew_; (first | rw [← Ny759.out] at ho13 | (simp only [Int.reduceToNat] at ho13; rw [← Ny759.out] at ho13)); have n0_ := Aside0.mk (Kd.N_lower ho13 (below_size zb_)); have n1_ := zk_ BK755 hb; have n2_ := Aside0.mk (below_step zb_ hb); clear BK755; clear HB; clear HO758; have HO761 := n0_; have BK755 := n1_; have HB := n2_; clear n0_ n1_ n2_; clear hb ho13; obtain ⟨Ao14, co14, eo14⟩ := Kd.N_slice HO761.out; subst eo14))
   have n0_ := Aside0.mk (Kd.N_drew HO761.out)
   have n1_ := Aside0.mk (blk_drew BK755.out)
   have n2_ := Aside0.mk (below_drew1 HB.out)
   clear HO761
   clear BK755
   clear HB
   have HO761 := n0_
   have BK755 := n1_
   have HB := n2_
   clear n0_ n1_ n2_
   refine start_ (n := 16) (S := fun w' => w'.cell? ⟨gb755, 0, none⟩ = some (.int .u64 1) ∧ w'.cell? ⟨gb755, 1, none⟩ = some (.int .i64 0) ∧ w'.cell? ⟨gb755, 2, none⟩ = some (.int .u64 1) ∧ w'.cell? ⟨gb755, 3, none⟩ = some (.int .i64 0)) (ds := []) #[F_,F_,F_,F_,F_,F_,F_,F_,F_,F_,F_,F_,F_,F_,F_,F_] (by kernel_rfl) rfl rfl ⟨(blk_cell BK755.out 0).trans rfl, (blk_cell BK755.out 1).trans rfl, (blk_cell BK755.out 2).trans rfl, (blk_cell BK755.out 3).trans rfl⟩ (fun hHeld => ?_); refine with_tabW folkmootlaw16_awake.tab3 folkmootlaw16_awake.bits3 (fun HT_ HW_ => ?_)
   generalize w12.drew = w15 at HO761 BK755 HB hHeld ⊢
   refine pure_ (i := 0) (N := some 14) (v := ?_) (a' := ?_) #[T_,F_,F_,F_,F_,F_,F_,F_,F_,F_,F_,F_,F_,F_,F_,F_] rfl rfl (any_of HT_.out (by kernel_rfl)) (fun _ _ _ h => h) (Or.inl ⟨by rfl, ?_⟩) ?_ ?_
   rotate_left
   ·
    intro w'; go_simp; with_reducible rfl
   rotate_left
   ·
    exact zp_
   refine take_ (i := 2) (N := some 16) (v := ?_) (a' := ?_) #[T_,F_,T_,F_,F_,F_,F_,F_,F_,F_,F_,F_,F_,F_,F_,F_] rfl rfl (take_ofW HT_.out HW_.out (by kernel_rfl)) (fun _ _ _ h => h) (Or.inl ⟨by rfl, ?_⟩) hHeld ?_ ?_
   rotate_left
   ·
    rintro w' ⟨s0, s1, s2, s3⟩
    go_simp
    with_reducible rfl
   rotate_left
   ·
    exact zp_
   refine join_ (σ := Value × Value) 12 #[T_,T_,T_,T_,F_,F_,F_,F_,F_,F_,F_,F_,F_,F_,F_,F_] (fun s_ => [(15, s_.1), (17, s_.2)]) (fun s_ w' => (w'.cell? ⟨gb755, 0, none⟩ = some (.int .u64 1) ∧ w'.cell? ⟨gb755, 1, none⟩ = some (.int .i64 0) ∧ w'.cell? ⟨gb755, 2, none⟩ = some (.int .u64 1) ∧ w'.cell? ⟨gb755, 3, none⟩ = some (.int .i64 0)) ∧ (Kd.N k87 87 w' w.heap.size (fun k_ => some k_ ≠ (s_.1 : Value).ownBlock ∧ some k_ ≠ (s_.2 : Value).ownBlock ∧ k_ ≠ gb755) (.slice Ao14 y759.length co14) y759) ∧ (Kd.R k27 27 w' w.heap.size (fun k_ => some k_ ≠ (s_.2 : Value).ownBlock ∧ k_ ≠ gb755) s_.1 t762) ∧ (Kd.R k27 27 w' w.heap.size (fun k_ => some k_ ≠ (s_.1 : Value).ownBlock ∧ k_ ≠ gb755) s_.2 y765) ∧ (w'.heap[gb755]? = some (.cells #[.int .u64 1, .int .i64 0, .int .u64 1, .int .i64 0] 27 (0, 0))) ∧ (Below w.heap.size w w')) ?_ ?_
   rotate_left
   ·
    intro hCont
    refine two_ (i := 1) (j := 3) (Ni := some 15) (Nj := some 17) #[T_,T_,T_,F_,F_,F_,F_,F_,F_,F_,F_,F_,F_,F_,F_,F_] #[T_,F_,T_,T_,F_,F_,F_,F_,F_,F_,F_,F_,F_,F_,F_,F_] rfl rfl rfl rfl (two_of HT_.out (by kernel_rfl)) (by decide) (by decide) (fun K hK => ?_) (fun K hK => ?_)
    ·
     skip
     refine goes_ Try.func62 (by kernel_rfl) rfl #[.slice Ao14 y759.length co14] (by rfl) rfl rfl za_ ?_
     with_reducible refine (exchange_Short.calls k _ _ y759 t762 _ ?side1 ?side2 A1.out).mono ?_
     (case side1 => exact zd_ (Kd.N_reads' HO761.out).2.2)
     (case side2 => exact (Kd.N_reads' HO761.out).2.1)
     rintro e w16 ⟨v763, rfl, ho0, hb⟩
     refine ⟨_, rfl, ?_⟩
     have n0_ := Aside0.mk (Kd.N_elder' (zn_ HO761) (Kd.R_base ho0) hb)
     have n1_ := Aside0.mk (Kd.R_lower (Kd.R_newB ho0 (g := gb755) (o := .cells #[.int .u64 1, .int .i64 0, .int .u64 1, .int .i64 0] 27 (0, 0)) (by (with_reducible repeat (first | refine blk_drewN ?_ _ | refine blk_drew ?_ | refine blk_alloc ?_ _)); exact BK755.out)) (below_size zb_))
     have n2_ := zk_ BK755 hb
     have n3_ := Aside0.mk (below_step zb_ hb)
     clear HO761
     clear BK755
     clear HB
     have HO761 := n0_
     have HO764 := n1_
     have BK755 := n2_
     have HB := n3_
     clear n0_ n1_ n2_ n3_
     (try clear hb)
     (try clear hb2)
     (try clear hk)
     (try clear hi)
     (try clear ho0)
     refine hK.out _ _ ⟨(blk_cell BK755.out 0).trans rfl, (blk_cell BK755.out 1).trans rfl, (blk_cell BK755.out 2).trans rfl, (blk_cell BK755.out 3).trans rfl⟩ (fun hHeld => ?_)
     clear hK K
     refine norm_ (a' := ?_) ?_ ?_
     rotate_left
     ·
      show Act.put _ (some 15) _ = _
      simp only [Act.put, List.setIfInBounds_toArray, List.set_cons_zero, List.set_cons_succ, i64_w, i32_w]
      rfl
     refine one_ (i := 3) (N := some 17) #[T_,T_,T_,T_,F_,F_,F_,F_,F_,F_,F_,F_,F_,F_,F_,F_] rfl rfl (one_of HT_.out (by kernel_rfl)) (by decide) (fun K hK => ?_)
     refine Kd.R_lit_step k27 _ 27 ?hg (N := 17) ?hd (xs := ([(⟨(⟨1, 0⟩ : S25), 1, 0⟩ : S27)] : List (S27))) (inner := [.int .u64 1, .int .i64 0, .int .u64 1, .int .i64 0]) (ok := fun _ => True) (okp := fun _ => True) ?hr ?hp (fun _ hk => hk) trivial (Below.refl _ _) (Nat.le_refl _) (by simp) ?_; (case hd => rfl); (case hg => rfl); (case hr => first | (go_simp; done) | (go_simp; rfl)); (case hp => exact (Reps.c4 (show Kd.M k27 _ _ _ (⟨(⟨1, 0⟩ : S25), 1, 0⟩ : S27) [.int .u64 1, .int .i64 0, .int .u64 1, .int .i64 0] from (k27_mkM _ _ _ (⟨(⟨1, 0⟩ : S25), 1, 0⟩ : S27) )) (Reps.none _ _)))
     intro v766 w17 ho18 hb hg_ hnew_
     clear hg_ hnew_
     (first | rw [← Ny765.out] at ho18 | (simp only [Int.reduceToNat] at ho18; rw [← Ny765.out] at ho18))
     have n0_ := Aside0.mk (Kd.N_elder' (zn_ HO761) (Kd.R_base ho18) hb)
     have n1_ := Aside0.mk (Kd.R_elder' (zr_ HO764) (Kd.R_base ho18) hb)
     have n2_ := Aside0.mk (Kd.R_lower (Kd.R_newB (Kd.R_new' ho18 (Kd.R_lt (zr_ HO764))) (g := gb755) (o := .cells #[.int .u64 1, .int .i64 0, .int .u64 1, .int .i64 0] 27 (0, 0)) (by (with_reducible repeat (first | refine blk_drewN ?_ _ | refine blk_drew ?_ | refine blk_alloc ?_ _)); exact BK755.out)) (below_size zb_))
     have n3_ := zk_ BK755 hb
     have n4_ := Aside0.mk (below_step zb_ hb)
     clear HO761
     clear HO764
     clear BK755
     clear HB
     have HO761 := n0_
     have HO764 := n1_
     have HO767 := n2_
     have BK755 := n3_
     have HB := n4_
     clear n0_ n1_ n2_ n3_ n4_
     clear hb ho18
     refine hK.out _ _ ⟨(blk_cell BK755.out 0).trans rfl, (blk_cell BK755.out 1).trans rfl, (blk_cell BK755.out 2).trans rfl, (blk_cell BK755.out 3).trans rfl⟩ (fun hHeld => ?_)
     clear hK K
     refine norm_ (a' := ?_) ?_ ?_
     rotate_left
     ·
      show Act.put _ (some 17) _ = _
      simp only [Act.put, List.setIfInBounds_toArray, List.set_cons_zero, List.set_cons_succ, i64_w, i32_w]
      rfl
     exact norm_ (by simp only [putAll, Act.put, List.setIfInBounds_toArray, List.set_cons_zero, List.set_cons_succ]) (hCont (v763, v766) _ ⟨hHeld, (by (with_reducible repeat (first | apply Kd.N_alloc | apply Kd.N_drewN | apply Kd.N_drew)); exact Kd.N_mono HO761.out (fun _ hk => ⟨hk.1.2, ⟨hk.2, hk.1.1⟩⟩)), (by (with_reducible repeat (first | apply Kd.R_alloc | apply Kd.R_drewN | apply Kd.R_drew)); exact Kd.R_mono HO764.out (fun _ hk => ⟨hk.2, hk.1.2⟩)), (by (with_reducible repeat (first | apply Kd.R_alloc | apply Kd.R_drewN | apply Kd.R_drew)); exact Kd.R_mono HO767.out (fun _ hk => ⟨hk.1.2, hk.2⟩)), (by (with_reducible repeat (first | refine blk_drewN ?_ _ | refine blk_drew ?_ | refine blk_alloc ?_ _)); exact BK755.out), zb_⟩)
    ·
     skip
     refine Kd.R_lit_step k27 _ 27 ?hg (N := 17) ?hd (xs := ([(⟨(⟨1, 0⟩ : S25), 1, 0⟩ : S27)] : List (S27))) (inner := [.int .u64 1, .int .i64 0, .int .u64 1, .int .i64 0]) (ok := fun _ => True) (okp := fun _ => True) ?hr ?hp (fun _ hk => hk) trivial (Below.refl _ _) (Nat.le_refl _) (by simp) ?_; (case hd => rfl); (case hg => rfl); (case hr => first | (go_simp; done) | (go_simp; rfl)); (case hp => exact (Reps.c4 (show Kd.M k27 _ _ _ (⟨(⟨1, 0⟩ : S25), 1, 0⟩ : S27) [.int .u64 1, .int .i64 0, .int .u64 1, .int .i64 0] from (k27_mkM _ _ _ (⟨(⟨1, 0⟩ : S25), 1, 0⟩ : S27) )) (Reps.none _ _)))
     intro v766 w16 ho17 hb hg_ hnew_
     clear hg_ hnew_
     (first | rw [← Ny765.out] at ho17 | (simp only [Int.reduceToNat] at ho17; rw [← Ny765.out] at ho17))
     have n0_ := Aside0.mk (Kd.N_elder' (zn_ HO761) (Kd.R_base ho17) hb)
     have n1_ := Aside0.mk (Kd.R_lower (Kd.R_newB ho17 (g := gb755) (o := .cells #[.int .u64 1, .int .i64 0, .int .u64 1, .int .i64 0] 27 (0, 0)) (by (with_reducible repeat (first | refine blk_drewN ?_ _ | refine blk_drew ?_ | refine blk_alloc ?_ _)); exact BK755.out)) (below_size zb_))
     have n2_ := zk_ BK755 hb
     have n3_ := Aside0.mk (below_step zb_ hb)
     clear HO761
     clear BK755
     clear HB
     have HO761 := n0_
     have HO767 := n1_
     have BK755 := n2_
     have HB := n3_
     clear n0_ n1_ n2_ n3_
     clear hb ho17
     refine hK.out _ _ ⟨(blk_cell BK755.out 0).trans rfl, (blk_cell BK755.out 1).trans rfl, (blk_cell BK755.out 2).trans rfl, (blk_cell BK755.out 3).trans rfl⟩ (fun hHeld => ?_)
     clear hK K
     refine norm_ (a' := ?_) ?_ ?_
     rotate_left
     ·
      show Act.put _ (some 17) _ = _
      simp only [Act.put, List.setIfInBounds_toArray, List.set_cons_zero, List.set_cons_succ, i64_w, i32_w]
      rfl
     refine one_ (i := 1) (N := some 15) #[T_,T_,T_,T_,F_,F_,F_,F_,F_,F_,F_,F_,F_,F_,F_,F_] rfl rfl (one_of HT_.out (by kernel_rfl)) (by decide) (fun K hK => ?_)
     refine goes_ Try.func62 (by kernel_rfl) rfl #[.slice Ao14 y759.length co14] (by rfl) rfl rfl za_ ?_
     with_reducible refine (exchange_Short.calls k _ _ y759 t762 _ ?side1 ?side2 A1.out).mono ?_
     (case side1 => exact zd_ (Kd.N_reads' HO761.out).2.2)
     (case side2 => exact (Kd.N_reads' HO761.out).2.1)
     rintro e w18 ⟨v763, rfl, ho0, hb⟩
     refine ⟨_, rfl, ?_⟩
     have n0_ := Aside0.mk (Kd.N_elder' (zn_ HO761) (Kd.R_base ho0) hb)
     have n1_ := Aside0.mk (Kd.R_elder' (zr_ HO767) (Kd.R_base ho0) hb)
     have n2_ := Aside0.mk (Kd.R_lower (Kd.R_newB (Kd.R_new' ho0 (Kd.R_lt (zr_ HO767))) (g := gb755) (o := .cells #[.int .u64 1, .int .i64 0, .int .u64 1, .int .i64 0] 27 (0, 0)) (by (with_reducible repeat (first | refine blk_drewN ?_ _ | refine blk_drew ?_ | refine blk_alloc ?_ _)); exact BK755.out)) (below_size zb_))
     have n3_ := zk_ BK755 hb
     have n4_ := Aside0.mk (below_step zb_ hb)
     clear HO761
     clear HO767
     clear BK755
     clear HB
     have HO761 := n0_
     have HO767 := n1_
     have HO764 := n2_
     have BK755 := n3_
     have HB := n4_
     clear n0_ n1_ n2_ n3_ n4_
     (try clear hb)
     (try clear hb2)
     (try clear hk)
     (try clear hi)
     (try clear ho0)
     refine hK.out _ _ ⟨(blk_cell BK755.out 0).trans rfl, (blk_cell BK755.out 1).trans rfl, (blk_cell BK755.out 2).trans rfl, (blk_cell BK755.out 3).trans rfl⟩ (fun hHeld => ?_)
     clear hK K
     refine norm_ (a' := ?_) ?_ ?_
     rotate_left
     ·
      show Act.put _ (some 15) _ = _
      simp only [Act.put, List.setIfInBounds_toArray, List.set_cons_zero, List.set_cons_succ, i64_w, i32_w]
      rfl
     exact norm_ (by simp only [putAll, Act.put, List.setIfInBounds_toArray, List.set_cons_zero, List.set_cons_succ]) (hCont (v763, v766) _ ⟨hHeld, (by (with_reducible repeat (first | apply Kd.N_alloc | apply Kd.N_drewN | apply Kd.N_drew)); exact Kd.N_mono HO761.out (fun _ hk => ⟨hk.2, ⟨hk.1.2, hk.1.1⟩⟩)), (by (with_reducible repeat (first | apply Kd.R_alloc | apply Kd.R_drewN | apply Kd.R_drew)); exact Kd.R_mono HO764.out (fun _ hk => ⟨hk.1.2, hk.2⟩)), (by (with_reducible repeat (first | apply Kd.R_alloc | apply Kd.R_drewN | apply Kd.R_drew)); exact Kd.R_mono HO767.out (fun _ hk => ⟨hk.2, hk.1.2⟩)), (by (with_reducible repeat (first | refine blk_drewN ?_ _ | refine blk_drew ?_ | refine blk_alloc ?_ _)); exact BK755.out), zb_⟩)
   rintro ⟨v763, v766⟩ w19 ⟨hS_, h0_, h1_, h2_, h3_, h4_⟩
   have n0_ : Aside0 (Kd.N k87 87 w19 w.heap.size (fun k_ => some k_ ≠ (v763 : Value).ownBlock ∧ some k_ ≠ (v766 : Value).ownBlock ∧ k_ ≠ gb755) (.slice Ao14 y759.length co14) y759) := ⟨h0_⟩
   have n1_ : Aside0 (Kd.R k27 27 w19 w.heap.size (fun k_ => some k_ ≠ (v766 : Value).ownBlock ∧ k_ ≠ gb755) v763 t762) := ⟨h1_⟩
   have n2_ : Aside0 (Kd.R k27 27 w19 w.heap.size (fun k_ => some k_ ≠ (v763 : Value).ownBlock ∧ k_ ≠ gb755) v766 y765) := ⟨h2_⟩
   have n3_ : Aside0 (w19.heap[gb755]? = some (.cells #[.int .u64 1, .int .i64 0, .int .u64 1, .int .i64 0] 27 (0, 0))) := ⟨h3_⟩
   have n4_ : Aside0 (Below w.heap.size w w19) := ⟨h4_⟩
   clear HO761
   clear BK755
   clear HB
   clear h0_ h1_ h2_ h3_ h4_
   have HO761 := n0_
   have HO764 := n1_
   have HO767 := n2_
   have BK755 := n3_
   have HB := n4_
   clear n0_ n1_ n2_ n3_ n4_
   have hHeld : w19.cell? ⟨gb755, 0, none⟩ = some (.int .u64 1) ∧ w19.cell? ⟨gb755, 1, none⟩ = some (.int .i64 0) ∧ w19.cell? ⟨gb755, 2, none⟩ = some (.int .u64 1) ∧ w19.cell? ⟨gb755, 3, none⟩ = some (.int .i64 0) := hS_
   obtain ⟨Ao20, co20, eo20⟩ := Kd.R_slice HO764.out
   (first | subst eo20 | (injection eo20 with f1_ f2_ f3_; have f4_ := f1_.symm; have f5_ := f3_.symm; clear f1_ f2_ f3_; subst f4_; subst f5_))
   obtain ⟨Ao21, co21, eo21⟩ := Kd.R_slice HO767.out
   (first | subst eo21 | (injection eo21 with f1_ f2_ f3_; have f4_ := f1_.symm; have f5_ := f3_.symm; clear f1_ f2_ f3_; subst f4_; subst f5_))
   refine norm_ (a' := ?_) ?_ ?_
   rotate_left
   ·
    simp only [putAll, Act.put, List.setIfInBounds_toArray, List.set_cons_zero, List.set_cons_succ]
    rfl
   refine one_ (i := 4) (N := some 18) #[T_,T_,T_,T_,T_,F_,F_,F_,F_,F_,F_,F_,F_,F_,F_,F_] rfl rfl (one_of HT_.out (by kernel_rfl)) (by decide) (fun K hK => ?_)
   refine goes_ Try.func30 (by kernel_rfl) rfl #[.slice Ao20 t762.length co20, .slice Ao21 y765.length co21] (by rfl) rfl rfl za_ ?_
   with_reducible refine (folkmootref05_Same.calls k _ _ t762 _ _ y765 true _ ?side1 ?side2 ?side3 ?side4 A2.out).mono ?_
   (case side1 => exact zd_ (Kd.R_reads' HO764.out).2.2)
   (case side2 => exact (Kd.R_reads' HO764.out).2.1)
   (case side3 => exact zd_ (Kd.R_reads' HO767.out).2.2)
   (case side4 => exact (Kd.R_reads' HO767.out).2.1)
   rintro e w' ⟨rfl, ⟨nd, rfl⟩⟩
   refine ⟨_, rfl, ?_⟩
   refine hK.out _ _ ⟨(blk_cell BK755.out 0).trans rfl, (blk_cell BK755.out 1).trans rfl, (blk_cell BK755.out 2).trans rfl, (blk_cell BK755.out 3).trans rfl⟩ (fun hHeld => ?_)
   clear hK K
   refine norm_ (a' := ?_) ?_ ?_
   rotate_left
   ·
    show Act.put _ (some 18) _ = _
    simp only [Act.put, List.setIfInBounds_toArray, List.set_cons_zero, List.set_cons_succ, i64_w, i32_w]
    rfl
   refine pure_ (i := 5) (N := some 19) (v := ?_) (a' := ?_) #[T_,T_,T_,T_,T_,T_,F_,F_,F_,F_,F_,F_,F_,F_,F_,F_] rfl rfl (any_of HT_.out (by kernel_rfl)) (fun _ _ _ h => h) (Or.inl ⟨by rfl, ?_⟩) ?_ ?_
   rotate_left
   ·
    intro w'; go_simp; with_reducible rfl
   rotate_left
   ·
    exact zp_
   refine pure_ (i := 6) (N := some 20) (v := ?_) (a' := ?_) #[T_,T_,T_,T_,T_,T_,T_,F_,F_,F_,F_,F_,F_,F_,F_,F_] rfl rfl (any_of HT_.out (by kernel_rfl)) (fun _ _ _ h => h) (Or.inl ⟨by rfl, ?_⟩) ?_ ?_
   rotate_left
   ·
    intro w'; go_simp; with_reducible rfl
   rotate_left
   ·
    exact zp_
   refine one_ (i := 7) (N := some 21) #[T_,T_,T_,T_,T_,T_,T_,T_,F_,F_,F_,F_,F_,F_,F_,F_] rfl rfl (one_of HT_.out (by kernel_rfl)) (by decide) (fun K hK => ?_)
   refine goes_ Try.func61 (by kernel_rfl) rfl #[.slice Ao14 y759.length co14] (by rfl) rfl rfl za_ ?_
   with_reducible refine (exchange_Chosen.calls k _ _ y759 t769 _ ?side1 ?side2 A4.out).mono ?_
   (case side1 => exact zd_ (Kd.N_reads' HO761.out).2.2)
   (case side2 => exact (Kd.N_reads' HO761.out).2.1)
   rintro e w22 ⟨rfl, hb⟩
   refine ⟨_, rfl, ?_⟩
   have n0_ := Aside0.mk (Kd.N_below (zn_ HO761) hb)
   have n1_ := Aside0.mk (Kd.R_below (zr_ HO764) hb)
   have n2_ := Aside0.mk (Kd.R_below (zr_ HO767) hb)
   have n3_ := zk_ BK755 hb
   have n4_ := Aside0.mk (below_step zb_ hb)
   clear HO761
   clear HO764
   clear HO767
   clear BK755
   clear HB
   have HO761 := n0_
   have HO764 := n1_
   have HO767 := n2_
   have BK755 := n3_
   have HB := n4_
   clear n0_ n1_ n2_ n3_ n4_
   (try clear hb)
   (try clear hb2)
   (try clear hk)
   (try clear hi)
   refine hK.out _ _ ⟨(blk_cell BK755.out 0).trans rfl, (blk_cell BK755.out 1).trans rfl, (blk_cell BK755.out 2).trans rfl, (blk_cell BK755.out 3).trans rfl⟩ (fun hHeld => ?_)
   clear hK K
   refine norm_ (a' := ?_) ?_ ?_
   rotate_left
   ·
    show Act.put _ (some 21) _ = _
    simp only [Act.put, List.setIfInBounds_toArray, List.set_cons_zero, List.set_cons_succ, i64_w, i32_w]
    rfl
   refine pure_ (i := 8) (N := some 22) (v := ?_) (a' := ?_) #[T_,T_,T_,T_,T_,T_,T_,T_,T_,F_,F_,F_,F_,F_,F_,F_] rfl rfl (any_of HT_.out (by kernel_rfl)) (fun _ _ _ h => h) (Or.inl ⟨by rfl, ?_⟩) ?_ ?_
   rotate_left
   ·
    intro w'; go_simp; with_reducible rfl
   rotate_left
   ·
    exact zp_
   refine pure_ (i := 9) (N := some 23) (v := ?_) (a' := ?_) #[T_,T_,T_,T_,T_,T_,T_,T_,T_,T_,F_,F_,F_,F_,F_,F_] rfl rfl (any_of HT_.out (by kernel_rfl)) (fun _ _ _ h => h) (Or.inl ⟨by rfl, ?_⟩) ?_ ?_
   rotate_left
   ·
    intro w'; go_simp; with_reducible rfl
   rotate_left
   ·
    exact zp_
   refine pure_ (i := 10) (N := some 24) (v := ?_) (a' := ?_) #[T_,T_,T_,T_,T_,T_,T_,T_,T_,T_,T_,F_,F_,F_,F_,F_] rfl rfl (any_of HT_.out (by kernel_rfl)) (fun _ _ _ h => h) (Or.inl ⟨by rfl, ?_⟩) ?_ ?_
   rotate_left
   ·
    intro w'; go_simp; with_reducible rfl
   rotate_left
   ·
    exact zp_
   refine pure_ (i := 11) (N := some 25) (v := ?_) (a' := ?_) #[T_,T_,T_,T_,T_,T_,T_,T_,T_,T_,T_,T_,F_,F_,F_,F_] rfl rfl (any_of HT_.out (by kernel_rfl)) (fun _ _ _ h => h) (Or.inl ⟨by rfl, ?_⟩) ?_ ?_
   rotate_left
   ·
    intro w'; go_simp; with_reducible rfl
   rotate_left
   ·
    exact zp_
   refine one_ (i := 12) (N := some 26) #[T_,T_,T_,T_,T_,T_,T_,T_,T_,T_,T_,T_,T_,F_,F_,F_] rfl rfl (one_of HT_.out (by kernel_rfl)) (by decide) (fun K hK => ?_)
   refine goes_ Try.func68 (by kernel_rfl) rfl #[.slice Ao14 y759.length co14] (by rfl) rfl rfl za_ ?_
   with_reducible refine (exchange_Next.calls k _ _ y759 t770 _ ?side1 ?side2 A6.out).mono ?_
   (case side1 => exact zd_ (Kd.N_reads' HO761.out).2.2)
   (case side2 => exact (Kd.N_reads' HO761.out).2.1)
   rintro e w23 ⟨rfl, hb⟩
   refine ⟨_, rfl, ?_⟩
   have n0_ := Aside0.mk (Kd.N_below (zn_ HO761) hb)
   have n1_ := Aside0.mk (Kd.R_below (zr_ HO764) hb)
   have n2_ := Aside0.mk (Kd.R_below (zr_ HO767) hb)
   have n3_ := zk_ BK755 hb
   have n4_ := Aside0.mk (below_step zb_ hb)
   clear HO761
   clear HO764
   clear HO767
   clear BK755
   clear HB
   have HO761 := n0_
   have HO764 := n1_
   have HO767 := n2_
   have BK755 := n3_
   have HB := n4_
   clear n0_ n1_ n2_ n3_ n4_
   (try clear hb)
   (try clear hb2)
   (try clear hk)
   (try clear hi)
   refine hK.out _ _ ⟨(blk_cell BK755.out 0).trans rfl, (blk_cell BK755.out 1).trans rfl, (blk_cell BK755.out 2).trans rfl, (blk_cell BK755.out 3).trans rfl⟩ (fun hHeld => ?_)
   clear hK K
   refine norm_ (a' := ?_) ?_ ?_
   rotate_left
   ·
    show Act.put _ (some 26) _ = _
    simp only [Act.put, List.setIfInBounds_toArray, List.set_cons_zero, List.set_cons_succ, i64_w, i32_w]
    rfl
   refine pure_ (i := 13) (N := some 27) (v := ?_) (a' := ?_) #[T_,T_,T_,T_,T_,T_,T_,T_,T_,T_,T_,T_,T_,T_,F_,F_] rfl rfl (any_of HT_.out (by kernel_rfl)) (fun _ _ _ h => h) (Or.inl ⟨by rfl, ?_⟩) ?_ ?_
   rotate_left
   ·
    intro w'; go_simp; with_reducible rfl
   rotate_left
   ·
    exact zp_
   refine pure_ (i := 14) (N := some 28) (v := ?_) (a' := ?_) #[T_,T_,T_,T_,T_,T_,T_,T_,T_,T_,T_,T_,T_,T_,T_,F_] rfl rfl (any_of HT_.out (by kernel_rfl)) (fun _ _ _ h => h) (Or.inl ⟨by rfl, ?_⟩) ?_ ?_
   rotate_left
   ·
    intro w'; go_simp; with_reducible rfl
   rotate_left
   ·
    exact zp_
   refine pure_ (i := 15) (N := some 0) (v := ?_) (a' := ?_) #[T_,T_,T_,T_,T_,T_,T_,T_,T_,T_,T_,T_,T_,T_,T_,T_] rfl rfl (any_of HT_.out (by kernel_rfl)) (fun _ _ _ h => h) (Or.inl ⟨by rfl, ?_⟩) ?_ ?_
   rotate_left
   ·
    intro w'; go_simp; with_reducible rfl
   rotate_left
   ·
    exact zp_
   refine done_ (done_of HT_.out (by kernel_rfl)) ?_
   (try clear hHeld); (try clear HS0_)
   try go_wp2
   go_ret
   exact ⟨by first | rfl | (simp [errW_none, errW_some] <;> rfl) | (simp [*, errW_none, errW_some] <;> rfl), by repeat (first | (with_reducible first | exact HB.out | apply below_alloc | apply pw_below_drewN | apply below_drew1 | refine below_set ?_ GE755.out) | exact HB.out)⟩
  ·
   rw [if_neg c5] at H
   have c5b0 : (t769 == 1) = false := beq_eq_false_iff_ne.mpr c5
   have c5b1 : (t769 != 1) = true := bne_iff_ne.mpr c5
   obtain rfl := Option.some.inj H
   go_enter Try.func55, Try.ntmps55
   try go_wp2_with (first | ((with_reducible refine gate_dst (N := 1) rfl ?_); refine box_event ?hg (N := 1) ?hd (cs := #[.int .u64 0, .int .i64 0, .int .u64 0, .int .i64 0]) (t := 27) ?hr ?_; (case hd => rfl); (case hg => rfl); (case hr => first | (go_simp; done) | (go_simp; rfl)); intro gb755 hg w24 hbox hb; have n0_ := Aside0.mk (below_step zb_ hb); have n1_ := Aside0.mk (hbox); have n2_ := Aside0.mk ((by rw [hg]; exact (below_size zb_) : w.heap.size ≤ gb755)); have n3_ := Aside0.mk ((by rw [hg]; exact (below_size zb_) : w.heap.size ≤ gb755)); clear HB; have HB := n0_; have BK755 := n1_; have GW755 := n2_; have GE755 := n3_; clear n0_ n1_ n2_ n3_; clear hb hbox hg; have hcz25_0 : w24.cell? ⟨gb755, 0, none⟩ = some (.int .u64 0) := (blk_cell BK755.out 0).trans rfl; have hcz25_1 : w24.cell? ⟨gb755, 1, none⟩ = some (.int .i64 0) := (blk_cell BK755.out 1).trans rfl; have hcz25_2 : w24.cell? ⟨gb755, 2, none⟩ = some (.int .u64 0) := (blk_cell BK755.out 2).trans rfl; have hcz25_3 : w24.cell? ⟨gb755, 3, none⟩ = some (.int .i64 0) := (blk_cell BK755.out 3).trans rfl; have hfz25_0 := blk_frozen BK755.out 0; have hfz25_1 := blk_frozen BK755.out 1; have hfz25_2 := blk_frozen BK755.out 2; have hfz25_3 := blk_frozen BK755.out 3) | ((with_reducible refine gate_dst (N := 10) rfl ?_); refine Kd.R_lit k27 _ 27 ?hg (N := 10) ?hd (xs := ([(⟨(⟨1, 0⟩ : S25), 1, 0⟩ : S27)] : List (S27))) (inner := [.int .u64 1, .int .i64 0, .int .u64 1, .int .i64 0]) (ok := fun _ => True) (okp := fun _ => True) ?hr ?hp (fun _ hk => hk) trivial (Below.refl _ _) (Nat.le_refl _) (by simp) ?_; (case hd => rfl); (case hg => rfl); (case hr => first | (go_simp; done) | (go_simp; rfl)); (case hp => exact (Reps.c4 (show Kd.M k27 _ _ _ (⟨(⟨1, 0⟩ : S25), 1, 0⟩ : S27) [.int .u64 1, .int .i64 0, .int .u64 1, .int .i64 0] from (k27_mkM _ _ _ (⟨(⟨1, 0⟩ : S25), 1, 0⟩ : S27) )) (Reps.none _ _))); intro v757 w26 ho27 hb hg_ hnew_; clear hg_ hnew_; (first | rw [← Ny756.out] at ho27 | (simp only [Int.reduceToNat] at ho27; rw [← Ny756.out] at ho27)); have n0_ := Aside0.mk (Kd.R_lower (Kd.R_newB ho27 (g := gb755) (o := .cells #[.int .u64 1, .int .i64 0, .int .u64 1, .int .i64 0] 27 (0, 0)) (by (with_reducible repeat (first | refine blk_drewN ?_ _ | refine blk_drew ?_ | refine blk_alloc ?_ _)); refine blk_put (cs := #[.int .u64 1, .int .i64 0, .int .u64 1, .int .i64 0]) ?_ 3 _ rfl; (with_reducible repeat (first | refine blk_drewN ?_ _ | refine blk_drew ?_ | refine blk_alloc ?_ _)); refine blk_put (cs := #[.int .u64 1, .int .i64 0, .int .u64 0, .int .i64 0]) ?_ 2 _ rfl; (with_reducible repeat (first | refine blk_drewN ?_ _ | refine blk_drew ?_ | refine blk_alloc ?_ _)); refine blk_put (cs := #[.int .u64 1, .int .i64 0, .int .u64 0, .int .i64 0]) ?_ 1 _ rfl; (with_reducible repeat (first | refine blk_drewN ?_ _ | refine blk_drew ?_ | refine blk_alloc ?_ _)); refine blk_put (cs := #[.int .u64 0, .int .i64 0, .int .u64 0, .int .i64 0]) ?_ 0 _ rfl; (with_reducible repeat (first | refine blk_drewN ?_ _ | refine blk_drew ?_ | refine blk_alloc ?_ _)); exact BK755.out)) (below_size zb_)); have n1_ := Aside0.mk (blk_below (g := gb755) (o := .cells #[.int .u64 1, .int .i64 0, .int .u64 1, .int .i64 0] 27 (0, 0)) (by (with_reducible repeat (first | refine blk_drewN ?_ _ | refine blk_drew ?_ | refine blk_alloc ?_ _)); refine blk_put (cs := #[.int .u64 1, .int .i64 0, .int .u64 1, .int .i64 0]) ?_ 3 _ rfl; (with_reducible repeat (first | refine blk_drewN ?_ _ | refine blk_drew ?_ | refine blk_alloc ?_ _)); refine blk_put (cs := #[.int .u64 1, .int .i64 0, .int .u64 0, .int .i64 0]) ?_ 2 _ rfl; (with_reducible repeat (first | refine blk_drewN ?_ _ | refine blk_drew ?_ | refine blk_alloc ?_ _)); refine blk_put (cs := #[.int .u64 1, .int .i64 0, .int .u64 0, .int .i64 0]) ?_ 1 _ rfl; (with_reducible repeat (first | refine blk_drewN ?_ _ | refine blk_drew ?_ | refine blk_alloc ?_ _)); refine blk_put (cs := #[.int .u64 0, .int .i64 0, .int .u64 0, .int .i64 0]) ?_ 0 _ rfl; (with_reducible repeat (first | refine blk_drewN ?_ _ | refine blk_drew ?_ | refine blk_alloc ?_ _)); exact BK755.out) hb); have n2_ := Aside0.mk (below_step zb_ hb); clear BK755; clear HB; have HO758 := n0_; have BK755 := n1_; have HB := n2_; clear n0_ n1_ n2_; clear hb ho27; obtain ⟨Ao28, co28, eo28⟩ := Kd.R_slice HO758.out; subst eo28) | ((with_reducible refine gate_dst (N := 13) rfl ?_); refine Kd.N_lit k87 _ 87 ?hg (N' := 13) ?hd (xs := ([(⟨0, (⟨([] : List (S32)), ([] : List (S27)), 1, (⟨1, 0⟩ : S25)⟩ : S53)⟩ : S87), (⟨1, (⟨([] : List (S32)), y756, 2, (⟨2, 0⟩ : S25)⟩ : S53)⟩ : S87)] : List (S87))) (inner := [.int .i64 0, .slice none 0 0, .slice none 0 0, .int .i64 1, .int .u64 1, .int .i64 0, .int .i64 1, .slice none 0 0, .slice Ao28 y756.length co28, .int .i64 2, .int .u64 2, .int .i64 0]) (ok := (fun k_ => k_ ≠ gb755)) (okp := (fun k_ => k_ ≠ gb755)) ?hr ?hp (fun _ hk => hk) ((show ∀ k_, w26.heap.size ≤ k_ → (fun k_ => k_ ≠ gb755) k_ from fun k_ hk => Kd.freshB (g := gb755) (o := .cells #[.int .u64 1, .int .i64 0, .int .u64 1, .int .i64 0] 27 (0, 0)) (by (with_reducible repeat (first | refine blk_drewN ?_ _ | refine blk_drew ?_ | refine blk_alloc ?_ _)); exact BK755.out) k_ hk) _ (Nat.le_refl _)) (Below.refl _ _) (Nat.le_refl _) (by simp) ?_; (case hd => rfl); (case hg => rfl); (case hr => first | (go_simp; done) | (go_simp; rfl)); (case hp => exact (Reps.c6 (show Kd.FK k87 _ _ (⟨0, (⟨([] : List (S32)), ([] : List (S27)), 1, (⟨1, 0⟩ : S25)⟩ : S53)⟩ : S87) [.int .i64 0, .slice none 0 0, .slice none 0 0, .int .i64 1, .int .u64 1, .int .i64 0] from (k87_mkF _ _ (⟨0, (⟨([] : List (S32)), ([] : List (S27)), 1, (⟨1, 0⟩ : S25)⟩ : S53)⟩ : S87) (Nat.le_refl _) (Kd.F_nil _ _ _) (Nat.le_refl _) (Kd.F_nil _ _ _))) (Reps.c6 (show Kd.FK k87 _ _ (⟨1, (⟨([] : List (S32)), y756, 2, (⟨2, 0⟩ : S25)⟩ : S53)⟩ : S87) [.int .i64 1, .slice none 0 0, .slice Ao28 y756.length co28, .int .i64 2, .int .u64 2, .int .i64 0] from (k87_mkF _ _ (⟨1, (⟨([] : List (S32)), y756, 2, (⟨2, 0⟩ : S25)⟩ : S53)⟩ : S87) (Nat.le_refl _) (Kd.F_nil _ _ _) (Kd.R_reads' (Kd.R_mono (ok' := (fun k_ => k_ ≠ gb755)) (HO758.out) (fun k_ hk => hk.2))).2.1 (Kd.R_F (Kd.R_mono (ok' := (fun k_ => k_ ≠ gb755)) (HO758.out) (fun k_ hk => hk.2))))) (Reps.none _ _)))); intro v760 w29 ho30 hb hg_ hnew_; clear hg_ hnew_; (first | rw [← Ny759.out] at ho30 | (simp only [Int.reduceToNat] at ho30; rw [← Ny759.out] at ho30)); have n0_ := Aside0.mk (Kd.N_lower ho30 (below_size zb_)); have n1_ := zk_ BK755 hb; have n2_ := Aside0.mk (below_step zb_ hb); clear BK755; clear HB; clear HO758; have HO761 := n0_; have BK755 := n1_; have HB := n2_; clear n0_ n1_ n2_; clear hb ho30; obtain ⟨Ao31, co31, eo31⟩ := Kd.N_slice HO761.out; subst eo31))
   have n0_ := Aside0.mk (Kd.N_drew HO761.out)
   have n1_ := Aside0.mk (blk_drew BK755.out)
   have n2_ := Aside0.mk (below_drew1 HB.out)
   clear HO761
   clear BK755
   clear HB
   have HO761 := n0_
   have BK755 := n1_
   have HB := n2_
   clear n0_ n1_ n2_
   refine start_ (n := 16) (S := fun w' => w'.cell? ⟨gb755, 0, none⟩ = some (.int .u64 1) ∧ w'.cell? ⟨gb755, 1, none⟩ = some (.int .i64 0) ∧ w'.cell? ⟨gb755, 2, none⟩ = some (.int .u64 1) ∧ w'.cell? ⟨gb755, 3, none⟩ = some (.int .i64 0)) (ds := []) #[F_,F_,F_,F_,F_,F_,F_,F_,F_,F_,F_,F_,F_,F_,F_,F_] (by kernel_rfl) rfl rfl ⟨(blk_cell BK755.out 0).trans rfl, (blk_cell BK755.out 1).trans rfl, (blk_cell BK755.out 2).trans rfl, (blk_cell BK755.out 3).trans rfl⟩ (fun hHeld => ?_); refine with_tabW folkmootlaw16_awake.tab3 folkmootlaw16_awake.bits3 (fun HT_ HW_ => ?_)
   generalize w29.drew = w32 at HO761 BK755 HB hHeld ⊢
   refine pure_ (i := 0) (N := some 14) (v := ?_) (a' := ?_) #[T_,F_,F_,F_,F_,F_,F_,F_,F_,F_,F_,F_,F_,F_,F_,F_] rfl rfl (any_of HT_.out (by kernel_rfl)) (fun _ _ _ h => h) (Or.inl ⟨by rfl, ?_⟩) ?_ ?_
   rotate_left
   ·
    intro w'; go_simp; with_reducible rfl
   rotate_left
   ·
    exact zp_
   refine take_ (i := 2) (N := some 16) (v := ?_) (a' := ?_) #[T_,F_,T_,F_,F_,F_,F_,F_,F_,F_,F_,F_,F_,F_,F_,F_] rfl rfl (take_ofW HT_.out HW_.out (by kernel_rfl)) (fun _ _ _ h => h) (Or.inl ⟨by rfl, ?_⟩) hHeld ?_ ?_
   rotate_left
   ·
    rintro w' ⟨s0, s1, s2, s3⟩
    go_simp
    with_reducible rfl
   rotate_left
   ·
    exact zp_
   refine join_ (σ := Value × Value) 12 #[T_,T_,T_,T_,F_,F_,F_,F_,F_,F_,F_,F_,F_,F_,F_,F_] (fun s_ => [(15, s_.1), (17, s_.2)]) (fun s_ w' => (w'.cell? ⟨gb755, 0, none⟩ = some (.int .u64 1) ∧ w'.cell? ⟨gb755, 1, none⟩ = some (.int .i64 0) ∧ w'.cell? ⟨gb755, 2, none⟩ = some (.int .u64 1) ∧ w'.cell? ⟨gb755, 3, none⟩ = some (.int .i64 0)) ∧ (Kd.N k87 87 w' w.heap.size (fun k_ => some k_ ≠ (s_.1 : Value).ownBlock ∧ some k_ ≠ (s_.2 : Value).ownBlock ∧ k_ ≠ gb755) (.slice Ao31 y759.length co31) y759) ∧ (Kd.R k27 27 w' w.heap.size (fun k_ => some k_ ≠ (s_.2 : Value).ownBlock ∧ k_ ≠ gb755) s_.1 t762) ∧ (Kd.R k27 27 w' w.heap.size (fun k_ => some k_ ≠ (s_.1 : Value).ownBlock ∧ k_ ≠ gb755) s_.2 y765) ∧ (w'.heap[gb755]? = some (.cells #[.int .u64 1, .int .i64 0, .int .u64 1, .int .i64 0] 27 (0, 0))) ∧ (Below w.heap.size w w')) ?_ ?_
   rotate_left
   ·
    intro hCont
    refine two_ (i := 1) (j := 3) (Ni := some 15) (Nj := some 17) #[T_,T_,T_,F_,F_,F_,F_,F_,F_,F_,F_,F_,F_,F_,F_,F_] #[T_,F_,T_,T_,F_,F_,F_,F_,F_,F_,F_,F_,F_,F_,F_,F_] rfl rfl rfl rfl (two_of HT_.out (by kernel_rfl)) (by decide) (by decide) (fun K hK => ?_) (fun K hK => ?_)
    ·
     skip
     refine goes_ Try.func62 (by kernel_rfl) rfl #[.slice Ao31 y759.length co31] (by rfl) rfl rfl za_ ?_
     with_reducible refine (exchange_Short.calls k _ _ y759 t762 _ ?side1 ?side2 A1.out).mono ?_
     (case side1 => exact zd_ (Kd.N_reads' HO761.out).2.2)
     (case side2 => exact (Kd.N_reads' HO761.out).2.1)
     rintro e w33 ⟨v763, rfl, ho0, hb⟩
     refine ⟨_, rfl, ?_⟩
     have n0_ := Aside0.mk (Kd.N_elder' (zn_ HO761) (Kd.R_base ho0) hb)
     have n1_ := Aside0.mk (Kd.R_lower (Kd.R_newB ho0 (g := gb755) (o := .cells #[.int .u64 1, .int .i64 0, .int .u64 1, .int .i64 0] 27 (0, 0)) (by (with_reducible repeat (first | refine blk_drewN ?_ _ | refine blk_drew ?_ | refine blk_alloc ?_ _)); exact BK755.out)) (below_size zb_))
     have n2_ := zk_ BK755 hb
     have n3_ := Aside0.mk (below_step zb_ hb)
     clear HO761
     clear BK755
     clear HB
     have HO761 := n0_
     have HO764 := n1_
     have BK755 := n2_
     have HB := n3_
     clear n0_ n1_ n2_ n3_
     (try clear hb)
     (try clear hb2)
     (try clear hk)
     (try clear hi)
     (try clear ho0)
     refine hK.out _ _ ⟨(blk_cell BK755.out 0).trans rfl, (blk_cell BK755.out 1).trans rfl, (blk_cell BK755.out 2).trans rfl, (blk_cell BK755.out 3).trans rfl⟩ (fun hHeld => ?_)
     clear hK K
     refine norm_ (a' := ?_) ?_ ?_
     rotate_left
     ·
      show Act.put _ (some 15) _ = _
      simp only [Act.put, List.setIfInBounds_toArray, List.set_cons_zero, List.set_cons_succ, i64_w, i32_w]
      rfl
     refine one_ (i := 3) (N := some 17) #[T_,T_,T_,T_,F_,F_,F_,F_,F_,F_,F_,F_,F_,F_,F_,F_] rfl rfl (one_of HT_.out (by kernel_rfl)) (by decide) (fun K hK => ?_)
     refine Kd.R_lit_step k27 _ 27 ?hg (N := 17) ?hd (xs := ([(⟨(⟨1, 0⟩ : S25), 1, 0⟩ : S27)] : List (S27))) (inner := [.int .u64 1, .int .i64 0, .int .u64 1, .int .i64 0]) (ok := fun _ => True) (okp := fun _ => True) ?hr ?hp (fun _ hk => hk) trivial (Below.refl _ _) (Nat.le_refl _) (by simp) ?_; (case hd => rfl); (case hg => rfl); (case hr => first | (go_simp; done) | (go_simp; rfl)); (case hp => exact (Reps.c4 (show Kd.M k27 _ _ _ (⟨(⟨1, 0⟩ : S25), 1, 0⟩ : S27) [.int .u64 1, .int .i64 0, .int .u64 1, .int .i64 0] from (k27_mkM _ _ _ (⟨(⟨1, 0⟩ : S25), 1, 0⟩ : S27) )) (Reps.none _ _)))
     intro v766 w34 ho35 hb hg_ hnew_
     clear hg_ hnew_
     (first | rw [← Ny765.out] at ho35 | (simp only [Int.reduceToNat] at ho35; rw [← Ny765.out] at ho35))
     have n0_ := Aside0.mk (Kd.N_elder' (zn_ HO761) (Kd.R_base ho35) hb)
     have n1_ := Aside0.mk (Kd.R_elder' (zr_ HO764) (Kd.R_base ho35) hb)
     have n2_ := Aside0.mk (Kd.R_lower (Kd.R_newB (Kd.R_new' ho35 (Kd.R_lt (zr_ HO764))) (g := gb755) (o := .cells #[.int .u64 1, .int .i64 0, .int .u64 1, .int .i64 0] 27 (0, 0)) (by (with_reducible repeat (first | refine blk_drewN ?_ _ | refine blk_drew ?_ | refine blk_alloc ?_ _)); exact BK755.out)) (below_size zb_))
     have n3_ := zk_ BK755 hb
     have n4_ := Aside0.mk (below_step zb_ hb)
     clear HO761
     clear HO764
     clear BK755
     clear HB
     have HO761 := n0_
     have HO764 := n1_
     have HO767 := n2_
     have BK755 := n3_
     have HB := n4_
     clear n0_ n1_ n2_ n3_ n4_
     clear hb ho35
     refine hK.out _ _ ⟨(blk_cell BK755.out 0).trans rfl, (blk_cell BK755.out 1).trans rfl, (blk_cell BK755.out 2).trans rfl, (blk_cell BK755.out 3).trans rfl⟩ (fun hHeld => ?_)
     clear hK K
     refine norm_ (a' := ?_) ?_ ?_
     rotate_left
     ·
      show Act.put _ (some 17) _ = _
      simp only [Act.put, List.setIfInBounds_toArray, List.set_cons_zero, List.set_cons_succ, i64_w, i32_w]
      rfl
     exact norm_ (by simp only [putAll, Act.put, List.setIfInBounds_toArray, List.set_cons_zero, List.set_cons_succ]) (hCont (v763, v766) _ ⟨hHeld, (by (with_reducible repeat (first | apply Kd.N_alloc | apply Kd.N_drewN | apply Kd.N_drew)); exact Kd.N_mono HO761.out (fun _ hk => ⟨hk.1.2, ⟨hk.2, hk.1.1⟩⟩)), (by (with_reducible repeat (first | apply Kd.R_alloc | apply Kd.R_drewN | apply Kd.R_drew)); exact Kd.R_mono HO764.out (fun _ hk => ⟨hk.2, hk.1.2⟩)), (by (with_reducible repeat (first | apply Kd.R_alloc | apply Kd.R_drewN | apply Kd.R_drew)); exact Kd.R_mono HO767.out (fun _ hk => ⟨hk.1.2, hk.2⟩)), (by (with_reducible repeat (first | refine blk_drewN ?_ _ | refine blk_drew ?_ | refine blk_alloc ?_ _)); exact BK755.out), zb_⟩)
    ·
     skip
     refine Kd.R_lit_step k27 _ 27 ?hg (N := 17) ?hd (xs := ([(⟨(⟨1, 0⟩ : S25), 1, 0⟩ : S27)] : List (S27))) (inner := [.int .u64 1, .int .i64 0, .int .u64 1, .int .i64 0]) (ok := fun _ => True) (okp := fun _ => True) ?hr ?hp (fun _ hk => hk) trivial (Below.refl _ _) (Nat.le_refl _) (by simp) ?_; (case hd => rfl); (case hg => rfl); (case hr => first | (go_simp; done) | (go_simp; rfl)); (case hp => exact (Reps.c4 (show Kd.M k27 _ _ _ (⟨(⟨1, 0⟩ : S25), 1, 0⟩ : S27) [.int .u64 1, .int .i64 0, .int .u64 1, .int .i64 0] from (k27_mkM _ _ _ (⟨(⟨1, 0⟩ : S25), 1, 0⟩ : S27) )) (Reps.none _ _)))
     intro v766 w33 ho34 hb hg_ hnew_
     clear hg_ hnew_
     (first | rw [← Ny765.out] at ho34 | (simp only [Int.reduceToNat] at ho34; rw [← Ny765.out] at ho34))
     have n0_ := Aside0.mk (Kd.N_elder' (zn_ HO761) (Kd.R_base ho34) hb)
     have n1_ := Aside0.mk (Kd.R_lower (Kd.R_newB ho34 (g := gb755) (o := .cells #[.int .u64 1, .int .i64 0, .int .u64 1, .int .i64 0] 27 (0, 0)) (by (with_reducible repeat (first | refine blk_drewN ?_ _ | refine blk_drew ?_ | refine blk_alloc ?_ _)); exact BK755.out)) (below_size zb_))
     have n2_ := zk_ BK755 hb
     have n3_ := Aside0.mk (below_step zb_ hb)
     clear HO761
     clear BK755
     clear HB
     have HO761 := n0_
     have HO767 := n1_
     have BK755 := n2_
     have HB := n3_
     clear n0_ n1_ n2_ n3_
     clear hb ho34
     refine hK.out _ _ ⟨(blk_cell BK755.out 0).trans rfl, (blk_cell BK755.out 1).trans rfl, (blk_cell BK755.out 2).trans rfl, (blk_cell BK755.out 3).trans rfl⟩ (fun hHeld => ?_)
     clear hK K
     refine norm_ (a' := ?_) ?_ ?_
     rotate_left
     ·
      show Act.put _ (some 17) _ = _
      simp only [Act.put, List.setIfInBounds_toArray, List.set_cons_zero, List.set_cons_succ, i64_w, i32_w]
      rfl
     refine one_ (i := 1) (N := some 15) #[T_,T_,T_,T_,F_,F_,F_,F_,F_,F_,F_,F_,F_,F_,F_,F_] rfl rfl (one_of HT_.out (by kernel_rfl)) (by decide) (fun K hK => ?_)
     refine goes_ Try.func62 (by kernel_rfl) rfl #[.slice Ao31 y759.length co31] (by rfl) rfl rfl za_ ?_
     with_reducible refine (exchange_Short.calls k _ _ y759 t762 _ ?side1 ?side2 A1.out).mono ?_
     (case side1 => exact zd_ (Kd.N_reads' HO761.out).2.2)
     (case side2 => exact (Kd.N_reads' HO761.out).2.1)
     rintro e w35 ⟨v763, rfl, ho0, hb⟩
     refine ⟨_, rfl, ?_⟩
     have n0_ := Aside0.mk (Kd.N_elder' (zn_ HO761) (Kd.R_base ho0) hb)
     have n1_ := Aside0.mk (Kd.R_elder' (zr_ HO767) (Kd.R_base ho0) hb)
     have n2_ := Aside0.mk (Kd.R_lower (Kd.R_newB (Kd.R_new' ho0 (Kd.R_lt (zr_ HO767))) (g := gb755) (o := .cells #[.int .u64 1, .int .i64 0, .int .u64 1, .int .i64 0] 27 (0, 0)) (by (with_reducible repeat (first | refine blk_drewN ?_ _ | refine blk_drew ?_ | refine blk_alloc ?_ _)); exact BK755.out)) (below_size zb_))
     have n3_ := zk_ BK755 hb
     have n4_ := Aside0.mk (below_step zb_ hb)
     clear HO761
     clear HO767
     clear BK755
     clear HB
     have HO761 := n0_
     have HO767 := n1_
     have HO764 := n2_
     have BK755 := n3_
     have HB := n4_
     clear n0_ n1_ n2_ n3_ n4_
     (try clear hb)
     (try clear hb2)
     (try clear hk)
     (try clear hi)
     (try clear ho0)
     refine hK.out _ _ ⟨(blk_cell BK755.out 0).trans rfl, (blk_cell BK755.out 1).trans rfl, (blk_cell BK755.out 2).trans rfl, (blk_cell BK755.out 3).trans rfl⟩ (fun hHeld => ?_)
     clear hK K
     refine norm_ (a' := ?_) ?_ ?_
     rotate_left
     ·
      show Act.put _ (some 15) _ = _
      simp only [Act.put, List.setIfInBounds_toArray, List.set_cons_zero, List.set_cons_succ, i64_w, i32_w]
      rfl
     exact norm_ (by simp only [putAll, Act.put, List.setIfInBounds_toArray, List.set_cons_zero, List.set_cons_succ]) (hCont (v763, v766) _ ⟨hHeld, (by (with_reducible repeat (first | apply Kd.N_alloc | apply Kd.N_drewN | apply Kd.N_drew)); exact Kd.N_mono HO761.out (fun _ hk => ⟨hk.2, ⟨hk.1.2, hk.1.1⟩⟩)), (by (with_reducible repeat (first | apply Kd.R_alloc | apply Kd.R_drewN | apply Kd.R_drew)); exact Kd.R_mono HO764.out (fun _ hk => ⟨hk.1.2, hk.2⟩)), (by (with_reducible repeat (first | apply Kd.R_alloc | apply Kd.R_drewN | apply Kd.R_drew)); exact Kd.R_mono HO767.out (fun _ hk => ⟨hk.2, hk.1.2⟩)), (by (with_reducible repeat (first | refine blk_drewN ?_ _ | refine blk_drew ?_ | refine blk_alloc ?_ _)); exact BK755.out), zb_⟩)
   rintro ⟨v763, v766⟩ w36 ⟨hS_, h0_, h1_, h2_, h3_, h4_⟩
   have n0_ : Aside0 (Kd.N k87 87 w36 w.heap.size (fun k_ => some k_ ≠ (v763 : Value).ownBlock ∧ some k_ ≠ (v766 : Value).ownBlock ∧ k_ ≠ gb755) (.slice Ao31 y759.length co31) y759) := ⟨h0_⟩
   have n1_ : Aside0 (Kd.R k27 27 w36 w.heap.size (fun k_ => some k_ ≠ (v766 : Value).ownBlock ∧ k_ ≠ gb755) v763 t762) := ⟨h1_⟩
   have n2_ : Aside0 (Kd.R k27 27 w36 w.heap.size (fun k_ => some k_ ≠ (v763 : Value).ownBlock ∧ k_ ≠ gb755) v766 y765) := ⟨h2_⟩
   have n3_ : Aside0 (w36.heap[gb755]? = some (.cells #[.int .u64 1, .int .i64 0, .int .u64 1, .int .i64 0] 27 (0, 0))) := ⟨h3_⟩
   have n4_ : Aside0 (Below w.heap.size w w36) := ⟨h4_⟩
   clear HO761
   clear BK755
   clear HB
   clear h0_ h1_ h2_ h3_ h4_
   have HO761 := n0_
   have HO764 := n1_
   have HO767 := n2_
   have BK755 := n3_
   have HB := n4_
   clear n0_ n1_ n2_ n3_ n4_
   have hHeld : w36.cell? ⟨gb755, 0, none⟩ = some (.int .u64 1) ∧ w36.cell? ⟨gb755, 1, none⟩ = some (.int .i64 0) ∧ w36.cell? ⟨gb755, 2, none⟩ = some (.int .u64 1) ∧ w36.cell? ⟨gb755, 3, none⟩ = some (.int .i64 0) := hS_
   obtain ⟨Ao37, co37, eo37⟩ := Kd.R_slice HO764.out
   (first | subst eo37 | (injection eo37 with f1_ f2_ f3_; have f4_ := f1_.symm; have f5_ := f3_.symm; clear f1_ f2_ f3_; subst f4_; subst f5_))
   obtain ⟨Ao38, co38, eo38⟩ := Kd.R_slice HO767.out
   (first | subst eo38 | (injection eo38 with f1_ f2_ f3_; have f4_ := f1_.symm; have f5_ := f3_.symm; clear f1_ f2_ f3_; subst f4_; subst f5_))
   refine norm_ (a' := ?_) ?_ ?_
   rotate_left
   ·
    simp only [putAll, Act.put, List.setIfInBounds_toArray, List.set_cons_zero, List.set_cons_succ]
    rfl
   refine one_ (i := 4) (N := some 18) #[T_,T_,T_,T_,T_,F_,F_,F_,F_,F_,F_,F_,F_,F_,F_,F_] rfl rfl (one_of HT_.out (by kernel_rfl)) (by decide) (fun K hK => ?_)
   refine goes_ Try.func30 (by kernel_rfl) rfl #[.slice Ao37 t762.length co37, .slice Ao38 y765.length co38] (by rfl) rfl rfl za_ ?_
   with_reducible refine (folkmootref05_Same.calls k _ _ t762 _ _ y765 true _ ?side1 ?side2 ?side3 ?side4 A2.out).mono ?_
   (case side1 => exact zd_ (Kd.R_reads' HO764.out).2.2)
   (case side2 => exact (Kd.R_reads' HO764.out).2.1)
   (case side3 => exact zd_ (Kd.R_reads' HO767.out).2.2)
   (case side4 => exact (Kd.R_reads' HO767.out).2.1)
   rintro e w' ⟨rfl, ⟨nd, rfl⟩⟩
   refine ⟨_, rfl, ?_⟩
   refine hK.out _ _ ⟨(blk_cell BK755.out 0).trans rfl, (blk_cell BK755.out 1).trans rfl, (blk_cell BK755.out 2).trans rfl, (blk_cell BK755.out 3).trans rfl⟩ (fun hHeld => ?_)
   clear hK K
   refine norm_ (a' := ?_) ?_ ?_
   rotate_left
   ·
    show Act.put _ (some 18) _ = _
    simp only [Act.put, List.setIfInBounds_toArray, List.set_cons_zero, List.set_cons_succ, i64_w, i32_w]
    rfl
   refine pure_ (i := 5) (N := some 19) (v := ?_) (a' := ?_) #[T_,T_,T_,T_,T_,T_,F_,F_,F_,F_,F_,F_,F_,F_,F_,F_] rfl rfl (any_of HT_.out (by kernel_rfl)) (fun _ _ _ h => h) (Or.inl ⟨by rfl, ?_⟩) ?_ ?_
   rotate_left
   ·
    intro w'; go_simp; with_reducible rfl
   rotate_left
   ·
    exact zp_
   refine pure_ (i := 6) (N := some 20) (v := ?_) (a' := ?_) #[T_,T_,T_,T_,T_,T_,T_,F_,F_,F_,F_,F_,F_,F_,F_,F_] rfl rfl (any_of HT_.out (by kernel_rfl)) (fun _ _ _ h => h) (Or.inl ⟨by rfl, ?_⟩) ?_ ?_
   rotate_left
   ·
    intro w'; go_simp; with_reducible rfl
   rotate_left
   ·
    exact zp_
   refine one_ (i := 7) (N := some 21) #[T_,T_,T_,T_,T_,T_,T_,T_,F_,F_,F_,F_,F_,F_,F_,F_] rfl rfl (one_of HT_.out (by kernel_rfl)) (by decide) (fun K hK => ?_)
   refine goes_ Try.func61 (by kernel_rfl) rfl #[.slice Ao31 y759.length co31] (by rfl) rfl rfl za_ ?_
   with_reducible refine (exchange_Chosen.calls k _ _ y759 t769 _ ?side1 ?side2 A4.out).mono ?_
   (case side1 => exact zd_ (Kd.N_reads' HO761.out).2.2)
   (case side2 => exact (Kd.N_reads' HO761.out).2.1)
   rintro e w39 ⟨rfl, hb⟩
   refine ⟨_, rfl, ?_⟩
   have n0_ := Aside0.mk (Kd.N_below (zn_ HO761) hb)
   have n1_ := Aside0.mk (Kd.R_below (zr_ HO764) hb)
   have n2_ := Aside0.mk (Kd.R_below (zr_ HO767) hb)
   have n3_ := zk_ BK755 hb
   have n4_ := Aside0.mk (below_step zb_ hb)
   clear HO761
   clear HO764
   clear HO767
   clear BK755
   clear HB
   have HO761 := n0_
   have HO764 := n1_
   have HO767 := n2_
   have BK755 := n3_
   have HB := n4_
   clear n0_ n1_ n2_ n3_ n4_
   (try clear hb)
   (try clear hb2)
   (try clear hk)
   (try clear hi)
   refine hK.out _ _ ⟨(blk_cell BK755.out 0).trans rfl, (blk_cell BK755.out 1).trans rfl, (blk_cell BK755.out 2).trans rfl, (blk_cell BK755.out 3).trans rfl⟩ (fun hHeld => ?_)
   clear hK K
   refine norm_ (a' := ?_) ?_ ?_
   rotate_left
   ·
    show Act.put _ (some 21) _ = _
    simp only [Act.put, List.setIfInBounds_toArray, List.set_cons_zero, List.set_cons_succ, i64_w, i32_w]
    rfl
   refine pure_ (i := 8) (N := some 22) (v := ?_) (a' := ?_) #[T_,T_,T_,T_,T_,T_,T_,T_,T_,F_,F_,F_,F_,F_,F_,F_] rfl rfl (any_of HT_.out (by kernel_rfl)) (fun _ _ _ h => h) (Or.inl ⟨by rfl, ?_⟩) ?_ ?_
   rotate_left
   ·
    intro w'; go_simp; with_reducible rfl
   rotate_left
   ·
    exact zp_
   refine pure_ (i := 9) (N := some 23) (v := ?_) (a' := ?_) #[T_,T_,T_,T_,T_,T_,T_,T_,T_,T_,F_,F_,F_,F_,F_,F_] rfl rfl (any_of HT_.out (by kernel_rfl)) (fun _ _ _ h => h) (Or.inl ⟨by rfl, ?_⟩) ?_ ?_
   rotate_left
   ·
    intro w'; go_simp; with_reducible rfl
   rotate_left
   ·
    exact zp_
   refine pure_ (i := 10) (N := some 24) (v := ?_) (a' := ?_) #[T_,T_,T_,T_,T_,T_,T_,T_,T_,T_,T_,F_,F_,F_,F_,F_] rfl rfl (any_of HT_.out (by kernel_rfl)) (fun _ _ _ h => h) (Or.inl ⟨by rfl, ?_⟩) ?_ ?_
   rotate_left
   ·
    intro w'; go_simp; with_reducible rfl
   rotate_left
   ·
    exact zp_
   refine pure_ (i := 11) (N := some 25) (v := undef) (a' := ?_) #[T_,T_,T_,T_,T_,T_,T_,T_,T_,T_,T_,T_,F_,F_,F_,F_] rfl rfl (any_of HT_.out (by kernel_rfl)) (fun _ _ _ h => h) (Or.inr ⟨by rfl, rfl⟩) ?_ ?_
   rotate_left
   ·
    exact zp_
   refine pure_ (i := 12) (N := some 26) (v := undef) (a' := ?_) #[T_,T_,T_,T_,T_,T_,T_,T_,T_,T_,T_,T_,T_,F_,F_,F_] rfl rfl (any_of HT_.out (by kernel_rfl)) (fun _ _ _ h => h) (Or.inr ⟨by rfl, rfl⟩) ?_ ?_
   rotate_left
   ·
    exact zp_
   refine pure_ (i := 13) (N := some 27) (v := undef) (a' := ?_) #[T_,T_,T_,T_,T_,T_,T_,T_,T_,T_,T_,T_,T_,T_,F_,F_] rfl rfl (any_of HT_.out (by kernel_rfl)) (fun _ _ _ h => h) (Or.inr ⟨by rfl, rfl⟩) ?_ ?_
   rotate_left
   ·
    exact zp_
   refine pure_ (i := 14) (N := some 28) (v := ?_) (a' := ?_) #[T_,T_,T_,T_,T_,T_,T_,T_,T_,T_,T_,T_,T_,T_,T_,F_] rfl rfl (any_of HT_.out (by kernel_rfl)) (fun _ _ _ h => h) (Or.inl ⟨by rfl, ?_⟩) ?_ ?_
   rotate_left
   ·
    intro w'; go_simp; with_reducible rfl
   rotate_left
   ·
    exact zp_
   refine pure_ (i := 15) (N := some 0) (v := ?_) (a' := ?_) #[T_,T_,T_,T_,T_,T_,T_,T_,T_,T_,T_,T_,T_,T_,T_,T_] rfl rfl (any_of HT_.out (by kernel_rfl)) (fun _ _ _ h => h) (Or.inl ⟨by rfl, ?_⟩) ?_ ?_
   rotate_left
   ·
    intro w'; go_simp; with_reducible rfl
   rotate_left
   ·
    exact zp_
   refine done_ (done_of HT_.out (by kernel_rfl)) ?_
   (try clear hHeld); (try clear HS0_)
   try go_wp2
   go_ret
   exact ⟨by first | rfl | (simp [errW_none, errW_some] <;> rfl) | (simp [*, errW_none, errW_some] <;> rfl), by repeat (first | (with_reducible first | exact HB.out | apply below_alloc | apply pw_below_drewN | apply below_drew1 | refine below_set ?_ GE755.out) | exact HB.out)⟩
 ·
  replace c3 := Bool.eq_false_iff.mpr c3
  subst c3
  have H1 : (some false) = some r := by rw [if_neg (show ¬ (false = true) by decide)] at H; exact H
  clear H
  have H := H1
  clear H1
  obtain rfl := Option.some.inj H
  go_enter Try.func55, Try.ntmps55
  try go_wp2_with (first | ((with_reducible refine gate_dst (N := 1) rfl ?_); refine box_event ?hg (N := 1) ?hd (cs := #[.int .u64 0, .int .i64 0, .int .u64 0, .int .i64 0]) (t := 27) ?hr ?_; (case hd => rfl); (case hg => rfl); (case hr => first | (go_simp; done) | (go_simp; rfl)); intro gb755 hg w40 hbox hb; have n0_ := Aside0.mk (below_step zb_ hb); have n1_ := Aside0.mk (hbox); have n2_ := Aside0.mk ((by rw [hg]; exact (below_size zb_) : w.heap.size ≤ gb755)); have n3_ := Aside0.mk ((by rw [hg]; exact (below_size zb_) : w.heap.size ≤ gb755)); clear HB; have HB := n0_; have BK755 := n1_; have GW755 := n2_; have GE755 := n3_; clear n0_ n1_ n2_ n3_; clear hb hbox hg; have hcz41_0 : w40.cell? ⟨gb755, 0, none⟩ = some (.int .u64 0) := (blk_cell BK755.out 0).trans rfl; have hcz41_1 : w40.cell? ⟨gb755, 1, none⟩ = some (.int .i64 0) := (blk_cell BK755.out 1).trans rfl; have hcz41_2 : w40.cell? ⟨gb755, 2, none⟩ = some (.int .u64 0) := (blk_cell BK755.out 2).trans rfl; have hcz41_3 : w40.cell? ⟨gb755, 3, none⟩ = some (.int .i64 0) := (blk_cell BK755.out 3).trans rfl; have hfz41_0 := blk_frozen BK755.out 0; have hfz41_1 := blk_frozen BK755.out 1; have hfz41_2 := blk_frozen BK755.out 2; have hfz41_3 := blk_frozen BK755.out 3) | ((with_reducible refine gate_dst (N := 10) rfl ?_); refine Kd.R_lit k27 _ 27 ?hg (N := 10) ?hd (xs := ([(⟨(⟨1, 0⟩ : S25), 1, 0⟩ : S27)] : List (S27))) (inner := [.int .u64 1, .int .i64 0, .int .u64 1, .int .i64 0]) (ok := fun _ => True) (okp := fun _ => True) ?hr ?hp (fun _ hk => hk) trivial (Below.refl _ _) (Nat.le_refl _) (by simp) ?_; (case hd => rfl); (case hg => rfl); (case hr => first | (go_simp; done) | (go_simp; rfl)); (case hp => exact (Reps.c4 (show Kd.M k27 _ _ _ (⟨(⟨1, 0⟩ : S25), 1, 0⟩ : S27) [.int .u64 1, .int .i64 0, .int .u64 1, .int .i64 0] from (k27_mkM _ _ _ (⟨(⟨1, 0⟩ : S25), 1, 0⟩ : S27) )) (Reps.none _ _))); intro v757 w42 ho43 hb hg_ hnew_; clear hg_ hnew_; (first | rw [← Ny756.out] at ho43 | (simp only [Int.reduceToNat] at ho43; rw [← Ny756.out] at ho43)); have n0_ := Aside0.mk (Kd.R_lower (Kd.R_newB ho43 (g := gb755) (o := .cells #[.int .u64 1, .int .i64 0, .int .u64 1, .int .i64 0] 27 (0, 0)) (by (with_reducible repeat (first | refine blk_drewN ?_ _ | refine blk_drew ?_ | refine blk_alloc ?_ _)); refine blk_put (cs := #[.int .u64 1, .int .i64 0, .int .u64 1, .int .i64 0]) ?_ 3 _ rfl; (with_reducible repeat (first | refine blk_drewN ?_ _ | refine blk_drew ?_ | refine blk_alloc ?_ _)); refine blk_put (cs := #[.int .u64 1, .int .i64 0, .int .u64 0, .int .i64 0]) ?_ 2 _ rfl; (with_reducible repeat (first | refine blk_drewN ?_ _ | refine blk_drew ?_ | refine blk_alloc ?_ _)); refine blk_put (cs := #[.int .u64 1, .int .i64 0, .int .u64 0, .int .i64 0]) ?_ 1 _ rfl; (with_reducible repeat (first | refine blk_drewN ?_ _ | refine blk_drew ?_ | refine blk_alloc ?_ _)); refine blk_put (cs := #[.int .u64 0, .int .i64 0, .int .u64 0, .int .i64 0]) ?_ 0 _ rfl; (with_reducible repeat (first | refine blk_drewN ?_ _ | refine blk_drew ?_ | refine blk_alloc ?_ _)); exact BK755.out)) (below_size zb_)); have n1_ := Aside0.mk (blk_below (g := gb755) (o := .cells #[.int .u64 1, .int .i64 0, .int .u64 1, .int .i64 0] 27 (0, 0)) (by (with_reducible repeat (first | refine blk_drewN ?_ _ | refine blk_drew ?_ | refine blk_alloc ?_ _)); refine blk_put (cs := #[.int .u64 1, .int .i64 0, .int .u64 1, .int .i64 0]) ?_ 3 _ rfl; (with_reducible repeat (first | refine blk_drewN ?_ _ | refine blk_drew ?_ | refine blk_alloc ?_ _)); refine blk_put (cs := #[.int .u64 1, .int .i64 0, .int .u64 0, .int .i64 0]) ?_ 2 _ rfl; (with_reducible repeat (first | refine blk_drewN ?_ _ | refine blk_drew ?_ | refine blk_alloc ?_ _)); refine blk_put (cs := #[.int .u64 1, .int .i64 0, .int .u64 0, .int .i64 0]) ?_ 1 _ rfl; (with_reducible repeat (first | refine blk_drewN ?_ _ | refine blk_drew ?_ | refine blk_alloc ?_ _)); refine blk_put (cs := #[.int .u64 0, .int .i64 0, .int .u64 0, .int .i64 0]) ?_ 0 _ rfl; (with_reducible repeat (first | refine blk_drewN ?_ _ | refine blk_drew ?_ | refine blk_alloc ?_ _)); exact BK755.out) hb); have n2_ := Aside0.mk (below_step zb_ hb); clear BK755; clear HB; have HO758 := n0_; have BK755 := n1_; have HB := n2_; clear n0_ n1_ n2_; clear hb ho43; obtain ⟨Ao44, co44, eo44⟩ := Kd.R_slice HO758.out; subst eo44) | ((with_reducible refine gate_dst (N := 13) rfl ?_); refine Kd.N_lit k87 _ 87 ?hg (N' := 13) ?hd (xs := ([(⟨0, (⟨([] : List (S32)), ([] : List (S27)), 1, (⟨1, 0⟩ : S25)⟩ : S53)⟩ : S87), (⟨1, (⟨([] : List (S32)), y756, 2, (⟨2, 0⟩ : S25)⟩ : S53)⟩ : S87)] : List (S87))) (inner := [.int .i64 0, .slice none 0 0, .slice none 0 0, .int .i64 1, .int .u64 1, .int .i64 0, .int .i64 1, .slice none 0 0, .slice Ao44 y756.length co44, .int .i64 2, .int .u64 2, .int .i64 0]) (ok := (fun k_ => k_ ≠ gb755)) (okp := (fun k_ => k_ ≠ gb755)) ?hr ?hp (fun _ hk => hk) ((show ∀ k_, w42.heap.size ≤ k_ → (fun k_ => k_ ≠ gb755) k_ from fun k_ hk => Kd.freshB (g := gb755) (o := .cells #[.int .u64 1, .int .i64 0, .int .u64 1, .int .i64 0] 27 (0, 0)) (by (with_reducible repeat (first | refine blk_drewN ?_ _ | refine blk_drew ?_ | refine blk_alloc ?_ _)); exact BK755.out) k_ hk) _ (Nat.le_refl _)) (Below.refl _ _) (Nat.le_refl _) (by simp) ?_; (case hd => rfl); (case hg => rfl); (case hr => first | (go_simp; done) | (go_simp; rfl)); (case hp => exact (Reps.c6 (show Kd.FK k87 _ _ (⟨0, (⟨([] : List (S32)), ([] : List (S27)), 1, (⟨1, 0⟩ : S25)⟩ : S53)⟩ : S87) [.int .i64 0, .slice none 0 0, .slice none 0 0, .int .i64 1, .int .u64 1, .int .i64 0] from (k87_mkF _ _ (⟨0, (⟨([] : List (S32)), ([] : List (S27)), 1, (⟨1, 0⟩ : S25)⟩ : S53)⟩ : S87) (Nat.le_refl _) (Kd.F_nil _ _ _) (Nat.le_refl _) (Kd.F_nil _ _ _))) (Reps.c6 (show Kd.FK k87 _ _ (⟨1, (⟨([] : List (S32)), y756, 2, (⟨2, 0⟩ : S25)⟩ : S53)⟩ : S87) [.int .i64 1, .slice none 0 0, .slice Ao44 y756.length co44, .int .i64 2, .int .u64 2, .int .i64 0] from (k87_mkF _ _ (⟨1, (⟨([] : List (S32)), y756, 2, (⟨2, 0⟩ : S25)⟩ : S53)⟩ : S87) (Nat.le_refl _) (Kd.F_nil _ _ _) (Kd.R_reads' (Kd.R_mono (ok' := (fun k_ => k_ ≠ gb755)) (HO758.out) (fun k_ hk => hk.2))).2.1 (Kd.R_F (Kd.R_mono (ok' := (fun k_ => k_ ≠ gb755)) (HO758.out) (fun k_ hk => hk.2))))) (Reps.none _ _)))); intro v760 w45 ho46 hb hg_ hnew_; clear hg_ hnew_; (first | rw [← Ny759.out] at ho46 | (simp only [Int.reduceToNat] at ho46; rw [← Ny759.out] at ho46)); have n0_ := Aside0.mk (Kd.N_lower ho46 (below_size zb_)); have n1_ := zk_ BK755 hb; have n2_ := Aside0.mk (below_step zb_ hb); clear BK755; clear HB; clear HO758; have HO761 := n0_; have BK755 := n1_; have HB := n2_; clear n0_ n1_ n2_; clear hb ho46; obtain ⟨Ao47, co47, eo47⟩ := Kd.N_slice HO761.out; subst eo47))
  have n0_ := Aside0.mk (Kd.N_drew HO761.out)
  have n1_ := Aside0.mk (blk_drew BK755.out)
  have n2_ := Aside0.mk (below_drew1 HB.out)
  clear HO761
  clear BK755
  clear HB
  have HO761 := n0_
  have BK755 := n1_
  have HB := n2_
  clear n0_ n1_ n2_
  refine start_ (n := 16) (S := fun w' => w'.cell? ⟨gb755, 0, none⟩ = some (.int .u64 1) ∧ w'.cell? ⟨gb755, 1, none⟩ = some (.int .i64 0) ∧ w'.cell? ⟨gb755, 2, none⟩ = some (.int .u64 1) ∧ w'.cell? ⟨gb755, 3, none⟩ = some (.int .i64 0)) (ds := []) #[F_,F_,F_,F_,F_,F_,F_,F_,F_,F_,F_,F_,F_,F_,F_,F_] (by kernel_rfl) rfl rfl ⟨(blk_cell BK755.out 0).trans rfl, (blk_cell BK755.out 1).trans rfl, (blk_cell BK755.out 2).trans rfl, (blk_cell BK755.out 3).trans rfl⟩ (fun hHeld => ?_); refine with_tabW folkmootlaw16_awake.tab3 folkmootlaw16_awake.bits3 (fun HT_ HW_ => ?_)
  generalize w45.drew = w48 at HO761 BK755 HB hHeld ⊢
  refine pure_ (i := 0) (N := some 14) (v := ?_) (a' := ?_) #[T_,F_,F_,F_,F_,F_,F_,F_,F_,F_,F_,F_,F_,F_,F_,F_] rfl rfl (any_of HT_.out (by kernel_rfl)) (fun _ _ _ h => h) (Or.inl ⟨by rfl, ?_⟩) ?_ ?_
  rotate_left
  ·
   intro w'; go_simp; with_reducible rfl
  rotate_left
  ·
   exact zp_
  refine take_ (i := 2) (N := some 16) (v := ?_) (a' := ?_) #[T_,F_,T_,F_,F_,F_,F_,F_,F_,F_,F_,F_,F_,F_,F_,F_] rfl rfl (take_ofW HT_.out HW_.out (by kernel_rfl)) (fun _ _ _ h => h) (Or.inl ⟨by rfl, ?_⟩) hHeld ?_ ?_
  rotate_left
  ·
   rintro w' ⟨s0, s1, s2, s3⟩
   go_simp
   with_reducible rfl
  rotate_left
  ·
   exact zp_
  refine join_ (σ := Value × Value) 12 #[T_,T_,T_,T_,F_,F_,F_,F_,F_,F_,F_,F_,F_,F_,F_,F_] (fun s_ => [(15, s_.1), (17, s_.2)]) (fun s_ w' => (w'.cell? ⟨gb755, 0, none⟩ = some (.int .u64 1) ∧ w'.cell? ⟨gb755, 1, none⟩ = some (.int .i64 0) ∧ w'.cell? ⟨gb755, 2, none⟩ = some (.int .u64 1) ∧ w'.cell? ⟨gb755, 3, none⟩ = some (.int .i64 0)) ∧ (Kd.N k87 87 w' w.heap.size (fun k_ => some k_ ≠ (s_.1 : Value).ownBlock ∧ some k_ ≠ (s_.2 : Value).ownBlock ∧ k_ ≠ gb755) (.slice Ao47 y759.length co47) y759) ∧ (Kd.R k27 27 w' w.heap.size (fun k_ => some k_ ≠ (s_.2 : Value).ownBlock ∧ k_ ≠ gb755) s_.1 t762) ∧ (Kd.R k27 27 w' w.heap.size (fun k_ => some k_ ≠ (s_.1 : Value).ownBlock ∧ k_ ≠ gb755) s_.2 y765) ∧ (w'.heap[gb755]? = some (.cells #[.int .u64 1, .int .i64 0, .int .u64 1, .int .i64 0] 27 (0, 0))) ∧ (Below w.heap.size w w')) ?_ ?_
  rotate_left
  ·
   intro hCont
   refine two_ (i := 1) (j := 3) (Ni := some 15) (Nj := some 17) #[T_,T_,T_,F_,F_,F_,F_,F_,F_,F_,F_,F_,F_,F_,F_,F_] #[T_,F_,T_,T_,F_,F_,F_,F_,F_,F_,F_,F_,F_,F_,F_,F_] rfl rfl rfl rfl (two_of HT_.out (by kernel_rfl)) (by decide) (by decide) (fun K hK => ?_) (fun K hK => ?_)
   ·
    skip
    refine goes_ Try.func62 (by kernel_rfl) rfl #[.slice Ao47 y759.length co47] (by rfl) rfl rfl za_ ?_
    with_reducible refine (exchange_Short.calls k _ _ y759 t762 _ ?side1 ?side2 A1.out).mono ?_
    (case side1 => exact zd_ (Kd.N_reads' HO761.out).2.2)
    (case side2 => exact (Kd.N_reads' HO761.out).2.1)
    rintro e w49 ⟨v763, rfl, ho0, hb⟩
    refine ⟨_, rfl, ?_⟩
    have n0_ := Aside0.mk (Kd.N_elder' (zn_ HO761) (Kd.R_base ho0) hb)
    have n1_ := Aside0.mk (Kd.R_lower (Kd.R_newB ho0 (g := gb755) (o := .cells #[.int .u64 1, .int .i64 0, .int .u64 1, .int .i64 0] 27 (0, 0)) (by (with_reducible repeat (first | refine blk_drewN ?_ _ | refine blk_drew ?_ | refine blk_alloc ?_ _)); exact BK755.out)) (below_size zb_))
    have n2_ := zk_ BK755 hb
    have n3_ := Aside0.mk (below_step zb_ hb)
    clear HO761
    clear BK755
    clear HB
    have HO761 := n0_
    have HO764 := n1_
    have BK755 := n2_
    have HB := n3_
    clear n0_ n1_ n2_ n3_
    (try clear hb)
    (try clear hb2)
    (try clear hk)
    (try clear hi)
    (try clear ho0)
    refine hK.out _ _ ⟨(blk_cell BK755.out 0).trans rfl, (blk_cell BK755.out 1).trans rfl, (blk_cell BK755.out 2).trans rfl, (blk_cell BK755.out 3).trans rfl⟩ (fun hHeld => ?_)
    clear hK K
    refine norm_ (a' := ?_) ?_ ?_
    rotate_left
    ·
     show Act.put _ (some 15) _ = _
     simp only [Act.put, List.setIfInBounds_toArray, List.set_cons_zero, List.set_cons_succ, i64_w, i32_w]
     rfl
    refine one_ (i := 3) (N := some 17) #[T_,T_,T_,T_,F_,F_,F_,F_,F_,F_,F_,F_,F_,F_,F_,F_] rfl rfl (one_of HT_.out (by kernel_rfl)) (by decide) (fun K hK => ?_)
    refine Kd.R_lit_step k27 _ 27 ?hg (N := 17) ?hd (xs := ([(⟨(⟨1, 0⟩ : S25), 1, 0⟩ : S27)] : List (S27))) (inner := [.int .u64 1, .int .i64 0, .int .u64 1, .int .i64 0]) (ok := fun _ => True) (okp := fun _ => True) ?hr ?hp (fun _ hk => hk) trivial (Below.refl _ _) (Nat.le_refl _) (by simp) ?_; (case hd => rfl); (case hg => rfl); (case hr => first | (go_simp; done) | (go_simp; rfl)); (case hp => exact (Reps.c4 (show Kd.M k27 _ _ _ (⟨(⟨1, 0⟩ : S25), 1, 0⟩ : S27) [.int .u64 1, .int .i64 0, .int .u64 1, .int .i64 0] from (k27_mkM _ _ _ (⟨(⟨1, 0⟩ : S25), 1, 0⟩ : S27) )) (Reps.none _ _)))
    intro v766 w50 ho51 hb hg_ hnew_
    clear hg_ hnew_
    (first | rw [← Ny765.out] at ho51 | (simp only [Int.reduceToNat] at ho51; rw [← Ny765.out] at ho51))
    have n0_ := Aside0.mk (Kd.N_elder' (zn_ HO761) (Kd.R_base ho51) hb)
    have n1_ := Aside0.mk (Kd.R_elder' (zr_ HO764) (Kd.R_base ho51) hb)
    have n2_ := Aside0.mk (Kd.R_lower (Kd.R_newB (Kd.R_new' ho51 (Kd.R_lt (zr_ HO764))) (g := gb755) (o := .cells #[.int .u64 1, .int .i64 0, .int .u64 1, .int .i64 0] 27 (0, 0)) (by (with_reducible repeat (first | refine blk_drewN ?_ _ | refine blk_drew ?_ | refine blk_alloc ?_ _)); exact BK755.out)) (below_size zb_))
    have n3_ := zk_ BK755 hb
    have n4_ := Aside0.mk (below_step zb_ hb)
    clear HO761
    clear HO764
    clear BK755
    clear HB
    have HO761 := n0_
    have HO764 := n1_
    have HO767 := n2_
    have BK755 := n3_
    have HB := n4_
    clear n0_ n1_ n2_ n3_ n4_
    clear hb ho51
    refine hK.out _ _ ⟨(blk_cell BK755.out 0).trans rfl, (blk_cell BK755.out 1).trans rfl, (blk_cell BK755.out 2).trans rfl, (blk_cell BK755.out 3).trans rfl⟩ (fun hHeld => ?_)
    clear hK K
    refine norm_ (a' := ?_) ?_ ?_
    rotate_left
    ·
     show Act.put _ (some 17) _ = _
     simp only [Act.put, List.setIfInBounds_toArray, List.set_cons_zero, List.set_cons_succ, i64_w, i32_w]
     rfl
    exact norm_ (by simp only [putAll, Act.put, List.setIfInBounds_toArray, List.set_cons_zero, List.set_cons_succ]) (hCont (v763, v766) _ ⟨hHeld, (by (with_reducible repeat (first | apply Kd.N_alloc | apply Kd.N_drewN | apply Kd.N_drew)); exact Kd.N_mono HO761.out (fun _ hk => ⟨hk.1.2, ⟨hk.2, hk.1.1⟩⟩)), (by (with_reducible repeat (first | apply Kd.R_alloc | apply Kd.R_drewN | apply Kd.R_drew)); exact Kd.R_mono HO764.out (fun _ hk => ⟨hk.2, hk.1.2⟩)), (by (with_reducible repeat (first | apply Kd.R_alloc | apply Kd.R_drewN | apply Kd.R_drew)); exact Kd.R_mono HO767.out (fun _ hk => ⟨hk.1.2, hk.2⟩)), (by (with_reducible repeat (first | refine blk_drewN ?_ _ | refine blk_drew ?_ | refine blk_alloc ?_ _)); exact BK755.out), zb_⟩)
   ·
    skip
    refine Kd.R_lit_step k27 _ 27 ?hg (N := 17) ?hd (xs := ([(⟨(⟨1, 0⟩ : S25), 1, 0⟩ : S27)] : List (S27))) (inner := [.int .u64 1, .int .i64 0, .int .u64 1, .int .i64 0]) (ok := fun _ => True) (okp := fun _ => True) ?hr ?hp (fun _ hk => hk) trivial (Below.refl _ _) (Nat.le_refl _) (by simp) ?_; (case hd => rfl); (case hg => rfl); (case hr => first | (go_simp; done) | (go_simp; rfl)); (case hp => exact (Reps.c4 (show Kd.M k27 _ _ _ (⟨(⟨1, 0⟩ : S25), 1, 0⟩ : S27) [.int .u64 1, .int .i64 0, .int .u64 1, .int .i64 0] from (k27_mkM _ _ _ (⟨(⟨1, 0⟩ : S25), 1, 0⟩ : S27) )) (Reps.none _ _)))
    intro v766 w49 ho50 hb hg_ hnew_
    clear hg_ hnew_
    (first | rw [← Ny765.out] at ho50 | (simp only [Int.reduceToNat] at ho50; rw [← Ny765.out] at ho50))
    have n0_ := Aside0.mk (Kd.N_elder' (zn_ HO761) (Kd.R_base ho50) hb)
    have n1_ := Aside0.mk (Kd.R_lower (Kd.R_newB ho50 (g := gb755) (o := .cells #[.int .u64 1, .int .i64 0, .int .u64 1, .int .i64 0] 27 (0, 0)) (by (with_reducible repeat (first | refine blk_drewN ?_ _ | refine blk_drew ?_ | refine blk_alloc ?_ _)); exact BK755.out)) (below_size zb_))
    have n2_ := zk_ BK755 hb
    have n3_ := Aside0.mk (below_step zb_ hb)
    clear HO761
    clear BK755
    clear HB
    have HO761 := n0_
    have HO767 := n1_
    have BK755 := n2_
    have HB := n3_
    clear n0_ n1_ n2_ n3_
    clear hb ho50
    refine hK.out _ _ ⟨(blk_cell BK755.out 0).trans rfl, (blk_cell BK755.out 1).trans rfl, (blk_cell BK755.out 2).trans rfl, (blk_cell BK755.out 3).trans rfl⟩ (fun hHeld => ?_)
    clear hK K
    refine norm_ (a' := ?_) ?_ ?_
    rotate_left
    ·
     show Act.put _ (some 17) _ = _
     simp only [Act.put, List.setIfInBounds_toArray, List.set_cons_zero, List.set_cons_succ, i64_w, i32_w]
     rfl
    refine one_ (i := 1) (N := some 15) #[T_,T_,T_,T_,F_,F_,F_,F_,F_,F_,F_,F_,F_,F_,F_,F_] rfl rfl (one_of HT_.out (by kernel_rfl)) (by decide) (fun K hK => ?_)
    refine goes_ Try.func62 (by kernel_rfl) rfl #[.slice Ao47 y759.length co47] (by rfl) rfl rfl za_ ?_
    with_reducible refine (exchange_Short.calls k _ _ y759 t762 _ ?side1 ?side2 A1.out).mono ?_
    (case side1 => exact zd_ (Kd.N_reads' HO761.out).2.2)
    (case side2 => exact (Kd.N_reads' HO761.out).2.1)
    rintro e w51 ⟨v763, rfl, ho0, hb⟩
    refine ⟨_, rfl, ?_⟩
    have n0_ := Aside0.mk (Kd.N_elder' (zn_ HO761) (Kd.R_base ho0) hb)
    have n1_ := Aside0.mk (Kd.R_elder' (zr_ HO767) (Kd.R_base ho0) hb)
    have n2_ := Aside0.mk (Kd.R_lower (Kd.R_newB (Kd.R_new' ho0 (Kd.R_lt (zr_ HO767))) (g := gb755) (o := .cells #[.int .u64 1, .int .i64 0, .int .u64 1, .int .i64 0] 27 (0, 0)) (by (with_reducible repeat (first | refine blk_drewN ?_ _ | refine blk_drew ?_ | refine blk_alloc ?_ _)); exact BK755.out)) (below_size zb_))
    have n3_ := zk_ BK755 hb
    have n4_ := Aside0.mk (below_step zb_ hb)
    clear HO761
    clear HO767
    clear BK755
    clear HB
    have HO761 := n0_
    have HO767 := n1_
    have HO764 := n2_
    have BK755 := n3_
    have HB := n4_
    clear n0_ n1_ n2_ n3_ n4_
    (try clear hb)
    (try clear hb2)
    (try clear hk)
    (try clear hi)
    (try clear ho0)
    refine hK.out _ _ ⟨(blk_cell BK755.out 0).trans rfl, (blk_cell BK755.out 1).trans rfl, (blk_cell BK755.out 2).trans rfl, (blk_cell BK755.out 3).trans rfl⟩ (fun hHeld => ?_)
    clear hK K
    refine norm_ (a' := ?_) ?_ ?_
    rotate_left
    ·
     show Act.put _ (some 15) _ = _
     simp only [Act.put, List.setIfInBounds_toArray, List.set_cons_zero, List.set_cons_succ, i64_w, i32_w]
     rfl
    exact norm_ (by simp only [putAll, Act.put, List.setIfInBounds_toArray, List.set_cons_zero, List.set_cons_succ]) (hCont (v763, v766) _ ⟨hHeld, (by (with_reducible repeat (first | apply Kd.N_alloc | apply Kd.N_drewN | apply Kd.N_drew)); exact Kd.N_mono HO761.out (fun _ hk => ⟨hk.2, ⟨hk.1.2, hk.1.1⟩⟩)), (by (with_reducible repeat (first | apply Kd.R_alloc | apply Kd.R_drewN | apply Kd.R_drew)); exact Kd.R_mono HO764.out (fun _ hk => ⟨hk.1.2, hk.2⟩)), (by (with_reducible repeat (first | apply Kd.R_alloc | apply Kd.R_drewN | apply Kd.R_drew)); exact Kd.R_mono HO767.out (fun _ hk => ⟨hk.2, hk.1.2⟩)), (by (with_reducible repeat (first | refine blk_drewN ?_ _ | refine blk_drew ?_ | refine blk_alloc ?_ _)); exact BK755.out), zb_⟩)
  rintro ⟨v763, v766⟩ w52 ⟨hS_, h0_, h1_, h2_, h3_, h4_⟩
  have n0_ : Aside0 (Kd.N k87 87 w52 w.heap.size (fun k_ => some k_ ≠ (v763 : Value).ownBlock ∧ some k_ ≠ (v766 : Value).ownBlock ∧ k_ ≠ gb755) (.slice Ao47 y759.length co47) y759) := ⟨h0_⟩
  have n1_ : Aside0 (Kd.R k27 27 w52 w.heap.size (fun k_ => some k_ ≠ (v766 : Value).ownBlock ∧ k_ ≠ gb755) v763 t762) := ⟨h1_⟩
  have n2_ : Aside0 (Kd.R k27 27 w52 w.heap.size (fun k_ => some k_ ≠ (v763 : Value).ownBlock ∧ k_ ≠ gb755) v766 y765) := ⟨h2_⟩
  have n3_ : Aside0 (w52.heap[gb755]? = some (.cells #[.int .u64 1, .int .i64 0, .int .u64 1, .int .i64 0] 27 (0, 0))) := ⟨h3_⟩
  have n4_ : Aside0 (Below w.heap.size w w52) := ⟨h4_⟩
  clear HO761
  clear BK755
  clear HB
  clear h0_ h1_ h2_ h3_ h4_
  have HO761 := n0_
  have HO764 := n1_
  have HO767 := n2_
  have BK755 := n3_
  have HB := n4_
  clear n0_ n1_ n2_ n3_ n4_
  have hHeld : w52.cell? ⟨gb755, 0, none⟩ = some (.int .u64 1) ∧ w52.cell? ⟨gb755, 1, none⟩ = some (.int .i64 0) ∧ w52.cell? ⟨gb755, 2, none⟩ = some (.int .u64 1) ∧ w52.cell? ⟨gb755, 3, none⟩ = some (.int .i64 0) := hS_
  obtain ⟨Ao53, co53, eo53⟩ := Kd.R_slice HO764.out
  (first | subst eo53 | (injection eo53 with f1_ f2_ f3_; have f4_ := f1_.symm; have f5_ := f3_.symm; clear f1_ f2_ f3_; subst f4_; subst f5_))
  obtain ⟨Ao54, co54, eo54⟩ := Kd.R_slice HO767.out
  (first | subst eo54 | (injection eo54 with f1_ f2_ f3_; have f4_ := f1_.symm; have f5_ := f3_.symm; clear f1_ f2_ f3_; subst f4_; subst f5_))
  refine norm_ (a' := ?_) ?_ ?_
  rotate_left
  ·
   simp only [putAll, Act.put, List.setIfInBounds_toArray, List.set_cons_zero, List.set_cons_succ]
   rfl
  refine one_ (i := 4) (N := some 18) #[T_,T_,T_,T_,T_,F_,F_,F_,F_,F_,F_,F_,F_,F_,F_,F_] rfl rfl (one_of HT_.out (by kernel_rfl)) (by decide) (fun K hK => ?_)
  refine goes_ Try.func30 (by kernel_rfl) rfl #[.slice Ao53 t762.length co53, .slice Ao54 y765.length co54] (by rfl) rfl rfl za_ ?_
  with_reducible refine (folkmootref05_Same.calls k _ _ t762 _ _ y765 false _ ?side1 ?side2 ?side3 ?side4 A2.out).mono ?_
  (case side1 => exact zd_ (Kd.R_reads' HO764.out).2.2)
  (case side2 => exact (Kd.R_reads' HO764.out).2.1)
  (case side3 => exact zd_ (Kd.R_reads' HO767.out).2.2)
  (case side4 => exact (Kd.R_reads' HO767.out).2.1)
  rintro e w' ⟨rfl, ⟨nd, rfl⟩⟩
  refine ⟨_, rfl, ?_⟩
  refine hK.out _ _ ⟨(blk_cell BK755.out 0).trans rfl, (blk_cell BK755.out 1).trans rfl, (blk_cell BK755.out 2).trans rfl, (blk_cell BK755.out 3).trans rfl⟩ (fun hHeld => ?_)
  clear hK K
  refine norm_ (a' := ?_) ?_ ?_
  rotate_left
  ·
   show Act.put _ (some 18) _ = _
   simp only [Act.put, List.setIfInBounds_toArray, List.set_cons_zero, List.set_cons_succ, i64_w, i32_w]
   rfl
  refine pure_ (i := 5) (N := some 19) (v := ?_) (a' := ?_) #[T_,T_,T_,T_,T_,T_,F_,F_,F_,F_,F_,F_,F_,F_,F_,F_] rfl rfl (any_of HT_.out (by kernel_rfl)) (fun _ _ _ h => h) (Or.inl ⟨by rfl, ?_⟩) ?_ ?_
  rotate_left
  ·
   intro w'; go_simp; with_reducible rfl
  rotate_left
  ·
   exact zp_
  refine pure_ (i := 6) (N := some 20) (v := undef) (a' := ?_) #[T_,T_,T_,T_,T_,T_,T_,F_,F_,F_,F_,F_,F_,F_,F_,F_] rfl rfl (any_of HT_.out (by kernel_rfl)) (fun _ _ _ h => h) (Or.inr ⟨by rfl, rfl⟩) ?_ ?_
  rotate_left
  ·
   exact zp_
  refine pure_ (i := 7) (N := some 21) (v := undef) (a' := ?_) #[T_,T_,T_,T_,T_,T_,T_,T_,F_,F_,F_,F_,F_,F_,F_,F_] rfl rfl (any_of HT_.out (by kernel_rfl)) (fun _ _ _ h => h) (Or.inr ⟨by rfl, rfl⟩) ?_ ?_
  rotate_left
  ·
   exact zp_
  refine pure_ (i := 8) (N := some 22) (v := undef) (a' := ?_) #[T_,T_,T_,T_,T_,T_,T_,T_,T_,F_,F_,F_,F_,F_,F_,F_] rfl rfl (any_of HT_.out (by kernel_rfl)) (fun _ _ _ h => h) (Or.inr ⟨by rfl, rfl⟩) ?_ ?_
  rotate_left
  ·
   exact zp_
  refine pure_ (i := 9) (N := some 23) (v := ?_) (a' := ?_) #[T_,T_,T_,T_,T_,T_,T_,T_,T_,T_,F_,F_,F_,F_,F_,F_] rfl rfl (any_of HT_.out (by kernel_rfl)) (fun _ _ _ h => h) (Or.inl ⟨by rfl, ?_⟩) ?_ ?_
  rotate_left
  ·
   intro w'; go_simp; with_reducible rfl
  rotate_left
  ·
   exact zp_
  refine pure_ (i := 10) (N := some 24) (v := ?_) (a' := ?_) #[T_,T_,T_,T_,T_,T_,T_,T_,T_,T_,T_,F_,F_,F_,F_,F_] rfl rfl (any_of HT_.out (by kernel_rfl)) (fun _ _ _ h => h) (Or.inl ⟨by rfl, ?_⟩) ?_ ?_
  rotate_left
  ·
   intro w'; go_simp; with_reducible rfl
  rotate_left
  ·
   exact zp_
  refine pure_ (i := 11) (N := some 25) (v := undef) (a' := ?_) #[T_,T_,T_,T_,T_,T_,T_,T_,T_,T_,T_,T_,F_,F_,F_,F_] rfl rfl (any_of HT_.out (by kernel_rfl)) (fun _ _ _ h => h) (Or.inr ⟨by rfl, rfl⟩) ?_ ?_
  rotate_left
  ·
   exact zp_
  refine pure_ (i := 12) (N := some 26) (v := undef) (a' := ?_) #[T_,T_,T_,T_,T_,T_,T_,T_,T_,T_,T_,T_,T_,F_,F_,F_] rfl rfl (any_of HT_.out (by kernel_rfl)) (fun _ _ _ h => h) (Or.inr ⟨by rfl, rfl⟩) ?_ ?_
  rotate_left
  ·
   exact zp_
  refine pure_ (i := 13) (N := some 27) (v := undef) (a' := ?_) #[T_,T_,T_,T_,T_,T_,T_,T_,T_,T_,T_,T_,T_,T_,F_,F_] rfl rfl (any_of HT_.out (by kernel_rfl)) (fun _ _ _ h => h) (Or.inr ⟨by rfl, rfl⟩) ?_ ?_
  rotate_left
  ·
   exact zp_
  refine pure_ (i := 14) (N := some 28) (v := ?_) (a' := ?_) #[T_,T_,T_,T_,T_,T_,T_,T_,T_,T_,T_,T_,T_,T_,T_,F_] rfl rfl (any_of HT_.out (by kernel_rfl)) (fun _ _ _ h => h) (Or.inl ⟨by rfl, ?_⟩) ?_ ?_
  rotate_left
  ·
   intro w'; go_simp; with_reducible rfl
  rotate_left
  ·
   exact zp_
  refine pure_ (i := 15) (N := some 0) (v := ?_) (a' := ?_) #[T_,T_,T_,T_,T_,T_,T_,T_,T_,T_,T_,T_,T_,T_,T_,T_] rfl rfl (any_of HT_.out (by kernel_rfl)) (fun _ _ _ h => h) (Or.inl ⟨by rfl, ?_⟩) ?_ ?_
  rotate_left
  ·
   intro w'; go_simp; with_reducible rfl
  rotate_left
  ·
   exact zp_
  refine done_ (done_of HT_.out (by kernel_rfl)) ?_
  (try clear hHeld); (try clear HS0_)
  try go_wp2
  go_ret
  exact ⟨by first | rfl | (simp [errW_none, errW_some] <;> rfl) | (simp [*, errW_none, errW_some] <;> rfl), by repeat (first | (with_reducible first | exact HB.out | apply below_alloc | apply pw_below_drewN | apply below_drew1 | refine below_set ?_ GE755.out) | exact HB.out)⟩
end Go.Proofs.Ytioooiflpabngaa.PAll
end
section
namespace Go.Proofs.Ytioooiflpabngaa.PAll
open Go.RowKit Go.Proofs.YtioooiflpabngaaW.PrintWords Go.Proofs.YtioooiflpabngaaW.PrintMore
set_option linter.unusedVariables false
set_option linter.unusedSimpArgs false
def sumM (s : S53) : S53 := ⟨mergeR [] s.f0, s.f1, s.f2, s.f3⟩
def tellK (l : List S53) (k : Nat) : S87 := ⟨(k : Int), sumM (l.getD k z53)⟩
def toldT (l : List S53) (a : Nat) : List S87 := (List.range' 0 l.length).map fun i => tellK l ((i + a) % l.length)
theorem told_loop (l : List S53) (a : Nat) (ha : a ≤ 255) (hn : l.length ≤ 16) (hc : ∀ s ∈ l, s.f0.length ≤ 150) : ∀ (d i : Nat) (A : List S87), d = l.length - i → i ≤ l.length → A.length = i →
    Ev (fun k => folkmootlaw16_told.l0 k l (a : Int) A (A.map (·.f0)) (A.map (·.f1)) (i : Int)) (A ++ (List.range' i d).map (fun i => tellK l ((i + a) % l.length)), (A ++ (List.range' i d).map (fun i => tellK l ((i + a) % l.length))).map (·.f0), (A ++ (List.range' i d).map (fun i => tellK l ((i + a) % l.length))).map (·.f1)) := by
  intro d
  induction d with
  | zero =>
    intro i A hd hi hA
    refine Ev.step (fun k => by rw [folkmootlaw16_told.l0, if_neg (by omega)]) (Ev.const fun _ => ?_)
    simp
  | succ d ih =>
    intro i A hd hi hA
    have hlt : i < l.length := by omega
    have e1 : wrap64 (a : Int) = (a : Int) := by unfold wrap64; omega
    have e2 : wrap64 ((i : Int) + (a : Int)) = ((i + a : Nat) : Int) := by unfold wrap64; omega
    have e3 : Int.tmod ((i + a : Nat) : Int) (l.length : Int) = (((i + a) % l.length : Nat) : Int) := by
      rw [Int.tmod_eq_emod_of_nonneg (by omega), Int.natCast_emod]
    have hm : (i + a) % l.length < l.length := Nat.mod_lt _ (by omega)
    have e4 : l.getD ((i + a) % l.length) z53 = l[(i + a) % l.length] := by
      rw [List.getD_eq_getElem?_getD, List.getElem?_eq_getElem hm]
      rfl
    have hcm := hc l[(i + a) % l.length] (List.getElem_mem _)
    have e5 : tellK l ((i + a) % l.length) = ⟨(((i + a) % l.length : Nat) : Int), ⟨mergeR [] l[(i + a) % l.length].f0, l[(i + a) % l.length].f1, l[(i + a) % l.length].f2, l[(i + a) % l.length].f3⟩⟩ := by
      unfold tellK sumM
      rw [e4]
    have hrec := ih (i + 1) (A ++ [tellK l ((i + a) % l.length)]) (by omega) (by omega) (by simp; omega)
    rw [List.range'_succ, List.map_cons, show A ++ tellK l ((i + a) % l.length) :: (List.range' (i + 1) d).map (fun i => tellK l ((i + a) % l.length)) = (A ++ [tellK l ((i + a) % l.length)]) ++ (List.range' (i + 1) d).map (fun i => tellK l ((i + a) % l.length)) by simp]
    refine Ev.step (b := fun k => (folkmootref15_Merge.f k [] l[(i + a) % l.length].f0).bind fun t => if A.length < 1759218604441 then (if (A.map (·.f0)).length < 17592186044416 then (if (A.map (·.f1)).length < 1954687338268 then folkmootlaw16_told.l0 k l (a : Int) (A ++ [⟨(((i + a) % l.length : Nat) : Int), ⟨t, l[(i + a) % l.length].f1, l[(i + a) % l.length].f2, l[(i + a) % l.length].f3⟩⟩]) ((A.map (·.f0)) ++ [(((i + a) % l.length : Nat) : Int)]) ((A.map (·.f1)) ++ [⟨t, l[(i + a) % l.length].f1, l[(i + a) % l.length].f2, l[(i + a) % l.length].f3⟩]) ((i + 1 : Nat) : Int) else none) else none) else none) (fun k => ?_) (Ev.bind (refMerge_ev [] l[(i + a) % l.length].f0 (by simp; omega)) ?_)
    · rw [folkmootlaw16_told.l0, if_pos (by omega), if_neg (by omega), e1, e2, e3, if_pos (by omega), if_pos (by omega), rdS_nat hm, wrap_nat (by omega)]
    · have c1 : A.length < 1759218604441 := by omega
      have c2 : (A.map (·.f0)).length < 17592186044416 := by rw [List.length_map]; omega
      have c3 : (A.map (·.f1)).length < 1954687338268 := by rw [List.length_map]; omega
      simp only [c1, c2, c3, if_true]
      rw [List.map_append, List.map_append, e5] at hrec
      rw [e5]
      exact hrec
theorem told_ev (l : List S53) (a : Nat) (ha : a ≤ 255) (hn : l.length ≤ 16) (hc : ∀ s ∈ l, s.f0.length ≤ 150) : Ev (fun k => folkmootlaw16_told.f k l (a : Int)) (toldT l a, (toldT l a).map (·.f0), (toldT l a).map (·.f1)) := by
  have := told_loop l a ha hn hc l.length 0 [] (by omega) (by omega) rfl
  simpa [folkmootlaw16_told.f, toldT] using this
def total (l : List S53) : Nat := (l.map fun s => s.f0.length + s.f1.length).sum
def fewStep (x : Int) (s : S53) : Int := wrap64 (x + wrap64 ((s.f0.length : Int) + (s.f1.length : Int)))
theorem few_loop (l : List S53) (hl : l.length < 9223372036854775807) : ∀ (d i : Nat) (x : Int), d = l.length - i → i ≤ l.length → Ev (fun k => folkmootlaw16_few.l0 k l x (i : Int)) (if l.length ≤ 16 then decide ((l.drop i).foldl fewStep x ≤ 150) else false) := by
  intro d
  induction d with
  | zero =>
    intro i x hd hi
    have : i = l.length := by omega
    subst this
    refine Ev.step (fun k => by rw [folkmootlaw16_few.l0, if_neg (by omega)]) (Ev.const fun _ => ?_)
    rw [List.drop_length]
    by_cases hc : l.length ≤ 16
    · rw [if_pos hc, if_pos (by omega)]
      rfl
    · rw [if_neg hc, if_neg (by omega)]
  | succ d ih =>
    intro i x hd hi
    have hlt : i < l.length := by omega
    rw [List.drop_eq_getElem_cons hlt, List.foldl_cons]
    refine Ev.step (b := fun k => folkmootlaw16_few.l0 k l (fewStep x l[i]) ((i + 1 : Nat) : Int)) (fun k => ?_) (ih (i + 1) (fewStep x l[i]) (by omega) (by omega))
    rw [folkmootlaw16_few.l0, if_pos (by omega), if_pos (by omega), rdS_nat hlt, wrap_nat (by omega)]
    rfl
theorem few_fold : ∀ (l : List S53) (x : Nat), (∀ s ∈ l, s.f0.length + s.f1.length ≤ 8796093022208) → x + l.length * 8796093022208 < 4611686018427387904 → l.foldl fewStep (x : Int) = ((x + total l : Nat) : Int)
  | [], x, _, _ => by simp [total]
  | s :: l, x, hs, hx => by
    have h1 := hs s (List.mem_cons_self ..)
    simp only [List.length_cons] at hx
    have e : fewStep (x : Int) s = ((x + (s.f0.length + s.f1.length) : Nat) : Int) := by
      unfold fewStep
      have e1 : wrap64 ((s.f0.length : Int) + (s.f1.length : Int)) = ((s.f0.length + s.f1.length : Nat) : Int) := by unfold wrap64; omega
      rw [e1]
      unfold wrap64
      omega
    rw [List.foldl_cons, e, few_fold l _ (fun t ht => hs t (List.mem_cons_of_mem _ ht)) (by omega)]
    simp only [total, List.map_cons, List.sum_cons]
    congr 1
    omega
theorem rightS_size {s : S53} (h : rightS s) : s.f0.length + s.f1.length ≤ 8796093022208 := by
  have h1 := rightEs_len h.1
  have h2 := rightLs_len h.2.1
  omega
theorem few_ev (l : List S53) (hlen : l.length < 1954687338269) (h : ∀ x ∈ l, rightS x) : ∃ b, Ev (fun k => folkmootlaw16_few.f k l) b ∧ (b = true → l.length ≤ 16 ∧ total l ≤ 150) := by
  refine ⟨_, by simpa [folkmootlaw16_few.f] using few_loop l (by omega) l.length 0 0 (by omega) (by omega), ?_⟩
  intro hb
  simp only [Bool.and_eq_true, decide_eq_true_eq] at hb
  have := few_fold l 0 (fun s hs => rightS_size (h s hs)) (by omega)
  have e0 : ((0 : Nat) : Int) = 0 := rfl
  rw [e0] at this
  rw [this] at hb
  exact ⟨hb.1, by omega⟩
theorem total_mem : ∀ {l : List S53} {s : S53}, s ∈ l → s.f0.length + s.f1.length ≤ total l
  | x :: l, s, h => by
    simp only [total, List.map_cons, List.sum_cons]
    rcases List.mem_cons.1 h with rfl | h
    · omega
    · have := total_mem h
      simp only [total] at this
      omega
theorem awake16_ev : Ev (fun k => folkmootlaw16_awake.f k) true := Ev.of_mono (fun k => folkmootlaw16_awake.mono k) (K := 12) (by kernel_rfl)
theorem toldT_length (l : List S53) (a : Nat) : (toldT l a).length = l.length := by simp [toldT]
theorem mem_toldT {l : List S53} {a : Nat} {t : S87} : t ∈ toldT l a ↔ ∃ k, k < l.length ∧ t = tellK l k := by
  unfold toldT
  simp only [List.mem_map, List.mem_range'_1, Nat.zero_le, true_and, Nat.zero_add]
  constructor
  · rintro ⟨i, hi, rfl⟩
    exact ⟨_, Nat.mod_lt _ (by omega), rfl⟩
  · rintro ⟨k, hk, rfl⟩
    refine ⟨(k + (l.length - a % l.length)) % l.length, Nat.mod_lt _ (by omega), ?_⟩
    have h1 := Nat.mod_lt a (show l.length > 0 by omega)
    rw [← Nat.add_mod_mod, Nat.mod_add_mod, show k + (l.length - a % l.length) + a % l.length = k + l.length by omega, Nat.add_mod_right, Nat.mod_eq_of_lt hk]
structure Fine (T : List S87) : Prop where
  len : T.length ≤ 17
  node : ∀ t ∈ T, 0 ≤ t.f0
  uniq : ∀ t ∈ T, ∀ u ∈ T, t.f0 = u.f0 → t = u
  con : ∀ t ∈ T, t.f1.f0.length ≤ 150
  ord : ∀ t ∈ T, t.f1.f1.length ≤ 150
  bytes : ∀ t ∈ T, ∀ x ∈ t.f1.f0, x.f1.length < 140737488355328
theorem sizeC_le : ∀ {l : List (List S32)} {b : Nat}, (∀ x ∈ l, x.length ≤ b) → sizeC l ≤ l.length * b
  | [], b, _ => by simp [sizeC]
  | x :: l, b, h => by
    have h1 := h x (List.mem_cons_self ..)
    have h2 := sizeC_le (l := l) (b := b) fun y hy => h y (List.mem_cons_of_mem _ hy)
    simp only [sizeC, List.map_cons, List.sum_cons, List.length_cons] at h2 ⊢
    rw [Nat.add_mul]
    omega
theorem Fine.size {T : List S87} (h : Fine T) : sizeC (T.map fun t => t.f1.f0) ≤ 1000000 := by
  have h1 := sizeC_le (l := T.map fun t => t.f1.f0) (b := 150) fun x hx => by
    obtain ⟨t, ht, rfl⟩ := List.mem_map.1 hx
    exact h.con t ht
  rw [List.length_map] at h1
  have h2 := h.len
  have : T.length * 150 ≤ 17 * 150 := Nat.mul_le_mul_right _ h2
  omega
theorem told_fine {l : List S53} {a : Nat} (h : ∀ x ∈ l, rightS x) (hn : l.length ≤ 16) (ht : total l ≤ 150) : Fine (toldT l a) := by
  have hs : ∀ t ∈ toldT l a, ∃ k, ∃ hk : k < l.length, t = ⟨(k : Int), sumM l[k]⟩ := fun t h => by
    obtain ⟨k, hk, rfl⟩ := mem_toldT.1 h
    refine ⟨k, hk, ?_⟩
    unfold tellK
    rw [List.getD_eq_getElem?_getD, List.getElem?_eq_getElem hk]
    rfl
  refine ⟨by rw [toldT_length]; omega, fun t ht => ?_, fun t ht u hu e => ?_, fun t ht2 => ?_, fun t ht2 => ?_, fun t ht2 x hx => ?_⟩
  · obtain ⟨k, hk, rfl⟩ := hs t ht
    exact Int.natCast_nonneg _
  · obtain ⟨k, hk, rfl⟩ := hs t ht
    obtain ⟨j, hj, rfl⟩ := hs u hu
    have : k = j := by
      have e2 : (k : Int) = (j : Int) := e
      omega
    subst this
    rfl
  · obtain ⟨k, hk, rfl⟩ := hs t ht2
    have h1 := total_mem (List.getElem_mem hk)
    have h2 := mergeR_length l[k].f0 []
    simp only [sumM, List.length_nil] at h2 ⊢
    omega
  · obtain ⟨k, hk, rfl⟩ := hs t ht2
    have h1 := total_mem (List.getElem_mem hk)
    simp only [sumM]
    omega
  · obtain ⟨k, hk, rfl⟩ := hs t ht2
    simp only [sumM] at hx
    rcases mem_mergeR hx with hx | hx
    · cases hx
    · exact rightB_len ((h _ (List.getElem_mem hk)).1.2 x hx).2
theorem con_few {l : List S53} (ht : total l ≤ 150) : ∀ s ∈ l, s.f0.length ≤ 150 := fun s hs => by have := total_mem hs; omega
theorem Fine.lt {T : List S87} (h : Fine T) : T.length < 9223372036854775807 := by have := h.len; omega
theorem Fine.ord1 {T : List S87} (h : Fine T) : ∀ t ∈ T, t.f1.f1.length ≤ 1000000 := fun t ht => by have := h.ord t ht; omega
theorem Fine.short {T : List S87} (h : Fine T) : Ev (fun k => exchange_Short.f k T) (shortT T) := short_ev T h.lt fun t ht => by have := h.ord t ht; omega
theorem Fine.full {T : List S87} (h : Fine T) : Ev (fun k => exchange_Full.f k T) (fullT T) := full_ev T h.lt h.ord1 h.bytes h.size
theorem Fine.shortLen {T : List S87} (h : Fine T) : (shortT T).length ≤ 1000000 := shortT_length T 1000000 h.ord1
theorem Fine.knownLen {T : List S87} (h : Fine T) : (knownC (T.map fun t => t.f1.f0)).length ≤ 1000000 := Nat.le_trans (knownC_length _) h.size
theorem Fine.fullLen {T : List S87} (h : Fine T) : (fullT T).length ≤ 2000000 := by
  have h1 := h.shortLen
  have h2 := h.knownLen
  have h3 := List.length_filter_le (fun x => !memL x (shortT T)) (sortL ((knownC (T.map fun t => t.f1.f0)).map (·.f0)))
  have h4 := sortL_length ((knownC (T.map fun t => t.f1.f0)).map (·.f0))
  rw [List.length_map] at h4
  simp only [fullT, behindL, List.length_append]
  omega
end Go.Proofs.Ytioooiflpabngaa.PAll
end
section
namespace Go.Proofs.Ytioooiflpabngaa.PAll
open Go.RowKit Go.Proofs.YtioooiflpabngaaW.PrintWords Go.Proofs.YtioooiflpabngaaW.PrintMore
set_option linter.unusedVariables false
set_option linter.unusedSimpArgs false
theorem mem_behind {S K : List S27} {x : S27} (h : x ∈ K) : x ∈ behindL S K := by
  unfold behindL
  cases hc : memL x S with
  | true => exact List.mem_append_left _ (memL_iff.1 hc)
  | false => exact List.mem_append_right _ (List.mem_filter.2 ⟨mem_sortL.2 h, by simp [hc]⟩)
end Go.Proofs.Ytioooiflpabngaa.PAll
end
section
namespace Go.Proofs.Ytioooiflpabngaa.PAll
open Go.RowKit Go.Proofs.YtioooiflpabngaaW.PrintWords
set_option linter.unusedVariables false
set_option linter.unusedSimpArgs false
theorem lab_putR {l : List S32} {x : S32} {b : S27} : (∃ e ∈ putR l x, e.f0 = b) ↔ (∃ e ∈ l, e.f0 = b) ∨ x.f0 = b := by
  unfold putR
  split
  · rename_i h
    constructor
    · exact .inl
    · rintro (h2 | rfl)
      · exact h2
      · obtain ⟨y, hy, h3, _⟩ := foundE_mem (m := (foundE l x.f0).1) (Prod.ext rfl h)
        exact ⟨y, hy, h3⟩
  · constructor
    · rintro ⟨e, he, rfl⟩
      rcases mem_aheadE.1 he with rfl | he
      · exact .inr rfl
      · exact .inl ⟨e, he, rfl⟩
    · rintro (⟨e, he, rfl⟩ | rfl)
      · exact ⟨e, mem_aheadE.2 (.inr he), rfl⟩
      · exact ⟨x, mem_aheadE.2 (.inl rfl), rfl⟩
theorem lab_mergeR {b : S27} : ∀ {more l : List S32}, (∃ e ∈ mergeR l more, e.f0 = b) ↔ (∃ e ∈ l, e.f0 = b) ∨ ∃ e ∈ more, e.f0 = b
  | [], l => by simp [mergeR]
  | x :: more, l => by
    have h := lab_mergeR (b := b) (more := more) (l := putR l x)
    show (∃ e ∈ mergeR (putR l x) more, e.f0 = b) ↔ _
    rw [h, lab_putR, or_assoc]
    simp only [List.mem_cons, exists_eq_or_imp]
end Go.Proofs.Ytioooiflpabngaa.PAll
end
section
namespace Go.Proofs.Ytioooiflpabngaa.PAll
open Go.RowKit Go.Proofs.YtioooiflpabngaaW.PrintWords Go.Proofs.YtioooiflpabngaaW.PrintMore
set_option linter.unusedVariables false
set_option linter.unusedSimpArgs false
def incT (t : S87) : S87 := ⟨t.f0 + 1, t.f1⟩
def incL (T : List S87) : List S87 := T.map incT
def lastT (m : S53) : S87 := ⟨0, sumM ⟨m.f0, m.f1, m.f2, ⟨0, 0⟩⟩⟩
def gt0 (x v : S25) : Prop := x.f0 > v.f0 ∨ (x.f0 = v.f0 ∧ x.f1 > v.f1)
theorem cmpV_pos (x v : S25) : cmpV x v > 0 ↔ gt0 x v := by
  unfold cmpV cmpI gt0
  split <;> (repeat' split) <;> omega
theorem hi_low (l : List S25) : ∀ v : S25, ¬ gt0 ⟨0, 0⟩ v → ¬ gt0 ⟨0, 0⟩ (l.foldl hiStep v) := by
  induction l with
  | nil => intro v h; exact h
  | cons x l ih =>
    intro v h
    rw [List.foldl_cons]
    refine ih _ ?_
    unfold hiStep
    split
    · rename_i hg
      rw [cmpV_pos] at hg
      unfold gt0 at h hg ⊢
      simp only at h ⊢
      omega
    · exact h
theorem hi_more (H : List S25) : hiV (H ++ [⟨0, 0⟩]) = hiV H := by
  unfold hiV
  rw [List.foldl_append, List.foldl_cons, List.foldl_nil]
  have := hi_low H ⟨0, 0⟩ (by unfold gt0; simp)
  rw [show ∀ v : S25, hiStep v ⟨0, 0⟩ = if cmpV ⟨0, 0⟩ v > 0 then ⟨0, 0⟩ else v from fun _ => rfl, if_neg (by rw [cmpV_pos]; exact this)]
theorem ch_mem (v : S25) : ∀ (l : List S87) (b : Int), l.foldl (chStep v) b = b ∨ ∃ t ∈ l, t.f0 = l.foldl (chStep v) b
  | [], b => .inl rfl
  | x :: l, b => by
    rw [List.foldl_cons]
    rcases ch_mem v l (chStep v b x) with h | ⟨t, ht, h⟩
    · rw [h]
      unfold chStep mx
      split
      · split
        · exact .inr ⟨x, List.mem_cons_self .., rfl⟩
        · exact .inl rfl
      · exact .inl rfl
    · exact .inr ⟨t, List.mem_cons_of_mem _ ht, h⟩
theorem chosen_more (T : List S87) (m : S53) (h : 0 ≤ chosenT T) : chosenT (T ++ [lastT m]) = chosenT T := by
  unfold chosenT at h ⊢
  rw [List.map_append, List.map_cons, List.map_nil, show (lastT m).f1.f3 = ⟨0, 0⟩ from rfl, hi_more, List.foldl_append, List.foldl_cons, List.foldl_nil]
  rw [show ∀ (v : S25) (b : Int), chStep v b (lastT m) = if eqV ⟨0, 0⟩ v = true then mx b 0 else b from fun _ _ => rfl]
  split
  · unfold mx; rw [if_neg (by omega)]
  · rfl
theorem high_more (T : List S87) (m : S53) : hiV ((T ++ [lastT m]).map fun t => t.f1.f3) = hiV (T.map fun t => t.f1.f3) := by
  rw [List.map_append, List.map_cons, List.map_nil, show (lastT m).f1.f3 = ⟨0, 0⟩ from rfl, hi_more]
theorem short_more (T : List S87) (m : S53) (h : 0 ≤ chosenT T) : shortT (T ++ [lastT m]) = shortT T := by
  unfold shortT
  rw [chosen_more T m h, List.find?_append]
  obtain ⟨t, ht, e⟩ : ∃ t ∈ T, t.f0 = chosenT T := by
    rcases ch_mem (hiV (T.map fun t => t.f1.f3)) T (-1) with e | ⟨t, ht, e⟩
    · have : chosenT T = -1 := e
      omega
    · exact ⟨t, ht, e⟩
  have hs : (T.find? (fun t => decide (t.f0 = chosenT T))).isSome = true := List.find?_isSome.2 ⟨t, ht, by simp [e]⟩
  obtain ⟨u, hu⟩ := Option.isSome_iff_exists.1 hs
  rw [hu]
  rfl
theorem inc_fine {T : List S87} (h : Fine T) : Fine (incL T) := by
  have g : ∀ t ∈ incL T, ∃ u ∈ T, t = incT u := fun t ht => by
    obtain ⟨u, hu, rfl⟩ := List.mem_map.1 ht
    exact ⟨u, hu, rfl⟩
  refine ⟨by unfold incL; rw [List.length_map]; exact h.len, fun t ht => ?_, fun t ht u hu e => ?_, fun t ht => ?_, fun t ht => ?_, fun t ht => ?_⟩
  · obtain ⟨a, ha, rfl⟩ := g t ht
    have := h.node a ha
    simp only [incT]; omega
  · obtain ⟨a, ha, rfl⟩ := g t ht
    obtain ⟨b, hb, rfl⟩ := g u hu
    have : a = b := h.uniq a ha b hb (by simp only [incT] at e; omega)
    rw [this]
  · obtain ⟨a, ha, rfl⟩ := g t ht; exact h.con a ha
  · obtain ⟨a, ha, rfl⟩ := g t ht; exact h.ord a ha
  · obtain ⟨a, ha, rfl⟩ := g t ht; exact h.bytes a ha
theorem inc_pos {T : List S87} (h : Fine T) : ∀ t ∈ incL T, 1 ≤ t.f0 := fun t ht => by
  obtain ⟨u, hu, rfl⟩ := List.mem_map.1 ht
  have := h.node u hu
  simp only [incT]; omega
theorem more_fine {T : List S87} {m : S53} (h : Fine T) (hp : ∀ t ∈ T, 1 ≤ t.f0) (hl : T.length ≤ 16) (h1 : rightS m) (h2 : m.f0.length ≤ 150) (h3 : m.f1.length ≤ 150) : Fine (T ++ [lastT m]) := by
  have g : ∀ t ∈ T ++ [lastT m], t ∈ T ∨ t = lastT m := fun t ht => by
    rcases List.mem_append.1 ht with h | h
    · exact .inl h
    · exact .inr (List.mem_singleton.1 h)
  refine ⟨by simp; omega, fun t ht => ?_, fun t ht u hu e => ?_, fun t ht => ?_, fun t ht => ?_, fun t ht x hx => ?_⟩
  · rcases g t ht with h' | rfl
    · exact h.node t h'
    · exact Int.le_refl _
  · rcases g t ht with a | rfl <;> rcases g u hu with b | rfl
    · exact h.uniq t a u b e
    · have := hp t a; simp only [lastT] at e; omega
    · have := hp u b; simp only [lastT] at e; omega
    · rfl
  · rcases g t ht with a | rfl
    · exact h.con t a
    · have := mergeR_length m.f0 []
      simp only [lastT, sumM, List.length_nil] at this ⊢
      omega
  · rcases g t ht with a | rfl
    · exact h.ord t a
    · exact h3
  · rcases g t ht with a | rfl
    · exact h.bytes t a x hx
    · simp only [lastT, sumM] at hx
      rcases mem_mergeR hx with hx | hx
      · cases hx
      · exact rightB_len (h1.1.2 x hx).2
theorem known_last (T : List S87) (m : S53) (e : S32) (he : e ∈ (lastT m).f1.f0) : memL e.f0 (fullT (T ++ [lastT m])) = true := by
  refine memL_iff.2 (mem_behind ?_)
  have hk : knownC ((T ++ [lastT m]).map fun t => t.f1.f0) = mergeR (knownC (T.map fun t => t.f1.f0)) (lastT m).f1.f0 := by
    unfold knownC
    rw [List.map_append, List.foldl_append]
    rfl
  rw [hk]
  obtain ⟨y, hy, e⟩ := (lab_mergeR (b := e.f0)).2 (.inr ⟨e, he, rfl⟩ : (∃ x ∈ knownC (T.map fun t => t.f1.f0), x.f0 = e.f0) ∨ ∃ x ∈ (lastT m).f1.f0, x.f0 = e.f0)
  exact List.mem_map.2 ⟨y, hy, e⟩
end Go.Proofs.Ytioooiflpabngaa.PAll
end
section
namespace Go.Proofs.Ytioooiflpabngaa.PAll
open Go.RowKit Go.Proofs.YtioooiflpabngaaW.PrintWords Go.Proofs.YtioooiflpabngaaW.PrintLast Go.Proofs.YtioooiflpabngaaW.PrintMore
set_option linter.unusedVariables false
set_option linter.unusedSimpArgs false
theorem cells5 {w : World} {g : Nat} {a b c d f : Value} {t : TypeId} (h : w.heap[g]? = some (.cells #[a, b, c, d, f] t (0, 0))) : w.cell? ⟨g, 0, none⟩ = some a ∧ w.cell? ⟨g, 1, none⟩ = some b ∧ w.cell? ⟨g, 2, none⟩ = some c ∧ w.cell? ⟨g, 3, none⟩ = some d ∧ w.cell? ⟨g, 4, none⟩ = some f := by
  simp [World.cell?, h]
theorem toldT_get {l : List S53} {k : Nat} (hk : k < l.length) : (toldT l 0)[k]? = some (tellK l k) := by
  unfold toldT
  rw [List.getElem?_map, List.getElem?_range' hk]
  simp [Nat.mod_eq_of_lt hk]
def midL (T : List S87) (k : Nat) : List S87 := (incL T).take k ++ T.drop k
theorem midL_get {T : List S87} {k : Nat} (hk : k < T.length) : (midL T k)[k]? = T[k]? := by
  unfold midL incL
  rw [List.getElem?_append_right (by simp; omega)]
  simp [show min k T.length = k by omega]
theorem midL_step {T : List S87} {k : Nat} {x : S87} (hk : k < T.length) (hx : T[k]? = some x) : (midL T k).set k (incT x) = midL T (k + 1) := by
  have hx2 : T[k] = x := by rw [List.getElem?_eq_getElem hk] at hx; exact Option.some.inj hx
  unfold midL incL
  rw [List.set_append_right _ _ (by simp; omega), List.take_succ_eq_append_getElem (by simpa using hk), List.drop_eq_getElem_cons hk, List.append_assoc]
  simp [show min k T.length = k by omega, hx2]
theorem midL_zero (T : List S87) : midL T 0 = T := by simp [midL]
theorem midL_all (T : List S87) : midL T T.length = incL T := by
  unfold midL
  rw [List.drop_length, List.append_nil, List.take_of_length_le (by simp [incL])]
set_option maxHeartbeats 8000000 in
set_option maxRecDepth 100000 in
theorem lawMore.calls (A0 : Option Addr) (c0 : Nat) (l : List S53) (A : Option Addr) (c : Nat) (B : Option Addr) (d : Nat) (m : S53) (w : World) (hr0 : Kd.C k53 w A0 l.length l) (hc0 : l.length ≤ c0)
    (hr1 : Kd.C k32 w A m.f0.length m.f0) (hc1 : m.f0.length ≤ c) (hr2 : Kd.C k27 w B m.f1.length m.f1) (hc2 : m.f1.length ≤ d) (hl : l.length < 1954687338268) (hx : ∀ x ∈ l, rightS x) (hm : rightS m) :
    Calls Try.prog 21 #[.slice A0 l.length c0, .agg #[.slice A m.f0.length c, .slice B m.f1.length d, .int .i64 m.f2, .int .u64 m.f3.f0, .int .i64 m.f3.f1]] w fun e w' => e = .returned (.bool true) ∧ Below w.heap.size w w' := by
  have hu87 := Try.underlying87
  have hu53 := Try.underlying53
  have HL := Aside0.mk hl
  have HX := Aside0.mk hx
  have HM := Aside0.mk hm
  have V0 := Aside0.mk (V_of_C (e := 53) hr0 hc0)
  have F1 := Aside0.mk (Kd.C_F k32_heap hr1)
  have F2 := Aside0.mk (Kd.C_F k27_heap hr2)
  have HC0 := Aside0.mk hc0
  have HC1 := Aside0.mk hc1
  have HC2 := Aside0.mk hc2
  have hm1 : m.f0.length ≤ 9223372036854775807 := hr1.2.1
  have hm2 : m.f1.length ≤ 9223372036854775807 := hr2.2.1
  have hm0 : l.length ≤ 9223372036854775807 := hr0.2.1
  obtain ⟨ka, hka⟩ := awake16_ev.get
  have HAW := Aside0.mk (fun W => folkmootlaw16_awake.calls ka true W hka)
  obtain ⟨fw, hfw, hfw2⟩ := few_ev ([m] ++ l) (by simp; omega) (fun x h => by rcases List.mem_append.1 h with h | h; (rw [List.mem_singleton.1 h]; exact hm); exact hx x h)
  obtain ⟨kf, hkf⟩ := hfw.get
  have HFW := Aside0.mk (fun W A' c' (hC : Kd.C k53 W A' ([m] ++ l).length ([m] ++ l)) (hc : ([m] ++ l).length ≤ c') => folkmootlaw16_few.calls kf A' c' ([m] ++ l) fw W hC hc hkf)
  have HF2 := Aside0.mk hfw2
  clear hr0 hc0 hr1 hc1 hr2 hc2 hl hx hm hka hfw hfw2 hkf
  have HX1 := Aside0.mk (blk_new w (.cells #[.slice A m.f0.length c, .slice B m.f1.length d, .int .i64 m.f2, .int .u64 m.f3.f0, .int .i64 m.f3.f1] 53))
  have HB1 := Aside0.mk (show Below w.heap.size w (w.alloc (.cells #[.slice A m.f0.length c, .slice B m.f1.length d, .int .i64 m.f2, .int .u64 m.f3.f0, .int .i64 m.f3.f1] 53)) from Below.alloc (Below.refl _ _) (Nat.le_refl _) _)
  go_enter Try.func21, Try.ntmps21
  go_upto_region 1 with fail
  generalize w.alloc (.cells #[.slice A m.f0.length c, .slice B m.f1.length d, .int .i64 m.f2, .int .u64 m.f3.f0, .int .i64 m.f3.f1] 53) = w1 at HX1 HB1 ⊢
  have HS1 := Aside0.mk HB1.out.size
  -- awake; the one and those; few?
  go_cut [34] (fun v34 wc => v34 = .bool (!fw || decide ((l.length : Int) = 0)) ∧ Aside0 (Below w.heap.size w wc) ∧ Aside0 (wc.heap[w.heap.size]? = some (.cells #[.slice A m.f0.length c, .slice B m.f1.length d, .int .i64 m.f2, .int .u64 m.f3.f0, .int .i64 m.f3.f1] 53 (0, 0))))
  case first =>
    cases fw with
    | false =>
      go_wp2_with (first
        | (go_at_call 55; refine (HAW.out _).mono ?_; rintro e w2 ⟨rfl, hb⟩; have HX2 := Aside0.mk (blk_below HX1.out hb); have HB2 := Aside0.mk (HB1.out.trans (hb.mono HS1.out)); have HS2 := Aside0.mk (Nat.le_trans HS1.out hb.size); have HT2 := Aside0.mk (blk_lt HX2.out); obtain ⟨z0, z1, z2, z3, z4⟩ := cells5 HX2.out; clear hb)
        | ((with_reducible refine gate_dst (N := 19) rfl ?_); (try (refine gate_guard (by rfl) ?_; dsimp only)); refine Kd.N_lit k53 w.heap.size 53 ?hg (N' := 19) ?hd (xs := [m]) (inner := [.slice A m.f0.length c, .slice B m.f1.length d, .int .i64 m.f2, .int .u64 m.f3.f0, .int .i64 m.f3.f1]) (ok := fun k_ => k_ ≠ w.heap.size) (okp := fun k_ => k_ < w.heap.size) ?hr ?hp (fun _ hk => Nat.ne_of_lt hk) ?hf HB2.out ?hs ?hm ?_; (case hd => rfl); (case hg => rfl); (case hr => first | (go_simp; done) | (go_simp; rfl)); (case hp => exact Reps.c5 (k53_mkF _ _ m HC1.out (Kd.F_below F1.out HB2.out) HC2.out (Kd.F_below F2.out HB2.out)) (Reps.none _ _)); (case hf => exact Nat.ne_of_gt HT2.out); (case hs => exact HS2.out); (case hm => simp); intro v1 w3 hn hb hg hat; have HN3 := Aside0.mk hn; have HB3 := Aside0.mk hb; have HX3 := Aside0.mk ((hg.block _ HT2.out (by simp)).trans HX2.out); have HA3 := Aside0.mk hat; clear hn hb hg hat z0 z1 z2 z3 z4)
        | ((with_reducible refine gate_dst (N := 21) rfl ?_); (try (refine gate_guard (by rfl) ?_; dsimp only)); refine Kd.N_append_rows k53 (w0 := w) w.heap.size rfl (.tmp 19) (.tmp 20) 69 53 _ 72 rfl Try.underlying69 info53 rfl (by decide) (by omega) v1 [m] l A0 l.length c0 (fun k_ => k_ ≠ w.heap.size) (fun k_ => k_ < w.heap.size) rfl rfl ?aO ?aR ?ak ?aF ?aB ?aS ?aL ?_; (case aO => exact HN3.out); (case aR => exact Kd.F_below (Kd.V_F V0.out) HB3.out); (case ak => (intro k_ hk; obtain ⟨b, e1, e2⟩ := HA3.out; exact ⟨Nat.ne_of_lt hk, by rw [e1]; intro e; cases e; have := HS2.out; omega⟩)); (case aF => (intro k_ hk; have := blk_lt HX3.out; omega)); (case aB => exact HB3.out); (case aS => exact HB3.out.size); (case aL => (have := HL.out; simp only [List.length_cons, List.length_nil]; omega)); intro v2 w4 hn hb hg hat; have HN4 := Aside0.mk hn; have HB4 := Aside0.mk hb; have HX4 := Aside0.mk ((hg.block _ (blk_lt HX3.out) (by obtain ⟨b, e1, e2⟩ := HA3.out; rw [e1]; intro e; cases e; have := HT2.out; omega)).trans HX3.out); obtain ⟨A4, c4, rfl⟩ := Kd.N_slice hn; clear hn hb hg hat)
        | (go_at_call 56; refine (HFW.out w4 A4 c4 (Kd.N_reads' HN4.out).2.2 (Kd.N_reads' HN4.out).2.1).mono ?_; rintro e w5 ⟨rfl, hq⟩; obtain ⟨nq, rfl⟩ := hq.out; clear hq))
      go_meet
      exact ⟨rfl, ⟨pw_below_drewN HB4.out nq⟩, ⟨blk_drewN HX4.out nq⟩⟩
    | true =>
      have h15 : l.length ≤ 15 := by have := (HF2.out rfl).1; simp only [List.length_append, List.length_cons, List.length_nil] at this; omega
      have e15 : decide ((15 : Int) < (l.length : Int)) = false := decide_eq_false (by omega)
      by_cases h0 : l.length = 0
      · have e0 : ((l.length : Int) == 0) = true := by simp [h0]
        have H0 := Aside0.mk h0
        clear h0
        go_wp2_with (first
          | (go_at_call 55; refine (HAW.out _).mono ?_; rintro e w2 ⟨rfl, hb⟩; have HX2 := Aside0.mk (blk_below HX1.out hb); have HB2 := Aside0.mk (HB1.out.trans (hb.mono HS1.out)); have HS2 := Aside0.mk (Nat.le_trans HS1.out hb.size); have HT2 := Aside0.mk (blk_lt HX2.out); obtain ⟨z0, z1, z2, z3, z4⟩ := cells5 HX2.out; clear hb)
          | ((with_reducible refine gate_dst (N := 19) rfl ?_); (try (refine gate_guard (by rfl) ?_; dsimp only)); refine Kd.N_lit k53 w.heap.size 53 ?hg (N' := 19) ?hd (xs := [m]) (inner := [.slice A m.f0.length c, .slice B m.f1.length d, .int .i64 m.f2, .int .u64 m.f3.f0, .int .i64 m.f3.f1]) (ok := fun k_ => k_ ≠ w.heap.size) (okp := fun k_ => k_ < w.heap.size) ?hr ?hp (fun _ hk => Nat.ne_of_lt hk) ?hf HB2.out ?hs ?hm ?_; (case hd => rfl); (case hg => rfl); (case hr => first | (go_simp; done) | (go_simp; rfl)); (case hp => exact Reps.c5 (k53_mkF _ _ m HC1.out (Kd.F_below F1.out HB2.out) HC2.out (Kd.F_below F2.out HB2.out)) (Reps.none _ _)); (case hf => exact Nat.ne_of_gt HT2.out); (case hs => exact HS2.out); (case hm => simp); intro v1 w3 hn hb hg hat; have HN3 := Aside0.mk hn; have HB3 := Aside0.mk hb; have HX3 := Aside0.mk ((hg.block _ HT2.out (by simp)).trans HX2.out); have HA3 := Aside0.mk hat; clear hn hb hg hat z0 z1 z2 z3 z4)
          | ((with_reducible refine gate_dst (N := 21) rfl ?_); (try (refine gate_guard (by rfl) ?_; dsimp only)); refine Kd.N_append_rows k53 (w0 := w) w.heap.size rfl (.tmp 19) (.tmp 20) 69 53 _ 72 rfl Try.underlying69 info53 rfl (by decide) (by omega) v1 [m] l A0 l.length c0 (fun k_ => k_ ≠ w.heap.size) (fun k_ => k_ < w.heap.size) rfl rfl ?aO ?aR ?ak ?aF ?aB ?aS ?aL ?_; (case aO => exact HN3.out); (case aR => exact Kd.F_below (Kd.V_F V0.out) HB3.out); (case ak => (intro k_ hk; obtain ⟨b, e1, e2⟩ := HA3.out; exact ⟨Nat.ne_of_lt hk, by rw [e1]; intro e; cases e; have := HS2.out; omega⟩)); (case aF => (intro k_ hk; have := blk_lt HX3.out; omega)); (case aB => exact HB3.out); (case aS => exact HB3.out.size); (case aL => (have := HL.out; simp only [List.length_cons, List.length_nil]; omega)); intro v2 w4 hn hb hg hat; have HN4 := Aside0.mk hn; have HB4 := Aside0.mk hb; have HX4 := Aside0.mk ((hg.block _ (blk_lt HX3.out) (by obtain ⟨b, e1, e2⟩ := HA3.out; rw [e1]; intro e; cases e; have := HT2.out; omega)).trans HX3.out); obtain ⟨A4, c4, rfl⟩ := Kd.N_slice hn; clear hn hb hg hat)
          | (go_at_call 56; refine (HFW.out w4 A4 c4 (Kd.N_reads' HN4.out).2.2 (Kd.N_reads' HN4.out).2.1).mono ?_; rintro e w5 ⟨rfl, hq⟩; obtain ⟨nq, rfl⟩ := hq.out; clear hq))
        go_meet
        exact ⟨by simp [H0.out], ⟨pw_below_drewN HB4.out nq⟩, ⟨blk_drewN HX4.out nq⟩⟩
      · have e0 : ((l.length : Int) == 0) = false := beq_eq_false_iff_ne.2 (by omega)
        have H0 := Aside0.mk h0
        clear h0
        go_wp2_with (first
          | (go_at_call 55; refine (HAW.out _).mono ?_; rintro e w2 ⟨rfl, hb⟩; have HX2 := Aside0.mk (blk_below HX1.out hb); have HB2 := Aside0.mk (HB1.out.trans (hb.mono HS1.out)); have HS2 := Aside0.mk (Nat.le_trans HS1.out hb.size); have HT2 := Aside0.mk (blk_lt HX2.out); obtain ⟨z0, z1, z2, z3, z4⟩ := cells5 HX2.out; clear hb)
          | ((with_reducible refine gate_dst (N := 19) rfl ?_); (try (refine gate_guard (by rfl) ?_; dsimp only)); refine Kd.N_lit k53 w.heap.size 53 ?hg (N' := 19) ?hd (xs := [m]) (inner := [.slice A m.f0.length c, .slice B m.f1.length d, .int .i64 m.f2, .int .u64 m.f3.f0, .int .i64 m.f3.f1]) (ok := fun k_ => k_ ≠ w.heap.size) (okp := fun k_ => k_ < w.heap.size) ?hr ?hp (fun _ hk => Nat.ne_of_lt hk) ?hf HB2.out ?hs ?hm ?_; (case hd => rfl); (case hg => rfl); (case hr => first | (go_simp; done) | (go_simp; rfl)); (case hp => exact Reps.c5 (k53_mkF _ _ m HC1.out (Kd.F_below F1.out HB2.out) HC2.out (Kd.F_below F2.out HB2.out)) (Reps.none _ _)); (case hf => exact Nat.ne_of_gt HT2.out); (case hs => exact HS2.out); (case hm => simp); intro v1 w3 hn hb hg hat; have HN3 := Aside0.mk hn; have HB3 := Aside0.mk hb; have HX3 := Aside0.mk ((hg.block _ HT2.out (by simp)).trans HX2.out); have HA3 := Aside0.mk hat; clear hn hb hg hat z0 z1 z2 z3 z4)
          | ((with_reducible refine gate_dst (N := 21) rfl ?_); (try (refine gate_guard (by rfl) ?_; dsimp only)); refine Kd.N_append_rows k53 (w0 := w) w.heap.size rfl (.tmp 19) (.tmp 20) 69 53 _ 72 rfl Try.underlying69 info53 rfl (by decide) (by omega) v1 [m] l A0 l.length c0 (fun k_ => k_ ≠ w.heap.size) (fun k_ => k_ < w.heap.size) rfl rfl ?aO ?aR ?ak ?aF ?aB ?aS ?aL ?_; (case aO => exact HN3.out); (case aR => exact Kd.F_below (Kd.V_F V0.out) HB3.out); (case ak => (intro k_ hk; obtain ⟨b, e1, e2⟩ := HA3.out; exact ⟨Nat.ne_of_lt hk, by rw [e1]; intro e; cases e; have := HS2.out; omega⟩)); (case aF => (intro k_ hk; have := blk_lt HX3.out; omega)); (case aB => exact HB3.out); (case aS => exact HB3.out.size); (case aL => (have := HL.out; simp only [List.length_cons, List.length_nil]; omega)); intro v2 w4 hn hb hg hat; have HN4 := Aside0.mk hn; have HB4 := Aside0.mk hb; have HX4 := Aside0.mk ((hg.block _ (blk_lt HX3.out) (by obtain ⟨b, e1, e2⟩ := HA3.out; rw [e1]; intro e; cases e; have := HT2.out; omega)).trans HX3.out); obtain ⟨A4, c4, rfl⟩ := Kd.N_slice hn; clear hn hb hg hat)
          | (go_at_call 56; refine (HFW.out w4 A4 c4 (Kd.N_reads' HN4.out).2.2 (Kd.N_reads' HN4.out).2.1).mono ?_; rintro e w5 ⟨rfl, hq⟩; obtain ⟨nq, rfl⟩ := hq.out; clear hq))
        go_meet
        exact ⟨by rw [decide_eq_false (p := (l.length : Int) = 0) (by have := H0.out; omega)]; rfl, ⟨pw_below_drewN HB4.out nq⟩, ⟨blk_drewN HX4.out nq⟩⟩
  case rest =>
    obtain ⟨rfl, HB5, HX5⟩ := hcut
    cases hc : (!fw || decide ((l.length : Int) = 0)) with
    | true =>
      go_wp2_with (go_at_call 55; refine (HAW.out _).mono ?_; rintro e w6 ⟨rfl, hb⟩; have HB6 := Aside0.mk (HB5.out.trans (hb.mono HB5.out.size)); clear hb)
      go_ret
      exact ⟨rfl, HB6.out⟩
    | false =>
      have hfw : fw = true := by cases fw <;> simp_all
      have hl0 : 0 < l.length := by
        rw [hfw] at hc
        have := of_decide_eq_false (by simpa using hc : decide ((l.length : Int) = 0) = false)
        omega
      have hn15 : l.length ≤ 15 := by have := (HF2.out hfw).1; simp only [List.length_append, List.length_cons, List.length_nil] at this; omega
      have htot := (HF2.out hfw).2
      have htl : total l ≤ 150 := by simp only [total, List.map_append, List.sum_append] at htot ⊢; omega
      obtain ⟨kt, hkt⟩ := (told_ev l 0 (by omega) (by omega) (con_few htl)).get
      have hfine := told_fine (a := 0) HX.out (by omega) htl
      have HTD := Aside0.mk (folkmootlaw16_told.calls kt (fun k_ => k_ < w.heap.size) A0 c0 l 0 _ _ _ wc ⟨A0, c0, rfl, HC0.out, Kd.F_below (Kd.V_F V0.out) HB5.out⟩ hkt)
      have HFI := Aside0.mk hfine
      have HL0 := Aside0.mk hl0
      have HTOT := Aside0.mk htot
      have HTL := Aside0.mk htl
      have HS5 := Aside0.mk (blk_lt HX5.out)
      have hlen : (toldT l 0).length = l.length := toldT_length l 0
      have HLEN := Aside0.mk hlen
      clear hc hfw hl0 htot htl hkt hfine hlen
      go_wp2_with (go_at_call 57; refine HTD.out.mono ?_; rintro e w6 ⟨v0, v1, v2, rfl, hn0, -, -, hb⟩; obtain ⟨g, cap, rfl, hg1, hg2, -⟩ := Kd.N_form hn0 (by rw [HLEN.out]; exact HL0.out); have HN6 := Aside0.mk (Kd.N_mono (ok' := fun k_ => k_ ≠ w.heap.size) hn0 (fun k_ hk => by have := HS5.out; omega)); have HG := Aside0.mk hg1; have HB6 := Aside0.mk (HB5.out.trans (hb.mono HB5.out.size)); have HX6 := Aside0.mk (blk_below HX5.out hb); clear hn0 hg1 hg2 hb; rw [HLEN.out])
      have hm16 : l.length ≤ 9223372036854775807 := by omega
      go_loopw [8] (fun i wr => ∃ k : Nat, k ≤ l.length ∧ i = .int .i64 k ∧ Aside0 (Kd.N k87 87 wr wc.heap.size (fun k_ => k_ ≠ w.heap.size) (.slice (some ⟨g, 0, none⟩) l.length cap) (midL (toldT l 0) k)) ∧ Aside0 (Below w.heap.size w wr) ∧ Aside0 (wr.heap[w.heap.size]? = some (.cells #[.slice A m.f0.length c, .slice B m.f1.length d, .int .i64 m.f2, .int .u64 m.f3.f0, .int .i64 m.f3.f1] 53 (0, 0)))) (fun i _ => l.length - (intOf i).toNat)
      case atStart => exact ⟨0, by omega, rfl, by rw [midL_zero]; first | exact HN6 | (rw [HLEN.out] at HN6; exact HN6), HB6, HX6⟩
      case round =>
        obtain ⟨k, hk, rfl, HN, HB, HX7⟩ := hrel
        by_cases hlt : k < l.length
        · have hxk : (midL (toldT l 0) k)[k]? = some (tellK l k) := by rw [midL_get (by rw [HLEN.out]; exact hlt)]; exact toldT_get hlt
          obtain ⟨cc, hcl, hFK, hcc, hfr⟩ := Kd.N_elem HN.out z87 (k : Int) (by omega) (by omega)
          rw [Int.toNat_natCast, List.getD_eq_getElem?_getD, hxk, Option.getD_some] at hFK
          obtain ⟨A1, c1, A2, c2, rfl, l1, g1, l2, g2⟩ := k87_openF hFK
          have hf0 : (tellK l k).f0 = (k : Int) := rfl
          have hsz6 : k87.sz = 6 := rfl
          have y0 : wr.cell? ⟨g, k * 6, none⟩ = some (.int .i64 (k : Int)) := by have := hcc 0 _ rfl; rw [hsz6, Int.toNat_natCast, Nat.add_zero, hf0] at this; exact this
          have y1 : wr.frozen? ⟨g, k * 6, none⟩ = false := by have := hfr 0; rw [hsz6, Int.toNat_natCast, Nat.add_zero] at this; exact this
          have HCC := Aside0.mk hcc
          have HCL := Aside0.mk hcl
          have HL1 := Aside0.mk l1
          have HL2 := Aside0.mk l2
          have HG1 := Aside0.mk g1
          have HG2 := Aside0.mk g2
          have HXK := Aside0.mk hxk
          have hk8 : (k : Int) + 1 ≤ 16 := by omega
          have hset : wr.setCells g ((k : Int).toNat * k87.sz + 0) [.int .i64 ((k : Int) + 1)] = wr.setCell ⟨g, k * 6, none⟩ (.int .i64 ((k : Int) + 1)) := by simp [World.setCells, hsz6]
          have hN2 := (Kd.N_seg HN.out (k : Int) (by omega) (by omega) (seg := [.int .i64 ((k : Int) + 1)]) (j := 0) hcl hcc (by rw [hsz6]; simp) (x' := incT (tellK l k)) (okp := fun k_ => k_ ≠ w.heap.size ∧ k_ ≠ g) (k87_mkF _ _ (incT (tellK l k)) l1 g1 l2 g2) (fun _ hk => hk)).1
          rw [hset, Int.toNat_natCast, midL_step (by rw [HLEN.out]; exact hlt) (by rw [← midL_get (by rw [HLEN.out]; exact hlt)]; exact hxk)] at hN2
          have HN2 := Aside0.mk hN2
          have HB2' := Aside0.mk (HB.out.setCell (p := ⟨g, k * 6, none⟩) (by have := HG.out; have := HB5.out.size; simp only; omega) (.int .i64 ((k : Int) + 1)))
          have HX2' := Aside0.mk ((Below.heap_setCell wr ⟨g, k * 6, none⟩ (.int .i64 ((k : Int) + 1)) w.heap.size (by have := HG.out; have := HS5.out; simp only; omega)).trans HX7.out)
          clear hcc hcl hfr hFK l1 l2 g1 g2 hxk hf0 hsz6 hset hN2
          go_wp2_with fail
          go_roundw
          case rel => exact ⟨k + 1, by omega, by go_num, HN2, HB2', HX2'⟩
          case measure => simp [intOf]; omega
        · obtain ⟨z0, z1, z2, z3, z4⟩ := cells5 HX7.out
          have hkn : k = l.length := by omega
          subst hkn
          have HNT := Aside0.mk (show Kd.N k87 87 wr wc.heap.size (fun k_ => k_ ≠ w.heap.size) (.slice (some ⟨g, 0, none⟩) l.length cap) (incL (toldT l 0)) from by have := HN.out; rwa [← HLEN.out, midL_all, HLEN.out] at this)
          have f3 : wr.frozen? ⟨w.heap.size, 3, none⟩ = false := by have := HX7.out; simp [World.frozen?, this]
          have f4 : wr.frozen? ⟨w.heap.size, 4, none⟩ = false := by have := HX7.out; simp [World.frozen?, this]
          clear HN hlt hk
          go_upto_region 9 with fail
          have HX8 := Aside0.mk (show ((wr.setCell ⟨w.heap.size, 3, none⟩ (.int .u64 0)).setCell ⟨w.heap.size, 4, none⟩ (.int .i64 0)).heap[w.heap.size]? = some (.cells #[.slice A m.f0.length c, .slice B m.f1.length d, .int .i64 m.f2, .int .u64 0, .int .i64 0] 53 (0, 0)) from by
            have := blk_set (blk_set HX7.out 3 (.int .u64 0)) 4 (.int .i64 0)
            simpa using this)
          have HN8 := Aside0.mk (Kd.N_far (Kd.N_far HNT.out (p := ⟨w.heap.size, 3, none⟩) (fun k_ hk => hk) (.int .u64 0)) (p := ⟨w.heap.size, 4, none⟩) (fun k_ hk => hk) (.int .i64 0))
          have HB8 := Aside0.mk ((HB.out.setCell (p := ⟨w.heap.size, 3, none⟩) (Nat.le_refl _) (.int .u64 0)).setCell (p := ⟨w.heap.size, 4, none⟩) (Nat.le_refl _) (.int .i64 0))
          clear z0 z1 z2 z3 z4 f3 f4 HNT HB HX7
          generalize ((wr.setCell ⟨w.heap.size, 3, none⟩ (.int .u64 0)).setCell ⟨w.heap.size, 4, none⟩ (.int .i64 0)) = w8 at HX8 HN8 HB8 ⊢
          obtain ⟨z0, z1, z2, z3, z4⟩ := cells5 HX8.out
          have htm : total [(⟨m.f0, m.f1, m.f2, ⟨0, 0⟩⟩ : S53)] ≤ 150 := by have := HTOT.out; simp only [total, List.map_cons, List.map_nil, List.sum_cons, List.sum_nil, List.map_append, List.sum_append] at this ⊢; omega
          obtain ⟨km, hkm⟩ := (told_ev [(⟨m.f0, m.f1, m.f2, ⟨0, 0⟩⟩ : S53)] 0 (by omega) (by simp) (con_few htm)).get
          have HT8 := Aside0.mk (blk_lt HX8.out)
          have HTD2 := Aside0.mk (fun W A' c' (hV : Kd.V k53 53 W W.heap.size (fun k_ => k_ ≠ w.heap.size) (.slice A' [(⟨m.f0, m.f1, m.f2, ⟨0, 0⟩⟩ : S53)].length c') [(⟨m.f0, m.f1, m.f2, ⟨0, 0⟩⟩ : S53)]) => folkmootlaw16_told.calls km (fun k_ => k_ ≠ w.heap.size) A' c' [(⟨m.f0, m.f1, m.f2, ⟨0, 0⟩⟩ : S53)] 0 _ _ _ W hV hkm)
          clear htm hkm
          go_upto_region 11 with (first
            | ((with_reducible refine gate_dst (N := 60) rfl ?_); (try (refine gate_guard (by rfl) ?_; dsimp only)); refine Kd.N_lit k53 w.heap.size 53 ?hg (N' := 60) ?hd (xs := [(⟨m.f0, m.f1, m.f2, ⟨0, 0⟩⟩ : S53)]) (inner := [.slice A m.f0.length c, .slice B m.f1.length d, .int .i64 m.f2, .int .u64 0, .int .i64 0]) (ok := fun k_ => k_ ≠ w.heap.size) (okp := fun k_ => k_ < w.heap.size) ?hr ?hp (fun _ hk => Nat.ne_of_lt hk) ?hf HB8.out ?hs ?hm ?_; (case hd => rfl); (case hg => rfl); (case hr => first | (go_simp; done) | (go_simp; rfl)); (case hp => exact Reps.c5 (k53_mkF _ _ (⟨m.f0, m.f1, m.f2, ⟨0, 0⟩⟩ : S53) HC1.out (Kd.F_below F1.out HB8.out) HC2.out (Kd.F_below F2.out HB8.out)) (Reps.none _ _)); (case hf => exact Nat.ne_of_gt HT8.out); (case hs => exact HB8.out.size); (case hm => simp); intro v8 w9 hn hb hg hat; obtain ⟨A9, c9, rfl⟩ := Kd.N_slice hn; have HV9 := Aside0.mk (Kd.N_V (base' := w9.heap.size) hn); have HB9 := Aside0.mk hb; have HN9 := Aside0.mk (Kd.N_grown HN8.out hg (fun k_ _ => by simp)); have HT9 := Aside0.mk (show w.heap.size < w9.heap.size from by obtain ⟨b, e1, e2⟩ := hat; have h1 := Kd.N_lt hn b e1; have h2 := HT8.out; omega); clear hn hb hg hat z0 z1 z2 z3 z4)
            | (go_at_call 57; refine (HTD2.out w9 A9 c9 HV9.out).mono ?_; rintro e w10 ⟨v10, u10, t10, rfl, hn0, -, -, hb⟩; have HB10 := Aside0.mk (HB9.out.trans (hb.mono HB9.out.size)); have HN10 := Aside0.mk (Kd.N_below HN9.out hb); have HTT := Aside0.mk (Nat.lt_of_lt_of_le HT9.out hb.size); have HX10 := Aside0.mk (Kd.N_mono (ok' := fun k_ => k_ ≠ w.heap.size) hn0 (fun k_ hk => by have h2 := HT9.out; have h3 := hk.1; rcases h3 with h3 | h3; exact h3; omega)); clear hn0 hb))
          have HFL := Aside0.mk (inc_fine HFI.out)
          obtain ⟨gx, cx, rfl, hx1, hx2, -⟩ := Kd.N_form HX10.out (by simp [toldT])
          have HX10' := Aside0.mk (show Kd.N k87 87 w10 w9.heap.size (fun k_ => k_ ≠ w.heap.size) (.slice (some ⟨gx, 0, none⟩) 1 cx) [lastT m] from HX10.out)
          have HNB := Aside0.mk (Kd.N_bound HN10.out)
          have HXB := Aside0.mk (Kd.N_bound HX10'.out)
          have HLI := Aside0.mk (show (incL (toldT l 0)).length = l.length from by unfold incL; rw [List.length_map]; exact HLEN.out)
          clear HX10 hx1 hx2
          rw [show (toldT [(⟨m.f0, m.f1, m.f2, ⟨0, 0⟩⟩ : S53)] 0).length = 1 from rfl]
          go_upto_region 12 with ((with_reducible refine gate_dst (N := 67) rfl ?_); (try (refine gate_guard (by rfl) ?_; dsimp only)); refine Kd.N_append_rows k87 (w0 := w) w.heap.size rfl (.tmp 65) (.tmp 66) 71 87 _ 80 rfl Try.underlying71 info87 rfl (by decide) (by omega) (.slice none 0 0) [] (incL (toldT l 0)) (some ⟨g, 0, none⟩) l.length cap (fun k_ => k_ ≠ w.heap.size) (fun k_ => k_ ≠ w.heap.size) rfl rfl ?aO ?aR ?ak ?aF ?aB ?aS ?aL ?_; (case aO => exact Kd.N_nil _ _ _ _ _); (case aR => exact Kd.N_F HN10.out); (case ak => (intro k_ hk; exact ⟨hk, by simp [Value.ownBlock]⟩)); (case aF => (intro k_ hk; have h1 := HT9.out; have h2 := HB10.out.size; have h3 := HTT.out; omega)); (case aB => exact HB10.out); (case aS => exact HB10.out.size); (case aL => (have := HL.out; simp only [List.length_nil]; omega)); intro v11 w11 hn hb hg hat; have HU11 := Aside0.mk hn; have HB11 := Aside0.mk hb; have HN11 := Aside0.mk (Kd.N_grown HNB.out hg (fun k_ _ => by simp [Value.ownBlock])); have HX11 := Aside0.mk (Kd.N_grown HXB.out hg (fun k_ _ => by simp [Value.ownBlock])); have HA11 := Aside0.mk hat; have HTU := Aside0.mk (show w.heap.size < w11.heap.size from by have h1 := HTT.out; have h2 := hg.size; omega); clear hn hb hg hat)
          obtain ⟨cc, hcl, hFK, hcc, -⟩ := Kd.N_elem HX11.out z87 0 (by omega) (by omega)
          rw [show [lastT m].getD (0 : Int).toNat z87 = lastT m from rfl] at hFK
          obtain ⟨A1, c1, A2, c2, rfl, l1, g1, l2, g2⟩ := k87_openF hFK
          have x0 : w11.cell? ⟨gx, 0, none⟩ = some (.int .i64 (lastT m).f0) := by have := hcc 0 _ rfl; simpa using this
          have x1 : w11.cell? ⟨gx, 1, none⟩ = some (.slice A1 (lastT m).f1.f0.length c1) := by have := hcc 1 _ rfl; simpa using this
          have x2 : w11.cell? ⟨gx, 2, none⟩ = some (.slice A2 (lastT m).f1.f1.length c2) := by have := hcc 2 _ rfl; simpa using this
          have x3 : w11.cell? ⟨gx, 3, none⟩ = some (.int .i64 (lastT m).f1.f2) := by have := hcc 3 _ rfl; simpa using this
          have x4 : w11.cell? ⟨gx, 4, none⟩ = some (.int .u64 (lastT m).f1.f3.f0) := by have := hcc 4 _ rfl; simpa using this
          have x5 : w11.cell? ⟨gx, 5, none⟩ = some (.int .i64 (lastT m).f1.f3.f1) := by have := hcc 5 _ rfl; simpa using this
          have HFK := Aside0.mk hFK
          clear hcl hFK hcc l1 g1 l2 g2
          obtain ⟨kc, hkc⟩ := (chosen_ev (incL (toldT l 0)) HFL.out.lt).get
          have HCH := Aside0.mk (fun (W : World) b ok (hN : Kd.N k87 87 W b ok (.slice (some ⟨g, 0, none⟩) l.length cap) (incL (toldT l 0))) => (show Calls Try.prog 61 #[.slice (some ⟨g, 0, none⟩) l.length cap] W fun e w' => e = .returned (.int .i64 (chosenT (incL (toldT l 0)))) ∧ Below W.heap.size W w' from by
            have h := Kd.N_reads' hN
            have := exchange_Chosen.calls kc _ cap (incL (toldT l 0)) _ W h.2.2 (by rw [← h.1]; exact h.2.1) hkc
            rwa [← h.1] at this))
          clear hkc
          by_cases hch : chosenT (incL (toldT l 0)) < 0
          · have d0 : decide (chosenT (incL (toldT l 0)) < 0) = true := decide_eq_true hch
            generalize chosenT (incL (toldT l 0)) = r at HCH d0 hch ⊢
            go_wp2_with (first
              | ((with_reducible refine gate_dst (N := 73) rfl ?_); (try (refine gate_guard (by rfl) ?_; dsimp only)); refine Kd.N_append k87 (w0 := w) w.heap.size rfl (.tmp 68) (.tmp 72) 71 87 _ 80 rfl Try.underlying71 info87 rfl (by decide) (by omega) v11 (incL (toldT l 0)) (lastT m) [.int .i64 (lastT m).f0, .slice A1 (lastT m).f1.f0.length c1, .slice A2 (lastT m).f1.f1.length c2, .int .i64 (lastT m).f1.f2, .int .u64 (lastT m).f1.f3.f0, .int .i64 (lastT m).f1.f3.f1] (fun k_ => k_ ≠ w.heap.size) (fun k_ => (k_ ≠ w.heap.size ∧ k_ < w10.heap.size) ∧ k_ ≠ gx) rfl rfl ?ap ?ak ?aF ?aO ?aB ?aS ?aL ?_; (case ap => exact HFK.out); (case ak => (intro k_ hk; refine ⟨hk.1.1, fun e => ?_⟩; rcases HA11.out with e2 | ⟨b, e1, e2⟩; (rw [e2] at e; simp [Value.ownBlock] at e); (rw [e1] at e; cases e; have := hk.1.2; omega))); (case aF => (intro k_ hk; have h2 := HB11.out.size; have h3 := HTU.out; omega)); (case aO => exact HU11.out); (case aB => exact HB11.out); (case aS => exact HB11.out.size); (case aL => (have h1 := HL.out; have h2 := HLI.out; rw [h2]; omega)); intro v12 w12 hn hb hg hat; have HU12 := Aside0.mk hn; have HB12 := Aside0.mk hb; have HN12 := Aside0.mk (Kd.N_grown HN11.out hg (fun k_ hk => by rcases HA11.out with e2 | ⟨b, e1, e2⟩; (rw [e2]; simp [Value.ownBlock]); (rw [e1]; intro e; cases e; have := hk.2; omega))); have HX12 := Aside0.mk (Kd.N_grown HX11.out hg (fun k_ hk => by rcases HA11.out with e2 | ⟨b, e1, e2⟩; (rw [e2]; simp [Value.ownBlock]); (rw [e1]; intro e; cases e; have := hk.2; omega))); clear hn hb hg hat x0 x1 x2 x3 x4 x5)
              | (go_at_call 61; refine (HCH.out w12 _ _ HN12.out).mono ?_; rintro e w13 ⟨rfl, hb⟩; have HB13 := Aside0.mk (HB12.out.trans (hb.mono HB12.out.size)); clear hb))
            go_ret
            exact ⟨rfl, HB13.out⟩
          · have d0 : decide (chosenT (incL (toldT l 0)) < 0) = false := decide_eq_false hch
            have hrp : 0 ≤ chosenT (incL (toldT l 0)) := by omega
            clear hch
            generalize hrr : chosenT (incL (toldT l 0)) = r at HCH d0 hrp ⊢
            have hrn : ¬ r < 0 := by omega
            have HRR := Aside0.mk hrr
            clear hrr
            go_upto_region 15 with (first
              | ((with_reducible refine gate_dst (N := 73) rfl ?_); (try (refine gate_guard (by rfl) ?_; dsimp only)); refine Kd.N_append k87 (w0 := w) w.heap.size rfl (.tmp 68) (.tmp 72) 71 87 _ 80 rfl Try.underlying71 info87 rfl (by decide) (by omega) v11 (incL (toldT l 0)) (lastT m) [.int .i64 (lastT m).f0, .slice A1 (lastT m).f1.f0.length c1, .slice A2 (lastT m).f1.f1.length c2, .int .i64 (lastT m).f1.f2, .int .u64 (lastT m).f1.f3.f0, .int .i64 (lastT m).f1.f3.f1] (fun k_ => k_ ≠ w.heap.size) (fun k_ => (k_ ≠ w.heap.size ∧ k_ < w10.heap.size) ∧ k_ ≠ gx) rfl rfl ?ap ?ak ?aF ?aO ?aB ?aS ?aL ?_; (case ap => exact HFK.out); (case ak => (intro k_ hk; refine ⟨hk.1.1, fun e => ?_⟩; rcases HA11.out with e2 | ⟨b, e1, e2⟩; (rw [e2] at e; simp [Value.ownBlock] at e); (rw [e1] at e; cases e; have := hk.1.2; omega))); (case aF => (intro k_ hk; have h2 := HB11.out.size; have h3 := HTU.out; omega)); (case aO => exact HU11.out); (case aB => exact HB11.out); (case aS => exact HB11.out.size); (case aL => (have h1 := HL.out; have h2 := HLI.out; rw [h2]; omega)); intro v12 w12 hn hb hg hat; have HU12 := Aside0.mk hn; have HB12 := Aside0.mk hb; have HN12 := Aside0.mk (Kd.N_grown HN11.out hg (fun k_ hk => by rcases HA11.out with e2 | ⟨b, e1, e2⟩; (rw [e2]; simp [Value.ownBlock]); (rw [e1]; intro e; cases e; have := hk.2; omega))); have HX12 := Aside0.mk (Kd.N_grown HX11.out hg (fun k_ hk => by rcases HA11.out with e2 | ⟨b, e1, e2⟩; (rw [e2]; simp [Value.ownBlock]); (rw [e1]; intro e; cases e; have := hk.2; omega))); clear hn hb hg hat x0 x1 x2 x3 x4 x5)
              | (go_at_call 61; refine (HCH.out w12 _ _ HN12.out).mono ?_; rintro e w13 ⟨rfl, hb⟩; have HB13 := Aside0.mk (HB12.out.trans (hb.mono HB12.out.size)); have HN13 := Aside0.mk (Kd.N_below HN12.out hb); have HU13 := Aside0.mk (Kd.N_below HU12.out hb); have HX13 := Aside0.mk (Kd.N_below HX12.out hb); clear hb))
            have HFU := Aside0.mk (more_fine (m := m) HFL.out (inc_pos HFI.out) (by have := HLI.out; omega) HM.out (by have := HTOT.out; simp only [total, List.map_cons, List.map_nil, List.sum_cons, List.sum_nil, List.map_append, List.sum_append] at this; omega) (by have := HTOT.out; simp only [total, List.map_cons, List.map_nil, List.sum_cons, List.sum_nil, List.map_append, List.sum_append] at this; omega))
            have HKL := Aside0.mk (known_last (incL (toldT l 0)) m)
            have HSM := Aside0.mk (short_more (incL (toldT l 0)) m (by have := HRR.out; omega))
            have HCM := Aside0.mk (chosen_more (incL (toldT l 0)) m (by have := HRR.out; omega))
            have HHM := Aside0.mk (high_more (incL (toldT l 0)) m)
            generalize incL (toldT l 0) ++ [lastT m] = U at HU13 HFU HKL HSM HCM HHM
            obtain ⟨Au, cu, rfl⟩ := Kd.N_slice HU13.out
            have HU13' := Aside0.mk (Kd.N_reads' HU13.out)
            obtain ⟨ku, hku⟩ := HFU.out.full.get
            have HFC := Aside0.mk (exchange_Full.calls ku Au cu _ _ w13 HU13'.out.2.2 HU13'.out.2.1 hku)
            clear hku
            go_wp2_with (go_at_call 66; (with_reducible refine HFC.out.mono ?_); rintro e w14 ⟨v14, rfl, hr, hb⟩; obtain ⟨Af, cf, rfl⟩ := Kd.R_slice hr; have HR14 := Aside0.mk (Kd.R_reads' hr); have HB14 := Aside0.mk (HB13.out.trans (hb.mono HB13.out.size)); have HN14 := Aside0.mk (Kd.N_below HN13.out hb); have HU14 := Aside0.mk (Kd.N_below HU13.out hb); have HX14 := Aside0.mk (Kd.N_below HX13.out hb); clear hr hb)
            obtain ⟨cd, hdl, hFD, hcd, -⟩ := Kd.N_elem HX14.out z87 0 (by omega) (by omega)
            rw [show [lastT m].getD (0 : Int).toNat z87 = lastT m from rfl] at hFD
            obtain ⟨D1, d1, D2, d2, rfl, l1, g1, l2, g2⟩ := k87_openF hFD
            have HXC := Aside0.mk (show w14.cell? ⟨gx, 1, none⟩ = some (.slice D1 (lastT m).f1.f0.length d1) from by have := hcd 1 _ rfl; simpa using this)
            have HXG := Aside0.mk (show gx < w14.heap.size from Kd.N_lt HX14.out gx (by simp [Value.ownBlock]))
            have HD1 := Aside0.mk g1
            have hD9 : (lastT m).f1.f0.length ≤ 9223372036854775807 := (Kd.F_now g1).2.1
            clear hdl hFD hcd l1 g1 l2 g2
            generalize hcon : (lastT m).f1.f0 = con at HXC HD1 hD9 ⊢
            have HCON := Aside0.mk hcon
            clear hcon
            go_loopw [14] (fun i wr => ∃ k : Nat, k ≤ con.length ∧ i = .int .i64 k ∧ Aside0 (Below w14.heap.size w14 wr)) (fun i _ => con.length - (intOf i).toNat)
            case atStart => exact ⟨0, by omega, rfl, ⟨Below.refl _ _⟩⟩
            case round =>
              obtain ⟨k, hk, rfl, HB⟩ := hrel
              have hxc : wr.cell? ⟨gx, 1, none⟩ = some (.slice D1 con.length d1) := by rw [HB.out.cell (p := ⟨gx, 1, none⟩) HXG.out]; exact HXC.out
              by_cases hlt : k < con.length
              · obtain ⟨ad, A4, c4, rfl, y0, y1, y2, y3, -⟩ := at_T32 (Kd.F_now (Kd.F_below HD1.out HB.out)) (k : Int) (by omega) (by omega)
                rw [rdE_nat hlt, Int.toNat_natCast] at y0 y1 y2 y3
                have hmem : con[k] ∈ (lastT m).f1.f0 := by rw [HCON.out]; exact List.getElem_mem hlt
                have hin := refIn_ev (fullT U) con[k].f0 (by have := HFU.out.fullLen; omega)
                rw [HKL.out con[k] hmem] at hin
                obtain ⟨ki, hki⟩ := hin.get
                have HIN := Aside0.mk (folkmootref05_In.calls ki Af cf (fullT U) con[k].f0.f0.f0 con[k].f0.f0.f1 con[k].f0.f1 con[k].f0.f2 true wr (Kd.C_below HR14.out.2.2 HB.out) HR14.out.2.1 hki)
                clear hmem hin hki
                generalize con[k].f0.f0.f0 = q0 at y0 HIN
                generalize con[k].f0.f0.f1 = q1 at y1 HIN
                generalize con[k].f0.f1 = q2 at y2 HIN
                generalize con[k].f0.f2 = q3 at y3 HIN
                go_wp2_with (go_at_call 36; (with_reducible refine HIN.out.mono ?_); rintro e w15 ⟨rfl, hb⟩; have HB15 := Aside0.mk (HB.out.trans (hb.mono HB.out.size)); clear hb)
                go_roundw
                case rel => exact ⟨k + 1, by omega, by go_num, HB15⟩
                case measure => simp [intOf]; omega
              · go_upto_region 21 with fail
                have CU := Kd.N_reads' HU14.out
                have CT := Kd.N_reads' HN14.out
                have hs1 := HFU.out.short
                rw [HSM.out] at hs1
                have hs2 := HFL.out.short
                have hsl : (shortT (incL (toldT l 0))).length < 9223372036854775807 := by have := HFL.out.shortLen; omega
                have hc1 := chosen_ev U HFU.out.lt
                rw [HCM.out, HRR.out] at hc1
                have hc2 := chosen_ev (incL (toldT l 0)) HFL.out.lt
                rw [HRR.out] at hc2
                have hh1 := high_ev U HFU.out.lt
                rw [HHM.out] at hh1
                have hh2 := high_ev (incL (toldT l 0)) HFL.out.lt
                generalize shortT (incL (toldT l 0)) = Sl at hs1 hs2 hsl
                generalize hiV ((incL (toldT l 0)).map fun t => t.f1.f3) = hv at hh1 hh2
                obtain ⟨k1, hk1⟩ := hs1.get
                obtain ⟨k2, hk2⟩ := hs2.get
                obtain ⟨k3, hk3⟩ := (sameL_ev Sl hsl).get
                obtain ⟨k4, hk4⟩ := hc1.get
                obtain ⟨k5, hk5⟩ := hc2.get
                obtain ⟨k6, hk6⟩ := hh1.get
                obtain ⟨k7, hk7⟩ := hh2.get
                have HSU := Aside0.mk (fun W (hW : Below w14.heap.size w14 W) => exchange_Short.calls k1 Au cu U Sl W (Kd.C_below CU.2.2 hW) CU.2.1 hk1)
                have HCU := Aside0.mk (fun W (hW : Below w14.heap.size w14 W) => exchange_Chosen.calls k4 Au cu U r W (Kd.C_below CU.2.2 hW) CU.2.1 hk4)
                have HHU := Aside0.mk (fun W (hW : Below w14.heap.size w14 W) => exchange_High.calls k6 Au cu U hv.f0 hv.f1 W (Kd.C_below CU.2.2 hW) CU.2.1 hk6)
                have leT : (incL (toldT l 0)).length ≤ cap := by rw [← CT.1]; exact CT.2.1
                have hst := fun W (hW : Below w14.heap.size w14 W) => exchange_Short.calls k2 (some ⟨g, 0, none⟩) cap (incL (toldT l 0)) Sl W (Kd.C_below CT.2.2 hW) leT hk2
                have hct := fun W (hW : Below w14.heap.size w14 W) => exchange_Chosen.calls k5 (some ⟨g, 0, none⟩) cap (incL (toldT l 0)) r W (Kd.C_below CT.2.2 hW) leT hk5
                have hht := fun W (hW : Below w14.heap.size w14 W) => exchange_High.calls k7 (some ⟨g, 0, none⟩) cap (incL (toldT l 0)) hv.f0 hv.f1 W (Kd.C_below CT.2.2 hW) leT hk7
                rw [← CT.1] at hst hct hht
                have HST := Aside0.mk hst
                have HCT := Aside0.mk hct
                have HHT := Aside0.mk hht
                have HSA := Aside0.mk (fun W A1 c1 A2 c2 (h1 : Kd.C k27 W A1 Sl.length Sl) (l1 : Sl.length ≤ c1) (h2 : Kd.C k27 W A2 Sl.length Sl) (l2 : Sl.length ≤ c2) => folkmootref05_Same.calls k3 A1 c1 Sl A2 c2 Sl true W h1 l1 h2 l2 hk3)
                clear CU CT hs1 hs2 hsl hc1 hc2 hh1 hh2 hk1 hk2 hk3 hk4 hk5 hk6 hk7 leT hst hct hht hxc
                have hu25 := Try.underlying25
                go_wp2_with (first
                  | (go_at_call 62; (with_reducible refine (HSU.out wr HB.out).mono ?_); rintro e w15 ⟨v15, rfl, hr, hb⟩; obtain ⟨A15, c15, rfl⟩ := Kd.R_slice hr; have HR15 := Aside0.mk hr; have HB15 := Aside0.mk (HB.out.trans (hb.mono HB.out.size)); clear hr hb)
                  | (go_at_call 62; (with_reducible refine (HST.out w15 HB15.out).mono ?_); rintro e w16 ⟨v16, rfl, hr, hb⟩; obtain ⟨A16, c16, rfl⟩ := Kd.R_slice hr; have HR16 := Aside0.mk hr; have HR15' := Aside0.mk (Kd.R_below HR15.out hb); have HB16 := Aside0.mk (HB15.out.trans (hb.mono HB15.out.size)); clear hr hb)
                  | (go_at_call 30; (with_reducible refine (HSA.out w16 A15 c15 A16 c16 (Kd.R_reads' HR15'.out).2.2 (Kd.R_reads' HR15'.out).2.1 (Kd.R_reads' HR16.out).2.2 (Kd.R_reads' HR16.out).2.1).mono ?_); rintro e w17 ⟨rfl, hq⟩; obtain ⟨nq, rfl⟩ := hq.out; have HB17 := Aside0.mk (show Below w14.heap.size w14 (w16.drewN nq) from pw_below_drewN HB16.out nq); clear hq)
                  | (go_at_call 61; (with_reducible refine (HCU.out (w16.drewN nq) HB17.out).mono ?_); rintro e w18 ⟨rfl, hb⟩; have HB18 := Aside0.mk (HB17.out.trans (hb.mono HB17.out.size)); clear hb)
                  | (go_at_call 61; (with_reducible refine (HCT.out w18 HB18.out).mono ?_); rintro e w19 ⟨rfl, hb⟩; have HB19 := Aside0.mk (HB18.out.trans (hb.mono HB18.out.size)); clear hb)
                  | (go_at_call 59; (with_reducible refine (HHU.out w19 HB19.out).mono ?_); rintro e w20 ⟨rfl, hb⟩; have HB20 := Aside0.mk (HB19.out.trans (hb.mono HB19.out.size)); clear hb)
                  | (go_at_call 59; (with_reducible refine (HHT.out w20 HB20.out).mono ?_); rintro e w21 ⟨rfl, hb⟩; have HB21 := Aside0.mk (HB20.out.trans (hb.mono HB20.out.size)); clear hb))
                go_ret
                exact ⟨by simp, HB14.out.trans (HB21.out.mono HB14.out.size)⟩
end Go.Proofs.Ytioooiflpabngaa.PAll
end
section
namespace Go.Proofs.Ytioooiflpabngaa
theorem head_signs : Try.prog.initOrder.toList = [104, 97, 114, 110, 101, 115, 115, 32, 98, 100, 54, 52, 55, 100, 48, 52, 56, 99, 56, 57, 55, 50, 49, 57, 98, 52, 100, 49, 52, 51, 55, 98, 57, 48, 102, 102, 48, 56, 49, 50, 49, 53, 100, 52, 49, 53, 51, 54, 99, 100, 49, 54, 52, 54, 49, 100, 52, 97, 49, 97, 54, 54, 102, 52, 101, 56, 53, 55, 97, 101, 50, 55, 32, 99, 117, 116, 32, 97, 116, 32, 102, 111, 108, 107, 109, 111, 111, 116, 47, 102, 111, 108, 107, 109, 111, 111, 116, 108, 97, 119, 49, 53, 46, 67, 111, 110, 116, 101, 110, 116, 70, 105, 110, 100, 115, 32, 102, 111, 108, 107, 109, 111, 111, 116, 47, 102, 111, 108, 107, 109, 111, 111, 116, 108, 97, 119, 49, 53, 46, 67, 111, 110, 116, 101, 110, 116, 75, 101, 101, 112, 115, 32, 102, 111, 108, 107, 109, 111, 111, 116, 47, 102, 111, 108, 107, 109, 111, 111, 116, 108, 97, 119, 49, 53, 46, 67, 111, 110, 116, 101, 110, 116, 77, 101, 114, 103, 101, 115, 32, 102, 111, 108, 107, 109, 111, 111, 116, 47, 102, 111, 108, 107, 109, 111, 111, 116, 108, 97, 119, 49, 53, 46, 67, 111, 110, 116, 101, 110, 116, 79, 114, 100, 101, 114, 32, 102, 111, 108, 107, 109, 111, 111, 116, 47, 102, 111, 108, 107, 109, 111, 111, 116, 108, 97, 119, 48, 53, 46, 76, 97, 98, 101, 108, 75, 101, 101, 112, 115, 32, 102, 111, 108, 107, 109, 111, 111, 116, 47, 102, 111, 108, 107, 109, 111, 111, 116, 108, 97, 119, 48, 53, 46, 76, 97, 98, 101, 108, 80, 97, 114, 116, 115, 32, 102, 111, 108, 107, 109, 111, 111, 116, 47, 102, 111, 108, 107, 109, 111, 111, 116, 108, 97, 119, 48, 53, 46, 76, 97, 98, 101, 108, 83, 111, 114, 116, 115, 32, 102, 111, 108, 107, 109, 111, 111, 116, 47, 102, 111, 108, 107, 109, 111, 111, 116, 108, 97, 119, 48, 53, 46, 76, 97, 98, 101, 108, 66, 101, 104, 105, 110, 100, 32, 102, 111, 108, 107, 109, 111, 111, 116, 47, 102, 111, 108, 107, 109, 111, 111, 116, 108, 97, 119, 48, 53, 46, 76, 97, 98, 101, 108, 79, 114, 100, 101, 114, 32, 102, 111, 108, 107, 109, 111, 111, 116, 47, 102, 111, 108, 107, 109, 111, 111, 116, 108, 97, 119, 49, 53, 46, 67, 111, 110, 116, 101, 110, 116, 65, 112, 97, 114, 116, 32, 102, 111, 108, 107, 109, 111, 111, 116, 47, 102, 111, 108, 107, 109, 111, 111, 116, 108, 97, 119, 49, 53, 46, 67, 111, 110, 116, 101, 110, 116, 79, 110, 101, 32, 102, 111, 108, 107, 109, 111, 111, 116, 47, 102, 111, 108, 107, 109, 111, 111, 116, 108, 97, 119, 49, 53, 46, 67, 111, 110, 116, 101, 110, 116, 82, 101, 97, 100, 115, 32, 102, 111, 108, 107, 109, 111, 111, 116, 47, 102, 111, 108, 107, 109, 111, 111, 116, 108, 97, 119, 49, 53, 46, 67, 111, 110, 116, 101, 110, 116, 65, 108, 108, 32, 102, 111, 108, 107, 109, 111, 111, 116, 47, 102, 111, 108, 107, 109, 111, 111, 116, 108, 97, 119, 49, 54, 46, 69, 120, 99, 104, 97, 110, 103, 101, 80, 108, 97, 121, 115, 32, 102, 111, 108, 107, 109, 111, 111, 116, 47, 102, 111, 108, 107, 109, 111, 111, 116, 108, 97, 119, 49, 54, 46, 69, 120, 99, 104, 97, 110, 103, 101, 84, 117, 114, 110, 101, 100, 32, 102, 111, 108, 107, 109, 111, 111, 116, 47, 102, 111, 108, 107, 109, 111, 111, 116, 108, 97, 119, 49, 54, 46, 69, 120, 99, 104, 97, 110, 103, 101, 70, 117, 108, 108, 32, 102, 111, 108, 107, 109, 111, 111, 116, 47, 102, 111, 108, 107, 109, 111, 111, 116, 108, 97, 119, 49, 54, 46, 69, 120, 99, 104, 97, 110, 103, 101, 75, 101, 101, 112, 115, 32, 102, 111, 108, 107, 109, 111, 111, 116, 47, 102, 111, 108, 107, 109, 111, 111, 116, 108, 97, 119, 49, 54, 46, 69, 120, 99, 104, 97, 110, 103, 101, 79, 110, 101, 32, 102, 111, 108, 107, 109, 111, 111, 116, 47, 102, 111, 108, 107, 109, 111, 111, 116, 108, 97, 119, 49, 54, 46, 69, 120, 99, 104, 97, 110, 103, 101, 77, 111, 114, 101].map Char.ofNat := by
  have h : Try.prog.initOrder = String.ofList ([104, 97, 114, 110, 101, 115, 115, 32, 98, 100, 54, 52, 55, 100, 48, 52, 56, 99, 56, 57, 55, 50, 49, 57, 98, 52, 100, 49, 52, 51, 55, 98, 57, 48, 102, 102, 48, 56, 49, 50, 49, 53, 100, 52, 49, 53, 51, 54, 99, 100, 49, 54, 52, 54, 49, 100, 52, 97, 49, 97, 54, 54, 102, 52, 101, 56, 53, 55, 97, 101, 50, 55, 32, 99, 117, 116, 32, 97, 116, 32, 102, 111, 108, 107, 109, 111, 111, 116, 47, 102, 111, 108, 107, 109, 111, 111, 116, 108, 97, 119, 49, 53, 46, 67, 111, 110, 116, 101, 110, 116, 70, 105, 110, 100, 115, 32, 102, 111, 108, 107, 109, 111, 111, 116, 47, 102, 111, 108, 107, 109, 111, 111, 116, 108, 97, 119, 49, 53, 46, 67, 111, 110, 116, 101, 110, 116, 75, 101, 101, 112, 115, 32, 102, 111, 108, 107, 109, 111, 111, 116, 47, 102, 111, 108, 107, 109, 111, 111, 116, 108, 97, 119, 49, 53, 46, 67, 111, 110, 116, 101, 110, 116, 77, 101, 114, 103, 101, 115, 32, 102, 111, 108, 107, 109, 111, 111, 116, 47, 102, 111, 108, 107, 109, 111, 111, 116, 108, 97, 119, 49, 53, 46, 67, 111, 110, 116, 101, 110, 116, 79, 114, 100, 101, 114, 32, 102, 111, 108, 107, 109, 111, 111, 116, 47, 102, 111, 108, 107, 109, 111, 111, 116, 108, 97, 119, 48, 53, 46, 76, 97, 98, 101, 108, 75, 101, 101, 112, 115, 32, 102, 111, 108, 107, 109, 111, 111, 116, 47, 102, 111, 108, 107, 109, 111, 111, 116, 108, 97, 119, 48, 53, 46, 76, 97, 98, 101, 108, 80, 97, 114, 116, 115, 32, 102, 111, 108, 107, 109, 111, 111, 116, 47, 102, 111, 108, 107, 109, 111, 111, 116, 108, 97, 119, 48, 53, 46, 76, 97, 98, 101, 108, 83, 111, 114, 116, 115, 32, 102, 111, 108, 107, 109, 111, 111, 116, 47, 102, 111, 108, 107, 109, 111, 111, 116, 108, 97, 119, 48, 53, 46, 76, 97, 98, 101, 108, 66, 101, 104, 105, 110, 100, 32, 102, 111, 108, 107, 109, 111, 111, 116, 47, 102, 111, 108, 107, 109, 111, 111, 116, 108, 97, 119, 48, 53, 46, 76, 97, 98, 101, 108, 79, 114, 100, 101, 114, 32, 102, 111, 108, 107, 109, 111, 111, 116, 47, 102, 111, 108, 107, 109, 111, 111, 116, 108, 97, 119, 49, 53, 46, 67, 111, 110, 116, 101, 110, 116, 65, 112, 97, 114, 116, 32, 102, 111, 108, 107, 109, 111, 111, 116, 47, 102, 111, 108, 107, 109, 111, 111, 116, 108, 97, 119, 49, 53, 46, 67, 111, 110, 116, 101, 110, 116, 79, 110, 101, 32, 102, 111, 108, 107, 109, 111, 111, 116, 47, 102, 111, 108, 107, 109, 111, 111, 116, 108, 97, 119, 49, 53, 46, 67, 111, 110, 116, 101, 110, 116, 82, 101, 97, 100, 115, 32, 102, 111, 108, 107, 109, 111, 111, 116, 47, 102, 111, 108, 107, 109, 111, 111, 116, 108, 97, 119, 49, 53, 46, 67, 111, 110, 116, 101, 110, 116, 65, 108, 108, 32, 102, 111, 108, 107, 109, 111, 111, 116, 47, 102, 111, 108, 107, 109, 111, 111, 116, 108, 97, 119, 49, 54, 46, 69, 120, 99, 104, 97, 110, 103, 101, 80, 108, 97, 121, 115, 32, 102, 111, 108, 107, 109, 111, 111, 116, 47, 102, 111, 108, 107, 109, 111, 111, 116, 108, 97, 119, 49, 54, 46, 69, 120, 99, 104, 97, 110, 103, 101, 84, 117, 114, 110, 101, 100, 32, 102, 111, 108, 107, 109, 111, 111, 116, 47, 102, 111, 108, 107, 109, 111, 111, 116, 108, 97, 119, 49, 54, 46, 69, 120, 99, 104, 97, 110, 103, 101, 70, 117, 108, 108, 32, 102, 111, 108, 107, 109, 111, 111, 116, 47, 102, 111, 108, 107, 109, 111, 111, 116, 108, 97, 119, 49, 54, 46, 69, 120, 99, 104, 97, 110, 103, 101, 75, 101, 101, 112, 115, 32, 102, 111, 108, 107, 109, 111, 111, 116, 47, 102, 111, 108, 107, 109, 111, 111, 116, 108, 97, 119, 49, 54, 46, 69, 120, 99, 104, 97, 110, 103, 101, 79, 110, 101, 32, 102, 111, 108, 107, 109, 111, 111, 116, 47, 102, 111, 108, 107, 109, 111, 111, 116, 108, 97, 119, 49, 54, 46, 69, 120, 99, 104, 97, 110, 103, 101, 77, 111, 114, 101].map Char.ofNat) := by kernel_rfl
  rw [h, String.toList_ofList]
theorem head_words : wordsSigns ([104, 97, 114, 110, 101, 115, 115, 32, 98, 100, 54, 52, 55, 100, 48, 52, 56, 99, 56, 57, 55, 50, 49, 57, 98, 52, 100, 49, 52, 51, 55, 98, 57, 48, 102, 102, 48, 56, 49, 50, 49, 53, 100, 52, 49, 53, 51, 54, 99, 100, 49, 54, 52, 54, 49, 100, 52, 97, 49, 97, 54, 54, 102, 52, 101, 56, 53, 55, 97, 101, 50, 55, 32, 99, 117, 116, 32, 97, 116, 32, 102, 111, 108, 107, 109, 111, 111, 116, 47, 102, 111, 108, 107, 109, 111, 111, 116, 108, 97, 119, 49, 53, 46, 67, 111, 110, 116, 101, 110, 116, 70, 105, 110, 100, 115, 32, 102, 111, 108, 107, 109, 111, 111, 116, 47, 102, 111, 108, 107, 109, 111, 111, 116, 108, 97, 119, 49, 53, 46, 67, 111, 110, 116, 101, 110, 116, 75, 101, 101, 112, 115, 32, 102, 111, 108, 107, 109, 111, 111, 116, 47, 102, 111, 108, 107, 109, 111, 111, 116, 108, 97, 119, 49, 53, 46, 67, 111, 110, 116, 101, 110, 116, 77, 101, 114, 103, 101, 115, 32, 102, 111, 108, 107, 109, 111, 111, 116, 47, 102, 111, 108, 107, 109, 111, 111, 116, 108, 97, 119, 49, 53, 46, 67, 111, 110, 116, 101, 110, 116, 79, 114, 100, 101, 114, 32, 102, 111, 108, 107, 109, 111, 111, 116, 47, 102, 111, 108, 107, 109, 111, 111, 116, 108, 97, 119, 48, 53, 46, 76, 97, 98, 101, 108, 75, 101, 101, 112, 115, 32, 102, 111, 108, 107, 109, 111, 111, 116, 47, 102, 111, 108, 107, 109, 111, 111, 116, 108, 97, 119, 48, 53, 46, 76, 97, 98, 101, 108, 80, 97, 114, 116, 115, 32, 102, 111, 108, 107, 109, 111, 111, 116, 47, 102, 111, 108, 107, 109, 111, 111, 116, 108, 97, 119, 48, 53, 46, 76, 97, 98, 101, 108, 83, 111, 114, 116, 115, 32, 102, 111, 108, 107, 109, 111, 111, 116, 47, 102, 111, 108, 107, 109, 111, 111, 116, 108, 97, 119, 48, 53, 46, 76, 97, 98, 101, 108, 66, 101, 104, 105, 110, 100, 32, 102, 111, 108, 107, 109, 111, 111, 116, 47, 102, 111, 108, 107, 109, 111, 111, 116, 108, 97, 119, 48, 53, 46, 76, 97, 98, 101, 108, 79, 114, 100, 101, 114, 32, 102, 111, 108, 107, 109, 111, 111, 116, 47, 102, 111, 108, 107, 109, 111, 111, 116, 108, 97, 119, 49, 53, 46, 67, 111, 110, 116, 101, 110, 116, 65, 112, 97, 114, 116, 32, 102, 111, 108, 107, 109, 111, 111, 116, 47, 102, 111, 108, 107, 109, 111, 111, 116, 108, 97, 119, 49, 53, 46, 67, 111, 110, 116, 101, 110, 116, 79, 110, 101, 32, 102, 111, 108, 107, 109, 111, 111, 116, 47, 102, 111, 108, 107, 109, 111, 111, 116, 108, 97, 119, 49, 53, 46, 67, 111, 110, 116, 101, 110, 116, 82, 101, 97, 100, 115, 32, 102, 111, 108, 107, 109, 111, 111, 116, 47, 102, 111, 108, 107, 109, 111, 111, 116, 108, 97, 119, 49, 53, 46, 67, 111, 110, 116, 101, 110, 116, 65, 108, 108, 32, 102, 111, 108, 107, 109, 111, 111, 116, 47, 102, 111, 108, 107, 109, 111, 111, 116, 108, 97, 119, 49, 54, 46, 69, 120, 99, 104, 97, 110, 103, 101, 80, 108, 97, 121, 115, 32, 102, 111, 108, 107, 109, 111, 111, 116, 47, 102, 111, 108, 107, 109, 111, 111, 116, 108, 97, 119, 49, 54, 46, 69, 120, 99, 104, 97, 110, 103, 101, 84, 117, 114, 110, 101, 100, 32, 102, 111, 108, 107, 109, 111, 111, 116, 47, 102, 111, 108, 107, 109, 111, 111, 116, 108, 97, 119, 49, 54, 46, 69, 120, 99, 104, 97, 110, 103, 101, 70, 117, 108, 108, 32, 102, 111, 108, 107, 109, 111, 111, 116, 47, 102, 111, 108, 107, 109, 111, 111, 116, 108, 97, 119, 49, 54, 46, 69, 120, 99, 104, 97, 110, 103, 101, 75, 101, 101, 112, 115, 32, 102, 111, 108, 107, 109, 111, 111, 116, 47, 102, 111, 108, 107, 109, 111, 111, 116, 108, 97, 119, 49, 54, 46, 69, 120, 99, 104, 97, 110, 103, 101, 79, 110, 101, 32, 102, 111, 108, 107, 109, 111, 111, 116, 47, 102, 111, 108, 107, 109, 111, 111, 116, 108, 97, 119, 49, 54, 46, 69, 120, 99, 104, 97, 110, 103, 101, 77, 111, 114, 101].map Char.ofNat) = [[104, 97, 114, 110, 101, 115, 115], [98, 100, 54, 52, 55, 100, 48, 52, 56, 99, 56, 57, 55, 50, 49, 57, 98, 52, 100, 49, 52, 51, 55, 98, 57, 48, 102, 102, 48, 56, 49, 50, 49, 53, 100, 52, 49, 53, 51, 54, 99, 100, 49, 54, 52, 54, 49, 100, 52, 97, 49, 97, 54, 54, 102, 52, 101, 56, 53, 55, 97, 101, 50, 55], [99, 117, 116], [97, 116], [102, 111, 108, 107, 109, 111, 111, 116, 47, 102, 111, 108, 107, 109, 111, 111, 116, 108, 97, 119, 49, 53, 46, 67, 111, 110, 116, 101, 110, 116, 70, 105, 110, 100, 115], [102, 111, 108, 107, 109, 111, 111, 116, 47, 102, 111, 108, 107, 109, 111, 111, 116, 108, 97, 119, 49, 53, 46, 67, 111, 110, 116, 101, 110, 116, 75, 101, 101, 112, 115], [102, 111, 108, 107, 109, 111, 111, 116, 47, 102, 111, 108, 107, 109, 111, 111, 116, 108, 97, 119, 49, 53, 46, 67, 111, 110, 116, 101, 110, 116, 77, 101, 114, 103, 101, 115], [102, 111, 108, 107, 109, 111, 111, 116, 47, 102, 111, 108, 107, 109, 111, 111, 116, 108, 97, 119, 49, 53, 46, 67, 111, 110, 116, 101, 110, 116, 79, 114, 100, 101, 114], [102, 111, 108, 107, 109, 111, 111, 116, 47, 102, 111, 108, 107, 109, 111, 111, 116, 108, 97, 119, 48, 53, 46, 76, 97, 98, 101, 108, 75, 101, 101, 112, 115], [102, 111, 108, 107, 109, 111, 111, 116, 47, 102, 111, 108, 107, 109, 111, 111, 116, 108, 97, 119, 48, 53, 46, 76, 97, 98, 101, 108, 80, 97, 114, 116, 115], [102, 111, 108, 107, 109, 111, 111, 116, 47, 102, 111, 108, 107, 109, 111, 111, 116, 108, 97, 119, 48, 53, 46, 76, 97, 98, 101, 108, 83, 111, 114, 116, 115], [102, 111, 108, 107, 109, 111, 111, 116, 47, 102, 111, 108, 107, 109, 111, 111, 116, 108, 97, 119, 48, 53, 46, 76, 97, 98, 101, 108, 66, 101, 104, 105, 110, 100], [102, 111, 108, 107, 109, 111, 111, 116, 47, 102, 111, 108, 107, 109, 111, 111, 116, 108, 97, 119, 48, 53, 46, 76, 97, 98, 101, 108, 79, 114, 100, 101, 114], [102, 111, 108, 107, 109, 111, 111, 116, 47, 102, 111, 108, 107, 109, 111, 111, 116, 108, 97, 119, 49, 53, 46, 67, 111, 110, 116, 101, 110, 116, 65, 112, 97, 114, 116], [102, 111, 108, 107, 109, 111, 111, 116, 47, 102, 111, 108, 107, 109, 111, 111, 116, 108, 97, 119, 49, 53, 46, 67, 111, 110, 116, 101, 110, 116, 79, 110, 101], [102, 111, 108, 107, 109, 111, 111, 116, 47, 102, 111, 108, 107, 109, 111, 111, 116, 108, 97, 119, 49, 53, 46, 67, 111, 110, 116, 101, 110, 116, 82, 101, 97, 100, 115], [102, 111, 108, 107, 109, 111, 111, 116, 47, 102, 111, 108, 107, 109, 111, 111, 116, 108, 97, 119, 49, 53, 46, 67, 111, 110, 116, 101, 110, 116, 65, 108, 108], [102, 111, 108, 107, 109, 111, 111, 116, 47, 102, 111, 108, 107, 109, 111, 111, 116, 108, 97, 119, 49, 54, 46, 69, 120, 99, 104, 97, 110, 103, 101, 80, 108, 97, 121, 115], [102, 111, 108, 107, 109, 111, 111, 116, 47, 102, 111, 108, 107, 109, 111, 111, 116, 108, 97, 119, 49, 54, 46, 69, 120, 99, 104, 97, 110, 103, 101, 84, 117, 114, 110, 101, 100], [102, 111, 108, 107, 109, 111, 111, 116, 47, 102, 111, 108, 107, 109, 111, 111, 116, 108, 97, 119, 49, 54, 46, 69, 120, 99, 104, 97, 110, 103, 101, 70, 117, 108, 108], [102, 111, 108, 107, 109, 111, 111, 116, 47, 102, 111, 108, 107, 109, 111, 111, 116, 108, 97, 119, 49, 54, 46, 69, 120, 99, 104, 97, 110, 103, 101, 75, 101, 101, 112, 115], [102, 111, 108, 107, 109, 111, 111, 116, 47, 102, 111, 108, 107, 109, 111, 111, 116, 108, 97, 119, 49, 54, 46, 69, 120, 99, 104, 97, 110, 103, 101, 79, 110, 101], [102, 111, 108, 107, 109, 111, 111, 116, 47, 102, 111, 108, 107, 109, 111, 111, 116, 108, 97, 119, 49, 54, 46, 69, 120, 99, 104, 97, 110, 103, 101, 77, 111, 114, 101]].map (List.map Char.ofNat) := by kernel_rfl
theorem head_behind : ∃ rest, behindMainWord (wordsSigns Try.prog.initOrder.toList) = [99, 117, 116].map Char.ofNat :: rest := by
  rw [head_signs, head_words]
  exact ⟨[[99, 117, 116], [97, 116], [102, 111, 108, 107, 109, 111, 111, 116, 47, 102, 111, 108, 107, 109, 111, 111, 116, 108, 97, 119, 49, 53, 46, 67, 111, 110, 116, 101, 110, 116, 70, 105, 110, 100, 115], [102, 111, 108, 107, 109, 111, 111, 116, 47, 102, 111, 108, 107, 109, 111, 111, 116, 108, 97, 119, 49, 53, 46, 67, 111, 110, 116, 101, 110, 116, 75, 101, 101, 112, 115], [102, 111, 108, 107, 109, 111, 111, 116, 47, 102, 111, 108, 107, 109, 111, 111, 116, 108, 97, 119, 49, 53, 46, 67, 111, 110, 116, 101, 110, 116, 77, 101, 114, 103, 101, 115], [102, 111, 108, 107, 109, 111, 111, 116, 47, 102, 111, 108, 107, 109, 111, 111, 116, 108, 97, 119, 49, 53, 46, 67, 111, 110, 116, 101, 110, 116, 79, 114, 100, 101, 114], [102, 111, 108, 107, 109, 111, 111, 116, 47, 102, 111, 108, 107, 109, 111, 111, 116, 108, 97, 119, 48, 53, 46, 76, 97, 98, 101, 108, 75, 101, 101, 112, 115], [102, 111, 108, 107, 109, 111, 111, 116, 47, 102, 111, 108, 107, 109, 111, 111, 116, 108, 97, 119, 48, 53, 46, 76, 97, 98, 101, 108, 80, 97, 114, 116, 115], [102, 111, 108, 107, 109, 111, 111, 116, 47, 102, 111, 108, 107, 109, 111, 111, 116, 108, 97, 119, 48, 53, 46, 76, 97, 98, 101, 108, 83, 111, 114, 116, 115], [102, 111, 108, 107, 109, 111, 111, 116, 47, 102, 111, 108, 107, 109, 111, 111, 116, 108, 97, 119, 48, 53, 46, 76, 97, 98, 101, 108, 66, 101, 104, 105, 110, 100], [102, 111, 108, 107, 109, 111, 111, 116, 47, 102, 111, 108, 107, 109, 111, 111, 116, 108, 97, 119, 48, 53, 46, 76, 97, 98, 101, 108, 79, 114, 100, 101, 114], [102, 111, 108, 107, 109, 111, 111, 116, 47, 102, 111, 108, 107, 109, 111, 111, 116, 108, 97, 119, 49, 53, 46, 67, 111, 110, 116, 101, 110, 116, 65, 112, 97, 114, 116], [102, 111, 108, 107, 109, 111, 111, 116, 47, 102, 111, 108, 107, 109, 111, 111, 116, 108, 97, 119, 49, 53, 46, 67, 111, 110, 116, 101, 110, 116, 79, 110, 101], [102, 111, 108, 107, 109, 111, 111, 116, 47, 102, 111, 108, 107, 109, 111, 111, 116, 108, 97, 119, 49, 53, 46, 67, 111, 110, 116, 101, 110, 116, 82, 101, 97, 100, 115], [102, 111, 108, 107, 109, 111, 111, 116, 47, 102, 111, 108, 107, 109, 111, 111, 116, 108, 97, 119, 49, 53, 46, 67, 111, 110, 116, 101, 110, 116, 65, 108, 108], [102, 111, 108, 107, 109, 111, 111, 116, 47, 102, 111, 108, 107, 109, 111, 111, 116, 108, 97, 119, 49, 54, 46, 69, 120, 99, 104, 97, 110, 103, 101, 80, 108, 97, 121, 115], [102, 111, 108, 107, 109, 111, 111, 116, 47, 102, 111, 108, 107, 109, 111, 111, 116, 108, 97, 119, 49, 54, 46, 69, 120, 99, 104, 97, 110, 103, 101, 84, 117, 114, 110, 101, 100], [102, 111, 108, 107, 109, 111, 111, 116, 47, 102, 111, 108, 107, 109, 111, 111, 116, 108, 97, 119, 49, 54, 46, 69, 120, 99, 104, 97, 110, 103, 101, 70, 117, 108, 108], [102, 111, 108, 107, 109, 111, 111, 116, 47, 102, 111, 108, 107, 109, 111, 111, 116, 108, 97, 119, 49, 54, 46, 69, 120, 99, 104, 97, 110, 103, 101, 75, 101, 101, 112, 115], [102, 111, 108, 107, 109, 111, 111, 116, 47, 102, 111, 108, 107, 109, 111, 111, 116, 108, 97, 119, 49, 54, 46, 69, 120, 99, 104, 97, 110, 103, 101, 79, 110, 101], [102, 111, 108, 107, 109, 111, 111, 116, 47, 102, 111, 108, 107, 109, 111, 111, 116, 108, 97, 119, 49, 54, 46, 69, 120, 99, 104, 97, 110, 103, 101, 77, 111, 114, 101]].tail.map (List.map Char.ofNat), by kernel_rfl⟩
theorem cut_gc : (([99, 117, 116].map Char.ofNat) == "gc".toList) = false := by kernel_rfl
theorem cut_spec : (([99, 117, 116].map Char.ofNat) == "spec".toList) = false := by kernel_rfl
theorem cut_carried : (([99, 117, 116].map Char.ofNat) == "carried".toList) = false := by kernel_rfl
theorem cut_cut : (([99, 117, 116].map Char.ofNat) == "cut".toList) = true := by kernel_rfl
theorem cut_some (rest : List (List Char)) : ((([99, 117, 116].map Char.ofNat) :: rest).head? == some "cut".toList) = true := cut_cut
theorem cut_strip (rest : List (List Char)) : stripLifts liftWords (([99, 117, 116].map Char.ofNat) :: rest) = ([], ([99, 117, 116].map Char.ofNat) :: rest) := by
  simp only [liftWords, stripLifts]
  rfl
theorem make_of {P : Program} {rest : List (List Char)} (h : behindMainWord (wordsSigns P.initOrder.toList) = [99, 117, 116].map Char.ofNat :: rest) : P.make = some .cut := by
  unfold Program.make
  rw [h]
  simp only [cut_gc, cut_spec, cut_cut, Bool.or_false, Bool.true_or, Bool.false_eq_true, if_false, if_true]
theorem lifts_of {P : Program} {rest : List (List Char)} (h : behindMainWord (wordsSigns P.initOrder.toList) = [99, 117, 116].map Char.ofNat :: rest) : P.liftsFinal = false := by
  unfold Program.liftsFinal Program.headLifts
  rw [h]
  simp only [cut_strip, List.head?_cons]
  show ((([99, 117, 116].map Char.ofNat) == "carried".toList) && _ || _) = false
  rw [cut_carried]
  kernel_rfl
theorem enter_of {P : Program} {rest : List (List Char)} (h : behindMainWord (wordsSigns P.initOrder.toList) = [99, 117, 116].map Char.ofNat :: rest) (h1 : P.laysLater = false) (h2 : P.bearsReflect = false) (h3 : P.doorFits [] = true) : P.mayEnter = true := by
  unfold Program.mayEnter
  rw [h]
  simp only [cut_strip, cut_some, cut_gc, cut_spec, cut_carried, h1, h2, h3, Bool.not_false, Bool.or_true, Bool.and_true, Bool.or_false, Bool.false_and, List.contains_nil]
theorem head_make : Try.prog.make = some .cut := head_behind.elim fun _ h => make_of h
theorem head_lifts : Try.prog.liftsFinal = false := head_behind.elim fun _ h => lifts_of h
theorem head_enter : Try.prog.mayEnter = true := head_behind.elim fun _ h => enter_of h (by kernel_rfl) (by kernel_rfl) (by kernel_rfl)
end Go.Proofs.Ytioooiflpabngaa
end
section
namespace Go.Proofs.Ytioooiflpabngaa.exchangeMore
open Go.ChangeShapes Go.WideShapes Go.ChangeAt Go.RowKit Go.Proofs.Ytioooiflpabngaa.PAll
set_option linter.unusedVariables false
theorem own : ownKnob Try.prog.godebug = none := by kernel_rfl
theorem laidOut : laidOutB Try.prog = true := by kernel_rfl
set_option maxRecDepth 100000 in
theorem lifted (os : Os) (started : os.Started) (H : Type) (enc : TypeId × Value → H) :
    ReturnsInHanded {} Try.checked os 21 .any (Rows.exchangeMoreSpec.pre6 enc Try.prog Try.f21 Rows.exchangeMoreRow.domain false) (Rows.exchangeMoreSpec.post enc Try.prog Try.f21 false true false false) := by
  refine returnsInHanded_of_change_sized (C := Try.checked) own started (by kernel_rfl) Try.func21
    (ChangeSpec.witness6 (enc := enc) (C := Try.checked) false ⟨#[], #[.slice none 0 0, .agg #[.slice none 0 0, .slice none 0 0, .int .i64 0, .int .u64 0, .int .i64 0]], []⟩ 8 (by kernel_rfl) (by kernel_rfl) (by kernel_rfl) (by kernel_rfl)) ?_
  intro W base args ds gs before hval0 hW hcnd hsz0 _
  have hsz : (DataW.weightsEach Try.prog (Try.f21.params.toList ++ Rows.exchangeMoreSpec.plain.varTypes Try.prog) (ds ++ gs)).all (· ≤ reachBytes) = true := hsz0
  have hval : ∀ (j : Nat) t v, Try.f21.params[j]? = some t → args[j]? = some v → Value.okWide Try.prog W .any base t v := hval0
  have hW' := hW
  obtain ⟨p, q, hA0, hV, rfl, hfz, hnd⟩ := hW
  have hA : DataW.TrodAll enc Try.prog W 0 (fun _ => true) true Try.f21.params.toList args.toList ds p := hA0
  rw [Try.params21] at hA hval hsz
  obtain ⟨v0, vs0, d0, ds0, p0, q0, hargs, rfl, rfl, h0, r0⟩ := trodAll_cons hA
  obtain ⟨v1, vs1, d1, ds1, p1, q1, rfl, rfl, rfl, h1, r1⟩ := trodAll_cons r0
  obtain ⟨rfl, rfl, rfl⟩ := trodAll_nil r1
  obtain rfl : args = #[v0, v1] := by cases args; simp_all
  obtain ⟨rfl, rfl⟩ := trodVars_none hV
  have z0 : ∀ n ∈ d0.weights Try.prog 69, n ≤ reachBytes := fun n hn => of_decide_eq_true (List.all_eq_true.1 hsz _ (DataW.weights_mem_each (j := 0) (t := 69) rfl rfl n hn))
  have k0 := h0
  have lt0 : ∀ x ∈ p0, x.block < W.heap.size := by obtain ⟨m, hm⟩ := k0; exact DataW.trod_lt m _ _ _ hm
  obtain ⟨a0, len0, cap0, rfl⟩ := okWide_slice Try.underlying69 (hval 0 69 v0 rfl rfl)
  obtain ⟨l0, hK0, ok0⟩ := arg_trod opensSs h0 z0
  obtain ⟨rfl, hc0, hr0⟩ := arg_slice hK0
  have z1 : ∀ n ∈ d1.weights Try.prog 53, n ≤ reachBytes := fun n hn => of_decide_eq_true (List.all_eq_true.1 hsz _ (DataW.weights_mem_each (j := 1) (t := 53) rfl rfl n hn))
  have k1 := h1
  have lt1 : ∀ x ∈ p1, x.block < W.heap.size := by obtain ⟨m, hm⟩ := k1; exact DataW.trod_lt m _ _ _ hm
  obtain ⟨cs1, rfl, _⟩ := okWide_struct Try.underlying53 (hval 1 53 v1 rfl rfl)
  obtain ⟨x1, hK1, ok1⟩ := arg_trod opensS h1 z1
  obtain ⟨A1, c1, B1, b1, hcs1, hc1, hr1, hb1, hq1⟩ := k53_open hK1
  have e1 := agg_of hcs1
  subst e1
  clear hA0 hval0 hsz0 hsz
  refine (lawMore.calls _ _ l0 _ _ _ _ x1 W hr0 hc0 hr1 hc1 hq1 hb1 (by have h72 : l0.length * 72 ≤ 0x7ffffffff000 := ok0.1; omega) ok0.2 ok1).mono fun e W' ⟨he, bel⟩ => ?_
  subst he
  exact ⟨_, rfl, _, _, _, [], _, [], hW', trodAll_mk1 (shut_bool Try.underlying4 _), (trodAll_cons_mk (Below.trod laidOut (by kernel_rfl) (of_decide_eq_true (by kernel_rfl)) k0 bel lt0) (trodAll_cons_mk (Below.trod laidOut (by kernel_rfl) (of_decide_eq_true (by kernel_rfl)) k1 bel lt1) trodAll_mk0)), rfl, bel.frame _, fun h => by cases h⟩
theorem closed : joinedFacts Try.prog 21 Try.f21 Rows.exchangeMoreSpec Rows.exchangeMoreRow = true := by
  unfold joinedFacts
  rw [head_enter, head_lifts, head_make]
  kernel_rfl
theorem over : Rows.exchangeMoreRow.holds Try.pinned (OpenSpec.ofChange Rows.exchangeMoreSpec) :=
  OpenClaim.holds_of_wide 21 Try.f21 rfl rfl rfl rfl rfl rfl rfl ⟨rfl, rfl, rfl, rfl, rfl⟩ rfl rfl rfl rfl rfl (by kernel_rfl) Try.func21 closed
    (of_decide_eq_true (by kernel_rfl)) (by unfold Func.isWrapper; first | (rw [if_pos (by decide +kernel)]; kernel_rfl) | (rw [if_neg (by decide +kernel)]; exact ⟨rfl, rfl⟩))
    (fun os started H enc _ => lifted os started H enc)
theorem proved : Rows.ExchangeMoreSaid := over
end Go.Proofs.Ytioooiflpabngaa.exchangeMore
end
