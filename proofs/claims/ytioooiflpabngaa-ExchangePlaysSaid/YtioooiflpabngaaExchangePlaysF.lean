/- Parts: PAllx88, ETold, PAllx99, QExchangePlays, HJoined, RExchangePlays. -/
import Derived.Test.YtioooiflpabngaaExchangePlaysB
import Derived.Test.YtioooiflpabngaaExchangePlaysE
import Derived.Test.YtioooiflpabngaaExchangePlaysD
import Derived.Test.YtioooiflpabngaaExchangePlaysC
import Derived.Test.YtioooiflpabngaaRows
import Derived.ProofKit
import Derived.WalkKit
import Derived.OpenShut
import Derived.ShutString
import Derived.ChangeOld
import Derived.Below
import Derived.SizedLaws
set_option linter.unusedVariables false
set_option linter.unusedSimpArgs false
section
namespace Go.Proofs.Ytioooiflpabngaa.PAll
open Go.RowKit Go.Proofs.YtioooiflpabngaaW.PrintWords Go.Proofs.YtioooiflpabngaaW.PrintLast Go.Proofs.YtioooiflpabngaaW.PrintMore
attribute [local go_sem] max2_int min2_int max_two min_two max_three min_three max_four min_four   -- for this text's walks alone
set_option linter.unusedVariables false
set_option linter.unusedSimpArgs false
def folkmootlaw16_awake.f (k : Nat)  : Option (Bool) := (some (([(⟨0, (⟨([] : List (S32)), ([] : List (S27)), 1, (⟨1, 0⟩ : S25)⟩ : S53)⟩ : S87), (⟨1, (⟨([] : List (S32)), (([(⟨(⟨1, 0⟩ : S25), 1, 0⟩ : S27)] : List (S27))), 2, (⟨2, 0⟩ : S25)⟩ : S53)⟩ : S87)] : List (S87)) : List (S87))).bind fun y759 => ((exchange_Short.f k y759).bind fun t762 => ((folkmootref05_Same.f k t762 (([(⟨(⟨1, 0⟩ : S25), 1, 0⟩ : S27)] : List (S27)))).bind fun t768 => (if t768 = true then ((exchange_Chosen.f k y759).bind fun t769 => (if t769 = 1 then ((exchange_Next.f k y759).bind fun t770 => (some (t770 == 2))) else (some false))) else (some false))))
theorem folkmootlaw16_awake.mono : ∀ k, LeO (folkmootlaw16_awake.f k ) (folkmootlaw16_awake.f (k + 1) ) := by
 intro  k
 unfold folkmootlaw16_awake.f
 repeat' first
   | (with_reducible exact exchange_Chosen.mono _ _)
   | (with_reducible exact exchange_Next.mono _ _)
   | (with_reducible exact exchange_Short.mono _ _)
   | (with_reducible exact folkmootref05_Same.mono _ _ _)
   | (with_reducible exact LeO.refl _)
   | (with_reducible exact LeO.none _)
   | (with_reducible refine LeO.ite ?_ ?_)
   | (with_reducible refine LeO.bind ?_ (fun _ => ?_))
   | exact exchange_Chosen.mono _ _
   | exact exchange_Next.mono _ _
   | exact exchange_Short.mono _ _
   | exact folkmootref05_Same.mono _ _ _
   | exact LeO.none _
   | refine LeO.ite ?_ ?_
   | refine LeO.bind ?_ (fun _ => ?_)
def folkmootlaw16_awake.T3 : Bool × List (List Nat × List Nat) := (true, [([], []), ([0], [0]), ([], []), ([2], [2]), ([1, 3, 1], [1, 3]), ([4, 4], [4]), ([5], [5]), ([6, 5, 5], [5, 6]), ([7, 5], [5, 7]), ([5, 8], [5, 8]), ([9, 7], [9]), ([10], [10]), ([11, 10, 10], [10, 11]), ([12, 10], [10, 12]), ([10, 13], [10, 13]), ([14, 12, 0, 1, 2, 3, 4, 5, 6, 7, 8, 9, 10, 11, 12, 13, 14], [14])])
def folkmootlaw16_awake.B3 : List Nat := [0, 1, 0, 4, 15, 31, 63, 127, 255, 511, 1023, 2047, 4095, 8191, 16383, 32767]
theorem folkmootlaw16_awake.tab3 : rtab .any (opsOf Try.f55 3) = folkmootlaw16_awake.T3 := by kernel_rfl
theorem folkmootlaw16_awake.bits3 : waitsOk folkmootlaw16_awake.T3.2 folkmootlaw16_awake.B3 = true := by kernel_rfl
set_option maxHeartbeats 8000000 in
set_option maxRecDepth 100000 in
theorem folkmootlaw16_awake.calls (k : Nat)  (r : Bool) (w : World) (h : folkmootlaw16_awake.f k  = some r) :
  Calls Try.prog 55 #[] w fun e w' => e = .returned (.bool r) ∧ Below w.heap.size w w' := by
 have hu25 := Try.underlying25
 have hu27 := Try.underlying27
 have hu53 := Try.underlying53
 have hu87 := Try.underlying87
 have HB := Aside0.mk (Below.refl w.heap.size w)
 have H : ((some (([(⟨0, (⟨([] : List (S32)), ([] : List (S27)), 1, (⟨1, 0⟩ : S25)⟩ : S53)⟩ : S87), (⟨1, (⟨([] : List (S32)), (([(⟨(⟨1, 0⟩ : S25), 1, 0⟩ : S27)] : List (S27))), 2, (⟨2, 0⟩ : S25)⟩ : S53)⟩ : S87)] : List (S87)) : List (S87))).bind fun y759 => ((exchange_Short.f k y759).bind fun t762 => ((folkmootref05_Same.f k t762 (([(⟨(⟨1, 0⟩ : S25), 1, 0⟩ : S27)] : List (S27)))).bind fun t768 => (if t768 = true then ((exchange_Chosen.f k y759).bind fun t769 => (if t769 = 1 then ((exchange_Next.f k y759).bind fun t770 => (some (t770 == 2))) else (some false))) else (some false))))) = some r := h
 clear h
 obtain ⟨y756, hy756⟩ : ∃ y_ : List (S27), y_ = (([(⟨(⟨1, 0⟩ : S25), 1, 0⟩ : S27)] : List (S27))) := ⟨_, rfl⟩
 replace H : ((some (([(⟨0, (⟨([] : List (S32)), ([] : List (S27)), 1, (⟨1, 0⟩ : S25)⟩ : S53)⟩ : S87), (⟨1, (⟨([] : List (S32)), y756, 2, (⟨2, 0⟩ : S25)⟩ : S53)⟩ : S87)] : List (S87)) : List (S87))).bind fun y759 => ((exchange_Short.f k y759).bind fun t762 => ((folkmootref05_Same.f k t762 (([(⟨(⟨1, 0⟩ : S25), 1, 0⟩ : S27)] : List (S27)))).bind fun t768 => (if t768 = true then ((exchange_Chosen.f k y759).bind fun t769 => (if t769 = 1 then ((exchange_Next.f k y759).bind fun t770 => (some (t770 == 2))) else (some false))) else (some false))))) = some r := by first | (rw [hy756]; with_reducible exact H) | (have H2_ := (Option.bind_some _ _).symm.trans H; rw [hy756]; with_reducible exact H2_) | (have H2_ := (Option.bind_some _ _).symm.trans H; with_reducible exact H2_) | with_reducible exact H | (rw [hy756]; exact H) | exact H
 have Ny756 := Aside0.mk hy756
 clear hy756
 obtain ⟨y759, hy759⟩ : ∃ y_ : List (S87), y_ = (([(⟨0, (⟨([] : List (S32)), ([] : List (S27)), 1, (⟨1, 0⟩ : S25)⟩ : S53)⟩ : S87), (⟨1, (⟨([] : List (S32)), y756, 2, (⟨2, 0⟩ : S25)⟩ : S53)⟩ : S87)] : List (S87))) := ⟨_, rfl⟩
 replace H : ((exchange_Short.f k y759).bind fun t762 => ((folkmootref05_Same.f k t762 (([(⟨(⟨1, 0⟩ : S25), 1, 0⟩ : S27)] : List (S27)))).bind fun t768 => (if t768 = true then ((exchange_Chosen.f k y759).bind fun t769 => (if t769 = 1 then ((exchange_Next.f k y759).bind fun t770 => (some (t770 == 2))) else (some false))) else (some false)))) = some r := by first | (rw [hy759]; with_reducible exact H) | (have H2_ := (Option.bind_some _ _).symm.trans H; rw [hy759]; with_reducible exact H2_) | (have H2_ := (Option.bind_some _ _).symm.trans H; with_reducible exact H2_) | with_reducible exact H | (rw [hy759]; exact H) | exact H
 have Ny759 := Aside0.mk hy759
 clear hy759
 replace H := Option.bind_eq_some_iff.mp H
 obtain ⟨t762, A10, H⟩ := H
 replace H : ((folkmootref05_Same.f k t762 (([(⟨(⟨1, 0⟩ : S25), 1, 0⟩ : S27)] : List (S27)))).bind fun t768 => (if t768 = true then ((exchange_Chosen.f k y759).bind fun t769 => (if t769 = 1 then ((exchange_Next.f k y759).bind fun t770 => (some (t770 == 2))) else (some false))) else (some false))) = some r := H
 have A1 := Aside0.mk A10
 clear A10
 obtain ⟨y765, hy765⟩ : ∃ y_ : List (S27), y_ = (([(⟨(⟨1, 0⟩ : S25), 1, 0⟩ : S27)] : List (S27))) := ⟨_, rfl⟩
 replace H : ((folkmootref05_Same.f k t762 y765).bind fun t768 => (if t768 = true then ((exchange_Chosen.f k y759).bind fun t769 => (if t769 = 1 then ((exchange_Next.f k y759).bind fun t770 => (some (t770 == 2))) else (some false))) else (some false))) = some r := by first | (rw [hy765]; with_reducible exact H) | (have H2_ := (Option.bind_some _ _).symm.trans H; rw [hy765]; with_reducible exact H2_) | (have H2_ := (Option.bind_some _ _).symm.trans H; with_reducible exact H2_) | with_reducible exact H | (rw [hy765]; exact H) | exact H
 have Ny765 := Aside0.mk hy765
 clear hy765
 replace H := Option.bind_eq_some_iff.mp H
 obtain ⟨t768, A20, H⟩ := H
 replace H : (if t768 = true then ((exchange_Chosen.f k y759).bind fun t769 => (if t769 = 1 then ((exchange_Next.f k y759).bind fun t770 => (some (t770 == 2))) else (some false))) else (some false)) = some r := H
 have A2 := Aside0.mk A20
 clear A20
 by_cases c3 : t768 = true
 ·
  subst c3
  have H1 : ((exchange_Chosen.f k y759).bind fun t769 => (if t769 = 1 then ((exchange_Next.f k y759).bind fun t770 => (some (t770 == 2))) else (some false))) = some r := by rw [if_pos rfl] at H; exact H
  clear H
  have H := H1
  clear H1
  replace H := Option.bind_eq_some_iff.mp H
  obtain ⟨t769, A40, H⟩ := H
  replace H : (if t769 = 1 then ((exchange_Next.f k y759).bind fun t770 => (some (t770 == 2))) else (some false)) = some r := H
  have A4 := Aside0.mk A40
  clear A40
  by_cases c5 : t769 = 1
  ·
   rw [if_pos c5] at H
   have c5b0 : (t769 == 1) = true := beq_iff_eq.mpr c5
   have c5b1 : (t769 != 1) = false := bne_eq_false_iff_eq.mpr c5
   clear c5
   replace H := Option.bind_eq_some_iff.mp H
   obtain ⟨t770, A60, H⟩ := H
   replace H : (some (t770 == 2)) = some r := H
   have A6 := Aside0.mk A60
   clear A60
   obtain rfl := Option.some.inj H
   go_enter Try.func55, Try.ntmps55
   try go_wp2_with (first | ((with_reducible refine gate_dst (N := 1) rfl ?_); refine box_event ?hg (N := 1) ?hd (cs := #[.int .u64 0, .int .i64 0, .int .u64 0, .int .i64 0]) (t := 27) ?hr ?_; (case hd => rfl); (case hg => rfl); (case hr => first | (go_simp; done) | (go_simp; rfl)); intro gb755 hg w7 hbox hb; have n0_ := Aside0.mk (below_step zb_ hb); have n1_ := Aside0.mk (hbox); have n2_ := Aside0.mk ((by rw [hg]; exact (below_size zb_) : w.heap.size ≤ gb755)); have n3_ := Aside0.mk ((by rw [hg]; exact (below_size zb_) : w.heap.size ≤ gb755)); clear HB; have HB := n0_; have BK755 := n1_; have GW755 := n2_; have GE755 := n3_; clear n0_ n1_ n2_ n3_; clear hb hbox hg; have hcz8_0 : w7.cell? ⟨gb755, 0, none⟩ = some (.int .u64 0) := (blk_cell BK755.out 0).trans rfl; have hcz8_1 : w7.cell? ⟨gb755, 1, none⟩ = some (.int .i64 0) := (blk_cell BK755.out 1).trans rfl; have hcz8_2 : w7.cell? ⟨gb755, 2, none⟩ = some (.int .u64 0) := (blk_cell BK755.out 2).trans rfl; have hcz8_3 : w7.cell? ⟨gb755, 3, none⟩ = some (.int .i64 0) := (blk_cell BK755.out 3).trans rfl; have hfz8_0 := blk_frozen BK755.out 0; have hfz8_1 := blk_frozen BK755.out 1; have hfz8_2 := blk_frozen BK755.out 2; have hfz8_3 := blk_frozen BK755.out 3) | ((with_reducible refine gate_dst (N := 10) rfl ?_); refine Kd.R_lit k27 _ 27 ?hg (N := 10) ?hd (xs := ([(⟨(⟨1, 0⟩ : S25), 1, 0⟩ : S27)] : List (S27))) (inner := [.int .u64 1, .int .i64 0, .int .u64 1, .int .i64 0]) (ok := fun _ => True) (okp := fun _ => True) ?hr ?hp (fun _ hk => hk) trivial (Below.refl _ _) (Nat.le_refl _) (by simp) ?_; (case hd => rfl); (case hg => rfl); (case hr => first | (go_simp; done) | (go_simp; rfl)); (case hp => exact (Reps.c4 (show Kd.M k27 _ _ _ (⟨(⟨1, 0⟩ : S25), 1, 0⟩ : S27) [.int .u64 1, .int .i64 0, .int .u64 1, .int .i64 0] from (k27_mkM _ _ _ (⟨(⟨1, 0⟩ : S25), 1, 0⟩ : S27) )) (Reps.none _ _))); intro v757 w9 ho10 hb hg_ hnew_; clear hg_ hnew_; (first | rw [← Ny756.out] at ho10 | (simp only [Int.reduceToNat] at ho10; rw [← Ny756.out] at ho10)); have n0_ := Aside0.mk (Kd.R_lower (Kd.R_newB ho10 (g := gb755) (o := .cells #[.int .u64 1, .int .i64 0, .int .u64 1, .int .i64 0] 27 (0, 0)) (by (with_reducible repeat (first | refine blk_drewN ?_ _ | refine blk_drew ?_ | refine blk_alloc ?_ _)); refine blk_put (cs := #[.int .u64 1, .int .i64 0, .int .u64 1, .int .i64 0]) ?_ 3 _ rfl; (with_reducible repeat (first | refine blk_drewN ?_ _ | refine blk_drew ?_ | refine blk_alloc ?_ _)); refine blk_put (cs := #[.int .u64 1, .int .i64 0, .int .u64 0, .int .i64 0]) ?_ 2 _ rfl; (with_reducible repeat (first | refine blk_drewN ?_ _ | refine blk_drew ?_ | refine blk_alloc ?_ _)); refine blk_put (cs := #[.int .u64 1, .int .i64 0, .int .u64 0, .int .i64 0]) ?_ 1 _ rfl; (with_reducible repeat (first | refine blk_drewN ?_ _ | refine blk_drew ?_ | refine blk_alloc ?_ _)); refine blk_put (cs := #[.int .u64 0, .int .i64 0, .int .u64 0, .int .i64 0]) ?_ 0 _ rfl; (with_reducible repeat (first | refine blk_drewN ?_ _ | refine blk_drew ?_ | refine blk_alloc ?_ _)); exact BK755.out)) (below_size zb_)); have n1_ := Aside0.mk (blk_below (g := gb755) (o := .cells #[.int .u64 1, .int .i64 0, .int .u64 1, .int .i64 0] 27 (0, 0)) (by (with_reducible repeat (first | refine blk_drewN ?_ _ | refine blk_drew ?_ | refine blk_alloc ?_ _)); refine blk_put (cs := #[.int .u64 1, .int .i64 0, .int .u64 1, .int .i64 0]) ?_ 3 _ rfl; (with_reducible repeat (first | refine blk_drewN ?_ _ | refine blk_drew ?_ | refine blk_alloc ?_ _)); refine blk_put (cs := #[.int .u64 1, .int .i64 0, .int .u64 0, .int .i64 0]) ?_ 2 _ rfl; (with_reducible repeat (first | refine blk_drewN ?_ _ | refine blk_drew ?_ | refine blk_alloc ?_ _)); refine blk_put (cs := #[.int .u64 1, .int .i64 0, .int .u64 0, .int .i64 0]) ?_ 1 _ rfl; (with_reducible repeat (first | refine blk_drewN ?_ _ | refine blk_drew ?_ | refine blk_alloc ?_ _)); refine blk_put (cs := #[.int .u64 0, .int .i64 0, .int .u64 0, .int .i64 0]) ?_ 0 _ rfl; (with_reducible repeat (first | refine blk_drewN ?_ _ | refine blk_drew ?_ | refine blk_alloc ?_ _)); exact BK755.out) hb); have n2_ := Aside0.mk (below_step zb_ hb); clear BK755; clear HB; have HO758 := n0_; have BK755 := n1_; have HB := n2_; clear n0_ n1_ n2_; clear hb ho10; obtain ⟨Ao11, co11, eo11⟩ := Kd.R_slice HO758.out; subst eo11) | ((with_reducible refine gate_dst (N := 13) rfl ?_); refine Kd.N_lit k87 _ 87 ?hg (N' := 13) ?hd (xs := ([(⟨0, (⟨([] : List (S32)), ([] : List (S27)), 1, (⟨1, 0⟩ : S25)⟩ : S53)⟩ : S87), (⟨1, (⟨([] : List (S32)), y756, 2, (⟨2, 0⟩ : S25)⟩ : S53)⟩ : S87)] : List (S87))) (inner := [.int .i64 0, .slice none 0 0, .slice none 0 0, .int .i64 1, .int .u64 1, .int .i64 0, .int .i64 1, .slice none 0 0, .slice Ao11 y756.length co11, .int .i64 2, .int .u64 2, .int .i64 0]) (ok := (fun k_ => k_ ≠ gb755)) (okp := (fun k_ => k_ ≠ gb755)) ?hr ?hp (fun _ hk => hk) ((show ∀ k_, w9.heap.size ≤ k_ → (fun k_ => k_ ≠ gb755) k_ from fun k_ hk => Kd.freshB (g := gb755) (o := .cells #[.int .u64 1, .int .i64 0, .int .u64 1, .int .i64 0] 27 (0, 0)) (by (with_reducible repeat (first | refine blk_drewN ?_ _ | refine blk_drew ?_ | refine blk_alloc ?_ _)); exact BK755.out) k_ hk) _ (Nat.le_refl _)) (Below.refl _ _) (Nat.le_refl _) (by simp) ?_; (case hd => rfl); (case hg => rfl); (case hr => first | (go_simp; done) | (go_simp; rfl)); (case hp => exact (Reps.c6 (show Kd.FK k87 _ _ (⟨0, (⟨([] : List (S32)), ([] : List (S27)), 1, (⟨1, 0⟩ : S25)⟩ : S53)⟩ : S87) [.int .i64 0, .slice none 0 0, .slice none 0 0, .int .i64 1, .int .u64 1, .int .i64 0] from (k87_mkF _ _ (⟨0, (⟨([] : List (S32)), ([] : List (S27)), 1, (⟨1, 0⟩ : S25)⟩ : S53)⟩ : S87) (Nat.le_refl _) (Kd.F_nil _ _ _) (Nat.le_refl _) (Kd.F_nil _ _ _))) (Reps.c6 (show Kd.FK k87 _ _ (⟨1, (⟨([] : List (S32)), y756, 2, (⟨2, 0⟩ : S25)⟩ : S53)⟩ : S87) [.int .i64 1, .slice none 0 0, .slice Ao11 y756.length co11, .int .i64 2, .int .u64 2, .int .i64 0] from (k87_mkF _ _ (⟨1, (⟨([] : List (S32)), y756, 2, (⟨2, 0⟩ : S25)⟩ : S53)⟩ : S87) (Nat.le_refl _) (Kd.F_nil _ _ _) (Kd.R_reads' (Kd.R_mono (ok' := (fun k_ => k_ ≠ gb755)) (HO758.out) (fun k_ hk => hk.2))).2.1 (Kd.R_F (Kd.R_mono (ok' := (fun k_ => k_ ≠ gb755)) (HO758.out) (fun k_ hk => hk.2))))) (Reps.none _ _)))); intro v760 w12 ho13 hb hg_ hnew_; clear hg_ hnew_; (first | rw [← Ny759.out] at ho13 | (simp only [Int.reduceToNat] at ho13; rw [← Ny759.out] at ho13)); have n0_ := Aside0.mk (Kd.N_lower ho13 (below_size zb_)); have n1_ := zk_ BK755 hb; have n2_ := Aside0.mk (below_step zb_ hb); clear BK755; clear HB; clear HO758; have HO761 := n0_; have BK755 := n1_; have HB := n2_; clear n0_ n1_ n2_; clear hb ho13; obtain ⟨Ao14, co14, eo14⟩ := Kd.N_slice HO761.out; subst eo14))
   have n0_ := Aside0.mk (Kd.N_drew HO761.out)
   have n1_ := Aside0.mk (blk_drew BK755.out)
   have n2_ := Aside0.mk (below_drew1 HB.out)
   clear HO761
   clear BK755
   clear HB
   have HO761 := n0_
   have BK755 := n1_
   have HB := n2_
   clear n0_ n1_ n2_
   refine start_ (n := 16) (S := fun w' => w'.cell? ⟨gb755, 0, none⟩ = some (.int .u64 1) ∧ w'.cell? ⟨gb755, 1, none⟩ = some (.int .i64 0) ∧ w'.cell? ⟨gb755, 2, none⟩ = some (.int .u64 1) ∧ w'.cell? ⟨gb755, 3, none⟩ = some (.int .i64 0)) (ds := []) #[F_,F_,F_,F_,F_,F_,F_,F_,F_,F_,F_,F_,F_,F_,F_,F_] (by kernel_rfl) rfl rfl ⟨(blk_cell BK755.out 0).trans rfl, (blk_cell BK755.out 1).trans rfl, (blk_cell BK755.out 2).trans rfl, (blk_cell BK755.out 3).trans rfl⟩ (fun hHeld => ?_); refine with_tabW folkmootlaw16_awake.tab3 folkmootlaw16_awake.bits3 (fun HT_ HW_ => ?_)
   generalize w12.drew = w15 at HO761 BK755 HB hHeld ⊢
   refine pure_ (i := 0) (N := some 14) (v := ?_) (a' := ?_) #[T_,F_,F_,F_,F_,F_,F_,F_,F_,F_,F_,F_,F_,F_,F_,F_] rfl rfl (any_of HT_.out (by kernel_rfl)) (fun _ _ _ h => h) (Or.inl ⟨by rfl, ?_⟩) ?_ ?_
   rotate_left
   ·
    intro w'; go_simp; with_reducible rfl
   rotate_left
   ·
    exact zp_
   refine take_ (i := 2) (N := some 16) (v := ?_) (a' := ?_) #[T_,F_,T_,F_,F_,F_,F_,F_,F_,F_,F_,F_,F_,F_,F_,F_] rfl rfl (take_ofW HT_.out HW_.out (by kernel_rfl)) (fun _ _ _ h => h) (Or.inl ⟨by rfl, ?_⟩) hHeld ?_ ?_
   rotate_left
   ·
    rintro w' ⟨s0, s1, s2, s3⟩
    go_simp
    with_reducible rfl
   rotate_left
   ·
    exact zp_
   refine join_ (σ := Value × Value) 12 #[T_,T_,T_,T_,F_,F_,F_,F_,F_,F_,F_,F_,F_,F_,F_,F_] (fun s_ => [(15, s_.1), (17, s_.2)]) (fun s_ w' => (w'.cell? ⟨gb755, 0, none⟩ = some (.int .u64 1) ∧ w'.cell? ⟨gb755, 1, none⟩ = some (.int .i64 0) ∧ w'.cell? ⟨gb755, 2, none⟩ = some (.int .u64 1) ∧ w'.cell? ⟨gb755, 3, none⟩ = some (.int .i64 0)) ∧ (Kd.N k87 87 w' w.heap.size (fun k_ => some k_ ≠ (s_.1 : Value).ownBlock ∧ some k_ ≠ (s_.2 : Value).ownBlock ∧ k_ ≠ gb755) (.slice Ao14 y759.length co14) y759) ∧ (Kd.R k27 27 w' w.heap.size (fun k_ => some k_ ≠ (s_.2 : Value).ownBlock ∧ k_ ≠ gb755) s_.1 t762) ∧ (Kd.R k27 27 w' w.heap.size (fun k_ => some k_ ≠ (s_.1 : Value).ownBlock ∧ k_ ≠ gb755) s_.2 y765) ∧ (w'.heap[gb755]? = some (.cells #[.int .u64 1, .int .i64 0, .int .u64 1, .int .i64 0] 27 (0, 0))) ∧ (Below w.heap.size w w')) ?_ ?_
   rotate_left
   ·
    intro hCont
    refine two_ (i := 1) (j := 3) (Ni := some 15) (Nj := some 17) #[T_,T_,T_,F_,F_,F_,F_,F_,F_,F_,F_,F_,F_,F_,F_,F_] #[T_,F_,T_,T_,F_,F_,F_,F_,F_,F_,F_,F_,F_,F_,F_,F_] rfl rfl rfl rfl (two_of HT_.out (by kernel_rfl)) (by decide) (by decide) (fun K hK => ?_) (fun K hK => ?_)
    ·
     skip
     refine goes_ Try.func62 (by kernel_rfl) rfl #[.slice Ao14 y759.length co14] (by rfl) rfl rfl za_ ?_
     with_reducible refine (exchange_Short.calls k _ _ y759 t762 _ ?side1 ?side2 A1.out).mono ?_
     (case side1 => exact zd_ (Kd.N_reads' HO761.out).2.2)
     (case side2 => exact (Kd.N_reads' HO761.out).2.1)
     rintro e w16 ⟨v763, rfl, ho0, hb⟩
     refine ⟨_, rfl, ?_⟩
     have n0_ := Aside0.mk (Kd.N_elder' (zn_ HO761) (Kd.R_base ho0) hb)
     have n1_ := Aside0.mk (Kd.R_lower (Kd.R_newB ho0 (g := gb755) (o := .cells #[.int .u64 1, .int .i64 0, .int .u64 1, .int .i64 0] 27 (0, 0)) (by (with_reducible repeat (first | refine blk_drewN ?_ _ | refine blk_drew ?_ | refine blk_alloc ?_ _)); exact BK755.out)) (below_size zb_))
     have n2_ := zk_ BK755 hb
     have n3_ := Aside0.mk (below_step zb_ hb)
     clear HO761
     clear BK755
     clear HB
     have HO761 := n0_
     have HO764 := n1_
     have BK755 := n2_
     have HB := n3_
     clear n0_ n1_ n2_ n3_
     (try clear hb)
     (try clear hb2)
     (try clear hk)
     (try clear hi)
     (try clear ho0)
     refine hK.out _ _ ⟨(blk_cell BK755.out 0).trans rfl, (blk_cell BK755.out 1).trans rfl, (blk_cell BK755.out 2).trans rfl, (blk_cell BK755.out 3).trans rfl⟩ (fun hHeld => ?_)
     clear hK K
     refine norm_ (a' := ?_) ?_ ?_
     rotate_left
     ·
      show Act.put _ (some 15) _ = _
      simp only [Act.put, List.setIfInBounds_toArray, List.set_cons_zero, List.set_cons_succ, i64_w, i32_w]
      rfl
     refine one_ (i := 3) (N := some 17) #[T_,T_,T_,T_,F_,F_,F_,F_,F_,F_,F_,F_,F_,F_,F_,F_] rfl rfl (one_of HT_.out (by kernel_rfl)) (by decide) (fun K hK => ?_)
     refine Kd.R_lit_step k27 _ 27 ?hg (N := 17) ?hd (xs := ([(⟨(⟨1, 0⟩ : S25), 1, 0⟩ : S27)] : List (S27))) (inner := [.int .u64 1, .int .i64 0, .int .u64 1, .int .i64 0]) (ok := fun _ => True) (okp := fun _ => True) ?hr ?hp (fun _ hk => hk) trivial (Below.refl _ _) (Nat.le_refl _) (by simp) ?_; (case hd => rfl); (case hg => rfl); (case hr => first | (go_simp; done) | (go_simp; rfl)); (case hp => exact (Reps.c4 (show Kd.M k27 _ _ _ (⟨(⟨1, 0⟩ : S25), 1, 0⟩ : S27) [.int .u64 1, .int .i64 0, .int .u64 1, .int .i64 0] from (k27_mkM _ _ _ (⟨(⟨1, 0⟩ : S25), 1, 0⟩ : S27) )) (Reps.none _ _)))
     intro v766 w17 ho18 hb hg_ hnew_
     clear hg_ hnew_
     (first | rw [← Ny765.out] at ho18 | (simp only [Int.reduceToNat] at ho18; rw [← Ny765.out] at ho18))
     have n0_ := Aside0.mk (Kd.N_elder' (zn_ HO761) (Kd.R_base ho18) hb)
     have n1_ := Aside0.mk (Kd.R_elder' (zr_ HO764) (Kd.R_base ho18) hb)
     have n2_ := Aside0.mk (Kd.R_lower (Kd.R_newB (Kd.R_new' ho18 (Kd.R_lt (zr_ HO764))) (g := gb755) (o := .cells #[.int .u64 1, .int .i64 0, .int .u64 1, .int .i64 0] 27 (0, 0)) (by (with_reducible repeat (first | refine blk_drewN ?_ _ | refine blk_drew ?_ | refine blk_alloc ?_ _)); exact BK755.out)) (below_size zb_))
     have n3_ := zk_ BK755 hb
     have n4_ := Aside0.mk (below_step zb_ hb)
     clear HO761
     clear HO764
     clear BK755
     clear HB
     have HO761 := n0_
     have HO764 := n1_
     have HO767 := n2_
     have BK755 := n3_
     have HB := n4_
     clear n0_ n1_ n2_ n3_ n4_
     clear hb ho18
     refine hK.out _ _ ⟨(blk_cell BK755.out 0).trans rfl, (blk_cell BK755.out 1).trans rfl, (blk_cell BK755.out 2).trans rfl, (blk_cell BK755.out 3).trans rfl⟩ (fun hHeld => ?_)
     clear hK K
     refine norm_ (a' := ?_) ?_ ?_
     rotate_left
     ·
      show Act.put _ (some 17) _ = _
      simp only [Act.put, List.setIfInBounds_toArray, List.set_cons_zero, List.set_cons_succ, i64_w, i32_w]
      rfl
     exact norm_ (by simp only [putAll, Act.put, List.setIfInBounds_toArray, List.set_cons_zero, List.set_cons_succ]) (hCont (v763, v766) _ ⟨hHeld, (by (with_reducible repeat (first | apply Kd.N_alloc | apply Kd.N_drewN | apply Kd.N_drew)); exact Kd.N_mono HO761.out (fun _ hk => ⟨hk.1.2, ⟨hk.2, hk.1.1⟩⟩)), (by (with_reducible repeat (first | apply Kd.R_alloc | apply Kd.R_drewN | apply Kd.R_drew)); exact Kd.R_mono HO764.out (fun _ hk => ⟨hk.2, hk.1.2⟩)), (by (with_reducible repeat (first | apply Kd.R_alloc | apply Kd.R_drewN | apply Kd.R_drew)); exact Kd.R_mono HO767.out (fun _ hk => ⟨hk.1.2, hk.2⟩)), (by (with_reducible repeat (first | refine blk_drewN ?_ _ | refine blk_drew ?_ | refine blk_alloc ?_ _)); exact BK755.out), zb_⟩)
    ·
     skip
     refine Kd.R_lit_step k27 _ 27 ?hg (N := 17) ?hd (xs := ([(⟨(⟨1, 0⟩ : S25), 1, 0⟩ : S27)] : List (S27))) (inner := [.int .u64 1, .int .i64 0, .int .u64 1, .int .i64 0]) (ok := fun _ => True) (okp := fun _ => True) ?hr ?hp (fun _ hk => hk) trivial (Below.refl _ _) (Nat.le_refl _) (by simp) ?_; (case hd => rfl); (case hg => rfl); (case hr => first | (go_simp; done) | (go_simp; rfl)); (case hp => exact (Reps.c4 (show Kd.M k27 _ _ _ (⟨(⟨1, 0⟩ : S25), 1, 0⟩ : S27) [.int .u64 1, .int .i64 0, .int .u64 1, .int .i64 0] from (k27_mkM _ _ _ (⟨(⟨1, 0⟩ : S25), 1, 0⟩ : S27) )) (Reps.none _ _)))
     intro v766 w16 ho17 hb hg_ hnew_
     clear hg_ hnew_
     (first | rw [← Ny765.out] at ho17 | (simp only [Int.reduceToNat] at ho17; rw [← Ny765.out] at ho17))
     have n0_ := Aside0.mk (Kd.N_elder' (zn_ HO761) (Kd.R_base ho17) hb)
     have n1_ := Aside0.mk (Kd.R_lower (Kd.R_newB ho17 (g := gb755) (o := .cells #[.int .u64 1, .int .i64 0, .int .u64 1, .int .i64 0] 27 (0, 0)) (by (with_reducible repeat (first | refine blk_drewN ?_ _ | refine blk_drew ?_ | refine blk_alloc ?_ _)); exact BK755.out)) (below_size zb_))
     have n2_ := zk_ BK755 hb
     have n3_ := Aside0.mk (below_step zb_ hb)
     clear HO761
     clear BK755
     clear HB
     have HO761 := n0_
     have HO767 := n1_
     have BK755 := n2_
     have HB := n3_
     clear n0_ n1_ n2_ n3_
     clear hb ho17
     refine hK.out _ _ ⟨(blk_cell BK755.out 0).trans rfl, (blk_cell BK755.out 1).trans rfl, (blk_cell BK755.out 2).trans rfl, (blk_cell BK755.out 3).trans rfl⟩ (fun hHeld => ?_)
     clear hK K
     refine norm_ (a' := ?_) ?_ ?_
     rotate_left
     ·
      show Act.put _ (some 17) _ = _
      simp only [Act.put, List.setIfInBounds_toArray, List.set_cons_zero, List.set_cons_succ, i64_w, i32_w]
      rfl
     refine one_ (i := 1) (N := some 15) #[T_,T_,T_,T_,F_,F_,F_,F_,F_,F_,F_,F_,F_,F_,F_,F_] rfl rfl (one_of HT_.out (by kernel_rfl)) (by decide) (fun K hK => ?_)
     refine goes_ Try.func62 (by kernel_rfl) rfl #[.slice Ao14 y759.length co14] (by rfl) rfl rfl za_ ?_
     with_reducible refine (exchange_Short.calls k _ _ y759 t762 _ ?side1 ?side2 A1.out).mono ?_
     (case side1 => exact zd_ (Kd.N_reads' HO761.out).2.2)
     (case side2 => exact (Kd.N_reads' HO761.out).2.1)
     rintro e w18 ⟨v763, rfl, ho0, hb⟩
     refine ⟨_, rfl, ?_⟩
     have n0_ := Aside0.mk (Kd.N_elder' (zn_ HO761) (Kd.R_base ho0) hb)
     have n1_ := Aside0.mk (Kd.R_elder' (zr_ HO767) (Kd.R_base ho0) hb)
     have n2_ := Aside0.mk (Kd.R_lower (Kd.R_newB (Kd.R_new' ho0 (Kd.R_lt (zr_ HO767))) (g := gb755) (o := .cells #[.int .u64 1, .int .i64 0, .int .u64 1, .int .i64 0] 27 (0, 0)) (by (with_reducible repeat (first | refine blk_drewN ?_ _ | refine blk_drew ?_ | refine blk_alloc ?_ _)); exact BK755.out)) (below_size zb_))
     have n3_ := zk_ BK755 hb
     have n4_ := Aside0.mk (below_step zb_ hb)
     clear HO761
     clear HO767
     clear BK755
     clear HB
     have HO761 := n0_
     have HO767 := n1_
     have HO764 := n2_
     have BK755 := n3_
     have HB := n4_
     clear n0_ n1_ n2_ n3_ n4_
     (try clear hb)
     (try clear hb2)
     (try clear hk)
     (try clear hi)
     (try clear ho0)
     refine hK.out _ _ ⟨(blk_cell BK755.out 0).trans rfl, (blk_cell BK755.out 1).trans rfl, (blk_cell BK755.out 2).trans rfl, (blk_cell BK755.out 3).trans rfl⟩ (fun hHeld => ?_)
     clear hK K
     refine norm_ (a' := ?_) ?_ ?_
     rotate_left
     ·
      show Act.put _ (some 15) _ = _
      simp only [Act.put, List.setIfInBounds_toArray, List.set_cons_zero, List.set_cons_succ, i64_w, i32_w]
      rfl
     exact norm_ (by simp only [putAll, Act.put, List.setIfInBounds_toArray, List.set_cons_zero, List.set_cons_succ]) (hCont (v763, v766) _ ⟨hHeld, (by (with_reducible repeat (first | apply Kd.N_alloc | apply Kd.N_drewN | apply Kd.N_drew)); exact Kd.N_mono HO761.out (fun _ hk => ⟨hk.2, ⟨hk.1.2, hk.1.1⟩⟩)), (by (with_reducible repeat (first | apply Kd.R_alloc | apply Kd.R_drewN | apply Kd.R_drew)); exact Kd.R_mono HO764.out (fun _ hk => ⟨hk.1.2, hk.2⟩)), (by (with_reducible repeat (first | apply Kd.R_alloc | apply Kd.R_drewN | apply Kd.R_drew)); exact Kd.R_mono HO767.out (fun _ hk => ⟨hk.2, hk.1.2⟩)), (by (with_reducible repeat (first | refine blk_drewN ?_ _ | refine blk_drew ?_ | refine blk_alloc ?_ _)); exact BK755.out), zb_⟩)
   rintro ⟨v763, v766⟩ w19 ⟨hS_, h0_, h1_, h2_, h3_, h4_⟩
   have n0_ : Aside0 (Kd.N k87 87 w19 w.heap.size (fun k_ => some k_ ≠ (v763 : Value).ownBlock ∧ some k_ ≠ (v766 : Value).ownBlock ∧ k_ ≠ gb755) (.slice Ao14 y759.length co14) y759) := ⟨h0_⟩
   have n1_ : Aside0 (Kd.R k27 27 w19 w.heap.size (fun k_ => some k_ ≠ (v766 : Value).ownBlock ∧ k_ ≠ gb755) v763 t762) := ⟨h1_⟩
   have n2_ : Aside0 (Kd.R k27 27 w19 w.heap.size (fun k_ => some k_ ≠ (v763 : Value).ownBlock ∧ k_ ≠ gb755) v766 y765) := ⟨h2_⟩
   have n3_ : Aside0 (w19.heap[gb755]? = some (.cells #[.int .u64 1, .int .i64 0, .int .u64 1, .int .i64 0] 27 (0, 0))) := ⟨h3_⟩
   have n4_ : Aside0 (Below w.heap.size w w19) := ⟨h4_⟩
   clear HO761
   clear BK755
   clear HB
   clear h0_ h1_ h2_ h3_ h4_
   have HO761 := n0_
   have HO764 := n1_
   have HO767 := n2_
   have BK755 := n3_
   have HB := n4_
   clear n0_ n1_ n2_ n3_ n4_
   have hHeld : w19.cell? ⟨gb755, 0, none⟩ = some (.int .u64 1) ∧ w19.cell? ⟨gb755, 1, none⟩ = some (.int .i64 0) ∧ w19.cell? ⟨gb755, 2, none⟩ = some (.int .u64 1) ∧ w19.cell? ⟨gb755, 3, none⟩ = some (.int .i64 0) := hS_
   obtain ⟨Ao20, co20, eo20⟩ := Kd.R_slice HO764.out
   (first | subst eo20 | (injection eo20 with f1_ f2_ f3_; have f4_ := f1_.symm; have f5_ := f3_.symm; clear f1_ f2_ f3_; subst f4_; subst f5_))
   obtain ⟨Ao21, co21, eo21⟩ := Kd.R_slice HO767.out
   (first | subst eo21 | (injection eo21 with f1_ f2_ f3_; have f4_ := f1_.symm; have f5_ := f3_.symm; clear f1_ f2_ f3_; subst f4_; subst f5_))
   refine norm_ (a' := ?_) ?_ ?_
   rotate_left
   ·
    simp only [putAll, Act.put, List.setIfInBounds_toArray, List.set_cons_zero, List.set_cons_succ]
    rfl
   refine one_ (i := 4) (N := some 18) #[T_,T_,T_,T_,T_,F_,F_,F_,F_,F_,F_,F_,F_,F_,F_,F_] rfl rfl (one_of HT_.out (by kernel_rfl)) (by decide) (fun K hK => ?_)
   refine goes_ Try.func30 (by kernel_rfl) rfl #[.slice Ao20 t762.length co20, .slice Ao21 y765.length co21] (by rfl) rfl rfl za_ ?_
   with_reducible refine (folkmootref05_Same.calls k _ _ t762 _ _ y765 true _ ?side1 ?side2 ?side3 ?side4 A2.out).mono ?_
   (case side1 => exact zd_ (Kd.R_reads' HO764.out).2.2)
   (case side2 => exact (Kd.R_reads' HO764.out).2.1)
   (case side3 => exact zd_ (Kd.R_reads' HO767.out).2.2)
   (case side4 => exact (Kd.R_reads' HO767.out).2.1)
   rintro e w' ⟨rfl, ⟨nd, rfl⟩⟩
   refine ⟨_, rfl, ?_⟩
   refine hK.out _ _ ⟨(blk_cell BK755.out 0).trans rfl, (blk_cell BK755.out 1).trans rfl, (blk_cell BK755.out 2).trans rfl, (blk_cell BK755.out 3).trans rfl⟩ (fun hHeld => ?_)
   clear hK K
   refine norm_ (a' := ?_) ?_ ?_
   rotate_left
   ·
    show Act.put _ (some 18) _ = _
    simp only [Act.put, List.setIfInBounds_toArray, List.set_cons_zero, List.set_cons_succ, i64_w, i32_w]
    rfl
   refine pure_ (i := 5) (N := some 19) (v := ?_) (a' := ?_) #[T_,T_,T_,T_,T_,T_,F_,F_,F_,F_,F_,F_,F_,F_,F_,F_] rfl rfl (any_of HT_.out (by kernel_rfl)) (fun _ _ _ h => h) (Or.inl ⟨by rfl, ?_⟩) ?_ ?_
   rotate_left
   ·
    intro w'; go_simp; with_reducible rfl
   rotate_left
   ·
    exact zp_
   refine pure_ (i := 6) (N := some 20) (v := ?_) (a' := ?_) #[T_,T_,T_,T_,T_,T_,T_,F_,F_,F_,F_,F_,F_,F_,F_,F_] rfl rfl (any_of HT_.out (by kernel_rfl)) (fun _ _ _ h => h) (Or.inl ⟨by rfl, ?_⟩) ?_ ?_
   rotate_left
   ·
    intro w'; go_simp; with_reducible rfl
   rotate_left
   ·
    exact zp_
   refine one_ (i := 7) (N := some 21) #[T_,T_,T_,T_,T_,T_,T_,T_,F_,F_,F_,F_,F_,F_,F_,F_] rfl rfl (one_of HT_.out (by kernel_rfl)) (by decide) (fun K hK => ?_)
   refine goes_ Try.func61 (by kernel_rfl) rfl #[.slice Ao14 y759.length co14] (by rfl) rfl rfl za_ ?_
   with_reducible refine (exchange_Chosen.calls k _ _ y759 t769 _ ?side1 ?side2 A4.out).mono ?_
   (case side1 => exact zd_ (Kd.N_reads' HO761.out).2.2)
   (case side2 => exact (Kd.N_reads' HO761.out).2.1)
   rintro e w22 ⟨rfl, hb⟩
   refine ⟨_, rfl, ?_⟩
   have n0_ := Aside0.mk (Kd.N_below (zn_ HO761) hb)
   have n1_ := Aside0.mk (Kd.R_below (zr_ HO764) hb)
   have n2_ := Aside0.mk (Kd.R_below (zr_ HO767) hb)
   have n3_ := zk_ BK755 hb
   have n4_ := Aside0.mk (below_step zb_ hb)
   clear HO761
   clear HO764
   clear HO767
   clear BK755
   clear HB
   have HO761 := n0_
   have HO764 := n1_
   have HO767 := n2_
   have BK755 := n3_
   have HB := n4_
   clear n0_ n1_ n2_ n3_ n4_
   (try clear hb)
   (try clear hb2)
   (try clear hk)
   (try clear hi)
   refine hK.out _ _ ⟨(blk_cell BK755.out 0).trans rfl, (blk_cell BK755.out 1).trans rfl, (blk_cell BK755.out 2).trans rfl, (blk_cell BK755.out 3).trans rfl⟩ (fun hHeld => ?_)
   clear hK K
   refine norm_ (a' := ?_) ?_ ?_
   rotate_left
   ·
    show Act.put _ (some 21) _ = _
    simp only [Act.put, List.setIfInBounds_toArray, List.set_cons_zero, List.set_cons_succ, i64_w, i32_w]
    rfl
   refine pure_ (i := 8) (N := some 22) (v := ?_) (a' := ?_) #[T_,T_,T_,T_,T_,T_,T_,T_,T_,F_,F_,F_,F_,F_,F_,F_] rfl rfl (any_of HT_.out (by kernel_rfl)) (fun _ _ _ h => h) (Or.inl ⟨by rfl, ?_⟩) ?_ ?_
   rotate_left
   ·
    intro w'; go_simp; with_reducible rfl
   rotate_left
   ·
    exact zp_
   refine pure_ (i := 9) (N := some 23) (v := ?_) (a' := ?_) #[T_,T_,T_,T_,T_,T_,T_,T_,T_,T_,F_,F_,F_,F_,F_,F_] rfl rfl (any_of HT_.out (by kernel_rfl)) (fun _ _ _ h => h) (Or.inl ⟨by rfl, ?_⟩) ?_ ?_
   rotate_left
   ·
    intro w'; go_simp; with_reducible rfl
   rotate_left
   ·
    exact zp_
   refine pure_ (i := 10) (N := some 24) (v := ?_) (a' := ?_) #[T_,T_,T_,T_,T_,T_,T_,T_,T_,T_,T_,F_,F_,F_,F_,F_] rfl rfl (any_of HT_.out (by kernel_rfl)) (fun _ _ _ h => h) (Or.inl ⟨by rfl, ?_⟩) ?_ ?_
   rotate_left
   ·
    intro w'; go_simp; with_reducible rfl
   rotate_left
   ·
    exact zp_
   refine pure_ (i := 11) (N := some 25) (v := ?_) (a' := ?_) #[T_,T_,T_,T_,T_,T_,T_,T_,T_,T_,T_,T_,F_,F_,F_,F_] rfl rfl (any_of HT_.out (by kernel_rfl)) (fun _ _ _ h => h) (Or.inl ⟨by rfl, ?_⟩) ?_ ?_
   rotate_left
   ·
    intro w'; go_simp; with_reducible rfl
   rotate_left
   ·
    exact zp_
   refine one_ (i := 12) (N := some 26) #[T_,T_,T_,T_,T_,T_,T_,T_,T_,T_,T_,T_,T_,F_,F_,F_] rfl rfl (one_of HT_.out (by kernel_rfl)) (by decide) (fun K hK => ?_)
   refine goes_ Try.func68 (by kernel_rfl) rfl #[.slice Ao14 y759.length co14] (by rfl) rfl rfl za_ ?_
   with_reducible refine (exchange_Next.calls k _ _ y759 t770 _ ?side1 ?side2 A6.out).mono ?_
   (case side1 => exact zd_ (Kd.N_reads' HO761.out).2.2)
   (case side2 => exact (Kd.N_reads' HO761.out).2.1)
   rintro e w23 ⟨rfl, hb⟩
   refine ⟨_, rfl, ?_⟩
   have n0_ := Aside0.mk (Kd.N_below (zn_ HO761) hb)
   have n1_ := Aside0.mk (Kd.R_below (zr_ HO764) hb)
   have n2_ := Aside0.mk (Kd.R_below (zr_ HO767) hb)
   have n3_ := zk_ BK755 hb
   have n4_ := Aside0.mk (below_step zb_ hb)
   clear HO761
   clear HO764
   clear HO767
   clear BK755
   clear HB
   have HO761 := n0_
   have HO764 := n1_
   have HO767 := n2_
   have BK755 := n3_
   have HB := n4_
   clear n0_ n1_ n2_ n3_ n4_
   (try clear hb)
   (try clear hb2)
   (try clear hk)
   (try clear hi)
   refine hK.out _ _ ⟨(blk_cell BK755.out 0).trans rfl, (blk_cell BK755.out 1).trans rfl, (blk_cell BK755.out 2).trans rfl, (blk_cell BK755.out 3).trans rfl⟩ (fun hHeld => ?_)
   clear hK K
   refine norm_ (a' := ?_) ?_ ?_
   rotate_left
   ·
    show Act.put _ (some 26) _ = _
    simp only [Act.put, List.setIfInBounds_toArray, List.set_cons_zero, List.set_cons_succ, i64_w, i32_w]
    rfl
   refine pure_ (i := 13) (N := some 27) (v := ?_) (a' := ?_) #[T_,T_,T_,T_,T_,T_,T_,T_,T_,T_,T_,T_,T_,T_,F_,F_] rfl rfl (any_of HT_.out (by kernel_rfl)) (fun _ _ _ h => h) (Or.inl ⟨by rfl, ?_⟩) ?_ ?_
   rotate_left
   ·
    intro w'; go_simp; with_reducible rfl
   rotate_left
   ·
    exact zp_
   refine pure_ (i := 14) (N := some 28) (v := ?_) (a' := ?_) #[T_,T_,T_,T_,T_,T_,T_,T_,T_,T_,T_,T_,T_,T_,T_,F_] rfl rfl (any_of HT_.out (by kernel_rfl)) (fun _ _ _ h => h) (Or.inl ⟨by rfl, ?_⟩) ?_ ?_
   rotate_left
   ·
    intro w'; go_simp; with_reducible rfl
   rotate_left
   ·
    exact zp_
   refine pure_ (i := 15) (N := some 0) (v := ?_) (a' := ?_) #[T_,T_,T_,T_,T_,T_,T_,T_,T_,T_,T_,T_,T_,T_,T_,T_] rfl rfl (any_of HT_.out (by kernel_rfl)) (fun _ _ _ h => h) (Or.inl ⟨by rfl, ?_⟩) ?_ ?_
   rotate_left
   ·
    intro w'; go_simp; with_reducible rfl
   rotate_left
   ·
    exact zp_
   refine done_ (done_of HT_.out (by kernel_rfl)) ?_
   (try clear hHeld); (try clear HS0_)
   try go_wp2
   go_ret
   exact ⟨by first | rfl | (simp [errW_none, errW_some] <;> rfl) | (simp [*, errW_none, errW_some] <;> rfl), by repeat (first | (with_reducible first | exact HB.out | apply below_alloc | apply pw_below_drewN | apply below_drew1 | refine below_set ?_ GE755.out) | exact HB.out)⟩
  ·
   rw [if_neg c5] at H
   have c5b0 : (t769 == 1) = false := beq_eq_false_iff_ne.mpr c5
   have c5b1 : (t769 != 1) = true := bne_iff_ne.mpr c5
   obtain rfl := Option.some.inj H
   go_enter Try.func55, Try.ntmps55
   try go_wp2_with (first | ((with_reducible refine gate_dst (N := 1) rfl ?_); refine box_event ?hg (N := 1) ?hd (cs := #[.int .u64 0, .int .i64 0, .int .u64 0, .int .i64 0]) (t := 27) ?hr ?_; (case hd => rfl); (case hg => rfl); (case hr => first | (go_simp; done) | (go_simp; rfl)); intro gb755 hg w24 hbox hb; have n0_ := Aside0.mk (below_step zb_ hb); have n1_ := Aside0.mk (hbox); have n2_ := Aside0.mk ((by rw [hg]; exact (below_size zb_) : w.heap.size ≤ gb755)); have n3_ := Aside0.mk ((by rw [hg]; exact (below_size zb_) : w.heap.size ≤ gb755)); clear HB; have HB := n0_; have BK755 := n1_; have GW755 := n2_; have GE755 := n3_; clear n0_ n1_ n2_ n3_; clear hb hbox hg; have hcz25_0 : w24.cell? ⟨gb755, 0, none⟩ = some (.int .u64 0) := (blk_cell BK755.out 0).trans rfl; have hcz25_1 : w24.cell? ⟨gb755, 1, none⟩ = some (.int .i64 0) := (blk_cell BK755.out 1).trans rfl; have hcz25_2 : w24.cell? ⟨gb755, 2, none⟩ = some (.int .u64 0) := (blk_cell BK755.out 2).trans rfl; have hcz25_3 : w24.cell? ⟨gb755, 3, none⟩ = some (.int .i64 0) := (blk_cell BK755.out 3).trans rfl; have hfz25_0 := blk_frozen BK755.out 0; have hfz25_1 := blk_frozen BK755.out 1; have hfz25_2 := blk_frozen BK755.out 2; have hfz25_3 := blk_frozen BK755.out 3) | ((with_reducible refine gate_dst (N := 10) rfl ?_); refine Kd.R_lit k27 _ 27 ?hg (N := 10) ?hd (xs := ([(⟨(⟨1, 0⟩ : S25), 1, 0⟩ : S27)] : List (S27))) (inner := [.int .u64 1, .int .i64 0, .int .u64 1, .int .i64 0]) (ok := fun _ => True) (okp := fun _ => True) ?hr ?hp (fun _ hk => hk) trivial (Below.refl _ _) (Nat.le_refl _) (by simp) ?_; (case hd => rfl); (case hg => rfl); (case hr => first | (go_simp; done) | (go_simp; rfl)); (case hp => exact (Reps.c4 (show Kd.M k27 _ _ _ (⟨(⟨1, 0⟩ : S25), 1, 0⟩ : S27) [.int .u64 1, .int .i64 0, .int .u64 1, .int .i64 0] from (k27_mkM _ _ _ (⟨(⟨1, 0⟩ : S25), 1, 0⟩ : S27) )) (Reps.none _ _))); intro v757 w26 ho27 hb hg_ hnew_; clear hg_ hnew_; (first | rw [← Ny756.out] at ho27 | (simp only [Int.reduceToNat] at ho27; rw [← Ny756.out] at ho27)); have n0_ := Aside0.mk (Kd.R_lower (Kd.R_newB ho27 (g := gb755) (o := .cells #[.int .u64 1, .int .i64 0, .int .u64 1, .int .i64 0] 27 (0, 0)) (by (with_reducible repeat (first | refine blk_drewN ?_ _ | refine blk_drew ?_ | refine blk_alloc ?_ _)); refine blk_put (cs := #[.int .u64 1, .int .i64 0, .int .u64 1, .int .i64 0]) ?_ 3 _ rfl; (with_reducible repeat (first | refine blk_drewN ?_ _ | refine blk_drew ?_ | refine blk_alloc ?_ _)); refine blk_put (cs := #[.int .u64 1, .int .i64 0, .int .u64 0, .int .i64 0]) ?_ 2 _ rfl; (with_reducible repeat (first | refine blk_drewN ?_ _ | refine blk_drew ?_ | refine blk_alloc ?_ _)); refine blk_put (cs := #[.int .u64 1, .int .i64 0, .int .u64 0, .int .i64 0]) ?_ 1 _ rfl; (with_reducible repeat (first | refine blk_drewN ?_ _ | refine blk_drew ?_ | refine blk_alloc ?_ _)); refine blk_put (cs := #[.int .u64 0, .int .i64 0, .int .u64 0, .int .i64 0]) ?_ 0 _ rfl; (with_reducible repeat (first | refine blk_drewN ?_ _ | refine blk_drew ?_ | refine blk_alloc ?_ _)); exact BK755.out)) (below_size zb_)); have n1_ := Aside0.mk (blk_below (g := gb755) (o := .cells #[.int .u64 1, .int .i64 0, .int .u64 1, .int .i64 0] 27 (0, 0)) (by (with_reducible repeat (first | refine blk_drewN ?_ _ | refine blk_drew ?_ | refine blk_alloc ?_ _)); refine blk_put (cs := #[.int .u64 1, .int .i64 0, .int .u64 1, .int .i64 0]) ?_ 3 _ rfl; (with_reducible repeat (first | refine blk_drewN ?_ _ | refine blk_drew ?_ | refine blk_alloc ?_ _)); refine blk_put (cs := #[.int .u64 1, .int .i64 0, .int .u64 0, .int .i64 0]) ?_ 2 _ rfl; (with_reducible repeat (first | refine blk_drewN ?_ _ | refine blk_drew ?_ | refine blk_alloc ?_ _)); refine blk_put (cs := #[.int .u64 1, .int .i64 0, .int .u64 0, .int .i64 0]) ?_ 1 _ rfl; (with_reducible repeat (first | refine blk_drewN ?_ _ | refine blk_drew ?_ | refine blk_alloc ?_ _)); refine blk_put (cs := #[.int .u64 0, .int .i64 0, .int .u64 0, .int .i64 0]) ?_ 0 _ rfl; (with_reducible repeat (first | refine blk_drewN ?_ _ | refine blk_drew ?_ | refine blk_alloc ?_ _)); exact BK755.out) hb); have n2_ := Aside0.mk (below_step zb_ hb); clear BK755; clear HB; have HO758 := n0_; have BK755 := n1_; have HB := n2_; clear n0_ n1_ n2_; clear hb ho27; obtain ⟨Ao28, co28, eo28⟩ := Kd.R_slice HO758.out; subst eo28) | ((with_reducible refine gate_dst (N := 13) rfl ?_); refine Kd.N_lit k87 _ 87 ?hg (N' := 13) ?hd (xs := ([(⟨0, (⟨([] : List (S32)), ([] : List (S27)), 1, (⟨1, 0⟩ : S25)⟩ : S53)⟩ : S87), (⟨1, (⟨([] : List (S32)), y756, 2, (⟨2, 0⟩ : S25)⟩ : S53)⟩ : S87)] : List (S87))) (inner := [.int .i64 0, .slice none 0 0, .slice none 0 0, .int .i64 1, .int .u64 1, .int .i64 0, .int .i64 1, .slice none 0 0, .slice Ao28 y756.length co28, .int .i64 2, .int .u64 2, .int .i64 0]) (ok := (fun k_ => k_ ≠ gb755)) (okp := (fun k_ => k_ ≠ gb755)) ?hr ?hp (fun _ hk => hk) ((show ∀ k_, w26.heap.size ≤ k_ → (fun k_ => k_ ≠ gb755) k_ from fun k_ hk => Kd.freshB (g := gb755) (o := .cells #[.int .u64 1, .int .i64 0, .int .u64 1, .int .i64 0] 27 (0, 0)) (by (with_reducible repeat (first | refine blk_drewN ?_ _ | refine blk_drew ?_ | refine blk_alloc ?_ _)); exact BK755.out) k_ hk) _ (Nat.le_refl _)) (Below.refl _ _) (Nat.le_refl _) (by simp) ?_; (case hd => rfl); (case hg => rfl); (case hr => first | (go_simp; done) | (go_simp; rfl)); (case hp => exact (Reps.c6 (show Kd.FK k87 _ _ (⟨0, (⟨([] : List (S32)), ([] : List (S27)), 1, (⟨1, 0⟩ : S25)⟩ : S53)⟩ : S87) [.int .i64 0, .slice none 0 0, .slice none 0 0, .int .i64 1, .int .u64 1, .int .i64 0] from (k87_mkF _ _ (⟨0, (⟨([] : List (S32)), ([] : List (S27)), 1, (⟨1, 0⟩ : S25)⟩ : S53)⟩ : S87) (Nat.le_refl _) (Kd.F_nil _ _ _) (Nat.le_refl _) (Kd.F_nil _ _ _))) (Reps.c6 (show Kd.FK k87 _ _ (⟨1, (⟨([] : List (S32)), y756, 2, (⟨2, 0⟩ : S25)⟩ : S53)⟩ : S87) [.int .i64 1, .slice none 0 0, .slice Ao28 y756.length co28, .int .i64 2, .int .u64 2, .int .i64 0] from (k87_mkF _ _ (⟨1, (⟨([] : List (S32)), y756, 2, (⟨2, 0⟩ : S25)⟩ : S53)⟩ : S87) (Nat.le_refl _) (Kd.F_nil _ _ _) (Kd.R_reads' (Kd.R_mono (ok' := (fun k_ => k_ ≠ gb755)) (HO758.out) (fun k_ hk => hk.2))).2.1 (Kd.R_F (Kd.R_mono (ok' := (fun k_ => k_ ≠ gb755)) (HO758.out) (fun k_ hk => hk.2))))) (Reps.none _ _)))); intro v760 w29 ho30 hb hg_ hnew_; clear hg_ hnew_; (first | rw [← Ny759.out] at ho30 | (simp only [Int.reduceToNat] at ho30; rw [← Ny759.out] at ho30)); have n0_ := Aside0.mk (Kd.N_lower ho30 (below_size zb_)); have n1_ := zk_ BK755 hb; have n2_ := Aside0.mk (below_step zb_ hb); clear BK755; clear HB; clear HO758; have HO761 := n0_; have BK755 := n1_; have HB := n2_; clear n0_ n1_ n2_; clear hb ho30; obtain ⟨Ao31, co31, eo31⟩ := Kd.N_slice HO761.out; subst eo31))
   have n0_ := Aside0.mk (Kd.N_drew HO761.out)
   have n1_ := Aside0.mk (blk_drew BK755.out)
   have n2_ := Aside0.mk (below_drew1 HB.out)
   clear HO761
   clear BK755
   clear HB
   have HO761 := n0_
   have BK755 := n1_
   have HB := n2_
   clear n0_ n1_ n2_
   refine start_ (n := 16) (S := fun w' => w'.cell? ⟨gb755, 0, none⟩ = some (.int .u64 1) ∧ w'.cell? ⟨gb755, 1, none⟩ = some (.int .i64 0) ∧ w'.cell? ⟨gb755, 2, none⟩ = some (.int .u64 1) ∧ w'.cell? ⟨gb755, 3, none⟩ = some (.int .i64 0)) (ds := []) #[F_,F_,F_,F_,F_,F_,F_,F_,F_,F_,F_,F_,F_,F_,F_,F_] (by kernel_rfl) rfl rfl ⟨(blk_cell BK755.out 0).trans rfl, (blk_cell BK755.out 1).trans rfl, (blk_cell BK755.out 2).trans rfl, (blk_cell BK755.out 3).trans rfl⟩ (fun hHeld => ?_); refine with_tabW folkmootlaw16_awake.tab3 folkmootlaw16_awake.bits3 (fun HT_ HW_ => ?_)
   generalize w29.drew = w32 at HO761 BK755 HB hHeld ⊢
   refine pure_ (i := 0) (N := some 14) (v := ?_) (a' := ?_) #[T_,F_,F_,F_,F_,F_,F_,F_,F_,F_,F_,F_,F_,F_,F_,F_] rfl rfl (any_of HT_.out (by kernel_rfl)) (fun _ _ _ h => h) (Or.inl ⟨by rfl, ?_⟩) ?_ ?_
   rotate_left
   ·
    intro w'; go_simp; with_reducible rfl
   rotate_left
   ·
    exact zp_
   refine take_ (i := 2) (N := some 16) (v := ?_) (a' := ?_) #[T_,F_,T_,F_,F_,F_,F_,F_,F_,F_,F_,F_,F_,F_,F_,F_] rfl rfl (take_ofW HT_.out HW_.out (by kernel_rfl)) (fun _ _ _ h => h) (Or.inl ⟨by rfl, ?_⟩) hHeld ?_ ?_
   rotate_left
   ·
    rintro w' ⟨s0, s1, s2, s3⟩
    go_simp
    with_reducible rfl
   rotate_left
   ·
    exact zp_
   refine join_ (σ := Value × Value) 12 #[T_,T_,T_,T_,F_,F_,F_,F_,F_,F_,F_,F_,F_,F_,F_,F_] (fun s_ => [(15, s_.1), (17, s_.2)]) (fun s_ w' => (w'.cell? ⟨gb755, 0, none⟩ = some (.int .u64 1) ∧ w'.cell? ⟨gb755, 1, none⟩ = some (.int .i64 0) ∧ w'.cell? ⟨gb755, 2, none⟩ = some (.int .u64 1) ∧ w'.cell? ⟨gb755, 3, none⟩ = some (.int .i64 0)) ∧ (Kd.N k87 87 w' w.heap.size (fun k_ => some k_ ≠ (s_.1 : Value).ownBlock ∧ some k_ ≠ (s_.2 : Value).ownBlock ∧ k_ ≠ gb755) (.slice Ao31 y759.length co31) y759) ∧ (Kd.R k27 27 w' w.heap.size (fun k_ => some k_ ≠ (s_.2 : Value).ownBlock ∧ k_ ≠ gb755) s_.1 t762) ∧ (Kd.R k27 27 w' w.heap.size (fun k_ => some k_ ≠ (s_.1 : Value).ownBlock ∧ k_ ≠ gb755) s_.2 y765) ∧ (w'.heap[gb755]? = some (.cells #[.int .u64 1, .int .i64 0, .int .u64 1, .int .i64 0] 27 (0, 0))) ∧ (Below w.heap.size w w')) ?_ ?_
   rotate_left
   ·
    intro hCont
    refine two_ (i := 1) (j := 3) (Ni := some 15) (Nj := some 17) #[T_,T_,T_,F_,F_,F_,F_,F_,F_,F_,F_,F_,F_,F_,F_,F_] #[T_,F_,T_,T_,F_,F_,F_,F_,F_,F_,F_,F_,F_,F_,F_,F_] rfl rfl rfl rfl (two_of HT_.out (by kernel_rfl)) (by decide) (by decide) (fun K hK => ?_) (fun K hK => ?_)
    ·
     skip
     refine goes_ Try.func62 (by kernel_rfl) rfl #[.slice Ao31 y759.length co31] (by rfl) rfl rfl za_ ?_
     with_reducible refine (exchange_Short.calls k _ _ y759 t762 _ ?side1 ?side2 A1.out).mono ?_
     (case side1 => exact zd_ (Kd.N_reads' HO761.out).2.2)
     (case side2 => exact (Kd.N_reads' HO761.out).2.1)
     rintro e w33 ⟨v763, rfl, ho0, hb⟩
     refine ⟨_, rfl, ?_⟩
     have n0_ := Aside0.mk (Kd.N_elder' (zn_ HO761) (Kd.R_base ho0) hb)
     have n1_ := Aside0.mk (Kd.R_lower (Kd.R_newB ho0 (g := gb755) (o := .cells #[.int .u64 1, .int .i64 0, .int .u64 1, .int .i64 0] 27 (0, 0)) (by (with_reducible repeat (first | refine blk_drewN ?_ _ | refine blk_drew ?_ | refine blk_alloc ?_ _)); exact BK755.out)) (below_size zb_))
     have n2_ := zk_ BK755 hb
     have n3_ := Aside0.mk (below_step zb_ hb)
     clear HO761
     clear BK755
     clear HB
     have HO761 := n0_
     have HO764 := n1_
     have BK755 := n2_
     have HB := n3_
     clear n0_ n1_ n2_ n3_
     (try clear hb)
     (try clear hb2)
     (try clear hk)
     (try clear hi)
     (try clear ho0)
     refine hK.out _ _ ⟨(blk_cell BK755.out 0).trans rfl, (blk_cell BK755.out 1).trans rfl, (blk_cell BK755.out 2).trans rfl, (blk_cell BK755.out 3).trans rfl⟩ (fun hHeld => ?_)
     clear hK K
     refine norm_ (a' := ?_) ?_ ?_
     rotate_left
     ·
      show Act.put _ (some 15) _ = _
      simp only [Act.put, List.setIfInBounds_toArray, List.set_cons_zero, List.set_cons_succ, i64_w, i32_w]
      rfl
     refine one_ (i := 3) (N := some 17) #[T_,T_,T_,T_,F_,F_,F_,F_,F_,F_,F_,F_,F_,F_,F_,F_] rfl rfl (one_of HT_.out (by kernel_rfl)) (by decide) (fun K hK => ?_)
     refine Kd.R_lit_step k27 _ 27 ?hg (N := 17) ?hd (xs := ([(⟨(⟨1, 0⟩ : S25), 1, 0⟩ : S27)] : List (S27))) (inner := [.int .u64 1, .int .i64 0, .int .u64 1, .int .i64 0]) (ok := fun _ => True) (okp := fun _ => True) ?hr ?hp (fun _ hk => hk) trivial (Below.refl _ _) (Nat.le_refl _) (by simp) ?_; (case hd => rfl); (case hg => rfl); (case hr => first | (go_simp; done) | (go_simp; rfl)); (case hp => exact (Reps.c4 (show Kd.M k27 _ _ _ (⟨(⟨1, 0⟩ : S25), 1, 0⟩ : S27) [.int .u64 1, .int .i64 0, .int .u64 1, .int .i64 0] from (k27_mkM _ _ _ (⟨(⟨1, 0⟩ : S25), 1, 0⟩ : S27) )) (Reps.none _ _)))
     intro v766 w34 ho35 hb hg_ hnew_
     clear hg_ hnew_
     (first | rw [← Ny765.out] at ho35 | (simp only [Int.reduceToNat] at ho35; rw [← Ny765.out] at ho35))
     have n0_ := Aside0.mk (Kd.N_elder' (zn_ HO761) (Kd.R_base ho35) hb)
     have n1_ := Aside0.mk (Kd.R_elder' (zr_ HO764) (Kd.R_base ho35) hb)
     have n2_ := Aside0.mk (Kd.R_lower (Kd.R_newB (Kd.R_new' ho35 (Kd.R_lt (zr_ HO764))) (g := gb755) (o := .cells #[.int .u64 1, .int .i64 0, .int .u64 1, .int .i64 0] 27 (0, 0)) (by (with_reducible repeat (first | refine blk_drewN ?_ _ | refine blk_drew ?_ | refine blk_alloc ?_ _)); exact BK755.out)) (below_size zb_))
     have n3_ := zk_ BK755 hb
     have n4_ := Aside0.mk (below_step zb_ hb)
     clear HO761
     clear HO764
     clear BK755
     clear HB
     have HO761 := n0_
     have HO764 := n1_
     have HO767 := n2_
     have BK755 := n3_
     have HB := n4_
     clear n0_ n1_ n2_ n3_ n4_
     clear hb ho35
     refine hK.out _ _ ⟨(blk_cell BK755.out 0).trans rfl, (blk_cell BK755.out 1).trans rfl, (blk_cell BK755.out 2).trans rfl, (blk_cell BK755.out 3).trans rfl⟩ (fun hHeld => ?_)
     clear hK K
     refine norm_ (a' := ?_) ?_ ?_
     rotate_left
     ·
      show Act.put _ (some 17) _ = _
      simp only [Act.put, List.setIfInBounds_toArray, List.set_cons_zero, List.set_cons_succ, i64_w, i32_w]
      rfl
     exact norm_ (by simp only [putAll, Act.put, List.setIfInBounds_toArray, List.set_cons_zero, List.set_cons_succ]) (hCont (v763, v766) _ ⟨hHeld, (by (with_reducible repeat (first | apply Kd.N_alloc | apply Kd.N_drewN | apply Kd.N_drew)); exact Kd.N_mono HO761.out (fun _ hk => ⟨hk.1.2, ⟨hk.2, hk.1.1⟩⟩)), (by (with_reducible repeat (first | apply Kd.R_alloc | apply Kd.R_drewN | apply Kd.R_drew)); exact Kd.R_mono HO764.out (fun _ hk => ⟨hk.2, hk.1.2⟩)), (by (with_reducible repeat (first | apply Kd.R_alloc | apply Kd.R_drewN | apply Kd.R_drew)); exact Kd.R_mono HO767.out (fun _ hk => ⟨hk.1.2, hk.2⟩)), (by (with_reducible repeat (first | refine blk_drewN ?_ _ | refine blk_drew ?_ | refine blk_alloc ?_ _)); exact BK755.out), zb_⟩)
    ·
     skip
     refine Kd.R_lit_step k27 _ 27 ?hg (N := 17) ?hd (xs := ([(⟨(⟨1, 0⟩ : S25), 1, 0⟩ : S27)] : List (S27))) (inner := [.int .u64 1, .int .i64 0, .int .u64 1, .int .i64 0]) (ok := fun _ => True) (okp := fun _ => True) ?hr ?hp (fun _ hk => hk) trivial (Below.refl _ _) (Nat.le_refl _) (by simp) ?_; (case hd => rfl); (case hg => rfl); (case hr => first | (go_simp; done) | (go_simp; rfl)); (case hp => exact (Reps.c4 (show Kd.M k27 _ _ _ (⟨(⟨1, 0⟩ : S25), 1, 0⟩ : S27) [.int .u64 1, .int .i64 0, .int .u64 1, .int .i64 0] from (k27_mkM _ _ _ (⟨(⟨1, 0⟩ : S25), 1, 0⟩ : S27) )) (Reps.none _ _)))
     intro v766 w33 ho34 hb hg_ hnew_
     clear hg_ hnew_
     (first | rw [← Ny765.out] at ho34 | (simp only [Int.reduceToNat] at ho34; rw [← Ny765.out] at ho34))
     have n0_ := Aside0.mk (Kd.N_elder' (zn_ HO761) (Kd.R_base ho34) hb)
     have n1_ := Aside0.mk (Kd.R_lower (Kd.R_newB ho34 (g := gb755) (o := .cells #[.int .u64 1, .int .i64 0, .int .u64 1, .int .i64 0] 27 (0, 0)) (by (with_reducible repeat (first | refine blk_drewN ?_ _ | refine blk_drew ?_ | refine blk_alloc ?_ _)); exact BK755.out)) (below_size zb_))
     have n2_ := zk_ BK755 hb
     have n3_ := Aside0.mk (below_step zb_ hb)
     clear HO761
     clear BK755
     clear HB
     have HO761 := n0_
     have HO767 := n1_
     have BK755 := n2_
     have HB := n3_
     clear n0_ n1_ n2_ n3_
     clear hb ho34
     refine hK.out _ _ ⟨(blk_cell BK755.out 0).trans rfl, (blk_cell BK755.out 1).trans rfl, (blk_cell BK755.out 2).trans rfl, (blk_cell BK755.out 3).trans rfl⟩ (fun hHeld => ?_)
     clear hK K
     refine norm_ (a' := ?_) ?_ ?_
     rotate_left
     ·
      show Act.put _ (some 17) _ = _
      simp only [Act.put, List.setIfInBounds_toArray, List.set_cons_zero, List.set_cons_succ, i64_w, i32_w]
      rfl
     refine one_ (i := 1) (N := some 15) #[T_,T_,T_,T_,F_,F_,F_,F_,F_,F_,F_,F_,F_,F_,F_,F_] rfl rfl (one_of HT_.out (by kernel_rfl)) (by decide) (fun K hK => ?_)
     refine goes_ Try.func62 (by kernel_rfl) rfl #[.slice Ao31 y759.length co31] (by rfl) rfl rfl za_ ?_
     with_reducible refine (exchange_Short.calls k _ _ y759 t762 _ ?side1 ?side2 A1.out).mono ?_
     (case side1 => exact zd_ (Kd.N_reads' HO761.out).2.2)
     (case side2 => exact (Kd.N_reads' HO761.out).2.1)
     rintro e w35 ⟨v763, rfl, ho0, hb⟩
     refine ⟨_, rfl, ?_⟩
     have n0_ := Aside0.mk (Kd.N_elder' (zn_ HO761) (Kd.R_base ho0) hb)
     have n1_ := Aside0.mk (Kd.R_elder' (zr_ HO767) (Kd.R_base ho0) hb)
     have n2_ := Aside0.mk (Kd.R_lower (Kd.R_newB (Kd.R_new' ho0 (Kd.R_lt (zr_ HO767))) (g := gb755) (o := .cells #[.int .u64 1, .int .i64 0, .int .u64 1, .int .i64 0] 27 (0, 0)) (by (with_reducible repeat (first | refine blk_drewN ?_ _ | refine blk_drew ?_ | refine blk_alloc ?_ _)); exact BK755.out)) (below_size zb_))
     have n3_ := zk_ BK755 hb
     have n4_ := Aside0.mk (below_step zb_ hb)
     clear HO761
     clear HO767
     clear BK755
     clear HB
     have HO761 := n0_
     have HO767 := n1_
     have HO764 := n2_
     have BK755 := n3_
     have HB := n4_
     clear n0_ n1_ n2_ n3_ n4_
     (try clear hb)
     (try clear hb2)
     (try clear hk)
     (try clear hi)
     (try clear ho0)
     refine hK.out _ _ ⟨(blk_cell BK755.out 0).trans rfl, (blk_cell BK755.out 1).trans rfl, (blk_cell BK755.out 2).trans rfl, (blk_cell BK755.out 3).trans rfl⟩ (fun hHeld => ?_)
     clear hK K
     refine norm_ (a' := ?_) ?_ ?_
     rotate_left
     ·
      show Act.put _ (some 15) _ = _
      simp only [Act.put, List.setIfInBounds_toArray, List.set_cons_zero, List.set_cons_succ, i64_w, i32_w]
      rfl
     exact norm_ (by simp only [putAll, Act.put, List.setIfInBounds_toArray, List.set_cons_zero, List.set_cons_succ]) (hCont (v763, v766) _ ⟨hHeld, (by (with_reducible repeat (first | apply Kd.N_alloc | apply Kd.N_drewN | apply Kd.N_drew)); exact Kd.N_mono HO761.out (fun _ hk => ⟨hk.2, ⟨hk.1.2, hk.1.1⟩⟩)), (by (with_reducible repeat (first | apply Kd.R_alloc | apply Kd.R_drewN | apply Kd.R_drew)); exact Kd.R_mono HO764.out (fun _ hk => ⟨hk.1.2, hk.2⟩)), (by (with_reducible repeat (first | apply Kd.R_alloc | apply Kd.R_drewN | apply Kd.R_drew)); exact Kd.R_mono HO767.out (fun _ hk => ⟨hk.2, hk.1.2⟩)), (by (with_reducible repeat (first | refine blk_drewN ?_ _ | refine blk_drew ?_ | refine blk_alloc ?_ _)); exact BK755.out), zb_⟩)
   rintro ⟨v763, v766⟩ w36 ⟨hS_, h0_, h1_, h2_, h3_, h4_⟩
   have n0_ : Aside0 (Kd.N k87 87 w36 w.heap.size (fun k_ => some k_ ≠ (v763 : Value).ownBlock ∧ some k_ ≠ (v766 : Value).ownBlock ∧ k_ ≠ gb755) (.slice Ao31 y759.length co31) y759) := ⟨h0_⟩
   have n1_ : Aside0 (Kd.R k27 27 w36 w.heap.size (fun k_ => some k_ ≠ (v766 : Value).ownBlock ∧ k_ ≠ gb755) v763 t762) := ⟨h1_⟩
   have n2_ : Aside0 (Kd.R k27 27 w36 w.heap.size (fun k_ => some k_ ≠ (v763 : Value).ownBlock ∧ k_ ≠ gb755) v766 y765) := ⟨h2_⟩
   have n3_ : Aside0 (w36.heap[gb755]? = some (.cells #[.int .u64 1, .int .i64 0, .int .u64 1, .int .i64 0] 27 (0, 0))) := ⟨h3_⟩
   have n4_ : Aside0 (Below w.heap.size w w36) := ⟨h4_⟩
   clear HO761
   clear BK755
   clear HB
   clear h0_ h1_ h2_ h3_ h4_
   have HO761 := n0_
   have HO764 := n1_
   have HO767 := n2_
   have BK755 := n3_
   have HB := n4_
   clear n0_ n1_ n2_ n3_ n4_
   have hHeld : w36.cell? ⟨gb755, 0, none⟩ = some (.int .u64 1) ∧ w36.cell? ⟨gb755, 1, none⟩ = some (.int .i64 0) ∧ w36.cell? ⟨gb755, 2, none⟩ = some (.int .u64 1) ∧ w36.cell? ⟨gb755, 3, none⟩ = some (.int .i64 0) := hS_
   obtain ⟨Ao37, co37, eo37⟩ := Kd.R_slice HO764.out
   (first | subst eo37 | (injection eo37 with f1_ f2_ f3_; have f4_ := f1_.symm; have f5_ := f3_.symm; clear f1_ f2_ f3_; subst f4_; subst f5_))
   obtain ⟨Ao38, co38, eo38⟩ := Kd.R_slice HO767.out
   (first | subst eo38 | (injection eo38 with f1_ f2_ f3_; have f4_ := f1_.symm; have f5_ := f3_.symm; clear f1_ f2_ f3_; subst f4_; subst f5_))
   refine norm_ (a' := ?_) ?_ ?_
   rotate_left
   ·
    simp only [putAll, Act.put, List.setIfInBounds_toArray, List.set_cons_zero, List.set_cons_succ]
    rfl
   refine one_ (i := 4) (N := some 18) #[T_,T_,T_,T_,T_,F_,F_,F_,F_,F_,F_,F_,F_,F_,F_,F_] rfl rfl (one_of HT_.out (by kernel_rfl)) (by decide) (fun K hK => ?_)
   refine goes_ Try.func30 (by kernel_rfl) rfl #[.slice Ao37 t762.length co37, .slice Ao38 y765.length co38] (by rfl) rfl rfl za_ ?_
   with_reducible refine (folkmootref05_Same.calls k _ _ t762 _ _ y765 true _ ?side1 ?side2 ?side3 ?side4 A2.out).mono ?_
   (case side1 => exact zd_ (Kd.R_reads' HO764.out).2.2)
   (case side2 => exact (Kd.R_reads' HO764.out).2.1)
   (case side3 => exact zd_ (Kd.R_reads' HO767.out).2.2)
   (case side4 => exact (Kd.R_reads' HO767.out).2.1)
   rintro e w' ⟨rfl, ⟨nd, rfl⟩⟩
   refine ⟨_, rfl, ?_⟩
   refine hK.out _ _ ⟨(blk_cell BK755.out 0).trans rfl, (blk_cell BK755.out 1).trans rfl, (blk_cell BK755.out 2).trans rfl, (blk_cell BK755.out 3).trans rfl⟩ (fun hHeld => ?_)
   clear hK K
   refine norm_ (a' := ?_) ?_ ?_
   rotate_left
   ·
    show Act.put _ (some 18) _ = _
    simp only [Act.put, List.setIfInBounds_toArray, List.set_cons_zero, List.set_cons_succ, i64_w, i32_w]
    rfl
   refine pure_ (i := 5) (N := some 19) (v := ?_) (a' := ?_) #[T_,T_,T_,T_,T_,T_,F_,F_,F_,F_,F_,F_,F_,F_,F_,F_] rfl rfl (any_of HT_.out (by kernel_rfl)) (fun _ _ _ h => h) (Or.inl ⟨by rfl, ?_⟩) ?_ ?_
   rotate_left
   ·
    intro w'; go_simp; with_reducible rfl
   rotate_left
   ·
    exact zp_
   refine pure_ (i := 6) (N := some 20) (v := ?_) (a' := ?_) #[T_,T_,T_,T_,T_,T_,T_,F_,F_,F_,F_,F_,F_,F_,F_,F_] rfl rfl (any_of HT_.out (by kernel_rfl)) (fun _ _ _ h => h) (Or.inl ⟨by rfl, ?_⟩) ?_ ?_
   rotate_left
   ·
    intro w'; go_simp; with_reducible rfl
   rotate_left
   ·
    exact zp_
   refine one_ (i := 7) (N := some 21) #[T_,T_,T_,T_,T_,T_,T_,T_,F_,F_,F_,F_,F_,F_,F_,F_] rfl rfl (one_of HT_.out (by kernel_rfl)) (by decide) (fun K hK => ?_)
   refine goes_ Try.func61 (by kernel_rfl) rfl #[.slice Ao31 y759.length co31] (by rfl) rfl rfl za_ ?_
   with_reducible refine (exchange_Chosen.calls k _ _ y759 t769 _ ?side1 ?side2 A4.out).mono ?_
   (case side1 => exact zd_ (Kd.N_reads' HO761.out).2.2)
   (case side2 => exact (Kd.N_reads' HO761.out).2.1)
   rintro e w39 ⟨rfl, hb⟩
   refine ⟨_, rfl, ?_⟩
   have n0_ := Aside0.mk (Kd.N_below (zn_ HO761) hb)
   have n1_ := Aside0.mk (Kd.R_below (zr_ HO764) hb)
   have n2_ := Aside0.mk (Kd.R_below (zr_ HO767) hb)
   have n3_ := zk_ BK755 hb
   have n4_ := Aside0.mk (below_step zb_ hb)
   clear HO761
   clear HO764
   clear HO767
   clear BK755
   clear HB
   have HO761 := n0_
   have HO764 := n1_
   have HO767 := n2_
   have BK755 := n3_
   have HB := n4_
   clear n0_ n1_ n2_ n3_ n4_
   (try clear hb)
   (try clear hb2)
   (try clear hk)
   (try clear hi)
   refine hK.out _ _ ⟨(blk_cell BK755.out 0).trans rfl, (blk_cell BK755.out 1).trans rfl, (blk_cell BK755.out 2).trans rfl, (blk_cell BK755.out 3).trans rfl⟩ (fun hHeld => ?_)
   clear hK K
   refine norm_ (a' := ?_) ?_ ?_
   rotate_left
   ·
    show Act.put _ (some 21) _ = _
    simp only [Act.put, List.setIfInBounds_toArray, List.set_cons_zero, List.set_cons_succ, i64_w, i32_w]
    rfl
   refine pure_ (i := 8) (N := some 22) (v := ?_) (a' := ?_) #[T_,T_,T_,T_,T_,T_,T_,T_,T_,F_,F_,F_,F_,F_,F_,F_] rfl rfl (any_of HT_.out (by kernel_rfl)) (fun _ _ _ h => h) (Or.inl ⟨by rfl, ?_⟩) ?_ ?_
   rotate_left
   ·
    intro w'; go_simp; with_reducible rfl
   rotate_left
   ·
    exact zp_
   refine pure_ (i := 9) (N := some 23) (v := ?_) (a' := ?_) #[T_,T_,T_,T_,T_,T_,T_,T_,T_,T_,F_,F_,F_,F_,F_,F_] rfl rfl (any_of HT_.out (by kernel_rfl)) (fun _ _ _ h => h) (Or.inl ⟨by rfl, ?_⟩) ?_ ?_
   rotate_left
   ·
    intro w'; go_simp; with_reducible rfl
   rotate_left
   ·
    exact zp_
   refine pure_ (i := 10) (N := some 24) (v := ?_) (a' := ?_) #[T_,T_,T_,T_,T_,T_,T_,T_,T_,T_,T_,F_,F_,F_,F_,F_] rfl rfl (any_of HT_.out (by kernel_rfl)) (fun _ _ _ h => h) (Or.inl ⟨by rfl, ?_⟩) ?_ ?_
   rotate_left
   ·
    intro w'; go_simp; with_reducible rfl
   rotate_left
   ·
    exact zp_
   refine pure_ (i := 11) (N := some 25) (v := undef) (a' := ?_) #[T_,T_,T_,T_,T_,T_,T_,T_,T_,T_,T_,T_,F_,F_,F_,F_] rfl rfl (any_of HT_.out (by kernel_rfl)) (fun _ _ _ h => h) (Or.inr ⟨by rfl, rfl⟩) ?_ ?_
   rotate_left
   ·
    exact zp_
   refine pure_ (i := 12) (N := some 26) (v := undef) (a' := ?_) #[T_,T_,T_,T_,T_,T_,T_,T_,T_,T_,T_,T_,T_,F_,F_,F_] rfl rfl (any_of HT_.out (by kernel_rfl)) (fun _ _ _ h => h) (Or.inr ⟨by rfl, rfl⟩) ?_ ?_
   rotate_left
   ·
    exact zp_
   refine pure_ (i := 13) (N := some 27) (v := undef) (a' := ?_) #[T_,T_,T_,T_,T_,T_,T_,T_,T_,T_,T_,T_,T_,T_,F_,F_] rfl rfl (any_of HT_.out (by kernel_rfl)) (fun _ _ _ h => h) (Or.inr ⟨by rfl, rfl⟩) ?_ ?_
   rotate_left
   ·
    exact zp_
   refine pure_ (i := 14) (N := some 28) (v := ?_) (a' := ?_) #[T_,T_,T_,T_,T_,T_,T_,T_,T_,T_,T_,T_,T_,T_,T_,F_] rfl rfl (any_of HT_.out (by kernel_rfl)) (fun _ _ _ h => h) (Or.inl ⟨by rfl, ?_⟩) ?_ ?_
   rotate_left
   ·
    intro w'; go_simp; with_reducible rfl
   rotate_left
   ·
    exact zp_
   refine pure_ (i := 15) (N := some 0) (v := ?_) (a' := ?_) #[T_,T_,T_,T_,T_,T_,T_,T_,T_,T_,T_,T_,T_,T_,T_,T_] rfl rfl (any_of HT_.out (by kernel_rfl)) (fun _ _ _ h => h) (Or.inl ⟨by rfl, ?_⟩) ?_ ?_
   rotate_left
   ·
    intro w'; go_simp; with_reducible rfl
   rotate_left
   ·
    exact zp_
   refine done_ (done_of HT_.out (by kernel_rfl)) ?_
   (try clear hHeld); (try clear HS0_)
   try go_wp2
   go_ret
   exact ⟨by first | rfl | (simp [errW_none, errW_some] <;> rfl) | (simp [*, errW_none, errW_some] <;> rfl), by repeat (first | (with_reducible first | exact HB.out | apply below_alloc | apply pw_below_drewN | apply below_drew1 | refine below_set ?_ GE755.out) | exact HB.out)⟩
 ·
  replace c3 := Bool.eq_false_iff.mpr c3
  subst c3
  have H1 : (some false) = some r := by rw [if_neg (show ¬ (false = true) by decide)] at H; exact H
  clear H
  have H := H1
  clear H1
  obtain rfl := Option.some.inj H
  go_enter Try.func55, Try.ntmps55
  try go_wp2_with (first | ((with_reducible refine gate_dst (N := 1) rfl ?_); refine box_event ?hg (N := 1) ?hd (cs := #[.int .u64 0, .int .i64 0, .int .u64 0, .int .i64 0]) (t := 27) ?hr ?_; (case hd => rfl); (case hg => rfl); (case hr => first | (go_simp; done) | (go_simp; rfl)); intro gb755 hg w40 hbox hb; have n0_ := Aside0.mk (below_step zb_ hb); have n1_ := Aside0.mk (hbox); have n2_ := Aside0.mk ((by rw [hg]; exact (below_size zb_) : w.heap.size ≤ gb755)); have n3_ := Aside0.mk ((by rw [hg]; exact (below_size zb_) : w.heap.size ≤ gb755)); clear HB; have HB := n0_; have BK755 := n1_; have GW755 := n2_; have GE755 := n3_; clear n0_ n1_ n2_ n3_; clear hb hbox hg; have hcz41_0 : w40.cell? ⟨gb755, 0, none⟩ = some (.int .u64 0) := (blk_cell BK755.out 0).trans rfl; have hcz41_1 : w40.cell? ⟨gb755, 1, none⟩ = some (.int .i64 0) := (blk_cell BK755.out 1).trans rfl; have hcz41_2 : w40.cell? ⟨gb755, 2, none⟩ = some (.int .u64 0) := (blk_cell BK755.out 2).trans rfl; have hcz41_3 : w40.cell? ⟨gb755, 3, none⟩ = some (.int .i64 0) := (blk_cell BK755.out 3).trans rfl; have hfz41_0 := blk_frozen BK755.out 0; have hfz41_1 := blk_frozen BK755.out 1; have hfz41_2 := blk_frozen BK755.out 2; have hfz41_3 := blk_frozen BK755.out 3) | ((with_reducible refine gate_dst (N := 10) rfl ?_); refine Kd.R_lit k27 _ 27 ?hg (N := 10) ?hd (xs := ([(⟨(⟨1, 0⟩ : S25), 1, 0⟩ : S27)] : List (S27))) (inner := [.int .u64 1, .int .i64 0, .int .u64 1, .int .i64 0]) (ok := fun _ => True) (okp := fun _ => True) ?hr ?hp (fun _ hk => hk) trivial (Below.refl _ _) (Nat.le_refl _) (by simp) ?_; (case hd => rfl); (case hg => rfl); (case hr => first | (go_simp; done) | (go_simp; rfl)); (case hp => exact (Reps.c4 (show Kd.M k27 _ _ _ (⟨(⟨1, 0⟩ : S25), 1, 0⟩ : S27) [.int .u64 1, .int .i64 0, .int .u64 1, .int .i64 0] from (k27_mkM _ _ _ (⟨(⟨1, 0⟩ : S25), 1, 0⟩ : S27) )) (Reps.none _ _))); intro v757 w42 ho43 hb hg_ hnew_; clear hg_ hnew_; (first | rw [← Ny756.out] at ho43 | (simp only [Int.reduceToNat] at ho43; rw [← Ny756.out] at ho43)); have n0_ := Aside0.mk (Kd.R_lower (Kd.R_newB ho43 (g := gb755) (o := .cells #[.int .u64 1, .int .i64 0, .int .u64 1, .int .i64 0] 27 (0, 0)) (by (with_reducible repeat (first | refine blk_drewN ?_ _ | refine blk_drew ?_ | refine blk_alloc ?_ _)); refine blk_put (cs := #[.int .u64 1, .int .i64 0, .int .u64 1, .int .i64 0]) ?_ 3 _ rfl; (with_reducible repeat (first | refine blk_drewN ?_ _ | refine blk_drew ?_ | refine blk_alloc ?_ _)); refine blk_put (cs := #[.int .u64 1, .int .i64 0, .int .u64 0, .int .i64 0]) ?_ 2 _ rfl; (with_reducible repeat (first | refine blk_drewN ?_ _ | refine blk_drew ?_ | refine blk_alloc ?_ _)); refine blk_put (cs := #[.int .u64 1, .int .i64 0, .int .u64 0, .int .i64 0]) ?_ 1 _ rfl; (with_reducible repeat (first | refine blk_drewN ?_ _ | refine blk_drew ?_ | refine blk_alloc ?_ _)); refine blk_put (cs := #[.int .u64 0, .int .i64 0, .int .u64 0, .int .i64 0]) ?_ 0 _ rfl; (with_reducible repeat (first | refine blk_drewN ?_ _ | refine blk_drew ?_ | refine blk_alloc ?_ _)); exact BK755.out)) (below_size zb_)); have n1_ := Aside0.mk (blk_below (g := gb755) (o := .cells #[.int .u64 1, .int .i64 0, .int .u64 1, .int .i64 0] 27 (0, 0)) (by (with_reducible repeat (first | refine blk_drewN ?_ _ | refine blk_drew ?_ | refine blk_alloc ?_ _)); refine blk_put (cs := #[.int .u64 1, .int .i64 0, .int .u64 1, .int .i64 0]) ?_ 3 _ rfl; (with_reducible repeat (first | refine blk_drewN ?_ _ | refine blk_drew ?_ | refine blk_alloc ?_ _)); refine blk_put (cs := #[.int .u64 1, .int .i64 0, .int .u64 0, .int .i64 0]) ?_ 2 _ rfl; (with_reducible repeat (first | refine blk_drewN ?_ _ | refine blk_drew ?_ | refine blk_alloc ?_ _)); refine blk_put (cs := #[.int .u64 1, .int .i64 0, .int .u64 0, .int .i64 0]) ?_ 1 _ rfl; (with_reducible repeat (first | refine blk_drewN ?_ _ | refine blk_drew ?_ | refine blk_alloc ?_ _)); refine blk_put (cs := #[.int .u64 0, .int .i64 0, .int .u64 0, .int .i64 0]) ?_ 0 _ rfl; (with_reducible repeat (first | refine blk_drewN ?_ _ | refine blk_drew ?_ | refine blk_alloc ?_ _)); exact BK755.out) hb); have n2_ := Aside0.mk (below_step zb_ hb); clear BK755; clear HB; have HO758 := n0_; have BK755 := n1_; have HB := n2_; clear n0_ n1_ n2_; clear hb ho43; obtain ⟨Ao44, co44, eo44⟩ := Kd.R_slice HO758.out; subst eo44) | ((with_reducible refine gate_dst (N := 13) rfl ?_); refine Kd.N_lit k87 _ 87 ?hg (N' := 13) ?hd (xs := ([(⟨0, (⟨([] : List (S32)), ([] : List (S27)), 1, (⟨1, 0⟩ : S25)⟩ : S53)⟩ : S87), (⟨1, (⟨([] : List (S32)), y756, 2, (⟨2, 0⟩ : S25)⟩ : S53)⟩ : S87)] : List (S87))) (inner := [.int .i64 0, .slice none 0 0, .slice none 0 0, .int .i64 1, .int .u64 1, .int .i64 0, .int .i64 1, .slice none 0 0, .slice Ao44 y756.length co44, .int .i64 2, .int .u64 2, .int .i64 0]) (ok := (fun k_ => k_ ≠ gb755)) (okp := (fun k_ => k_ ≠ gb755)) ?hr ?hp (fun _ hk => hk) ((show ∀ k_, w42.heap.size ≤ k_ → (fun k_ => k_ ≠ gb755) k_ from fun k_ hk => Kd.freshB (g := gb755) (o := .cells #[.int .u64 1, .int .i64 0, .int .u64 1, .int .i64 0] 27 (0, 0)) (by (with_reducible repeat (first | refine blk_drewN ?_ _ | refine blk_drew ?_ | refine blk_alloc ?_ _)); exact BK755.out) k_ hk) _ (Nat.le_refl _)) (Below.refl _ _) (Nat.le_refl _) (by simp) ?_; (case hd => rfl); (case hg => rfl); (case hr => first | (go_simp; done) | (go_simp; rfl)); (case hp => exact (Reps.c6 (show Kd.FK k87 _ _ (⟨0, (⟨([] : List (S32)), ([] : List (S27)), 1, (⟨1, 0⟩ : S25)⟩ : S53)⟩ : S87) [.int .i64 0, .slice none 0 0, .slice none 0 0, .int .i64 1, .int .u64 1, .int .i64 0] from (k87_mkF _ _ (⟨0, (⟨([] : List (S32)), ([] : List (S27)), 1, (⟨1, 0⟩ : S25)⟩ : S53)⟩ : S87) (Nat.le_refl _) (Kd.F_nil _ _ _) (Nat.le_refl _) (Kd.F_nil _ _ _))) (Reps.c6 (show Kd.FK k87 _ _ (⟨1, (⟨([] : List (S32)), y756, 2, (⟨2, 0⟩ : S25)⟩ : S53)⟩ : S87) [.int .i64 1, .slice none 0 0, .slice Ao44 y756.length co44, .int .i64 2, .int .u64 2, .int .i64 0] from (k87_mkF _ _ (⟨1, (⟨([] : List (S32)), y756, 2, (⟨2, 0⟩ : S25)⟩ : S53)⟩ : S87) (Nat.le_refl _) (Kd.F_nil _ _ _) (Kd.R_reads' (Kd.R_mono (ok' := (fun k_ => k_ ≠ gb755)) (HO758.out) (fun k_ hk => hk.2))).2.1 (Kd.R_F (Kd.R_mono (ok' := (fun k_ => k_ ≠ gb755)) (HO758.out) (fun k_ hk => hk.2))))) (Reps.none _ _)))); intro v760 w45 ho46 hb hg_ hnew_; clear hg_ hnew_; (first | rw [← Ny759.out] at ho46 | (simp only [Int.reduceToNat] at ho46; rw [← Ny759.out] at ho46)); have n0_ := Aside0.mk (Kd.N_lower ho46 (below_size zb_)); have n1_ := zk_ BK755 hb; have n2_ := Aside0.mk (below_step zb_ hb); clear BK755; clear HB; clear HO758; have HO761 := n0_; have BK755 := n1_; have HB := n2_; clear n0_ n1_ n2_; clear hb ho46; obtain ⟨Ao47, co47, eo47⟩ := Kd.N_slice HO761.out; subst eo47))
  have n0_ := Aside0.mk (Kd.N_drew HO761.out)
  have n1_ := Aside0.mk (blk_drew BK755.out)
  have n2_ := Aside0.mk (below_drew1 HB.out)
  clear HO761
  clear BK755
  clear HB
  have HO761 := n0_
  have BK755 := n1_
  have HB := n2_
  clear n0_ n1_ n2_
  refine start_ (n := 16) (S := fun w' => w'.cell? ⟨gb755, 0, none⟩ = some (.int .u64 1) ∧ w'.cell? ⟨gb755, 1, none⟩ = some (.int .i64 0) ∧ w'.cell? ⟨gb755, 2, none⟩ = some (.int .u64 1) ∧ w'.cell? ⟨gb755, 3, none⟩ = some (.int .i64 0)) (ds := []) #[F_,F_,F_,F_,F_,F_,F_,F_,F_,F_,F_,F_,F_,F_,F_,F_] (by kernel_rfl) rfl rfl ⟨(blk_cell BK755.out 0).trans rfl, (blk_cell BK755.out 1).trans rfl, (blk_cell BK755.out 2).trans rfl, (blk_cell BK755.out 3).trans rfl⟩ (fun hHeld => ?_); refine with_tabW folkmootlaw16_awake.tab3 folkmootlaw16_awake.bits3 (fun HT_ HW_ => ?_)
  generalize w45.drew = w48 at HO761 BK755 HB hHeld ⊢
  refine pure_ (i := 0) (N := some 14) (v := ?_) (a' := ?_) #[T_,F_,F_,F_,F_,F_,F_,F_,F_,F_,F_,F_,F_,F_,F_,F_] rfl rfl (any_of HT_.out (by kernel_rfl)) (fun _ _ _ h => h) (Or.inl ⟨by rfl, ?_⟩) ?_ ?_
  rotate_left
  ·
   intro w'; go_simp; with_reducible rfl
  rotate_left
  ·
   exact zp_
  refine take_ (i := 2) (N := some 16) (v := ?_) (a' := ?_) #[T_,F_,T_,F_,F_,F_,F_,F_,F_,F_,F_,F_,F_,F_,F_,F_] rfl rfl (take_ofW HT_.out HW_.out (by kernel_rfl)) (fun _ _ _ h => h) (Or.inl ⟨by rfl, ?_⟩) hHeld ?_ ?_
  rotate_left
  ·
   rintro w' ⟨s0, s1, s2, s3⟩
   go_simp
   with_reducible rfl
  rotate_left
  ·
   exact zp_
  refine join_ (σ := Value × Value) 12 #[T_,T_,T_,T_,F_,F_,F_,F_,F_,F_,F_,F_,F_,F_,F_,F_] (fun s_ => [(15, s_.1), (17, s_.2)]) (fun s_ w' => (w'.cell? ⟨gb755, 0, none⟩ = some (.int .u64 1) ∧ w'.cell? ⟨gb755, 1, none⟩ = some (.int .i64 0) ∧ w'.cell? ⟨gb755, 2, none⟩ = some (.int .u64 1) ∧ w'.cell? ⟨gb755, 3, none⟩ = some (.int .i64 0)) ∧ (Kd.N k87 87 w' w.heap.size (fun k_ => some k_ ≠ (s_.1 : Value).ownBlock ∧ some k_ ≠ (s_.2 : Value).ownBlock ∧ k_ ≠ gb755) (.slice Ao47 y759.length co47) y759) ∧ (Kd.R k27 27 w' w.heap.size (fun k_ => some k_ ≠ (s_.2 : Value).ownBlock ∧ k_ ≠ gb755) s_.1 t762) ∧ (Kd.R k27 27 w' w.heap.size (fun k_ => some k_ ≠ (s_.1 : Value).ownBlock ∧ k_ ≠ gb755) s_.2 y765) ∧ (w'.heap[gb755]? = some (.cells #[.int .u64 1, .int .i64 0, .int .u64 1, .int .i64 0] 27 (0, 0))) ∧ (Below w.heap.size w w')) ?_ ?_
  rotate_left
  ·
   intro hCont
   refine two_ (i := 1) (j := 3) (Ni := some 15) (Nj := some 17) #[T_,T_,T_,F_,F_,F_,F_,F_,F_,F_,F_,F_,F_,F_,F_,F_] #[T_,F_,T_,T_,F_,F_,F_,F_,F_,F_,F_,F_,F_,F_,F_,F_] rfl rfl rfl rfl (two_of HT_.out (by kernel_rfl)) (by decide) (by decide) (fun K hK => ?_) (fun K hK => ?_)
   ·
    skip
    refine goes_ Try.func62 (by kernel_rfl) rfl #[.slice Ao47 y759.length co47] (by rfl) rfl rfl za_ ?_
    with_reducible refine (exchange_Short.calls k _ _ y759 t762 _ ?side1 ?side2 A1.out).mono ?_
    (case side1 => exact zd_ (Kd.N_reads' HO761.out).2.2)
    (case side2 => exact (Kd.N_reads' HO761.out).2.1)
    rintro e w49 ⟨v763, rfl, ho0, hb⟩
    refine ⟨_, rfl, ?_⟩
    have n0_ := Aside0.mk (Kd.N_elder' (zn_ HO761) (Kd.R_base ho0) hb)
    have n1_ := Aside0.mk (Kd.R_lower (Kd.R_newB ho0 (g := gb755) (o := .cells #[.int .u64 1, .int .i64 0, .int .u64 1, .int .i64 0] 27 (0, 0)) (by (with_reducible repeat (first | refine blk_drewN ?_ _ | refine blk_drew ?_ | refine blk_alloc ?_ _)); exact BK755.out)) (below_size zb_))
    have n2_ := zk_ BK755 hb
    have n3_ := Aside0.mk (below_step zb_ hb)
    clear HO761
    clear BK755
    clear HB
    have HO761 := n0_
    have HO764 := n1_
    have BK755 := n2_
    have HB := n3_
    clear n0_ n1_ n2_ n3_
    (try clear hb)
    (try clear hb2)
    (try clear hk)
    (try clear hi)
    (try clear ho0)
    refine hK.out _ _ ⟨(blk_cell BK755.out 0).trans rfl, (blk_cell BK755.out 1).trans rfl, (blk_cell BK755.out 2).trans rfl, (blk_cell BK755.out 3).trans rfl⟩ (fun hHeld => ?_)
    clear hK K
    refine norm_ (a' := ?_) ?_ ?_
    rotate_left
    ·
     show Act.put _ (some 15) _ = _
     simp only [Act.put, List.setIfInBounds_toArray, List.set_cons_zero, List.set_cons_succ, i64_w, i32_w]
     rfl
    refine one_ (i := 3) (N := some 17) #[T_,T_,T_,T_,F_,F_,F_,F_,F_,F_,F_,F_,F_,F_,F_,F_] rfl rfl (one_of HT_.out (by kernel_rfl)) (by decide) (fun K hK => ?_)
    refine Kd.R_lit_step k27 _ 27 ?hg (N := 17) ?hd (xs := ([(⟨(⟨1, 0⟩ : S25), 1, 0⟩ : S27)] : List (S27))) (inner := [.int .u64 1, .int .i64 0, .int .u64 1, .int .i64 0]) (ok := fun _ => True) (okp := fun _ => True) ?hr ?hp (fun _ hk => hk) trivial (Below.refl _ _) (Nat.le_refl _) (by simp) ?_; (case hd => rfl); (case hg => rfl); (case hr => first | (go_simp; done) | (go_simp; rfl)); (case hp => exact (Reps.c4 (show Kd.M k27 _ _ _ (⟨(⟨1, 0⟩ : S25), 1, 0⟩ : S27) [.int .u64 1, .int .i64 0, .int .u64 1, .int .i64 0] from (k27_mkM _ _ _ (⟨(⟨1, 0⟩ : S25), 1, 0⟩ : S27) )) (Reps.none _ _)))
    intro v766 w50 ho51 hb hg_ hnew_
    clear hg_ hnew_
    (first | rw [← Ny765.out] at ho51 | (simp only [Int.reduceToNat] at ho51; rw [← Ny765.out] at ho51))
    have n0_ := Aside0.mk (Kd.N_elder' (zn_ HO761) (Kd.R_base ho51) hb)
    have n1_ := Aside0.mk (Kd.R_elder' (zr_ HO764) (Kd.R_base ho51) hb)
    have n2_ := Aside0.mk (Kd.R_lower (Kd.R_newB (Kd.R_new' ho51 (Kd.R_lt (zr_ HO764))) (g := gb755) (o := .cells #[.int .u64 1, .int .i64 0, .int .u64 1, .int .i64 0] 27 (0, 0)) (by (with_reducible repeat (first | refine blk_drewN ?_ _ | refine blk_drew ?_ | refine blk_alloc ?_ _)); exact BK755.out)) (below_size zb_))
    have n3_ := zk_ BK755 hb
    have n4_ := Aside0.mk (below_step zb_ hb)
    clear HO761
    clear HO764
    clear BK755
    clear HB
    have HO761 := n0_
    have HO764 := n1_
    have HO767 := n2_
    have BK755 := n3_
    have HB := n4_
    clear n0_ n1_ n2_ n3_ n4_
    clear hb ho51
    refine hK.out _ _ ⟨(blk_cell BK755.out 0).trans rfl, (blk_cell BK755.out 1).trans rfl, (blk_cell BK755.out 2).trans rfl, (blk_cell BK755.out 3).trans rfl⟩ (fun hHeld => ?_)
    clear hK K
    refine norm_ (a' := ?_) ?_ ?_
    rotate_left
    ·
     show Act.put _ (some 17) _ = _
     simp only [Act.put, List.setIfInBounds_toArray, List.set_cons_zero, List.set_cons_succ, i64_w, i32_w]
     rfl
    exact norm_ (by simp only [putAll, Act.put, List.setIfInBounds_toArray, List.set_cons_zero, List.set_cons_succ]) (hCont (v763, v766) _ ⟨hHeld, (by (with_reducible repeat (first | apply Kd.N_alloc | apply Kd.N_drewN | apply Kd.N_drew)); exact Kd.N_mono HO761.out (fun _ hk => ⟨hk.1.2, ⟨hk.2, hk.1.1⟩⟩)), (by (with_reducible repeat (first | apply Kd.R_alloc | apply Kd.R_drewN | apply Kd.R_drew)); exact Kd.R_mono HO764.out (fun _ hk => ⟨hk.2, hk.1.2⟩)), (by (with_reducible repeat (first | apply Kd.R_alloc | apply Kd.R_drewN | apply Kd.R_drew)); exact Kd.R_mono HO767.out (fun _ hk => ⟨hk.1.2, hk.2⟩)), (by (with_reducible repeat (first | refine blk_drewN ?_ _ | refine blk_drew ?_ | refine blk_alloc ?_ _)); exact BK755.out), zb_⟩)
   ·
    skip
    refine Kd.R_lit_step k27 _ 27 ?hg (N := 17) ?hd (xs := ([(⟨(⟨1, 0⟩ : S25), 1, 0⟩ : S27)] : List (S27))) (inner := [.int .u64 1, .int .i64 0, .int .u64 1, .int .i64 0]) (ok := fun _ => True) (okp := fun _ => True) ?hr ?hp (fun _ hk => hk) trivial (Below.refl _ _) (Nat.le_refl _) (by simp) ?_; (case hd => rfl); (case hg => rfl); (case hr => first | (go_simp; done) | (go_simp; rfl)); (case hp => exact (Reps.c4 (show Kd.M k27 _ _ _ (⟨(⟨1, 0⟩ : S25), 1, 0⟩ : S27) [.int .u64 1, .int .i64 0, .int .u64 1, .int .i64 0] from (k27_mkM _ _ _ (⟨(⟨1, 0⟩ : S25), 1, 0⟩ : S27) )) (Reps.none _ _)))
    intro v766 w49 ho50 hb hg_ hnew_
    clear hg_ hnew_
    (first | rw [← Ny765.out] at ho50 | (simp only [Int.reduceToNat] at ho50; rw [← Ny765.out] at ho50))
    have n0_ := Aside0.mk (Kd.N_elder' (zn_ HO761) (Kd.R_base ho50) hb)
    have n1_ := Aside0.mk (Kd.R_lower (Kd.R_newB ho50 (g := gb755) (o := .cells #[.int .u64 1, .int .i64 0, .int .u64 1, .int .i64 0] 27 (0, 0)) (by (with_reducible repeat (first | refine blk_drewN ?_ _ | refine blk_drew ?_ | refine blk_alloc ?_ _)); exact BK755.out)) (below_size zb_))
    have n2_ := zk_ BK755 hb
    have n3_ := Aside0.mk (below_step zb_ hb)
    clear HO761
    clear BK755
    clear HB
    have HO761 := n0_
    have HO767 := n1_
    have BK755 := n2_
    have HB := n3_
    clear n0_ n1_ n2_ n3_
    clear hb ho50
    refine hK.out _ _ ⟨(blk_cell BK755.out 0).trans rfl, (blk_cell BK755.out 1).trans rfl, (blk_cell BK755.out 2).trans rfl, (blk_cell BK755.out 3).trans rfl⟩ (fun hHeld => ?_)
    clear hK K
    refine norm_ (a' := ?_) ?_ ?_
    rotate_left
    ·
     show Act.put _ (some 17) _ = _
     simp only [Act.put, List.setIfInBounds_toArray, List.set_cons_zero, List.set_cons_succ, i64_w, i32_w]
     rfl
    refine one_ (i := 1) (N := some 15) #[T_,T_,T_,T_,F_,F_,F_,F_,F_,F_,F_,F_,F_,F_,F_,F_] rfl rfl (one_of HT_.out (by kernel_rfl)) (by decide) (fun K hK => ?_)
    refine goes_ Try.func62 (by kernel_rfl) rfl #[.slice Ao47 y759.length co47] (by rfl) rfl rfl za_ ?_
    with_reducible refine (exchange_Short.calls k _ _ y759 t762 _ ?side1 ?side2 A1.out).mono ?_
    (case side1 => exact zd_ (Kd.N_reads' HO761.out).2.2)
    (case side2 => exact (Kd.N_reads' HO761.out).2.1)
    rintro e w51 ⟨v763, rfl, ho0, hb⟩
    refine ⟨_, rfl, ?_⟩
    have n0_ := Aside0.mk (Kd.N_elder' (zn_ HO761) (Kd.R_base ho0) hb)
    have n1_ := Aside0.mk (Kd.R_elder' (zr_ HO767) (Kd.R_base ho0) hb)
    have n2_ := Aside0.mk (Kd.R_lower (Kd.R_newB (Kd.R_new' ho0 (Kd.R_lt (zr_ HO767))) (g := gb755) (o := .cells #[.int .u64 1, .int .i64 0, .int .u64 1, .int .i64 0] 27 (0, 0)) (by (with_reducible repeat (first | refine blk_drewN ?_ _ | refine blk_drew ?_ | refine blk_alloc ?_ _)); exact BK755.out)) (below_size zb_))
    have n3_ := zk_ BK755 hb
    have n4_ := Aside0.mk (below_step zb_ hb)
    clear HO761
    clear HO767
    clear BK755
    clear HB
    have HO761 := n0_
    have HO767 := n1_
    have HO764 := n2_
    have BK755 := n3_
    have HB := n4_
    clear n0_ n1_ n2_ n3_ n4_
    (try clear hb)
    (try clear hb2)
    (try clear hk)
    (try clear hi)
    (try clear ho0)
    refine hK.out _ _ ⟨(blk_cell BK755.out 0).trans rfl, (blk_cell BK755.out 1).trans rfl, (blk_cell BK755.out 2).trans rfl, (blk_cell BK755.out 3).trans rfl⟩ (fun hHeld => ?_)
    clear hK K
    refine norm_ (a' := ?_) ?_ ?_
    rotate_left
    ·
     show Act.put _ (some 15) _ = _
     simp only [Act.put, List.setIfInBounds_toArray, List.set_cons_zero, List.set_cons_succ, i64_w, i32_w]
     rfl
    exact norm_ (by simp only [putAll, Act.put, List.setIfInBounds_toArray, List.set_cons_zero, List.set_cons_succ]) (hCont (v763, v766) _ ⟨hHeld, (by (with_reducible repeat (first | apply Kd.N_alloc | apply Kd.N_drewN | apply Kd.N_drew)); exact Kd.N_mono HO761.out (fun _ hk => ⟨hk.2, ⟨hk.1.2, hk.1.1⟩⟩)), (by (with_reducible repeat (first | apply Kd.R_alloc | apply Kd.R_drewN | apply Kd.R_drew)); exact Kd.R_mono HO764.out (fun _ hk => ⟨hk.1.2, hk.2⟩)), (by (with_reducible repeat (first | apply Kd.R_alloc | apply Kd.R_drewN | apply Kd.R_drew)); exact Kd.R_mono HO767.out (fun _ hk => ⟨hk.2, hk.1.2⟩)), (by (with_reducible repeat (first | refine blk_drewN ?_ _ | refine blk_drew ?_ | refine blk_alloc ?_ _)); exact BK755.out), zb_⟩)
  rintro ⟨v763, v766⟩ w52 ⟨hS_, h0_, h1_, h2_, h3_, h4_⟩
  have n0_ : Aside0 (Kd.N k87 87 w52 w.heap.size (fun k_ => some k_ ≠ (v763 : Value).ownBlock ∧ some k_ ≠ (v766 : Value).ownBlock ∧ k_ ≠ gb755) (.slice Ao47 y759.length co47) y759) := ⟨h0_⟩
  have n1_ : Aside0 (Kd.R k27 27 w52 w.heap.size (fun k_ => some k_ ≠ (v766 : Value).ownBlock ∧ k_ ≠ gb755) v763 t762) := ⟨h1_⟩
  have n2_ : Aside0 (Kd.R k27 27 w52 w.heap.size (fun k_ => some k_ ≠ (v763 : Value).ownBlock ∧ k_ ≠ gb755) v766 y765) := ⟨h2_⟩
  have n3_ : Aside0 (w52.heap[gb755]? = some (.cells #[.int .u64 1, .int .i64 0, .int .u64 1, .int .i64 0] 27 (0, 0))) := ⟨h3_⟩
  have n4_ : Aside0 (Below w.heap.size w w52) := ⟨h4_⟩
  clear HO761
  clear BK755
  clear HB
  clear h0_ h1_ h2_ h3_ h4_
  have HO761 := n0_
  have HO764 := n1_
  have HO767 := n2_
  have BK755 := n3_
  have HB := n4_
  clear n0_ n1_ n2_ n3_ n4_
  have hHeld : w52.cell? ⟨gb755, 0, none⟩ = some (.int .u64 1) ∧ w52.cell? ⟨gb755, 1, none⟩ = some (.int .i64 0) ∧ w52.cell? ⟨gb755, 2, none⟩ = some (.int .u64 1) ∧ w52.cell? ⟨gb755, 3, none⟩ = some (.int .i64 0) := hS_
  obtain ⟨Ao53, co53, eo53⟩ := Kd.R_slice HO764.out
  (first | subst eo53 | (injection eo53 with f1_ f2_ f3_; have f4_ := f1_.symm; have f5_ := f3_.symm; clear f1_ f2_ f3_; subst f4_; subst f5_))
  obtain ⟨Ao54, co54, eo54⟩ := Kd.R_slice HO767.out
  (first | subst eo54 | (injection eo54 with f1_ f2_ f3_; have f4_ := f1_.symm; have f5_ := f3_.symm; clear f1_ f2_ f3_; subst f4_; subst f5_))
  refine norm_ (a' := ?_) ?_ ?_
  rotate_left
  ·
   simp only [putAll, Act.put, List.setIfInBounds_toArray, List.set_cons_zero, List.set_cons_succ]
   rfl
  refine one_ (i := 4) (N := some 18) #[T_,T_,T_,T_,T_,F_,F_,F_,F_,F_,F_,F_,F_,F_,F_,F_] rfl rfl (one_of HT_.out (by kernel_rfl)) (by decide) (fun K hK => ?_)
  refine goes_ Try.func30 (by kernel_rfl) rfl #[.slice Ao53 t762.length co53, .slice Ao54 y765.length co54] (by rfl) rfl rfl za_ ?_
  with_reducible refine (folkmootref05_Same.calls k _ _ t762 _ _ y765 false _ ?side1 ?side2 ?side3 ?side4 A2.out).mono ?_
  (case side1 => exact zd_ (Kd.R_reads' HO764.out).2.2)
  (case side2 => exact (Kd.R_reads' HO764.out).2.1)
  (case side3 => exact zd_ (Kd.R_reads' HO767.out).2.2)
  (case side4 => exact (Kd.R_reads' HO767.out).2.1)
  rintro e w' ⟨rfl, ⟨nd, rfl⟩⟩
  refine ⟨_, rfl, ?_⟩
  refine hK.out _ _ ⟨(blk_cell BK755.out 0).trans rfl, (blk_cell BK755.out 1).trans rfl, (blk_cell BK755.out 2).trans rfl, (blk_cell BK755.out 3).trans rfl⟩ (fun hHeld => ?_)
  clear hK K
  refine norm_ (a' := ?_) ?_ ?_
  rotate_left
  ·
   show Act.put _ (some 18) _ = _
   simp only [Act.put, List.setIfInBounds_toArray, List.set_cons_zero, List.set_cons_succ, i64_w, i32_w]
   rfl
  refine pure_ (i := 5) (N := some 19) (v := ?_) (a' := ?_) #[T_,T_,T_,T_,T_,T_,F_,F_,F_,F_,F_,F_,F_,F_,F_,F_] rfl rfl (any_of HT_.out (by kernel_rfl)) (fun _ _ _ h => h) (Or.inl ⟨by rfl, ?_⟩) ?_ ?_
  rotate_left
  ·
   intro w'; go_simp; with_reducible rfl
  rotate_left
  ·
   exact zp_
  refine pure_ (i := 6) (N := some 20) (v := undef) (a' := ?_) #[T_,T_,T_,T_,T_,T_,T_,F_,F_,F_,F_,F_,F_,F_,F_,F_] rfl rfl (any_of HT_.out (by kernel_rfl)) (fun _ _ _ h => h) (Or.inr ⟨by rfl, rfl⟩) ?_ ?_
  rotate_left
  ·
   exact zp_
  refine pure_ (i := 7) (N := some 21) (v := undef) (a' := ?_) #[T_,T_,T_,T_,T_,T_,T_,T_,F_,F_,F_,F_,F_,F_,F_,F_] rfl rfl (any_of HT_.out (by kernel_rfl)) (fun _ _ _ h => h) (Or.inr ⟨by rfl, rfl⟩) ?_ ?_
  rotate_left
  ·
   exact zp_
  refine pure_ (i := 8) (N := some 22) (v := undef) (a' := ?_) #[T_,T_,T_,T_,T_,T_,T_,T_,T_,F_,F_,F_,F_,F_,F_,F_] rfl rfl (any_of HT_.out (by kernel_rfl)) (fun _ _ _ h => h) (Or.inr ⟨by rfl, rfl⟩) ?_ ?_
  rotate_left
  ·
   exact zp_
  refine pure_ (i := 9) (N := some 23) (v := ?_) (a' := ?_) #[T_,T_,T_,T_,T_,T_,T_,T_,T_,T_,F_,F_,F_,F_,F_,F_] rfl rfl (any_of HT_.out (by kernel_rfl)) (fun _ _ _ h => h) (Or.inl ⟨by rfl, ?_⟩) ?_ ?_
  rotate_left
  ·
   intro w'; go_simp; with_reducible rfl
  rotate_left
  ·
   exact zp_
  refine pure_ (i := 10) (N := some 24) (v := ?_) (a' := ?_) #[T_,T_,T_,T_,T_,T_,T_,T_,T_,T_,T_,F_,F_,F_,F_,F_] rfl rfl (any_of HT_.out (by kernel_rfl)) (fun _ _ _ h => h) (Or.inl ⟨by rfl, ?_⟩) ?_ ?_
  rotate_left
  ·
   intro w'; go_simp; with_reducible rfl
  rotate_left
  ·
   exact zp_
  refine pure_ (i := 11) (N := some 25) (v := undef) (a' := ?_) #[T_,T_,T_,T_,T_,T_,T_,T_,T_,T_,T_,T_,F_,F_,F_,F_] rfl rfl (any_of HT_.out (by kernel_rfl)) (fun _ _ _ h => h) (Or.inr ⟨by rfl, rfl⟩) ?_ ?_
  rotate_left
  ·
   exact zp_
  refine pure_ (i := 12) (N := some 26) (v := undef) (a' := ?_) #[T_,T_,T_,T_,T_,T_,T_,T_,T_,T_,T_,T_,T_,F_,F_,F_] rfl rfl (any_of HT_.out (by kernel_rfl)) (fun _ _ _ h => h) (Or.inr ⟨by rfl, rfl⟩) ?_ ?_
  rotate_left
  ·
   exact zp_
  refine pure_ (i := 13) (N := some 27) (v := undef) (a' := ?_) #[T_,T_,T_,T_,T_,T_,T_,T_,T_,T_,T_,T_,T_,T_,F_,F_] rfl rfl (any_of HT_.out (by kernel_rfl)) (fun _ _ _ h => h) (Or.inr ⟨by rfl, rfl⟩) ?_ ?_
  rotate_left
  ·
   exact zp_
  refine pure_ (i := 14) (N := some 28) (v := ?_) (a' := ?_) #[T_,T_,T_,T_,T_,T_,T_,T_,T_,T_,T_,T_,T_,T_,T_,F_] rfl rfl (any_of HT_.out (by kernel_rfl)) (fun _ _ _ h => h) (Or.inl ⟨by rfl, ?_⟩) ?_ ?_
  rotate_left
  ·
   intro w'; go_simp; with_reducible rfl
  rotate_left
  ·
   exact zp_
  refine pure_ (i := 15) (N := some 0) (v := ?_) (a' := ?_) #[T_,T_,T_,T_,T_,T_,T_,T_,T_,T_,T_,T_,T_,T_,T_,T_] rfl rfl (any_of HT_.out (by kernel_rfl)) (fun _ _ _ h => h) (Or.inl ⟨by rfl, ?_⟩) ?_ ?_
  rotate_left
  ·
   intro w'; go_simp; with_reducible rfl
  rotate_left
  ·
   exact zp_
  refine done_ (done_of HT_.out (by kernel_rfl)) ?_
  (try clear hHeld); (try clear HS0_)
  try go_wp2
  go_ret
  exact ⟨by first | rfl | (simp [errW_none, errW_some] <;> rfl) | (simp [*, errW_none, errW_some] <;> rfl), by repeat (first | (with_reducible first | exact HB.out | apply below_alloc | apply pw_below_drewN | apply below_drew1 | refine below_set ?_ GE755.out) | exact HB.out)⟩
end Go.Proofs.Ytioooiflpabngaa.PAll
end
section
namespace Go.Proofs.Ytioooiflpabngaa.PAll
open Go.RowKit Go.Proofs.YtioooiflpabngaaW.PrintWords Go.Proofs.YtioooiflpabngaaW.PrintMore
set_option linter.unusedVariables false
set_option linter.unusedSimpArgs false
def sumM (s : S53) : S53 := ⟨mergeR [] s.f0, s.f1, s.f2, s.f3⟩
def tellK (l : List S53) (k : Nat) : S87 := ⟨(k : Int), sumM (l.getD k z53)⟩
def toldT (l : List S53) (a : Nat) : List S87 := (List.range' 0 l.length).map fun i => tellK l ((i + a) % l.length)
theorem told_loop (l : List S53) (a : Nat) (ha : a ≤ 255) (hn : l.length ≤ 16) (hc : ∀ s ∈ l, s.f0.length ≤ 150) : ∀ (d i : Nat) (A : List S87), d = l.length - i → i ≤ l.length → A.length = i →
    Ev (fun k => folkmootlaw16_told.l0 k l (a : Int) A (A.map (·.f0)) (A.map (·.f1)) (i : Int)) (A ++ (List.range' i d).map (fun i => tellK l ((i + a) % l.length)), (A ++ (List.range' i d).map (fun i => tellK l ((i + a) % l.length))).map (·.f0), (A ++ (List.range' i d).map (fun i => tellK l ((i + a) % l.length))).map (·.f1)) := by
  intro d
  induction d with
  | zero =>
    intro i A hd hi hA
    refine Ev.step (fun k => by rw [folkmootlaw16_told.l0, if_neg (by omega)]) (Ev.const fun _ => ?_)
    simp
  | succ d ih =>
    intro i A hd hi hA
    have hlt : i < l.length := by omega
    have e1 : wrap64 (a : Int) = (a : Int) := by unfold wrap64; omega
    have e2 : wrap64 ((i : Int) + (a : Int)) = ((i + a : Nat) : Int) := by unfold wrap64; omega
    have e3 : Int.tmod ((i + a : Nat) : Int) (l.length : Int) = (((i + a) % l.length : Nat) : Int) := by
      rw [Int.tmod_eq_emod_of_nonneg (by omega), Int.natCast_emod]
    have hm : (i + a) % l.length < l.length := Nat.mod_lt _ (by omega)
    have e4 : l.getD ((i + a) % l.length) z53 = l[(i + a) % l.length] := by
      rw [List.getD_eq_getElem?_getD, List.getElem?_eq_getElem hm]
      rfl
    have hcm := hc l[(i + a) % l.length] (List.getElem_mem _)
    have e5 : tellK l ((i + a) % l.length) = ⟨(((i + a) % l.length : Nat) : Int), ⟨mergeR [] l[(i + a) % l.length].f0, l[(i + a) % l.length].f1, l[(i + a) % l.length].f2, l[(i + a) % l.length].f3⟩⟩ := by
      unfold tellK sumM
      rw [e4]
    have hrec := ih (i + 1) (A ++ [tellK l ((i + a) % l.length)]) (by omega) (by omega) (by simp; omega)
    rw [List.range'_succ, List.map_cons, show A ++ tellK l ((i + a) % l.length) :: (List.range' (i + 1) d).map (fun i => tellK l ((i + a) % l.length)) = (A ++ [tellK l ((i + a) % l.length)]) ++ (List.range' (i + 1) d).map (fun i => tellK l ((i + a) % l.length)) by simp]
    refine Ev.step (b := fun k => (folkmootref15_Merge.f k [] l[(i + a) % l.length].f0).bind fun t => if A.length < 1759218604441 then (if (A.map (·.f0)).length < 17592186044416 then (if (A.map (·.f1)).length < 1954687338268 then folkmootlaw16_told.l0 k l (a : Int) (A ++ [⟨(((i + a) % l.length : Nat) : Int), ⟨t, l[(i + a) % l.length].f1, l[(i + a) % l.length].f2, l[(i + a) % l.length].f3⟩⟩]) ((A.map (·.f0)) ++ [(((i + a) % l.length : Nat) : Int)]) ((A.map (·.f1)) ++ [⟨t, l[(i + a) % l.length].f1, l[(i + a) % l.length].f2, l[(i + a) % l.length].f3⟩]) ((i + 1 : Nat) : Int) else none) else none) else none) (fun k => ?_) (Ev.bind (refMerge_ev [] l[(i + a) % l.length].f0 (by simp; omega)) ?_)
    · rw [folkmootlaw16_told.l0, if_pos (by omega), if_neg (by omega), e1, e2, e3, if_pos (by omega), if_pos (by omega), rdS_nat hm, wrap_nat (by omega)]
    · have c1 : A.length < 1759218604441 := by omega
      have c2 : (A.map (·.f0)).length < 17592186044416 := by rw [List.length_map]; omega
      have c3 : (A.map (·.f1)).length < 1954687338268 := by rw [List.length_map]; omega
      simp only [c1, c2, c3, if_true]
      rw [List.map_append, List.map_append, e5] at hrec
      rw [e5]
      exact hrec
theorem told_ev (l : List S53) (a : Nat) (ha : a ≤ 255) (hn : l.length ≤ 16) (hc : ∀ s ∈ l, s.f0.length ≤ 150) : Ev (fun k => folkmootlaw16_told.f k l (a : Int)) (toldT l a, (toldT l a).map (·.f0), (toldT l a).map (·.f1)) := by
  have := told_loop l a ha hn hc l.length 0 [] (by omega) (by omega) rfl
  simpa [folkmootlaw16_told.f, toldT] using this
def total (l : List S53) : Nat := (l.map fun s => s.f0.length + s.f1.length).sum
def fewStep (x : Int) (s : S53) : Int := wrap64 (x + wrap64 ((s.f0.length : Int) + (s.f1.length : Int)))
theorem few_loop (l : List S53) (hl : l.length < 9223372036854775807) : ∀ (d i : Nat) (x : Int), d = l.length - i → i ≤ l.length → Ev (fun k => folkmootlaw16_few.l0 k l x (i : Int)) (if l.length ≤ 16 then decide ((l.drop i).foldl fewStep x ≤ 150) else false) := by
  intro d
  induction d with
  | zero =>
    intro i x hd hi
    have : i = l.length := by omega
    subst this
    refine Ev.step (fun k => by rw [folkmootlaw16_few.l0, if_neg (by omega)]) (Ev.const fun _ => ?_)
    rw [List.drop_length]
    by_cases hc : l.length ≤ 16
    · rw [if_pos hc, if_pos (by omega)]
      rfl
    · rw [if_neg hc, if_neg (by omega)]
  | succ d ih =>
    intro i x hd hi
    have hlt : i < l.length := by omega
    rw [List.drop_eq_getElem_cons hlt, List.foldl_cons]
    refine Ev.step (b := fun k => folkmootlaw16_few.l0 k l (fewStep x l[i]) ((i + 1 : Nat) : Int)) (fun k => ?_) (ih (i + 1) (fewStep x l[i]) (by omega) (by omega))
    rw [folkmootlaw16_few.l0, if_pos (by omega), if_pos (by omega), rdS_nat hlt, wrap_nat (by omega)]
    rfl
theorem few_fold : ∀ (l : List S53) (x : Nat), (∀ s ∈ l, s.f0.length + s.f1.length ≤ 8796093022208) → x + l.length * 8796093022208 < 4611686018427387904 → l.foldl fewStep (x : Int) = ((x + total l : Nat) : Int)
  | [], x, _, _ => by simp [total]
  | s :: l, x, hs, hx => by
    have h1 := hs s (List.mem_cons_self ..)
    simp only [List.length_cons] at hx
    have e : fewStep (x : Int) s = ((x + (s.f0.length + s.f1.length) : Nat) : Int) := by
      unfold fewStep
      have e1 : wrap64 ((s.f0.length : Int) + (s.f1.length : Int)) = ((s.f0.length + s.f1.length : Nat) : Int) := by unfold wrap64; omega
      rw [e1]
      unfold wrap64
      omega
    rw [List.foldl_cons, e, few_fold l _ (fun t ht => hs t (List.mem_cons_of_mem _ ht)) (by omega)]
    simp only [total, List.map_cons, List.sum_cons]
    congr 1
    omega
theorem rightS_size {s : S53} (h : rightS s) : s.f0.length + s.f1.length ≤ 8796093022208 := by
  have h1 := rightEs_len h.1
  have h2 := rightLs_len h.2.1
  omega
theorem summaries_len {l : List S53} (h : l.length * 72 ≤ reachBytes) : l.length < 1954687338269 := by
  have h2 := reachBytes_lt
  have e : (2 : Nat) ^ 47 = 140737488355328 := by decide
  rw [e] at h2
  omega
theorem few_ev (l : List S53) (hlen : l.length < 1954687338269) (h : ∀ x ∈ l, rightS x) : ∃ b, Ev (fun k => folkmootlaw16_few.f k l) b ∧ (b = true → l.length ≤ 16 ∧ total l ≤ 150) := by
  refine ⟨_, by simpa [folkmootlaw16_few.f] using few_loop l (by omega) l.length 0 0 (by omega) (by omega), ?_⟩
  intro hb
  simp only [Bool.and_eq_true, decide_eq_true_eq] at hb
  have := few_fold l 0 (fun s hs => rightS_size (h s hs)) (by omega)
  have e0 : ((0 : Nat) : Int) = 0 := rfl
  rw [e0] at this
  rw [this] at hb
  exact ⟨hb.1, by omega⟩
theorem total_mem : ∀ {l : List S53} {s : S53}, s ∈ l → s.f0.length + s.f1.length ≤ total l
  | x :: l, s, h => by
    simp only [total, List.map_cons, List.sum_cons]
    rcases List.mem_cons.1 h with rfl | h
    · omega
    · have := total_mem h
      simp only [total] at this
      omega
theorem awake16_ev : Ev (fun k => folkmootlaw16_awake.f k) true := Ev.of_mono (fun k => folkmootlaw16_awake.mono k) (K := 12) (by kernel_rfl)
theorem toldT_length (l : List S53) (a : Nat) : (toldT l a).length = l.length := by simp [toldT]
theorem mem_toldT {l : List S53} {a : Nat} {t : S87} : t ∈ toldT l a ↔ ∃ k, k < l.length ∧ t = tellK l k := by
  unfold toldT
  simp only [List.mem_map, List.mem_range'_1, Nat.zero_le, true_and, Nat.zero_add]
  constructor
  · rintro ⟨i, hi, rfl⟩
    exact ⟨_, Nat.mod_lt _ (by omega), rfl⟩
  · rintro ⟨k, hk, rfl⟩
    refine ⟨(k + (l.length - a % l.length)) % l.length, Nat.mod_lt _ (by omega), ?_⟩
    have h1 := Nat.mod_lt a (show l.length > 0 by omega)
    rw [← Nat.add_mod_mod, Nat.mod_add_mod, show k + (l.length - a % l.length) + a % l.length = k + l.length by omega, Nat.add_mod_right, Nat.mod_eq_of_lt hk]
structure Fine (T : List S87) : Prop where
  len : T.length ≤ 17
  node : ∀ t ∈ T, 0 ≤ t.f0
  uniq : ∀ t ∈ T, ∀ u ∈ T, t.f0 = u.f0 → t = u
  con : ∀ t ∈ T, t.f1.f0.length ≤ 150
  ord : ∀ t ∈ T, t.f1.f1.length ≤ 150
  bytes : ∀ t ∈ T, ∀ x ∈ t.f1.f0, x.f1.length < 140737488355328
theorem sizeC_le : ∀ {l : List (List S32)} {b : Nat}, (∀ x ∈ l, x.length ≤ b) → sizeC l ≤ l.length * b
  | [], b, _ => by simp [sizeC]
  | x :: l, b, h => by
    have h1 := h x (List.mem_cons_self ..)
    have h2 := sizeC_le (l := l) (b := b) fun y hy => h y (List.mem_cons_of_mem _ hy)
    simp only [sizeC, List.map_cons, List.sum_cons, List.length_cons] at h2 ⊢
    rw [Nat.add_mul]
    omega
theorem Fine.size {T : List S87} (h : Fine T) : sizeC (T.map fun t => t.f1.f0) ≤ 1000000 := by
  have h1 := sizeC_le (l := T.map fun t => t.f1.f0) (b := 150) fun x hx => by
    obtain ⟨t, ht, rfl⟩ := List.mem_map.1 hx
    exact h.con t ht
  rw [List.length_map] at h1
  have h2 := h.len
  have : T.length * 150 ≤ 17 * 150 := Nat.mul_le_mul_right _ h2
  omega
theorem told_fine {l : List S53} {a : Nat} (h : ∀ x ∈ l, rightS x) (hn : l.length ≤ 16) (ht : total l ≤ 150) : Fine (toldT l a) := by
  have hs : ∀ t ∈ toldT l a, ∃ k, ∃ hk : k < l.length, t = ⟨(k : Int), sumM l[k]⟩ := fun t h => by
    obtain ⟨k, hk, rfl⟩ := mem_toldT.1 h
    refine ⟨k, hk, ?_⟩
    unfold tellK
    rw [List.getD_eq_getElem?_getD, List.getElem?_eq_getElem hk]
    rfl
  refine ⟨by rw [toldT_length]; omega, fun t ht => ?_, fun t ht u hu e => ?_, fun t ht2 => ?_, fun t ht2 => ?_, fun t ht2 x hx => ?_⟩
  · obtain ⟨k, hk, rfl⟩ := hs t ht
    exact Int.natCast_nonneg _
  · obtain ⟨k, hk, rfl⟩ := hs t ht
    obtain ⟨j, hj, rfl⟩ := hs u hu
    have : k = j := by
      have e2 : (k : Int) = (j : Int) := e
      omega
    subst this
    rfl
  · obtain ⟨k, hk, rfl⟩ := hs t ht2
    have h1 := total_mem (List.getElem_mem hk)
    have h2 := mergeR_length l[k].f0 []
    simp only [sumM, List.length_nil] at h2 ⊢
    omega
  · obtain ⟨k, hk, rfl⟩ := hs t ht2
    have h1 := total_mem (List.getElem_mem hk)
    simp only [sumM]
    omega
  · obtain ⟨k, hk, rfl⟩ := hs t ht2
    simp only [sumM] at hx
    rcases mem_mergeR hx with hx | hx
    · cases hx
    · exact rightB_len ((h _ (List.getElem_mem hk)).1.2 x hx).2
theorem con_few {l : List S53} (ht : total l ≤ 150) : ∀ s ∈ l, s.f0.length ≤ 150 := fun s hs => by have := total_mem hs; omega
theorem exch_start {j0 : Nat → Bool → Option Bool} (l : List S53) (hlen : l.length < 1954687338269) (h : ∀ x ∈ l, rightS x) (hT : Ev (fun k => j0 k true) true) (hF : l.length ≤ 16 → total l ≤ 150 → Ev (fun k => j0 k false) true) :
    Ev (fun k => (folkmootlaw16_awake.f k).bind fun t => if t = true then ((folkmootlaw16_few.f k l).bind fun b => j0 k (!b)) else j0 k true) true := by
  obtain ⟨b, hb, hc⟩ := few_ev l hlen h
  refine Ev.bind awake16_ev ?_
  simp only [if_true]
  refine Ev.bind hb ?_
  cases b with
  | true => exact hF (hc rfl).1 (hc rfl).2
  | false => exact hT
theorem u8_nat {a : Int} (h : (Lit.int .u8 a).wf = true) : ∃ n : Nat, a = (n : Int) ∧ n ≤ 255 := by
  simp only [Lit.wf, Bool.and_eq_true, decide_eq_true_eq] at h
  have e1 : IntKind.u8.min = 0 := by decide
  have e2 : IntKind.u8.max = 255 := by decide
  exact ⟨a.toNat, by omega, by omega⟩
theorem Fine.lt {T : List S87} (h : Fine T) : T.length < 9223372036854775807 := by have := h.len; omega
theorem Fine.ord1 {T : List S87} (h : Fine T) : ∀ t ∈ T, t.f1.f1.length ≤ 1000000 := fun t ht => by have := h.ord t ht; omega
theorem Fine.short {T : List S87} (h : Fine T) : Ev (fun k => exchange_Short.f k T) (shortT T) := short_ev T h.lt fun t ht => by have := h.ord t ht; omega
theorem Fine.full {T : List S87} (h : Fine T) : Ev (fun k => exchange_Full.f k T) (fullT T) := full_ev T h.lt h.ord1 h.bytes h.size
theorem Fine.known {T : List S87} (h : Fine T) : Ev (fun k => exchange_Known.f k T) (knownC (T.map fun t => t.f1.f0)) := known_ev T h.lt h.bytes (by have := h.size; omega)
theorem Fine.refShort {T : List S87} (h : Fine T) : Ev (fun k => folkmootref16_Short.f k (T.map (·.f0)) (T.map (·.f1))) (shortT T) := refShort_ev T h.lt h.node h.uniq
theorem Fine.refFull {T : List S87} (h : Fine T) : Ev (fun k => folkmootref16_Full.f k (T.map (·.f0)) (T.map (·.f1))) (fullT T) := refFull_ev T h.lt h.node h.uniq h.ord1 h.size
theorem Fine.refKnown {T : List S87} (h : Fine T) : Ev (fun k => folkmootref16_Known.f k (T.map (·.f1))) (knownC (T.map fun t => t.f1.f0)) := by
  have e : (T.map (·.f1)).map (fun t => t.f0) = T.map fun t => t.f1.f0 := by rw [List.map_map]; rfl
  have h1 := h.size
  have hk := refKnown_ev (T.map (·.f1)) (by rw [List.length_map]; exact h.lt) (by rw [e]; omega)
  rwa [e] at hk
theorem Fine.shortLen {T : List S87} (h : Fine T) : (shortT T).length ≤ 1000000 := shortT_length T 1000000 h.ord1
theorem Fine.knownLen {T : List S87} (h : Fine T) : (knownC (T.map fun t => t.f1.f0)).length ≤ 1000000 := Nat.le_trans (knownC_length _) h.size
theorem Fine.fullLen {T : List S87} (h : Fine T) : (fullT T).length ≤ 2000000 := by
  have h1 := h.shortLen
  have h2 := h.knownLen
  have h3 := List.length_filter_le (fun x => !memL x (shortT T)) (sortL ((knownC (T.map fun t => t.f1.f0)).map (·.f0)))
  have h4 := sortL_length ((knownC (T.map fun t => t.f1.f0)).map (·.f0))
  rw [List.length_map] at h4
  simp only [fullT, behindL, List.length_append]
  omega
end Go.Proofs.Ytioooiflpabngaa.PAll
end
section
namespace Go.Proofs.Ytioooiflpabngaa.PAll
open Go.RowKit Go.Proofs.YtioooiflpabngaaW.PrintWords Go.Proofs.YtioooiflpabngaaW.PrintLast Go.Proofs.YtioooiflpabngaaW.PrintMore
attribute [local go_sem] max2_int min2_int max_two min_two max_three min_three max_four min_four   -- for this text's walks alone
set_option linter.unusedVariables false
set_option linter.unusedSimpArgs false
attribute [local go_sem high] eqA25
mutual
def folkmootlaw16_ExchangePlays.j0 : Nat → List (S53) → Int → Bool → Option (Bool)
 | 0, _, _, _ => none
 | k + 1, x0, x1, x16 => if x16 = true then ((folkmootlaw16_awake.f k).bind fun t837 => (some t837)) else ((folkmootlaw16_told.f k x0 x1).bind fun bt838 => ((folkmootref16_Chosen.f k bt838.2.1 bt838.2.2).bind fun t847 => (if t847 ≥ 0 then (if 0 ≤ t847 then (if t847 < (bt838.2.1.length : Int) then (folkmootlaw16_ExchangePlays.j1 k bt838.1 bt838.2.1 bt838.2.2 (rd bt838.2.1 t847)) else (none)) else (none)) else (folkmootlaw16_ExchangePlays.j1 k bt838.1 bt838.2.1 bt838.2.2 (-1)))))
def folkmootlaw16_ExchangePlays.j1 : Nat → List (S87) → List Int → List (S53) → Int → Option (Bool)
 | 0, _, _, _, _ => none
 | k + 1, x5, x6, x7, x9 => (exchange_High.f k x5).bind fun bt849 => ((folkmootref16_High.f k x7).bind fun bt851 => (if (bt849.1 == bt851.1 && (bt849.2 == bt851.2)) = true then ((exchange_Chosen.f k x5).bind fun t853 => (if t853 = x9 then ((exchange_Short.f k x5).bind fun t854 => ((folkmootref16_Short.f k x6 x7).bind fun t857 => ((folkmootref05_Same.f k t854 t857).bind fun t860 => (if t860 = true then ((exchange_Known.f k x5).bind fun t861 => ((folkmootref16_Known.f k x7).bind fun t864 => ((folkmootref15_Same.f k t861 t864).bind fun t867 => (if t867 = true then ((exchange_Full.f k x5).bind fun t868 => ((folkmootref16_Full.f k x6 x7).bind fun t871 => ((folkmootref05_Same.f k t868 t871).bind fun t874 => (if t874 = true then ((exchange_Next.f k x5).bind fun t875 => ((folkmootref16_Next.f k x7).bind fun t876 => (some (t875 == t876)))) else (some false))))) else (some false))))) else (some false))))) else (some false))) else (some false)))
end
def folkmootlaw16_ExchangePlays.f (k : Nat) (l0 : List (S53)) (a1 : Int) : Option (Bool) := (folkmootlaw16_awake.f k).bind fun t835 => (if t835 = true then ((folkmootlaw16_few.f k l0).bind fun t836 => (folkmootlaw16_ExchangePlays.j0 k l0 a1 (!t836))) else (folkmootlaw16_ExchangePlays.j0 k l0 a1 true))
set_option maxHeartbeats 8000000 in
set_option maxRecDepth 100000 in
theorem folkmootlaw16_ExchangePlays.calls (k : Nat) (A0 : Option Addr) (c0 : Nat) (l0 : List (S53)) (a1 : Int) (r : Bool) (w : World) (hr0 : Kd.C k53 w A0 l0.length l0) (hc0 : l0.length ≤ c0) (h : folkmootlaw16_ExchangePlays.f k l0 a1 = some r) :
  Calls Try.prog 16 #[.slice A0 l0.length c0, .int .u8 a1] w fun e w' => e = .returned (.bool r) ∧ Below w.heap.size w w' := by
 have HR0 := Aside0.mk hr0
 have HC0 := Aside0.mk hc0
 clear hr0 hc0
 have HB := Aside0.mk (Below.refl w.heap.size w)
 have H : ((folkmootlaw16_awake.f k).bind fun t835 => (if t835 = true then ((folkmootlaw16_few.f k l0).bind fun t836 => (folkmootlaw16_ExchangePlays.j0 k l0 a1 (!t836))) else (folkmootlaw16_ExchangePlays.j0 k l0 a1 true))) = some r := h
 clear h
 have HC3 := Aside0.mk H
 clear H
 go_enter Try.func16, Try.ntmps16
 go_upto_region 1 with (fail)
 go_cut [16] (fun v16 wc => ∃ (kq : Nat) (x16_2 : Bool), v16 = .bool x16_2 ∧ Aside0 (folkmootlaw16_ExchangePlays.j0 kq l0 a1 x16_2 = some r) ∧ Aside0 (kq ≤ k) ∧ Aside0 (Below w.heap.size w wc))
 case first =>
  have H := HC3.out
  clear HC3
  replace H := Option.bind_eq_some_iff.mp H
  obtain ⟨t835, A40, H⟩ := H
  replace H : (if t835 = true then ((folkmootlaw16_few.f k l0).bind fun t836 => (folkmootlaw16_ExchangePlays.j0 k l0 a1 (!t836))) else (folkmootlaw16_ExchangePlays.j0 k l0 a1 true)) = some r := H
  have A4 := Aside0.mk A40
  clear A40
  by_cases c5 : t835 = true
  ·
   subst c5
   have H1 : ((folkmootlaw16_few.f k l0).bind fun t836 => (folkmootlaw16_ExchangePlays.j0 k l0 a1 (!t836))) = some r := by rw [if_pos rfl] at H; exact H
   clear H
   have H := H1
   clear H1
   replace H := Option.bind_eq_some_iff.mp H
   obtain ⟨t836, A60, H⟩ := H
   replace H : (folkmootlaw16_ExchangePlays.j0 k l0 a1 (!t836)) = some r := H
   have A6 := Aside0.mk A60
   clear A60
   have H' := Aside0.mk H
   clear H
   go_wp2_with (first | ((with_reducible refine gate_callee (f := 55) rfl ?_); refine goesL_ (some 10) rfl rfl Try.func55 (by kernel_rfl) rfl #[] rfl za_ ?_; (with_reducible refine (folkmootlaw16_awake.calls k  true _ A4.out).mono ?_); rintro e w7 ⟨rfl, hb⟩; refine ⟨_, rfl, ?_⟩; have n0_ := Aside0.mk (below_step zb_ hb); clear HB; have HB := n0_; clear n0_; (try clear hb); (try clear hb2); (try clear hk); (try clear hi)) | (go_at_call 56; (with_reducible refine (folkmootlaw16_few.calls k _ _ l0 t836 _ ?side1 ?side2 A6.out).mono ?_); (case side1 => exact zc_ HR0 HB); (case side2 => exact HC0.out); rintro e w' ⟨rfl, ⟨nd, rfl⟩⟩))
   go_meet
   case rel => exact ⟨_, (!t836), (by first | rfl | (simp; done) | (simp [*]; done)), H', ⟨by first | omega | exact Nat.le_refl _⟩, ⟨by repeat (first | (with_reducible first | exact HB.out | apply below_alloc | apply pw_below_drewN | apply below_drew1) | exact HB.out)⟩⟩
  ·
   replace c5 := Bool.eq_false_iff.mpr c5
   subst c5
   have H1 : (folkmootlaw16_ExchangePlays.j0 k l0 a1 true) = some r := by rw [if_neg (show ¬ (false = true) by decide)] at H; exact H
   clear H
   have H := H1
   clear H1
   have H' := Aside0.mk H
   clear H
   go_wp2_with (first | ((with_reducible refine gate_callee (f := 55) rfl ?_); refine goesL_ (some 10) rfl rfl Try.func55 (by kernel_rfl) rfl #[] rfl za_ ?_; (with_reducible refine (folkmootlaw16_awake.calls k  false _ A4.out).mono ?_); rintro e w8 ⟨rfl, hb⟩; refine ⟨_, rfl, ?_⟩; have n0_ := Aside0.mk (below_step zb_ hb); clear HB; have HB := n0_; clear n0_; (try clear hb); (try clear hb2); (try clear hk); (try clear hi)))
   go_meet
   case rel => exact ⟨_, (true), (by first | rfl | (simp; done) | (simp [*]; done)), H', ⟨by first | omega | exact Nat.le_refl _⟩, ⟨by repeat (first | (with_reducible first | exact HB.out | apply below_alloc | apply pw_below_drewN | apply below_drew1) | exact HB.out)⟩⟩
 case rest =>
  clear HC3
  try clear c1
  try clear p2
  try clear c5
  obtain ⟨kq, x16_2, rfl, HA, HJ2, HB⟩ := hcut
  cases kq with
  | zero => exact absurd HA.out (by simp [folkmootlaw16_ExchangePlays.j0])
  | succ kj2 =>
   have H := HA.out
   clear HA
   simp only [folkmootlaw16_ExchangePlays.j0] at H
   by_cases c9 : x16_2 = true
   ·
    subst c9
    have H1 : ((folkmootlaw16_awake.f kj2).bind fun t837 => (some t837)) = some r := by rw [if_pos rfl] at H; exact H
    clear H
    have H := H1
    clear H1
    replace H := Option.bind_eq_some_iff.mp H
    obtain ⟨t837, A100, H⟩ := H
    replace H : (some t837) = some r := H
    have A10 := Aside0.mk A100
    clear A100
    obtain rfl := Option.some.inj H
    go_wp2_with (first | ((with_reducible refine gate_callee (f := 55) rfl ?_); refine goesL_ (some 17) rfl rfl Try.func55 (by kernel_rfl) rfl #[] rfl za_ ?_; (with_reducible refine (folkmootlaw16_awake.calls kj2  t837 _ A10.out).mono ?_); rintro e w11 ⟨rfl, hb⟩; refine ⟨_, rfl, ?_⟩; have n0_ := Aside0.mk (below_step zb_ hb); clear HB; have HB := n0_; clear n0_; (try clear hb); (try clear hb2); (try clear hk); (try clear hi)))
    go_ret
    exact ⟨by first | rfl | (simp [errW_none, errW_some] <;> rfl) | (simp [*, errW_none, errW_some] <;> rfl), by repeat (first | (with_reducible first | exact HB.out | apply below_alloc | apply pw_below_drewN | apply below_drew1) | exact HB.out)⟩
   ·
    replace c9 := Bool.eq_false_iff.mpr c9
    subst c9
    have H1 : ((folkmootlaw16_told.f kj2 l0 a1).bind fun bt838 => ((folkmootref16_Chosen.f kj2 bt838.2.1 bt838.2.2).bind fun t847 => (if t847 ≥ 0 then (if 0 ≤ t847 then (if t847 < (bt838.2.1.length : Int) then (folkmootlaw16_ExchangePlays.j1 kj2 bt838.1 bt838.2.1 bt838.2.2 (rd bt838.2.1 t847)) else (none)) else (none)) else (folkmootlaw16_ExchangePlays.j1 kj2 bt838.1 bt838.2.1 bt838.2.2 (-1))))) = some r := by rw [if_neg (show ¬ (false = true) by decide)] at H; exact H
    clear H
    have H := H1
    clear H1
    replace H := Option.bind_eq_some_iff.mp H
    obtain ⟨⟨t838, t841, t844⟩, A120, H⟩ := H
    replace H : ((folkmootref16_Chosen.f kj2 t841 t844).bind fun t847 => (if t847 ≥ 0 then (if 0 ≤ t847 then (if t847 < (t841.length : Int) then (folkmootlaw16_ExchangePlays.j1 kj2 t838 t841 t844 (rd t841 t847)) else (none)) else (none)) else (folkmootlaw16_ExchangePlays.j1 kj2 t838 t841 t844 (-1)))) = some r := H
    have A12 := Aside0.mk A120
    clear A120
    replace H := Option.bind_eq_some_iff.mp H
    obtain ⟨t847, A130, H⟩ := H
    replace H : (if t847 ≥ 0 then (if 0 ≤ t847 then (if t847 < (t841.length : Int) then (folkmootlaw16_ExchangePlays.j1 kj2 t838 t841 t844 (rd t841 t847)) else (none)) else (none)) else (folkmootlaw16_ExchangePlays.j1 kj2 t838 t841 t844 (-1))) = some r := H
    have A13 := Aside0.mk A130
    clear A130
    have HC14 := Aside0.mk H
    clear H
    go_upto_if 29 with (first | ((with_reducible refine gate_callee (f := 57) rfl ?_); refine goesL_ (some 21) rfl rfl Try.func57 (by kernel_rfl) rfl #[.slice A0 l0.length c0, .int .u8 a1] rfl za_ ?_; (with_reducible refine (folkmootlaw16_told.calls kj2 (fun k_ => k_ < w.heap.size) _ _ l0 a1 t838 t841 t844 _ ?side1 A12.out).mono ?_); (case side1 => exact Kd.V_mk HC0.out (Kd.F_below (Kd.C_F k53_heap HR0.out) zb_)); rintro e w15 ⟨v839, v842, v845, rfl, ho0, ho1, ho2, hb⟩; refine ⟨_, rfl, ?_⟩; have n0_ := Aside0.mk (Kd.N_lower (Kd.N_mono (ok' := fun k_ => some k_ ≠ (v842 : Value).ownBlock ∧ some k_ ≠ (v845 : Value).ownBlock) ho0 (fun k_ hk_ => ⟨hk_.2.1, hk_.2.2⟩)) (below_size zb_)); have n1_ := Aside0.mk (Kd.R_lower (Kd.R_mono (ok' := fun k_ => True) ho1 (fun _ hk_ => trivial)) (below_size zb_)); have n2_ := Aside0.mk (Kd.N_lower (Kd.N_mono (ok' := fun k_ => some k_ ≠ (v839 : Value).ownBlock ∧ some k_ ≠ (v842 : Value).ownBlock) ho2 (fun k_ hk_ => ⟨hk_.2.1, hk_.2.2⟩)) (below_size zb_)); have n3_ := Aside0.mk (below_step zb_ hb); clear HB; have HO840 := n0_; have HO843 := n1_; have HO846 := n2_; have HB := n3_; clear n0_ n1_ n2_ n3_; (try clear hb); (try clear hb2); (try clear hk); (try clear hi); (try clear ho0); (try clear ho1); (try clear ho2); obtain ⟨Ao16, co16, eo16⟩ := Kd.R_slice HO843.out; subst eo16; obtain ⟨Ao17, co17, eo17⟩ := Kd.N_slice HO846.out; subst eo17) | ((with_reducible refine gate_callee (f := 58) rfl ?_); refine goesL_ (some 27) rfl rfl Try.func58 (by kernel_rfl) rfl #[.slice Ao16 t841.length co16, .slice Ao17 t844.length co17] rfl za_ ?_; (with_reducible refine (folkmootref16_Chosen.calls kj2 _ _ t841 _ _ t844 t847 _ ?side1 ?side2 ?side3 ?side4 A13.out).mono ?_); (case side1 => exact zd_ (Kd.R_reads' HO843.out).2.2); (case side2 => exact (Kd.R_reads' HO843.out).2.1); (case side3 => exact zd_ (Kd.N_reads' HO846.out).2.2); (case side4 => exact (Kd.N_reads' HO846.out).2.1); rintro e w18 ⟨rfl, hb⟩; refine ⟨_, rfl, ?_⟩; have n0_ := Aside0.mk (Kd.N_below (zn_ HO840) hb); have n1_ := Aside0.mk (Kd.R_below (zr_ HO843) hb); have n2_ := Aside0.mk (Kd.N_below (zn_ HO846) hb); have n3_ := Aside0.mk (below_step zb_ hb); clear HO840; clear HO843; clear HO846; clear HB; have HO840 := n0_; have HO843 := n1_; have HO846 := n2_; have HB := n3_; clear n0_ n1_ n2_ n3_; (try clear hb); (try clear hb2); (try clear hk); (try clear hi)))
    (try simp only [Act.put, List.setIfInBounds_toArray, List.set_cons_zero, List.set_cons_succ])
    go_cut [9] (fun v9 wc => ∃ (kq : Nat) (x9_13 : Int), v9 = .int .i64 x9_13 ∧ Aside0 (folkmootlaw16_ExchangePlays.j1 kq t838 t841 t844 x9_13 = some r) ∧ Aside0 (kq ≤ kj2) ∧ Aside0 (Kd.N k87 87 wc w.heap.size (fun k_ => some k_ ≠ ((.slice Ao16 t841.length co16) : Value).ownBlock ∧ some k_ ≠ ((.slice Ao17 t844.length co17) : Value).ownBlock) v839 t838) ∧ Aside0 (Kd.R (Kd.int .i64) 3 wc w.heap.size (fun _ => True) (.slice Ao16 t841.length co16) t841) ∧ Aside0 (Kd.N k53 53 wc w.heap.size (fun k_ => some k_ ≠ (v839 : Value).ownBlock ∧ some k_ ≠ ((.slice Ao16 t841.length co16) : Value).ownBlock) (.slice Ao17 t844.length co17) t844) ∧ Aside0 (Below w.heap.size w wc))
    case first =>
     have H := HC14.out
     clear HC14
     by_cases c19 : t847 ≥ 0
     ·
      rw [if_pos c19] at H
      have c19b0 : decide (0 ≤ t847) = true := decide_eq_true c19
      clear c19
      (first | rw [c19b0] | (simp only [i64_w, i32_w]; rw [c19b0]) | skip)
      by_cases c20 : 0 ≤ t847
      ·
       rw [if_pos c20] at H
       have c20b0 : decide (0 ≤ t847) = true := decide_eq_true c20
       clear c20
       by_cases c21 : t847 < (t841.length : Int)
       ·
        rw [if_pos c21] at H
        have c21b0 : decide (t847 < (t841.length : Int)) = true := decide_eq_true c21
        clear c21
        have H' := Aside0.mk H
        clear H
        have p848 : 0 ≤ (t847 : Int) := of_decide_eq_true zs_
        have q848 : t847 < (t841.length : Int) := of_decide_eq_true zs_
        obtain ⟨ad848, e848, hx848_0⟩ := Kd.at_int (Kd.R_reads' HO843.out).2.2 t847 p848 q848
        cases e848
        replace p848 := eq_true p848
        replace q848 := eq_true q848
        go_wp2
        go_meet
        case rel => exact ⟨_, (rd t841 t847), (by first | rfl | (simp; done) | (simp [*]; done)), H', ⟨by have := HJ2.out; first | omega | exact Nat.le_refl _⟩, ⟨by (with_reducible repeat (first | apply Kd.N_alloc | apply Kd.N_drewN | apply Kd.N_drew)); exact HO840.out⟩, ⟨by (with_reducible repeat (first | apply Kd.R_alloc | apply Kd.R_drewN | apply Kd.R_drew)); exact HO843.out⟩, ⟨by (with_reducible repeat (first | apply Kd.N_alloc | apply Kd.N_drewN | apply Kd.N_drew)); exact HO846.out⟩, ⟨by repeat (first | (with_reducible first | exact HB.out | apply below_alloc | apply pw_below_drewN | apply below_drew1) | exact HB.out)⟩⟩
       ·
        rw [if_neg c21] at H
        exact absurd H (by simp)
      ·
       rw [if_neg c20] at H
       exact absurd H (by simp)
     ·
      rw [if_neg c19] at H
      have c19b0 : decide (0 ≤ t847) = false := decide_eq_false c19
      clear c19
      (first | rw [c19b0] | (simp only [i64_w, i32_w]; rw [c19b0]) | skip)
      have H' := Aside0.mk H
      clear H
      go_wp2
      go_meet
      case rel => exact ⟨_, ((-1)), (by first | rfl | (simp; done) | (simp [*]; done)), H', ⟨by have := HJ2.out; first | omega | exact Nat.le_refl _⟩, ⟨by (with_reducible repeat (first | apply Kd.N_alloc | apply Kd.N_drewN | apply Kd.N_drew)); exact HO840.out⟩, ⟨by (with_reducible repeat (first | apply Kd.R_alloc | apply Kd.R_drewN | apply Kd.R_drew)); exact HO843.out⟩, ⟨by (with_reducible repeat (first | apply Kd.N_alloc | apply Kd.N_drewN | apply Kd.N_drew)); exact HO846.out⟩, ⟨by repeat (first | (with_reducible first | exact HB.out | apply below_alloc | apply pw_below_drewN | apply below_drew1) | exact HB.out)⟩⟩
    case rest =>
     clear HC14
     try clear c1
     try clear c2
     try clear p2
     try clear c5
     try clear p8
     try clear q8
     try clear hx8
     try clear c9
     try clear c16
     try clear c19
     try clear c19b0
     try clear c20
     try clear c20b0
     try clear c21
     try clear c21b0
     try clear hx848_0
     try clear p2
     try clear p848
     try clear q848
     obtain ⟨kq, x9_13, rfl, HA, HJ13, HO_5, HO_6, HO_7, HB⟩ := hcut
     cases kq with
     | zero => exact absurd HA.out (by simp [folkmootlaw16_ExchangePlays.j1])
     | succ kj13 =>
      have H := HA.out
      clear HA
      simp only [folkmootlaw16_ExchangePlays.j1] at H
      replace H := Option.bind_eq_some_iff.mp H
      obtain ⟨⟨t849, t850⟩, A220, H⟩ := H
      replace H : ((folkmootref16_High.f kj13 t844).bind fun bt851 => (if (t849 == bt851.1 && (t850 == bt851.2)) = true then ((exchange_Chosen.f kj13 t838).bind fun t853 => (if t853 = x9_13 then ((exchange_Short.f kj13 t838).bind fun t854 => ((folkmootref16_Short.f kj13 t841 t844).bind fun t857 => ((folkmootref05_Same.f kj13 t854 t857).bind fun t860 => (if t860 = true then ((exchange_Known.f kj13 t838).bind fun t861 => ((folkmootref16_Known.f kj13 t844).bind fun t864 => ((folkmootref15_Same.f kj13 t861 t864).bind fun t867 => (if t867 = true then ((exchange_Full.f kj13 t838).bind fun t868 => ((folkmootref16_Full.f kj13 t841 t844).bind fun t871 => ((folkmootref05_Same.f kj13 t868 t871).bind fun t874 => (if t874 = true then ((exchange_Next.f kj13 t838).bind fun t875 => ((folkmootref16_Next.f kj13 t844).bind fun t876 => (some (t875 == t876)))) else (some false))))) else (some false))))) else (some false))))) else (some false))) else (some false))) = some r := H
      have A22 := Aside0.mk A220
      clear A220
      replace H := Option.bind_eq_some_iff.mp H
      obtain ⟨⟨t851, t852⟩, A230, H⟩ := H
      replace H : (if (t849 == t851 && (t850 == t852)) = true then ((exchange_Chosen.f kj13 t838).bind fun t853 => (if t853 = x9_13 then ((exchange_Short.f kj13 t838).bind fun t854 => ((folkmootref16_Short.f kj13 t841 t844).bind fun t857 => ((folkmootref05_Same.f kj13 t854 t857).bind fun t860 => (if t860 = true then ((exchange_Known.f kj13 t838).bind fun t861 => ((folkmootref16_Known.f kj13 t844).bind fun t864 => ((folkmootref15_Same.f kj13 t861 t864).bind fun t867 => (if t867 = true then ((exchange_Full.f kj13 t838).bind fun t868 => ((folkmootref16_Full.f kj13 t841 t844).bind fun t871 => ((folkmootref05_Same.f kj13 t868 t871).bind fun t874 => (if t874 = true then ((exchange_Next.f kj13 t838).bind fun t875 => ((folkmootref16_Next.f kj13 t844).bind fun t876 => (some (t875 == t876)))) else (some false))))) else (some false))))) else (some false))))) else (some false))) else (some false)) = some r := H
      have A23 := Aside0.mk A230
      clear A230
      by_cases c24 : (t849 == t851 && (t850 == t852)) = true
      ·
       rw [if_pos c24] at H
       have c24b0 : (t849 == t851 && (t850 == t852)) = true := c24
       (try (have c24b1 : decide (t849 = t851 && (t850 == t852)) = true := by simpa using c24))
       (try (have c24b2 : (t849 == t851 && (t850 == t852)) = true := by simpa using c24))
       clear c24
       replace H := Option.bind_eq_some_iff.mp H
       obtain ⟨t853, A250, H⟩ := H
       replace H : (if t853 = x9_13 then ((exchange_Short.f kj13 t838).bind fun t854 => ((folkmootref16_Short.f kj13 t841 t844).bind fun t857 => ((folkmootref05_Same.f kj13 t854 t857).bind fun t860 => (if t860 = true then ((exchange_Known.f kj13 t838).bind fun t861 => ((folkmootref16_Known.f kj13 t844).bind fun t864 => ((folkmootref15_Same.f kj13 t861 t864).bind fun t867 => (if t867 = true then ((exchange_Full.f kj13 t838).bind fun t868 => ((folkmootref16_Full.f kj13 t841 t844).bind fun t871 => ((folkmootref05_Same.f kj13 t868 t871).bind fun t874 => (if t874 = true then ((exchange_Next.f kj13 t838).bind fun t875 => ((folkmootref16_Next.f kj13 t844).bind fun t876 => (some (t875 == t876)))) else (some false))))) else (some false))))) else (some false))))) else (some false)) = some r := H
       have A25 := Aside0.mk A250
       clear A250
       by_cases c26 : t853 = x9_13
       ·
        rw [if_pos c26] at H
        have c26b0 : (t853 == x9_13) = true := beq_iff_eq.mpr c26
        have c26b1 : (t853 != x9_13) = false := bne_eq_false_iff_eq.mpr c26
        clear c26
        replace H := Option.bind_eq_some_iff.mp H
        obtain ⟨t854, A270, H⟩ := H
        replace H : ((folkmootref16_Short.f kj13 t841 t844).bind fun t857 => ((folkmootref05_Same.f kj13 t854 t857).bind fun t860 => (if t860 = true then ((exchange_Known.f kj13 t838).bind fun t861 => ((folkmootref16_Known.f kj13 t844).bind fun t864 => ((folkmootref15_Same.f kj13 t861 t864).bind fun t867 => (if t867 = true then ((exchange_Full.f kj13 t838).bind fun t868 => ((folkmootref16_Full.f kj13 t841 t844).bind fun t871 => ((folkmootref05_Same.f kj13 t868 t871).bind fun t874 => (if t874 = true then ((exchange_Next.f kj13 t838).bind fun t875 => ((folkmootref16_Next.f kj13 t844).bind fun t876 => (some (t875 == t876)))) else (some false))))) else (some false))))) else (some false)))) = some r := H
        have A27 := Aside0.mk A270
        clear A270
        replace H := Option.bind_eq_some_iff.mp H
        obtain ⟨t857, A280, H⟩ := H
        replace H : ((folkmootref05_Same.f kj13 t854 t857).bind fun t860 => (if t860 = true then ((exchange_Known.f kj13 t838).bind fun t861 => ((folkmootref16_Known.f kj13 t844).bind fun t864 => ((folkmootref15_Same.f kj13 t861 t864).bind fun t867 => (if t867 = true then ((exchange_Full.f kj13 t838).bind fun t868 => ((folkmootref16_Full.f kj13 t841 t844).bind fun t871 => ((folkmootref05_Same.f kj13 t868 t871).bind fun t874 => (if t874 = true then ((exchange_Next.f kj13 t838).bind fun t875 => ((folkmootref16_Next.f kj13 t844).bind fun t876 => (some (t875 == t876)))) else (some false))))) else (some false))))) else (some false))) = some r := H
        have A28 := Aside0.mk A280
        clear A280
        replace H := Option.bind_eq_some_iff.mp H
        obtain ⟨t860, A290, H⟩ := H
        replace H : (if t860 = true then ((exchange_Known.f kj13 t838).bind fun t861 => ((folkmootref16_Known.f kj13 t844).bind fun t864 => ((folkmootref15_Same.f kj13 t861 t864).bind fun t867 => (if t867 = true then ((exchange_Full.f kj13 t838).bind fun t868 => ((folkmootref16_Full.f kj13 t841 t844).bind fun t871 => ((folkmootref05_Same.f kj13 t868 t871).bind fun t874 => (if t874 = true then ((exchange_Next.f kj13 t838).bind fun t875 => ((folkmootref16_Next.f kj13 t844).bind fun t876 => (some (t875 == t876)))) else (some false))))) else (some false))))) else (some false)) = some r := H
        have A29 := Aside0.mk A290
        clear A290
        by_cases c30 : t860 = true
        ·
         subst c30
         have H1 : ((exchange_Known.f kj13 t838).bind fun t861 => ((folkmootref16_Known.f kj13 t844).bind fun t864 => ((folkmootref15_Same.f kj13 t861 t864).bind fun t867 => (if t867 = true then ((exchange_Full.f kj13 t838).bind fun t868 => ((folkmootref16_Full.f kj13 t841 t844).bind fun t871 => ((folkmootref05_Same.f kj13 t868 t871).bind fun t874 => (if t874 = true then ((exchange_Next.f kj13 t838).bind fun t875 => ((folkmootref16_Next.f kj13 t844).bind fun t876 => (some (t875 == t876)))) else (some false))))) else (some false))))) = some r := by rw [if_pos rfl] at H; exact H
         clear H
         have H := H1
         clear H1
         replace H := Option.bind_eq_some_iff.mp H
         obtain ⟨t861, A310, H⟩ := H
         replace H : ((folkmootref16_Known.f kj13 t844).bind fun t864 => ((folkmootref15_Same.f kj13 t861 t864).bind fun t867 => (if t867 = true then ((exchange_Full.f kj13 t838).bind fun t868 => ((folkmootref16_Full.f kj13 t841 t844).bind fun t871 => ((folkmootref05_Same.f kj13 t868 t871).bind fun t874 => (if t874 = true then ((exchange_Next.f kj13 t838).bind fun t875 => ((folkmootref16_Next.f kj13 t844).bind fun t876 => (some (t875 == t876)))) else (some false))))) else (some false)))) = some r := H
         have A31 := Aside0.mk A310
         clear A310
         replace H := Option.bind_eq_some_iff.mp H
         obtain ⟨t864, A320, H⟩ := H
         replace H : ((folkmootref15_Same.f kj13 t861 t864).bind fun t867 => (if t867 = true then ((exchange_Full.f kj13 t838).bind fun t868 => ((folkmootref16_Full.f kj13 t841 t844).bind fun t871 => ((folkmootref05_Same.f kj13 t868 t871).bind fun t874 => (if t874 = true then ((exchange_Next.f kj13 t838).bind fun t875 => ((folkmootref16_Next.f kj13 t844).bind fun t876 => (some (t875 == t876)))) else (some false))))) else (some false))) = some r := H
         have A32 := Aside0.mk A320
         clear A320
         replace H := Option.bind_eq_some_iff.mp H
         obtain ⟨t867, A330, H⟩ := H
         replace H : (if t867 = true then ((exchange_Full.f kj13 t838).bind fun t868 => ((folkmootref16_Full.f kj13 t841 t844).bind fun t871 => ((folkmootref05_Same.f kj13 t868 t871).bind fun t874 => (if t874 = true then ((exchange_Next.f kj13 t838).bind fun t875 => ((folkmootref16_Next.f kj13 t844).bind fun t876 => (some (t875 == t876)))) else (some false))))) else (some false)) = some r := H
         have A33 := Aside0.mk A330
         clear A330
         by_cases c34 : t867 = true
         ·
          subst c34
          have H1 : ((exchange_Full.f kj13 t838).bind fun t868 => ((folkmootref16_Full.f kj13 t841 t844).bind fun t871 => ((folkmootref05_Same.f kj13 t868 t871).bind fun t874 => (if t874 = true then ((exchange_Next.f kj13 t838).bind fun t875 => ((folkmootref16_Next.f kj13 t844).bind fun t876 => (some (t875 == t876)))) else (some false))))) = some r := by rw [if_pos rfl] at H; exact H
          clear H
          have H := H1
          clear H1
          replace H := Option.bind_eq_some_iff.mp H
          obtain ⟨t868, A350, H⟩ := H
          replace H : ((folkmootref16_Full.f kj13 t841 t844).bind fun t871 => ((folkmootref05_Same.f kj13 t868 t871).bind fun t874 => (if t874 = true then ((exchange_Next.f kj13 t838).bind fun t875 => ((folkmootref16_Next.f kj13 t844).bind fun t876 => (some (t875 == t876)))) else (some false)))) = some r := H
          have A35 := Aside0.mk A350
          clear A350
          replace H := Option.bind_eq_some_iff.mp H
          obtain ⟨t871, A360, H⟩ := H
          replace H : ((folkmootref05_Same.f kj13 t868 t871).bind fun t874 => (if t874 = true then ((exchange_Next.f kj13 t838).bind fun t875 => ((folkmootref16_Next.f kj13 t844).bind fun t876 => (some (t875 == t876)))) else (some false))) = some r := H
          have A36 := Aside0.mk A360
          clear A360
          replace H := Option.bind_eq_some_iff.mp H
          obtain ⟨t874, A370, H⟩ := H
          replace H : (if t874 = true then ((exchange_Next.f kj13 t838).bind fun t875 => ((folkmootref16_Next.f kj13 t844).bind fun t876 => (some (t875 == t876)))) else (some false)) = some r := H
          have A37 := Aside0.mk A370
          clear A370
          by_cases c38 : t874 = true
          ·
           subst c38
           have H1 : ((exchange_Next.f kj13 t838).bind fun t875 => ((folkmootref16_Next.f kj13 t844).bind fun t876 => (some (t875 == t876)))) = some r := by rw [if_pos rfl] at H; exact H
           clear H
           have H := H1
           clear H1
           replace H := Option.bind_eq_some_iff.mp H
           obtain ⟨t875, A390, H⟩ := H
           replace H : ((folkmootref16_Next.f kj13 t844).bind fun t876 => (some (t875 == t876))) = some r := H
           have A39 := Aside0.mk A390
           clear A390
           replace H := Option.bind_eq_some_iff.mp H
           obtain ⟨t876, A400, H⟩ := H
           replace H : (some (t875 == t876)) = some r := H
           have A40 := Aside0.mk A400
           clear A400
           obtain rfl := Option.some.inj H
           obtain ⟨Ao41, co41, eo41⟩ := Kd.N_slice HO_5.out
           subst eo41
           go_wp2_with (first | ((with_reducible refine gate_callee (f := 59) rfl ?_); refine goesL_ (some 35) rfl rfl Try.func59 (by kernel_rfl) rfl #[.slice Ao41 t838.length co41] rfl za_ ?_; (with_reducible refine (exchange_High.calls kj13 _ _ t838 t849 t850 _ ?side1 ?side2 A22.out).mono ?_); (case side1 => exact zd_ (Kd.N_reads' HO_5.out).2.2); (case side2 => exact (Kd.N_reads' HO_5.out).2.1); rintro e w42 ⟨rfl, hb⟩; refine ⟨_, rfl, ?_⟩; have n0_ := Aside0.mk (Kd.N_below (zn_ HO_5) hb); have n1_ := Aside0.mk (Kd.R_below (zr_ HO_6) hb); have n2_ := Aside0.mk (Kd.N_below (zn_ HO_7) hb); have n3_ := Aside0.mk (below_step zb_ hb); clear HO_5; clear HO_6; clear HO_7; clear HB; have HO_5 := n0_; have HO_6 := n1_; have HO_7 := n2_; have HB := n3_; clear n0_ n1_ n2_ n3_; (try clear hb); (try clear hb2); (try clear hk); (try clear hi)) | ((with_reducible refine gate_callee (f := 60) rfl ?_); refine goesL_ (some 37) rfl rfl Try.func60 (by kernel_rfl) rfl #[.slice Ao17 t844.length co17] rfl za_ ?_; (with_reducible refine (folkmootref16_High.calls kj13 _ _ t844 t851 t852 _ ?side1 ?side2 A23.out).mono ?_); (case side1 => exact zd_ (Kd.N_reads' HO_7.out).2.2); (case side2 => exact (Kd.N_reads' HO_7.out).2.1); rintro e w43 ⟨rfl, hb⟩; refine ⟨_, rfl, ?_⟩; have n0_ := Aside0.mk (Kd.N_below (zn_ HO_5) hb); have n1_ := Aside0.mk (Kd.R_below (zr_ HO_6) hb); have n2_ := Aside0.mk (Kd.N_below (zn_ HO_7) hb); have n3_ := Aside0.mk (below_step zb_ hb); clear HO_5; clear HO_6; clear HO_7; clear HB; have HO_5 := n0_; have HO_6 := n1_; have HO_7 := n2_; have HB := n3_; clear n0_ n1_ n2_ n3_; (try clear hb); (try clear hb2); (try clear hk); (try clear hi)) | (go_at_call 61; (with_reducible refine (exchange_Chosen.calls kj13 _ _ t838 t853 _ ?side1 ?side2 A25.out).mono ?_); (case side1 => exact zd_ (Kd.N_reads' HO_5.out).2.2); (case side2 => exact (Kd.N_reads' HO_5.out).2.1); rintro e w44 ⟨rfl, hb⟩; have n0_ := Aside0.mk (Kd.N_below (zn_ HO_5) hb); have n1_ := Aside0.mk (Kd.R_below (zr_ HO_6) hb); have n2_ := Aside0.mk (Kd.N_below (zn_ HO_7) hb); have n3_ := Aside0.mk (below_step zb_ hb); clear HO_5; clear HO_6; clear HO_7; clear HB; have HO_5 := n0_; have HO_6 := n1_; have HO_7 := n2_; have HB := n3_; clear n0_ n1_ n2_ n3_; (try clear hb); (try clear hb2); (try clear hk); (try clear hi)) | (go_at_call 62; (with_reducible refine (exchange_Short.calls kj13 _ _ t838 t854 _ ?side1 ?side2 A27.out).mono ?_); (case side1 => exact zd_ (Kd.N_reads' HO_5.out).2.2); (case side2 => exact (Kd.N_reads' HO_5.out).2.1); rintro e w45 ⟨v855, rfl, ho0, hb⟩; have n0_ := Aside0.mk (Kd.N_elder' (zn_ HO_5) (Kd.R_base ho0) hb); have n1_ := Aside0.mk (Kd.R_below (zr_ HO_6) hb); have n2_ := Aside0.mk (Kd.N_elder' (zn_ HO_7) (Kd.R_base ho0) hb); have n3_ := Aside0.mk (Kd.R_lower ho0 (below_size zb_)); have n4_ := Aside0.mk (below_step zb_ hb); clear HO_5; clear HO_6; clear HO_7; clear HB; have HO_5 := n0_; have HO_6 := n1_; have HO_7 := n2_; have HO856 := n3_; have HB := n4_; clear n0_ n1_ n2_ n3_ n4_; (try clear hb); (try clear hb2); (try clear hk); (try clear hi); (try clear ho0)) | (go_at_call 63; (with_reducible refine (folkmootref16_Short.calls kj13 _ _ t841 (fun k_ => ((some k_ ≠ (.slice Ao41 t838.length co41 : Value).ownBlock ∧ some k_ ≠ (.slice Ao16 t841.length co16 : Value).ownBlock) ∧ some k_ ≠ (v855 : Value).ownBlock)) _ _ t844 t857 _ ?side1 ?side2 ?side3 A28.out).mono ?_); (case side1 => exact zd_ (Kd.R_reads' HO_6.out).2.2); (case side2 => exact (Kd.R_reads' HO_6.out).2.1); (case side3 => exact Kd.N_V (HO_7.out)); rintro e w46 ⟨v858, rfl, ho0, hb⟩; have n0_ := Aside0.mk (Kd.N_below (zn_ HO_5) hb); have n1_ := Aside0.mk (Kd.R_below (zr_ HO_6) hb); have n2_ := Aside0.mk (Kd.N_below (zn_ HO_7) hb); have n3_ := Aside0.mk (Kd.R_below (zr_ HO856) hb); have n4_ := Aside0.mk (Kd.V_lower (Kd.V_mono (ok' := fun k_ => some k_ ≠ (.slice Ao41 t838.length co41 : Value).ownBlock ∧ some k_ ≠ (.slice Ao16 t841.length co16 : Value).ownBlock ∧ some k_ ≠ (v855 : Value).ownBlock) ho0 (fun k_ hk_ => ⟨Or.elim hk_ (fun hs_ => hs_.1.1) (fun hn_ => (Kd.fresh' (Kd.N_lt (zn_ HO_5)) k_ hn_)), Or.elim hk_ (fun hs_ => hs_.1.2) (fun hn_ => (Kd.fresh' (Kd.R_lt (zr_ HO_6)) k_ hn_)), Or.elim hk_ (fun hs_ => hs_.2) (fun hn_ => (Kd.fresh' (Kd.R_lt (zr_ HO856)) k_ hn_))⟩)) (below_size zb_)); have n5_ := Aside0.mk (below_step zb_ hb); clear HO_5; clear HO_6; clear HO_7; clear HO856; clear HB; have HO_5 := n0_; have HO_6 := n1_; have HO_7 := n2_; have HO856 := n3_; have HO859 := n4_; have HB := n5_; clear n0_ n1_ n2_ n3_ n4_ n5_; (try clear hb); (try clear hb2); (try clear hk); (try clear hi); (try clear ho0); obtain ⟨Ao47, co47, eo47⟩ := Kd.R_slice HO856.out; subst eo47; obtain ⟨Ao48, co48, eo48⟩ := Kd.V_slice HO859.out; subst eo48) | (go_at_call 30; (with_reducible refine (folkmootref05_Same.calls kj13 _ _ t854 _ _ t857 true _ ?side1 ?side2 ?side3 ?side4 A29.out).mono ?_); (case side1 => exact zd_ (Kd.R_reads' HO856.out).2.2); (case side2 => exact (Kd.R_reads' HO856.out).2.1); (case side3 => exact zd_ (Kd.V_reads' HO859.out).2.2); (case side4 => exact (Kd.V_reads' HO859.out).2.1); rintro e w' ⟨rfl, ⟨nd, rfl⟩⟩) | (go_at_call 64; (with_reducible refine (exchange_Known.calls kj13 _ _ t838 t861 _ ?side1 ?side2 A31.out).mono ?_); (case side1 => exact zd_ (Kd.N_reads' HO_5.out).2.2); (case side2 => exact (Kd.N_reads' HO_5.out).2.1); rintro e w49 ⟨v862, rfl, ho0, hb⟩; have n0_ := Aside0.mk (Kd.N_below (zn_ HO_5) hb); have n1_ := Aside0.mk (Kd.R_below (zr_ HO_6) hb); have n2_ := Aside0.mk (Kd.N_below (zn_ HO_7) hb); have n3_ := Aside0.mk (Kd.R_below (zr_ HO856) hb); have n4_ := Aside0.mk (Kd.V_below (zv_ HO859) hb); have n5_ := Aside0.mk (Kd.V_lower (Kd.V_mono (ok' := fun k_ => some k_ ≠ (.slice Ao41 t838.length co41 : Value).ownBlock ∧ some k_ ≠ (.slice Ao16 t841.length co16 : Value).ownBlock ∧ some k_ ≠ (.slice Ao17 t844.length co17 : Value).ownBlock ∧ some k_ ≠ (.slice Ao47 t854.length co47 : Value).ownBlock) ho0 (fun k_ hk_ => ⟨(Kd.fresh' (Kd.N_lt (zn_ HO_5)) k_ hk_), (Kd.fresh' (Kd.R_lt (zr_ HO_6)) k_ hk_), (Kd.fresh' (Kd.N_lt (zn_ HO_7)) k_ hk_), (Kd.fresh' (Kd.R_lt (zr_ HO856)) k_ hk_)⟩)) (below_size zb_)); have n6_ := Aside0.mk (below_step zb_ hb); clear HO_5; clear HO_6; clear HO_7; clear HO856; clear HO859; clear HB; have HO_5 := n0_; have HO_6 := n1_; have HO_7 := n2_; have HO856 := n3_; have HO859 := n4_; have HO863 := n5_; have HB := n6_; clear n0_ n1_ n2_ n3_ n4_ n5_ n6_; (try clear hb); (try clear hb2); (try clear hk); (try clear hi); (try clear ho0)) | (go_at_call 65; (with_reducible refine (folkmootref16_Known.calls kj13 (fun k_ => ((some k_ ≠ (.slice Ao41 t838.length co41 : Value).ownBlock ∧ some k_ ≠ (.slice Ao16 t841.length co16 : Value).ownBlock) ∧ some k_ ≠ (.slice Ao47 t854.length co47 : Value).ownBlock)) _ _ t844 t864 _ ?side1 A32.out).mono ?_); (case side1 => exact Kd.N_V (HO_7.out)); rintro e w50 ⟨v865, rfl, ho0, hb⟩; have n0_ := Aside0.mk (Kd.N_below (zn_ HO_5) hb); have n1_ := Aside0.mk (Kd.R_below (zr_ HO_6) hb); have n2_ := Aside0.mk (Kd.N_below (zn_ HO_7) hb); have n3_ := Aside0.mk (Kd.R_below (zr_ HO856) hb); have n4_ := Aside0.mk (Kd.V_below (zv_ HO859) hb); have n5_ := Aside0.mk (Kd.V_below (zv_ HO863) hb); have n6_ := Aside0.mk (Kd.V_lower (Kd.V_mono (ok' := fun k_ => some k_ ≠ (.slice Ao41 t838.length co41 : Value).ownBlock ∧ some k_ ≠ (.slice Ao16 t841.length co16 : Value).ownBlock ∧ some k_ ≠ (.slice Ao47 t854.length co47 : Value).ownBlock) ho0 (fun k_ hk_ => ⟨Or.elim hk_ (fun hs_ => hs_.1.1) (fun hn_ => (Kd.fresh' (Kd.N_lt (zn_ HO_5)) k_ hn_)), Or.elim hk_ (fun hs_ => hs_.1.2) (fun hn_ => (Kd.fresh' (Kd.R_lt (zr_ HO_6)) k_ hn_)), Or.elim hk_ (fun hs_ => hs_.2) (fun hn_ => (Kd.fresh' (Kd.R_lt (zr_ HO856)) k_ hn_))⟩)) (below_size zb_)); have n7_ := Aside0.mk (below_step zb_ hb); clear HO_5; clear HO_6; clear HO_7; clear HO856; clear HO859; clear HO863; clear HB; have HO_5 := n0_; have HO_6 := n1_; have HO_7 := n2_; have HO856 := n3_; have HO859 := n4_; have HO863 := n5_; have HO866 := n6_; have HB := n7_; clear n0_ n1_ n2_ n3_ n4_ n5_ n6_ n7_; (try clear hb); (try clear hb2); (try clear hk); (try clear hi); (try clear ho0); obtain ⟨Ao51, co51, eo51⟩ := Kd.V_slice HO863.out; subst eo51; obtain ⟨Ao52, co52, eo52⟩ := Kd.V_slice HO866.out; subst eo52) | (go_at_call 27; (with_reducible refine (folkmootref15_Same.calls kj13 _ _ t861 _ _ t864 true _ ?side1 ?side2 ?side3 ?side4 A33.out).mono ?_); (case side1 => exact zd_ (Kd.V_reads' HO863.out).2.2); (case side2 => exact (Kd.V_reads' HO863.out).2.1); (case side3 => exact zd_ (Kd.V_reads' HO866.out).2.2); (case side4 => exact (Kd.V_reads' HO866.out).2.1); rintro e w' ⟨rfl, ⟨nd, rfl⟩⟩) | (go_at_call 66; (with_reducible refine (exchange_Full.calls kj13 _ _ t838 t868 _ ?side1 ?side2 A35.out).mono ?_); (case side1 => exact zd_ (Kd.N_reads' HO_5.out).2.2); (case side2 => exact (Kd.N_reads' HO_5.out).2.1); rintro e w53 ⟨v869, rfl, ho0, hb⟩; have n0_ := Aside0.mk (Kd.N_elder' (zn_ HO_5) (Kd.R_base ho0) hb); have n1_ := Aside0.mk (Kd.R_below (zr_ HO_6) hb); have n2_ := Aside0.mk (Kd.N_elder' (zn_ HO_7) (Kd.R_base ho0) hb); have n3_ := Aside0.mk (Kd.R_elder' (zr_ HO856) (Kd.R_base ho0) hb); have n4_ := Aside0.mk (Kd.V_elder' (zv_ HO859) (Kd.R_base ho0) hb); have n5_ := Aside0.mk (Kd.V_elder' (zv_ HO863) (Kd.R_base ho0) hb); have n6_ := Aside0.mk (Kd.V_elder' (zv_ HO866) (Kd.R_base ho0) hb); have n7_ := Aside0.mk (Kd.R_lower (Kd.R_new' ho0 (Kd.R_lt (zr_ HO856))) (below_size zb_)); have n8_ := Aside0.mk (below_step zb_ hb); clear HO_5; clear HO_6; clear HO_7; clear HO856; clear HO859; clear HO863; clear HO866; clear HB; have HO_5 := n0_; have HO_6 := n1_; have HO_7 := n2_; have HO856 := n3_; have HO859 := n4_; have HO863 := n5_; have HO866 := n6_; have HO870 := n7_; have HB := n8_; clear n0_ n1_ n2_ n3_ n4_ n5_ n6_ n7_ n8_; (try clear hb); (try clear hb2); (try clear hk); (try clear hi); (try clear ho0)) | (go_at_call 67; (with_reducible refine (folkmootref16_Full.calls kj13 _ _ t841 _ _ t844 t871 _ ?side1 ?side2 ?side3 ?side4 A36.out).mono ?_); (case side1 => exact zd_ (Kd.R_reads' HO_6.out).2.2); (case side2 => exact (Kd.R_reads' HO_6.out).2.1); (case side3 => exact zd_ (Kd.N_reads' HO_7.out).2.2); (case side4 => exact (Kd.N_reads' HO_7.out).2.1); rintro e w54 ⟨v872, rfl, ho0, hb⟩; have n0_ := Aside0.mk (Kd.N_elder' (zn_ HO_5) (Kd.R_base ho0) hb); have n1_ := Aside0.mk (Kd.R_below (zr_ HO_6) hb); have n2_ := Aside0.mk (Kd.N_elder' (zn_ HO_7) (Kd.R_base ho0) hb); have n3_ := Aside0.mk (Kd.R_elder' (zr_ HO856) (Kd.R_base ho0) hb); have n4_ := Aside0.mk (Kd.V_elder' (zv_ HO859) (Kd.R_base ho0) hb); have n5_ := Aside0.mk (Kd.V_elder' (zv_ HO863) (Kd.R_base ho0) hb); have n6_ := Aside0.mk (Kd.V_elder' (zv_ HO866) (Kd.R_base ho0) hb); have n7_ := Aside0.mk (Kd.R_elder' (zr_ HO870) (Kd.R_base ho0) hb); have n8_ := Aside0.mk (Kd.R_lower (Kd.R_new' (Kd.R_new' ho0 (Kd.R_lt (zr_ HO856))) (Kd.R_lt (zr_ HO870))) (below_size zb_)); have n9_ := Aside0.mk (below_step zb_ hb); clear HO_5; clear HO_6; clear HO_7; clear HO856; clear HO859; clear HO863; clear HO866; clear HO870; clear HB; have HO_5 := n0_; have HO_6 := n1_; have HO_7 := n2_; have HO856 := n3_; have HO859 := n4_; have HO863 := n5_; have HO866 := n6_; have HO870 := n7_; have HO873 := n8_; have HB := n9_; clear n0_ n1_ n2_ n3_ n4_ n5_ n6_ n7_ n8_ n9_; (try clear hb); (try clear hb2); (try clear hk); (try clear hi); (try clear ho0); obtain ⟨Ao55, co55, eo55⟩ := Kd.R_slice HO870.out; subst eo55; obtain ⟨Ao56, co56, eo56⟩ := Kd.R_slice HO873.out; subst eo56) | (go_at_call 30; (with_reducible refine (folkmootref05_Same.calls kj13 _ _ t868 _ _ t871 true _ ?side1 ?side2 ?side3 ?side4 A37.out).mono ?_); (case side1 => exact zd_ (Kd.R_reads' HO870.out).2.2); (case side2 => exact (Kd.R_reads' HO870.out).2.1); (case side3 => exact zd_ (Kd.R_reads' HO873.out).2.2); (case side4 => exact (Kd.R_reads' HO873.out).2.1); rintro e w' ⟨rfl, ⟨nd, rfl⟩⟩) | (go_at_call 68; (with_reducible refine (exchange_Next.calls kj13 _ _ t838 t875 _ ?side1 ?side2 A39.out).mono ?_); (case side1 => exact zd_ (Kd.N_reads' HO_5.out).2.2); (case side2 => exact (Kd.N_reads' HO_5.out).2.1); rintro e w57 ⟨rfl, hb⟩; have n0_ := Aside0.mk (Kd.N_below (zn_ HO_5) hb); have n1_ := Aside0.mk (Kd.R_below (zr_ HO_6) hb); have n2_ := Aside0.mk (Kd.N_below (zn_ HO_7) hb); have n3_ := Aside0.mk (Kd.R_below (zr_ HO856) hb); have n4_ := Aside0.mk (Kd.V_below (zv_ HO859) hb); have n5_ := Aside0.mk (Kd.V_below (zv_ HO863) hb); have n6_ := Aside0.mk (Kd.V_below (zv_ HO866) hb); have n7_ := Aside0.mk (Kd.R_below (zr_ HO870) hb); have n8_ := Aside0.mk (Kd.R_below (zr_ HO873) hb); have n9_ := Aside0.mk (below_step zb_ hb); clear HO_5; clear HO_6; clear HO_7; clear HO856; clear HO859; clear HO863; clear HO866; clear HO870; clear HO873; clear HB; have HO_5 := n0_; have HO_6 := n1_; have HO_7 := n2_; have HO856 := n3_; have HO859 := n4_; have HO863 := n5_; have HO866 := n6_; have HO870 := n7_; have HO873 := n8_; have HB := n9_; clear n0_ n1_ n2_ n3_ n4_ n5_ n6_ n7_ n8_ n9_; (try clear hb); (try clear hb2); (try clear hk); (try clear hi)) | (go_at_call 69; (with_reducible refine (folkmootref16_Next.calls kj13 _ _ t844 t876 _ ?side1 ?side2 A40.out).mono ?_); (case side1 => exact zd_ (Kd.N_reads' HO_7.out).2.2); (case side2 => exact (Kd.N_reads' HO_7.out).2.1); rintro e w' ⟨rfl, ⟨nd, rfl⟩⟩))
           go_ret
           exact ⟨by first | rfl | (simp [errW_none, errW_some] <;> rfl) | (simp [*, errW_none, errW_some] <;> rfl), by repeat (first | (with_reducible first | exact HB.out | apply below_alloc | apply pw_below_drewN | apply below_drew1) | exact HB.out)⟩
          ·
           replace c38 := Bool.eq_false_iff.mpr c38
           subst c38
           have H1 : (some false) = some r := by rw [if_neg (show ¬ (false = true) by decide)] at H; exact H
           clear H
           have H := H1
           clear H1
           obtain rfl := Option.some.inj H
           obtain ⟨Ao58, co58, eo58⟩ := Kd.N_slice HO_5.out
           subst eo58
           go_wp2_with (first | ((with_reducible refine gate_callee (f := 59) rfl ?_); refine goesL_ (some 35) rfl rfl Try.func59 (by kernel_rfl) rfl #[.slice Ao58 t838.length co58] rfl za_ ?_; (with_reducible refine (exchange_High.calls kj13 _ _ t838 t849 t850 _ ?side1 ?side2 A22.out).mono ?_); (case side1 => exact zd_ (Kd.N_reads' HO_5.out).2.2); (case side2 => exact (Kd.N_reads' HO_5.out).2.1); rintro e w59 ⟨rfl, hb⟩; refine ⟨_, rfl, ?_⟩; have n0_ := Aside0.mk (Kd.N_below (zn_ HO_5) hb); have n1_ := Aside0.mk (Kd.R_below (zr_ HO_6) hb); have n2_ := Aside0.mk (Kd.N_below (zn_ HO_7) hb); have n3_ := Aside0.mk (below_step zb_ hb); clear HO_5; clear HO_6; clear HO_7; clear HB; have HO_5 := n0_; have HO_6 := n1_; have HO_7 := n2_; have HB := n3_; clear n0_ n1_ n2_ n3_; (try clear hb); (try clear hb2); (try clear hk); (try clear hi)) | ((with_reducible refine gate_callee (f := 60) rfl ?_); refine goesL_ (some 37) rfl rfl Try.func60 (by kernel_rfl) rfl #[.slice Ao17 t844.length co17] rfl za_ ?_; (with_reducible refine (folkmootref16_High.calls kj13 _ _ t844 t851 t852 _ ?side1 ?side2 A23.out).mono ?_); (case side1 => exact zd_ (Kd.N_reads' HO_7.out).2.2); (case side2 => exact (Kd.N_reads' HO_7.out).2.1); rintro e w60 ⟨rfl, hb⟩; refine ⟨_, rfl, ?_⟩; have n0_ := Aside0.mk (Kd.N_below (zn_ HO_5) hb); have n1_ := Aside0.mk (Kd.R_below (zr_ HO_6) hb); have n2_ := Aside0.mk (Kd.N_below (zn_ HO_7) hb); have n3_ := Aside0.mk (below_step zb_ hb); clear HO_5; clear HO_6; clear HO_7; clear HB; have HO_5 := n0_; have HO_6 := n1_; have HO_7 := n2_; have HB := n3_; clear n0_ n1_ n2_ n3_; (try clear hb); (try clear hb2); (try clear hk); (try clear hi)) | (go_at_call 61; (with_reducible refine (exchange_Chosen.calls kj13 _ _ t838 t853 _ ?side1 ?side2 A25.out).mono ?_); (case side1 => exact zd_ (Kd.N_reads' HO_5.out).2.2); (case side2 => exact (Kd.N_reads' HO_5.out).2.1); rintro e w61 ⟨rfl, hb⟩; have n0_ := Aside0.mk (Kd.N_below (zn_ HO_5) hb); have n1_ := Aside0.mk (Kd.R_below (zr_ HO_6) hb); have n2_ := Aside0.mk (Kd.N_below (zn_ HO_7) hb); have n3_ := Aside0.mk (below_step zb_ hb); clear HO_5; clear HO_6; clear HO_7; clear HB; have HO_5 := n0_; have HO_6 := n1_; have HO_7 := n2_; have HB := n3_; clear n0_ n1_ n2_ n3_; (try clear hb); (try clear hb2); (try clear hk); (try clear hi)) | (go_at_call 62; (with_reducible refine (exchange_Short.calls kj13 _ _ t838 t854 _ ?side1 ?side2 A27.out).mono ?_); (case side1 => exact zd_ (Kd.N_reads' HO_5.out).2.2); (case side2 => exact (Kd.N_reads' HO_5.out).2.1); rintro e w62 ⟨v855, rfl, ho0, hb⟩; have n0_ := Aside0.mk (Kd.N_elder' (zn_ HO_5) (Kd.R_base ho0) hb); have n1_ := Aside0.mk (Kd.R_below (zr_ HO_6) hb); have n2_ := Aside0.mk (Kd.N_elder' (zn_ HO_7) (Kd.R_base ho0) hb); have n3_ := Aside0.mk (Kd.R_lower ho0 (below_size zb_)); have n4_ := Aside0.mk (below_step zb_ hb); clear HO_5; clear HO_6; clear HO_7; clear HB; have HO_5 := n0_; have HO_6 := n1_; have HO_7 := n2_; have HO856 := n3_; have HB := n4_; clear n0_ n1_ n2_ n3_ n4_; (try clear hb); (try clear hb2); (try clear hk); (try clear hi); (try clear ho0)) | (go_at_call 63; (with_reducible refine (folkmootref16_Short.calls kj13 _ _ t841 (fun k_ => ((some k_ ≠ (.slice Ao58 t838.length co58 : Value).ownBlock ∧ some k_ ≠ (.slice Ao16 t841.length co16 : Value).ownBlock) ∧ some k_ ≠ (v855 : Value).ownBlock)) _ _ t844 t857 _ ?side1 ?side2 ?side3 A28.out).mono ?_); (case side1 => exact zd_ (Kd.R_reads' HO_6.out).2.2); (case side2 => exact (Kd.R_reads' HO_6.out).2.1); (case side3 => exact Kd.N_V (HO_7.out)); rintro e w63 ⟨v858, rfl, ho0, hb⟩; have n0_ := Aside0.mk (Kd.N_below (zn_ HO_5) hb); have n1_ := Aside0.mk (Kd.R_below (zr_ HO_6) hb); have n2_ := Aside0.mk (Kd.N_below (zn_ HO_7) hb); have n3_ := Aside0.mk (Kd.R_below (zr_ HO856) hb); have n4_ := Aside0.mk (Kd.V_lower (Kd.V_mono (ok' := fun k_ => some k_ ≠ (.slice Ao58 t838.length co58 : Value).ownBlock ∧ some k_ ≠ (.slice Ao16 t841.length co16 : Value).ownBlock ∧ some k_ ≠ (v855 : Value).ownBlock) ho0 (fun k_ hk_ => ⟨Or.elim hk_ (fun hs_ => hs_.1.1) (fun hn_ => (Kd.fresh' (Kd.N_lt (zn_ HO_5)) k_ hn_)), Or.elim hk_ (fun hs_ => hs_.1.2) (fun hn_ => (Kd.fresh' (Kd.R_lt (zr_ HO_6)) k_ hn_)), Or.elim hk_ (fun hs_ => hs_.2) (fun hn_ => (Kd.fresh' (Kd.R_lt (zr_ HO856)) k_ hn_))⟩)) (below_size zb_)); have n5_ := Aside0.mk (below_step zb_ hb); clear HO_5; clear HO_6; clear HO_7; clear HO856; clear HB; have HO_5 := n0_; have HO_6 := n1_; have HO_7 := n2_; have HO856 := n3_; have HO859 := n4_; have HB := n5_; clear n0_ n1_ n2_ n3_ n4_ n5_; (try clear hb); (try clear hb2); (try clear hk); (try clear hi); (try clear ho0); obtain ⟨Ao64, co64, eo64⟩ := Kd.R_slice HO856.out; subst eo64; obtain ⟨Ao65, co65, eo65⟩ := Kd.V_slice HO859.out; subst eo65) | (go_at_call 30; (with_reducible refine (folkmootref05_Same.calls kj13 _ _ t854 _ _ t857 true _ ?side1 ?side2 ?side3 ?side4 A29.out).mono ?_); (case side1 => exact zd_ (Kd.R_reads' HO856.out).2.2); (case side2 => exact (Kd.R_reads' HO856.out).2.1); (case side3 => exact zd_ (Kd.V_reads' HO859.out).2.2); (case side4 => exact (Kd.V_reads' HO859.out).2.1); rintro e w' ⟨rfl, ⟨nd, rfl⟩⟩) | (go_at_call 64; (with_reducible refine (exchange_Known.calls kj13 _ _ t838 t861 _ ?side1 ?side2 A31.out).mono ?_); (case side1 => exact zd_ (Kd.N_reads' HO_5.out).2.2); (case side2 => exact (Kd.N_reads' HO_5.out).2.1); rintro e w66 ⟨v862, rfl, ho0, hb⟩; have n0_ := Aside0.mk (Kd.N_below (zn_ HO_5) hb); have n1_ := Aside0.mk (Kd.R_below (zr_ HO_6) hb); have n2_ := Aside0.mk (Kd.N_below (zn_ HO_7) hb); have n3_ := Aside0.mk (Kd.R_below (zr_ HO856) hb); have n4_ := Aside0.mk (Kd.V_below (zv_ HO859) hb); have n5_ := Aside0.mk (Kd.V_lower (Kd.V_mono (ok' := fun k_ => some k_ ≠ (.slice Ao58 t838.length co58 : Value).ownBlock ∧ some k_ ≠ (.slice Ao16 t841.length co16 : Value).ownBlock ∧ some k_ ≠ (.slice Ao17 t844.length co17 : Value).ownBlock ∧ some k_ ≠ (.slice Ao64 t854.length co64 : Value).ownBlock) ho0 (fun k_ hk_ => ⟨(Kd.fresh' (Kd.N_lt (zn_ HO_5)) k_ hk_), (Kd.fresh' (Kd.R_lt (zr_ HO_6)) k_ hk_), (Kd.fresh' (Kd.N_lt (zn_ HO_7)) k_ hk_), (Kd.fresh' (Kd.R_lt (zr_ HO856)) k_ hk_)⟩)) (below_size zb_)); have n6_ := Aside0.mk (below_step zb_ hb); clear HO_5; clear HO_6; clear HO_7; clear HO856; clear HO859; clear HB; have HO_5 := n0_; have HO_6 := n1_; have HO_7 := n2_; have HO856 := n3_; have HO859 := n4_; have HO863 := n5_; have HB := n6_; clear n0_ n1_ n2_ n3_ n4_ n5_ n6_; (try clear hb); (try clear hb2); (try clear hk); (try clear hi); (try clear ho0)) | (go_at_call 65; (with_reducible refine (folkmootref16_Known.calls kj13 (fun k_ => ((some k_ ≠ (.slice Ao58 t838.length co58 : Value).ownBlock ∧ some k_ ≠ (.slice Ao16 t841.length co16 : Value).ownBlock) ∧ some k_ ≠ (.slice Ao64 t854.length co64 : Value).ownBlock)) _ _ t844 t864 _ ?side1 A32.out).mono ?_); (case side1 => exact Kd.N_V (HO_7.out)); rintro e w67 ⟨v865, rfl, ho0, hb⟩; have n0_ := Aside0.mk (Kd.N_below (zn_ HO_5) hb); have n1_ := Aside0.mk (Kd.R_below (zr_ HO_6) hb); have n2_ := Aside0.mk (Kd.N_below (zn_ HO_7) hb); have n3_ := Aside0.mk (Kd.R_below (zr_ HO856) hb); have n4_ := Aside0.mk (Kd.V_below (zv_ HO859) hb); have n5_ := Aside0.mk (Kd.V_below (zv_ HO863) hb); have n6_ := Aside0.mk (Kd.V_lower (Kd.V_mono (ok' := fun k_ => some k_ ≠ (.slice Ao58 t838.length co58 : Value).ownBlock ∧ some k_ ≠ (.slice Ao16 t841.length co16 : Value).ownBlock ∧ some k_ ≠ (.slice Ao64 t854.length co64 : Value).ownBlock) ho0 (fun k_ hk_ => ⟨Or.elim hk_ (fun hs_ => hs_.1.1) (fun hn_ => (Kd.fresh' (Kd.N_lt (zn_ HO_5)) k_ hn_)), Or.elim hk_ (fun hs_ => hs_.1.2) (fun hn_ => (Kd.fresh' (Kd.R_lt (zr_ HO_6)) k_ hn_)), Or.elim hk_ (fun hs_ => hs_.2) (fun hn_ => (Kd.fresh' (Kd.R_lt (zr_ HO856)) k_ hn_))⟩)) (below_size zb_)); have n7_ := Aside0.mk (below_step zb_ hb); clear HO_5; clear HO_6; clear HO_7; clear HO856; clear HO859; clear HO863; clear HB; have HO_5 := n0_; have HO_6 := n1_; have HO_7 := n2_; have HO856 := n3_; have HO859 := n4_; have HO863 := n5_; have HO866 := n6_; have HB := n7_; clear n0_ n1_ n2_ n3_ n4_ n5_ n6_ n7_; (try clear hb); (try clear hb2); (try clear hk); (try clear hi); (try clear ho0); obtain ⟨Ao68, co68, eo68⟩ := Kd.V_slice HO863.out; subst eo68; obtain ⟨Ao69, co69, eo69⟩ := Kd.V_slice HO866.out; subst eo69) | (go_at_call 27; (with_reducible refine (folkmootref15_Same.calls kj13 _ _ t861 _ _ t864 true _ ?side1 ?side2 ?side3 ?side4 A33.out).mono ?_); (case side1 => exact zd_ (Kd.V_reads' HO863.out).2.2); (case side2 => exact (Kd.V_reads' HO863.out).2.1); (case side3 => exact zd_ (Kd.V_reads' HO866.out).2.2); (case side4 => exact (Kd.V_reads' HO866.out).2.1); rintro e w' ⟨rfl, ⟨nd, rfl⟩⟩) | (go_at_call 66; (with_reducible refine (exchange_Full.calls kj13 _ _ t838 t868 _ ?side1 ?side2 A35.out).mono ?_); (case side1 => exact zd_ (Kd.N_reads' HO_5.out).2.2); (case side2 => exact (Kd.N_reads' HO_5.out).2.1); rintro e w70 ⟨v869, rfl, ho0, hb⟩; have n0_ := Aside0.mk (Kd.N_elder' (zn_ HO_5) (Kd.R_base ho0) hb); have n1_ := Aside0.mk (Kd.R_below (zr_ HO_6) hb); have n2_ := Aside0.mk (Kd.N_elder' (zn_ HO_7) (Kd.R_base ho0) hb); have n3_ := Aside0.mk (Kd.R_elder' (zr_ HO856) (Kd.R_base ho0) hb); have n4_ := Aside0.mk (Kd.V_elder' (zv_ HO859) (Kd.R_base ho0) hb); have n5_ := Aside0.mk (Kd.V_elder' (zv_ HO863) (Kd.R_base ho0) hb); have n6_ := Aside0.mk (Kd.V_elder' (zv_ HO866) (Kd.R_base ho0) hb); have n7_ := Aside0.mk (Kd.R_lower (Kd.R_new' ho0 (Kd.R_lt (zr_ HO856))) (below_size zb_)); have n8_ := Aside0.mk (below_step zb_ hb); clear HO_5; clear HO_6; clear HO_7; clear HO856; clear HO859; clear HO863; clear HO866; clear HB; have HO_5 := n0_; have HO_6 := n1_; have HO_7 := n2_; have HO856 := n3_; have HO859 := n4_; have HO863 := n5_; have HO866 := n6_; have HO870 := n7_; have HB := n8_; clear n0_ n1_ n2_ n3_ n4_ n5_ n6_ n7_ n8_; (try clear hb); (try clear hb2); (try clear hk); (try clear hi); (try clear ho0)) | (go_at_call 67; (with_reducible refine (folkmootref16_Full.calls kj13 _ _ t841 _ _ t844 t871 _ ?side1 ?side2 ?side3 ?side4 A36.out).mono ?_); (case side1 => exact zd_ (Kd.R_reads' HO_6.out).2.2); (case side2 => exact (Kd.R_reads' HO_6.out).2.1); (case side3 => exact zd_ (Kd.N_reads' HO_7.out).2.2); (case side4 => exact (Kd.N_reads' HO_7.out).2.1); rintro e w71 ⟨v872, rfl, ho0, hb⟩; have n0_ := Aside0.mk (Kd.N_elder' (zn_ HO_5) (Kd.R_base ho0) hb); have n1_ := Aside0.mk (Kd.R_below (zr_ HO_6) hb); have n2_ := Aside0.mk (Kd.N_elder' (zn_ HO_7) (Kd.R_base ho0) hb); have n3_ := Aside0.mk (Kd.R_elder' (zr_ HO856) (Kd.R_base ho0) hb); have n4_ := Aside0.mk (Kd.V_elder' (zv_ HO859) (Kd.R_base ho0) hb); have n5_ := Aside0.mk (Kd.V_elder' (zv_ HO863) (Kd.R_base ho0) hb); have n6_ := Aside0.mk (Kd.V_elder' (zv_ HO866) (Kd.R_base ho0) hb); have n7_ := Aside0.mk (Kd.R_elder' (zr_ HO870) (Kd.R_base ho0) hb); have n8_ := Aside0.mk (Kd.R_lower (Kd.R_new' (Kd.R_new' ho0 (Kd.R_lt (zr_ HO856))) (Kd.R_lt (zr_ HO870))) (below_size zb_)); have n9_ := Aside0.mk (below_step zb_ hb); clear HO_5; clear HO_6; clear HO_7; clear HO856; clear HO859; clear HO863; clear HO866; clear HO870; clear HB; have HO_5 := n0_; have HO_6 := n1_; have HO_7 := n2_; have HO856 := n3_; have HO859 := n4_; have HO863 := n5_; have HO866 := n6_; have HO870 := n7_; have HO873 := n8_; have HB := n9_; clear n0_ n1_ n2_ n3_ n4_ n5_ n6_ n7_ n8_ n9_; (try clear hb); (try clear hb2); (try clear hk); (try clear hi); (try clear ho0); obtain ⟨Ao72, co72, eo72⟩ := Kd.R_slice HO870.out; subst eo72; obtain ⟨Ao73, co73, eo73⟩ := Kd.R_slice HO873.out; subst eo73) | (go_at_call 30; (with_reducible refine (folkmootref05_Same.calls kj13 _ _ t868 _ _ t871 false _ ?side1 ?side2 ?side3 ?side4 A37.out).mono ?_); (case side1 => exact zd_ (Kd.R_reads' HO870.out).2.2); (case side2 => exact (Kd.R_reads' HO870.out).2.1); (case side3 => exact zd_ (Kd.R_reads' HO873.out).2.2); (case side4 => exact (Kd.R_reads' HO873.out).2.1); rintro e w' ⟨rfl, ⟨nd, rfl⟩⟩))
           go_ret
           exact ⟨by first | rfl | (simp [errW_none, errW_some] <;> rfl) | (simp [*, errW_none, errW_some] <;> rfl), by repeat (first | (with_reducible first | exact HB.out | apply below_alloc | apply pw_below_drewN | apply below_drew1) | exact HB.out)⟩
         ·
          replace c34 := Bool.eq_false_iff.mpr c34
          subst c34
          have H1 : (some false) = some r := by rw [if_neg (show ¬ (false = true) by decide)] at H; exact H
          clear H
          have H := H1
          clear H1
          obtain rfl := Option.some.inj H
          obtain ⟨Ao74, co74, eo74⟩ := Kd.N_slice HO_5.out
          subst eo74
          go_wp2_with (first | ((with_reducible refine gate_callee (f := 59) rfl ?_); refine goesL_ (some 35) rfl rfl Try.func59 (by kernel_rfl) rfl #[.slice Ao74 t838.length co74] rfl za_ ?_; (with_reducible refine (exchange_High.calls kj13 _ _ t838 t849 t850 _ ?side1 ?side2 A22.out).mono ?_); (case side1 => exact zd_ (Kd.N_reads' HO_5.out).2.2); (case side2 => exact (Kd.N_reads' HO_5.out).2.1); rintro e w75 ⟨rfl, hb⟩; refine ⟨_, rfl, ?_⟩; have n0_ := Aside0.mk (Kd.N_below (zn_ HO_5) hb); have n1_ := Aside0.mk (Kd.R_below (zr_ HO_6) hb); have n2_ := Aside0.mk (Kd.N_below (zn_ HO_7) hb); have n3_ := Aside0.mk (below_step zb_ hb); clear HO_5; clear HO_6; clear HO_7; clear HB; have HO_5 := n0_; have HO_6 := n1_; have HO_7 := n2_; have HB := n3_; clear n0_ n1_ n2_ n3_; (try clear hb); (try clear hb2); (try clear hk); (try clear hi)) | ((with_reducible refine gate_callee (f := 60) rfl ?_); refine goesL_ (some 37) rfl rfl Try.func60 (by kernel_rfl) rfl #[.slice Ao17 t844.length co17] rfl za_ ?_; (with_reducible refine (folkmootref16_High.calls kj13 _ _ t844 t851 t852 _ ?side1 ?side2 A23.out).mono ?_); (case side1 => exact zd_ (Kd.N_reads' HO_7.out).2.2); (case side2 => exact (Kd.N_reads' HO_7.out).2.1); rintro e w76 ⟨rfl, hb⟩; refine ⟨_, rfl, ?_⟩; have n0_ := Aside0.mk (Kd.N_below (zn_ HO_5) hb); have n1_ := Aside0.mk (Kd.R_below (zr_ HO_6) hb); have n2_ := Aside0.mk (Kd.N_below (zn_ HO_7) hb); have n3_ := Aside0.mk (below_step zb_ hb); clear HO_5; clear HO_6; clear HO_7; clear HB; have HO_5 := n0_; have HO_6 := n1_; have HO_7 := n2_; have HB := n3_; clear n0_ n1_ n2_ n3_; (try clear hb); (try clear hb2); (try clear hk); (try clear hi)) | (go_at_call 61; (with_reducible refine (exchange_Chosen.calls kj13 _ _ t838 t853 _ ?side1 ?side2 A25.out).mono ?_); (case side1 => exact zd_ (Kd.N_reads' HO_5.out).2.2); (case side2 => exact (Kd.N_reads' HO_5.out).2.1); rintro e w77 ⟨rfl, hb⟩; have n0_ := Aside0.mk (Kd.N_below (zn_ HO_5) hb); have n1_ := Aside0.mk (Kd.R_below (zr_ HO_6) hb); have n2_ := Aside0.mk (Kd.N_below (zn_ HO_7) hb); have n3_ := Aside0.mk (below_step zb_ hb); clear HO_5; clear HO_6; clear HO_7; clear HB; have HO_5 := n0_; have HO_6 := n1_; have HO_7 := n2_; have HB := n3_; clear n0_ n1_ n2_ n3_; (try clear hb); (try clear hb2); (try clear hk); (try clear hi)) | (go_at_call 62; (with_reducible refine (exchange_Short.calls kj13 _ _ t838 t854 _ ?side1 ?side2 A27.out).mono ?_); (case side1 => exact zd_ (Kd.N_reads' HO_5.out).2.2); (case side2 => exact (Kd.N_reads' HO_5.out).2.1); rintro e w78 ⟨v855, rfl, ho0, hb⟩; have n0_ := Aside0.mk (Kd.N_elder' (zn_ HO_5) (Kd.R_base ho0) hb); have n1_ := Aside0.mk (Kd.R_below (zr_ HO_6) hb); have n2_ := Aside0.mk (Kd.N_elder' (zn_ HO_7) (Kd.R_base ho0) hb); have n3_ := Aside0.mk (Kd.R_lower ho0 (below_size zb_)); have n4_ := Aside0.mk (below_step zb_ hb); clear HO_5; clear HO_6; clear HO_7; clear HB; have HO_5 := n0_; have HO_6 := n1_; have HO_7 := n2_; have HO856 := n3_; have HB := n4_; clear n0_ n1_ n2_ n3_ n4_; (try clear hb); (try clear hb2); (try clear hk); (try clear hi); (try clear ho0)) | (go_at_call 63; (with_reducible refine (folkmootref16_Short.calls kj13 _ _ t841 (fun k_ => ((some k_ ≠ (.slice Ao74 t838.length co74 : Value).ownBlock ∧ some k_ ≠ (.slice Ao16 t841.length co16 : Value).ownBlock) ∧ some k_ ≠ (v855 : Value).ownBlock)) _ _ t844 t857 _ ?side1 ?side2 ?side3 A28.out).mono ?_); (case side1 => exact zd_ (Kd.R_reads' HO_6.out).2.2); (case side2 => exact (Kd.R_reads' HO_6.out).2.1); (case side3 => exact Kd.N_V (HO_7.out)); rintro e w79 ⟨v858, rfl, ho0, hb⟩; have n0_ := Aside0.mk (Kd.N_below (zn_ HO_5) hb); have n1_ := Aside0.mk (Kd.R_below (zr_ HO_6) hb); have n2_ := Aside0.mk (Kd.N_below (zn_ HO_7) hb); have n3_ := Aside0.mk (Kd.R_below (zr_ HO856) hb); have n4_ := Aside0.mk (Kd.V_lower (Kd.V_mono (ok' := fun k_ => some k_ ≠ (.slice Ao74 t838.length co74 : Value).ownBlock ∧ some k_ ≠ (.slice Ao16 t841.length co16 : Value).ownBlock ∧ some k_ ≠ (v855 : Value).ownBlock) ho0 (fun k_ hk_ => ⟨Or.elim hk_ (fun hs_ => hs_.1.1) (fun hn_ => (Kd.fresh' (Kd.N_lt (zn_ HO_5)) k_ hn_)), Or.elim hk_ (fun hs_ => hs_.1.2) (fun hn_ => (Kd.fresh' (Kd.R_lt (zr_ HO_6)) k_ hn_)), Or.elim hk_ (fun hs_ => hs_.2) (fun hn_ => (Kd.fresh' (Kd.R_lt (zr_ HO856)) k_ hn_))⟩)) (below_size zb_)); have n5_ := Aside0.mk (below_step zb_ hb); clear HO_5; clear HO_6; clear HO_7; clear HO856; clear HB; have HO_5 := n0_; have HO_6 := n1_; have HO_7 := n2_; have HO856 := n3_; have HO859 := n4_; have HB := n5_; clear n0_ n1_ n2_ n3_ n4_ n5_; (try clear hb); (try clear hb2); (try clear hk); (try clear hi); (try clear ho0); obtain ⟨Ao80, co80, eo80⟩ := Kd.R_slice HO856.out; subst eo80; obtain ⟨Ao81, co81, eo81⟩ := Kd.V_slice HO859.out; subst eo81) | (go_at_call 30; (with_reducible refine (folkmootref05_Same.calls kj13 _ _ t854 _ _ t857 true _ ?side1 ?side2 ?side3 ?side4 A29.out).mono ?_); (case side1 => exact zd_ (Kd.R_reads' HO856.out).2.2); (case side2 => exact (Kd.R_reads' HO856.out).2.1); (case side3 => exact zd_ (Kd.V_reads' HO859.out).2.2); (case side4 => exact (Kd.V_reads' HO859.out).2.1); rintro e w' ⟨rfl, ⟨nd, rfl⟩⟩) | (go_at_call 64; (with_reducible refine (exchange_Known.calls kj13 _ _ t838 t861 _ ?side1 ?side2 A31.out).mono ?_); (case side1 => exact zd_ (Kd.N_reads' HO_5.out).2.2); (case side2 => exact (Kd.N_reads' HO_5.out).2.1); rintro e w82 ⟨v862, rfl, ho0, hb⟩; have n0_ := Aside0.mk (Kd.N_below (zn_ HO_5) hb); have n1_ := Aside0.mk (Kd.R_below (zr_ HO_6) hb); have n2_ := Aside0.mk (Kd.N_below (zn_ HO_7) hb); have n3_ := Aside0.mk (Kd.R_below (zr_ HO856) hb); have n4_ := Aside0.mk (Kd.V_below (zv_ HO859) hb); have n5_ := Aside0.mk (Kd.V_lower (Kd.V_mono (ok' := fun k_ => some k_ ≠ (.slice Ao74 t838.length co74 : Value).ownBlock ∧ some k_ ≠ (.slice Ao16 t841.length co16 : Value).ownBlock ∧ some k_ ≠ (.slice Ao17 t844.length co17 : Value).ownBlock ∧ some k_ ≠ (.slice Ao80 t854.length co80 : Value).ownBlock) ho0 (fun k_ hk_ => ⟨(Kd.fresh' (Kd.N_lt (zn_ HO_5)) k_ hk_), (Kd.fresh' (Kd.R_lt (zr_ HO_6)) k_ hk_), (Kd.fresh' (Kd.N_lt (zn_ HO_7)) k_ hk_), (Kd.fresh' (Kd.R_lt (zr_ HO856)) k_ hk_)⟩)) (below_size zb_)); have n6_ := Aside0.mk (below_step zb_ hb); clear HO_5; clear HO_6; clear HO_7; clear HO856; clear HO859; clear HB; have HO_5 := n0_; have HO_6 := n1_; have HO_7 := n2_; have HO856 := n3_; have HO859 := n4_; have HO863 := n5_; have HB := n6_; clear n0_ n1_ n2_ n3_ n4_ n5_ n6_; (try clear hb); (try clear hb2); (try clear hk); (try clear hi); (try clear ho0)) | (go_at_call 65; (with_reducible refine (folkmootref16_Known.calls kj13 (fun k_ => ((some k_ ≠ (.slice Ao74 t838.length co74 : Value).ownBlock ∧ some k_ ≠ (.slice Ao16 t841.length co16 : Value).ownBlock) ∧ some k_ ≠ (.slice Ao80 t854.length co80 : Value).ownBlock)) _ _ t844 t864 _ ?side1 A32.out).mono ?_); (case side1 => exact Kd.N_V (HO_7.out)); rintro e w83 ⟨v865, rfl, ho0, hb⟩; have n0_ := Aside0.mk (Kd.N_below (zn_ HO_5) hb); have n1_ := Aside0.mk (Kd.R_below (zr_ HO_6) hb); have n2_ := Aside0.mk (Kd.N_below (zn_ HO_7) hb); have n3_ := Aside0.mk (Kd.R_below (zr_ HO856) hb); have n4_ := Aside0.mk (Kd.V_below (zv_ HO859) hb); have n5_ := Aside0.mk (Kd.V_below (zv_ HO863) hb); have n6_ := Aside0.mk (Kd.V_lower (Kd.V_mono (ok' := fun k_ => some k_ ≠ (.slice Ao74 t838.length co74 : Value).ownBlock ∧ some k_ ≠ (.slice Ao16 t841.length co16 : Value).ownBlock ∧ some k_ ≠ (.slice Ao80 t854.length co80 : Value).ownBlock) ho0 (fun k_ hk_ => ⟨Or.elim hk_ (fun hs_ => hs_.1.1) (fun hn_ => (Kd.fresh' (Kd.N_lt (zn_ HO_5)) k_ hn_)), Or.elim hk_ (fun hs_ => hs_.1.2) (fun hn_ => (Kd.fresh' (Kd.R_lt (zr_ HO_6)) k_ hn_)), Or.elim hk_ (fun hs_ => hs_.2) (fun hn_ => (Kd.fresh' (Kd.R_lt (zr_ HO856)) k_ hn_))⟩)) (below_size zb_)); have n7_ := Aside0.mk (below_step zb_ hb); clear HO_5; clear HO_6; clear HO_7; clear HO856; clear HO859; clear HO863; clear HB; have HO_5 := n0_; have HO_6 := n1_; have HO_7 := n2_; have HO856 := n3_; have HO859 := n4_; have HO863 := n5_; have HO866 := n6_; have HB := n7_; clear n0_ n1_ n2_ n3_ n4_ n5_ n6_ n7_; (try clear hb); (try clear hb2); (try clear hk); (try clear hi); (try clear ho0); obtain ⟨Ao84, co84, eo84⟩ := Kd.V_slice HO863.out; subst eo84; obtain ⟨Ao85, co85, eo85⟩ := Kd.V_slice HO866.out; subst eo85) | (go_at_call 27; (with_reducible refine (folkmootref15_Same.calls kj13 _ _ t861 _ _ t864 false _ ?side1 ?side2 ?side3 ?side4 A33.out).mono ?_); (case side1 => exact zd_ (Kd.V_reads' HO863.out).2.2); (case side2 => exact (Kd.V_reads' HO863.out).2.1); (case side3 => exact zd_ (Kd.V_reads' HO866.out).2.2); (case side4 => exact (Kd.V_reads' HO866.out).2.1); rintro e w' ⟨rfl, ⟨nd, rfl⟩⟩))
          go_ret
          exact ⟨by first | rfl | (simp [errW_none, errW_some] <;> rfl) | (simp [*, errW_none, errW_some] <;> rfl), by repeat (first | (with_reducible first | exact HB.out | apply below_alloc | apply pw_below_drewN | apply below_drew1) | exact HB.out)⟩
        ·
         replace c30 := Bool.eq_false_iff.mpr c30
         subst c30
         have H1 : (some false) = some r := by rw [if_neg (show ¬ (false = true) by decide)] at H; exact H
         clear H
         have H := H1
         clear H1
         obtain rfl := Option.some.inj H
         obtain ⟨Ao86, co86, eo86⟩ := Kd.N_slice HO_5.out
         subst eo86
         go_wp2_with (first | ((with_reducible refine gate_callee (f := 59) rfl ?_); refine goesL_ (some 35) rfl rfl Try.func59 (by kernel_rfl) rfl #[.slice Ao86 t838.length co86] rfl za_ ?_; (with_reducible refine (exchange_High.calls kj13 _ _ t838 t849 t850 _ ?side1 ?side2 A22.out).mono ?_); (case side1 => exact zd_ (Kd.N_reads' HO_5.out).2.2); (case side2 => exact (Kd.N_reads' HO_5.out).2.1); rintro e w87 ⟨rfl, hb⟩; refine ⟨_, rfl, ?_⟩; have n0_ := Aside0.mk (Kd.N_below (zn_ HO_5) hb); have n1_ := Aside0.mk (Kd.R_below (zr_ HO_6) hb); have n2_ := Aside0.mk (Kd.N_below (zn_ HO_7) hb); have n3_ := Aside0.mk (below_step zb_ hb); clear HO_5; clear HO_6; clear HO_7; clear HB; have HO_5 := n0_; have HO_6 := n1_; have HO_7 := n2_; have HB := n3_; clear n0_ n1_ n2_ n3_; (try clear hb); (try clear hb2); (try clear hk); (try clear hi)) | ((with_reducible refine gate_callee (f := 60) rfl ?_); refine goesL_ (some 37) rfl rfl Try.func60 (by kernel_rfl) rfl #[.slice Ao17 t844.length co17] rfl za_ ?_; (with_reducible refine (folkmootref16_High.calls kj13 _ _ t844 t851 t852 _ ?side1 ?side2 A23.out).mono ?_); (case side1 => exact zd_ (Kd.N_reads' HO_7.out).2.2); (case side2 => exact (Kd.N_reads' HO_7.out).2.1); rintro e w88 ⟨rfl, hb⟩; refine ⟨_, rfl, ?_⟩; have n0_ := Aside0.mk (Kd.N_below (zn_ HO_5) hb); have n1_ := Aside0.mk (Kd.R_below (zr_ HO_6) hb); have n2_ := Aside0.mk (Kd.N_below (zn_ HO_7) hb); have n3_ := Aside0.mk (below_step zb_ hb); clear HO_5; clear HO_6; clear HO_7; clear HB; have HO_5 := n0_; have HO_6 := n1_; have HO_7 := n2_; have HB := n3_; clear n0_ n1_ n2_ n3_; (try clear hb); (try clear hb2); (try clear hk); (try clear hi)) | (go_at_call 61; (with_reducible refine (exchange_Chosen.calls kj13 _ _ t838 t853 _ ?side1 ?side2 A25.out).mono ?_); (case side1 => exact zd_ (Kd.N_reads' HO_5.out).2.2); (case side2 => exact (Kd.N_reads' HO_5.out).2.1); rintro e w89 ⟨rfl, hb⟩; have n0_ := Aside0.mk (Kd.N_below (zn_ HO_5) hb); have n1_ := Aside0.mk (Kd.R_below (zr_ HO_6) hb); have n2_ := Aside0.mk (Kd.N_below (zn_ HO_7) hb); have n3_ := Aside0.mk (below_step zb_ hb); clear HO_5; clear HO_6; clear HO_7; clear HB; have HO_5 := n0_; have HO_6 := n1_; have HO_7 := n2_; have HB := n3_; clear n0_ n1_ n2_ n3_; (try clear hb); (try clear hb2); (try clear hk); (try clear hi)) | (go_at_call 62; (with_reducible refine (exchange_Short.calls kj13 _ _ t838 t854 _ ?side1 ?side2 A27.out).mono ?_); (case side1 => exact zd_ (Kd.N_reads' HO_5.out).2.2); (case side2 => exact (Kd.N_reads' HO_5.out).2.1); rintro e w90 ⟨v855, rfl, ho0, hb⟩; have n0_ := Aside0.mk (Kd.N_elder' (zn_ HO_5) (Kd.R_base ho0) hb); have n1_ := Aside0.mk (Kd.R_below (zr_ HO_6) hb); have n2_ := Aside0.mk (Kd.N_elder' (zn_ HO_7) (Kd.R_base ho0) hb); have n3_ := Aside0.mk (Kd.R_lower ho0 (below_size zb_)); have n4_ := Aside0.mk (below_step zb_ hb); clear HO_5; clear HO_6; clear HO_7; clear HB; have HO_5 := n0_; have HO_6 := n1_; have HO_7 := n2_; have HO856 := n3_; have HB := n4_; clear n0_ n1_ n2_ n3_ n4_; (try clear hb); (try clear hb2); (try clear hk); (try clear hi); (try clear ho0)) | (go_at_call 63; (with_reducible refine (folkmootref16_Short.calls kj13 _ _ t841 (fun k_ => ((some k_ ≠ (.slice Ao86 t838.length co86 : Value).ownBlock ∧ some k_ ≠ (.slice Ao16 t841.length co16 : Value).ownBlock) ∧ some k_ ≠ (v855 : Value).ownBlock)) _ _ t844 t857 _ ?side1 ?side2 ?side3 A28.out).mono ?_); (case side1 => exact zd_ (Kd.R_reads' HO_6.out).2.2); (case side2 => exact (Kd.R_reads' HO_6.out).2.1); (case side3 => exact Kd.N_V (HO_7.out)); rintro e w91 ⟨v858, rfl, ho0, hb⟩; have n0_ := Aside0.mk (Kd.N_below (zn_ HO_5) hb); have n1_ := Aside0.mk (Kd.R_below (zr_ HO_6) hb); have n2_ := Aside0.mk (Kd.N_below (zn_ HO_7) hb); have n3_ := Aside0.mk (Kd.R_below (zr_ HO856) hb); have n4_ := Aside0.mk (Kd.V_lower (Kd.V_mono (ok' := fun k_ => some k_ ≠ (.slice Ao86 t838.length co86 : Value).ownBlock ∧ some k_ ≠ (.slice Ao16 t841.length co16 : Value).ownBlock ∧ some k_ ≠ (v855 : Value).ownBlock) ho0 (fun k_ hk_ => ⟨Or.elim hk_ (fun hs_ => hs_.1.1) (fun hn_ => (Kd.fresh' (Kd.N_lt (zn_ HO_5)) k_ hn_)), Or.elim hk_ (fun hs_ => hs_.1.2) (fun hn_ => (Kd.fresh' (Kd.R_lt (zr_ HO_6)) k_ hn_)), Or.elim hk_ (fun hs_ => hs_.2) (fun hn_ => (Kd.fresh' (Kd.R_lt (zr_ HO856)) k_ hn_))⟩)) (below_size zb_)); have n5_ := Aside0.mk (below_step zb_ hb); clear HO_5; clear HO_6; clear HO_7; clear HO856; clear HB; have HO_5 := n0_; have HO_6 := n1_; have HO_7 := n2_; have HO856 := n3_; have HO859 := n4_; have HB := n5_; clear n0_ n1_ n2_ n3_ n4_ n5_; (try clear hb); (try clear hb2); (try clear hk); (try clear hi); (try clear ho0); obtain ⟨Ao92, co92, eo92⟩ := Kd.R_slice HO856.out; subst eo92; obtain ⟨Ao93, co93, eo93⟩ := Kd.V_slice HO859.out; subst eo93) | (go_at_call 30; (with_reducible refine (folkmootref05_Same.calls kj13 _ _ t854 _ _ t857 false _ ?side1 ?side2 ?side3 ?side4 A29.out).mono ?_); (case side1 => exact zd_ (Kd.R_reads' HO856.out).2.2); (case side2 => exact (Kd.R_reads' HO856.out).2.1); (case side3 => exact zd_ (Kd.V_reads' HO859.out).2.2); (case side4 => exact (Kd.V_reads' HO859.out).2.1); rintro e w' ⟨rfl, ⟨nd, rfl⟩⟩))
         go_ret
         exact ⟨by first | rfl | (simp [errW_none, errW_some] <;> rfl) | (simp [*, errW_none, errW_some] <;> rfl), by repeat (first | (with_reducible first | exact HB.out | apply below_alloc | apply pw_below_drewN | apply below_drew1) | exact HB.out)⟩
       ·
        rw [if_neg c26] at H
        have c26b0 : (t853 == x9_13) = false := beq_eq_false_iff_ne.mpr c26
        have c26b1 : (t853 != x9_13) = true := bne_iff_ne.mpr c26
        obtain rfl := Option.some.inj H
        obtain ⟨Ao94, co94, eo94⟩ := Kd.N_slice HO_5.out
        subst eo94
        go_wp2_with (first | ((with_reducible refine gate_callee (f := 59) rfl ?_); refine goesL_ (some 35) rfl rfl Try.func59 (by kernel_rfl) rfl #[.slice Ao94 t838.length co94] rfl za_ ?_; (with_reducible refine (exchange_High.calls kj13 _ _ t838 t849 t850 _ ?side1 ?side2 A22.out).mono ?_); (case side1 => exact zd_ (Kd.N_reads' HO_5.out).2.2); (case side2 => exact (Kd.N_reads' HO_5.out).2.1); rintro e w95 ⟨rfl, hb⟩; refine ⟨_, rfl, ?_⟩; have n0_ := Aside0.mk (Kd.N_below (zn_ HO_5) hb); have n1_ := Aside0.mk (Kd.R_below (zr_ HO_6) hb); have n2_ := Aside0.mk (Kd.N_below (zn_ HO_7) hb); have n3_ := Aside0.mk (below_step zb_ hb); clear HO_5; clear HO_6; clear HO_7; clear HB; have HO_5 := n0_; have HO_6 := n1_; have HO_7 := n2_; have HB := n3_; clear n0_ n1_ n2_ n3_; (try clear hb); (try clear hb2); (try clear hk); (try clear hi)) | ((with_reducible refine gate_callee (f := 60) rfl ?_); refine goesL_ (some 37) rfl rfl Try.func60 (by kernel_rfl) rfl #[.slice Ao17 t844.length co17] rfl za_ ?_; (with_reducible refine (folkmootref16_High.calls kj13 _ _ t844 t851 t852 _ ?side1 ?side2 A23.out).mono ?_); (case side1 => exact zd_ (Kd.N_reads' HO_7.out).2.2); (case side2 => exact (Kd.N_reads' HO_7.out).2.1); rintro e w96 ⟨rfl, hb⟩; refine ⟨_, rfl, ?_⟩; have n0_ := Aside0.mk (Kd.N_below (zn_ HO_5) hb); have n1_ := Aside0.mk (Kd.R_below (zr_ HO_6) hb); have n2_ := Aside0.mk (Kd.N_below (zn_ HO_7) hb); have n3_ := Aside0.mk (below_step zb_ hb); clear HO_5; clear HO_6; clear HO_7; clear HB; have HO_5 := n0_; have HO_6 := n1_; have HO_7 := n2_; have HB := n3_; clear n0_ n1_ n2_ n3_; (try clear hb); (try clear hb2); (try clear hk); (try clear hi)) | (go_at_call 61; (with_reducible refine (exchange_Chosen.calls kj13 _ _ t838 t853 _ ?side1 ?side2 A25.out).mono ?_); (case side1 => exact zd_ (Kd.N_reads' HO_5.out).2.2); (case side2 => exact (Kd.N_reads' HO_5.out).2.1); rintro e w97 ⟨rfl, hb⟩; have n0_ := Aside0.mk (Kd.N_below (zn_ HO_5) hb); have n1_ := Aside0.mk (Kd.R_below (zr_ HO_6) hb); have n2_ := Aside0.mk (Kd.N_below (zn_ HO_7) hb); have n3_ := Aside0.mk (below_step zb_ hb); clear HO_5; clear HO_6; clear HO_7; clear HB; have HO_5 := n0_; have HO_6 := n1_; have HO_7 := n2_; have HB := n3_; clear n0_ n1_ n2_ n3_; (try clear hb); (try clear hb2); (try clear hk); (try clear hi)))
        go_ret
        exact ⟨by first | rfl | (simp [errW_none, errW_some] <;> rfl) | (simp [*, errW_none, errW_some] <;> rfl), by repeat (first | (with_reducible first | exact HB.out | apply below_alloc | apply pw_below_drewN | apply below_drew1) | exact HB.out)⟩
      ·
       rw [if_neg c24] at H
       have c24b0 : (t849 == t851 && (t850 == t852)) = false := by simpa using c24
       (try (have c24b1 : decide (t849 = t851 && (t850 == t852)) = false := by simpa using c24))
       (try (have c24b2 : (t849 == t851 && (t850 == t852)) = false := by simpa using c24))
       (try (have c24b3 : ¬ (t849 = t851 && (t850 == t852)) := by simpa using c24))
       clear c24
       obtain rfl := Option.some.inj H
       obtain ⟨Ao98, co98, eo98⟩ := Kd.N_slice HO_5.out
       subst eo98
       go_wp2_with (first | ((with_reducible refine gate_callee (f := 59) rfl ?_); refine goesL_ (some 35) rfl rfl Try.func59 (by kernel_rfl) rfl #[.slice Ao98 t838.length co98] rfl za_ ?_; (with_reducible refine (exchange_High.calls kj13 _ _ t838 t849 t850 _ ?side1 ?side2 A22.out).mono ?_); (case side1 => exact zd_ (Kd.N_reads' HO_5.out).2.2); (case side2 => exact (Kd.N_reads' HO_5.out).2.1); rintro e w99 ⟨rfl, hb⟩; refine ⟨_, rfl, ?_⟩; have n0_ := Aside0.mk (Kd.N_below (zn_ HO_5) hb); have n1_ := Aside0.mk (Kd.R_below (zr_ HO_6) hb); have n2_ := Aside0.mk (Kd.N_below (zn_ HO_7) hb); have n3_ := Aside0.mk (below_step zb_ hb); clear HO_5; clear HO_6; clear HO_7; clear HB; have HO_5 := n0_; have HO_6 := n1_; have HO_7 := n2_; have HB := n3_; clear n0_ n1_ n2_ n3_; (try clear hb); (try clear hb2); (try clear hk); (try clear hi)) | ((with_reducible refine gate_callee (f := 60) rfl ?_); refine goesL_ (some 37) rfl rfl Try.func60 (by kernel_rfl) rfl #[.slice Ao17 t844.length co17] rfl za_ ?_; (with_reducible refine (folkmootref16_High.calls kj13 _ _ t844 t851 t852 _ ?side1 ?side2 A23.out).mono ?_); (case side1 => exact zd_ (Kd.N_reads' HO_7.out).2.2); (case side2 => exact (Kd.N_reads' HO_7.out).2.1); rintro e w100 ⟨rfl, hb⟩; refine ⟨_, rfl, ?_⟩; have n0_ := Aside0.mk (Kd.N_below (zn_ HO_5) hb); have n1_ := Aside0.mk (Kd.R_below (zr_ HO_6) hb); have n2_ := Aside0.mk (Kd.N_below (zn_ HO_7) hb); have n3_ := Aside0.mk (below_step zb_ hb); clear HO_5; clear HO_6; clear HO_7; clear HB; have HO_5 := n0_; have HO_6 := n1_; have HO_7 := n2_; have HB := n3_; clear n0_ n1_ n2_ n3_; (try clear hb); (try clear hb2); (try clear hk); (try clear hi)))
       go_ret
       exact ⟨by first | rfl | (simp [errW_none, errW_some] <;> rfl) | (simp [*, errW_none, errW_some] <;> rfl), by repeat (first | (with_reducible first | exact HB.out | apply below_alloc | apply pw_below_drewN | apply below_drew1) | exact HB.out)⟩
end Go.Proofs.Ytioooiflpabngaa.PAll
end
section
namespace Go.Proofs.Ytioooiflpabngaa.PAll
open Go.RowKit Go.Proofs.YtioooiflpabngaaW.PrintWords Go.Proofs.YtioooiflpabngaaW.PrintMore
set_option linter.unusedVariables false
set_option linter.unusedSimpArgs false
theorem plays_last (T : List S87) (h : Fine T) : Ev (fun k => folkmootlaw16_ExchangePlays.j1 k T (T.map (·.f0)) (T.map (·.f1)) (chosenT T)) true := by
  have e1 : (T.map (·.f1)).map (fun t => t.f3) = T.map fun t => t.f1.f3 := by rw [List.map_map]; rfl
  have e2 : (T.map (·.f1)).map (fun t => t.f2) = T.map fun t => t.f1.f2 := by rw [List.map_map]; rfl
  have hh := refHigh_ev (T.map (·.f1)) (by rw [List.length_map]; exact h.lt)
  have hx := refNext_ev (T.map (·.f1)) (by rw [List.length_map]; exact h.lt)
  rw [e1] at hh
  rw [e2] at hx
  have h1 := h.shortLen
  have h2 := h.knownLen
  have h3 := h.fullLen
  refine Ev.step (fun k => by rw [folkmootlaw16_ExchangePlays.j1]) (Ev.bind (high_ev T h.lt) (Ev.bind hh ?_))
  simp only [beq_self_eq_true, Bool.and_self, if_true]
  refine Ev.bind (chosen_ev T h.lt) ?_
  simp only [if_true]
  refine Ev.bind h.short (Ev.bind h.refShort (Ev.bind (sameL_ev _ (by omega)) ?_))
  simp only [if_true]
  refine Ev.bind h.known (Ev.bind h.refKnown (Ev.bind (same_ev _ (by omega)) ?_))
  simp only [if_true]
  refine Ev.bind h.full (Ev.bind h.refFull (Ev.bind (sameL_ev _ (by omega)) ?_))
  simp only [if_true]
  exact Ev.bind (next_ev T h.lt) (Ev.bind hx (Ev.const fun _ => by simp))
theorem pure_ExchangePlays (l0 : List S53) (a1 : Int) (h0 : l0.length * 72 ≤ reachBytes ∧ ∀ x ∈ l0, rightS x) (h1 : (Lit.int .u8 a1).wf = true) :
    ∃ k, folkmootlaw16_ExchangePlays.f k l0 a1 = some true := by
  refine Ev.get ?_
  unfold folkmootlaw16_ExchangePlays.f
  refine exch_start (j0 := fun k b => folkmootlaw16_ExchangePlays.j0 k l0 a1 b) l0 (summaries_len h0.1) h0.2 (Ev.step (fun k => by rw [folkmootlaw16_ExchangePlays.j0, if_pos rfl]) (Ev.bind awake16_ev (Ev.const fun _ => rfl))) fun hn ht => ?_
  obtain ⟨a, rfl, ha⟩ := u8_nat h1
  have hf := told_fine (a := a) h0.2 hn ht
  refine Ev.step (fun k => by rw [folkmootlaw16_ExchangePlays.j0, if_neg (by simp)]) (Ev.bind (told_ev l0 a ha hn (con_few ht)) ?_)
  obtain ⟨r, hr, hc⟩ := refChosen_ev (toldT l0 a) hf.lt hf.node
  refine Ev.bind hr ?_
  rcases hc with ⟨rfl, hc⟩ | ⟨j, hj, rfl, hc⟩
  · simp only [show ¬ ((-1 : Int) ≥ 0) by omega, if_false]
    have := plays_last _ hf
    rwa [hc] at this
  · have c1 : ((j : Nat) : Int) ≥ 0 := by omega
    have c2 : (0 : Int) ≤ ((j : Nat) : Int) := by omega
    have c3 : ((j : Nat) : Int) < (((toldT l0 a).map (·.f0)).length : Int) := by rw [List.length_map]; omega
    simp only [c1, c2, c3, if_true]
    rw [rdI_nat (by rw [List.length_map]; exact hj), List.getElem_map, hc]
    exact plays_last _ hf
end Go.Proofs.Ytioooiflpabngaa.PAll
end
section
namespace Go.Proofs.Ytioooiflpabngaa
theorem head_signs : Try.prog.initOrder.toList = [104, 97, 114, 110, 101, 115, 115, 32, 98, 100, 54, 52, 55, 100, 48, 52, 56, 99, 56, 57, 55, 50, 49, 57, 98, 52, 100, 49, 52, 51, 55, 98, 57, 48, 102, 102, 48, 56, 49, 50, 49, 53, 100, 52, 49, 53, 51, 54, 99, 100, 49, 54, 52, 54, 49, 100, 52, 97, 49, 97, 54, 54, 102, 52, 101, 56, 53, 55, 97, 101, 50, 55, 32, 99, 117, 116, 32, 97, 116, 32, 102, 111, 108, 107, 109, 111, 111, 116, 47, 102, 111, 108, 107, 109, 111, 111, 116, 108, 97, 119, 49, 53, 46, 67, 111, 110, 116, 101, 110, 116, 70, 105, 110, 100, 115, 32, 102, 111, 108, 107, 109, 111, 111, 116, 47, 102, 111, 108, 107, 109, 111, 111, 116, 108, 97, 119, 49, 53, 46, 67, 111, 110, 116, 101, 110, 116, 75, 101, 101, 112, 115, 32, 102, 111, 108, 107, 109, 111, 111, 116, 47, 102, 111, 108, 107, 109, 111, 111, 116, 108, 97, 119, 49, 53, 46, 67, 111, 110, 116, 101, 110, 116, 77, 101, 114, 103, 101, 115, 32, 102, 111, 108, 107, 109, 111, 111, 116, 47, 102, 111, 108, 107, 109, 111, 111, 116, 108, 97, 119, 49, 53, 46, 67, 111, 110, 116, 101, 110, 116, 79, 114, 100, 101, 114, 32, 102, 111, 108, 107, 109, 111, 111, 116, 47, 102, 111, 108, 107, 109, 111, 111, 116, 108, 97, 119, 48, 53, 46, 76, 97, 98, 101, 108, 75, 101, 101, 112, 115, 32, 102, 111, 108, 107, 109, 111, 111, 116, 47, 102, 111, 108, 107, 109, 111, 111, 116, 108, 97, 119, 48, 53, 46, 76, 97, 98, 101, 108, 80, 97, 114, 116, 115, 32, 102, 111, 108, 107, 109, 111, 111, 116, 47, 102, 111, 108, 107, 109, 111, 111, 116, 108, 97, 119, 48, 53, 46, 76, 97, 98, 101, 108, 83, 111, 114, 116, 115, 32, 102, 111, 108, 107, 109, 111, 111, 116, 47, 102, 111, 108, 107, 109, 111, 111, 116, 108, 97, 119, 48, 53, 46, 76, 97, 98, 101, 108, 66, 101, 104, 105, 110, 100, 32, 102, 111, 108, 107, 109, 111, 111, 116, 47, 102, 111, 108, 107, 109, 111, 111, 116, 108, 97, 119, 48, 53, 46, 76, 97, 98, 101, 108, 79, 114, 100, 101, 114, 32, 102, 111, 108, 107, 109, 111, 111, 116, 47, 102, 111, 108, 107, 109, 111, 111, 116, 108, 97, 119, 49, 53, 46, 67, 111, 110, 116, 101, 110, 116, 65, 112, 97, 114, 116, 32, 102, 111, 108, 107, 109, 111, 111, 116, 47, 102, 111, 108, 107, 109, 111, 111, 116, 108, 97, 119, 49, 53, 46, 67, 111, 110, 116, 101, 110, 116, 79, 110, 101, 32, 102, 111, 108, 107, 109, 111, 111, 116, 47, 102, 111, 108, 107, 109, 111, 111, 116, 108, 97, 119, 49, 53, 46, 67, 111, 110, 116, 101, 110, 116, 82, 101, 97, 100, 115, 32, 102, 111, 108, 107, 109, 111, 111, 116, 47, 102, 111, 108, 107, 109, 111, 111, 116, 108, 97, 119, 49, 53, 46, 67, 111, 110, 116, 101, 110, 116, 65, 108, 108, 32, 102, 111, 108, 107, 109, 111, 111, 116, 47, 102, 111, 108, 107, 109, 111, 111, 116, 108, 97, 119, 49, 54, 46, 69, 120, 99, 104, 97, 110, 103, 101, 80, 108, 97, 121, 115, 32, 102, 111, 108, 107, 109, 111, 111, 116, 47, 102, 111, 108, 107, 109, 111, 111, 116, 108, 97, 119, 49, 54, 46, 69, 120, 99, 104, 97, 110, 103, 101, 84, 117, 114, 110, 101, 100, 32, 102, 111, 108, 107, 109, 111, 111, 116, 47, 102, 111, 108, 107, 109, 111, 111, 116, 108, 97, 119, 49, 54, 46, 69, 120, 99, 104, 97, 110, 103, 101, 70, 117, 108, 108, 32, 102, 111, 108, 107, 109, 111, 111, 116, 47, 102, 111, 108, 107, 109, 111, 111, 116, 108, 97, 119, 49, 54, 46, 69, 120, 99, 104, 97, 110, 103, 101, 75, 101, 101, 112, 115, 32, 102, 111, 108, 107, 109, 111, 111, 116, 47, 102, 111, 108, 107, 109, 111, 111, 116, 108, 97, 119, 49, 54, 46, 69, 120, 99, 104, 97, 110, 103, 101, 79, 110, 101, 32, 102, 111, 108, 107, 109, 111, 111, 116, 47, 102, 111, 108, 107, 109, 111, 111, 116, 108, 97, 119, 49, 54, 46, 69, 120, 99, 104, 97, 110, 103, 101, 77, 111, 114, 101].map Char.ofNat := by
  have h : Try.prog.initOrder = String.ofList ([104, 97, 114, 110, 101, 115, 115, 32, 98, 100, 54, 52, 55, 100, 48, 52, 56, 99, 56, 57, 55, 50, 49, 57, 98, 52, 100, 49, 52, 51, 55, 98, 57, 48, 102, 102, 48, 56, 49, 50, 49, 53, 100, 52, 49, 53, 51, 54, 99, 100, 49, 54, 52, 54, 49, 100, 52, 97, 49, 97, 54, 54, 102, 52, 101, 56, 53, 55, 97, 101, 50, 55, 32, 99, 117, 116, 32, 97, 116, 32, 102, 111, 108, 107, 109, 111, 111, 116, 47, 102, 111, 108, 107, 109, 111, 111, 116, 108, 97, 119, 49, 53, 46, 67, 111, 110, 116, 101, 110, 116, 70, 105, 110, 100, 115, 32, 102, 111, 108, 107, 109, 111, 111, 116, 47, 102, 111, 108, 107, 109, 111, 111, 116, 108, 97, 119, 49, 53, 46, 67, 111, 110, 116, 101, 110, 116, 75, 101, 101, 112, 115, 32, 102, 111, 108, 107, 109, 111, 111, 116, 47, 102, 111, 108, 107, 109, 111, 111, 116, 108, 97, 119, 49, 53, 46, 67, 111, 110, 116, 101, 110, 116, 77, 101, 114, 103, 101, 115, 32, 102, 111, 108, 107, 109, 111, 111, 116, 47, 102, 111, 108, 107, 109, 111, 111, 116, 108, 97, 119, 49, 53, 46, 67, 111, 110, 116, 101, 110, 116, 79, 114, 100, 101, 114, 32, 102, 111, 108, 107, 109, 111, 111, 116, 47, 102, 111, 108, 107, 109, 111, 111, 116, 108, 97, 119, 48, 53, 46, 76, 97, 98, 101, 108, 75, 101, 101, 112, 115, 32, 102, 111, 108, 107, 109, 111, 111, 116, 47, 102, 111, 108, 107, 109, 111, 111, 116, 108, 97, 119, 48, 53, 46, 76, 97, 98, 101, 108, 80, 97, 114, 116, 115, 32, 102, 111, 108, 107, 109, 111, 111, 116, 47, 102, 111, 108, 107, 109, 111, 111, 116, 108, 97, 119, 48, 53, 46, 76, 97, 98, 101, 108, 83, 111, 114, 116, 115, 32, 102, 111, 108, 107, 109, 111, 111, 116, 47, 102, 111, 108, 107, 109, 111, 111, 116, 108, 97, 119, 48, 53, 46, 76, 97, 98, 101, 108, 66, 101, 104, 105, 110, 100, 32, 102, 111, 108, 107, 109, 111, 111, 116, 47, 102, 111, 108, 107, 109, 111, 111, 116, 108, 97, 119, 48, 53, 46, 76, 97, 98, 101, 108, 79, 114, 100, 101, 114, 32, 102, 111, 108, 107, 109, 111, 111, 116, 47, 102, 111, 108, 107, 109, 111, 111, 116, 108, 97, 119, 49, 53, 46, 67, 111, 110, 116, 101, 110, 116, 65, 112, 97, 114, 116, 32, 102, 111, 108, 107, 109, 111, 111, 116, 47, 102, 111, 108, 107, 109, 111, 111, 116, 108, 97, 119, 49, 53, 46, 67, 111, 110, 116, 101, 110, 116, 79, 110, 101, 32, 102, 111, 108, 107, 109, 111, 111, 116, 47, 102, 111, 108, 107, 109, 111, 111, 116, 108, 97, 119, 49, 53, 46, 67, 111, 110, 116, 101, 110, 116, 82, 101, 97, 100, 115, 32, 102, 111, 108, 107, 109, 111, 111, 116, 47, 102, 111, 108, 107, 109, 111, 111, 116, 108, 97, 119, 49, 53, 46, 67, 111, 110, 116, 101, 110, 116, 65, 108, 108, 32, 102, 111, 108, 107, 109, 111, 111, 116, 47, 102, 111, 108, 107, 109, 111, 111, 116, 108, 97, 119, 49, 54, 46, 69, 120, 99, 104, 97, 110, 103, 101, 80, 108, 97, 121, 115, 32, 102, 111, 108, 107, 109, 111, 111, 116, 47, 102, 111, 108, 107, 109, 111, 111, 116, 108, 97, 119, 49, 54, 46, 69, 120, 99, 104, 97, 110, 103, 101, 84, 117, 114, 110, 101, 100, 32, 102, 111, 108, 107, 109, 111, 111, 116, 47, 102, 111, 108, 107, 109, 111, 111, 116, 108, 97, 119, 49, 54, 46, 69, 120, 99, 104, 97, 110, 103, 101, 70, 117, 108, 108, 32, 102, 111, 108, 107, 109, 111, 111, 116, 47, 102, 111, 108, 107, 109, 111, 111, 116, 108, 97, 119, 49, 54, 46, 69, 120, 99, 104, 97, 110, 103, 101, 75, 101, 101, 112, 115, 32, 102, 111, 108, 107, 109, 111, 111, 116, 47, 102, 111, 108, 107, 109, 111, 111, 116, 108, 97, 119, 49, 54, 46, 69, 120, 99, 104, 97, 110, 103, 101, 79, 110, 101, 32, 102, 111, 108, 107, 109, 111, 111, 116, 47, 102, 111, 108, 107, 109, 111, 111, 116, 108, 97, 119, 49, 54, 46, 69, 120, 99, 104, 97, 110, 103, 101, 77, 111, 114, 101].map Char.ofNat) := by kernel_rfl
  rw [h, String.toList_ofList]
theorem head_words : wordsSigns ([104, 97, 114, 110, 101, 115, 115, 32, 98, 100, 54, 52, 55, 100, 48, 52, 56, 99, 56, 57, 55, 50, 49, 57, 98, 52, 100, 49, 52, 51, 55, 98, 57, 48, 102, 102, 48, 56, 49, 50, 49, 53, 100, 52, 49, 53, 51, 54, 99, 100, 49, 54, 52, 54, 49, 100, 52, 97, 49, 97, 54, 54, 102, 52, 101, 56, 53, 55, 97, 101, 50, 55, 32, 99, 117, 116, 32, 97, 116, 32, 102, 111, 108, 107, 109, 111, 111, 116, 47, 102, 111, 108, 107, 109, 111, 111, 116, 108, 97, 119, 49, 53, 46, 67, 111, 110, 116, 101, 110, 116, 70, 105, 110, 100, 115, 32, 102, 111, 108, 107, 109, 111, 111, 116, 47, 102, 111, 108, 107, 109, 111, 111, 116, 108, 97, 119, 49, 53, 46, 67, 111, 110, 116, 101, 110, 116, 75, 101, 101, 112, 115, 32, 102, 111, 108, 107, 109, 111, 111, 116, 47, 102, 111, 108, 107, 109, 111, 111, 116, 108, 97, 119, 49, 53, 46, 67, 111, 110, 116, 101, 110, 116, 77, 101, 114, 103, 101, 115, 32, 102, 111, 108, 107, 109, 111, 111, 116, 47, 102, 111, 108, 107, 109, 111, 111, 116, 108, 97, 119, 49, 53, 46, 67, 111, 110, 116, 101, 110, 116, 79, 114, 100, 101, 114, 32, 102, 111, 108, 107, 109, 111, 111, 116, 47, 102, 111, 108, 107, 109, 111, 111, 116, 108, 97, 119, 48, 53, 46, 76, 97, 98, 101, 108, 75, 101, 101, 112, 115, 32, 102, 111, 108, 107, 109, 111, 111, 116, 47, 102, 111, 108, 107, 109, 111, 111, 116, 108, 97, 119, 48, 53, 46, 76, 97, 98, 101, 108, 80, 97, 114, 116, 115, 32, 102, 111, 108, 107, 109, 111, 111, 116, 47, 102, 111, 108, 107, 109, 111, 111, 116, 108, 97, 119, 48, 53, 46, 76, 97, 98, 101, 108, 83, 111, 114, 116, 115, 32, 102, 111, 108, 107, 109, 111, 111, 116, 47, 102, 111, 108, 107, 109, 111, 111, 116, 108, 97, 119, 48, 53, 46, 76, 97, 98, 101, 108, 66, 101, 104, 105, 110, 100, 32, 102, 111, 108, 107, 109, 111, 111, 116, 47, 102, 111, 108, 107, 109, 111, 111, 116, 108, 97, 119, 48, 53, 46, 76, 97, 98, 101, 108, 79, 114, 100, 101, 114, 32, 102, 111, 108, 107, 109, 111, 111, 116, 47, 102, 111, 108, 107, 109, 111, 111, 116, 108, 97, 119, 49, 53, 46, 67, 111, 110, 116, 101, 110, 116, 65, 112, 97, 114, 116, 32, 102, 111, 108, 107, 109, 111, 111, 116, 47, 102, 111, 108, 107, 109, 111, 111, 116, 108, 97, 119, 49, 53, 46, 67, 111, 110, 116, 101, 110, 116, 79, 110, 101, 32, 102, 111, 108, 107, 109, 111, 111, 116, 47, 102, 111, 108, 107, 109, 111, 111, 116, 108, 97, 119, 49, 53, 46, 67, 111, 110, 116, 101, 110, 116, 82, 101, 97, 100, 115, 32, 102, 111, 108, 107, 109, 111, 111, 116, 47, 102, 111, 108, 107, 109, 111, 111, 116, 108, 97, 119, 49, 53, 46, 67, 111, 110, 116, 101, 110, 116, 65, 108, 108, 32, 102, 111, 108, 107, 109, 111, 111, 116, 47, 102, 111, 108, 107, 109, 111, 111, 116, 108, 97, 119, 49, 54, 46, 69, 120, 99, 104, 97, 110, 103, 101, 80, 108, 97, 121, 115, 32, 102, 111, 108, 107, 109, 111, 111, 116, 47, 102, 111, 108, 107, 109, 111, 111, 116, 108, 97, 119, 49, 54, 46, 69, 120, 99, 104, 97, 110, 103, 101, 84, 117, 114, 110, 101, 100, 32, 102, 111, 108, 107, 109, 111, 111, 116, 47, 102, 111, 108, 107, 109, 111, 111, 116, 108, 97, 119, 49, 54, 46, 69, 120, 99, 104, 97, 110, 103, 101, 70, 117, 108, 108, 32, 102, 111, 108, 107, 109, 111, 111, 116, 47, 102, 111, 108, 107, 109, 111, 111, 116, 108, 97, 119, 49, 54, 46, 69, 120, 99, 104, 97, 110, 103, 101, 75, 101, 101, 112, 115, 32, 102, 111, 108, 107, 109, 111, 111, 116, 47, 102, 111, 108, 107, 109, 111, 111, 116, 108, 97, 119, 49, 54, 46, 69, 120, 99, 104, 97, 110, 103, 101, 79, 110, 101, 32, 102, 111, 108, 107, 109, 111, 111, 116, 47, 102, 111, 108, 107, 109, 111, 111, 116, 108, 97, 119, 49, 54, 46, 69, 120, 99, 104, 97, 110, 103, 101, 77, 111, 114, 101].map Char.ofNat) = [[104, 97, 114, 110, 101, 115, 115], [98, 100, 54, 52, 55, 100, 48, 52, 56, 99, 56, 57, 55, 50, 49, 57, 98, 52, 100, 49, 52, 51, 55, 98, 57, 48, 102, 102, 48, 56, 49, 50, 49, 53, 100, 52, 49, 53, 51, 54, 99, 100, 49, 54, 52, 54, 49, 100, 52, 97, 49, 97, 54, 54, 102, 52, 101, 56, 53, 55, 97, 101, 50, 55], [99, 117, 116], [97, 116], [102, 111, 108, 107, 109, 111, 111, 116, 47, 102, 111, 108, 107, 109, 111, 111, 116, 108, 97, 119, 49, 53, 46, 67, 111, 110, 116, 101, 110, 116, 70, 105, 110, 100, 115], [102, 111, 108, 107, 109, 111, 111, 116, 47, 102, 111, 108, 107, 109, 111, 111, 116, 108, 97, 119, 49, 53, 46, 67, 111, 110, 116, 101, 110, 116, 75, 101, 101, 112, 115], [102, 111, 108, 107, 109, 111, 111, 116, 47, 102, 111, 108, 107, 109, 111, 111, 116, 108, 97, 119, 49, 53, 46, 67, 111, 110, 116, 101, 110, 116, 77, 101, 114, 103, 101, 115], [102, 111, 108, 107, 109, 111, 111, 116, 47, 102, 111, 108, 107, 109, 111, 111, 116, 108, 97, 119, 49, 53, 46, 67, 111, 110, 116, 101, 110, 116, 79, 114, 100, 101, 114], [102, 111, 108, 107, 109, 111, 111, 116, 47, 102, 111, 108, 107, 109, 111, 111, 116, 108, 97, 119, 48, 53, 46, 76, 97, 98, 101, 108, 75, 101, 101, 112, 115], [102, 111, 108, 107, 109, 111, 111, 116, 47, 102, 111, 108, 107, 109, 111, 111, 116, 108, 97, 119, 48, 53, 46, 76, 97, 98, 101, 108, 80, 97, 114, 116, 115], [102, 111, 108, 107, 109, 111, 111, 116, 47, 102, 111, 108, 107, 109, 111, 111, 116, 108, 97, 119, 48, 53, 46, 76, 97, 98, 101, 108, 83, 111, 114, 116, 115], [102, 111, 108, 107, 109, 111, 111, 116, 47, 102, 111, 108, 107, 109, 111, 111, 116, 108, 97, 119, 48, 53, 46, 76, 97, 98, 101, 108, 66, 101, 104, 105, 110, 100], [102, 111, 108, 107, 109, 111, 111, 116, 47, 102, 111, 108, 107, 109, 111, 111, 116, 108, 97, 119, 48, 53, 46, 76, 97, 98, 101, 108, 79, 114, 100, 101, 114], [102, 111, 108, 107, 109, 111, 111, 116, 47, 102, 111, 108, 107, 109, 111, 111, 116, 108, 97, 119, 49, 53, 46, 67, 111, 110, 116, 101, 110, 116, 65, 112, 97, 114, 116], [102, 111, 108, 107, 109, 111, 111, 116, 47, 102, 111, 108, 107, 109, 111, 111, 116, 108, 97, 119, 49, 53, 46, 67, 111, 110, 116, 101, 110, 116, 79, 110, 101], [102, 111, 108, 107, 109, 111, 111, 116, 47, 102, 111, 108, 107, 109, 111, 111, 116, 108, 97, 119, 49, 53, 46, 67, 111, 110, 116, 101, 110, 116, 82, 101, 97, 100, 115], [102, 111, 108, 107, 109, 111, 111, 116, 47, 102, 111, 108, 107, 109, 111, 111, 116, 108, 97, 119, 49, 53, 46, 67, 111, 110, 116, 101, 110, 116, 65, 108, 108], [102, 111, 108, 107, 109, 111, 111, 116, 47, 102, 111, 108, 107, 109, 111, 111, 116, 108, 97, 119, 49, 54, 46, 69, 120, 99, 104, 97, 110, 103, 101, 80, 108, 97, 121, 115], [102, 111, 108, 107, 109, 111, 111, 116, 47, 102, 111, 108, 107, 109, 111, 111, 116, 108, 97, 119, 49, 54, 46, 69, 120, 99, 104, 97, 110, 103, 101, 84, 117, 114, 110, 101, 100], [102, 111, 108, 107, 109, 111, 111, 116, 47, 102, 111, 108, 107, 109, 111, 111, 116, 108, 97, 119, 49, 54, 46, 69, 120, 99, 104, 97, 110, 103, 101, 70, 117, 108, 108], [102, 111, 108, 107, 109, 111, 111, 116, 47, 102, 111, 108, 107, 109, 111, 111, 116, 108, 97, 119, 49, 54, 46, 69, 120, 99, 104, 97, 110, 103, 101, 75, 101, 101, 112, 115], [102, 111, 108, 107, 109, 111, 111, 116, 47, 102, 111, 108, 107, 109, 111, 111, 116, 108, 97, 119, 49, 54, 46, 69, 120, 99, 104, 97, 110, 103, 101, 79, 110, 101], [102, 111, 108, 107, 109, 111, 111, 116, 47, 102, 111, 108, 107, 109, 111, 111, 116, 108, 97, 119, 49, 54, 46, 69, 120, 99, 104, 97, 110, 103, 101, 77, 111, 114, 101]].map (List.map Char.ofNat) := by kernel_rfl
theorem head_behind : ∃ rest, behindMainWord (wordsSigns Try.prog.initOrder.toList) = [99, 117, 116].map Char.ofNat :: rest := by
  rw [head_signs, head_words]
  exact ⟨[[99, 117, 116], [97, 116], [102, 111, 108, 107, 109, 111, 111, 116, 47, 102, 111, 108, 107, 109, 111, 111, 116, 108, 97, 119, 49, 53, 46, 67, 111, 110, 116, 101, 110, 116, 70, 105, 110, 100, 115], [102, 111, 108, 107, 109, 111, 111, 116, 47, 102, 111, 108, 107, 109, 111, 111, 116, 108, 97, 119, 49, 53, 46, 67, 111, 110, 116, 101, 110, 116, 75, 101, 101, 112, 115], [102, 111, 108, 107, 109, 111, 111, 116, 47, 102, 111, 108, 107, 109, 111, 111, 116, 108, 97, 119, 49, 53, 46, 67, 111, 110, 116, 101, 110, 116, 77, 101, 114, 103, 101, 115], [102, 111, 108, 107, 109, 111, 111, 116, 47, 102, 111, 108, 107, 109, 111, 111, 116, 108, 97, 119, 49, 53, 46, 67, 111, 110, 116, 101, 110, 116, 79, 114, 100, 101, 114], [102, 111, 108, 107, 109, 111, 111, 116, 47, 102, 111, 108, 107, 109, 111, 111, 116, 108, 97, 119, 48, 53, 46, 76, 97, 98, 101, 108, 75, 101, 101, 112, 115], [102, 111, 108, 107, 109, 111, 111, 116, 47, 102, 111, 108, 107, 109, 111, 111, 116, 108, 97, 119, 48, 53, 46, 76, 97, 98, 101, 108, 80, 97, 114, 116, 115], [102, 111, 108, 107, 109, 111, 111, 116, 47, 102, 111, 108, 107, 109, 111, 111, 116, 108, 97, 119, 48, 53, 46, 76, 97, 98, 101, 108, 83, 111, 114, 116, 115], [102, 111, 108, 107, 109, 111, 111, 116, 47, 102, 111, 108, 107, 109, 111, 111, 116, 108, 97, 119, 48, 53, 46, 76, 97, 98, 101, 108, 66, 101, 104, 105, 110, 100], [102, 111, 108, 107, 109, 111, 111, 116, 47, 102, 111, 108, 107, 109, 111, 111, 116, 108, 97, 119, 48, 53, 46, 76, 97, 98, 101, 108, 79, 114, 100, 101, 114], [102, 111, 108, 107, 109, 111, 111, 116, 47, 102, 111, 108, 107, 109, 111, 111, 116, 108, 97, 119, 49, 53, 46, 67, 111, 110, 116, 101, 110, 116, 65, 112, 97, 114, 116], [102, 111, 108, 107, 109, 111, 111, 116, 47, 102, 111, 108, 107, 109, 111, 111, 116, 108, 97, 119, 49, 53, 46, 67, 111, 110, 116, 101, 110, 116, 79, 110, 101], [102, 111, 108, 107, 109, 111, 111, 116, 47, 102, 111, 108, 107, 109, 111, 111, 116, 108, 97, 119, 49, 53, 46, 67, 111, 110, 116, 101, 110, 116, 82, 101, 97, 100, 115], [102, 111, 108, 107, 109, 111, 111, 116, 47, 102, 111, 108, 107, 109, 111, 111, 116, 108, 97, 119, 49, 53, 46, 67, 111, 110, 116, 101, 110, 116, 65, 108, 108], [102, 111, 108, 107, 109, 111, 111, 116, 47, 102, 111, 108, 107, 109, 111, 111, 116, 108, 97, 119, 49, 54, 46, 69, 120, 99, 104, 97, 110, 103, 101, 80, 108, 97, 121, 115], [102, 111, 108, 107, 109, 111, 111, 116, 47, 102, 111, 108, 107, 109, 111, 111, 116, 108, 97, 119, 49, 54, 46, 69, 120, 99, 104, 97, 110, 103, 101, 84, 117, 114, 110, 101, 100], [102, 111, 108, 107, 109, 111, 111, 116, 47, 102, 111, 108, 107, 109, 111, 111, 116, 108, 97, 119, 49, 54, 46, 69, 120, 99, 104, 97, 110, 103, 101, 70, 117, 108, 108], [102, 111, 108, 107, 109, 111, 111, 116, 47, 102, 111, 108, 107, 109, 111, 111, 116, 108, 97, 119, 49, 54, 46, 69, 120, 99, 104, 97, 110, 103, 101, 75, 101, 101, 112, 115], [102, 111, 108, 107, 109, 111, 111, 116, 47, 102, 111, 108, 107, 109, 111, 111, 116, 108, 97, 119, 49, 54, 46, 69, 120, 99, 104, 97, 110, 103, 101, 79, 110, 101], [102, 111, 108, 107, 109, 111, 111, 116, 47, 102, 111, 108, 107, 109, 111, 111, 116, 108, 97, 119, 49, 54, 46, 69, 120, 99, 104, 97, 110, 103, 101, 77, 111, 114, 101]].tail.map (List.map Char.ofNat), by kernel_rfl⟩
theorem cut_gc : (([99, 117, 116].map Char.ofNat) == "gc".toList) = false := by kernel_rfl
theorem cut_spec : (([99, 117, 116].map Char.ofNat) == "spec".toList) = false := by kernel_rfl
theorem cut_carried : (([99, 117, 116].map Char.ofNat) == "carried".toList) = false := by kernel_rfl
theorem cut_cut : (([99, 117, 116].map Char.ofNat) == "cut".toList) = true := by kernel_rfl
theorem cut_some (rest : List (List Char)) : ((([99, 117, 116].map Char.ofNat) :: rest).head? == some "cut".toList) = true := cut_cut
theorem cut_strip (rest : List (List Char)) : stripLifts liftWords (([99, 117, 116].map Char.ofNat) :: rest) = ([], ([99, 117, 116].map Char.ofNat) :: rest) := by
  simp only [liftWords, stripLifts]
  rfl
theorem make_of {P : Program} {rest : List (List Char)} (h : behindMainWord (wordsSigns P.initOrder.toList) = [99, 117, 116].map Char.ofNat :: rest) : P.make = some .cut := by
  unfold Program.make
  rw [h]
  simp only [cut_gc, cut_spec, cut_cut, Bool.or_false, Bool.true_or, Bool.false_eq_true, if_false, if_true]
theorem lifts_of {P : Program} {rest : List (List Char)} (h : behindMainWord (wordsSigns P.initOrder.toList) = [99, 117, 116].map Char.ofNat :: rest) : P.liftsFinal = false := by
  unfold Program.liftsFinal Program.headLifts
  rw [h]
  simp only [cut_strip, List.head?_cons]
  show ((([99, 117, 116].map Char.ofNat) == "carried".toList) && _ || _) = false
  rw [cut_carried]
  kernel_rfl
theorem enter_of {P : Program} {rest : List (List Char)} (h : behindMainWord (wordsSigns P.initOrder.toList) = [99, 117, 116].map Char.ofNat :: rest) (h1 : P.laysLater = false) (h2 : P.bearsReflect = false) (h3 : P.doorFits [] = true) : P.mayEnter = true := by
  unfold Program.mayEnter
  rw [h]
  simp only [cut_strip, cut_some, cut_gc, cut_spec, cut_carried, h1, h2, h3, Bool.not_false, Bool.or_true, Bool.and_true, Bool.or_false, Bool.false_and, List.contains_nil]
theorem head_make : Try.prog.make = some .cut := head_behind.elim fun _ h => make_of h
theorem head_lifts : Try.prog.liftsFinal = false := head_behind.elim fun _ h => lifts_of h
theorem head_enter : Try.prog.mayEnter = true := head_behind.elim fun _ h => enter_of h (by kernel_rfl) (by kernel_rfl) (by kernel_rfl)
end Go.Proofs.Ytioooiflpabngaa
end
section
namespace Go.Proofs.Ytioooiflpabngaa.exchangePlays
open Go.ChangeShapes Go.WideShapes Go.ChangeAt Go.RowKit Go.Proofs.Ytioooiflpabngaa.PAll
set_option linter.unusedVariables false
theorem own : ownKnob Try.prog.godebug = none := by kernel_rfl
theorem laidOut : laidOutB Try.prog = true := by kernel_rfl
set_option maxRecDepth 100000 in
theorem lifted (os : Os) (started : os.Started) (H : Type) (enc : TypeId × Value → H) :
    ReturnsInHanded {} Try.checked os 16 .any (Rows.exchangePlaysSpec.pre6 enc Try.prog Try.f16 Rows.exchangePlaysRow.domain false) (Rows.exchangePlaysSpec.post enc Try.prog Try.f16 false true false false) := by
  refine returnsInHanded_of_change_sized (C := Try.checked) own started (by kernel_rfl) Try.func16
    (ChangeSpec.witness6 (enc := enc) (C := Try.checked) false ⟨#[], #[.slice none 0 0, .int .u8 0], []⟩ 8 (by kernel_rfl) (by kernel_rfl) (by kernel_rfl) (by kernel_rfl)) ?_
  intro W base args ds gs before hval0 hW hcnd hsz0 _
  have hsz : (DataW.weightsEach Try.prog (Try.f16.params.toList ++ Rows.exchangePlaysSpec.plain.varTypes Try.prog) (ds ++ gs)).all (· ≤ reachBytes) = true := hsz0
  have hval : ∀ (j : Nat) t v, Try.f16.params[j]? = some t → args[j]? = some v → Value.okWide Try.prog W .any base t v := hval0
  have hW' := hW
  obtain ⟨p, q, hA0, hV, rfl, hfz, hnd⟩ := hW
  have hA : DataW.TrodAll enc Try.prog W 0 (fun _ => true) true Try.f16.params.toList args.toList ds p := hA0
  rw [Try.params16] at hA hval hsz
  obtain ⟨v0, vs0, d0, ds0, p0, q0, hargs, rfl, rfl, h0, r0⟩ := trodAll_cons hA
  obtain ⟨v1, vs1, d1, ds1, p1, q1, rfl, rfl, rfl, h1, r1⟩ := trodAll_cons r0
  obtain ⟨rfl, rfl, rfl⟩ := trodAll_nil r1
  obtain rfl : args = #[v0, v1] := by cases args; simp_all
  obtain ⟨rfl, rfl⟩ := trodVars_none hV
  have z0 : ∀ n ∈ d0.weights Try.prog 69, n ≤ reachBytes := fun n hn => of_decide_eq_true (List.all_eq_true.1 hsz _ (DataW.weights_mem_each (j := 0) (t := 69) rfl rfl n hn))
  have k0 := h0
  have lt0 : ∀ x ∈ p0, x.block < W.heap.size := by obtain ⟨m, hm⟩ := k0; exact DataW.trod_lt m _ _ _ hm
  obtain ⟨a0, len0, cap0, rfl⟩ := okWide_slice Try.underlying69 (hval 0 69 v0 rfl rfl)
  obtain ⟨l0, hK0, ok0⟩ := arg_trod opensSs h0 z0
  obtain ⟨rfl, hc0, hr0⟩ := arg_slice hK0
  have z1 : ∀ n ∈ d1.weights Try.prog 5, n ≤ reachBytes := fun n hn => of_decide_eq_true (List.all_eq_true.1 hsz _ (DataW.weights_mem_each (j := 1) (t := 5) rfl rfl n hn))
  have k1 := h1
  have lt1 : ∀ x ∈ p1, x.block < W.heap.size := by obtain ⟨m, hm⟩ := k1; exact DataW.trod_lt m _ _ _ hm
  obtain ⟨a1, rfl, rfl, rfl, ok1⟩ := open_int Try.underlying5 (hval 1 5 v1 rfl rfl) h1
  clear hA0 hval0 hsz0 hsz
  obtain ⟨k, hp⟩ := pure_ExchangePlays l0 a1 ok0 ok1
  refine (folkmootlaw16_ExchangePlays.calls k _ _ l0 a1 true W hr0 hc0 hp).mono fun e W' ⟨he, bel⟩ => ?_
  subst he
  exact ⟨_, rfl, _, _, _, [], _, [], hW', trodAll_mk1 (shut_bool Try.underlying4 _), (trodAll_cons_mk (Below.trod laidOut (by kernel_rfl) (of_decide_eq_true (by kernel_rfl)) k0 bel lt0) (trodAll_cons_mk (shut_int Try.underlying5 ok1) trodAll_mk0)), rfl, bel.frame _, fun h => by cases h⟩
theorem closed : joinedFacts Try.prog 16 Try.f16 Rows.exchangePlaysSpec Rows.exchangePlaysRow = true := by
  unfold joinedFacts
  rw [head_enter, head_lifts, head_make]
  kernel_rfl
theorem over : Rows.exchangePlaysRow.holds Try.pinned (OpenSpec.ofChange Rows.exchangePlaysSpec) :=
  OpenClaim.holds_of_wide 16 Try.f16 rfl rfl rfl rfl rfl rfl rfl ⟨rfl, rfl, rfl, rfl, rfl⟩ rfl rfl rfl rfl rfl (by kernel_rfl) Try.func16 closed
    (of_decide_eq_true (by kernel_rfl)) (by unfold Func.isWrapper; first | (rw [if_pos (by decide +kernel)]; kernel_rfl) | (rw [if_neg (by decide +kernel)]; exact ⟨rfl, rfl⟩))
    (fun os started H enc _ => lifted os started H enc)
theorem proved : Rows.ExchangePlaysSaid := over
end Go.Proofs.Ytioooiflpabngaa.exchangePlays
end
