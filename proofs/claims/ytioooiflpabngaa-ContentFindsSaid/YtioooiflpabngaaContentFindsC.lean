/- Parts: PAllx10, HAwake15, PAllx25, QContentFinds, HJoined, RContentFinds. -/
import Derived.Test.YtioooiflpabngaaContentFindsA
import Derived.Test.YtioooiflpabngaaContentFindsB
import Derived.Lib.SlBytesConst
import Derived.WalkSpells
import Derived.Test.YtioooiflpabngaaRows
import Derived.ProofKit
import Derived.WalkKit
import Derived.OpenShut
import Derived.ShutString
import Derived.ChangeOld
import Derived.Below
import Derived.SizedLaws
set_option linter.unusedVariables false
set_option linter.unusedSimpArgs false
namespace Go.Proofs.Ytioooiflpabngaa.PAll
open Go.RowKit Go.Proofs.YtioooiflpabngaaW.PrintWords Go.Proofs.YtioooiflpabngaaW.PrintLast Go.Proofs.YtioooiflpabngaaW.PrintMore
attribute [local go_sem] max2_int min2_int max_two min_two max_three min_three max_four min_four   -- for this text's walks alone
set_option linter.unusedVariables false
set_option linter.unusedSimpArgs false

/-! ### content_EncodeOne: function 46 -/
def content_EncodeOne.f (k : Nat) (a0_0 : Int) (a0_1 : Int) (a0_2 : Int) (a0_3 : Int) (l0_4 : List Int) : Option (List Int × Int) := (content_Form.f a0_0 a0_1 a0_2 a0_3 l0_4).bind fun t145 => (if t145 = true then ((label_Encode.f k (([1] : List Int)) a0_0 a0_1 a0_2 a0_3).bind fun bt149 => ((code_Bytes.f k bt149.1 l0_4).bind fun t153 => (some (t153, 0)))) else (some (([] : List Int), 3)))
theorem content_EncodeOne.mono : ∀ a0 a1 a2 a3 a4 k, LeO (content_EncodeOne.f k a0 a1 a2 a3 a4) (content_EncodeOne.f (k + 1) a0 a1 a2 a3 a4) := by
  intro a0 a1 a2 a3 a4 k
  unfold content_EncodeOne.f
  repeat' first
      | (with_reducible exact code_Bytes.mono _ _ _)
      | (with_reducible exact label_Encode.mono _ _ _ _ _ _)
      | (with_reducible exact LeO.refl _)
      | (with_reducible exact LeO.none _)
      | (with_reducible refine LeO.ite ?_ ?_)
      | (with_reducible refine LeO.bind ?_ (fun _ => ?_))
      | exact code_Bytes.mono _ _ _
      | exact label_Encode.mono _ _ _ _ _ _
      | exact LeO.none _
      | refine LeO.ite ?_ ?_
      | refine LeO.bind ?_ (fun _ => ?_)
set_option maxHeartbeats 8000000 in
set_option maxRecDepth 100000 in
theorem content_EncodeOne.calls (k : Nat) (a0_0 : Int) (a0_1 : Int) (a0_2 : Int) (a0_3 : Int) (A0_4 : Option Addr) (c0_4 : Nat) (l0_4 : List Int) (r1 : List Int) (r2 : Int) (w : World) (hr0_4 : Kd.C (Kd.int .u8) w A0_4 l0_4.length l0_4) (hc0_4 : l0_4.length ≤ c0_4) (h : content_EncodeOne.f k a0_0 a0_1 a0_2 a0_3 l0_4 = some (r1, r2)) :
    Calls Try.prog 46 #[.agg #[.int .u64 a0_0, .int .i64 a0_1, .int .u64 a0_2, .int .i64 a0_3, .slice A0_4 l0_4.length c0_4]] w fun e w' => ∃ v0_ : Value, e = .returned (.tuple #[v0_, .int .i64 r2]) ∧ Kd.R (Kd.int .u8) 5 w' w.heap.size (fun _ => True) v0_ r1 ∧ Below w.heap.size w w' := by
  have hu32 := Try.underlying32
  have hu27 := Try.underlying27
  have HR0_4 := Aside0.mk hr0_4
  have HC0_4 := Aside0.mk hc0_4
  clear hr0_4 hc0_4
  have HB := Aside0.mk (Below.refl w.heap.size w)
  have H : ((content_Form.f a0_0 a0_1 a0_2 a0_3 l0_4).bind fun t145 => (if t145 = true then ((label_Encode.f k (([1] : List Int)) a0_0 a0_1 a0_2 a0_3).bind fun bt149 => ((code_Bytes.f k bt149.1 l0_4).bind fun t153 => (some (t153, 0)))) else (some (([] : List Int), 3)))) = some (r1, r2) := h
  clear h
  replace H := Option.bind_eq_some_iff.mp H
  obtain ⟨t145, A20, H⟩ := H
  replace H : (if t145 = true then ((label_Encode.f k (([1] : List Int)) a0_0 a0_1 a0_2 a0_3).bind fun bt149 => ((code_Bytes.f k bt149.1 l0_4).bind fun t153 => (some (t153, 0)))) else (some (([] : List Int), 3))) = some (r1, r2) := H
  have A2 := Aside0.mk A20
  clear A20
  by_cases c3 : t145 = true
  · subst c3
    have H1 : ((label_Encode.f k (([1] : List Int)) a0_0 a0_1 a0_2 a0_3).bind fun bt149 => ((code_Bytes.f k bt149.1 l0_4).bind fun t153 => (some (t153, 0)))) = some (r1, r2) := by rw [if_pos rfl] at H; exact H
    clear H
    have H := H1
    clear H1
    obtain ⟨y146, hy146⟩ : ∃ y_ : List Int, y_ = (([1] : List Int)) := ⟨_, rfl⟩
    replace H : ((label_Encode.f k y146 a0_0 a0_1 a0_2 a0_3).bind fun bt149 => ((code_Bytes.f k bt149.1 l0_4).bind fun t153 => (some (t153, 0)))) = some (r1, r2) := by first | (rw [hy146]; with_reducible exact H) | (have H2_ := (Option.bind_some _ _).symm.trans H; rw [hy146]; with_reducible exact H2_) | (have H2_ := (Option.bind_some _ _).symm.trans H; with_reducible exact H2_) | with_reducible exact H | (rw [hy146]; exact H) | exact H
    have Ny146 := Aside0.mk hy146
    clear hy146
    replace H := Option.bind_eq_some_iff.mp H
    obtain ⟨⟨t149, t152⟩, A40, H⟩ := H
    replace H : ((code_Bytes.f k t149 l0_4).bind fun t153 => (some (t153, 0))) = some (r1, r2) := H
    have A4 := Aside0.mk A40
    clear A40
    replace H := Option.bind_eq_some_iff.mp H
    obtain ⟨t153, A50, H⟩ := H
    replace H : (some (t153, 0)) = some (r1, r2) := H
    have A5 := Aside0.mk A50
    clear A50
    simp only [Option.some.injEq, Prod.mk.injEq] at H
    obtain ⟨rfl, rfl⟩ := H
    go_enter Try.func46, Try.ntmps46
    go_wp2_with (first | ((with_reducible refine gate_dst (N := 1) rfl ?_); refine box_event ?hg (N := 1) ?hd (cs := #[.int .u64 a0_0, .int .i64 a0_1, .int .u64 a0_2, .int .i64 a0_3, .slice A0_4 l0_4.length c0_4]) (t := 32) ?hr ?_; (case hd => rfl); (case hg => rfl); (case hr => first | (go_simp; done) | (go_simp; rfl)); intro gb144 hg w6 hbox hb; have n0_ := Aside0.mk (below_step (by repeat (first | (with_reducible first | exact HB.out | apply below_alloc | apply pw_below_drewN | apply below_drew1) | exact HB.out)) hb); have n1_ := Aside0.mk (hbox); have n2_ := Aside0.mk ((by rw [hg]; exact (below_size (by repeat (first | (with_reducible first | exact HB.out | apply below_alloc | apply pw_below_drewN | apply below_drew1) | exact HB.out))) : w.heap.size ≤ gb144)); have n3_ := Aside0.mk ((by rw [hg]; exact (below_size (by repeat (first | (with_reducible first | exact HB.out | apply below_alloc | apply pw_below_drewN | apply below_drew1) | exact HB.out))) : w.heap.size ≤ gb144)); clear HB; have HB := n0_; have BK144 := n1_; have GW144 := n2_; have GE144 := n3_; clear n0_ n1_ n2_ n3_; clear hb hbox hg; have hcz7_0 : w6.cell? ⟨gb144, 0, none⟩ = some (.int .u64 a0_0) := (blk_cell BK144.out 0).trans rfl; have hcz7_1 : w6.cell? ⟨gb144, 1, none⟩ = some (.int .i64 a0_1) := (blk_cell BK144.out 1).trans rfl; have hcz7_2 : w6.cell? ⟨gb144, 2, none⟩ = some (.int .u64 a0_2) := (blk_cell BK144.out 2).trans rfl; have hcz7_3 : w6.cell? ⟨gb144, 3, none⟩ = some (.int .i64 a0_3) := (blk_cell BK144.out 3).trans rfl; have hcz7_4 : w6.cell? ⟨gb144, 4, none⟩ = some (.slice A0_4 l0_4.length c0_4) := (blk_cell BK144.out 4).trans rfl; have hfz7_0 := blk_frozen BK144.out 0; have hfz7_1 := blk_frozen BK144.out 1; have hfz7_2 := blk_frozen BK144.out 2; have hfz7_3 := blk_frozen BK144.out 3; have hfz7_4 := blk_frozen BK144.out 4) | ((with_reducible refine gate_callee (f := 49) rfl ?_); refine goesL_ (some 7) rfl rfl Try.func49 (by kernel_rfl) rfl #[.agg #[.int .u64 a0_0, .int .i64 a0_1, .int .u64 a0_2, .int .i64 a0_3, .slice A0_4 l0_4.length c0_4]] rfl (by (try simp only [List.map_toArray, List.map_cons, List.map_nil]); first | done | rfl | (simp only [List.length_drop, List.length_take]; rfl)) ?_; (with_reducible refine (content_Form.calls a0_0 a0_1 a0_2 a0_3 _ _ l0_4 true _ ?side1 ?side2 A2.out).mono ?_); (case side1 => repeat (first | exact (Kd.C_below HR0_4.out HB.out) | (with_reducible refine Kd.C_alloc ?_ _) | (with_reducible refine Kd.C_drewN ?_ _) | (with_reducible refine Kd.C_drew ?_))); (case side2 => exact HC0_4.out); rintro e w8 ⟨rfl, hb⟩; refine ⟨_, rfl, ?_⟩; have n0_ := Aside0.mk (blk_below (g := gb144) (o := .cells #[.int .u64 a0_0, .int .i64 a0_1, .int .u64 a0_2, .int .i64 a0_3, .slice A0_4 l0_4.length c0_4] 32 (0, 0)) (by (with_reducible repeat (first | refine blk_drewN ?_ _ | refine blk_drew ?_ | refine blk_alloc ?_ _)); exact BK144.out) hb); have n1_ := Aside0.mk (below_step (by repeat (first | (with_reducible first | exact HB.out | apply below_alloc | apply pw_below_drewN | apply below_drew1 | refine below_set ?_ GE144.out) | exact HB.out)) hb); clear BK144; clear HB; have BK144 := n0_; have HB := n1_; clear n0_ n1_; (try clear hb); (try clear hb2); (try clear hk); (try clear hi)) | ((with_reducible refine gate_dst (N := 10) rfl ?_); refine Kd.R_lit (Kd.int .u8) _ 5 ?hg (N := 10) ?hd (xs := ([1] : List Int)) (inner := [.int .u8 1]) (ok := fun _ => True) (okp := fun _ => True) ?hr ?hp (fun _ hk => hk) trivial (Below.refl _ _) (Nat.le_refl _) (by simp) ?_; (case hd => rfl); (case hg => rfl); (case hr => first | (go_simp; done) | (go_simp; rfl)); (case hp => exact (Reps.one (show Kd.M (Kd.int .u8) _ _ _ 1 [.int .u8 1] from rfl) (Reps.none _ _))); intro v147 w9 ho10 hb hg_ hnew_; clear hg_ hnew_; (first | rw [← Ny146.out] at ho10 | (simp only [Int.reduceToNat] at ho10; rw [← Ny146.out] at ho10)); have n0_ := Aside0.mk (Kd.R_lower ho10 (below_size (by repeat (first | (with_reducible first | exact HB.out | apply below_alloc | apply pw_below_drewN | apply below_drew1 | refine below_set ?_ GE144.out) | exact HB.out)))); have n1_ := Aside0.mk (blk_below (g := gb144) (o := .cells #[.int .u64 a0_0, .int .i64 a0_1, .int .u64 a0_2, .int .i64 a0_3, .slice A0_4 l0_4.length c0_4] 32 (0, 0)) (by (with_reducible repeat (first | refine blk_drewN ?_ _ | refine blk_drew ?_ | refine blk_alloc ?_ _)); exact BK144.out) hb); have n2_ := Aside0.mk (below_step (by repeat (first | (with_reducible first | exact HB.out | apply below_alloc | apply pw_below_drewN | apply below_drew1 | refine below_set ?_ GE144.out) | exact HB.out)) hb); clear BK144; clear HB; have HO148 := n0_; have BK144 := n1_; have HB := n2_; clear n0_ n1_ n2_; clear hb ho10; have hcz11_0 : w9.cell? ⟨gb144, 0, none⟩ = some (.int .u64 a0_0) := (blk_cell BK144.out 0).trans rfl; have hcz11_1 : w9.cell? ⟨gb144, 1, none⟩ = some (.int .i64 a0_1) := (blk_cell BK144.out 1).trans rfl; have hcz11_2 : w9.cell? ⟨gb144, 2, none⟩ = some (.int .u64 a0_2) := (blk_cell BK144.out 2).trans rfl; have hcz11_3 : w9.cell? ⟨gb144, 3, none⟩ = some (.int .i64 a0_3) := (blk_cell BK144.out 3).trans rfl; have hcz11_4 : w9.cell? ⟨gb144, 4, none⟩ = some (.slice A0_4 l0_4.length c0_4) := (blk_cell BK144.out 4).trans rfl; have hfz11_0 := blk_frozen BK144.out 0; have hfz11_1 := blk_frozen BK144.out 1; have hfz11_2 := blk_frozen BK144.out 2; have hfz11_3 := blk_frozen BK144.out 3; have hfz11_4 := blk_frozen BK144.out 4; obtain ⟨Ao12, co12, eo12⟩ := Kd.R_slice HO148.out; subst eo12) | ((with_reducible refine gate_callee (f := 90) rfl ?_); refine goesL_ (some 13) rfl rfl Try.func90 (by kernel_rfl) rfl #[.slice Ao12 y146.length co12, .agg #[.int .u64 a0_0, .int .i64 a0_1, .int .u64 a0_2, .int .i64 a0_3]] rfl (by (try simp only [List.map_toArray, List.map_cons, List.map_nil]); first | done | rfl | (simp only [List.length_drop, List.length_take]; rfl)) ?_; (with_reducible refine (label_Encode.calls k (fun k_ => some k_ = (.slice Ao12 y146.length co12 : Value).ownBlock) (.slice Ao12 y146.length co12) y146 a0_0 a0_1 a0_2 a0_3 t149 t152 w _ ?side1 ?side2 A4.out).mono ?_); (case side1 => repeat (first | (with_reducible first | exact HB.out | apply below_alloc | apply pw_below_drewN | apply below_drew1 | refine below_set ?_ GE144.out) | exact HB.out)); (case side2 => exact Kd.R_tight rfl HO148.out); rintro e w13 ⟨v150, rfl, ho0, hb, hkp⟩; refine ⟨_, rfl, ?_⟩; have n0_ := Aside0.mk (blk_kept (by (with_reducible repeat (first | refine blk_drewN ?_ _ | refine blk_drew ?_ | refine blk_alloc ?_ _)); exact BK144.out) hkp (fun hs_ => (fun e_ => (Kd.R_ne HO148.out BK144.out (by decide)) e_) hs_)); have n1_ := Aside0.mk (Kd.R_mono (ok' := fun k_ => True) ho0 (fun k_ hk_ => trivial)); have n2_ := Aside0.mk (hb); clear BK144; clear HB; clear HO148; have BK144 := n0_; have HO151 := n1_; have HB := n2_; clear n0_ n1_ n2_; (try clear hb); (try clear hkp); (try clear ho0); have hcz14_0 : w13.cell? ⟨gb144, 0, none⟩ = some (.int .u64 a0_0) := (blk_cell BK144.out 0).trans rfl; have hcz14_1 : w13.cell? ⟨gb144, 1, none⟩ = some (.int .i64 a0_1) := (blk_cell BK144.out 1).trans rfl; have hcz14_2 : w13.cell? ⟨gb144, 2, none⟩ = some (.int .u64 a0_2) := (blk_cell BK144.out 2).trans rfl; have hcz14_3 : w13.cell? ⟨gb144, 3, none⟩ = some (.int .i64 a0_3) := (blk_cell BK144.out 3).trans rfl; have hcz14_4 : w13.cell? ⟨gb144, 4, none⟩ = some (.slice A0_4 l0_4.length c0_4) := (blk_cell BK144.out 4).trans rfl; have hfz14_0 := blk_frozen BK144.out 0; have hfz14_1 := blk_frozen BK144.out 1; have hfz14_2 := blk_frozen BK144.out 2; have hfz14_3 := blk_frozen BK144.out 3; have hfz14_4 := blk_frozen BK144.out 4; obtain ⟨Ao15, co15, eo15⟩ := Kd.R_slice HO151.out; subst eo15) | ((with_reducible refine gate_callee (f := 91) rfl ?_); refine goesL_ (some 19) rfl rfl Try.func91 (by kernel_rfl) rfl #[.slice Ao15 t149.length co15, .slice A0_4 l0_4.length c0_4] rfl (by (try simp only [List.map_toArray, List.map_cons, List.map_nil]); first | done | rfl | (simp only [List.length_drop, List.length_take]; rfl)) ?_; (with_reducible refine (code_Bytes.calls k (fun k_ => some k_ = (.slice Ao15 t149.length co15 : Value).ownBlock) (.slice Ao15 t149.length co15) t149 _ _ l0_4 t153 w _ ?side1 ?side2 ?side3 ?side4 A5.out).mono ?_); (case side1 => repeat (first | (with_reducible first | exact HB.out | apply below_alloc | apply pw_below_drewN | apply below_drew1 | refine below_set ?_ GE144.out) | exact HB.out)); (case side2 => exact Kd.R_tight rfl HO151.out); (case side3 => exact Kd.C_kept_came (Kd.heap_int .u8) HR0_4.out (by repeat (first | (with_reducible first | exact HB.out | apply below_alloc | apply pw_below_drewN | apply below_drew1 | refine below_set ?_ GE144.out) | exact HB.out)) (fun k_ hs_ => (fun e_ => Kd.R_base HO151.out k_ e_.symm) hs_)); (case side4 => exact HC0_4.out); rintro e w16 ⟨v154, rfl, ho0, hb, hkp⟩; refine ⟨_, rfl, ?_⟩; have n0_ := Aside0.mk (blk_kept (by (with_reducible repeat (first | refine blk_drewN ?_ _ | refine blk_drew ?_ | refine blk_alloc ?_ _)); exact BK144.out) hkp (fun hs_ => (fun e_ => (Kd.R_ne HO151.out BK144.out (by decide)) e_) hs_)); have n1_ := Aside0.mk (Kd.R_mono (ok' := fun k_ => True) ho0 (fun k_ hk_ => trivial)); have n2_ := Aside0.mk (hb); clear BK144; clear HB; clear HO151; have BK144 := n0_; have HO155 := n1_; have HB := n2_; clear n0_ n1_ n2_; (try clear hb); (try clear hkp); (try clear ho0)))
    go_ret2
    exact ⟨_, by first | rfl | (simp [errW_none, errW_some] <;> rfl) | (simp [*, errW_none, errW_some] <;> rfl), by (with_reducible repeat (first | apply Kd.R_alloc | apply Kd.R_drewN | apply Kd.R_drew)); exact HO155.out, by repeat (first | (with_reducible first | exact HB.out | apply below_alloc | apply pw_below_drewN | apply below_drew1 | refine below_set ?_ GE144.out) | exact HB.out)⟩
  · replace c3 := Bool.eq_false_iff.mpr c3
    subst c3
    have H1 : (some (([] : List Int), 3)) = some (r1, r2) := by rw [if_neg (show ¬ (false = true) by decide)] at H; exact H
    clear H
    have H := H1
    clear H1
    simp only [Option.some.injEq, Prod.mk.injEq] at H
    obtain ⟨rfl, rfl⟩ := H
    go_enter Try.func46, Try.ntmps46
    go_wp2_with (first | ((with_reducible refine gate_dst (N := 1) rfl ?_); refine box_event ?hg (N := 1) ?hd (cs := #[.int .u64 a0_0, .int .i64 a0_1, .int .u64 a0_2, .int .i64 a0_3, .slice A0_4 l0_4.length c0_4]) (t := 32) ?hr ?_; (case hd => rfl); (case hg => rfl); (case hr => first | (go_simp; done) | (go_simp; rfl)); intro gb144 hg w17 hbox hb; have n0_ := Aside0.mk (below_step (by repeat (first | (with_reducible first | exact HB.out | apply below_alloc | apply pw_below_drewN | apply below_drew1) | exact HB.out)) hb); have n1_ := Aside0.mk (hbox); have n2_ := Aside0.mk ((by rw [hg]; exact (below_size (by repeat (first | (with_reducible first | exact HB.out | apply below_alloc | apply pw_below_drewN | apply below_drew1) | exact HB.out))) : w.heap.size ≤ gb144)); have n3_ := Aside0.mk ((by rw [hg]; exact (below_size (by repeat (first | (with_reducible first | exact HB.out | apply below_alloc | apply pw_below_drewN | apply below_drew1) | exact HB.out))) : w.heap.size ≤ gb144)); clear HB; have HB := n0_; have BK144 := n1_; have GW144 := n2_; have GE144 := n3_; clear n0_ n1_ n2_ n3_; clear hb hbox hg; have hcz18_0 : w17.cell? ⟨gb144, 0, none⟩ = some (.int .u64 a0_0) := (blk_cell BK144.out 0).trans rfl; have hcz18_1 : w17.cell? ⟨gb144, 1, none⟩ = some (.int .i64 a0_1) := (blk_cell BK144.out 1).trans rfl; have hcz18_2 : w17.cell? ⟨gb144, 2, none⟩ = some (.int .u64 a0_2) := (blk_cell BK144.out 2).trans rfl; have hcz18_3 : w17.cell? ⟨gb144, 3, none⟩ = some (.int .i64 a0_3) := (blk_cell BK144.out 3).trans rfl; have hcz18_4 : w17.cell? ⟨gb144, 4, none⟩ = some (.slice A0_4 l0_4.length c0_4) := (blk_cell BK144.out 4).trans rfl; have hfz18_0 := blk_frozen BK144.out 0; have hfz18_1 := blk_frozen BK144.out 1; have hfz18_2 := blk_frozen BK144.out 2; have hfz18_3 := blk_frozen BK144.out 3; have hfz18_4 := blk_frozen BK144.out 4) | ((with_reducible refine gate_callee (f := 49) rfl ?_); refine goesL_ (some 7) rfl rfl Try.func49 (by kernel_rfl) rfl #[.agg #[.int .u64 a0_0, .int .i64 a0_1, .int .u64 a0_2, .int .i64 a0_3, .slice A0_4 l0_4.length c0_4]] rfl (by (try simp only [List.map_toArray, List.map_cons, List.map_nil]); first | done | rfl | (simp only [List.length_drop, List.length_take]; rfl)) ?_; (with_reducible refine (content_Form.calls a0_0 a0_1 a0_2 a0_3 _ _ l0_4 false _ ?side1 ?side2 A2.out).mono ?_); (case side1 => repeat (first | exact (Kd.C_below HR0_4.out HB.out) | (with_reducible refine Kd.C_alloc ?_ _) | (with_reducible refine Kd.C_drewN ?_ _) | (with_reducible refine Kd.C_drew ?_))); (case side2 => exact HC0_4.out); rintro e w19 ⟨rfl, hb⟩; refine ⟨_, rfl, ?_⟩; have n0_ := Aside0.mk (blk_below (g := gb144) (o := .cells #[.int .u64 a0_0, .int .i64 a0_1, .int .u64 a0_2, .int .i64 a0_3, .slice A0_4 l0_4.length c0_4] 32 (0, 0)) (by (with_reducible repeat (first | refine blk_drewN ?_ _ | refine blk_drew ?_ | refine blk_alloc ?_ _)); exact BK144.out) hb); have n1_ := Aside0.mk (below_step (by repeat (first | (with_reducible first | exact HB.out | apply below_alloc | apply pw_below_drewN | apply below_drew1 | refine below_set ?_ GE144.out) | exact HB.out)) hb); clear BK144; clear HB; have BK144 := n0_; have HB := n1_; clear n0_ n1_; (try clear hb); (try clear hb2); (try clear hk); (try clear hi)))
    go_ret2
    exact ⟨_, by first | rfl | (simp [errW_none, errW_some] <;> rfl) | (simp [*, errW_none, errW_some] <;> rfl), by first | exact Kd.R_nil _ _ _ _ _ | exact Kd.N_nil _ _ _ _ _ | exact Kd.V_nil _ _ _ _ _ | exact Kd.Q_nil _ _ _ _ _ | exact Kd.S_nil _ _ _ _ _, by repeat (first | (with_reducible first | exact HB.out | apply below_alloc | apply pw_below_drewN | apply below_drew1 | refine below_set ?_ GE144.out) | exact HB.out)⟩

end Go.Proofs.Ytioooiflpabngaa.PAll

namespace Go.Proofs.Ytioooiflpabngaa.PAll
open Go.RowKit Go.Proofs.YtioooiflpabngaaW.PrintWords Go.Proofs.YtioooiflpabngaaW.PrintLast Go.Proofs.YtioooiflpabngaaW.PrintMore
set_option linter.unusedVariables false
set_option linter.unusedSimpArgs false
def folkmootlaw15_awake.f : Option Bool := some true
theorem encodes_one : content_EncodeOne.f 20 1 0 1 0 [97] = some ([1, 1, 0, 1, 0, 1, 97], 0) := by kernel_rfl
theorem C_const (W : World) : Kd.C (Kd.int .u8) (W.alloc (.cells #[.int .u8 97] 5 (1, 2))) (some ⟨W.heap.size, 0, none⟩) [97].length [(97 : Int)] := by
  refine ⟨rfl, by decide, fun _ => ⟨_, rfl, fun j p hj => ?_⟩⟩
  match j, hj with
  | 0, hj =>
    simp at hj
    subst hj
    refine ⟨[.int .u8 97], rfl, rfl, fun i u hi => ?_⟩
    match i, hi with
    | 0, hi =>
      simp at hi
      subst hi
      show World.cell? _ ⟨W.heap.size, 0, none⟩ = _
      simp only [World.cell?]
      rw [heap_alloc_new]
      rfl
    | i + 1, hi => simp at hi
  | j + 1, hj => simp at hj
set_option maxHeartbeats 8000000 in
set_option maxRecDepth 100000 in
theorem folkmootlaw15_awake.calls (r : Bool) (w : World) (h : folkmootlaw15_awake.f = some r) :
    Calls Try.prog 22 #[] w fun e w' => e = .returned (.bool r) ∧ Below w.heap.size w w' := by
  have hu25 := Try.underlying25
  have hu27 := Try.underlying27
  have hu32 := Try.underlying32
  injection h with h
  subst h
  have kc := fun (w : World) (C : Array Value) (n c : Nat) => Lib.run_convert_bytes_const (P := Try.prog) w 30 5 C n c Try.underlying30 Try.underlying5
  have hs : ((strOfNums [1, 1, 0, 1, 0, 1, 97]).toList == ([1, 1, 0, 1, 0, 1, 97] : List UInt8)) = true := by kernel_rfl
  go_enter Try.func22, Try.ntmps22
  go_wp2_with (go_at_call 46; refine (content_EncodeOne.calls 20 1 0 1 0 _ 1 [97] _ _ _ (C_const w) (by decide) encodes_one).mono ?_; rintro e w' ⟨v, rfl, ho, hb⟩; have hcv := own_string (P := Try.prog) Try.underlying30 Try.underlying5 Try.underlying9 (Kd.own_of_R ho))
  go_ret
  exact ⟨rfl, below_step (below_alloc (Below.refl _ _) _) hb⟩
end Go.Proofs.Ytioooiflpabngaa.PAll

namespace Go.Proofs.Ytioooiflpabngaa.PAll
open Go.RowKit Go.Proofs.YtioooiflpabngaaW.PrintWords Go.Proofs.YtioooiflpabngaaW.PrintLast Go.Proofs.YtioooiflpabngaaW.PrintMore
attribute [local go_sem] max2_int min2_int max_two min_two max_three min_three max_four min_four   -- for this text's walks alone
set_option linter.unusedVariables false
set_option linter.unusedSimpArgs false

/-! ### folkmootlaw15_ContentFinds: function 3 -/
mutual
def folkmootlaw15_ContentFinds.j0 : Nat → List (S32) → Int → Bool → Int → Int → Int → Int → Option (Bool)
  | 0, _, _, _, _, _, _, _ => none
  | k + 1, x0, x2, x18, x226000, x226001, x226002, x226003 => if x18 = true then ((folkmootlaw15_awake.f).bind fun t227 => (some t227)) else ((folkmootref15_Merge.f k ([] : List (S32)) x0).bind fun t228 => (if (x0.length : Int) > 0 then (folkmootlaw15_ContentFinds.j1 k x0 x2 t228 ((Int.tmod x2 2) == 0) x226000 x226001 x226002 x226003) else (folkmootlaw15_ContentFinds.j1 k x0 x2 t228 false x226000 x226001 x226002 x226003)))
def folkmootlaw15_ContentFinds.j1 : Nat → List (S32) → Int → List (S32) → Bool → Int → Int → Int → Int → Option (Bool)
  | 0, _, _, _, _, _, _, _, _ => none
  | k + 1, x0, x2, x7, x29, x226000, x226001, x226002, x226003 => if x29 = true then (if (x0.length : Int) = 0 then (none) else (if 0 ≤ (Int.tmod (wrap64 (x2)) (x0.length : Int)) then (if (Int.tmod (wrap64 (x2)) (x0.length : Int)) < (x0.length : Int) then ((content_Find.f k x7 ((rd_T32 x0 (Int.tmod (wrap64 (x2)) (x0.length : Int))).f0.f0.f0) ((rd_T32 x0 (Int.tmod (wrap64 (x2)) (x0.length : Int))).f0.f0.f1) ((rd_T32 x0 (Int.tmod (wrap64 (x2)) (x0.length : Int))).f0.f1) ((rd_T32 x0 (Int.tmod (wrap64 (x2)) (x0.length : Int))).f0.f2)).bind fun bt232 => ((folkmootref15_Find.f k x7 ((rd_T32 x0 (Int.tmod (wrap64 (x2)) (x0.length : Int))).f0.f0.f0) ((rd_T32 x0 (Int.tmod (wrap64 (x2)) (x0.length : Int))).f0.f0.f1) ((rd_T32 x0 (Int.tmod (wrap64 (x2)) (x0.length : Int))).f0.f1) ((rd_T32 x0 (Int.tmod (wrap64 (x2)) (x0.length : Int))).f0.f2)).bind fun bt236 => (if (bt232.2 == bt236.2) = true then (some ((strOfNums bt232.1).toList == (strOfNums bt236.1).toList)) else (some false)))) else (none)) else (none))) else ((content_Find.f k x7 x226000 x226001 x226002 x226003).bind fun bt240 => ((folkmootref15_Find.f k x7 x226000 x226001 x226002 x226003).bind fun bt244 => (if (bt240.2 == bt244.2) = true then (some ((strOfNums bt240.1).toList == (strOfNums bt244.1).toList)) else (some false))))
end
def folkmootlaw15_ContentFinds.f (k : Nat) (l0 : List (S32)) (a1_0 : Int) (a1_1 : Int) (a1_2 : Int) (a1_3 : Int) (a2 : Int) : Option (Bool) := (folkmootlaw15_awake.f).bind fun t226 => (if t226 = true then (folkmootlaw15_ContentFinds.j0 k l0 a2 (decide ((l0.length : Int) > 150)) a1_0 a1_1 a1_2 a1_3) else (folkmootlaw15_ContentFinds.j0 k l0 a2 true a1_0 a1_1 a1_2 a1_3))
theorem folkmootlaw15_ContentFinds.mono_l : ∀ k, (∀ y0 y1 y2 y3 y4 y5 y6, LeO (folkmootlaw15_ContentFinds.j0 k y0 y1 y2 y3 y4 y5 y6) (folkmootlaw15_ContentFinds.j0 (k + 1) y0 y1 y2 y3 y4 y5 y6)) ∧ (∀ y0 y1 y2 y3 y4 y5 y6 y7, LeO (folkmootlaw15_ContentFinds.j1 k y0 y1 y2 y3 y4 y5 y6 y7) (folkmootlaw15_ContentFinds.j1 (k + 1) y0 y1 y2 y3 y4 y5 y6 y7))
  | 0 => ⟨fun _ _ _ _ _ _ _ r h => by simp [folkmootlaw15_ContentFinds.j0] at h, fun _ _ _ _ _ _ _ _ r h => by simp [folkmootlaw15_ContentFinds.j1] at h⟩
  | k + 1 => by
    obtain ⟨ih0, ih1⟩ := folkmootlaw15_ContentFinds.mono_l k
    refine ⟨?_, ?_⟩
    · intro y0 y1 y2 y3 y4 y5 y6
      unfold folkmootlaw15_ContentFinds.j0
      repeat' first
      | (with_reducible exact ih0 _ _ _ _ _ _ _)
      | (with_reducible exact ih1 _ _ _ _ _ _ _ _)
      | (with_reducible exact content_Find.mono _ _ _ _ _ _)
      | (with_reducible exact folkmootref15_Find.mono _ _ _ _ _ _)
      | (with_reducible exact folkmootref15_Merge.mono _ _ _)
      | (with_reducible exact LeO.refl _)
      | (with_reducible exact LeO.none _)
      | (with_reducible refine LeO.ite ?_ ?_)
      | (with_reducible refine LeO.bind ?_ (fun _ => ?_))
      | exact ih0 _ _ _ _ _ _ _
      | exact ih1 _ _ _ _ _ _ _ _
      | exact content_Find.mono _ _ _ _ _ _
      | exact folkmootref15_Find.mono _ _ _ _ _ _
      | exact folkmootref15_Merge.mono _ _ _
      | exact LeO.none _
      | refine LeO.ite ?_ ?_
      | refine LeO.bind ?_ (fun _ => ?_)
    · intro y0 y1 y2 y3 y4 y5 y6 y7
      unfold folkmootlaw15_ContentFinds.j1
      repeat' first
      | (with_reducible exact ih0 _ _ _ _ _ _ _)
      | (with_reducible exact ih1 _ _ _ _ _ _ _ _)
      | (with_reducible exact content_Find.mono _ _ _ _ _ _)
      | (with_reducible exact folkmootref15_Find.mono _ _ _ _ _ _)
      | (with_reducible exact folkmootref15_Merge.mono _ _ _)
      | (with_reducible exact LeO.refl _)
      | (with_reducible exact LeO.none _)
      | (with_reducible refine LeO.ite ?_ ?_)
      | (with_reducible refine LeO.bind ?_ (fun _ => ?_))
      | exact ih0 _ _ _ _ _ _ _
      | exact ih1 _ _ _ _ _ _ _ _
      | exact content_Find.mono _ _ _ _ _ _
      | exact folkmootref15_Find.mono _ _ _ _ _ _
      | exact folkmootref15_Merge.mono _ _ _
      | exact LeO.none _
      | refine LeO.ite ?_ ?_
      | refine LeO.bind ?_ (fun _ => ?_)
theorem folkmootlaw15_ContentFinds.mono : ∀ a0 a1 a2 a3 a4 a5 k, LeO (folkmootlaw15_ContentFinds.f k a0 a1 a2 a3 a4 a5) (folkmootlaw15_ContentFinds.f (k + 1) a0 a1 a2 a3 a4 a5) := by
  intro a0 a1 a2 a3 a4 a5 k
  obtain ⟨ih0, ih1⟩ := folkmootlaw15_ContentFinds.mono_l k
  unfold folkmootlaw15_ContentFinds.f
  repeat' first
      | (with_reducible exact ih0 _ _ _ _ _ _ _)
      | (with_reducible exact ih1 _ _ _ _ _ _ _ _)
      | (with_reducible exact content_Find.mono _ _ _ _ _ _)
      | (with_reducible exact folkmootref15_Find.mono _ _ _ _ _ _)
      | (with_reducible exact folkmootref15_Merge.mono _ _ _)
      | (with_reducible exact LeO.refl _)
      | (with_reducible exact LeO.none _)
      | (with_reducible refine LeO.ite ?_ ?_)
      | (with_reducible refine LeO.bind ?_ (fun _ => ?_))
      | exact ih0 _ _ _ _ _ _ _
      | exact ih1 _ _ _ _ _ _ _ _
      | exact content_Find.mono _ _ _ _ _ _
      | exact folkmootref15_Find.mono _ _ _ _ _ _
      | exact folkmootref15_Merge.mono _ _ _
      | exact LeO.none _
      | refine LeO.ite ?_ ?_
      | refine LeO.bind ?_ (fun _ => ?_)
set_option maxHeartbeats 8000000 in
set_option maxRecDepth 100000 in
theorem folkmootlaw15_ContentFinds.calls (k : Nat) (A0 : Option Addr) (c0 : Nat) (l0 : List (S32)) (a1_0 : Int) (a1_1 : Int) (a1_2 : Int) (a1_3 : Int) (a2 : Int) (r : Bool) (w : World) (hr0 : Kd.C k32 w A0 l0.length l0) (hc0 : l0.length ≤ c0) (h : folkmootlaw15_ContentFinds.f k l0 a1_0 a1_1 a1_2 a1_3 a2 = some r) :
    Calls Try.prog 3 #[.slice A0 l0.length c0, .agg #[.int .u64 a1_0, .int .i64 a1_1, .int .u64 a1_2, .int .i64 a1_3], .int .u8 a2] w fun e w' => e = .returned (.bool r) ∧ Below w.heap.size w w' := by
  have hu27 := Try.underlying27
  have HR0 := Aside0.mk hr0
  have HC0 := Aside0.mk hc0
  clear hr0 hc0
  have HB := Aside0.mk (Below.refl w.heap.size w)
  have H : ((folkmootlaw15_awake.f).bind fun t226 => (if t226 = true then (folkmootlaw15_ContentFinds.j0 k l0 a2 (decide ((l0.length : Int) > 150)) a1_0 a1_1 a1_2 a1_3) else (folkmootlaw15_ContentFinds.j0 k l0 a2 true a1_0 a1_1 a1_2 a1_3))) = some r := h
  clear h
  have HC4 := Aside0.mk H
  clear H
  go_enter Try.func3, Try.ntmps3
  go_upto_region 1 with (first | ((with_reducible refine gate_dst (N := 4) rfl ?_); (try (refine gate_guard (by rfl) ?_; dsimp only)); refine box_event ?hg (N := 4) ?hd (cs := #[.int .u64 a1_0, .int .i64 a1_1, .int .u64 a1_2, .int .i64 a1_3]) (t := 27) ?hr ?_; (case hd => rfl); (case hg => rfl); (case hr => first | (go_simp; done) | (go_simp; rfl)); intro gb225 hg w5 hbox hb; have n0_ := Aside0.mk (below_step (by repeat (first | (with_reducible first | exact HB.out | apply below_alloc | apply pw_below_drewN | apply below_drew1) | exact HB.out)) hb); have n1_ := Aside0.mk (hbox); have n2_ := Aside0.mk ((by rw [hg]; exact (below_size (by repeat (first | (with_reducible first | exact HB.out | apply below_alloc | apply pw_below_drewN | apply below_drew1) | exact HB.out))) : w.heap.size ≤ gb225)); have n3_ := Aside0.mk ((by rw [hg]; exact (below_size (by repeat (first | (with_reducible first | exact HB.out | apply below_alloc | apply pw_below_drewN | apply below_drew1) | exact HB.out))) : w.heap.size ≤ gb225)); clear HB; have HB := n0_; have BK225 := n1_; have GW225 := n2_; have GE225 := n3_; clear n0_ n1_ n2_ n3_; clear hb hbox hg))
  (try simp only [Act.put, List.setIfInBounds_toArray, List.set_cons_zero, List.set_cons_succ])
  go_cut [18] (fun v18 wc => ∃ (kq : Nat) (x18_3 : Bool), v18 = .bool x18_3 ∧ Aside0 (folkmootlaw15_ContentFinds.j0 kq l0 a2 x18_3 a1_0 a1_1 a1_2 a1_3 = some r) ∧ Aside0 (kq ≤ k) ∧ Aside0 (wc.heap[gb225]? = some (.cells #[.int .u64 a1_0, .int .i64 a1_1, .int .u64 a1_2, .int .i64 a1_3] 27 (0, 0))) ∧ Aside0 (Below w.heap.size w wc))
  case first =>
    have H := HC4.out
    clear HC4
    replace H := Option.bind_eq_some_iff.mp H
    obtain ⟨t226, A60, H⟩ := H
    replace H : (if t226 = true then (folkmootlaw15_ContentFinds.j0 k l0 a2 (decide ((l0.length : Int) > 150)) a1_0 a1_1 a1_2 a1_3) else (folkmootlaw15_ContentFinds.j0 k l0 a2 true a1_0 a1_1 a1_2 a1_3)) = some r := H
    have A6 := Aside0.mk A60
    clear A60
    by_cases c7 : t226 = true
    · subst c7
      have H1 : (folkmootlaw15_ContentFinds.j0 k l0 a2 (decide ((l0.length : Int) > 150)) a1_0 a1_1 a1_2 a1_3) = some r := by rw [if_pos rfl] at H; exact H
      clear H
      have H := H1
      clear H1
      have H' := Aside0.mk H
      clear H
      go_wp2_with (first | ((with_reducible refine gate_callee (f := 22) rfl ?_); refine goesL_ (some 12) rfl rfl Try.func22 (by kernel_rfl) rfl #[] rfl (by (try simp only [List.map_toArray, List.map_cons, List.map_nil]); first | done | rfl | (simp only [List.length_drop, List.length_take]; rfl)) ?_; (with_reducible refine (folkmootlaw15_awake.calls  true _ A6.out).mono ?_); rintro e w8 ⟨rfl, hb⟩; refine ⟨_, rfl, ?_⟩; have n0_ := Aside0.mk (blk_below (g := gb225) (o := .cells #[.int .u64 a1_0, .int .i64 a1_1, .int .u64 a1_2, .int .i64 a1_3] 27 (0, 0)) (by (with_reducible repeat (first | refine blk_drewN ?_ _ | refine blk_drew ?_ | refine blk_alloc ?_ _)); exact BK225.out) hb); have n1_ := Aside0.mk (below_step (by repeat (first | (with_reducible first | exact HB.out | apply below_alloc | apply pw_below_drewN | apply below_drew1 | refine below_set ?_ GE225.out) | exact HB.out)) hb); clear BK225; clear HB; have BK225 := n0_; have HB := n1_; clear n0_ n1_; (try clear hb); (try clear hb2); (try clear hk); (try clear hi)))
      go_meet
      case rel => exact ⟨_, (decide ((l0.length : Int) > 150)), (by first | rfl | (simp; done) | (simp [*]; done)), H', ⟨by first | omega | exact Nat.le_refl _⟩, ⟨by (with_reducible repeat (first | refine blk_drewN ?_ _ | refine blk_drew ?_ | refine blk_alloc ?_ _)); exact BK225.out⟩, ⟨by repeat (first | (with_reducible first | exact HB.out | apply below_alloc | apply pw_below_drewN | apply below_drew1 | refine below_set ?_ GE225.out) | exact HB.out)⟩⟩
    · replace c7 := Bool.eq_false_iff.mpr c7
      subst c7
      have H1 : (folkmootlaw15_ContentFinds.j0 k l0 a2 true a1_0 a1_1 a1_2 a1_3) = some r := by rw [if_neg (show ¬ (false = true) by decide)] at H; exact H
      clear H
      have H := H1
      clear H1
      have H' := Aside0.mk H
      clear H
      go_wp2_with (first | ((with_reducible refine gate_callee (f := 22) rfl ?_); refine goesL_ (some 12) rfl rfl Try.func22 (by kernel_rfl) rfl #[] rfl (by (try simp only [List.map_toArray, List.map_cons, List.map_nil]); first | done | rfl | (simp only [List.length_drop, List.length_take]; rfl)) ?_; (with_reducible refine (folkmootlaw15_awake.calls  false _ A6.out).mono ?_); rintro e w9 ⟨rfl, hb⟩; refine ⟨_, rfl, ?_⟩; have n0_ := Aside0.mk (blk_below (g := gb225) (o := .cells #[.int .u64 a1_0, .int .i64 a1_1, .int .u64 a1_2, .int .i64 a1_3] 27 (0, 0)) (by (with_reducible repeat (first | refine blk_drewN ?_ _ | refine blk_drew ?_ | refine blk_alloc ?_ _)); exact BK225.out) hb); have n1_ := Aside0.mk (below_step (by repeat (first | (with_reducible first | exact HB.out | apply below_alloc | apply pw_below_drewN | apply below_drew1 | refine below_set ?_ GE225.out) | exact HB.out)) hb); clear BK225; clear HB; have BK225 := n0_; have HB := n1_; clear n0_ n1_; (try clear hb); (try clear hb2); (try clear hk); (try clear hi)))
      go_meet
      case rel => exact ⟨_, (true), (by first | rfl | (simp; done) | (simp [*]; done)), H', ⟨by first | omega | exact Nat.le_refl _⟩, ⟨by (with_reducible repeat (first | refine blk_drewN ?_ _ | refine blk_drew ?_ | refine blk_alloc ?_ _)); exact BK225.out⟩, ⟨by repeat (first | (with_reducible first | exact HB.out | apply below_alloc | apply pw_below_drewN | apply below_drew1 | refine below_set ?_ GE225.out) | exact HB.out)⟩⟩
  case rest =>
    clear HC4
    try clear c2
    try clear p2
    try clear c3
    try clear c7
    obtain ⟨kq, x18_3, rfl, HA, HJ3, BK225, HB⟩ := hcut
    cases kq with
    | zero => exact absurd HA.out (by simp [folkmootlaw15_ContentFinds.j0])
    | succ kj3 =>
      have H := HA.out
      clear HA
      simp only [folkmootlaw15_ContentFinds.j0] at H
      by_cases c10 : x18_3 = true
      · subst c10
        have H1 : ((folkmootlaw15_awake.f).bind fun t227 => (some t227)) = some r := by rw [if_pos rfl] at H; exact H
        clear H
        have H := H1
        clear H1
        replace H := Option.bind_eq_some_iff.mp H
        obtain ⟨t227, A110, H⟩ := H
        replace H : (some t227) = some r := H
        have A11 := Aside0.mk A110
        clear A110
        obtain rfl := Option.some.inj H
        go_wp2_with (first | ((with_reducible refine gate_callee (f := 22) rfl ?_); refine goesL_ (some 19) rfl rfl Try.func22 (by kernel_rfl) rfl #[] rfl (by (try simp only [List.map_toArray, List.map_cons, List.map_nil]); first | done | rfl | (simp only [List.length_drop, List.length_take]; rfl)) ?_; (with_reducible refine (folkmootlaw15_awake.calls  t227 _ A11.out).mono ?_); rintro e w12 ⟨rfl, hb⟩; refine ⟨_, rfl, ?_⟩; have n0_ := Aside0.mk (blk_below (g := gb225) (o := .cells #[.int .u64 a1_0, .int .i64 a1_1, .int .u64 a1_2, .int .i64 a1_3] 27 (0, 0)) (by (with_reducible repeat (first | refine blk_drewN ?_ _ | refine blk_drew ?_ | refine blk_alloc ?_ _)); exact BK225.out) hb); have n1_ := Aside0.mk (below_step (by repeat (first | (with_reducible first | exact HB.out | apply below_alloc | apply pw_below_drewN | apply below_drew1 | refine below_set ?_ GE225.out) | exact HB.out)) hb); clear BK225; clear HB; have BK225 := n0_; have HB := n1_; clear n0_ n1_; (try clear hb); (try clear hb2); (try clear hk); (try clear hi)))
        go_ret
        exact ⟨by first | rfl | (simp [errW_none, errW_some] <;> rfl) | (simp [*, errW_none, errW_some] <;> rfl), by repeat (first | (with_reducible first | exact HB.out | apply below_alloc | apply pw_below_drewN | apply below_drew1 | refine below_set ?_ GE225.out) | exact HB.out)⟩
      · replace c10 := Bool.eq_false_iff.mpr c10
        subst c10
        have H1 : ((folkmootref15_Merge.f kj3 ([] : List (S32)) l0).bind fun t228 => (if (l0.length : Int) > 0 then (folkmootlaw15_ContentFinds.j1 kj3 l0 a2 t228 ((Int.tmod a2 2) == 0) a1_0 a1_1 a1_2 a1_3) else (folkmootlaw15_ContentFinds.j1 kj3 l0 a2 t228 false a1_0 a1_1 a1_2 a1_3))) = some r := by rw [if_neg (show ¬ (false = true) by decide)] at H; exact H
        clear H
        have H := H1
        clear H1
        replace H := Option.bind_eq_some_iff.mp H
        obtain ⟨t228, A130, H⟩ := H
        replace H : (if (l0.length : Int) > 0 then (folkmootlaw15_ContentFinds.j1 kj3 l0 a2 t228 ((Int.tmod a2 2) == 0) a1_0 a1_1 a1_2 a1_3) else (folkmootlaw15_ContentFinds.j1 kj3 l0 a2 t228 false a1_0 a1_1 a1_2 a1_3)) = some r := H
        have A13 := Aside0.mk A130
        clear A130
        have HC14 := Aside0.mk H
        clear H
        go_upto_region 4 with (first | ((with_reducible refine gate_callee (f := 23) rfl ?_); refine goesL_ (some 21) rfl rfl Try.func23 (by kernel_rfl) rfl #[.slice none 0 0, .slice A0 l0.length c0] rfl (by (try simp only [List.map_toArray, List.map_cons, List.map_nil]); first | done | rfl | (simp only [List.length_drop, List.length_take]; rfl)) ?_; (refine (folkmootref15_Merge.calls kj3 (fun k_ => False) _ _ ([] : List (S32)) (fun k_ => k_ < w.heap.size) _ _ l0 t228 _ ?side1 ?side2 A13.out).mono ?_); (case side1 => exact Kd.V_nil _ _ _ _ _); (case side2 => exact Kd.V_mk HC0.out (Kd.F_below (Kd.C_F k32_heap HR0.out) (by repeat (first | (with_reducible first | exact HB.out | apply below_alloc | apply pw_below_drewN | apply below_drew1 | refine below_set ?_ GE225.out) | exact HB.out)))); rintro e w15 ⟨v229, rfl, ho0, hb⟩; refine ⟨_, rfl, ?_⟩; have n0_ := Aside0.mk (Kd.V_lower (Kd.V_mono (ok' := fun k_ => k_ ≠ gb225) ho0 (fun k_ hk_ => Or.elim hk_ (fun hs_ => Or.elim hs_ (fun hs_ => (hs_).elim) (fun hs_ => fun e_ => Nat.not_le.2 hs_ (by rw [e_]; exact GW225.out))) (fun hn_ => (Kd.freshB (g := gb225) (o := .cells #[.int .u64 a1_0, .int .i64 a1_1, .int .u64 a1_2, .int .i64 a1_3] 27 (0, 0)) (by (with_reducible repeat (first | refine blk_drewN ?_ _ | refine blk_drew ?_ | refine blk_alloc ?_ _)); exact BK225.out) k_ hn_)))) (below_size (by repeat (first | (with_reducible first | exact HB.out | apply below_alloc | apply pw_below_drewN | apply below_drew1 | refine below_set ?_ GE225.out) | exact HB.out)))); have n1_ := Aside0.mk (blk_below (g := gb225) (o := .cells #[.int .u64 a1_0, .int .i64 a1_1, .int .u64 a1_2, .int .i64 a1_3] 27 (0, 0)) (by (with_reducible repeat (first | refine blk_drewN ?_ _ | refine blk_drew ?_ | refine blk_alloc ?_ _)); exact BK225.out) hb); have n2_ := Aside0.mk (below_step (by repeat (first | (with_reducible first | exact HB.out | apply below_alloc | apply pw_below_drewN | apply below_drew1 | refine below_set ?_ GE225.out) | exact HB.out)) hb); clear BK225; clear HB; have HO230 := n0_; have BK225 := n1_; have HB := n2_; clear n0_ n1_ n2_; (try clear hb); (try clear hb2); (try clear hk); (try clear hi); (try clear ho0)))
        (try simp only [Act.put, List.setIfInBounds_toArray, List.set_cons_zero, List.set_cons_succ])
        go_cut [29] (fun v29 wc => ∃ (kq : Nat) (x29_13 : Bool), v29 = .bool x29_13 ∧ Aside0 (folkmootlaw15_ContentFinds.j1 kq l0 a2 t228 x29_13 a1_0 a1_1 a1_2 a1_3 = some r) ∧ Aside0 (kq ≤ kj3) ∧ Aside0 (Kd.V k32 32 wc w.heap.size (fun k_ => k_ ≠ gb225) v229 t228) ∧ Aside0 (wc.heap[gb225]? = some (.cells #[.int .u64 a1_0, .int .i64 a1_1, .int .u64 a1_2, .int .i64 a1_3] 27 (0, 0))) ∧ Aside0 (Below w.heap.size w wc))
        case first =>
          have H := HC14.out
          clear HC14
          by_cases c16 : (l0.length : Int) > 0
          · rw [if_pos c16] at H
            have c16b0 : decide (0 < (l0.length : Int)) = true := decide_eq_true c16
            have c16b1 : decide (0 < l0.length) = true := decide_eq_true (by omega)
            clear c16
            (first | rw [c16b0] | (simp only [i64_w, i32_w]; rw [c16b0]) | skip)
            have H' := Aside0.mk H
            clear H
            go_wp2
            go_meet
            case rel => exact ⟨_, (((Int.tmod a2 2) == 0)), (by first | rfl | (simp; done) | (simp [*]; done)), H', ⟨by have := HJ3.out; first | omega | exact Nat.le_refl _⟩, ⟨by (with_reducible repeat (first | apply Kd.V_alloc | apply Kd.V_drewN | apply Kd.V_drew)); exact HO230.out⟩, ⟨by (with_reducible repeat (first | refine blk_drewN ?_ _ | refine blk_drew ?_ | refine blk_alloc ?_ _)); exact BK225.out⟩, ⟨by repeat (first | (with_reducible first | exact HB.out | apply below_alloc | apply pw_below_drewN | apply below_drew1 | refine below_set ?_ GE225.out) | exact HB.out)⟩⟩
          · rw [if_neg c16] at H
            have c16b0 : decide (0 < (l0.length : Int)) = false := decide_eq_false c16
            have c16b1 : decide (0 < l0.length) = false := decide_eq_false (by omega)
            clear c16
            (first | rw [c16b0] | (simp only [i64_w, i32_w]; rw [c16b0]) | skip)
            have H' := Aside0.mk H
            clear H
            go_wp2
            go_meet
            case rel => exact ⟨_, (false), (by first | rfl | (simp; done) | (simp [*]; done)), H', ⟨by have := HJ3.out; first | omega | exact Nat.le_refl _⟩, ⟨by (with_reducible repeat (first | apply Kd.V_alloc | apply Kd.V_drewN | apply Kd.V_drew)); exact HO230.out⟩, ⟨by (with_reducible repeat (first | refine blk_drewN ?_ _ | refine blk_drew ?_ | refine blk_alloc ?_ _)); exact BK225.out⟩, ⟨by repeat (first | (with_reducible first | exact HB.out | apply below_alloc | apply pw_below_drewN | apply below_drew1 | refine below_set ?_ GE225.out) | exact HB.out)⟩⟩
        case rest =>
          clear HC14
          try clear c1
          try clear c2
          try clear p2
          try clear c3
          try clear c7
          try clear c10
          try clear c16
          try clear c16b0
          try clear c16b1
          try clear p2
          obtain ⟨kq, x29_13, rfl, HA, HJ13, HO_7, BK225, HB⟩ := hcut
          cases kq with
          | zero => exact absurd HA.out (by simp [folkmootlaw15_ContentFinds.j1])
          | succ kj13 =>
            have H := HA.out
            clear HA
            simp only [folkmootlaw15_ContentFinds.j1] at H
            by_cases c17 : x29_13 = true
            · subst c17
              have H1 : (if (l0.length : Int) = 0 then (none) else (if 0 ≤ (Int.tmod (wrap64 (a2)) (l0.length : Int)) then (if (Int.tmod (wrap64 (a2)) (l0.length : Int)) < (l0.length : Int) then ((content_Find.f kj13 t228 ((rd_T32 l0 (Int.tmod (wrap64 (a2)) (l0.length : Int))).f0.f0.f0) ((rd_T32 l0 (Int.tmod (wrap64 (a2)) (l0.length : Int))).f0.f0.f1) ((rd_T32 l0 (Int.tmod (wrap64 (a2)) (l0.length : Int))).f0.f1) ((rd_T32 l0 (Int.tmod (wrap64 (a2)) (l0.length : Int))).f0.f2)).bind fun bt232 => ((folkmootref15_Find.f kj13 t228 ((rd_T32 l0 (Int.tmod (wrap64 (a2)) (l0.length : Int))).f0.f0.f0) ((rd_T32 l0 (Int.tmod (wrap64 (a2)) (l0.length : Int))).f0.f0.f1) ((rd_T32 l0 (Int.tmod (wrap64 (a2)) (l0.length : Int))).f0.f1) ((rd_T32 l0 (Int.tmod (wrap64 (a2)) (l0.length : Int))).f0.f2)).bind fun bt236 => (if (bt232.2 == bt236.2) = true then (some ((strOfNums bt232.1).toList == (strOfNums bt236.1).toList)) else (some false)))) else (none)) else (none))) = some r := by rw [if_pos rfl] at H; exact H
              clear H
              have H := H1
              clear H1
              by_cases c18 : (l0.length : Int) = 0
              · rw [if_pos c18] at H
                exact absurd H (by simp)
              · rw [if_neg c18] at H
                have c18b0 : ((l0.length : Int) == 0) = false := beq_eq_false_iff_ne.mpr c18
                have c18b1 : ((l0.length : Int) != 0) = true := bne_iff_ne.mpr c18
                have c18b2 : ¬ (l0 = []) := fun h_ => c18 (by rw [h_]; rfl)
                obtain ⟨ji19, hji19⟩ : ∃ j_ : Int, (Int.tmod (wrap64 (a2)) (l0.length : Int)) = j_ := ⟨_, rfl⟩
                replace H : (if 0 ≤ (ji19) then (if (ji19) < (l0.length : Int) then ((content_Find.f kj13 t228 ((rd_T32 l0 (ji19)).f0.f0.f0) ((rd_T32 l0 (ji19)).f0.f0.f1) ((rd_T32 l0 (ji19)).f0.f1) ((rd_T32 l0 (ji19)).f0.f2)).bind fun bt232 => ((folkmootref15_Find.f kj13 t228 ((rd_T32 l0 (ji19)).f0.f0.f0) ((rd_T32 l0 (ji19)).f0.f0.f1) ((rd_T32 l0 (ji19)).f0.f1) ((rd_T32 l0 (ji19)).f0.f2)).bind fun bt236 => (if (bt232.2 == bt236.2) = true then (some ((strOfNums bt232.1).toList == (strOfNums bt236.1).toList)) else (some false)))) else (none)) else (none)) = some r := by first | (rw [hji19] at H; exact H) | (simp only [hji19] at H ⊢; exact H)
                by_cases c20 : 0 ≤ (ji19)
                · rw [if_pos c20] at H
                  have c20b0 : decide (0 ≤ (ji19)) = true := decide_eq_true c20
                  clear c20
                  by_cases c21 : (ji19) < (l0.length : Int)
                  · rw [if_pos c21] at H
                    have c21b0 : decide ((ji19) < (l0.length : Int)) = true := decide_eq_true c21
                    clear c21
                    replace H := Option.bind_eq_some_iff.mp H
                    obtain ⟨⟨t232, t235⟩, A220, H⟩ := H
                    replace H : ((folkmootref15_Find.f kj13 t228 ((rd_T32 l0 (ji19)).f0.f0.f0) ((rd_T32 l0 (ji19)).f0.f0.f1) ((rd_T32 l0 (ji19)).f0.f1) ((rd_T32 l0 (ji19)).f0.f2)).bind fun bt236 => (if (t235 == bt236.2) = true then (some ((strOfNums t232).toList == (strOfNums bt236.1).toList)) else (some false))) = some r := H
                    have A22 := Aside0.mk A220
                    clear A220
                    replace H := Option.bind_eq_some_iff.mp H
                    obtain ⟨⟨t236, t239⟩, A230, H⟩ := H
                    replace H : (if (t235 == t239) = true then (some ((strOfNums t232).toList == (strOfNums t236).toList)) else (some false)) = some r := H
                    have A23 := Aside0.mk A230
                    clear A230
                    by_cases c24 : (t235 == t239) = true
                    · rw [if_pos c24] at H
                      have c24b0 : (t235 == t239) = true := c24
                      (try (have c24b1 : decide (t235 = t239) = true := by simpa using c24))
                      (try (have c24b2 : (t235 == t239) = true := by simpa using c24))
                      clear c24
                      obtain rfl := Option.some.inj H
                      have p231 : 0 ≤ ((ji19) : Int) := of_decide_eq_true (by first | (with_reducible assumption) | assumption)
                      have q231 : (ji19) < (l0.length : Int) := of_decide_eq_true (by first | (with_reducible assumption) | assumption)
                      obtain ⟨ad231, A231_4, c231_4, e231, hx231_0, hx231_1, hx231_2, hx231_3, hx231_4, hl231_4, hi231_4⟩ := at_T32 HR0.out (ji19) p231 q231
                      cases e231
                      replace hx231_0 := (HB.out.cell (World.block_lt_of_cell? w _ hx231_0)).trans hx231_0
                      replace hx231_1 := (HB.out.cell (World.block_lt_of_cell? w _ hx231_1)).trans hx231_1
                      replace hx231_2 := (HB.out.cell (World.block_lt_of_cell? w _ hx231_2)).trans hx231_2
                      replace hx231_3 := (HB.out.cell (World.block_lt_of_cell? w _ hx231_3)).trans hx231_3
                      replace hx231_4 := (HB.out.cell (World.block_lt_of_cell? w _ hx231_4)).trans hx231_4
                      have HR231_4 := Aside0.mk hi231_4
                      have HC231_4 := Aside0.mk hl231_4
                      clear hi231_4 hl231_4
                      replace p231 := eq_true p231
                      replace q231 := eq_true q231
                      have hcz25_0 : wc.cell? ⟨gb225, 0, none⟩ = some (.int .u64 a1_0) := (blk_cell BK225.out 0).trans rfl
                      have hcz25_1 : wc.cell? ⟨gb225, 1, none⟩ = some (.int .i64 a1_1) := (blk_cell BK225.out 1).trans rfl
                      have hcz25_2 : wc.cell? ⟨gb225, 2, none⟩ = some (.int .u64 a1_2) := (blk_cell BK225.out 2).trans rfl
                      have hcz25_3 : wc.cell? ⟨gb225, 3, none⟩ = some (.int .i64 a1_3) := (blk_cell BK225.out 3).trans rfl
                      have hfz25_0 := blk_frozen BK225.out 0
                      have hfz25_1 := blk_frozen BK225.out 1
                      have hfz25_2 := blk_frozen BK225.out 2
                      have hfz25_3 := blk_frozen BK225.out 3
                      obtain ⟨Ao26, co26, eo26⟩ := Kd.V_slice HO_7.out
                      subst eo26
                      go_wp2_with (first | ((with_reducible refine gate_callee (f := 24) rfl ?_); refine goesL_ (some 42) rfl rfl Try.func24 (by kernel_rfl) rfl #[.slice Ao26 t228.length co26, .agg #[.int .u64 ((rd_T32 l0 (ji19)).f0.f0.f0), .int .i64 ((rd_T32 l0 (ji19)).f0.f0.f1), .int .u64 ((rd_T32 l0 (ji19)).f0.f1), .int .i64 ((rd_T32 l0 (ji19)).f0.f2)]] rfl (by (try simp only [List.map_toArray, List.map_cons, List.map_nil]); first | done | (simp only [hji19]; rfl) | rfl | (simp only [List.length_drop, List.length_take]; rfl)) ?_; (with_reducible refine (content_Find.calls kj13 _ _ t228 ((rd_T32 l0 (ji19)).f0.f0.f0) ((rd_T32 l0 (ji19)).f0.f0.f1) ((rd_T32 l0 (ji19)).f0.f1) ((rd_T32 l0 (ji19)).f0.f2) t232 t235 _ ?side1 ?side2 A22.out).mono ?_); (case side1 => refine (Kd.V_reads' (e := 32) (base := w.heap.size) (ok := fun k_ => k_ ≠ gb225) (n := t228.length) (c := co26) ?_).2.2; exact (by (with_reducible repeat (first | apply Kd.V_alloc | apply Kd.V_drewN | apply Kd.V_drew)); exact (Kd.V_mono (Kd.V_far (p := ⟨gb225, 3, none⟩) (Kd.V_far (p := ⟨gb225, 2, none⟩) (Kd.V_far (p := ⟨gb225, 1, none⟩) (Kd.V_far (p := ⟨gb225, 0, none⟩) (Kd.V_mono HO_7.out (fun k_ hk => (⟨hk, hk⟩ : _ ∧ k_ ≠ gb225))) (fun _ hk => hk.2) (.int .u64 ((rd_T32 l0 (ji19)).f0.f0.f0))) (fun _ hk => hk.2) (.int .i64 ((rd_T32 l0 (ji19)).f0.f0.f1))) (fun _ hk => hk.2) (.int .u64 ((rd_T32 l0 (ji19)).f0.f1))) (fun _ hk => hk.2) (.int .i64 ((rd_T32 l0 (ji19)).f0.f2))) (fun _ h_ => h_.1)))); (case side2 => exact (Kd.V_reads' HO_7.out).2.1); rintro e w27 ⟨v233, rfl, ho0, hb⟩; refine ⟨_, rfl, ?_⟩; have n0_ := Aside0.mk (Kd.V_elder' (by (with_reducible repeat (first | apply Kd.V_alloc | apply Kd.V_drewN | apply Kd.V_drew)); exact (Kd.V_mono (Kd.V_far (p := ⟨gb225, 3, none⟩) (Kd.V_far (p := ⟨gb225, 2, none⟩) (Kd.V_far (p := ⟨gb225, 1, none⟩) (Kd.V_far (p := ⟨gb225, 0, none⟩) (Kd.V_mono HO_7.out (fun k_ hk => (⟨hk, hk⟩ : _ ∧ k_ ≠ gb225))) (fun _ hk => hk.2) (.int .u64 ((rd_T32 l0 (ji19)).f0.f0.f0))) (fun _ hk => hk.2) (.int .i64 ((rd_T32 l0 (ji19)).f0.f0.f1))) (fun _ hk => hk.2) (.int .u64 ((rd_T32 l0 (ji19)).f0.f1))) (fun _ hk => hk.2) (.int .i64 ((rd_T32 l0 (ji19)).f0.f2))) (fun _ h_ => h_.1))) (Kd.R_base ho0) hb); have n1_ := Aside0.mk (Kd.R_lower ho0 (below_size (by repeat (first | (with_reducible first | exact HB.out | apply below_alloc | apply pw_below_drewN | apply below_drew1 | refine below_set ?_ GE225.out) | exact HB.out)))); have n2_ := Aside0.mk (blk_below (g := gb225) (o := .cells #[.int .u64 ((rd_T32 l0 (ji19)).f0.f0.f0), .int .i64 ((rd_T32 l0 (ji19)).f0.f0.f1), .int .u64 ((rd_T32 l0 (ji19)).f0.f1), .int .i64 ((rd_T32 l0 (ji19)).f0.f2)] 27 (0, 0)) (by (with_reducible repeat (first | refine blk_drewN ?_ _ | refine blk_drew ?_ | refine blk_alloc ?_ _)); refine blk_put (cs := #[.int .u64 ((rd_T32 l0 (ji19)).f0.f0.f0), .int .i64 ((rd_T32 l0 (ji19)).f0.f0.f1), .int .u64 ((rd_T32 l0 (ji19)).f0.f1), .int .i64 a1_3]) ?_ 3 _ rfl; (with_reducible repeat (first | refine blk_drewN ?_ _ | refine blk_drew ?_ | refine blk_alloc ?_ _)); refine blk_put (cs := #[.int .u64 ((rd_T32 l0 (ji19)).f0.f0.f0), .int .i64 ((rd_T32 l0 (ji19)).f0.f0.f1), .int .u64 a1_2, .int .i64 a1_3]) ?_ 2 _ rfl; (with_reducible repeat (first | refine blk_drewN ?_ _ | refine blk_drew ?_ | refine blk_alloc ?_ _)); refine blk_put (cs := #[.int .u64 ((rd_T32 l0 (ji19)).f0.f0.f0), .int .i64 a1_1, .int .u64 a1_2, .int .i64 a1_3]) ?_ 1 _ rfl; (with_reducible repeat (first | refine blk_drewN ?_ _ | refine blk_drew ?_ | refine blk_alloc ?_ _)); refine blk_put (cs := #[.int .u64 a1_0, .int .i64 a1_1, .int .u64 a1_2, .int .i64 a1_3]) ?_ 0 _ rfl; (with_reducible repeat (first | refine blk_drewN ?_ _ | refine blk_drew ?_ | refine blk_alloc ?_ _)); exact BK225.out) hb); have n3_ := Aside0.mk (below_step (by repeat (first | (with_reducible first | exact HB.out | apply below_alloc | apply pw_below_drewN | apply below_drew1 | refine below_set ?_ GE225.out) | exact HB.out)) hb); clear HO_7; clear BK225; clear HB; have HO_7 := n0_; have HO234 := n1_; have BK225 := n2_; have HB := n3_; clear n0_ n1_ n2_ n3_; (try clear hb); (try clear hb2); (try clear hk); (try clear hi); (try clear ho0); have hcz28_0 : w27.cell? ⟨gb225, 0, none⟩ = some (.int .u64 ((rd_T32 l0 (ji19)).f0.f0.f0)) := (blk_cell BK225.out 0).trans rfl; have hcz28_1 : w27.cell? ⟨gb225, 1, none⟩ = some (.int .i64 ((rd_T32 l0 (ji19)).f0.f0.f1)) := (blk_cell BK225.out 1).trans rfl; have hcz28_2 : w27.cell? ⟨gb225, 2, none⟩ = some (.int .u64 ((rd_T32 l0 (ji19)).f0.f1)) := (blk_cell BK225.out 2).trans rfl; have hcz28_3 : w27.cell? ⟨gb225, 3, none⟩ = some (.int .i64 ((rd_T32 l0 (ji19)).f0.f2)) := (blk_cell BK225.out 3).trans rfl; have hfz28_0 := blk_frozen BK225.out 0; have hfz28_1 := blk_frozen BK225.out 1; have hfz28_2 := blk_frozen BK225.out 2; have hfz28_3 := blk_frozen BK225.out 3) | ((with_reducible refine gate_callee (f := 25) rfl ?_); refine goesL_ (some 48) rfl rfl Try.func25 (by kernel_rfl) rfl #[.slice Ao26 t228.length co26, .agg #[.int .u64 ((rd_T32 l0 (ji19)).f0.f0.f0), .int .i64 ((rd_T32 l0 (ji19)).f0.f0.f1), .int .u64 ((rd_T32 l0 (ji19)).f0.f1), .int .i64 ((rd_T32 l0 (ji19)).f0.f2)]] rfl (by (try simp only [List.map_toArray, List.map_cons, List.map_nil]); first | done | (simp only [hji19]; rfl) | rfl | (simp only [List.length_drop, List.length_take]; rfl)) ?_; (with_reducible refine (folkmootref15_Find.calls kj13 (fun k_ => (k_ ≠ gb225 ∧ some k_ ≠ (v233 : Value).ownBlock)) _ _ t228 ((rd_T32 l0 (ji19)).f0.f0.f0) ((rd_T32 l0 (ji19)).f0.f0.f1) ((rd_T32 l0 (ji19)).f0.f1) ((rd_T32 l0 (ji19)).f0.f2) t236 t239 _ ?side1 A23.out).mono ?_); (case side1 => exact HO_7.out); rintro e w29 ⟨v237, rfl, ho0, hb⟩; refine ⟨_, rfl, ?_⟩; have n0_ := Aside0.mk (Kd.V_below (by (with_reducible repeat (first | apply Kd.V_alloc | apply Kd.V_drewN | apply Kd.V_drew)); exact HO_7.out) hb); have n1_ := Aside0.mk (Kd.R_below (by (with_reducible repeat (first | apply Kd.R_alloc | apply Kd.R_drewN | apply Kd.R_drew)); exact HO234.out) hb); have n2_ := Aside0.mk (Kd.V_lower (Kd.V_mono (ok' := fun k_ => some k_ ≠ (v233 : Value).ownBlock ∧ k_ ≠ gb225) ho0 (fun k_ hk_ => ⟨Or.elim hk_ (fun hs_ => hs_.2) (fun hn_ => (Kd.fresh' (Kd.R_lt (by (with_reducible repeat (first | apply Kd.R_alloc | apply Kd.R_drewN | apply Kd.R_drew)); exact HO234.out)) k_ hn_)), Or.elim hk_ (fun hs_ => hs_.1) (fun hn_ => (Kd.freshB (g := gb225) (o := .cells #[.int .u64 ((rd_T32 l0 (ji19)).f0.f0.f0), .int .i64 ((rd_T32 l0 (ji19)).f0.f0.f1), .int .u64 ((rd_T32 l0 (ji19)).f0.f1), .int .i64 ((rd_T32 l0 (ji19)).f0.f2)] 27 (0, 0)) (by (with_reducible repeat (first | refine blk_drewN ?_ _ | refine blk_drew ?_ | refine blk_alloc ?_ _)); exact BK225.out) k_ hn_))⟩)) (below_size (by repeat (first | (with_reducible first | exact HB.out | apply below_alloc | apply pw_below_drewN | apply below_drew1 | refine below_set ?_ GE225.out) | exact HB.out)))); have n3_ := Aside0.mk (blk_below (g := gb225) (o := .cells #[.int .u64 ((rd_T32 l0 (ji19)).f0.f0.f0), .int .i64 ((rd_T32 l0 (ji19)).f0.f0.f1), .int .u64 ((rd_T32 l0 (ji19)).f0.f1), .int .i64 ((rd_T32 l0 (ji19)).f0.f2)] 27 (0, 0)) (by (with_reducible repeat (first | refine blk_drewN ?_ _ | refine blk_drew ?_ | refine blk_alloc ?_ _)); exact BK225.out) hb); have n4_ := Aside0.mk (below_step (by repeat (first | (with_reducible first | exact HB.out | apply below_alloc | apply pw_below_drewN | apply below_drew1 | refine below_set ?_ GE225.out) | exact HB.out)) hb); clear HO_7; clear HO234; clear BK225; clear HB; have HO_7 := n0_; have HO234 := n1_; have HO238 := n2_; have BK225 := n3_; have HB := n4_; clear n0_ n1_ n2_ n3_ n4_; (try clear hb); (try clear hb2); (try clear hk); (try clear hi); (try clear ho0); have hcv30 := own_string (P := Try.prog) Try.underlying30 Try.underlying5 Try.underlying9 (Kd.own_of_R HO234.out); have hcv31 := V_string (P := Try.prog) Try.underlying30 Try.underlying5 Try.underlying9 (HO238.out)))
                      go_ret
                      exact ⟨by first | rfl | (simp [errW_none, errW_some] <;> rfl) | (simp only [← hji19]; first | rfl | (simp [errW_none, errW_some] <;> rfl)) | (simp [*, errW_none, errW_some] <;> rfl), by repeat (first | (with_reducible first | exact HB.out | apply below_alloc | apply pw_below_drewN | apply below_drew1 | refine below_set ?_ GE225.out) | exact HB.out)⟩
                    · rw [if_neg c24] at H
                      have c24b0 : (t235 == t239) = false := by simpa using c24
                      (try (have c24b1 : decide (t235 = t239) = false := by simpa using c24))
                      (try (have c24b2 : (t235 == t239) = false := by simpa using c24))
                      (try (have c24b3 : ¬ (t235 = t239) := by simpa using c24))
                      clear c24
                      obtain rfl := Option.some.inj H
                      have p231 : 0 ≤ ((ji19) : Int) := of_decide_eq_true (by first | (with_reducible assumption) | assumption)
                      have q231 : (ji19) < (l0.length : Int) := of_decide_eq_true (by first | (with_reducible assumption) | assumption)
                      obtain ⟨ad231, A231_4, c231_4, e231, hx231_0, hx231_1, hx231_2, hx231_3, hx231_4, hl231_4, hi231_4⟩ := at_T32 HR0.out (ji19) p231 q231
                      cases e231
                      replace hx231_0 := (HB.out.cell (World.block_lt_of_cell? w _ hx231_0)).trans hx231_0
                      replace hx231_1 := (HB.out.cell (World.block_lt_of_cell? w _ hx231_1)).trans hx231_1
                      replace hx231_2 := (HB.out.cell (World.block_lt_of_cell? w _ hx231_2)).trans hx231_2
                      replace hx231_3 := (HB.out.cell (World.block_lt_of_cell? w _ hx231_3)).trans hx231_3
                      replace hx231_4 := (HB.out.cell (World.block_lt_of_cell? w _ hx231_4)).trans hx231_4
                      have HR231_4 := Aside0.mk hi231_4
                      have HC231_4 := Aside0.mk hl231_4
                      clear hi231_4 hl231_4
                      replace p231 := eq_true p231
                      replace q231 := eq_true q231
                      have hcz32_0 : wc.cell? ⟨gb225, 0, none⟩ = some (.int .u64 a1_0) := (blk_cell BK225.out 0).trans rfl
                      have hcz32_1 : wc.cell? ⟨gb225, 1, none⟩ = some (.int .i64 a1_1) := (blk_cell BK225.out 1).trans rfl
                      have hcz32_2 : wc.cell? ⟨gb225, 2, none⟩ = some (.int .u64 a1_2) := (blk_cell BK225.out 2).trans rfl
                      have hcz32_3 : wc.cell? ⟨gb225, 3, none⟩ = some (.int .i64 a1_3) := (blk_cell BK225.out 3).trans rfl
                      have hfz32_0 := blk_frozen BK225.out 0
                      have hfz32_1 := blk_frozen BK225.out 1
                      have hfz32_2 := blk_frozen BK225.out 2
                      have hfz32_3 := blk_frozen BK225.out 3
                      obtain ⟨Ao33, co33, eo33⟩ := Kd.V_slice HO_7.out
                      subst eo33
                      go_wp2_with (first | ((with_reducible refine gate_callee (f := 24) rfl ?_); refine goesL_ (some 42) rfl rfl Try.func24 (by kernel_rfl) rfl #[.slice Ao33 t228.length co33, .agg #[.int .u64 ((rd_T32 l0 (ji19)).f0.f0.f0), .int .i64 ((rd_T32 l0 (ji19)).f0.f0.f1), .int .u64 ((rd_T32 l0 (ji19)).f0.f1), .int .i64 ((rd_T32 l0 (ji19)).f0.f2)]] rfl (by (try simp only [List.map_toArray, List.map_cons, List.map_nil]); first | done | (simp only [hji19]; rfl) | rfl | (simp only [List.length_drop, List.length_take]; rfl)) ?_; (with_reducible refine (content_Find.calls kj13 _ _ t228 ((rd_T32 l0 (ji19)).f0.f0.f0) ((rd_T32 l0 (ji19)).f0.f0.f1) ((rd_T32 l0 (ji19)).f0.f1) ((rd_T32 l0 (ji19)).f0.f2) t232 t235 _ ?side1 ?side2 A22.out).mono ?_); (case side1 => refine (Kd.V_reads' (e := 32) (base := w.heap.size) (ok := fun k_ => k_ ≠ gb225) (n := t228.length) (c := co33) ?_).2.2; exact (by (with_reducible repeat (first | apply Kd.V_alloc | apply Kd.V_drewN | apply Kd.V_drew)); exact (Kd.V_mono (Kd.V_far (p := ⟨gb225, 3, none⟩) (Kd.V_far (p := ⟨gb225, 2, none⟩) (Kd.V_far (p := ⟨gb225, 1, none⟩) (Kd.V_far (p := ⟨gb225, 0, none⟩) (Kd.V_mono HO_7.out (fun k_ hk => (⟨hk, hk⟩ : _ ∧ k_ ≠ gb225))) (fun _ hk => hk.2) (.int .u64 ((rd_T32 l0 (ji19)).f0.f0.f0))) (fun _ hk => hk.2) (.int .i64 ((rd_T32 l0 (ji19)).f0.f0.f1))) (fun _ hk => hk.2) (.int .u64 ((rd_T32 l0 (ji19)).f0.f1))) (fun _ hk => hk.2) (.int .i64 ((rd_T32 l0 (ji19)).f0.f2))) (fun _ h_ => h_.1)))); (case side2 => exact (Kd.V_reads' HO_7.out).2.1); rintro e w34 ⟨v233, rfl, ho0, hb⟩; refine ⟨_, rfl, ?_⟩; have n0_ := Aside0.mk (Kd.V_elder' (by (with_reducible repeat (first | apply Kd.V_alloc | apply Kd.V_drewN | apply Kd.V_drew)); exact (Kd.V_mono (Kd.V_far (p := ⟨gb225, 3, none⟩) (Kd.V_far (p := ⟨gb225, 2, none⟩) (Kd.V_far (p := ⟨gb225, 1, none⟩) (Kd.V_far (p := ⟨gb225, 0, none⟩) (Kd.V_mono HO_7.out (fun k_ hk => (⟨hk, hk⟩ : _ ∧ k_ ≠ gb225))) (fun _ hk => hk.2) (.int .u64 ((rd_T32 l0 (ji19)).f0.f0.f0))) (fun _ hk => hk.2) (.int .i64 ((rd_T32 l0 (ji19)).f0.f0.f1))) (fun _ hk => hk.2) (.int .u64 ((rd_T32 l0 (ji19)).f0.f1))) (fun _ hk => hk.2) (.int .i64 ((rd_T32 l0 (ji19)).f0.f2))) (fun _ h_ => h_.1))) (Kd.R_base ho0) hb); have n1_ := Aside0.mk (Kd.R_lower ho0 (below_size (by repeat (first | (with_reducible first | exact HB.out | apply below_alloc | apply pw_below_drewN | apply below_drew1 | refine below_set ?_ GE225.out) | exact HB.out)))); have n2_ := Aside0.mk (blk_below (g := gb225) (o := .cells #[.int .u64 ((rd_T32 l0 (ji19)).f0.f0.f0), .int .i64 ((rd_T32 l0 (ji19)).f0.f0.f1), .int .u64 ((rd_T32 l0 (ji19)).f0.f1), .int .i64 ((rd_T32 l0 (ji19)).f0.f2)] 27 (0, 0)) (by (with_reducible repeat (first | refine blk_drewN ?_ _ | refine blk_drew ?_ | refine blk_alloc ?_ _)); refine blk_put (cs := #[.int .u64 ((rd_T32 l0 (ji19)).f0.f0.f0), .int .i64 ((rd_T32 l0 (ji19)).f0.f0.f1), .int .u64 ((rd_T32 l0 (ji19)).f0.f1), .int .i64 a1_3]) ?_ 3 _ rfl; (with_reducible repeat (first | refine blk_drewN ?_ _ | refine blk_drew ?_ | refine blk_alloc ?_ _)); refine blk_put (cs := #[.int .u64 ((rd_T32 l0 (ji19)).f0.f0.f0), .int .i64 ((rd_T32 l0 (ji19)).f0.f0.f1), .int .u64 a1_2, .int .i64 a1_3]) ?_ 2 _ rfl; (with_reducible repeat (first | refine blk_drewN ?_ _ | refine blk_drew ?_ | refine blk_alloc ?_ _)); refine blk_put (cs := #[.int .u64 ((rd_T32 l0 (ji19)).f0.f0.f0), .int .i64 a1_1, .int .u64 a1_2, .int .i64 a1_3]) ?_ 1 _ rfl; (with_reducible repeat (first | refine blk_drewN ?_ _ | refine blk_drew ?_ | refine blk_alloc ?_ _)); refine blk_put (cs := #[.int .u64 a1_0, .int .i64 a1_1, .int .u64 a1_2, .int .i64 a1_3]) ?_ 0 _ rfl; (with_reducible repeat (first | refine blk_drewN ?_ _ | refine blk_drew ?_ | refine blk_alloc ?_ _)); exact BK225.out) hb); have n3_ := Aside0.mk (below_step (by repeat (first | (with_reducible first | exact HB.out | apply below_alloc | apply pw_below_drewN | apply below_drew1 | refine below_set ?_ GE225.out) | exact HB.out)) hb); clear HO_7; clear BK225; clear HB; have HO_7 := n0_; have HO234 := n1_; have BK225 := n2_; have HB := n3_; clear n0_ n1_ n2_ n3_; (try clear hb); (try clear hb2); (try clear hk); (try clear hi); (try clear ho0); have hcz35_0 : w34.cell? ⟨gb225, 0, none⟩ = some (.int .u64 ((rd_T32 l0 (ji19)).f0.f0.f0)) := (blk_cell BK225.out 0).trans rfl; have hcz35_1 : w34.cell? ⟨gb225, 1, none⟩ = some (.int .i64 ((rd_T32 l0 (ji19)).f0.f0.f1)) := (blk_cell BK225.out 1).trans rfl; have hcz35_2 : w34.cell? ⟨gb225, 2, none⟩ = some (.int .u64 ((rd_T32 l0 (ji19)).f0.f1)) := (blk_cell BK225.out 2).trans rfl; have hcz35_3 : w34.cell? ⟨gb225, 3, none⟩ = some (.int .i64 ((rd_T32 l0 (ji19)).f0.f2)) := (blk_cell BK225.out 3).trans rfl; have hfz35_0 := blk_frozen BK225.out 0; have hfz35_1 := blk_frozen BK225.out 1; have hfz35_2 := blk_frozen BK225.out 2; have hfz35_3 := blk_frozen BK225.out 3) | ((with_reducible refine gate_callee (f := 25) rfl ?_); refine goesL_ (some 48) rfl rfl Try.func25 (by kernel_rfl) rfl #[.slice Ao33 t228.length co33, .agg #[.int .u64 ((rd_T32 l0 (ji19)).f0.f0.f0), .int .i64 ((rd_T32 l0 (ji19)).f0.f0.f1), .int .u64 ((rd_T32 l0 (ji19)).f0.f1), .int .i64 ((rd_T32 l0 (ji19)).f0.f2)]] rfl (by (try simp only [List.map_toArray, List.map_cons, List.map_nil]); first | done | (simp only [hji19]; rfl) | rfl | (simp only [List.length_drop, List.length_take]; rfl)) ?_; (with_reducible refine (folkmootref15_Find.calls kj13 (fun k_ => (k_ ≠ gb225 ∧ some k_ ≠ (v233 : Value).ownBlock)) _ _ t228 ((rd_T32 l0 (ji19)).f0.f0.f0) ((rd_T32 l0 (ji19)).f0.f0.f1) ((rd_T32 l0 (ji19)).f0.f1) ((rd_T32 l0 (ji19)).f0.f2) t236 t239 _ ?side1 A23.out).mono ?_); (case side1 => exact HO_7.out); rintro e w36 ⟨v237, rfl, ho0, hb⟩; refine ⟨_, rfl, ?_⟩; have n0_ := Aside0.mk (Kd.V_below (by (with_reducible repeat (first | apply Kd.V_alloc | apply Kd.V_drewN | apply Kd.V_drew)); exact HO_7.out) hb); have n1_ := Aside0.mk (Kd.R_below (by (with_reducible repeat (first | apply Kd.R_alloc | apply Kd.R_drewN | apply Kd.R_drew)); exact HO234.out) hb); have n2_ := Aside0.mk (Kd.V_lower (Kd.V_mono (ok' := fun k_ => some k_ ≠ (v233 : Value).ownBlock ∧ k_ ≠ gb225) ho0 (fun k_ hk_ => ⟨Or.elim hk_ (fun hs_ => hs_.2) (fun hn_ => (Kd.fresh' (Kd.R_lt (by (with_reducible repeat (first | apply Kd.R_alloc | apply Kd.R_drewN | apply Kd.R_drew)); exact HO234.out)) k_ hn_)), Or.elim hk_ (fun hs_ => hs_.1) (fun hn_ => (Kd.freshB (g := gb225) (o := .cells #[.int .u64 ((rd_T32 l0 (ji19)).f0.f0.f0), .int .i64 ((rd_T32 l0 (ji19)).f0.f0.f1), .int .u64 ((rd_T32 l0 (ji19)).f0.f1), .int .i64 ((rd_T32 l0 (ji19)).f0.f2)] 27 (0, 0)) (by (with_reducible repeat (first | refine blk_drewN ?_ _ | refine blk_drew ?_ | refine blk_alloc ?_ _)); exact BK225.out) k_ hn_))⟩)) (below_size (by repeat (first | (with_reducible first | exact HB.out | apply below_alloc | apply pw_below_drewN | apply below_drew1 | refine below_set ?_ GE225.out) | exact HB.out)))); have n3_ := Aside0.mk (blk_below (g := gb225) (o := .cells #[.int .u64 ((rd_T32 l0 (ji19)).f0.f0.f0), .int .i64 ((rd_T32 l0 (ji19)).f0.f0.f1), .int .u64 ((rd_T32 l0 (ji19)).f0.f1), .int .i64 ((rd_T32 l0 (ji19)).f0.f2)] 27 (0, 0)) (by (with_reducible repeat (first | refine blk_drewN ?_ _ | refine blk_drew ?_ | refine blk_alloc ?_ _)); exact BK225.out) hb); have n4_ := Aside0.mk (below_step (by repeat (first | (with_reducible first | exact HB.out | apply below_alloc | apply pw_below_drewN | apply below_drew1 | refine below_set ?_ GE225.out) | exact HB.out)) hb); clear HO_7; clear HO234; clear BK225; clear HB; have HO_7 := n0_; have HO234 := n1_; have HO238 := n2_; have BK225 := n3_; have HB := n4_; clear n0_ n1_ n2_ n3_ n4_; (try clear hb); (try clear hb2); (try clear hk); (try clear hi); (try clear ho0)))
                      go_ret
                      exact ⟨by first | rfl | (simp [errW_none, errW_some] <;> rfl) | (simp only [← hji19]; first | rfl | (simp [errW_none, errW_some] <;> rfl)) | (simp [*, errW_none, errW_some] <;> rfl), by repeat (first | (with_reducible first | exact HB.out | apply below_alloc | apply pw_below_drewN | apply below_drew1 | refine below_set ?_ GE225.out) | exact HB.out)⟩
                  · rw [if_neg c21] at H
                    exact absurd H (by simp)
                · rw [if_neg c20] at H
                  exact absurd H (by simp)
            · replace c17 := Bool.eq_false_iff.mpr c17
              subst c17
              have H1 : ((content_Find.f kj13 t228 a1_0 a1_1 a1_2 a1_3).bind fun bt240 => ((folkmootref15_Find.f kj13 t228 a1_0 a1_1 a1_2 a1_3).bind fun bt244 => (if (bt240.2 == bt244.2) = true then (some ((strOfNums bt240.1).toList == (strOfNums bt244.1).toList)) else (some false)))) = some r := by rw [if_neg (show ¬ (false = true) by decide)] at H; exact H
              clear H
              have H := H1
              clear H1
              replace H := Option.bind_eq_some_iff.mp H
              obtain ⟨⟨t240, t243⟩, A370, H⟩ := H
              replace H : ((folkmootref15_Find.f kj13 t228 a1_0 a1_1 a1_2 a1_3).bind fun bt244 => (if (t243 == bt244.2) = true then (some ((strOfNums t240).toList == (strOfNums bt244.1).toList)) else (some false))) = some r := H
              have A37 := Aside0.mk A370
              clear A370
              replace H := Option.bind_eq_some_iff.mp H
              obtain ⟨⟨t244, t247⟩, A380, H⟩ := H
              replace H : (if (t243 == t247) = true then (some ((strOfNums t240).toList == (strOfNums t244).toList)) else (some false)) = some r := H
              have A38 := Aside0.mk A380
              clear A380
              by_cases c39 : (t243 == t247) = true
              · rw [if_pos c39] at H
                have c39b0 : (t243 == t247) = true := c39
                (try (have c39b1 : decide (t243 = t247) = true := by simpa using c39))
                (try (have c39b2 : (t243 == t247) = true := by simpa using c39))
                clear c39
                obtain rfl := Option.some.inj H
                have hcz40_0 : wc.cell? ⟨gb225, 0, none⟩ = some (.int .u64 a1_0) := (blk_cell BK225.out 0).trans rfl
                have hcz40_1 : wc.cell? ⟨gb225, 1, none⟩ = some (.int .i64 a1_1) := (blk_cell BK225.out 1).trans rfl
                have hcz40_2 : wc.cell? ⟨gb225, 2, none⟩ = some (.int .u64 a1_2) := (blk_cell BK225.out 2).trans rfl
                have hcz40_3 : wc.cell? ⟨gb225, 3, none⟩ = some (.int .i64 a1_3) := (blk_cell BK225.out 3).trans rfl
                have hfz40_0 := blk_frozen BK225.out 0
                have hfz40_1 := blk_frozen BK225.out 1
                have hfz40_2 := blk_frozen BK225.out 2
                have hfz40_3 := blk_frozen BK225.out 3
                obtain ⟨Ao41, co41, eo41⟩ := Kd.V_slice HO_7.out
                subst eo41
                go_wp2_with (first | ((with_reducible refine gate_callee (f := 24) rfl ?_); refine goesL_ (some 42) rfl rfl Try.func24 (by kernel_rfl) rfl #[.slice Ao41 t228.length co41, .agg #[.int .u64 a1_0, .int .i64 a1_1, .int .u64 a1_2, .int .i64 a1_3]] rfl (by (try simp only [List.map_toArray, List.map_cons, List.map_nil]); first | done | rfl | (simp only [List.length_drop, List.length_take]; rfl)) ?_; (with_reducible refine (content_Find.calls kj13 _ _ t228 a1_0 a1_1 a1_2 a1_3 t240 t243 _ ?side1 ?side2 A37.out).mono ?_); (case side1 => repeat (first | exact (Kd.V_reads' HO_7.out).2.2 | (with_reducible refine Kd.C_alloc ?_ _) | (with_reducible refine Kd.C_drewN ?_ _) | (with_reducible refine Kd.C_drew ?_))); (case side2 => exact (Kd.V_reads' HO_7.out).2.1); rintro e w42 ⟨v241, rfl, ho0, hb⟩; refine ⟨_, rfl, ?_⟩; have n0_ := Aside0.mk (Kd.V_elder' (by (with_reducible repeat (first | apply Kd.V_alloc | apply Kd.V_drewN | apply Kd.V_drew)); exact HO_7.out) (Kd.R_base ho0) hb); have n1_ := Aside0.mk (Kd.R_lower ho0 (below_size (by repeat (first | (with_reducible first | exact HB.out | apply below_alloc | apply pw_below_drewN | apply below_drew1 | refine below_set ?_ GE225.out) | exact HB.out)))); have n2_ := Aside0.mk (blk_below (g := gb225) (o := .cells #[.int .u64 a1_0, .int .i64 a1_1, .int .u64 a1_2, .int .i64 a1_3] 27 (0, 0)) (by (with_reducible repeat (first | refine blk_drewN ?_ _ | refine blk_drew ?_ | refine blk_alloc ?_ _)); exact BK225.out) hb); have n3_ := Aside0.mk (below_step (by repeat (first | (with_reducible first | exact HB.out | apply below_alloc | apply pw_below_drewN | apply below_drew1 | refine below_set ?_ GE225.out) | exact HB.out)) hb); clear HO_7; clear BK225; clear HB; have HO_7 := n0_; have HO242 := n1_; have BK225 := n2_; have HB := n3_; clear n0_ n1_ n2_ n3_; (try clear hb); (try clear hb2); (try clear hk); (try clear hi); (try clear ho0); have hcz43_0 : w42.cell? ⟨gb225, 0, none⟩ = some (.int .u64 a1_0) := (blk_cell BK225.out 0).trans rfl; have hcz43_1 : w42.cell? ⟨gb225, 1, none⟩ = some (.int .i64 a1_1) := (blk_cell BK225.out 1).trans rfl; have hcz43_2 : w42.cell? ⟨gb225, 2, none⟩ = some (.int .u64 a1_2) := (blk_cell BK225.out 2).trans rfl; have hcz43_3 : w42.cell? ⟨gb225, 3, none⟩ = some (.int .i64 a1_3) := (blk_cell BK225.out 3).trans rfl; have hfz43_0 := blk_frozen BK225.out 0; have hfz43_1 := blk_frozen BK225.out 1; have hfz43_2 := blk_frozen BK225.out 2; have hfz43_3 := blk_frozen BK225.out 3) | ((with_reducible refine gate_callee (f := 25) rfl ?_); refine goesL_ (some 48) rfl rfl Try.func25 (by kernel_rfl) rfl #[.slice Ao41 t228.length co41, .agg #[.int .u64 a1_0, .int .i64 a1_1, .int .u64 a1_2, .int .i64 a1_3]] rfl (by (try simp only [List.map_toArray, List.map_cons, List.map_nil]); first | done | rfl | (simp only [List.length_drop, List.length_take]; rfl)) ?_; (with_reducible refine (folkmootref15_Find.calls kj13 (fun k_ => (k_ ≠ gb225 ∧ some k_ ≠ (v241 : Value).ownBlock)) _ _ t228 a1_0 a1_1 a1_2 a1_3 t244 t247 _ ?side1 A38.out).mono ?_); (case side1 => exact HO_7.out); rintro e w44 ⟨v245, rfl, ho0, hb⟩; refine ⟨_, rfl, ?_⟩; have n0_ := Aside0.mk (Kd.V_below (by (with_reducible repeat (first | apply Kd.V_alloc | apply Kd.V_drewN | apply Kd.V_drew)); exact HO_7.out) hb); have n1_ := Aside0.mk (Kd.R_below (by (with_reducible repeat (first | apply Kd.R_alloc | apply Kd.R_drewN | apply Kd.R_drew)); exact HO242.out) hb); have n2_ := Aside0.mk (Kd.V_lower (Kd.V_mono (ok' := fun k_ => some k_ ≠ (v241 : Value).ownBlock ∧ k_ ≠ gb225) ho0 (fun k_ hk_ => ⟨Or.elim hk_ (fun hs_ => hs_.2) (fun hn_ => (Kd.fresh' (Kd.R_lt (by (with_reducible repeat (first | apply Kd.R_alloc | apply Kd.R_drewN | apply Kd.R_drew)); exact HO242.out)) k_ hn_)), Or.elim hk_ (fun hs_ => hs_.1) (fun hn_ => (Kd.freshB (g := gb225) (o := .cells #[.int .u64 a1_0, .int .i64 a1_1, .int .u64 a1_2, .int .i64 a1_3] 27 (0, 0)) (by (with_reducible repeat (first | refine blk_drewN ?_ _ | refine blk_drew ?_ | refine blk_alloc ?_ _)); exact BK225.out) k_ hn_))⟩)) (below_size (by repeat (first | (with_reducible first | exact HB.out | apply below_alloc | apply pw_below_drewN | apply below_drew1 | refine below_set ?_ GE225.out) | exact HB.out)))); have n3_ := Aside0.mk (blk_below (g := gb225) (o := .cells #[.int .u64 a1_0, .int .i64 a1_1, .int .u64 a1_2, .int .i64 a1_3] 27 (0, 0)) (by (with_reducible repeat (first | refine blk_drewN ?_ _ | refine blk_drew ?_ | refine blk_alloc ?_ _)); exact BK225.out) hb); have n4_ := Aside0.mk (below_step (by repeat (first | (with_reducible first | exact HB.out | apply below_alloc | apply pw_below_drewN | apply below_drew1 | refine below_set ?_ GE225.out) | exact HB.out)) hb); clear HO_7; clear HO242; clear BK225; clear HB; have HO_7 := n0_; have HO242 := n1_; have HO246 := n2_; have BK225 := n3_; have HB := n4_; clear n0_ n1_ n2_ n3_ n4_; (try clear hb); (try clear hb2); (try clear hk); (try clear hi); (try clear ho0); have hcv45 := own_string (P := Try.prog) Try.underlying30 Try.underlying5 Try.underlying9 (Kd.own_of_R HO242.out); have hcv46 := V_string (P := Try.prog) Try.underlying30 Try.underlying5 Try.underlying9 (HO246.out)))
                go_ret
                exact ⟨by first | rfl | (simp [errW_none, errW_some] <;> rfl) | (simp [*, errW_none, errW_some] <;> rfl), by repeat (first | (with_reducible first | exact HB.out | apply below_alloc | apply pw_below_drewN | apply below_drew1 | refine below_set ?_ GE225.out) | exact HB.out)⟩
              · rw [if_neg c39] at H
                have c39b0 : (t243 == t247) = false := by simpa using c39
                (try (have c39b1 : decide (t243 = t247) = false := by simpa using c39))
                (try (have c39b2 : (t243 == t247) = false := by simpa using c39))
                (try (have c39b3 : ¬ (t243 = t247) := by simpa using c39))
                clear c39
                obtain rfl := Option.some.inj H
                have hcz47_0 : wc.cell? ⟨gb225, 0, none⟩ = some (.int .u64 a1_0) := (blk_cell BK225.out 0).trans rfl
                have hcz47_1 : wc.cell? ⟨gb225, 1, none⟩ = some (.int .i64 a1_1) := (blk_cell BK225.out 1).trans rfl
                have hcz47_2 : wc.cell? ⟨gb225, 2, none⟩ = some (.int .u64 a1_2) := (blk_cell BK225.out 2).trans rfl
                have hcz47_3 : wc.cell? ⟨gb225, 3, none⟩ = some (.int .i64 a1_3) := (blk_cell BK225.out 3).trans rfl
                have hfz47_0 := blk_frozen BK225.out 0
                have hfz47_1 := blk_frozen BK225.out 1
                have hfz47_2 := blk_frozen BK225.out 2
                have hfz47_3 := blk_frozen BK225.out 3
                obtain ⟨Ao48, co48, eo48⟩ := Kd.V_slice HO_7.out
                subst eo48
                go_wp2_with (first | ((with_reducible refine gate_callee (f := 24) rfl ?_); refine goesL_ (some 42) rfl rfl Try.func24 (by kernel_rfl) rfl #[.slice Ao48 t228.length co48, .agg #[.int .u64 a1_0, .int .i64 a1_1, .int .u64 a1_2, .int .i64 a1_3]] rfl (by (try simp only [List.map_toArray, List.map_cons, List.map_nil]); first | done | rfl | (simp only [List.length_drop, List.length_take]; rfl)) ?_; (with_reducible refine (content_Find.calls kj13 _ _ t228 a1_0 a1_1 a1_2 a1_3 t240 t243 _ ?side1 ?side2 A37.out).mono ?_); (case side1 => repeat (first | exact (Kd.V_reads' HO_7.out).2.2 | (with_reducible refine Kd.C_alloc ?_ _) | (with_reducible refine Kd.C_drewN ?_ _) | (with_reducible refine Kd.C_drew ?_))); (case side2 => exact (Kd.V_reads' HO_7.out).2.1); rintro e w49 ⟨v241, rfl, ho0, hb⟩; refine ⟨_, rfl, ?_⟩; have n0_ := Aside0.mk (Kd.V_elder' (by (with_reducible repeat (first | apply Kd.V_alloc | apply Kd.V_drewN | apply Kd.V_drew)); exact HO_7.out) (Kd.R_base ho0) hb); have n1_ := Aside0.mk (Kd.R_lower ho0 (below_size (by repeat (first | (with_reducible first | exact HB.out | apply below_alloc | apply pw_below_drewN | apply below_drew1 | refine below_set ?_ GE225.out) | exact HB.out)))); have n2_ := Aside0.mk (blk_below (g := gb225) (o := .cells #[.int .u64 a1_0, .int .i64 a1_1, .int .u64 a1_2, .int .i64 a1_3] 27 (0, 0)) (by (with_reducible repeat (first | refine blk_drewN ?_ _ | refine blk_drew ?_ | refine blk_alloc ?_ _)); exact BK225.out) hb); have n3_ := Aside0.mk (below_step (by repeat (first | (with_reducible first | exact HB.out | apply below_alloc | apply pw_below_drewN | apply below_drew1 | refine below_set ?_ GE225.out) | exact HB.out)) hb); clear HO_7; clear BK225; clear HB; have HO_7 := n0_; have HO242 := n1_; have BK225 := n2_; have HB := n3_; clear n0_ n1_ n2_ n3_; (try clear hb); (try clear hb2); (try clear hk); (try clear hi); (try clear ho0); have hcz50_0 : w49.cell? ⟨gb225, 0, none⟩ = some (.int .u64 a1_0) := (blk_cell BK225.out 0).trans rfl; have hcz50_1 : w49.cell? ⟨gb225, 1, none⟩ = some (.int .i64 a1_1) := (blk_cell BK225.out 1).trans rfl; have hcz50_2 : w49.cell? ⟨gb225, 2, none⟩ = some (.int .u64 a1_2) := (blk_cell BK225.out 2).trans rfl; have hcz50_3 : w49.cell? ⟨gb225, 3, none⟩ = some (.int .i64 a1_3) := (blk_cell BK225.out 3).trans rfl; have hfz50_0 := blk_frozen BK225.out 0; have hfz50_1 := blk_frozen BK225.out 1; have hfz50_2 := blk_frozen BK225.out 2; have hfz50_3 := blk_frozen BK225.out 3) | ((with_reducible refine gate_callee (f := 25) rfl ?_); refine goesL_ (some 48) rfl rfl Try.func25 (by kernel_rfl) rfl #[.slice Ao48 t228.length co48, .agg #[.int .u64 a1_0, .int .i64 a1_1, .int .u64 a1_2, .int .i64 a1_3]] rfl (by (try simp only [List.map_toArray, List.map_cons, List.map_nil]); first | done | rfl | (simp only [List.length_drop, List.length_take]; rfl)) ?_; (with_reducible refine (folkmootref15_Find.calls kj13 (fun k_ => (k_ ≠ gb225 ∧ some k_ ≠ (v241 : Value).ownBlock)) _ _ t228 a1_0 a1_1 a1_2 a1_3 t244 t247 _ ?side1 A38.out).mono ?_); (case side1 => exact HO_7.out); rintro e w51 ⟨v245, rfl, ho0, hb⟩; refine ⟨_, rfl, ?_⟩; have n0_ := Aside0.mk (Kd.V_below (by (with_reducible repeat (first | apply Kd.V_alloc | apply Kd.V_drewN | apply Kd.V_drew)); exact HO_7.out) hb); have n1_ := Aside0.mk (Kd.R_below (by (with_reducible repeat (first | apply Kd.R_alloc | apply Kd.R_drewN | apply Kd.R_drew)); exact HO242.out) hb); have n2_ := Aside0.mk (Kd.V_lower (Kd.V_mono (ok' := fun k_ => some k_ ≠ (v241 : Value).ownBlock ∧ k_ ≠ gb225) ho0 (fun k_ hk_ => ⟨Or.elim hk_ (fun hs_ => hs_.2) (fun hn_ => (Kd.fresh' (Kd.R_lt (by (with_reducible repeat (first | apply Kd.R_alloc | apply Kd.R_drewN | apply Kd.R_drew)); exact HO242.out)) k_ hn_)), Or.elim hk_ (fun hs_ => hs_.1) (fun hn_ => (Kd.freshB (g := gb225) (o := .cells #[.int .u64 a1_0, .int .i64 a1_1, .int .u64 a1_2, .int .i64 a1_3] 27 (0, 0)) (by (with_reducible repeat (first | refine blk_drewN ?_ _ | refine blk_drew ?_ | refine blk_alloc ?_ _)); exact BK225.out) k_ hn_))⟩)) (below_size (by repeat (first | (with_reducible first | exact HB.out | apply below_alloc | apply pw_below_drewN | apply below_drew1 | refine below_set ?_ GE225.out) | exact HB.out)))); have n3_ := Aside0.mk (blk_below (g := gb225) (o := .cells #[.int .u64 a1_0, .int .i64 a1_1, .int .u64 a1_2, .int .i64 a1_3] 27 (0, 0)) (by (with_reducible repeat (first | refine blk_drewN ?_ _ | refine blk_drew ?_ | refine blk_alloc ?_ _)); exact BK225.out) hb); have n4_ := Aside0.mk (below_step (by repeat (first | (with_reducible first | exact HB.out | apply below_alloc | apply pw_below_drewN | apply below_drew1 | refine below_set ?_ GE225.out) | exact HB.out)) hb); clear HO_7; clear HO242; clear BK225; clear HB; have HO_7 := n0_; have HO242 := n1_; have HO246 := n2_; have BK225 := n3_; have HB := n4_; clear n0_ n1_ n2_ n3_ n4_; (try clear hb); (try clear hb2); (try clear hk); (try clear hi); (try clear ho0)))
                go_ret
                exact ⟨by first | rfl | (simp [errW_none, errW_some] <;> rfl) | (simp [*, errW_none, errW_some] <;> rfl), by repeat (first | (with_reducible first | exact HB.out | apply below_alloc | apply pw_below_drewN | apply below_drew1 | refine below_set ?_ GE225.out) | exact HB.out)⟩

end Go.Proofs.Ytioooiflpabngaa.PAll

namespace Go.Proofs.Ytioooiflpabngaa.PAll
open Go.RowKit Go.Proofs.YtioooiflpabngaaW.PrintWords
set_option linter.unusedVariables false
set_option linter.unusedSimpArgs false
theorem finds_last (l : List S32) (b : S27) (hr : Rise l) (hl : l.length < 4611686018427387904) (hb : ∀ x ∈ l, x.f1.length < 140737488355328) :
    Ev (fun k => (content_Find.f k l b.f0.f0 b.f0.f1 b.f1 b.f2).bind fun bt240 => ((folkmootref15_Find.f k l b.f0.f0 b.f0.f1 b.f1 b.f2).bind fun bt244 => (if (bt240.2 == bt244.2) = true then (some ((strOfNums bt240.1).toList == (strOfNums bt244.1).toList)) else (some false)))) true := by
  refine Ev.bind (find_ev l b hr hl hb) (Ev.bind (refFind_ev l b (by omega)) (Ev.const fun _ => ?_))
  simp
theorem pure_ContentFinds (l0 : List S32) (x1 : S27) (a2 : Int) (h0 : rightEs l0) (h1 : rightL x1) (h2 : (Lit.int .u8 a2).wf = true) :
    ∃ k, folkmootlaw15_ContentFinds.f k l0 x1.f0.f0 x1.f0.f1 x1.f1 x1.f2 a2 = some true := by
  refine Ev.get ?_
  unfold folkmootlaw15_ContentFinds.f folkmootlaw15_awake.f
  simp only [Option.bind_some, if_true]
  by_cases hl : l0.length > 150
  · refine Ev.step (b := fun _ => some true) (fun k => ?_) (Ev.const fun _ => rfl)
    rw [folkmootlaw15_ContentFinds.j0, if_pos (by simp; omega)]
    rfl
  · have hm := mergeR_length l0 []
    simp only [List.length_nil, Nat.zero_add] at hm
    have hrise : Rise (mergeR [] l0) := mergeR_rise rise_nil
    have hb : ∀ x ∈ mergeR [] l0, x.f1.length < 140737488355328 := fun x hx => by
      rcases mem_mergeR hx with h | h
      · simp at h
      · exact rightB_len (h0.2 x h).2
    have last := fun b => finds_last (mergeR [] l0) b hrise (by omega) hb
    have hfalse : ∀ c : Bool, c = false → Ev (fun k => folkmootlaw15_ContentFinds.j1 k l0 a2 (mergeR [] l0) c x1.f0.f0 x1.f0.f1 x1.f1 x1.f2) true := by
      rintro c rfl
      refine Ev.step (fun k => ?_) (last x1)
      rw [folkmootlaw15_ContentFinds.j1, if_neg (by simp)]
    refine Ev.step (b := fun k => (folkmootref15_Merge.f k [] l0).bind fun t => if (l0.length : Int) > 0 then folkmootlaw15_ContentFinds.j1 k l0 a2 t ((Int.tmod a2 2) == 0) x1.f0.f0 x1.f0.f1 x1.f1 x1.f2 else folkmootlaw15_ContentFinds.j1 k l0 a2 t false x1.f0.f0 x1.f0.f1 x1.f1 x1.f2) (fun k => ?_) (Ev.bind (refMerge_ev [] l0 (by simp; omega)) ?_)
    · rw [folkmootlaw15_ContentFinds.j0, if_neg (by simp; omega)]
    · by_cases hp : (l0.length : Int) > 0
      · simp only [hp, if_true]
        cases hc : (Int.tmod a2 2) == 0 with
        | false => exact hfalse _ rfl
        | true =>
          have hw : 0 ≤ a2 ∧ a2 ≤ 255 := by
            have h3 := h2
            simp only [Lit.wf, Bool.and_eq_true, decide_eq_true_eq] at h3
            have e1 : IntKind.u8.min = 0 := by decide
            have e2 : IntKind.u8.max = 255 := by decide
            omega
          have e1 : wrap64 a2 = a2 := by unfold wrap64; omega
          have e2 : Int.tmod a2 (l0.length : Int) = ((a2.toNat % l0.length : Nat) : Int) := by
            rw [Int.tmod_eq_emod_of_nonneg hw.1, Int.natCast_emod, Int.toNat_of_nonneg hw.1]
          have hi : a2.toNat % l0.length < l0.length := Nat.mod_lt _ (by omega)
          refine Ev.step (fun k => ?_) (last l0[a2.toNat % l0.length].f0)
          rw [folkmootlaw15_ContentFinds.j1, if_pos rfl, if_neg (by omega), e1, e2, if_pos (by omega), if_pos (by omega), rdE_nat hi]
      · simp only [hp, if_false]
        exact hfalse _ rfl
end Go.Proofs.Ytioooiflpabngaa.PAll

namespace Go.Proofs.Ytioooiflpabngaa
theorem head_signs : Try.prog.initOrder.toList = [104, 97, 114, 110, 101, 115, 115, 32, 98, 100, 54, 52, 55, 100, 48, 52, 56, 99, 56, 57, 55, 50, 49, 57, 98, 52, 100, 49, 52, 51, 55, 98, 57, 48, 102, 102, 48, 56, 49, 50, 49, 53, 100, 52, 49, 53, 51, 54, 99, 100, 49, 54, 52, 54, 49, 100, 52, 97, 49, 97, 54, 54, 102, 52, 101, 56, 53, 55, 97, 101, 50, 55, 32, 99, 117, 116, 32, 97, 116, 32, 102, 111, 108, 107, 109, 111, 111, 116, 47, 102, 111, 108, 107, 109, 111, 111, 116, 108, 97, 119, 49, 53, 46, 67, 111, 110, 116, 101, 110, 116, 70, 105, 110, 100, 115, 32, 102, 111, 108, 107, 109, 111, 111, 116, 47, 102, 111, 108, 107, 109, 111, 111, 116, 108, 97, 119, 49, 53, 46, 67, 111, 110, 116, 101, 110, 116, 75, 101, 101, 112, 115, 32, 102, 111, 108, 107, 109, 111, 111, 116, 47, 102, 111, 108, 107, 109, 111, 111, 116, 108, 97, 119, 49, 53, 46, 67, 111, 110, 116, 101, 110, 116, 77, 101, 114, 103, 101, 115, 32, 102, 111, 108, 107, 109, 111, 111, 116, 47, 102, 111, 108, 107, 109, 111, 111, 116, 108, 97, 119, 49, 53, 46, 67, 111, 110, 116, 101, 110, 116, 79, 114, 100, 101, 114, 32, 102, 111, 108, 107, 109, 111, 111, 116, 47, 102, 111, 108, 107, 109, 111, 111, 116, 108, 97, 119, 48, 53, 46, 76, 97, 98, 101, 108, 75, 101, 101, 112, 115, 32, 102, 111, 108, 107, 109, 111, 111, 116, 47, 102, 111, 108, 107, 109, 111, 111, 116, 108, 97, 119, 48, 53, 46, 76, 97, 98, 101, 108, 80, 97, 114, 116, 115, 32, 102, 111, 108, 107, 109, 111, 111, 116, 47, 102, 111, 108, 107, 109, 111, 111, 116, 108, 97, 119, 48, 53, 46, 76, 97, 98, 101, 108, 83, 111, 114, 116, 115, 32, 102, 111, 108, 107, 109, 111, 111, 116, 47, 102, 111, 108, 107, 109, 111, 111, 116, 108, 97, 119, 48, 53, 46, 76, 97, 98, 101, 108, 66, 101, 104, 105, 110, 100, 32, 102, 111, 108, 107, 109, 111, 111, 116, 47, 102, 111, 108, 107, 109, 111, 111, 116, 108, 97, 119, 48, 53, 46, 76, 97, 98, 101, 108, 79, 114, 100, 101, 114, 32, 102, 111, 108, 107, 109, 111, 111, 116, 47, 102, 111, 108, 107, 109, 111, 111, 116, 108, 97, 119, 49, 53, 46, 67, 111, 110, 116, 101, 110, 116, 65, 112, 97, 114, 116, 32, 102, 111, 108, 107, 109, 111, 111, 116, 47, 102, 111, 108, 107, 109, 111, 111, 116, 108, 97, 119, 49, 53, 46, 67, 111, 110, 116, 101, 110, 116, 79, 110, 101, 32, 102, 111, 108, 107, 109, 111, 111, 116, 47, 102, 111, 108, 107, 109, 111, 111, 116, 108, 97, 119, 49, 53, 46, 67, 111, 110, 116, 101, 110, 116, 82, 101, 97, 100, 115, 32, 102, 111, 108, 107, 109, 111, 111, 116, 47, 102, 111, 108, 107, 109, 111, 111, 116, 108, 97, 119, 49, 53, 46, 67, 111, 110, 116, 101, 110, 116, 65, 108, 108, 32, 102, 111, 108, 107, 109, 111, 111, 116, 47, 102, 111, 108, 107, 109, 111, 111, 116, 108, 97, 119, 49, 54, 46, 69, 120, 99, 104, 97, 110, 103, 101, 80, 108, 97, 121, 115, 32, 102, 111, 108, 107, 109, 111, 111, 116, 47, 102, 111, 108, 107, 109, 111, 111, 116, 108, 97, 119, 49, 54, 46, 69, 120, 99, 104, 97, 110, 103, 101, 84, 117, 114, 110, 101, 100, 32, 102, 111, 108, 107, 109, 111, 111, 116, 47, 102, 111, 108, 107, 109, 111, 111, 116, 108, 97, 119, 49, 54, 46, 69, 120, 99, 104, 97, 110, 103, 101, 70, 117, 108, 108, 32, 102, 111, 108, 107, 109, 111, 111, 116, 47, 102, 111, 108, 107, 109, 111, 111, 116, 108, 97, 119, 49, 54, 46, 69, 120, 99, 104, 97, 110, 103, 101, 75, 101, 101, 112, 115, 32, 102, 111, 108, 107, 109, 111, 111, 116, 47, 102, 111, 108, 107, 109, 111, 111, 116, 108, 97, 119, 49, 54, 46, 69, 120, 99, 104, 97, 110, 103, 101, 79, 110, 101, 32, 102, 111, 108, 107, 109, 111, 111, 116, 47, 102, 111, 108, 107, 109, 111, 111, 116, 108, 97, 119, 49, 54, 46, 69, 120, 99, 104, 97, 110, 103, 101, 77, 111, 114, 101].map Char.ofNat := by
  have h : Try.prog.initOrder = String.ofList ([104, 97, 114, 110, 101, 115, 115, 32, 98, 100, 54, 52, 55, 100, 48, 52, 56, 99, 56, 57, 55, 50, 49, 57, 98, 52, 100, 49, 52, 51, 55, 98, 57, 48, 102, 102, 48, 56, 49, 50, 49, 53, 100, 52, 49, 53, 51, 54, 99, 100, 49, 54, 52, 54, 49, 100, 52, 97, 49, 97, 54, 54, 102, 52, 101, 56, 53, 55, 97, 101, 50, 55, 32, 99, 117, 116, 32, 97, 116, 32, 102, 111, 108, 107, 109, 111, 111, 116, 47, 102, 111, 108, 107, 109, 111, 111, 116, 108, 97, 119, 49, 53, 46, 67, 111, 110, 116, 101, 110, 116, 70, 105, 110, 100, 115, 32, 102, 111, 108, 107, 109, 111, 111, 116, 47, 102, 111, 108, 107, 109, 111, 111, 116, 108, 97, 119, 49, 53, 46, 67, 111, 110, 116, 101, 110, 116, 75, 101, 101, 112, 115, 32, 102, 111, 108, 107, 109, 111, 111, 116, 47, 102, 111, 108, 107, 109, 111, 111, 116, 108, 97, 119, 49, 53, 46, 67, 111, 110, 116, 101, 110, 116, 77, 101, 114, 103, 101, 115, 32, 102, 111, 108, 107, 109, 111, 111, 116, 47, 102, 111, 108, 107, 109, 111, 111, 116, 108, 97, 119, 49, 53, 46, 67, 111, 110, 116, 101, 110, 116, 79, 114, 100, 101, 114, 32, 102, 111, 108, 107, 109, 111, 111, 116, 47, 102, 111, 108, 107, 109, 111, 111, 116, 108, 97, 119, 48, 53, 46, 76, 97, 98, 101, 108, 75, 101, 101, 112, 115, 32, 102, 111, 108, 107, 109, 111, 111, 116, 47, 102, 111, 108, 107, 109, 111, 111, 116, 108, 97, 119, 48, 53, 46, 76, 97, 98, 101, 108, 80, 97, 114, 116, 115, 32, 102, 111, 108, 107, 109, 111, 111, 116, 47, 102, 111, 108, 107, 109, 111, 111, 116, 108, 97, 119, 48, 53, 46, 76, 97, 98, 101, 108, 83, 111, 114, 116, 115, 32, 102, 111, 108, 107, 109, 111, 111, 116, 47, 102, 111, 108, 107, 109, 111, 111, 116, 108, 97, 119, 48, 53, 46, 76, 97, 98, 101, 108, 66, 101, 104, 105, 110, 100, 32, 102, 111, 108, 107, 109, 111, 111, 116, 47, 102, 111, 108, 107, 109, 111, 111, 116, 108, 97, 119, 48, 53, 46, 76, 97, 98, 101, 108, 79, 114, 100, 101, 114, 32, 102, 111, 108, 107, 109, 111, 111, 116, 47, 102, 111, 108, 107, 109, 111, 111, 116, 108, 97, 119, 49, 53, 46, 67, 111, 110, 116, 101, 110, 116, 65, 112, 97, 114, 116, 32, 102, 111, 108, 107, 109, 111, 111, 116, 47, 102, 111, 108, 107, 109, 111, 111, 116, 108, 97, 119, 49, 53, 46, 67, 111, 110, 116, 101, 110, 116, 79, 110, 101, 32, 102, 111, 108, 107, 109, 111, 111, 116, 47, 102, 111, 108, 107, 109, 111, 111, 116, 108, 97, 119, 49, 53, 46, 67, 111, 110, 116, 101, 110, 116, 82, 101, 97, 100, 115, 32, 102, 111, 108, 107, 109, 111, 111, 116, 47, 102, 111, 108, 107, 109, 111, 111, 116, 108, 97, 119, 49, 53, 46, 67, 111, 110, 116, 101, 110, 116, 65, 108, 108, 32, 102, 111, 108, 107, 109, 111, 111, 116, 47, 102, 111, 108, 107, 109, 111, 111, 116, 108, 97, 119, 49, 54, 46, 69, 120, 99, 104, 97, 110, 103, 101, 80, 108, 97, 121, 115, 32, 102, 111, 108, 107, 109, 111, 111, 116, 47, 102, 111, 108, 107, 109, 111, 111, 116, 108, 97, 119, 49, 54, 46, 69, 120, 99, 104, 97, 110, 103, 101, 84, 117, 114, 110, 101, 100, 32, 102, 111, 108, 107, 109, 111, 111, 116, 47, 102, 111, 108, 107, 109, 111, 111, 116, 108, 97, 119, 49, 54, 46, 69, 120, 99, 104, 97, 110, 103, 101, 70, 117, 108, 108, 32, 102, 111, 108, 107, 109, 111, 111, 116, 47, 102, 111, 108, 107, 109, 111, 111, 116, 108, 97, 119, 49, 54, 46, 69, 120, 99, 104, 97, 110, 103, 101, 75, 101, 101, 112, 115, 32, 102, 111, 108, 107, 109, 111, 111, 116, 47, 102, 111, 108, 107, 109, 111, 111, 116, 108, 97, 119, 49, 54, 46, 69, 120, 99, 104, 97, 110, 103, 101, 79, 110, 101, 32, 102, 111, 108, 107, 109, 111, 111, 116, 47, 102, 111, 108, 107, 109, 111, 111, 116, 108, 97, 119, 49, 54, 46, 69, 120, 99, 104, 97, 110, 103, 101, 77, 111, 114, 101].map Char.ofNat) := by kernel_rfl
  rw [h, String.toList_ofList]
theorem head_words : wordsSigns ([104, 97, 114, 110, 101, 115, 115, 32, 98, 100, 54, 52, 55, 100, 48, 52, 56, 99, 56, 57, 55, 50, 49, 57, 98, 52, 100, 49, 52, 51, 55, 98, 57, 48, 102, 102, 48, 56, 49, 50, 49, 53, 100, 52, 49, 53, 51, 54, 99, 100, 49, 54, 52, 54, 49, 100, 52, 97, 49, 97, 54, 54, 102, 52, 101, 56, 53, 55, 97, 101, 50, 55, 32, 99, 117, 116, 32, 97, 116, 32, 102, 111, 108, 107, 109, 111, 111, 116, 47, 102, 111, 108, 107, 109, 111, 111, 116, 108, 97, 119, 49, 53, 46, 67, 111, 110, 116, 101, 110, 116, 70, 105, 110, 100, 115, 32, 102, 111, 108, 107, 109, 111, 111, 116, 47, 102, 111, 108, 107, 109, 111, 111, 116, 108, 97, 119, 49, 53, 46, 67, 111, 110, 116, 101, 110, 116, 75, 101, 101, 112, 115, 32, 102, 111, 108, 107, 109, 111, 111, 116, 47, 102, 111, 108, 107, 109, 111, 111, 116, 108, 97, 119, 49, 53, 46, 67, 111, 110, 116, 101, 110, 116, 77, 101, 114, 103, 101, 115, 32, 102, 111, 108, 107, 109, 111, 111, 116, 47, 102, 111, 108, 107, 109, 111, 111, 116, 108, 97, 119, 49, 53, 46, 67, 111, 110, 116, 101, 110, 116, 79, 114, 100, 101, 114, 32, 102, 111, 108, 107, 109, 111, 111, 116, 47, 102, 111, 108, 107, 109, 111, 111, 116, 108, 97, 119, 48, 53, 46, 76, 97, 98, 101, 108, 75, 101, 101, 112, 115, 32, 102, 111, 108, 107, 109, 111, 111, 116, 47, 102, 111, 108, 107, 109, 111, 111, 116, 108, 97, 119, 48, 53, 46, 76, 97, 98, 101, 108, 80, 97, 114, 116, 115, 32, 102, 111, 108, 107, 109, 111, 111, 116, 47, 102, 111, 108, 107, 109, 111, 111, 116, 108, 97, 119, 48, 53, 46, 76, 97, 98, 101, 108, 83, 111, 114, 116, 115, 32, 102, 111, 108, 107, 109, 111, 111, 116, 47, 102, 111, 108, 107, 109, 111, 111, 116, 108, 97, 119, 48, 53, 46, 76, 97, 98, 101, 108, 66, 101, 104, 105, 110, 100, 32, 102, 111, 108, 107, 109, 111, 111, 116, 47, 102, 111, 108, 107, 109, 111, 111, 116, 108, 97, 119, 48, 53, 46, 76, 97, 98, 101, 108, 79, 114, 100, 101, 114, 32, 102, 111, 108, 107, 109, 111, 111, 116, 47, 102, 111, 108, 107, 109, 111, 111, 116, 108, 97, 119, 49, 53, 46, 67, 111, 110, 116, 101, 110, 116, 65, 112, 97, 114, 116, 32, 102, 111, 108, 107, 109, 111, 111, 116, 47, 102, 111, 108, 107, 109, 111, 111, 116, 108, 97, 119, 49, 53, 46, 67, 111, 110, 116, 101, 110, 116, 79, 110, 101, 32, 102, 111, 108, 107, 109, 111, 111, 116, 47, 102, 111, 108, 107, 109, 111, 111, 116, 108, 97, 119, 49, 53, 46, 67, 111, 110, 116, 101, 110, 116, 82, 101, 97, 100, 115, 32, 102, 111, 108, 107, 109, 111, 111, 116, 47, 102, 111, 108, 107, 109, 111, 111, 116, 108, 97, 119, 49, 53, 46, 67, 111, 110, 116, 101, 110, 116, 65, 108, 108, 32, 102, 111, 108, 107, 109, 111, 111, 116, 47, 102, 111, 108, 107, 109, 111, 111, 116, 108, 97, 119, 49, 54, 46, 69, 120, 99, 104, 97, 110, 103, 101, 80, 108, 97, 121, 115, 32, 102, 111, 108, 107, 109, 111, 111, 116, 47, 102, 111, 108, 107, 109, 111, 111, 116, 108, 97, 119, 49, 54, 46, 69, 120, 99, 104, 97, 110, 103, 101, 84, 117, 114, 110, 101, 100, 32, 102, 111, 108, 107, 109, 111, 111, 116, 47, 102, 111, 108, 107, 109, 111, 111, 116, 108, 97, 119, 49, 54, 46, 69, 120, 99, 104, 97, 110, 103, 101, 70, 117, 108, 108, 32, 102, 111, 108, 107, 109, 111, 111, 116, 47, 102, 111, 108, 107, 109, 111, 111, 116, 108, 97, 119, 49, 54, 46, 69, 120, 99, 104, 97, 110, 103, 101, 75, 101, 101, 112, 115, 32, 102, 111, 108, 107, 109, 111, 111, 116, 47, 102, 111, 108, 107, 109, 111, 111, 116, 108, 97, 119, 49, 54, 46, 69, 120, 99, 104, 97, 110, 103, 101, 79, 110, 101, 32, 102, 111, 108, 107, 109, 111, 111, 116, 47, 102, 111, 108, 107, 109, 111, 111, 116, 108, 97, 119, 49, 54, 46, 69, 120, 99, 104, 97, 110, 103, 101, 77, 111, 114, 101].map Char.ofNat) = [[104, 97, 114, 110, 101, 115, 115], [98, 100, 54, 52, 55, 100, 48, 52, 56, 99, 56, 57, 55, 50, 49, 57, 98, 52, 100, 49, 52, 51, 55, 98, 57, 48, 102, 102, 48, 56, 49, 50, 49, 53, 100, 52, 49, 53, 51, 54, 99, 100, 49, 54, 52, 54, 49, 100, 52, 97, 49, 97, 54, 54, 102, 52, 101, 56, 53, 55, 97, 101, 50, 55], [99, 117, 116], [97, 116], [102, 111, 108, 107, 109, 111, 111, 116, 47, 102, 111, 108, 107, 109, 111, 111, 116, 108, 97, 119, 49, 53, 46, 67, 111, 110, 116, 101, 110, 116, 70, 105, 110, 100, 115], [102, 111, 108, 107, 109, 111, 111, 116, 47, 102, 111, 108, 107, 109, 111, 111, 116, 108, 97, 119, 49, 53, 46, 67, 111, 110, 116, 101, 110, 116, 75, 101, 101, 112, 115], [102, 111, 108, 107, 109, 111, 111, 116, 47, 102, 111, 108, 107, 109, 111, 111, 116, 108, 97, 119, 49, 53, 46, 67, 111, 110, 116, 101, 110, 116, 77, 101, 114, 103, 101, 115], [102, 111, 108, 107, 109, 111, 111, 116, 47, 102, 111, 108, 107, 109, 111, 111, 116, 108, 97, 119, 49, 53, 46, 67, 111, 110, 116, 101, 110, 116, 79, 114, 100, 101, 114], [102, 111, 108, 107, 109, 111, 111, 116, 47, 102, 111, 108, 107, 109, 111, 111, 116, 108, 97, 119, 48, 53, 46, 76, 97, 98, 101, 108, 75, 101, 101, 112, 115], [102, 111, 108, 107, 109, 111, 111, 116, 47, 102, 111, 108, 107, 109, 111, 111, 116, 108, 97, 119, 48, 53, 46, 76, 97, 98, 101, 108, 80, 97, 114, 116, 115], [102, 111, 108, 107, 109, 111, 111, 116, 47, 102, 111, 108, 107, 109, 111, 111, 116, 108, 97, 119, 48, 53, 46, 76, 97, 98, 101, 108, 83, 111, 114, 116, 115], [102, 111, 108, 107, 109, 111, 111, 116, 47, 102, 111, 108, 107, 109, 111, 111, 116, 108, 97, 119, 48, 53, 46, 76, 97, 98, 101, 108, 66, 101, 104, 105, 110, 100], [102, 111, 108, 107, 109, 111, 111, 116, 47, 102, 111, 108, 107, 109, 111, 111, 116, 108, 97, 119, 48, 53, 46, 76, 97, 98, 101, 108, 79, 114, 100, 101, 114], [102, 111, 108, 107, 109, 111, 111, 116, 47, 102, 111, 108, 107, 109, 111, 111, 116, 108, 97, 119, 49, 53, 46, 67, 111, 110, 116, 101, 110, 116, 65, 112, 97, 114, 116], [102, 111, 108, 107, 109, 111, 111, 116, 47, 102, 111, 108, 107, 109, 111, 111, 116, 108, 97, 119, 49, 53, 46, 67, 111, 110, 116, 101, 110, 116, 79, 110, 101], [102, 111, 108, 107, 109, 111, 111, 116, 47, 102, 111, 108, 107, 109, 111, 111, 116, 108, 97, 119, 49, 53, 46, 67, 111, 110, 116, 101, 110, 116, 82, 101, 97, 100, 115], [102, 111, 108, 107, 109, 111, 111, 116, 47, 102, 111, 108, 107, 109, 111, 111, 116, 108, 97, 119, 49, 53, 46, 67, 111, 110, 116, 101, 110, 116, 65, 108, 108], [102, 111, 108, 107, 109, 111, 111, 116, 47, 102, 111, 108, 107, 109, 111, 111, 116, 108, 97, 119, 49, 54, 46, 69, 120, 99, 104, 97, 110, 103, 101, 80, 108, 97, 121, 115], [102, 111, 108, 107, 109, 111, 111, 116, 47, 102, 111, 108, 107, 109, 111, 111, 116, 108, 97, 119, 49, 54, 46, 69, 120, 99, 104, 97, 110, 103, 101, 84, 117, 114, 110, 101, 100], [102, 111, 108, 107, 109, 111, 111, 116, 47, 102, 111, 108, 107, 109, 111, 111, 116, 108, 97, 119, 49, 54, 46, 69, 120, 99, 104, 97, 110, 103, 101, 70, 117, 108, 108], [102, 111, 108, 107, 109, 111, 111, 116, 47, 102, 111, 108, 107, 109, 111, 111, 116, 108, 97, 119, 49, 54, 46, 69, 120, 99, 104, 97, 110, 103, 101, 75, 101, 101, 112, 115], [102, 111, 108, 107, 109, 111, 111, 116, 47, 102, 111, 108, 107, 109, 111, 111, 116, 108, 97, 119, 49, 54, 46, 69, 120, 99, 104, 97, 110, 103, 101, 79, 110, 101], [102, 111, 108, 107, 109, 111, 111, 116, 47, 102, 111, 108, 107, 109, 111, 111, 116, 108, 97, 119, 49, 54, 46, 69, 120, 99, 104, 97, 110, 103, 101, 77, 111, 114, 101]].map (List.map Char.ofNat) := by kernel_rfl
theorem head_behind : ∃ rest, behindMainWord (wordsSigns Try.prog.initOrder.toList) = [99, 117, 116].map Char.ofNat :: rest := by
  rw [head_signs, head_words]
  exact ⟨[[99, 117, 116], [97, 116], [102, 111, 108, 107, 109, 111, 111, 116, 47, 102, 111, 108, 107, 109, 111, 111, 116, 108, 97, 119, 49, 53, 46, 67, 111, 110, 116, 101, 110, 116, 70, 105, 110, 100, 115], [102, 111, 108, 107, 109, 111, 111, 116, 47, 102, 111, 108, 107, 109, 111, 111, 116, 108, 97, 119, 49, 53, 46, 67, 111, 110, 116, 101, 110, 116, 75, 101, 101, 112, 115], [102, 111, 108, 107, 109, 111, 111, 116, 47, 102, 111, 108, 107, 109, 111, 111, 116, 108, 97, 119, 49, 53, 46, 67, 111, 110, 116, 101, 110, 116, 77, 101, 114, 103, 101, 115], [102, 111, 108, 107, 109, 111, 111, 116, 47, 102, 111, 108, 107, 109, 111, 111, 116, 108, 97, 119, 49, 53, 46, 67, 111, 110, 116, 101, 110, 116, 79, 114, 100, 101, 114], [102, 111, 108, 107, 109, 111, 111, 116, 47, 102, 111, 108, 107, 109, 111, 111, 116, 108, 97, 119, 48, 53, 46, 76, 97, 98, 101, 108, 75, 101, 101, 112, 115], [102, 111, 108, 107, 109, 111, 111, 116, 47, 102, 111, 108, 107, 109, 111, 111, 116, 108, 97, 119, 48, 53, 46, 76, 97, 98, 101, 108, 80, 97, 114, 116, 115], [102, 111, 108, 107, 109, 111, 111, 116, 47, 102, 111, 108, 107, 109, 111, 111, 116, 108, 97, 119, 48, 53, 46, 76, 97, 98, 101, 108, 83, 111, 114, 116, 115], [102, 111, 108, 107, 109, 111, 111, 116, 47, 102, 111, 108, 107, 109, 111, 111, 116, 108, 97, 119, 48, 53, 46, 76, 97, 98, 101, 108, 66, 101, 104, 105, 110, 100], [102, 111, 108, 107, 109, 111, 111, 116, 47, 102, 111, 108, 107, 109, 111, 111, 116, 108, 97, 119, 48, 53, 46, 76, 97, 98, 101, 108, 79, 114, 100, 101, 114], [102, 111, 108, 107, 109, 111, 111, 116, 47, 102, 111, 108, 107, 109, 111, 111, 116, 108, 97, 119, 49, 53, 46, 67, 111, 110, 116, 101, 110, 116, 65, 112, 97, 114, 116], [102, 111, 108, 107, 109, 111, 111, 116, 47, 102, 111, 108, 107, 109, 111, 111, 116, 108, 97, 119, 49, 53, 46, 67, 111, 110, 116, 101, 110, 116, 79, 110, 101], [102, 111, 108, 107, 109, 111, 111, 116, 47, 102, 111, 108, 107, 109, 111, 111, 116, 108, 97, 119, 49, 53, 46, 67, 111, 110, 116, 101, 110, 116, 82, 101, 97, 100, 115], [102, 111, 108, 107, 109, 111, 111, 116, 47, 102, 111, 108, 107, 109, 111, 111, 116, 108, 97, 119, 49, 53, 46, 67, 111, 110, 116, 101, 110, 116, 65, 108, 108], [102, 111, 108, 107, 109, 111, 111, 116, 47, 102, 111, 108, 107, 109, 111, 111, 116, 108, 97, 119, 49, 54, 46, 69, 120, 99, 104, 97, 110, 103, 101, 80, 108, 97, 121, 115], [102, 111, 108, 107, 109, 111, 111, 116, 47, 102, 111, 108, 107, 109, 111, 111, 116, 108, 97, 119, 49, 54, 46, 69, 120, 99, 104, 97, 110, 103, 101, 84, 117, 114, 110, 101, 100], [102, 111, 108, 107, 109, 111, 111, 116, 47, 102, 111, 108, 107, 109, 111, 111, 116, 108, 97, 119, 49, 54, 46, 69, 120, 99, 104, 97, 110, 103, 101, 70, 117, 108, 108], [102, 111, 108, 107, 109, 111, 111, 116, 47, 102, 111, 108, 107, 109, 111, 111, 116, 108, 97, 119, 49, 54, 46, 69, 120, 99, 104, 97, 110, 103, 101, 75, 101, 101, 112, 115], [102, 111, 108, 107, 109, 111, 111, 116, 47, 102, 111, 108, 107, 109, 111, 111, 116, 108, 97, 119, 49, 54, 46, 69, 120, 99, 104, 97, 110, 103, 101, 79, 110, 101], [102, 111, 108, 107, 109, 111, 111, 116, 47, 102, 111, 108, 107, 109, 111, 111, 116, 108, 97, 119, 49, 54, 46, 69, 120, 99, 104, 97, 110, 103, 101, 77, 111, 114, 101]].tail.map (List.map Char.ofNat), by kernel_rfl⟩
theorem cut_gc : (([99, 117, 116].map Char.ofNat) == "gc".toList) = false := by kernel_rfl
theorem cut_spec : (([99, 117, 116].map Char.ofNat) == "spec".toList) = false := by kernel_rfl
theorem cut_carried : (([99, 117, 116].map Char.ofNat) == "carried".toList) = false := by kernel_rfl
theorem cut_cut : (([99, 117, 116].map Char.ofNat) == "cut".toList) = true := by kernel_rfl
theorem cut_some (rest : List (List Char)) : ((([99, 117, 116].map Char.ofNat) :: rest).head? == some "cut".toList) = true := cut_cut
theorem cut_strip (rest : List (List Char)) : stripLifts liftWords (([99, 117, 116].map Char.ofNat) :: rest) = ([], ([99, 117, 116].map Char.ofNat) :: rest) := by
  simp only [liftWords, stripLifts]
  rfl
theorem make_of {P : Program} {rest : List (List Char)} (h : behindMainWord (wordsSigns P.initOrder.toList) = [99, 117, 116].map Char.ofNat :: rest) : P.make = some .cut := by
  unfold Program.make
  rw [h]
  simp only [cut_gc, cut_spec, cut_cut, Bool.or_false, Bool.true_or, Bool.false_eq_true, if_false, if_true]
theorem lifts_of {P : Program} {rest : List (List Char)} (h : behindMainWord (wordsSigns P.initOrder.toList) = [99, 117, 116].map Char.ofNat :: rest) : P.liftsFinal = false := by
  unfold Program.liftsFinal Program.headLifts
  rw [h]
  simp only [cut_strip, List.head?_cons]
  show ((([99, 117, 116].map Char.ofNat) == "carried".toList) && _ || _) = false
  rw [cut_carried]
  kernel_rfl
theorem enter_of {P : Program} {rest : List (List Char)} (h : behindMainWord (wordsSigns P.initOrder.toList) = [99, 117, 116].map Char.ofNat :: rest) (h1 : P.laysLater = false) (h2 : P.bearsReflect = false) (h3 : P.doorFits [] = true) : P.mayEnter = true := by
  unfold Program.mayEnter
  rw [h]
  simp only [cut_strip, cut_some, cut_gc, cut_spec, cut_carried, h1, h2, h3, Bool.not_false, Bool.or_true, Bool.and_true, Bool.or_false, Bool.false_and, List.contains_nil]
theorem head_make : Try.prog.make = some .cut := head_behind.elim fun _ h => make_of h
theorem head_lifts : Try.prog.liftsFinal = false := head_behind.elim fun _ h => lifts_of h
theorem head_enter : Try.prog.mayEnter = true := head_behind.elim fun _ h => enter_of h (by kernel_rfl) (by kernel_rfl) (by kernel_rfl)
end Go.Proofs.Ytioooiflpabngaa

namespace Go.Proofs.Ytioooiflpabngaa.contentFinds
open Go.ChangeShapes Go.WideShapes Go.ChangeAt Go.RowKit Go.Proofs.Ytioooiflpabngaa.PAll
set_option linter.unusedVariables false
theorem own : ownKnob Try.prog.godebug = none := by kernel_rfl
theorem laidOut : laidOutB Try.prog = true := by kernel_rfl
set_option maxRecDepth 100000 in
theorem lifted (os : Os) (started : os.Started) (H : Type) (enc : TypeId × Value → H) :
    ReturnsInHanded {} Try.checked os 3 .any (Rows.contentFindsSpec.pre6 enc Try.prog Try.f3 Rows.contentFindsRow.domain false) (Rows.contentFindsSpec.post enc Try.prog Try.f3 false true false false) := by
  refine returnsInHanded_of_change_sized (C := Try.checked) own started (by kernel_rfl) Try.func3
    (ChangeSpec.witness6 (enc := enc) (C := Try.checked) false ⟨#[], #[.slice none 0 0, .agg #[.int .u64 0, .int .i64 0, .int .u64 0, .int .i64 0], .int .u8 0], []⟩ 8 (by kernel_rfl) (by kernel_rfl) (by kernel_rfl) (by kernel_rfl)) ?_
  intro W base args ds gs before hval0 hW hcnd hsz0 _
  have hsz : (DataW.weightsEach Try.prog (Try.f3.params.toList ++ Rows.contentFindsSpec.plain.varTypes Try.prog) (ds ++ gs)).all (· ≤ reachBytes) = true := hsz0
  have hval : ∀ (j : Nat) t v, Try.f3.params[j]? = some t → args[j]? = some v → Value.okWide Try.prog W .any base t v := hval0
  have hW' := hW
  obtain ⟨p, q, hA0, hV, rfl, hfz, hnd⟩ := hW
  have hA : DataW.TrodAll enc Try.prog W 0 (fun _ => true) true Try.f3.params.toList args.toList ds p := hA0
  rw [Try.params3] at hA hval hsz
  obtain ⟨v0, vs0, d0, ds0, p0, q0, hargs, rfl, rfl, h0, r0⟩ := trodAll_cons hA
  obtain ⟨v1, vs1, d1, ds1, p1, q1, rfl, rfl, rfl, h1, r1⟩ := trodAll_cons r0
  obtain ⟨v2, vs2, d2, ds2, p2, q2, rfl, rfl, rfl, h2, r2⟩ := trodAll_cons r1
  obtain ⟨rfl, rfl, rfl⟩ := trodAll_nil r2
  obtain rfl : args = #[v0, v1, v2] := by cases args; simp_all
  obtain ⟨rfl, rfl⟩ := trodVars_none hV
  have z0 : ∀ n ∈ d0.weights Try.prog 22, n ≤ reachBytes := fun n hn => of_decide_eq_true (List.all_eq_true.1 hsz _ (DataW.weights_mem_each (j := 0) (t := 22) rfl rfl n hn))
  have k0 := h0
  have lt0 : ∀ x ∈ p0, x.block < W.heap.size := by obtain ⟨m, hm⟩ := k0; exact DataW.trod_lt m _ _ _ hm
  obtain ⟨a0, len0, cap0, rfl⟩ := okWide_slice Try.underlying22 (hval 0 22 v0 rfl rfl)
  obtain ⟨l0, hK0, ok0⟩ := arg_trod opensEs h0 z0
  obtain ⟨rfl, hc0, hr0⟩ := arg_slice hK0
  have z1 : ∀ n ∈ d1.weights Try.prog 27, n ≤ reachBytes := fun n hn => of_decide_eq_true (List.all_eq_true.1 hsz _ (DataW.weights_mem_each (j := 1) (t := 27) rfl rfl n hn))
  have k1 := h1
  have lt1 : ∀ x ∈ p1, x.block < W.heap.size := by obtain ⟨m, hm⟩ := k1; exact DataW.trod_lt m _ _ _ hm
  obtain ⟨cs1, rfl, _⟩ := okWide_struct Try.underlying27 (hval 1 27 v1 rfl rfl)
  obtain ⟨x1, hK1, ok1⟩ := arg_trod opensL h1 z1
  have e1 := agg_of (k27_open hK1)
  subst e1
  have z2 : ∀ n ∈ d2.weights Try.prog 5, n ≤ reachBytes := fun n hn => of_decide_eq_true (List.all_eq_true.1 hsz _ (DataW.weights_mem_each (j := 2) (t := 5) rfl rfl n hn))
  have k2 := h2
  have lt2 : ∀ x ∈ p2, x.block < W.heap.size := by obtain ⟨m, hm⟩ := k2; exact DataW.trod_lt m _ _ _ hm
  obtain ⟨a2, rfl, rfl, rfl, ok2⟩ := open_int Try.underlying5 (hval 2 5 v2 rfl rfl) h2
  clear hA0 hval0 hsz0 hsz
  obtain ⟨k, hp⟩ := pure_ContentFinds l0 x1 a2 ok0 ok1 ok2
  refine (folkmootlaw15_ContentFinds.calls k _ _ l0 x1.f0.f0 x1.f0.f1 x1.f1 x1.f2 a2 true W hr0 hc0 hp).mono fun e W' ⟨he, bel⟩ => ?_
  subst he
  exact ⟨_, rfl, _, _, _, [], _, [], hW', trodAll_mk1 (shut_bool Try.underlying4 _), (trodAll_cons_mk (Below.trod laidOut (by kernel_rfl) (of_decide_eq_true (by kernel_rfl)) k0 bel lt0) (trodAll_cons_mk (Below.trod laidOut (by kernel_rfl) (of_decide_eq_true (by kernel_rfl)) k1 bel lt1) (trodAll_cons_mk (shut_int Try.underlying5 ok2) trodAll_mk0))), rfl, bel.frame _, fun h => by cases h⟩
theorem closed : joinedFacts Try.prog 3 Try.f3 Rows.contentFindsSpec Rows.contentFindsRow = true := by
  unfold joinedFacts
  rw [head_enter, head_lifts, head_make]
  kernel_rfl
theorem over : Rows.contentFindsRow.holds Try.pinned (OpenSpec.ofChange Rows.contentFindsSpec) :=
  OpenClaim.holds_of_wide 3 Try.f3 rfl rfl rfl rfl rfl rfl rfl ⟨rfl, rfl, rfl, rfl, rfl⟩ rfl rfl rfl rfl rfl (by kernel_rfl) Try.func3 closed
    (of_decide_eq_true (by kernel_rfl)) (by unfold Func.isWrapper; first | (rw [if_pos (by decide +kernel)]; kernel_rfl) | (rw [if_neg (by decide +kernel)]; exact ⟨rfl, rfl⟩))
    (fun os started H enc _ => lifted os started H enc)
theorem proved : Rows.ContentFindsSaid := over
end Go.Proofs.Ytioooiflpabngaa.contentFinds
