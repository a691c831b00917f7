/- Parts: PAllx14, EMerge, PAllx22, PAllx23, HClone, EFind, HOpen, ERise, HInsert, HPutA, HSearchP, HPut, PAllx28, EKeep, PAllx86, PAllx94. -/
import Derived.Test.YtioooiflpabngaaExchangeMoreB
import Derived.WalkSpells
import Derived.Deep.Slices
import Derived.SizedLaws
import Derived.Lib.Overlaps
import Derived.Lib.AppendZerosOnto
import Derived.Laws.CopyOwn
import Derived.Shelf.RegionOpenPlain
import Derived.Lib.Walk
import Derived.Lib.JoinLaws
import Derived.Laws.NewBlocks
set_option linter.unusedVariables false
set_option linter.unusedSimpArgs false
section
namespace Go.Proofs.Ytioooiflpabngaa.PAll
open Go.RowKit Go.Proofs.YtioooiflpabngaaW.PrintWords Go.Proofs.YtioooiflpabngaaW.PrintLast Go.Proofs.YtioooiflpabngaaW.PrintMore
attribute [local go_sem] max2_int min2_int max_two min_two max_three min_three max_four min_four   -- for this text's walks alone
set_option linter.unusedVariables false
set_option linter.unusedSimpArgs false
mutual
def folkmootref15_Merge.l0 : Nat → List (S32) → List (S32) → Int → Option ((List (S32)))
 | 0, _, _, _ => none
 | k + 1, x0, x1, x5 => if x5 < (x1.length : Int) then (if 0 ≤ x5 then ((folkmootref15_Find.f k x0 ((rd_T32 x1 x5).f0.f0.f0) ((rd_T32 x1 x5).f0.f0.f1) ((rd_T32 x1 x5).f0.f1) ((rd_T32 x1 x5).f0.f2)).bind fun bt165 => (if bt165.2 = true then (folkmootref15_Merge.l0 k x0 x1 (wrap64 (x5 + 1))) else (folkmootref15_Merge.l1 k x0 x1 x5 ([] : List (S32)) false 0))) else (none)) else (some x0)
def folkmootref15_Merge.l1 : Nat → List (S32) → List (S32) → Int → List (S32) → Bool → Int → Option ((List (S32)))
 | 0, _, _, _, _, _, _ => none
 | k + 1, x0, x1, x5, x8, x9, x10 => if x10 < (x0.length : Int) then (if x9 = true then (if 0 ≤ x10 then (if x8.length < 2513169434916 then (folkmootref15_Merge.l1 k x0 x1 x5 (x8 ++ [(⟨(⟨(⟨(rd_T32 x0 x10).f0.f0.f0, (rd_T32 x0 x10).f0.f0.f1⟩ : S25), (rd_T32 x0 x10).f0.f1, (rd_T32 x0 x10).f0.f2⟩ : S27), (rd_T32 x0 x10).f1⟩ : S32)]) x9 (wrap64 (x10 + 1))) else (none)) else (none)) else (if 0 ≤ x5 then (if x5 < (x1.length : Int) then (if 0 ≤ x10 then ((folkmootref05_Less.f k ((rd_T32 x1 x5).f0.f0.f0) ((rd_T32 x1 x5).f0.f0.f1) ((rd_T32 x1 x5).f0.f1) ((rd_T32 x1 x5).f0.f2) ((rd_T32 x0 x10).f0.f0.f0) ((rd_T32 x0 x10).f0.f0.f1) ((rd_T32 x0 x10).f0.f1) ((rd_T32 x0 x10).f0.f2)).bind fun t175 => (if t175 = true then (if x8.length < 2513169434916 then ((some (x8 ++ [(⟨(⟨(⟨(rd_T32 x1 x5).f0.f0.f0, (rd_T32 x1 x5).f0.f0.f1⟩ : S25), (rd_T32 x1 x5).f0.f1, (rd_T32 x1 x5).f0.f2⟩ : S27), (rd_T32 x1 x5).f1⟩ : S32)] : List (S32))).bind fun y177 => (if y177.length < 2513169434916 then (folkmootref15_Merge.l1 k x0 x1 x5 (y177 ++ [(⟨(⟨(⟨(rd_T32 x0 x10).f0.f0.f0, (rd_T32 x0 x10).f0.f0.f1⟩ : S25), (rd_T32 x0 x10).f0.f1, (rd_T32 x0 x10).f0.f2⟩ : S27), (rd_T32 x0 x10).f1⟩ : S32)]) true (wrap64 (x10 + 1))) else (none))) else (none)) else (if x8.length < 2513169434916 then (folkmootref15_Merge.l1 k x0 x1 x5 (x8 ++ [(⟨(⟨(⟨(rd_T32 x0 x10).f0.f0.f0, (rd_T32 x0 x10).f0.f0.f1⟩ : S25), (rd_T32 x0 x10).f0.f1, (rd_T32 x0 x10).f0.f2⟩ : S27), (rd_T32 x0 x10).f1⟩ : S32)]) x9 (wrap64 (x10 + 1))) else (none)))) else (none)) else (none)) else (none))) else (if x9 = true then (folkmootref15_Merge.l0 k x8 x1 (wrap64 (x5 + 1))) else (if 0 ≤ x5 then (if x5 < (x1.length : Int) then (if x8.length < 2513169434916 then (folkmootref15_Merge.l0 k (x8 ++ [(⟨(⟨(⟨(rd_T32 x1 x5).f0.f0.f0, (rd_T32 x1 x5).f0.f0.f1⟩ : S25), (rd_T32 x1 x5).f0.f1, (rd_T32 x1 x5).f0.f2⟩ : S27), (rd_T32 x1 x5).f1⟩ : S32)]) x1 (wrap64 (x5 + 1))) else (none)) else (none)) else (none)))
end
def folkmootref15_Merge.f (k : Nat) (l0 : List (S32)) (l1 : List (S32)) : Option ((List (S32))) := folkmootref15_Merge.l0 k l0 l1 0
def folkmootref15_Merge.T11 : Bool × List (List Nat × List Nat) := (true, [([], []), ([0], [0]), ([1], [1]), ([2], [2]), ([2], [2]), ([3, 4, 2], [2, 3, 4]), ([5, 2], [2, 5]), ([6, 2], [2, 6]), ([2], [2]), ([2], [2]), ([8, 9, 2], [2, 8, 9]), ([10, 2], [2, 10]), ([11, 2], [2, 11]), ([7, 12, 2, 2], [2, 7, 12]), ([2, 13], [2, 13])])
def folkmootref15_Merge.B11 : List Nat := [0, 1, 3, 7, 7, 31, 63, 127, 7, 7, 775, 1799, 3847, 8191, 16383]
theorem folkmootref15_Merge.tab11 : rtab .any (opsOf Try.f23 11) = folkmootref15_Merge.T11 := by kernel_rfl
theorem folkmootref15_Merge.bits11 : waitsOk folkmootref15_Merge.T11.2 folkmootref15_Merge.B11 = true := by kernel_rfl
set_option maxHeartbeats 8000000 in
set_option maxRecDepth 100000 in
theorem folkmootref15_Merge.calls (k : Nat) (P0_ : Nat → Prop) (A0 : Option Addr) (c0 : Nat) (l0 : List (S32)) (P1_ : Nat → Prop) (A1 : Option Addr) (c1 : Nat) (l1 : List (S32)) (r : List (S32)) (w : World) (hs0 : Kd.V k32 32 w w.heap.size (fun k_ => P0_ k_) (.slice A0 l0.length c0) l0) (hs1 : Kd.V k32 32 w w.heap.size (fun k_ => P1_ k_) (.slice A1 l1.length c1) l1) (h : folkmootref15_Merge.f k l0 l1 = some r) :
  Calls Try.prog 23 #[.slice A0 l0.length c0, .slice A1 l1.length c1] w fun e w' => ∃ v0_ : Value, e = .returned (v0_) ∧ Kd.V k32 32 w' w.heap.size (fun k_ => ((P0_ k_ ∨ P1_ k_) ∨ w.heap.size ≤ k_)) v0_ r ∧ Below w.heap.size w w' := by
 have hu27 := Try.underlying27
 have hu32 := Try.underlying32
 have HO0 := Aside0.mk (show Kd.V k32 32 w w.heap.size (fun k_ => ((P0_ k_ ∨ P1_ k_) ∨ w.heap.size ≤ k_)) (.slice A0 l0.length c0) l0 from Kd.V_mono hs0 (fun k_ hk => .inl (.inl hk)))
 have HO1 := Aside0.mk (show Kd.V k32 32 w w.heap.size (fun k_ => ((P0_ k_ ∨ P1_ k_) ∨ w.heap.size ≤ k_)) (.slice A1 l1.length c1) l1 from Kd.V_mono hs1 (fun k_ hk => .inl (.inr hk)))
 have HB := Aside0.mk (Below.refl w.heap.size w)
 have H : (folkmootref15_Merge.l0 k l0 l1 0) = some r := h
 clear h
 have H' := Aside0.mk H
 clear H
 go_enter Try.func23, Try.ntmps23
 go_wp2
 go_loopg [0, 5] k (fun kq v0 v5 w' => ∃ (x0_1 : List (S32)) (x5_1 : Int), v5 = .int .i64 x5_1 ∧ Aside0 (folkmootref15_Merge.l0 kq x0_1 l1 x5_1 = some r) ∧ Aside0 (kq ≤ k) ∧ Aside0 (Kd.V k32 32 w' w.heap.size (fun k_ => ((P0_ k_ ∨ P1_ k_) ∨ w.heap.size ≤ k_)) v0 x0_1) ∧ Aside0 (Kd.V k32 32 w' w.heap.size (fun k_ => ((P0_ k_ ∨ P1_ k_) ∨ w.heap.size ≤ k_)) (.slice A1 l1.length c1) l1) ∧ Aside0 (Below w.heap.size w w'))
 case atStart => exact ⟨(l0), (0), (by first | rfl | (simp; done) | (simp [*]; done)), H', ⟨Nat.le_refl _⟩, ⟨by (with_reducible repeat (first | apply Kd.V_alloc | apply Kd.V_drewN | apply Kd.V_drew)); exact HO0.out⟩, ⟨by (with_reducible repeat (first | apply Kd.V_alloc | apply Kd.V_drewN | apply Kd.V_drew)); exact HO1.out⟩, ⟨by repeat (first | (with_reducible first | exact HB.out | apply below_alloc | apply pw_below_drewN | apply below_drew1) | exact HB.out)⟩⟩
 case round =>
  clear H'
  try clear c1
  try clear c2
  try clear p2
  obtain ⟨x0_1, x5_1, rfl, HA, HK1, HO_0, HO_1, HB⟩ := hrel
  cases gk with
  | zero => exact absurd HA.out (by simp [folkmootref15_Merge.l0])
  | succ k1 =>
   have H := HA.out
   clear HA
   simp only [folkmootref15_Merge.l0] at H
   by_cases c3 : x5_1 < (l1.length : Int)
   ·
    rw [if_pos c3] at H
    have c3b0 : decide (x5_1 < (l1.length : Int)) = true := decide_eq_true c3
    clear c3
    by_cases c4 : 0 ≤ x5_1
    ·
     rw [if_pos c4] at H
     have c4b0 : decide (0 ≤ x5_1) = true := decide_eq_true c4
     clear c4
     replace H := Option.bind_eq_some_iff.mp H
     obtain ⟨⟨t165, t168⟩, A50, H⟩ := H
     replace H : (if t168 = true then (folkmootref15_Merge.l0 k1 x0_1 l1 (wrap64 (x5_1 + 1))) else (folkmootref15_Merge.l1 k1 x0_1 l1 x5_1 ([] : List (S32)) false 0)) = some r := H
     have A5 := Aside0.mk A50
     clear A50
     by_cases c6 : t168 = true
     ·
      subst c6
      have H1 : (folkmootref15_Merge.l0 k1 x0_1 l1 (wrap64 (x5_1 + 1))) = some r := by rw [if_pos rfl] at H; exact H
      clear H
      have H := H1
      clear H1
      have H' := Aside0.mk H
      clear H
      have p164 : 0 ≤ (x5_1 : Int) := of_decide_eq_true zs_
      have q164 : x5_1 < (l1.length : Int) := of_decide_eq_true zs_
      obtain ⟨ad164, A164_4, c164_4, e164, hx164_0, hx164_1, hx164_2, hx164_3, hx164_4, hl164_4, hi164_4⟩ := at_T32 (Kd.V_reads' HO_1.out).2.2 x5_1 p164 q164
      cases e164
      obtain ⟨ce164, hce164, hMe164, hcc164⟩ := Kd.V_get HO_1.out z32 x5_1 p164 (by first | exact q164 | exact of_decide_eq_true zs_ | (have e_ := (Kd.V_reads' HO_1.out).1; omega))
      obtain ⟨ua164_4, uc164_4, rfl, ul164_4, ge164_4⟩ := k32_openF hMe164
      have hv164_4 := hcc164 4 _ rfl
      rw [add_field _ _ 4 (by omega)] at hv164_4
      replace hv164_4 := Option.some.inj (hv164_4.symm.trans hx164_4)
      injection hv164_4 with hva_ hvn_ hvc_
      rw [hva_] at ge164_4
      rw [hvc_] at ul164_4
      have HL164_4 := Aside0.mk (show Kd.V (Kd.int .u8) 5 _ w.heap.size _ _ ((rd_T32 l1 x5_1).f1) from Kd.V_mk ul164_4 ge164_4)
      clear hva_ hvn_ hvc_ ge164_4 ul164_4
      clear hcc164 hce164
      have HR164_4 := Aside0.mk hi164_4
      have HC164_4 := Aside0.mk hl164_4
      clear hi164_4 hl164_4
      replace p164 := eq_true p164
      replace q164 := eq_true q164
      obtain ⟨Ao7, co7, eo7⟩ := Kd.V_slice HO_0.out
      subst eo7
      go_wp2_with (first | ((with_reducible refine gate_callee (f := 25) rfl ?_); refine goesL_ (some 24) rfl rfl Try.func25 (by kernel_rfl) rfl #[.slice Ao7 x0_1.length co7, .agg #[.int .u64 ((rd_T32 l1 x5_1).f0.f0.f0), .int .i64 ((rd_T32 l1 x5_1).f0.f0.f1), .int .u64 ((rd_T32 l1 x5_1).f0.f1), .int .i64 ((rd_T32 l1 x5_1).f0.f2)]] rfl za_ ?_; (with_reducible refine (folkmootref15_Find.calls k1 (fun k_ => ((P0_ k_ ∨ P1_ k_) ∨ w.heap.size ≤ k_)) _ _ x0_1 ((rd_T32 l1 x5_1).f0.f0.f0) ((rd_T32 l1 x5_1).f0.f0.f1) ((rd_T32 l1 x5_1).f0.f1) ((rd_T32 l1 x5_1).f0.f2) t165 true _ ?side1 A5.out).mono ?_); (case side1 => exact HO_0.out); rintro e w8 ⟨v166, rfl, ho0, hb⟩; refine ⟨_, rfl, ?_⟩; have n0_ := Aside0.mk (Kd.V_below (zv_ HO_0) hb); have n1_ := Aside0.mk (Kd.V_below (zv_ HO_1) hb); have n2_ := Aside0.mk (Kd.V_below (zv_ HL164_4) hb); have n3_ := Aside0.mk (Kd.V_lower (Kd.V_mono (ok' := fun k_ => ((P0_ k_ ∨ P1_ k_) ∨ w.heap.size ≤ k_)) ho0 (fun k_ hk_ => Or.elim hk_ (fun hs_ => hs_) (fun hn_ => (.inr (Nat.le_trans (below_size zb_) hn_))))) (below_size zb_)); have n4_ := Aside0.mk (Kd.C_below (by repeat (first | (with_reducible exact HR164_4.out) | (with_reducible refine Kd.C_alloc ?_ _) | (with_reducible refine Kd.C_drewN ?_ _) | (with_reducible refine Kd.C_drew ?_) | exact HR164_4.out | exact (Kd.V_reads' HL164_4.out).2.2)) hb); have n5_ := Aside0.mk (below_step zb_ hb); clear HO_0; clear HO_1; clear HL164_4; clear HR164_4; clear HB; have HO_0 := n0_; have HO_1 := n1_; have HL164_4 := n2_; have HO167 := n3_; have HR164_4 := n4_; have HB := n5_; clear n0_ n1_ n2_ n3_ n4_ n5_; (try clear hb); (try clear hb2); (try clear hk); (try clear hi); (try clear ho0)))
      go_roundg k1
      case measure => have := HK1.out; omega
      case rel => exact ⟨(x0_1), (wrap64 (x5_1 + 1)), (by first | rfl | (simp; done) | (simp [*]; done)), H', ⟨by have := HK1.out; omega⟩, ⟨by (with_reducible repeat (first | apply Kd.V_alloc | apply Kd.V_drewN | apply Kd.V_drew)); exact HO_0.out⟩, ⟨by (with_reducible repeat (first | apply Kd.V_alloc | apply Kd.V_drewN | apply Kd.V_drew)); exact HO_1.out⟩, ⟨by repeat (first | (with_reducible first | exact HB.out | apply below_alloc | apply pw_below_drewN | apply below_drew1) | exact HB.out)⟩⟩
     ·
      replace c6 := Bool.eq_false_iff.mpr c6
      subst c6
      have H1 : (folkmootref15_Merge.l1 k1 x0_1 l1 x5_1 ([] : List (S32)) false 0) = some r := by rw [if_neg (show ¬ (false = true) by decide)] at H; exact H
      clear H
      have H := H1
      clear H1
      have H' := Aside0.mk H
      clear H
      have p164 : 0 ≤ (x5_1 : Int) := of_decide_eq_true zs_
      have q164 : x5_1 < (l1.length : Int) := of_decide_eq_true zs_
      obtain ⟨ad164, A164_4, c164_4, e164, hx164_0, hx164_1, hx164_2, hx164_3, hx164_4, hl164_4, hi164_4⟩ := at_T32 (Kd.V_reads' HO_1.out).2.2 x5_1 p164 q164
      cases e164
      obtain ⟨ce164, hce164, hMe164, hcc164⟩ := Kd.V_get HO_1.out z32 x5_1 p164 (by first | exact q164 | exact of_decide_eq_true zs_ | (have e_ := (Kd.V_reads' HO_1.out).1; omega))
      obtain ⟨ua164_4, uc164_4, rfl, ul164_4, ge164_4⟩ := k32_openF hMe164
      have hv164_4 := hcc164 4 _ rfl
      rw [add_field _ _ 4 (by omega)] at hv164_4
      replace hv164_4 := Option.some.inj (hv164_4.symm.trans hx164_4)
      injection hv164_4 with hva_ hvn_ hvc_
      rw [hva_] at ge164_4
      rw [hvc_] at ul164_4
      have HL164_4 := Aside0.mk (show Kd.V (Kd.int .u8) 5 _ w.heap.size _ _ ((rd_T32 l1 x5_1).f1) from Kd.V_mk ul164_4 ge164_4)
      clear hva_ hvn_ hvc_ ge164_4 ul164_4
      clear hcc164 hce164
      have HR164_4 := Aside0.mk hi164_4
      have HC164_4 := Aside0.mk hl164_4
      clear hi164_4 hl164_4
      replace p164 := eq_true p164
      replace q164 := eq_true q164
      obtain ⟨Ao9, co9, eo9⟩ := Kd.V_slice HO_0.out
      subst eo9
      go_wp2_with (first | ((with_reducible refine gate_callee (f := 25) rfl ?_); refine goesL_ (some 24) rfl rfl Try.func25 (by kernel_rfl) rfl #[.slice Ao9 x0_1.length co9, .agg #[.int .u64 ((rd_T32 l1 x5_1).f0.f0.f0), .int .i64 ((rd_T32 l1 x5_1).f0.f0.f1), .int .u64 ((rd_T32 l1 x5_1).f0.f1), .int .i64 ((rd_T32 l1 x5_1).f0.f2)]] rfl za_ ?_; (with_reducible refine (folkmootref15_Find.calls k1 (fun k_ => ((P0_ k_ ∨ P1_ k_) ∨ w.heap.size ≤ k_)) _ _ x0_1 ((rd_T32 l1 x5_1).f0.f0.f0) ((rd_T32 l1 x5_1).f0.f0.f1) ((rd_T32 l1 x5_1).f0.f1) ((rd_T32 l1 x5_1).f0.f2) t165 false _ ?side1 A5.out).mono ?_); (case side1 => exact HO_0.out); rintro e w10 ⟨v166, rfl, ho0, hb⟩; refine ⟨_, rfl, ?_⟩; have n0_ := Aside0.mk (Kd.V_below (zv_ HO_0) hb); have n1_ := Aside0.mk (Kd.V_below (zv_ HO_1) hb); have n2_ := Aside0.mk (Kd.V_below (zv_ HL164_4) hb); have n3_ := Aside0.mk (Kd.V_lower (Kd.V_mono (ok' := fun k_ => ((P0_ k_ ∨ P1_ k_) ∨ w.heap.size ≤ k_)) ho0 (fun k_ hk_ => Or.elim hk_ (fun hs_ => hs_) (fun hn_ => (.inr (Nat.le_trans (below_size zb_) hn_))))) (below_size zb_)); have n4_ := Aside0.mk (Kd.C_below (by repeat (first | (with_reducible exact HR164_4.out) | (with_reducible refine Kd.C_alloc ?_ _) | (with_reducible refine Kd.C_drewN ?_ _) | (with_reducible refine Kd.C_drew ?_) | exact HR164_4.out | exact (Kd.V_reads' HL164_4.out).2.2)) hb); have n5_ := Aside0.mk (below_step zb_ hb); clear HO_0; clear HO_1; clear HL164_4; clear HR164_4; clear HB; have HO_0 := n0_; have HO_1 := n1_; have HL164_4 := n2_; have HO167 := n3_; have HR164_4 := n4_; have HB := n5_; clear n0_ n1_ n2_ n3_ n4_ n5_; (try clear hb); (try clear hb2); (try clear hk); (try clear hi); (try clear ho0)))
      go_loopg [8, 9, 10] k1 (fun kq v8 v9 v10 w' => ∃ (x8_2 : List (S32)) (x9_2 : Bool) (x10_2 : Int), v9 = .bool x9_2 ∧ v10 = .int .i64 x10_2 ∧ Aside0 (folkmootref15_Merge.l1 kq x0_1 l1 x5_1 x8_2 x9_2 x10_2 = some r) ∧ Aside0 (kq ≤ k1) ∧ Aside0 (Kd.V k32 32 w' w.heap.size (fun k_ => ((P0_ k_ ∨ P1_ k_) ∨ w.heap.size ≤ k_) ∧ some k_ ≠ (v8 : Value).ownBlock) (.slice Ao9 x0_1.length co9) x0_1) ∧ Aside0 (Kd.V k32 32 w' w.heap.size (fun k_ => ((P0_ k_ ∨ P1_ k_) ∨ w.heap.size ≤ k_) ∧ some k_ ≠ (v8 : Value).ownBlock) (.slice (some ad164) l1.length c1) l1) ∧ Aside0 (Kd.N k32 32 w' w.heap.size (fun k_ => ((P0_ k_ ∨ P1_ k_) ∨ w.heap.size ≤ k_)) v8 x8_2) ∧ Aside0 (Below w.heap.size w w'))
      case atStart => exact ⟨(([] : List (S32))), (false), (0), (by first | rfl | (simp; done) | (simp [*]; done)), (by first | rfl | (simp; done) | (simp [*]; done)), H', ⟨Nat.le_refl _⟩, ⟨by (with_reducible repeat (first | apply Kd.V_alloc | apply Kd.V_drewN | apply Kd.V_drew)); exact Kd.V_mono HO_0.out (fun _ hk => ⟨hk, (by simp [Value.ownBlock])⟩)⟩, ⟨by (with_reducible repeat (first | apply Kd.V_alloc | apply Kd.V_drewN | apply Kd.V_drew)); exact Kd.V_mono HO_1.out (fun _ hk => ⟨hk, (by simp [Value.ownBlock])⟩)⟩, ⟨by first | exact Kd.S_nil _ _ _ _ _ | exact Kd.N_nil _ _ _ _ _ | exact Kd.V_nil _ _ _ _ _ | exact Kd.Q_nil _ _ _ _ _ | exact Kd.R_nil _ _ _ _ _⟩, ⟨by repeat (first | (with_reducible first | exact HB.out | apply below_alloc | apply pw_below_drewN | apply below_drew1) | exact HB.out)⟩⟩
      case round =>
       clear H'
       try clear c1
       try clear p1
       try clear q1
       try clear hx1
       try clear c2
       try clear p2
       try clear c3
       try clear c3b0
       try clear c4
       try clear c4b0
       try clear c6
       try clear p6
       try clear hx164_0
       try clear hx164_1
       try clear hx164_2
       try clear hx164_3
       try clear hx164_4
       try clear p164
       try clear p2
       try clear q164
       obtain ⟨x8_2, x9_2, x10_2, rfl, rfl, HA, HK2, HO_0, HO_1, HO_8, HB⟩ := hrel
       cases gk with
       | zero => exact absurd HA.out (by simp [folkmootref15_Merge.l1])
       | succ k2 =>
        have H := HA.out
        clear HA
        simp only [folkmootref15_Merge.l1] at H
        by_cases c11 : x10_2 < (x0_1.length : Int)
        ·
         rw [if_pos c11] at H
         have c11b0 : decide (x10_2 < (x0_1.length : Int)) = true := decide_eq_true c11
         clear c11
         by_cases c12 : x9_2 = true
         ·
          subst c12
          have H1 : (if 0 ≤ x10_2 then (if x8_2.length < 2513169434916 then (folkmootref15_Merge.l1 k2 x0_1 l1 x5_1 (x8_2 ++ [(⟨(⟨(⟨(rd_T32 x0_1 x10_2).f0.f0.f0, (rd_T32 x0_1 x10_2).f0.f0.f1⟩ : S25), (rd_T32 x0_1 x10_2).f0.f1, (rd_T32 x0_1 x10_2).f0.f2⟩ : S27), (rd_T32 x0_1 x10_2).f1⟩ : S32)]) true (wrap64 (x10_2 + 1))) else (none)) else (none)) = some r := by rw [if_pos rfl] at H; exact H
          clear H
          have H := H1
          clear H1
          by_cases c13 : 0 ≤ x10_2
          ·
           rw [if_pos c13] at H
           have c13b0 : decide (0 ≤ x10_2) = true := decide_eq_true c13
           clear c13
           by_cases c14 : x8_2.length < 2513169434916
           ·
            rw [if_pos c14] at H
            have LMc14 := Aside0.mk c14
            clear c14
            obtain ⟨y170, hy170⟩ : ∃ y_ : List (S32), y_ = (x8_2 ++ [(⟨(⟨(⟨(rd_T32 x0_1 x10_2).f0.f0.f0, (rd_T32 x0_1 x10_2).f0.f0.f1⟩ : S25), (rd_T32 x0_1 x10_2).f0.f1, (rd_T32 x0_1 x10_2).f0.f2⟩ : S27), (rd_T32 x0_1 x10_2).f1⟩ : S32)]) := ⟨_, rfl⟩
            replace H : (folkmootref15_Merge.l1 k2 x0_1 l1 x5_1 y170 true (wrap64 (x10_2 + 1))) = some r := by first | (rw [hy170]; with_reducible exact H) | (have H2_ := (Option.bind_some _ _).symm.trans H; rw [hy170]; with_reducible exact H2_) | (have H2_ := (Option.bind_some _ _).symm.trans H; with_reducible exact H2_) | with_reducible exact H | (rw [hy170]; exact H) | exact H
            have Ny170 := Aside0.mk hy170
            clear hy170
            have H' := Aside0.mk H
            clear H
            try go_wp2
            have n0_ := Aside0.mk (Kd.V_drew HO_0.out)
            have n1_ := Aside0.mk (Kd.V_drew HO_1.out)
            have n2_ := Aside0.mk (Kd.N_drew HO_8.out)
            have n3_ := Aside0.mk (below_drew1 HB.out)
            clear HO_0
            clear HO_1
            clear HO_8
            clear HB
            have HO_0 := n0_
            have HO_1 := n1_
            have HO_8 := n2_
            have HB := n3_
            clear n0_ n1_ n2_ n3_
            refine start_ (n := 15) (S := fun w' => True) (ds := []) #[F_,F_,F_,F_,F_,F_,F_,F_,F_,F_,F_,F_,F_,F_,F_] (by kernel_rfl) rfl rfl trivial (fun hHeld => ?_); refine with_tabW folkmootref15_Merge.tab11 folkmootref15_Merge.bits11 (fun HT_ HW_ => ?_)
            generalize wr.drew = w15 at HO_0 HO_1 HO_8 HB hHeld ⊢
            refine pure_ (i := 0) (N := some 34) (v := ?_) (a' := ?_) #[T_,F_,F_,F_,F_,F_,F_,F_,F_,F_,F_,F_,F_,F_,F_] rfl rfl (any_of HT_.out (by kernel_rfl)) (fun _ _ _ h => h) (Or.inl ⟨by rfl, ?_⟩) ?_ ?_
            rotate_left
            ·
             intro w'; go_simp; with_reducible rfl
            rotate_left
            ·
             exact zp_
            refine pure_ (i := 1) (N := some 35) (v := ?_) (a' := ?_) #[T_,T_,F_,F_,F_,F_,F_,F_,F_,F_,F_,F_,F_,F_,F_] rfl rfl (any_of HT_.out (by kernel_rfl)) (fun _ _ _ h => h) (Or.inl ⟨by rfl, ?_⟩) ?_ ?_
            rotate_left
            ·
             intro w'; go_simp; with_reducible rfl
            rotate_left
            ·
             exact zp_
            refine pure_ (i := 2) (N := some 36) (v := ?_) (a' := ?_) #[T_,T_,T_,F_,F_,F_,F_,F_,F_,F_,F_,F_,F_,F_,F_] rfl rfl (any_of HT_.out (by kernel_rfl)) (fun _ _ _ h => h) (Or.inl ⟨by rfl, ?_⟩) ?_ ?_
            rotate_left
            ·
             intro w'; go_simp; with_reducible rfl
            rotate_left
            ·
             exact zp_
            refine pure_ (i := 3) (N := some 37) (v := undef) (a' := ?_) #[T_,T_,T_,T_,F_,F_,F_,F_,F_,F_,F_,F_,F_,F_,F_] rfl rfl (any_of HT_.out (by kernel_rfl)) (fun _ _ _ h => h) (Or.inr ⟨by rfl, rfl⟩) ?_ ?_
            rotate_left
            ·
             exact zp_
            refine pure_ (i := 4) (N := some 38) (v := undef) (a' := ?_) #[T_,T_,T_,T_,T_,F_,F_,F_,F_,F_,F_,F_,F_,F_,F_] rfl rfl (any_of HT_.out (by kernel_rfl)) (fun _ _ _ h => h) (Or.inr ⟨by rfl, rfl⟩) ?_ ?_
            rotate_left
            ·
             exact zp_
            refine pure_ (i := 5) (N := some 39) (v := undef) (a' := ?_) #[T_,T_,T_,T_,T_,T_,F_,F_,F_,F_,F_,F_,F_,F_,F_] rfl rfl (any_of HT_.out (by kernel_rfl)) (fun _ _ _ h => h) (Or.inr ⟨by rfl, rfl⟩) ?_ ?_
            rotate_left
            ·
             exact zp_
            refine pure_ (i := 6) (N := some 40) (v := undef) (a' := ?_) #[T_,T_,T_,T_,T_,T_,T_,F_,F_,F_,F_,F_,F_,F_,F_] rfl rfl (any_of HT_.out (by kernel_rfl)) (fun _ _ _ h => h) (Or.inr ⟨by rfl, rfl⟩) ?_ ?_
            rotate_left
            ·
             exact zp_
            refine pure_ (i := 7) (N := some 41) (v := undef) (a' := ?_) #[T_,T_,T_,T_,T_,T_,T_,T_,F_,F_,F_,F_,F_,F_,F_] rfl rfl (any_of HT_.out (by kernel_rfl)) (fun _ _ _ h => h) (Or.inr ⟨by rfl, rfl⟩) ?_ ?_
            rotate_left
            ·
             exact zp_
            refine pure_ (i := 8) (N := some 42) (v := undef) (a' := ?_) #[T_,T_,T_,T_,T_,T_,T_,T_,T_,F_,F_,F_,F_,F_,F_] rfl rfl (any_of HT_.out (by kernel_rfl)) (fun _ _ _ h => h) (Or.inr ⟨by rfl, rfl⟩) ?_ ?_
            rotate_left
            ·
             exact zp_
            refine pure_ (i := 9) (N := some 43) (v := undef) (a' := ?_) #[T_,T_,T_,T_,T_,T_,T_,T_,T_,T_,F_,F_,F_,F_,F_] rfl rfl (any_of HT_.out (by kernel_rfl)) (fun _ _ _ h => h) (Or.inr ⟨by rfl, rfl⟩) ?_ ?_
            rotate_left
            ·
             exact zp_
            refine pure_ (i := 10) (N := some 44) (v := undef) (a' := ?_) #[T_,T_,T_,T_,T_,T_,T_,T_,T_,T_,T_,F_,F_,F_,F_] rfl rfl (any_of HT_.out (by kernel_rfl)) (fun _ _ _ h => h) (Or.inr ⟨by rfl, rfl⟩) ?_ ?_
            rotate_left
            ·
             exact zp_
            refine pure_ (i := 11) (N := some 45) (v := undef) (a' := ?_) #[T_,T_,T_,T_,T_,T_,T_,T_,T_,T_,T_,T_,F_,F_,F_] rfl rfl (any_of HT_.out (by kernel_rfl)) (fun _ _ _ h => h) (Or.inr ⟨by rfl, rfl⟩) ?_ ?_
            rotate_left
            ·
             exact zp_
            refine pure_ (i := 12) (N := some 46) (v := undef) (a' := ?_) #[T_,T_,T_,T_,T_,T_,T_,T_,T_,T_,T_,T_,T_,F_,F_] rfl rfl (any_of HT_.out (by kernel_rfl)) (fun _ _ _ h => h) (Or.inr ⟨by rfl, rfl⟩) ?_ ?_
            rotate_left
            ·
             exact zp_
            refine pure_ (i := 13) (N := some 47) (v := undef) (a' := ?_) #[T_,T_,T_,T_,T_,T_,T_,T_,T_,T_,T_,T_,T_,T_,F_] rfl rfl (any_of HT_.out (by kernel_rfl)) (fun _ _ _ h => h) (Or.inr ⟨by rfl, rfl⟩) ?_ ?_
            rotate_left
            ·
             exact zp_
            refine pure_ (i := 14) (N := some 48) (v := ?_) (a' := ?_) #[T_,T_,T_,T_,T_,T_,T_,T_,T_,T_,T_,T_,T_,T_,T_] rfl rfl (any_of HT_.out (by kernel_rfl)) (fun _ _ _ h => h) (Or.inl ⟨by rfl, ?_⟩) ?_ ?_
            rotate_left
            ·
             intro w'; go_simp; with_reducible rfl
            rotate_left
            ·
             exact zp_
            refine done_ (done_of HT_.out (by kernel_rfl)) ?_
            (try clear hHeld); (try clear HS0_); (try clear HS1_); (try clear HS2_); (try clear HS3_); (try clear HS4_); (try clear HS5_); (try clear HS6_); (try clear HS7_); (try clear HS8_); (try clear HS9_)
            have p169 : 0 ≤ (x10_2 : Int) := of_decide_eq_true zs_
            have q169 : x10_2 < (x0_1.length : Int) := of_decide_eq_true zs_
            obtain ⟨ad169, A169_4, c169_4, e169, hx169_0, hx169_1, hx169_2, hx169_3, hx169_4, hl169_4, hi169_4⟩ := at_T32 (Kd.V_reads' HO_0.out).2.2 x10_2 p169 q169
            cases e169
            obtain ⟨ce169, hce169, hMe169, hcc169⟩ := Kd.V_get HO_0.out z32 x10_2 p169 (by first | exact q169 | exact of_decide_eq_true zs_ | (have e_ := (Kd.V_reads' HO_0.out).1; omega))
            obtain ⟨ua169_4, uc169_4, rfl, ul169_4, ge169_4⟩ := k32_openF hMe169
            have hv169_4 := hcc169 4 _ rfl
            rw [add_field _ _ 4 (by omega)] at hv169_4
            replace hv169_4 := Option.some.inj (hv169_4.symm.trans hx169_4)
            injection hv169_4 with hva_ hvn_ hvc_
            rw [hva_] at ge169_4
            rw [hvc_] at ul169_4
            have HL169_4 := Aside0.mk (show Kd.V (Kd.int .u8) 5 _ w.heap.size _ _ ((rd_T32 x0_1 x10_2).f1) from Kd.V_mk ul169_4 ge169_4)
            clear hva_ hvn_ hvc_ ge169_4 ul169_4
            clear hcc169 hce169
            have HR169_4 := Aside0.mk hi169_4
            have HC169_4 := Aside0.mk hl169_4
            clear hi169_4 hl169_4
            replace p169 := eq_true p169
            replace q169 := eq_true q169
            try go_wp2_with (first | ((with_reducible refine gate_builtin (b := .append) (xs := #[.tmp 56, .tmp 61]) rfl ?_); at_builtin; refine Kd.N_append k32 (w0 := w) w.heap.size rfl (.tmp 56) (.tmp 61) 22 32 (.agg #[(.int .u64 0), (.int .i64 0), (.int .u64 0), (.int .i64 0), (.slice none 0 0)]) 56 rfl Try.underlying22 info32 rfl (by decide) (by omega) u8 x8_2 (⟨(⟨(⟨(rd_T32 x0_1 x10_2).f0.f0.f0, (rd_T32 x0_1 x10_2).f0.f0.f1⟩ : S25), (rd_T32 x0_1 x10_2).f0.f1, (rd_T32 x0_1 x10_2).f0.f2⟩ : S27), (rd_T32 x0_1 x10_2).f1⟩ : S32) [.int .u64 ((rd_T32 x0_1 x10_2).f0.f0.f0), .int .i64 ((rd_T32 x0_1 x10_2).f0.f0.f1), .int .u64 ((rd_T32 x0_1 x10_2).f0.f1), .int .i64 ((rd_T32 x0_1 x10_2).f0.f2), .slice A169_4 ((rd_T32 x0_1 x10_2).f1).length c169_4] (fun k_ => ((P0_ k_ ∨ P1_ k_) ∨ w.heap.size ≤ k_)) (fun k_ => ((fun k_ => ((P0_ k_ ∨ P1_ k_) ∨ w.heap.size ≤ k_))) k_ ∧ some k_ ≠ (u8 : Value).ownBlock) rfl rfl ?aP (fun _ hk => hk) ?aF ?aO ?aB ?aS ?aL ?_; (case aP => first | exact (k32_mkF _ _ (⟨(⟨(⟨(rd_T32 x0_1 x10_2).f0.f0.f0, (rd_T32 x0_1 x10_2).f0.f0.f1⟩ : S25), (rd_T32 x0_1 x10_2).f0.f1, (rd_T32 x0_1 x10_2).f0.f2⟩ : S27), (rd_T32 x0_1 x10_2).f1⟩ : S32) (Kd.V_reads' (Kd.V_mono (ok' := (fun k_ => ((fun k_ => ((P0_ k_ ∨ P1_ k_) ∨ w.heap.size ≤ k_))) k_ ∧ some k_ ≠ (u8 : Value).ownBlock)) (HL169_4.out) (fun k_ hk => ⟨hk.1, hk.2⟩))).2.1 (Kd.V_F (Kd.V_mono (ok' := (fun k_ => ((fun k_ => ((P0_ k_ ∨ P1_ k_) ∨ w.heap.size ≤ k_))) k_ ∧ some k_ ≠ (u8 : Value).ownBlock)) (HL169_4.out) (fun k_ hk => ⟨hk.1, hk.2⟩)))) | exact (k32_mkF _ _ (⟨(⟨(⟨(rd_T32 x0_1 x10_2).f0.f0.f0, (rd_T32 x0_1 x10_2).f0.f0.f1⟩ : S25), (rd_T32 x0_1 x10_2).f0.f1, (rd_T32 x0_1 x10_2).f0.f2⟩ : S27), (rd_T32 x0_1 x10_2).f1⟩ : S32) (Kd.V_reads' (Kd.V_mono (ok' := (fun k_ => ((fun k_ => ((P0_ k_ ∨ P1_ k_) ∨ w.heap.size ≤ k_))) k_ ∧ some k_ ≠ (u8 : Value).ownBlock)) (HL169_4.out) (fun k_ hk => ⟨hk.1, hk.2⟩))).2.1 (Kd.V_F (Kd.V_mono (ok' := (fun k_ => ((fun k_ => ((P0_ k_ ∨ P1_ k_) ∨ w.heap.size ≤ k_))) k_ ∧ some k_ ≠ (u8 : Value).ownBlock)) (Kd.V_drewN HL169_4.out _) (fun k_ hk => ⟨hk.1, hk.2⟩))))); (case aB => exact zb_); (case aF => exact (fun k_ hk => (.inr (Nat.le_trans (below_size zb_) hk)))); (case aO => exact (zn_ HO_8)); (case aS => exact (below_size zb_)); (case aL => have := LMc14.out; omega); intro v171 w16 ho hb hg hat; rw [← Ny170.out] at ho; have n0_ := Aside0.mk (Kd.V_afterv (ok := (fun k_ => ((P0_ k_ ∨ P1_ k_) ∨ w.heap.size ≤ k_))) (zv_ HO_0) hg hat); have n1_ := Aside0.mk (Kd.V_afterv (ok := (fun k_ => ((P0_ k_ ∨ P1_ k_) ∨ w.heap.size ≤ k_))) (zv_ HO_1) hg hat); have n2_ := Aside0.mk (Kd.V_afterv (ok := (fun k_ => ((P0_ k_ ∨ P1_ k_) ∨ w.heap.size ≤ k_))) (zv_ HL169_4) hg hat); have n3_ := Aside0.mk (hb); have n4_ := Aside0.mk (ho); clear HO_0; clear HO_1; clear HL169_4; clear HB; clear HO_8; have HO_0 := n0_; have HO_1 := n1_; have HL169_4 := n2_; have HB := n3_; have HO172 := n4_; clear n0_ n1_ n2_ n3_ n4_; clear ho hb hg hat))
            go_roundg k2
            case measure => have := HK1.out; have := HK2.out; omega
            case rel => exact ⟨(y170), (true), (wrap64 (x10_2 + 1)), (by first | rfl | (simp; done) | (simp [*]; done)), (by first | rfl | (simp; done) | (simp [*]; done)), H', ⟨by have := HK1.out; have := HK2.out; omega⟩, ⟨by (with_reducible repeat (first | apply Kd.V_alloc | apply Kd.V_drewN | apply Kd.V_drew)); exact HO_0.out⟩, ⟨by (with_reducible repeat (first | apply Kd.V_alloc | apply Kd.V_drewN | apply Kd.V_drew)); exact HO_1.out⟩, ⟨by (with_reducible repeat (first | apply Kd.N_alloc | apply Kd.N_drewN | apply Kd.N_drew)); exact HO172.out⟩, ⟨by repeat (first | (with_reducible first | exact HB.out | apply below_alloc | apply pw_below_drewN | apply below_drew1) | exact HB.out)⟩⟩
           ·
            rw [if_neg c14] at H
            exact absurd H (by simp)
          ·
           rw [if_neg c13] at H
           exact absurd H (by simp)
         ·
          replace c12 := Bool.eq_false_iff.mpr c12
          subst c12
          have H1 : (if 0 ≤ x5_1 then (if x5_1 < (l1.length : Int) then (if 0 ≤ x10_2 then ((folkmootref05_Less.f k2 ((rd_T32 l1 x5_1).f0.f0.f0) ((rd_T32 l1 x5_1).f0.f0.f1) ((rd_T32 l1 x5_1).f0.f1) ((rd_T32 l1 x5_1).f0.f2) ((rd_T32 x0_1 x10_2).f0.f0.f0) ((rd_T32 x0_1 x10_2).f0.f0.f1) ((rd_T32 x0_1 x10_2).f0.f1) ((rd_T32 x0_1 x10_2).f0.f2)).bind fun t175 => (if t175 = true then (if x8_2.length < 2513169434916 then ((some (x8_2 ++ [(⟨(⟨(⟨(rd_T32 l1 x5_1).f0.f0.f0, (rd_T32 l1 x5_1).f0.f0.f1⟩ : S25), (rd_T32 l1 x5_1).f0.f1, (rd_T32 l1 x5_1).f0.f2⟩ : S27), (rd_T32 l1 x5_1).f1⟩ : S32)] : List (S32))).bind fun y177 => (if y177.length < 2513169434916 then (folkmootref15_Merge.l1 k2 x0_1 l1 x5_1 (y177 ++ [(⟨(⟨(⟨(rd_T32 x0_1 x10_2).f0.f0.f0, (rd_T32 x0_1 x10_2).f0.f0.f1⟩ : S25), (rd_T32 x0_1 x10_2).f0.f1, (rd_T32 x0_1 x10_2).f0.f2⟩ : S27), (rd_T32 x0_1 x10_2).f1⟩ : S32)]) true (wrap64 (x10_2 + 1))) else (none))) else (none)) else (if x8_2.length < 2513169434916 then (folkmootref15_Merge.l1 k2 x0_1 l1 x5_1 (x8_2 ++ [(⟨(⟨(⟨(rd_T32 x0_1 x10_2).f0.f0.f0, (rd_T32 x0_1 x10_2).f0.f0.f1⟩ : S25), (rd_T32 x0_1 x10_2).f0.f1, (rd_T32 x0_1 x10_2).f0.f2⟩ : S27), (rd_T32 x0_1 x10_2).f1⟩ : S32)]) false (wrap64 (x10_2 + 1))) else (none)))) else (none)) else (none)) else (none)) = some r := by rw [if_neg (show ¬ (false = true) by decide)] at H; exact H
          clear H
          have H := H1
          clear H1
          by_cases c17 : 0 ≤ x5_1
          ·
           rw [if_pos c17] at H
           have c17b0 : decide (0 ≤ x5_1) = true := decide_eq_true c17
           clear c17
           by_cases c18 : x5_1 < (l1.length : Int)
           ·
            rw [if_pos c18] at H
            have c18b0 : decide (x5_1 < (l1.length : Int)) = true := decide_eq_true c18
            clear c18
            by_cases c19 : 0 ≤ x10_2
            ·
             rw [if_pos c19] at H
             have c19b0 : decide (0 ≤ x10_2) = true := decide_eq_true c19
             clear c19
             replace H := Option.bind_eq_some_iff.mp H
             obtain ⟨t175, A200, H⟩ := H
             replace H : (if t175 = true then (if x8_2.length < 2513169434916 then ((some (x8_2 ++ [(⟨(⟨(⟨(rd_T32 l1 x5_1).f0.f0.f0, (rd_T32 l1 x5_1).f0.f0.f1⟩ : S25), (rd_T32 l1 x5_1).f0.f1, (rd_T32 l1 x5_1).f0.f2⟩ : S27), (rd_T32 l1 x5_1).f1⟩ : S32)] : List (S32))).bind fun y177 => (if y177.length < 2513169434916 then (folkmootref15_Merge.l1 k2 x0_1 l1 x5_1 (y177 ++ [(⟨(⟨(⟨(rd_T32 x0_1 x10_2).f0.f0.f0, (rd_T32 x0_1 x10_2).f0.f0.f1⟩ : S25), (rd_T32 x0_1 x10_2).f0.f1, (rd_T32 x0_1 x10_2).f0.f2⟩ : S27), (rd_T32 x0_1 x10_2).f1⟩ : S32)]) true (wrap64 (x10_2 + 1))) else (none))) else (none)) else (if x8_2.length < 2513169434916 then (folkmootref15_Merge.l1 k2 x0_1 l1 x5_1 (x8_2 ++ [(⟨(⟨(⟨(rd_T32 x0_1 x10_2).f0.f0.f0, (rd_T32 x0_1 x10_2).f0.f0.f1⟩ : S25), (rd_T32 x0_1 x10_2).f0.f1, (rd_T32 x0_1 x10_2).f0.f2⟩ : S27), (rd_T32 x0_1 x10_2).f1⟩ : S32)]) false (wrap64 (x10_2 + 1))) else (none))) = some r := H
             have A20 := Aside0.mk A200
             clear A200
             by_cases c21 : t175 = true
             ·
              subst c21
              have H1 : (if x8_2.length < 2513169434916 then ((some (x8_2 ++ [(⟨(⟨(⟨(rd_T32 l1 x5_1).f0.f0.f0, (rd_T32 l1 x5_1).f0.f0.f1⟩ : S25), (rd_T32 l1 x5_1).f0.f1, (rd_T32 l1 x5_1).f0.f2⟩ : S27), (rd_T32 l1 x5_1).f1⟩ : S32)] : List (S32))).bind fun y177 => (if y177.length < 2513169434916 then (folkmootref15_Merge.l1 k2 x0_1 l1 x5_1 (y177 ++ [(⟨(⟨(⟨(rd_T32 x0_1 x10_2).f0.f0.f0, (rd_T32 x0_1 x10_2).f0.f0.f1⟩ : S25), (rd_T32 x0_1 x10_2).f0.f1, (rd_T32 x0_1 x10_2).f0.f2⟩ : S27), (rd_T32 x0_1 x10_2).f1⟩ : S32)]) true (wrap64 (x10_2 + 1))) else (none))) else (none)) = some r := by rw [if_pos rfl] at H; exact H
              clear H
              have H := H1
              clear H1
              by_cases c22 : x8_2.length < 2513169434916
              ·
               rw [if_pos c22] at H
               have LMc22 := Aside0.mk c22
               clear c22
               obtain ⟨y177, hy177⟩ : ∃ y_ : List (S32), y_ = (x8_2 ++ [(⟨(⟨(⟨(rd_T32 l1 x5_1).f0.f0.f0, (rd_T32 l1 x5_1).f0.f0.f1⟩ : S25), (rd_T32 l1 x5_1).f0.f1, (rd_T32 l1 x5_1).f0.f2⟩ : S27), (rd_T32 l1 x5_1).f1⟩ : S32)]) := ⟨_, rfl⟩
               replace H : (if y177.length < 2513169434916 then (folkmootref15_Merge.l1 k2 x0_1 l1 x5_1 (y177 ++ [(⟨(⟨(⟨(rd_T32 x0_1 x10_2).f0.f0.f0, (rd_T32 x0_1 x10_2).f0.f0.f1⟩ : S25), (rd_T32 x0_1 x10_2).f0.f1, (rd_T32 x0_1 x10_2).f0.f2⟩ : S27), (rd_T32 x0_1 x10_2).f1⟩ : S32)]) true (wrap64 (x10_2 + 1))) else (none)) = some r := by first | (rw [hy177]; with_reducible exact H) | (have H2_ := (Option.bind_some _ _).symm.trans H; rw [hy177]; with_reducible exact H2_) | (have H2_ := (Option.bind_some _ _).symm.trans H; with_reducible exact H2_) | with_reducible exact H | (rw [hy177]; exact H) | exact H
               have Ny177 := Aside0.mk hy177
               clear hy177
               by_cases c23 : y177.length < 2513169434916
               ·
                rw [if_pos c23] at H
                have LMc23 := Aside0.mk c23
                clear c23
                obtain ⟨y181, hy181⟩ : ∃ y_ : List (S32), y_ = (y177 ++ [(⟨(⟨(⟨(rd_T32 x0_1 x10_2).f0.f0.f0, (rd_T32 x0_1 x10_2).f0.f0.f1⟩ : S25), (rd_T32 x0_1 x10_2).f0.f1, (rd_T32 x0_1 x10_2).f0.f2⟩ : S27), (rd_T32 x0_1 x10_2).f1⟩ : S32)]) := ⟨_, rfl⟩
                replace H : (folkmootref15_Merge.l1 k2 x0_1 l1 x5_1 y181 true (wrap64 (x10_2 + 1))) = some r := by first | (rw [hy181]; with_reducible exact H) | (have H2_ := (Option.bind_some _ _).symm.trans H; rw [hy181]; with_reducible exact H2_) | (have H2_ := (Option.bind_some _ _).symm.trans H; with_reducible exact H2_) | with_reducible exact H | (rw [hy181]; exact H) | exact H
                have Ny181 := Aside0.mk hy181
                clear hy181
                have H' := Aside0.mk H
                clear H
                try go_wp2
                have n0_ := Aside0.mk (Kd.V_drew HO_0.out)
                have n1_ := Aside0.mk (Kd.V_drew HO_1.out)
                have n2_ := Aside0.mk (Kd.N_drew HO_8.out)
                have n3_ := Aside0.mk (below_drew1 HB.out)
                clear HO_0
                clear HO_1
                clear HO_8
                clear HB
                have HO_0 := n0_
                have HO_1 := n1_
                have HO_8 := n2_
                have HB := n3_
                clear n0_ n1_ n2_ n3_
                have p173 : 0 ≤ (x5_1 : Int) := of_decide_eq_true zs_
                have q173 : x5_1 < (l1.length : Int) := of_decide_eq_true zs_
                obtain ⟨ad173, A173_4, c173_4, e173, hx173_0, hx173_1, hx173_2, hx173_3, hx173_4, hl173_4, hi173_4⟩ := at_T32 (Kd.V_reads' HO_1.out).2.2 x5_1 p173 q173
                obtain rfl : ad164 = ad173 := (by injection e173)
                obtain ⟨ce173, hce173, hMe173, hcc173⟩ := Kd.V_get HO_1.out z32 x5_1 p173 (by first | exact q173 | exact of_decide_eq_true zs_ | (have e_ := (Kd.V_reads' HO_1.out).1; omega))
                obtain ⟨ua173_4, uc173_4, rfl, ul173_4, ge173_4⟩ := k32_openF hMe173
                have hv173_4 := hcc173 4 _ rfl
                rw [add_field _ _ 4 (by omega)] at hv173_4
                replace hv173_4 := Option.some.inj (hv173_4.symm.trans hx173_4)
                injection hv173_4 with hva_ hvn_ hvc_
                rw [hva_] at ge173_4
                rw [hvc_] at ul173_4
                have HL173_4 := Aside0.mk (show Kd.V (Kd.int .u8) 5 _ w.heap.size _ _ ((rd_T32 l1 x5_1).f1) from Kd.V_mk ul173_4 ge173_4)
                clear hva_ hvn_ hvc_ ge173_4 ul173_4
                clear hcc173 hce173
                have HR173_4 := Aside0.mk hi173_4
                have HC173_4 := Aside0.mk hl173_4
                clear hi173_4 hl173_4
                replace p173 := eq_true p173
                replace q173 := eq_true q173
                have p174 : 0 ≤ (x10_2 : Int) := of_decide_eq_true zs_
                have q174 : x10_2 < (x0_1.length : Int) := of_decide_eq_true zs_
                obtain ⟨ad174, A174_4, c174_4, e174, hx174_0, hx174_1, hx174_2, hx174_3, hx174_4, hl174_4, hi174_4⟩ := at_T32 (Kd.V_reads' HO_0.out).2.2 x10_2 p174 q174
                cases e174
                obtain ⟨ce174, hce174, hMe174, hcc174⟩ := Kd.V_get HO_0.out z32 x10_2 p174 (by first | exact q174 | exact of_decide_eq_true zs_ | (have e_ := (Kd.V_reads' HO_0.out).1; omega))
                obtain ⟨ua174_4, uc174_4, rfl, ul174_4, ge174_4⟩ := k32_openF hMe174
                have hv174_4 := hcc174 4 _ rfl
                rw [add_field _ _ 4 (by omega)] at hv174_4
                replace hv174_4 := Option.some.inj (hv174_4.symm.trans hx174_4)
                injection hv174_4 with hva_ hvn_ hvc_
                rw [hva_] at ge174_4
                rw [hvc_] at ul174_4
                have HL174_4 := Aside0.mk (show Kd.V (Kd.int .u8) 5 _ w.heap.size _ _ ((rd_T32 x0_1 x10_2).f1) from Kd.V_mk ul174_4 ge174_4)
                clear hva_ hvn_ hvc_ ge174_4 ul174_4
                clear hcc174 hce174
                have HR174_4 := Aside0.mk hi174_4
                have HC174_4 := Aside0.mk hl174_4
                clear hi174_4 hl174_4
                replace p174 := eq_true p174
                replace q174 := eq_true q174
                refine start_ (n := 15) (S := fun w' => w'.cell? (ad164.add ((x5_1).toNat * 5)) = some (.int .u64 ((rd_T32 l1 x5_1).f0.f0.f0)) ∧ w'.cell? ⟨(ad164.add ((x5_1).toNat * 5)).block, (ad164.add ((x5_1).toNat * 5)).off + 1, none⟩ = some (.int .i64 ((rd_T32 l1 x5_1).f0.f0.f1)) ∧ w'.cell? ⟨(ad164.add ((x5_1).toNat * 5)).block, (ad164.add ((x5_1).toNat * 5)).off + 2, none⟩ = some (.int .u64 ((rd_T32 l1 x5_1).f0.f1)) ∧ w'.cell? ⟨(ad164.add ((x5_1).toNat * 5)).block, (ad164.add ((x5_1).toNat * 5)).off + 3, none⟩ = some (.int .i64 ((rd_T32 l1 x5_1).f0.f2)) ∧ w'.cell? ⟨(ad164.add ((x5_1).toNat * 5)).block, (ad164.add ((x5_1).toNat * 5)).off + 4, none⟩ = some (.slice A173_4 ((rd_T32 l1 x5_1).f1).length c173_4) ∧ w'.cell? (ad174.add ((x10_2).toNat * 5)) = some (.int .u64 ((rd_T32 x0_1 x10_2).f0.f0.f0)) ∧ w'.cell? ⟨(ad174.add ((x10_2).toNat * 5)).block, (ad174.add ((x10_2).toNat * 5)).off + 1, none⟩ = some (.int .i64 ((rd_T32 x0_1 x10_2).f0.f0.f1)) ∧ w'.cell? ⟨(ad174.add ((x10_2).toNat * 5)).block, (ad174.add ((x10_2).toNat * 5)).off + 2, none⟩ = some (.int .u64 ((rd_T32 x0_1 x10_2).f0.f1)) ∧ w'.cell? ⟨(ad174.add ((x10_2).toNat * 5)).block, (ad174.add ((x10_2).toNat * 5)).off + 3, none⟩ = some (.int .i64 ((rd_T32 x0_1 x10_2).f0.f2)) ∧ w'.cell? ⟨(ad174.add ((x10_2).toNat * 5)).block, (ad174.add ((x10_2).toNat * 5)).off + 4, none⟩ = some (.slice A174_4 ((rd_T32 x0_1 x10_2).f1).length c174_4)) (ds := []) #[F_,F_,F_,F_,F_,F_,F_,F_,F_,F_,F_,F_,F_,F_,F_] (by kernel_rfl) rfl rfl ⟨hx173_0, hx173_1, hx173_2, hx173_3, hx173_4, hx174_0, hx174_1, hx174_2, hx174_3, hx174_4⟩ (fun hHeld => ?_); refine with_tabW folkmootref15_Merge.tab11 folkmootref15_Merge.bits11 (fun HT_ HW_ => ?_)
                generalize wr.drew = w24 at HO_0 HO_1 HO_8 HB HL173_4 HL174_4 HR173_4 HR174_4 hx173_0 hx173_1 hx173_2 hx173_3 hx173_4 hx174_0 hx174_1 hx174_2 hx174_3 hx174_4 hHeld ⊢
                refine pure_ (i := 0) (N := some 34) (v := ?_) (a' := ?_) #[T_,F_,F_,F_,F_,F_,F_,F_,F_,F_,F_,F_,F_,F_,F_] rfl rfl (any_of HT_.out (by kernel_rfl)) (fun _ _ _ h => h) (Or.inl ⟨by rfl, ?_⟩) ?_ ?_
                rotate_left
                ·
                 intro w'; go_simp; with_reducible rfl
                rotate_left
                ·
                 exact zp_
                refine pure_ (i := 1) (N := some 35) (v := ?_) (a' := ?_) #[T_,T_,F_,F_,F_,F_,F_,F_,F_,F_,F_,F_,F_,F_,F_] rfl rfl (any_of HT_.out (by kernel_rfl)) (fun _ _ _ h => h) (Or.inl ⟨by rfl, ?_⟩) ?_ ?_
                rotate_left
                ·
                 intro w'; go_simp; with_reducible rfl
                rotate_left
                ·
                 exact zp_
                refine pure_ (i := 2) (N := some 36) (v := ?_) (a' := ?_) #[T_,T_,T_,F_,F_,F_,F_,F_,F_,F_,F_,F_,F_,F_,F_] rfl rfl (any_of HT_.out (by kernel_rfl)) (fun _ _ _ h => h) (Or.inl ⟨by rfl, ?_⟩) ?_ ?_
                rotate_left
                ·
                 intro w'; go_simp; with_reducible rfl
                rotate_left
                ·
                 exact zp_
                refine pure_ (i := 3) (N := some 37) (v := ?_) (a' := ?_) #[T_,T_,T_,T_,F_,F_,F_,F_,F_,F_,F_,F_,F_,F_,F_] rfl rfl (any_of HT_.out (by kernel_rfl)) (fun _ _ _ h => h) (Or.inl ⟨by rfl, ?_⟩) ?_ ?_
                rotate_left
                ·
                 intro w'; go_simp; with_reducible rfl
                rotate_left
                ·
                 exact zp_
                refine pure_ (i := 4) (N := some 38) (v := ?_) (a' := ?_) #[T_,T_,T_,T_,T_,F_,F_,F_,F_,F_,F_,F_,F_,F_,F_] rfl rfl (any_of HT_.out (by kernel_rfl)) (fun _ _ _ h => h) (Or.inl ⟨by rfl, ?_⟩) ?_ ?_
                rotate_left
                ·
                 intro w'; go_simp; with_reducible rfl
                rotate_left
                ·
                 exact zp_
                refine pure_ (i := 5) (N := some 39) (v := ?_) (a' := ?_) #[T_,T_,T_,T_,T_,T_,F_,F_,F_,F_,F_,F_,F_,F_,F_] rfl rfl (any_of HT_.out (by kernel_rfl)) (fun _ _ _ h => h) (Or.inl ⟨by rfl, ?_⟩) ?_ ?_
                rotate_left
                ·
                 intro w'; go_simp; with_reducible rfl
                rotate_left
                ·
                 exact zp_
                refine pure_ (i := 6) (N := some 40) (v := ?_) (a' := ?_) #[T_,T_,T_,T_,T_,T_,T_,F_,F_,F_,F_,F_,F_,F_,F_] rfl rfl (any_of HT_.out (by kernel_rfl)) (fun _ _ _ h => h) (Or.inl ⟨by rfl, ?_⟩) ?_ ?_
                rotate_left
                ·
                 intro w'; go_simp; with_reducible rfl
                rotate_left
                ·
                 exact zp_
                refine pure_ (i := 8) (N := some 42) (v := ?_) (a' := ?_) #[T_,T_,T_,T_,T_,T_,T_,F_,T_,F_,F_,F_,F_,F_,F_] rfl rfl (any_of HT_.out (by kernel_rfl)) (fun _ _ _ h => h) (Or.inl ⟨by rfl, ?_⟩) ?_ ?_
                rotate_left
                ·
                 intro w'; go_simp; with_reducible rfl
                rotate_left
                ·
                 exact zp_
                refine pure_ (i := 9) (N := some 43) (v := ?_) (a' := ?_) #[T_,T_,T_,T_,T_,T_,T_,F_,T_,T_,F_,F_,F_,F_,F_] rfl rfl (any_of HT_.out (by kernel_rfl)) (fun _ _ _ h => h) (Or.inl ⟨by rfl, ?_⟩) ?_ ?_
                rotate_left
                ·
                 intro w'; go_simp; with_reducible rfl
                rotate_left
                ·
                 exact zp_
                refine pure_ (i := 10) (N := some 44) (v := ?_) (a' := ?_) #[T_,T_,T_,T_,T_,T_,T_,F_,T_,T_,T_,F_,F_,F_,F_] rfl rfl (any_of HT_.out (by kernel_rfl)) (fun _ _ _ h => h) (Or.inl ⟨by rfl, ?_⟩) ?_ ?_
                rotate_left
                ·
                 intro w'; go_simp; with_reducible rfl
                rotate_left
                ·
                 exact zp_
                refine pure_ (i := 11) (N := some 45) (v := ?_) (a' := ?_) #[T_,T_,T_,T_,T_,T_,T_,F_,T_,T_,T_,T_,F_,F_,F_] rfl rfl (any_of HT_.out (by kernel_rfl)) (fun _ _ _ h => h) (Or.inl ⟨by rfl, ?_⟩) ?_ ?_
                rotate_left
                ·
                 intro w'; go_simp; with_reducible rfl
                rotate_left
                ·
                 exact zp_
                refine take_ (i := 7) (N := some 41) (v := ?_) (a' := ?_) #[T_,T_,T_,T_,T_,T_,T_,T_,T_,T_,T_,T_,F_,F_,F_] rfl rfl (take_ofW HT_.out HW_.out (by kernel_rfl)) (fun _ _ _ h => h) (Or.inl ⟨by rfl, ?_⟩) hHeld ?_ ?_
                rotate_left
                ·
                 rintro w' ⟨s0, s1, s2, s3, s4, s5, s6, s7, s8, s9⟩
                 go_simp
                 with_reducible rfl
                rotate_left
                ·
                 exact zp_
                refine take_ (i := 12) (N := some 46) (v := ?_) (a' := ?_) #[T_,T_,T_,T_,T_,T_,T_,T_,T_,T_,T_,T_,T_,F_,F_] rfl rfl (take_ofW HT_.out HW_.out (by kernel_rfl)) (fun _ _ _ h => h) (Or.inl ⟨by rfl, ?_⟩) hHeld ?_ ?_
                rotate_left
                ·
                 rintro w' ⟨s0, s1, s2, s3, s4, s5, s6, s7, s8, s9⟩
                 go_simp
                 with_reducible rfl
                rotate_left
                ·
                 exact zp_
                refine one_ (i := 13) (N := some 47) #[T_,T_,T_,T_,T_,T_,T_,T_,T_,T_,T_,T_,T_,T_,F_] rfl rfl (one_of HT_.out (by kernel_rfl)) (by decide) (fun K hK => ?_)
                refine goes_ Try.func43 (by kernel_rfl) rfl #[.agg #[.int .u64 ((rd_T32 l1 x5_1).f0.f0.f0), .int .i64 ((rd_T32 l1 x5_1).f0.f0.f1), .int .u64 ((rd_T32 l1 x5_1).f0.f1), .int .i64 ((rd_T32 l1 x5_1).f0.f2)], .agg #[.int .u64 ((rd_T32 x0_1 x10_2).f0.f0.f0), .int .i64 ((rd_T32 x0_1 x10_2).f0.f0.f1), .int .u64 ((rd_T32 x0_1 x10_2).f0.f1), .int .i64 ((rd_T32 x0_1 x10_2).f0.f2)]] (by rfl) rfl rfl za_ ?_
                with_reducible refine (folkmootref05_Less.calls k2 ((rd_T32 l1 x5_1).f0.f0.f0) ((rd_T32 l1 x5_1).f0.f0.f1) ((rd_T32 l1 x5_1).f0.f1) ((rd_T32 l1 x5_1).f0.f2) ((rd_T32 x0_1 x10_2).f0.f0.f0) ((rd_T32 x0_1 x10_2).f0.f0.f1) ((rd_T32 x0_1 x10_2).f0.f1) ((rd_T32 x0_1 x10_2).f0.f2) true _ A20.out).mono ?_
                rintro e w25 ⟨rfl, hb⟩
                have HS0_ := (hb.cell (World.block_lt_of_cell? _ _ (hHeld.1))).trans (hHeld.1)
                have HS1_ := (hb.cell (World.block_lt_of_cell? _ _ (hHeld.2.1))).trans (hHeld.2.1)
                have HS2_ := (hb.cell (World.block_lt_of_cell? _ _ (hHeld.2.2.1))).trans (hHeld.2.2.1)
                have HS3_ := (hb.cell (World.block_lt_of_cell? _ _ (hHeld.2.2.2.1))).trans (hHeld.2.2.2.1)
                have HS4_ := (hb.cell (World.block_lt_of_cell? _ _ (hHeld.2.2.2.2.1))).trans (hHeld.2.2.2.2.1)
                have HS5_ := (hb.cell (World.block_lt_of_cell? _ _ (hHeld.2.2.2.2.2.1))).trans (hHeld.2.2.2.2.2.1)
                have HS6_ := (hb.cell (World.block_lt_of_cell? _ _ (hHeld.2.2.2.2.2.2.1))).trans (hHeld.2.2.2.2.2.2.1)
                have HS7_ := (hb.cell (World.block_lt_of_cell? _ _ (hHeld.2.2.2.2.2.2.2.1))).trans (hHeld.2.2.2.2.2.2.2.1)
                have HS8_ := (hb.cell (World.block_lt_of_cell? _ _ (hHeld.2.2.2.2.2.2.2.2.1))).trans (hHeld.2.2.2.2.2.2.2.2.1)
                have HS9_ := (hb.cell (World.block_lt_of_cell? _ _ (hHeld.2.2.2.2.2.2.2.2.2))).trans (hHeld.2.2.2.2.2.2.2.2.2)
                refine ⟨_, rfl, ?_⟩
                have n0_ := Aside0.mk (Kd.V_below (zv_ HO_0) hb)
                have n1_ := Aside0.mk (Kd.V_below (zv_ HO_1) hb)
                have n2_ := Aside0.mk (Kd.N_below (zn_ HO_8) hb)
                have n3_ := Aside0.mk (Kd.V_below (zv_ HL173_4) hb)
                have n4_ := Aside0.mk (Kd.V_below (zv_ HL174_4) hb)
                have n5_ := Aside0.mk (Kd.C_below (by repeat (first | (with_reducible exact HR173_4.out) | (with_reducible refine Kd.C_alloc ?_ _) | (with_reducible refine Kd.C_drewN ?_ _) | (with_reducible refine Kd.C_drew ?_) | exact HR173_4.out | exact (Kd.V_reads' HL173_4.out).2.2)) hb)
                have n6_ := Aside0.mk (Kd.C_below (by repeat (first | (with_reducible exact HR174_4.out) | (with_reducible refine Kd.C_alloc ?_ _) | (with_reducible refine Kd.C_drewN ?_ _) | (with_reducible refine Kd.C_drew ?_) | exact HR174_4.out | exact (Kd.V_reads' HL174_4.out).2.2)) hb)
                have n7_ := Aside0.mk (below_step zb_ hb)
                clear HO_0
                clear HO_1
                clear HO_8
                clear HL173_4
                clear HL174_4
                clear HR173_4
                clear HR174_4
                clear HB
                have HO_0 := n0_
                have HO_1 := n1_
                have HO_8 := n2_
                have HL173_4 := n3_
                have HL174_4 := n4_
                have HR173_4 := n5_
                have HR174_4 := n6_
                have HB := n7_
                clear n0_ n1_ n2_ n3_ n4_ n5_ n6_ n7_
                (try clear hb)
                (try clear hb2)
                (try clear hk)
                (try clear hi)
                refine hK.out _ _ ⟨HS0_, HS1_, HS2_, HS3_, HS4_, HS5_, HS6_, HS7_, HS8_, HS9_⟩ (fun hHeld => ?_)
                clear hK K
                refine norm_ (a' := ?_) ?_ ?_
                rotate_left
                ·
                 show Act.put _ (some 47) _ = _
                 simp only [Act.put, List.setIfInBounds_toArray, List.set_cons_zero, List.set_cons_succ, i64_w, i32_w]
                 rfl
                refine pure_ (i := 14) (N := some 48) (v := ?_) (a' := ?_) #[T_,T_,T_,T_,T_,T_,T_,T_,T_,T_,T_,T_,T_,T_,T_] rfl rfl (any_of HT_.out (by kernel_rfl)) (fun _ _ _ h => h) (Or.inl ⟨by rfl, ?_⟩) ?_ ?_
                rotate_left
                ·
                 intro w'; go_simp; with_reducible rfl
                rotate_left
                ·
                 exact zp_
                refine done_ (done_of HT_.out (by kernel_rfl)) ?_
                (try clear hHeld); (try clear HS0_); (try clear HS1_); (try clear HS2_); (try clear HS3_); (try clear HS4_); (try clear HS5_); (try clear HS6_); (try clear HS7_); (try clear HS8_); (try clear HS9_)
                have p176 : 0 ≤ (x5_1 : Int) := of_decide_eq_true zs_
                have q176 : x5_1 < (l1.length : Int) := of_decide_eq_true zs_
                obtain ⟨ad176, A176_4, c176_4, e176, hx176_0, hx176_1, hx176_2, hx176_3, hx176_4, hl176_4, hi176_4⟩ := at_T32 (Kd.V_reads' HO_1.out).2.2 x5_1 p176 q176
                obtain rfl : ad164 = ad176 := (by injection e176)
                obtain ⟨ce176, hce176, hMe176, hcc176⟩ := Kd.V_get HO_1.out z32 x5_1 p176 (by first | exact q176 | exact of_decide_eq_true zs_ | (have e_ := (Kd.V_reads' HO_1.out).1; omega))
                obtain ⟨ua176_4, uc176_4, rfl, ul176_4, ge176_4⟩ := k32_openF hMe176
                have hv176_4 := hcc176 4 _ rfl
                rw [add_field _ _ 4 (by omega)] at hv176_4
                replace hv176_4 := Option.some.inj (hv176_4.symm.trans hx176_4)
                injection hv176_4 with hva_ hvn_ hvc_
                rw [hva_] at ge176_4
                rw [hvc_] at ul176_4
                have HL176_4 := Aside0.mk (show Kd.V (Kd.int .u8) 5 _ w.heap.size _ _ ((rd_T32 l1 x5_1).f1) from Kd.V_mk ul176_4 ge176_4)
                clear hva_ hvn_ hvc_ ge176_4 ul176_4
                clear hcc176 hce176
                have HR176_4 := Aside0.mk hi176_4
                have HC176_4 := Aside0.mk hl176_4
                clear hi176_4 hl176_4
                replace p176 := eq_true p176
                replace q176 := eq_true q176
                try go_wp2_with (first | ((with_reducible refine gate_builtin (b := .append) (xs := #[.tmp 49, .tmp 54]) rfl ?_); at_builtin; refine Kd.N_append k32 (w0 := w) w.heap.size rfl (.tmp 49) (.tmp 54) 22 32 (.agg #[(.int .u64 0), (.int .i64 0), (.int .u64 0), (.int .i64 0), (.slice none 0 0)]) 56 rfl Try.underlying22 info32 rfl (by decide) (by omega) u8 x8_2 (⟨(⟨(⟨(rd_T32 l1 x5_1).f0.f0.f0, (rd_T32 l1 x5_1).f0.f0.f1⟩ : S25), (rd_T32 l1 x5_1).f0.f1, (rd_T32 l1 x5_1).f0.f2⟩ : S27), (rd_T32 l1 x5_1).f1⟩ : S32) [.int .u64 ((rd_T32 l1 x5_1).f0.f0.f0), .int .i64 ((rd_T32 l1 x5_1).f0.f0.f1), .int .u64 ((rd_T32 l1 x5_1).f0.f1), .int .i64 ((rd_T32 l1 x5_1).f0.f2), .slice A176_4 ((rd_T32 l1 x5_1).f1).length c176_4] (fun k_ => ((P0_ k_ ∨ P1_ k_) ∨ w.heap.size ≤ k_)) (fun k_ => ((fun k_ => ((P0_ k_ ∨ P1_ k_) ∨ w.heap.size ≤ k_))) k_ ∧ some k_ ≠ (u8 : Value).ownBlock) rfl rfl ?aP (fun _ hk => hk) ?aF ?aO ?aB ?aS ?aL ?_; (case aP => first | exact (k32_mkF _ _ (⟨(⟨(⟨(rd_T32 l1 x5_1).f0.f0.f0, (rd_T32 l1 x5_1).f0.f0.f1⟩ : S25), (rd_T32 l1 x5_1).f0.f1, (rd_T32 l1 x5_1).f0.f2⟩ : S27), (rd_T32 l1 x5_1).f1⟩ : S32) (Kd.V_reads' (Kd.V_mono (ok' := (fun k_ => ((fun k_ => ((P0_ k_ ∨ P1_ k_) ∨ w.heap.size ≤ k_))) k_ ∧ some k_ ≠ (u8 : Value).ownBlock)) (HL176_4.out) (fun k_ hk => ⟨hk.1, hk.2⟩))).2.1 (Kd.V_F (Kd.V_mono (ok' := (fun k_ => ((fun k_ => ((P0_ k_ ∨ P1_ k_) ∨ w.heap.size ≤ k_))) k_ ∧ some k_ ≠ (u8 : Value).ownBlock)) (HL176_4.out) (fun k_ hk => ⟨hk.1, hk.2⟩)))) | exact (k32_mkF _ _ (⟨(⟨(⟨(rd_T32 l1 x5_1).f0.f0.f0, (rd_T32 l1 x5_1).f0.f0.f1⟩ : S25), (rd_T32 l1 x5_1).f0.f1, (rd_T32 l1 x5_1).f0.f2⟩ : S27), (rd_T32 l1 x5_1).f1⟩ : S32) (Kd.V_reads' (Kd.V_mono (ok' := (fun k_ => ((fun k_ => ((P0_ k_ ∨ P1_ k_) ∨ w.heap.size ≤ k_))) k_ ∧ some k_ ≠ (u8 : Value).ownBlock)) (HL176_4.out) (fun k_ hk => ⟨hk.1, hk.2⟩))).2.1 (Kd.V_F (Kd.V_mono (ok' := (fun k_ => ((fun k_ => ((P0_ k_ ∨ P1_ k_) ∨ w.heap.size ≤ k_))) k_ ∧ some k_ ≠ (u8 : Value).ownBlock)) (Kd.V_drewN HL176_4.out _) (fun k_ hk => ⟨hk.1, hk.2⟩))))); (case aB => exact zb_); (case aF => exact (fun k_ hk => (.inr (Nat.le_trans (below_size zb_) hk)))); (case aO => exact (zn_ HO_8)); (case aS => exact (below_size zb_)); (case aL => have := LMc22.out; omega); intro v178 w26 ho hb hg hat; rw [← Ny177.out] at ho; have n0_ := Aside0.mk (Kd.V_afterv (ok := (fun k_ => ((P0_ k_ ∨ P1_ k_) ∨ w.heap.size ≤ k_))) (zv_ HO_0) hg hat); have n1_ := Aside0.mk (Kd.V_afterv (ok := (fun k_ => ((P0_ k_ ∨ P1_ k_) ∨ w.heap.size ≤ k_))) (zv_ HO_1) hg hat); have n2_ := Aside0.mk (Kd.V_afterv (ok := (fun k_ => ((P0_ k_ ∨ P1_ k_) ∨ w.heap.size ≤ k_))) (zv_ HL173_4) hg hat); have n3_ := Aside0.mk (Kd.V_afterv (ok := (fun k_ => ((P0_ k_ ∨ P1_ k_) ∨ w.heap.size ≤ k_))) (zv_ HL174_4) hg hat); have n4_ := Aside0.mk (Kd.V_afterv (ok := (fun k_ => ((P0_ k_ ∨ P1_ k_) ∨ w.heap.size ≤ k_))) (zv_ HL176_4) hg hat); have n5_ := Aside0.mk (hb); have n6_ := Aside0.mk (ho); clear HO_0; clear HO_1; clear HL173_4; clear HL174_4; clear HL176_4; clear HB; clear HO_8; have HO_0 := n0_; have HO_1 := n1_; have HL173_4 := n2_; have HL174_4 := n3_; have HL176_4 := n4_; have HB := n5_; have HO179 := n6_; clear n0_ n1_ n2_ n3_ n4_ n5_ n6_; clear ho hb hg hat; have p180 : 0 ≤ (x10_2 : Int) := of_decide_eq_true zs_; have q180 : x10_2 < (x0_1.length : Int) := of_decide_eq_true zs_; obtain ⟨ad180, A180_4, c180_4, e180, hx180_0, hx180_1, hx180_2, hx180_3, hx180_4, hl180_4, hi180_4⟩ := at_T32 (Kd.V_reads' HO_0.out).2.2 x10_2 p180 q180; obtain rfl : ad174 = ad180 := (by injection e180); obtain ⟨ce180, hce180, hMe180, hcc180⟩ := Kd.V_get HO_0.out z32 x10_2 p180 (by first | exact q180 | exact of_decide_eq_true zs_ | (have e_ := (Kd.V_reads' HO_0.out).1; omega)); obtain ⟨ua180_4, uc180_4, rfl, ul180_4, ge180_4⟩ := k32_openF hMe180; have hv180_4 := hcc180 4 _ rfl; rw [add_field _ _ 4 (by omega)] at hv180_4; replace hv180_4 := Option.some.inj (hv180_4.symm.trans hx180_4); injection hv180_4 with hva_ hvn_ hvc_; rw [hva_] at ge180_4; rw [hvc_] at ul180_4; have HL180_4 := Aside0.mk (show Kd.V (Kd.int .u8) 5 _ w.heap.size _ _ ((rd_T32 x0_1 x10_2).f1) from Kd.V_mk ul180_4 ge180_4); clear hva_ hvn_ hvc_ ge180_4 ul180_4; clear hcc180 hce180; have HR180_4 := Aside0.mk hi180_4; have HC180_4 := Aside0.mk hl180_4; clear hi180_4 hl180_4; replace p180 := eq_true p180; replace q180 := eq_true q180) | ((with_reducible refine gate_builtin (b := .append) (xs := #[.tmp 56, .tmp 61]) rfl ?_); at_builtin; refine Kd.N_append k32 (w0 := w) w.heap.size rfl (.tmp 56) (.tmp 61) 22 32 (.agg #[(.int .u64 0), (.int .i64 0), (.int .u64 0), (.int .i64 0), (.slice none 0 0)]) 56 rfl Try.underlying22 info32 rfl (by decide) (by omega) v178 y177 (⟨(⟨(⟨(rd_T32 x0_1 x10_2).f0.f0.f0, (rd_T32 x0_1 x10_2).f0.f0.f1⟩ : S25), (rd_T32 x0_1 x10_2).f0.f1, (rd_T32 x0_1 x10_2).f0.f2⟩ : S27), (rd_T32 x0_1 x10_2).f1⟩ : S32) [.int .u64 ((rd_T32 x0_1 x10_2).f0.f0.f0), .int .i64 ((rd_T32 x0_1 x10_2).f0.f0.f1), .int .u64 ((rd_T32 x0_1 x10_2).f0.f1), .int .i64 ((rd_T32 x0_1 x10_2).f0.f2), .slice A180_4 ((rd_T32 x0_1 x10_2).f1).length c180_4] (fun k_ => ((P0_ k_ ∨ P1_ k_) ∨ w.heap.size ≤ k_)) (fun k_ => ((fun k_ => ((P0_ k_ ∨ P1_ k_) ∨ w.heap.size ≤ k_))) k_ ∧ some k_ ≠ (v178 : Value).ownBlock) rfl rfl ?aP (fun _ hk => hk) ?aF ?aO ?aB ?aS ?aL ?_; (case aP => first | exact (k32_mkF _ _ (⟨(⟨(⟨(rd_T32 x0_1 x10_2).f0.f0.f0, (rd_T32 x0_1 x10_2).f0.f0.f1⟩ : S25), (rd_T32 x0_1 x10_2).f0.f1, (rd_T32 x0_1 x10_2).f0.f2⟩ : S27), (rd_T32 x0_1 x10_2).f1⟩ : S32) (Kd.V_reads' (Kd.V_mono (ok' := (fun k_ => ((fun k_ => ((P0_ k_ ∨ P1_ k_) ∨ w.heap.size ≤ k_))) k_ ∧ some k_ ≠ (v178 : Value).ownBlock)) (HL180_4.out) (fun k_ hk => ⟨hk.1, hk.2⟩))).2.1 (Kd.V_F (Kd.V_mono (ok' := (fun k_ => ((fun k_ => ((P0_ k_ ∨ P1_ k_) ∨ w.heap.size ≤ k_))) k_ ∧ some k_ ≠ (v178 : Value).ownBlock)) (HL180_4.out) (fun k_ hk => ⟨hk.1, hk.2⟩)))) | exact (k32_mkF _ _ (⟨(⟨(⟨(rd_T32 x0_1 x10_2).f0.f0.f0, (rd_T32 x0_1 x10_2).f0.f0.f1⟩ : S25), (rd_T32 x0_1 x10_2).f0.f1, (rd_T32 x0_1 x10_2).f0.f2⟩ : S27), (rd_T32 x0_1 x10_2).f1⟩ : S32) (Kd.V_reads' (Kd.V_mono (ok' := (fun k_ => ((fun k_ => ((P0_ k_ ∨ P1_ k_) ∨ w.heap.size ≤ k_))) k_ ∧ some k_ ≠ (v178 : Value).ownBlock)) (HL180_4.out) (fun k_ hk => ⟨hk.1, hk.2⟩))).2.1 (Kd.V_F (Kd.V_mono (ok' := (fun k_ => ((fun k_ => ((P0_ k_ ∨ P1_ k_) ∨ w.heap.size ≤ k_))) k_ ∧ some k_ ≠ (v178 : Value).ownBlock)) (Kd.V_drewN HL180_4.out _) (fun k_ hk => ⟨hk.1, hk.2⟩))))); (case aB => exact zb_); (case aF => exact (fun k_ hk => (.inr (Nat.le_trans (below_size zb_) hk)))); (case aO => exact (zn_ HO179)); (case aS => exact (below_size zb_)); (case aL => have := LMc23.out; omega); intro v182 w27 ho hb hg hat; rw [← Ny181.out] at ho; have n0_ := Aside0.mk (Kd.V_afterv (ok := (fun k_ => ((P0_ k_ ∨ P1_ k_) ∨ w.heap.size ≤ k_))) (zv_ HO_0) hg hat); have n1_ := Aside0.mk (Kd.V_afterv (ok := (fun k_ => ((P0_ k_ ∨ P1_ k_) ∨ w.heap.size ≤ k_))) (zv_ HO_1) hg hat); have n2_ := Aside0.mk (Kd.V_afterv (ok := (fun k_ => ((P0_ k_ ∨ P1_ k_) ∨ w.heap.size ≤ k_))) (zv_ HL173_4) hg hat); have n3_ := Aside0.mk (Kd.V_afterv (ok := (fun k_ => ((P0_ k_ ∨ P1_ k_) ∨ w.heap.size ≤ k_))) (zv_ HL174_4) hg hat); have n4_ := Aside0.mk (Kd.V_afterv (ok := (fun k_ => ((P0_ k_ ∨ P1_ k_) ∨ w.heap.size ≤ k_))) (zv_ HL176_4) hg hat); have n5_ := Aside0.mk (Kd.V_afterv (ok := (fun k_ => ((P0_ k_ ∨ P1_ k_) ∨ w.heap.size ≤ k_))) (zv_ HL180_4) hg hat); have n6_ := Aside0.mk (hb); have n7_ := Aside0.mk (ho); clear HO_0; clear HO_1; clear HL173_4; clear HL174_4; clear HL176_4; clear HL180_4; clear HB; clear HO179; have HO_0 := n0_; have HO_1 := n1_; have HL173_4 := n2_; have HL174_4 := n3_; have HL176_4 := n4_; have HL180_4 := n5_; have HB := n6_; have HO183 := n7_; clear n0_ n1_ n2_ n3_ n4_ n5_ n6_ n7_; clear ho hb hg hat))
                go_roundg k2
                case measure => have := HK1.out; have := HK2.out; omega
                case rel => exact ⟨(y181), (true), (wrap64 (x10_2 + 1)), (by first | rfl | (simp; done) | (simp [*]; done)), (by first | rfl | (simp; done) | (simp [*]; done)), H', ⟨by have := HK1.out; have := HK2.out; omega⟩, ⟨by (with_reducible repeat (first | apply Kd.V_alloc | apply Kd.V_drewN | apply Kd.V_drew)); exact HO_0.out⟩, ⟨by (with_reducible repeat (first | apply Kd.V_alloc | apply Kd.V_drewN | apply Kd.V_drew)); exact HO_1.out⟩, ⟨by (with_reducible repeat (first | apply Kd.N_alloc | apply Kd.N_drewN | apply Kd.N_drew)); exact HO183.out⟩, ⟨by repeat (first | (with_reducible first | exact HB.out | apply below_alloc | apply pw_below_drewN | apply below_drew1) | exact HB.out)⟩⟩
               ·
                rw [if_neg c23] at H
                exact absurd H (by simp)
              ·
               rw [if_neg c22] at H
               exact absurd H (by simp)
             ·
              replace c21 := Bool.eq_false_iff.mpr c21
              subst c21
              have H1 : (if x8_2.length < 2513169434916 then (folkmootref15_Merge.l1 k2 x0_1 l1 x5_1 (x8_2 ++ [(⟨(⟨(⟨(rd_T32 x0_1 x10_2).f0.f0.f0, (rd_T32 x0_1 x10_2).f0.f0.f1⟩ : S25), (rd_T32 x0_1 x10_2).f0.f1, (rd_T32 x0_1 x10_2).f0.f2⟩ : S27), (rd_T32 x0_1 x10_2).f1⟩ : S32)]) false (wrap64 (x10_2 + 1))) else (none)) = some r := by rw [if_neg (show ¬ (false = true) by decide)] at H; exact H
              clear H
              have H := H1
              clear H1
              by_cases c28 : x8_2.length < 2513169434916
              ·
               rw [if_pos c28] at H
               have LMc28 := Aside0.mk c28
               clear c28
               obtain ⟨y185, hy185⟩ : ∃ y_ : List (S32), y_ = (x8_2 ++ [(⟨(⟨(⟨(rd_T32 x0_1 x10_2).f0.f0.f0, (rd_T32 x0_1 x10_2).f0.f0.f1⟩ : S25), (rd_T32 x0_1 x10_2).f0.f1, (rd_T32 x0_1 x10_2).f0.f2⟩ : S27), (rd_T32 x0_1 x10_2).f1⟩ : S32)]) := ⟨_, rfl⟩
               replace H : (folkmootref15_Merge.l1 k2 x0_1 l1 x5_1 y185 false (wrap64 (x10_2 + 1))) = some r := by first | (rw [hy185]; with_reducible exact H) | (have H2_ := (Option.bind_some _ _).symm.trans H; rw [hy185]; with_reducible exact H2_) | (have H2_ := (Option.bind_some _ _).symm.trans H; with_reducible exact H2_) | with_reducible exact H | (rw [hy185]; exact H) | exact H
               have Ny185 := Aside0.mk hy185
               clear hy185
               have H' := Aside0.mk H
               clear H
               try go_wp2
               have n0_ := Aside0.mk (Kd.V_drew HO_0.out)
               have n1_ := Aside0.mk (Kd.V_drew HO_1.out)
               have n2_ := Aside0.mk (Kd.N_drew HO_8.out)
               have n3_ := Aside0.mk (below_drew1 HB.out)
               clear HO_0
               clear HO_1
               clear HO_8
               clear HB
               have HO_0 := n0_
               have HO_1 := n1_
               have HO_8 := n2_
               have HB := n3_
               clear n0_ n1_ n2_ n3_
               have p173 : 0 ≤ (x5_1 : Int) := of_decide_eq_true zs_
               have q173 : x5_1 < (l1.length : Int) := of_decide_eq_true zs_
               obtain ⟨ad173, A173_4, c173_4, e173, hx173_0, hx173_1, hx173_2, hx173_3, hx173_4, hl173_4, hi173_4⟩ := at_T32 (Kd.V_reads' HO_1.out).2.2 x5_1 p173 q173
               obtain rfl : ad164 = ad173 := (by injection e173)
               obtain ⟨ce173, hce173, hMe173, hcc173⟩ := Kd.V_get HO_1.out z32 x5_1 p173 (by first | exact q173 | exact of_decide_eq_true zs_ | (have e_ := (Kd.V_reads' HO_1.out).1; omega))
               obtain ⟨ua173_4, uc173_4, rfl, ul173_4, ge173_4⟩ := k32_openF hMe173
               have hv173_4 := hcc173 4 _ rfl
               rw [add_field _ _ 4 (by omega)] at hv173_4
               replace hv173_4 := Option.some.inj (hv173_4.symm.trans hx173_4)
               injection hv173_4 with hva_ hvn_ hvc_
               rw [hva_] at ge173_4
               rw [hvc_] at ul173_4
               have HL173_4 := Aside0.mk (show Kd.V (Kd.int .u8) 5 _ w.heap.size _ _ ((rd_T32 l1 x5_1).f1) from Kd.V_mk ul173_4 ge173_4)
               clear hva_ hvn_ hvc_ ge173_4 ul173_4
               clear hcc173 hce173
               have HR173_4 := Aside0.mk hi173_4
               have HC173_4 := Aside0.mk hl173_4
               clear hi173_4 hl173_4
               replace p173 := eq_true p173
               replace q173 := eq_true q173
               have p174 : 0 ≤ (x10_2 : Int) := of_decide_eq_true zs_
               have q174 : x10_2 < (x0_1.length : Int) := of_decide_eq_true zs_
               obtain ⟨ad174, A174_4, c174_4, e174, hx174_0, hx174_1, hx174_2, hx174_3, hx174_4, hl174_4, hi174_4⟩ := at_T32 (Kd.V_reads' HO_0.out).2.2 x10_2 p174 q174
               cases e174
               obtain ⟨ce174, hce174, hMe174, hcc174⟩ := Kd.V_get HO_0.out z32 x10_2 p174 (by first | exact q174 | exact of_decide_eq_true zs_ | (have e_ := (Kd.V_reads' HO_0.out).1; omega))
               obtain ⟨ua174_4, uc174_4, rfl, ul174_4, ge174_4⟩ := k32_openF hMe174
               have hv174_4 := hcc174 4 _ rfl
               rw [add_field _ _ 4 (by omega)] at hv174_4
               replace hv174_4 := Option.some.inj (hv174_4.symm.trans hx174_4)
               injection hv174_4 with hva_ hvn_ hvc_
               rw [hva_] at ge174_4
               rw [hvc_] at ul174_4
               have HL174_4 := Aside0.mk (show Kd.V (Kd.int .u8) 5 _ w.heap.size _ _ ((rd_T32 x0_1 x10_2).f1) from Kd.V_mk ul174_4 ge174_4)
               clear hva_ hvn_ hvc_ ge174_4 ul174_4
               clear hcc174 hce174
               have HR174_4 := Aside0.mk hi174_4
               have HC174_4 := Aside0.mk hl174_4
               clear hi174_4 hl174_4
               replace p174 := eq_true p174
               replace q174 := eq_true q174
               refine start_ (n := 15) (S := fun w' => w'.cell? (ad164.add ((x5_1).toNat * 5)) = some (.int .u64 ((rd_T32 l1 x5_1).f0.f0.f0)) ∧ w'.cell? ⟨(ad164.add ((x5_1).toNat * 5)).block, (ad164.add ((x5_1).toNat * 5)).off + 1, none⟩ = some (.int .i64 ((rd_T32 l1 x5_1).f0.f0.f1)) ∧ w'.cell? ⟨(ad164.add ((x5_1).toNat * 5)).block, (ad164.add ((x5_1).toNat * 5)).off + 2, none⟩ = some (.int .u64 ((rd_T32 l1 x5_1).f0.f1)) ∧ w'.cell? ⟨(ad164.add ((x5_1).toNat * 5)).block, (ad164.add ((x5_1).toNat * 5)).off + 3, none⟩ = some (.int .i64 ((rd_T32 l1 x5_1).f0.f2)) ∧ w'.cell? ⟨(ad164.add ((x5_1).toNat * 5)).block, (ad164.add ((x5_1).toNat * 5)).off + 4, none⟩ = some (.slice A173_4 ((rd_T32 l1 x5_1).f1).length c173_4) ∧ w'.cell? (ad174.add ((x10_2).toNat * 5)) = some (.int .u64 ((rd_T32 x0_1 x10_2).f0.f0.f0)) ∧ w'.cell? ⟨(ad174.add ((x10_2).toNat * 5)).block, (ad174.add ((x10_2).toNat * 5)).off + 1, none⟩ = some (.int .i64 ((rd_T32 x0_1 x10_2).f0.f0.f1)) ∧ w'.cell? ⟨(ad174.add ((x10_2).toNat * 5)).block, (ad174.add ((x10_2).toNat * 5)).off + 2, none⟩ = some (.int .u64 ((rd_T32 x0_1 x10_2).f0.f1)) ∧ w'.cell? ⟨(ad174.add ((x10_2).toNat * 5)).block, (ad174.add ((x10_2).toNat * 5)).off + 3, none⟩ = some (.int .i64 ((rd_T32 x0_1 x10_2).f0.f2)) ∧ w'.cell? ⟨(ad174.add ((x10_2).toNat * 5)).block, (ad174.add ((x10_2).toNat * 5)).off + 4, none⟩ = some (.slice A174_4 ((rd_T32 x0_1 x10_2).f1).length c174_4)) (ds := []) #[F_,F_,F_,F_,F_,F_,F_,F_,F_,F_,F_,F_,F_,F_,F_] (by kernel_rfl) rfl rfl ⟨hx173_0, hx173_1, hx173_2, hx173_3, hx173_4, hx174_0, hx174_1, hx174_2, hx174_3, hx174_4⟩ (fun hHeld => ?_); refine with_tabW folkmootref15_Merge.tab11 folkmootref15_Merge.bits11 (fun HT_ HW_ => ?_)
               generalize wr.drew = w29 at HO_0 HO_1 HO_8 HB HL173_4 HL174_4 HR173_4 HR174_4 hx173_0 hx173_1 hx173_2 hx173_3 hx173_4 hx174_0 hx174_1 hx174_2 hx174_3 hx174_4 hHeld ⊢
               refine pure_ (i := 0) (N := some 34) (v := ?_) (a' := ?_) #[T_,F_,F_,F_,F_,F_,F_,F_,F_,F_,F_,F_,F_,F_,F_] rfl rfl (any_of HT_.out (by kernel_rfl)) (fun _ _ _ h => h) (Or.inl ⟨by rfl, ?_⟩) ?_ ?_
               rotate_left
               ·
                intro w'; go_simp; with_reducible rfl
               rotate_left
               ·
                exact zp_
               refine pure_ (i := 1) (N := some 35) (v := ?_) (a' := ?_) #[T_,T_,F_,F_,F_,F_,F_,F_,F_,F_,F_,F_,F_,F_,F_] rfl rfl (any_of HT_.out (by kernel_rfl)) (fun _ _ _ h => h) (Or.inl ⟨by rfl, ?_⟩) ?_ ?_
               rotate_left
               ·
                intro w'; go_simp; with_reducible rfl
               rotate_left
               ·
                exact zp_
               refine pure_ (i := 2) (N := some 36) (v := ?_) (a' := ?_) #[T_,T_,T_,F_,F_,F_,F_,F_,F_,F_,F_,F_,F_,F_,F_] rfl rfl (any_of HT_.out (by kernel_rfl)) (fun _ _ _ h => h) (Or.inl ⟨by rfl, ?_⟩) ?_ ?_
               rotate_left
               ·
                intro w'; go_simp; with_reducible rfl
               rotate_left
               ·
                exact zp_
               refine pure_ (i := 3) (N := some 37) (v := ?_) (a' := ?_) #[T_,T_,T_,T_,F_,F_,F_,F_,F_,F_,F_,F_,F_,F_,F_] rfl rfl (any_of HT_.out (by kernel_rfl)) (fun _ _ _ h => h) (Or.inl ⟨by rfl, ?_⟩) ?_ ?_
               rotate_left
               ·
                intro w'; go_simp; with_reducible rfl
               rotate_left
               ·
                exact zp_
               refine pure_ (i := 4) (N := some 38) (v := ?_) (a' := ?_) #[T_,T_,T_,T_,T_,F_,F_,F_,F_,F_,F_,F_,F_,F_,F_] rfl rfl (any_of HT_.out (by kernel_rfl)) (fun _ _ _ h => h) (Or.inl ⟨by rfl, ?_⟩) ?_ ?_
               rotate_left
               ·
                intro w'; go_simp; with_reducible rfl
               rotate_left
               ·
                exact zp_
               refine pure_ (i := 5) (N := some 39) (v := ?_) (a' := ?_) #[T_,T_,T_,T_,T_,T_,F_,F_,F_,F_,F_,F_,F_,F_,F_] rfl rfl (any_of HT_.out (by kernel_rfl)) (fun _ _ _ h => h) (Or.inl ⟨by rfl, ?_⟩) ?_ ?_
               rotate_left
               ·
                intro w'; go_simp; with_reducible rfl
               rotate_left
               ·
                exact zp_
               refine pure_ (i := 6) (N := some 40) (v := ?_) (a' := ?_) #[T_,T_,T_,T_,T_,T_,T_,F_,F_,F_,F_,F_,F_,F_,F_] rfl rfl (any_of HT_.out (by kernel_rfl)) (fun _ _ _ h => h) (Or.inl ⟨by rfl, ?_⟩) ?_ ?_
               rotate_left
               ·
                intro w'; go_simp; with_reducible rfl
               rotate_left
               ·
                exact zp_
               refine pure_ (i := 8) (N := some 42) (v := ?_) (a' := ?_) #[T_,T_,T_,T_,T_,T_,T_,F_,T_,F_,F_,F_,F_,F_,F_] rfl rfl (any_of HT_.out (by kernel_rfl)) (fun _ _ _ h => h) (Or.inl ⟨by rfl, ?_⟩) ?_ ?_
               rotate_left
               ·
                intro w'; go_simp; with_reducible rfl
               rotate_left
               ·
                exact zp_
               refine pure_ (i := 9) (N := some 43) (v := ?_) (a' := ?_) #[T_,T_,T_,T_,T_,T_,T_,F_,T_,T_,F_,F_,F_,F_,F_] rfl rfl (any_of HT_.out (by kernel_rfl)) (fun _ _ _ h => h) (Or.inl ⟨by rfl, ?_⟩) ?_ ?_
               rotate_left
               ·
                intro w'; go_simp; with_reducible rfl
               rotate_left
               ·
                exact zp_
               refine pure_ (i := 10) (N := some 44) (v := ?_) (a' := ?_) #[T_,T_,T_,T_,T_,T_,T_,F_,T_,T_,T_,F_,F_,F_,F_] rfl rfl (any_of HT_.out (by kernel_rfl)) (fun _ _ _ h => h) (Or.inl ⟨by rfl, ?_⟩) ?_ ?_
               rotate_left
               ·
                intro w'; go_simp; with_reducible rfl
               rotate_left
               ·
                exact zp_
               refine pure_ (i := 11) (N := some 45) (v := ?_) (a' := ?_) #[T_,T_,T_,T_,T_,T_,T_,F_,T_,T_,T_,T_,F_,F_,F_] rfl rfl (any_of HT_.out (by kernel_rfl)) (fun _ _ _ h => h) (Or.inl ⟨by rfl, ?_⟩) ?_ ?_
               rotate_left
               ·
                intro w'; go_simp; with_reducible rfl
               rotate_left
               ·
                exact zp_
               refine take_ (i := 7) (N := some 41) (v := ?_) (a' := ?_) #[T_,T_,T_,T_,T_,T_,T_,T_,T_,T_,T_,T_,F_,F_,F_] rfl rfl (take_ofW HT_.out HW_.out (by kernel_rfl)) (fun _ _ _ h => h) (Or.inl ⟨by rfl, ?_⟩) hHeld ?_ ?_
               rotate_left
               ·
                rintro w' ⟨s0, s1, s2, s3, s4, s5, s6, s7, s8, s9⟩
                go_simp
                with_reducible rfl
               rotate_left
               ·
                exact zp_
               refine take_ (i := 12) (N := some 46) (v := ?_) (a' := ?_) #[T_,T_,T_,T_,T_,T_,T_,T_,T_,T_,T_,T_,T_,F_,F_] rfl rfl (take_ofW HT_.out HW_.out (by kernel_rfl)) (fun _ _ _ h => h) (Or.inl ⟨by rfl, ?_⟩) hHeld ?_ ?_
               rotate_left
               ·
                rintro w' ⟨s0, s1, s2, s3, s4, s5, s6, s7, s8, s9⟩
                go_simp
                with_reducible rfl
               rotate_left
               ·
                exact zp_
               refine one_ (i := 13) (N := some 47) #[T_,T_,T_,T_,T_,T_,T_,T_,T_,T_,T_,T_,T_,T_,F_] rfl rfl (one_of HT_.out (by kernel_rfl)) (by decide) (fun K hK => ?_)
               refine goes_ Try.func43 (by kernel_rfl) rfl #[.agg #[.int .u64 ((rd_T32 l1 x5_1).f0.f0.f0), .int .i64 ((rd_T32 l1 x5_1).f0.f0.f1), .int .u64 ((rd_T32 l1 x5_1).f0.f1), .int .i64 ((rd_T32 l1 x5_1).f0.f2)], .agg #[.int .u64 ((rd_T32 x0_1 x10_2).f0.f0.f0), .int .i64 ((rd_T32 x0_1 x10_2).f0.f0.f1), .int .u64 ((rd_T32 x0_1 x10_2).f0.f1), .int .i64 ((rd_T32 x0_1 x10_2).f0.f2)]] (by rfl) rfl rfl za_ ?_
               with_reducible refine (folkmootref05_Less.calls k2 ((rd_T32 l1 x5_1).f0.f0.f0) ((rd_T32 l1 x5_1).f0.f0.f1) ((rd_T32 l1 x5_1).f0.f1) ((rd_T32 l1 x5_1).f0.f2) ((rd_T32 x0_1 x10_2).f0.f0.f0) ((rd_T32 x0_1 x10_2).f0.f0.f1) ((rd_T32 x0_1 x10_2).f0.f1) ((rd_T32 x0_1 x10_2).f0.f2) false _ A20.out).mono ?_
               rintro e w30 ⟨rfl, hb⟩
               have HS0_ := (hb.cell (World.block_lt_of_cell? _ _ (hHeld.1))).trans (hHeld.1)
               have HS1_ := (hb.cell (World.block_lt_of_cell? _ _ (hHeld.2.1))).trans (hHeld.2.1)
               have HS2_ := (hb.cell (World.block_lt_of_cell? _ _ (hHeld.2.2.1))).trans (hHeld.2.2.1)
               have HS3_ := (hb.cell (World.block_lt_of_cell? _ _ (hHeld.2.2.2.1))).trans (hHeld.2.2.2.1)
               have HS4_ := (hb.cell (World.block_lt_of_cell? _ _ (hHeld.2.2.2.2.1))).trans (hHeld.2.2.2.2.1)
               have HS5_ := (hb.cell (World.block_lt_of_cell? _ _ (hHeld.2.2.2.2.2.1))).trans (hHeld.2.2.2.2.2.1)
               have HS6_ := (hb.cell (World.block_lt_of_cell? _ _ (hHeld.2.2.2.2.2.2.1))).trans (hHeld.2.2.2.2.2.2.1)
               have HS7_ := (hb.cell (World.block_lt_of_cell? _ _ (hHeld.2.2.2.2.2.2.2.1))).trans (hHeld.2.2.2.2.2.2.2.1)
               have HS8_ := (hb.cell (World.block_lt_of_cell? _ _ (hHeld.2.2.2.2.2.2.2.2.1))).trans (hHeld.2.2.2.2.2.2.2.2.1)
               have HS9_ := (hb.cell (World.block_lt_of_cell? _ _ (hHeld.2.2.2.2.2.2.2.2.2))).trans (hHeld.2.2.2.2.2.2.2.2.2)
               refine ⟨_, rfl, ?_⟩
               have n0_ := Aside0.mk (Kd.V_below (zv_ HO_0) hb)
               have n1_ := Aside0.mk (Kd.V_below (zv_ HO_1) hb)
               have n2_ := Aside0.mk (Kd.N_below (zn_ HO_8) hb)
               have n3_ := Aside0.mk (Kd.V_below (zv_ HL173_4) hb)
               have n4_ := Aside0.mk (Kd.V_below (zv_ HL174_4) hb)
               have n5_ := Aside0.mk (Kd.C_below (by repeat (first | (with_reducible exact HR173_4.out) | (with_reducible refine Kd.C_alloc ?_ _) | (with_reducible refine Kd.C_drewN ?_ _) | (with_reducible refine Kd.C_drew ?_) | exact HR173_4.out | exact (Kd.V_reads' HL173_4.out).2.2)) hb)
               have n6_ := Aside0.mk (Kd.C_below (by repeat (first | (with_reducible exact HR174_4.out) | (with_reducible refine Kd.C_alloc ?_ _) | (with_reducible refine Kd.C_drewN ?_ _) | (with_reducible refine Kd.C_drew ?_) | exact HR174_4.out | exact (Kd.V_reads' HL174_4.out).2.2)) hb)
               have n7_ := Aside0.mk (below_step zb_ hb)
               clear HO_0
               clear HO_1
               clear HO_8
               clear HL173_4
               clear HL174_4
               clear HR173_4
               clear HR174_4
               clear HB
               have HO_0 := n0_
               have HO_1 := n1_
               have HO_8 := n2_
               have HL173_4 := n3_
               have HL174_4 := n4_
               have HR173_4 := n5_
               have HR174_4 := n6_
               have HB := n7_
               clear n0_ n1_ n2_ n3_ n4_ n5_ n6_ n7_
               (try clear hb)
               (try clear hb2)
               (try clear hk)
               (try clear hi)
               refine hK.out _ _ ⟨HS0_, HS1_, HS2_, HS3_, HS4_, HS5_, HS6_, HS7_, HS8_, HS9_⟩ (fun hHeld => ?_)
               clear hK K
               refine norm_ (a' := ?_) ?_ ?_
               rotate_left
               ·
                show Act.put _ (some 47) _ = _
                simp only [Act.put, List.setIfInBounds_toArray, List.set_cons_zero, List.set_cons_succ, i64_w, i32_w]
                rfl
               refine pure_ (i := 14) (N := some 48) (v := ?_) (a' := ?_) #[T_,T_,T_,T_,T_,T_,T_,T_,T_,T_,T_,T_,T_,T_,T_] rfl rfl (any_of HT_.out (by kernel_rfl)) (fun _ _ _ h => h) (Or.inl ⟨by rfl, ?_⟩) ?_ ?_
               rotate_left
               ·
                intro w'; go_simp; with_reducible rfl
               rotate_left
               ·
                exact zp_
               refine done_ (done_of HT_.out (by kernel_rfl)) ?_
               (try clear hHeld); (try clear HS0_); (try clear HS1_); (try clear HS2_); (try clear HS3_); (try clear HS4_); (try clear HS5_); (try clear HS6_); (try clear HS7_); (try clear HS8_); (try clear HS9_)
               have p184 : 0 ≤ (x10_2 : Int) := of_decide_eq_true zs_
               have q184 : x10_2 < (x0_1.length : Int) := of_decide_eq_true zs_
               obtain ⟨ad184, A184_4, c184_4, e184, hx184_0, hx184_1, hx184_2, hx184_3, hx184_4, hl184_4, hi184_4⟩ := at_T32 (Kd.V_reads' HO_0.out).2.2 x10_2 p184 q184
               obtain rfl : ad174 = ad184 := (by injection e184)
               obtain ⟨ce184, hce184, hMe184, hcc184⟩ := Kd.V_get HO_0.out z32 x10_2 p184 (by first | exact q184 | exact of_decide_eq_true zs_ | (have e_ := (Kd.V_reads' HO_0.out).1; omega))
               obtain ⟨ua184_4, uc184_4, rfl, ul184_4, ge184_4⟩ := k32_openF hMe184
               have hv184_4 := hcc184 4 _ rfl
               rw [add_field _ _ 4 (by omega)] at hv184_4
               replace hv184_4 := Option.some.inj (hv184_4.symm.trans hx184_4)
               injection hv184_4 with hva_ hvn_ hvc_
               rw [hva_] at ge184_4
               rw [hvc_] at ul184_4
               have HL184_4 := Aside0.mk (show Kd.V (Kd.int .u8) 5 _ w.heap.size _ _ ((rd_T32 x0_1 x10_2).f1) from Kd.V_mk ul184_4 ge184_4)
               clear hva_ hvn_ hvc_ ge184_4 ul184_4
               clear hcc184 hce184
               have HR184_4 := Aside0.mk hi184_4
               have HC184_4 := Aside0.mk hl184_4
               clear hi184_4 hl184_4
               replace p184 := eq_true p184
               replace q184 := eq_true q184
               try go_wp2_with (first | ((with_reducible refine gate_builtin (b := .append) (xs := #[.tmp 56, .tmp 61]) rfl ?_); at_builtin; refine Kd.N_append k32 (w0 := w) w.heap.size rfl (.tmp 56) (.tmp 61) 22 32 (.agg #[(.int .u64 0), (.int .i64 0), (.int .u64 0), (.int .i64 0), (.slice none 0 0)]) 56 rfl Try.underlying22 info32 rfl (by decide) (by omega) u8 x8_2 (⟨(⟨(⟨(rd_T32 x0_1 x10_2).f0.f0.f0, (rd_T32 x0_1 x10_2).f0.f0.f1⟩ : S25), (rd_T32 x0_1 x10_2).f0.f1, (rd_T32 x0_1 x10_2).f0.f2⟩ : S27), (rd_T32 x0_1 x10_2).f1⟩ : S32) [.int .u64 ((rd_T32 x0_1 x10_2).f0.f0.f0), .int .i64 ((rd_T32 x0_1 x10_2).f0.f0.f1), .int .u64 ((rd_T32 x0_1 x10_2).f0.f1), .int .i64 ((rd_T32 x0_1 x10_2).f0.f2), .slice A184_4 ((rd_T32 x0_1 x10_2).f1).length c184_4] (fun k_ => ((P0_ k_ ∨ P1_ k_) ∨ w.heap.size ≤ k_)) (fun k_ => ((fun k_ => ((P0_ k_ ∨ P1_ k_) ∨ w.heap.size ≤ k_))) k_ ∧ some k_ ≠ (u8 : Value).ownBlock) rfl rfl ?aP (fun _ hk => hk) ?aF ?aO ?aB ?aS ?aL ?_; (case aP => first | exact (k32_mkF _ _ (⟨(⟨(⟨(rd_T32 x0_1 x10_2).f0.f0.f0, (rd_T32 x0_1 x10_2).f0.f0.f1⟩ : S25), (rd_T32 x0_1 x10_2).f0.f1, (rd_T32 x0_1 x10_2).f0.f2⟩ : S27), (rd_T32 x0_1 x10_2).f1⟩ : S32) (Kd.V_reads' (Kd.V_mono (ok' := (fun k_ => ((fun k_ => ((P0_ k_ ∨ P1_ k_) ∨ w.heap.size ≤ k_))) k_ ∧ some k_ ≠ (u8 : Value).ownBlock)) (HL184_4.out) (fun k_ hk => ⟨hk.1, hk.2⟩))).2.1 (Kd.V_F (Kd.V_mono (ok' := (fun k_ => ((fun k_ => ((P0_ k_ ∨ P1_ k_) ∨ w.heap.size ≤ k_))) k_ ∧ some k_ ≠ (u8 : Value).ownBlock)) (HL184_4.out) (fun k_ hk => ⟨hk.1, hk.2⟩)))) | exact (k32_mkF _ _ (⟨(⟨(⟨(rd_T32 x0_1 x10_2).f0.f0.f0, (rd_T32 x0_1 x10_2).f0.f0.f1⟩ : S25), (rd_T32 x0_1 x10_2).f0.f1, (rd_T32 x0_1 x10_2).f0.f2⟩ : S27), (rd_T32 x0_1 x10_2).f1⟩ : S32) (Kd.V_reads' (Kd.V_mono (ok' := (fun k_ => ((fun k_ => ((P0_ k_ ∨ P1_ k_) ∨ w.heap.size ≤ k_))) k_ ∧ some k_ ≠ (u8 : Value).ownBlock)) (HL184_4.out) (fun k_ hk => ⟨hk.1, hk.2⟩))).2.1 (Kd.V_F (Kd.V_mono (ok' := (fun k_ => ((fun k_ => ((P0_ k_ ∨ P1_ k_) ∨ w.heap.size ≤ k_))) k_ ∧ some k_ ≠ (u8 : Value).ownBlock)) (Kd.V_drewN HL184_4.out _) (fun k_ hk => ⟨hk.1, hk.2⟩))))); (case aB => exact zb_); (case aF => exact (fun k_ hk => (.inr (Nat.le_trans (below_size zb_) hk)))); (case aO => exact (zn_ HO_8)); (case aS => exact (below_size zb_)); (case aL => have := LMc28.out; omega); intro v186 w31 ho hb hg hat; rw [← Ny185.out] at ho; have n0_ := Aside0.mk (Kd.V_afterv (ok := (fun k_ => ((P0_ k_ ∨ P1_ k_) ∨ w.heap.size ≤ k_))) (zv_ HO_0) hg hat); have n1_ := Aside0.mk (Kd.V_afterv (ok := (fun k_ => ((P0_ k_ ∨ P1_ k_) ∨ w.heap.size ≤ k_))) (zv_ HO_1) hg hat); have n2_ := Aside0.mk (Kd.V_afterv (ok := (fun k_ => ((P0_ k_ ∨ P1_ k_) ∨ w.heap.size ≤ k_))) (zv_ HL173_4) hg hat); have n3_ := Aside0.mk (Kd.V_afterv (ok := (fun k_ => ((P0_ k_ ∨ P1_ k_) ∨ w.heap.size ≤ k_))) (zv_ HL174_4) hg hat); have n4_ := Aside0.mk (Kd.V_afterv (ok := (fun k_ => ((P0_ k_ ∨ P1_ k_) ∨ w.heap.size ≤ k_))) (zv_ HL184_4) hg hat); have n5_ := Aside0.mk (hb); have n6_ := Aside0.mk (ho); clear HO_0; clear HO_1; clear HL173_4; clear HL174_4; clear HL184_4; clear HB; clear HO_8; have HO_0 := n0_; have HO_1 := n1_; have HL173_4 := n2_; have HL174_4 := n3_; have HL184_4 := n4_; have HB := n5_; have HO187 := n6_; clear n0_ n1_ n2_ n3_ n4_ n5_ n6_; clear ho hb hg hat))
               go_roundg k2
               case measure => have := HK1.out; have := HK2.out; omega
               case rel => exact ⟨(y185), (false), (wrap64 (x10_2 + 1)), (by first | rfl | (simp; done) | (simp [*]; done)), (by first | rfl | (simp; done) | (simp [*]; done)), H', ⟨by have := HK1.out; have := HK2.out; omega⟩, ⟨by (with_reducible repeat (first | apply Kd.V_alloc | apply Kd.V_drewN | apply Kd.V_drew)); exact HO_0.out⟩, ⟨by (with_reducible repeat (first | apply Kd.V_alloc | apply Kd.V_drewN | apply Kd.V_drew)); exact HO_1.out⟩, ⟨by (with_reducible repeat (first | apply Kd.N_alloc | apply Kd.N_drewN | apply Kd.N_drew)); exact HO187.out⟩, ⟨by repeat (first | (with_reducible first | exact HB.out | apply below_alloc | apply pw_below_drewN | apply below_drew1) | exact HB.out)⟩⟩
              ·
               rw [if_neg c28] at H
               exact absurd H (by simp)
            ·
             rw [if_neg c19] at H
             exact absurd H (by simp)
           ·
            rw [if_neg c18] at H
            exact absurd H (by simp)
          ·
           rw [if_neg c17] at H
           exact absurd H (by simp)
        ·
         rw [if_neg c11] at H
         have c11b0 : decide (x10_2 < (x0_1.length : Int)) = false := decide_eq_false c11
         clear c11
         by_cases c32 : x9_2 = true
         ·
          subst c32
          have H1 : (folkmootref15_Merge.l0 k2 x8_2 l1 (wrap64 (x5_1 + 1))) = some r := by rw [if_pos rfl] at H; exact H
          clear H
          have H := H1
          clear H1
          have H' := Aside0.mk H
          clear H
          go_wp2
          go_roundg k2
          case measure => have := HK1.out; have := HK2.out; omega
          case rel => exact ⟨(x8_2), (wrap64 (x5_1 + 1)), (by first | rfl | (simp; done) | (simp [*]; done)), H', ⟨by have := HK1.out; have := HK2.out; omega⟩, ⟨Kd.N_V (zn_ HO_8)⟩, ⟨by (with_reducible repeat (first | apply Kd.V_alloc | apply Kd.V_drewN | apply Kd.V_drew)); exact Kd.V_mono HO_1.out (fun _ hk => hk.1)⟩, ⟨by repeat (first | (with_reducible first | exact HB.out | apply below_alloc | apply pw_below_drewN | apply below_drew1) | exact HB.out)⟩⟩
         ·
          replace c32 := Bool.eq_false_iff.mpr c32
          subst c32
          have H1 : (if 0 ≤ x5_1 then (if x5_1 < (l1.length : Int) then (if x8_2.length < 2513169434916 then (folkmootref15_Merge.l0 k2 (x8_2 ++ [(⟨(⟨(⟨(rd_T32 l1 x5_1).f0.f0.f0, (rd_T32 l1 x5_1).f0.f0.f1⟩ : S25), (rd_T32 l1 x5_1).f0.f1, (rd_T32 l1 x5_1).f0.f2⟩ : S27), (rd_T32 l1 x5_1).f1⟩ : S32)]) l1 (wrap64 (x5_1 + 1))) else (none)) else (none)) else (none)) = some r := by rw [if_neg (show ¬ (false = true) by decide)] at H; exact H
          clear H
          have H := H1
          clear H1
          by_cases c33 : 0 ≤ x5_1
          ·
           rw [if_pos c33] at H
           have c33b0 : decide (0 ≤ x5_1) = true := decide_eq_true c33
           clear c33
           by_cases c34 : x5_1 < (l1.length : Int)
           ·
            rw [if_pos c34] at H
            have c34b0 : decide (x5_1 < (l1.length : Int)) = true := decide_eq_true c34
            clear c34
            by_cases c35 : x8_2.length < 2513169434916
            ·
             rw [if_pos c35] at H
             have LMc35 := Aside0.mk c35
             clear c35
             obtain ⟨y189, hy189⟩ : ∃ y_ : List (S32), y_ = (x8_2 ++ [(⟨(⟨(⟨(rd_T32 l1 x5_1).f0.f0.f0, (rd_T32 l1 x5_1).f0.f0.f1⟩ : S25), (rd_T32 l1 x5_1).f0.f1, (rd_T32 l1 x5_1).f0.f2⟩ : S27), (rd_T32 l1 x5_1).f1⟩ : S32)]) := ⟨_, rfl⟩
             replace H : (folkmootref15_Merge.l0 k2 y189 l1 (wrap64 (x5_1 + 1))) = some r := by first | (rw [hy189]; with_reducible exact H) | (have H2_ := (Option.bind_some _ _).symm.trans H; rw [hy189]; with_reducible exact H2_) | (have H2_ := (Option.bind_some _ _).symm.trans H; with_reducible exact H2_) | with_reducible exact H | (rw [hy189]; exact H) | exact H
             have Ny189 := Aside0.mk hy189
             clear hy189
             have H' := Aside0.mk H
             clear H
             have p188 : 0 ≤ (x5_1 : Int) := of_decide_eq_true zs_
             have q188 : x5_1 < (l1.length : Int) := of_decide_eq_true zs_
             obtain ⟨ad188, A188_4, c188_4, e188, hx188_0, hx188_1, hx188_2, hx188_3, hx188_4, hl188_4, hi188_4⟩ := at_T32 (Kd.V_reads' HO_1.out).2.2 x5_1 p188 q188
             obtain rfl : ad164 = ad188 := (by injection e188)
             obtain ⟨ce188, hce188, hMe188, hcc188⟩ := Kd.V_get HO_1.out z32 x5_1 p188 (by first | exact q188 | exact of_decide_eq_true zs_ | (have e_ := (Kd.V_reads' HO_1.out).1; omega))
             obtain ⟨ua188_4, uc188_4, rfl, ul188_4, ge188_4⟩ := k32_openF hMe188
             have hv188_4 := hcc188 4 _ rfl
             rw [add_field _ _ 4 (by omega)] at hv188_4
             replace hv188_4 := Option.some.inj (hv188_4.symm.trans hx188_4)
             injection hv188_4 with hva_ hvn_ hvc_
             rw [hva_] at ge188_4
             rw [hvc_] at ul188_4
             have HL188_4 := Aside0.mk (show Kd.V (Kd.int .u8) 5 _ w.heap.size _ _ ((rd_T32 l1 x5_1).f1) from Kd.V_mk ul188_4 ge188_4)
             clear hva_ hvn_ hvc_ ge188_4 ul188_4
             clear hcc188 hce188
             have HR188_4 := Aside0.mk hi188_4
             have HC188_4 := Aside0.mk hl188_4
             clear hi188_4 hl188_4
             replace p188 := eq_true p188
             replace q188 := eq_true q188
             go_wp2_with (first | ((with_reducible refine gate_builtin (b := .append) (xs := #[.tmp 65, .tmp 70]) rfl ?_); at_builtin; refine Kd.N_append k32 (w0 := w) w.heap.size rfl (.tmp 65) (.tmp 70) 22 32 (.agg #[(.int .u64 0), (.int .i64 0), (.int .u64 0), (.int .i64 0), (.slice none 0 0)]) 56 rfl Try.underlying22 info32 rfl (by decide) (by omega) u8 x8_2 (⟨(⟨(⟨(rd_T32 l1 x5_1).f0.f0.f0, (rd_T32 l1 x5_1).f0.f0.f1⟩ : S25), (rd_T32 l1 x5_1).f0.f1, (rd_T32 l1 x5_1).f0.f2⟩ : S27), (rd_T32 l1 x5_1).f1⟩ : S32) [.int .u64 ((rd_T32 l1 x5_1).f0.f0.f0), .int .i64 ((rd_T32 l1 x5_1).f0.f0.f1), .int .u64 ((rd_T32 l1 x5_1).f0.f1), .int .i64 ((rd_T32 l1 x5_1).f0.f2), .slice A188_4 ((rd_T32 l1 x5_1).f1).length c188_4] (fun k_ => ((P0_ k_ ∨ P1_ k_) ∨ w.heap.size ≤ k_)) (fun k_ => ((fun k_ => ((P0_ k_ ∨ P1_ k_) ∨ w.heap.size ≤ k_))) k_ ∧ some k_ ≠ (u8 : Value).ownBlock) rfl rfl ?aP (fun _ hk => hk) ?aF ?aO ?aB ?aS ?aL ?_; (case aP => first | exact (k32_mkF _ _ (⟨(⟨(⟨(rd_T32 l1 x5_1).f0.f0.f0, (rd_T32 l1 x5_1).f0.f0.f1⟩ : S25), (rd_T32 l1 x5_1).f0.f1, (rd_T32 l1 x5_1).f0.f2⟩ : S27), (rd_T32 l1 x5_1).f1⟩ : S32) (Kd.V_reads' (Kd.V_mono (ok' := (fun k_ => ((fun k_ => ((P0_ k_ ∨ P1_ k_) ∨ w.heap.size ≤ k_))) k_ ∧ some k_ ≠ (u8 : Value).ownBlock)) (HL188_4.out) (fun k_ hk => ⟨hk.1, hk.2⟩))).2.1 (Kd.V_F (Kd.V_mono (ok' := (fun k_ => ((fun k_ => ((P0_ k_ ∨ P1_ k_) ∨ w.heap.size ≤ k_))) k_ ∧ some k_ ≠ (u8 : Value).ownBlock)) (HL188_4.out) (fun k_ hk => ⟨hk.1, hk.2⟩)))) | exact (k32_mkF _ _ (⟨(⟨(⟨(rd_T32 l1 x5_1).f0.f0.f0, (rd_T32 l1 x5_1).f0.f0.f1⟩ : S25), (rd_T32 l1 x5_1).f0.f1, (rd_T32 l1 x5_1).f0.f2⟩ : S27), (rd_T32 l1 x5_1).f1⟩ : S32) (Kd.V_reads' (Kd.V_mono (ok' := (fun k_ => ((fun k_ => ((P0_ k_ ∨ P1_ k_) ∨ w.heap.size ≤ k_))) k_ ∧ some k_ ≠ (u8 : Value).ownBlock)) (HL188_4.out) (fun k_ hk => ⟨hk.1, hk.2⟩))).2.1 (Kd.V_F (Kd.V_mono (ok' := (fun k_ => ((fun k_ => ((P0_ k_ ∨ P1_ k_) ∨ w.heap.size ≤ k_))) k_ ∧ some k_ ≠ (u8 : Value).ownBlock)) (Kd.V_drewN HL188_4.out _) (fun k_ hk => ⟨hk.1, hk.2⟩))))); (case aB => exact zb_); (case aF => exact (fun k_ hk => (.inr (Nat.le_trans (below_size zb_) hk)))); (case aO => exact (zn_ HO_8)); (case aS => exact (below_size zb_)); (case aL => have := LMc35.out; omega); intro v190 w36 ho hb hg hat; rw [← Ny189.out] at ho; have n0_ := Aside0.mk (Kd.V_afterv (ok := (fun k_ => ((P0_ k_ ∨ P1_ k_) ∨ w.heap.size ≤ k_))) (zv_ HO_0) hg hat); have n1_ := Aside0.mk (Kd.V_afterv (ok := (fun k_ => ((P0_ k_ ∨ P1_ k_) ∨ w.heap.size ≤ k_))) (zv_ HO_1) hg hat); have n2_ := Aside0.mk (Kd.V_afterv (ok := (fun k_ => ((P0_ k_ ∨ P1_ k_) ∨ w.heap.size ≤ k_))) (zv_ HL188_4) hg hat); have n3_ := Aside0.mk (hb); have n4_ := Aside0.mk (ho); clear HO_0; clear HO_1; clear HL188_4; clear HB; clear HO_8; have HO_0 := n0_; have HO_1 := n1_; have HL188_4 := n2_; have HB := n3_; have HO191 := n4_; clear n0_ n1_ n2_ n3_ n4_; clear ho hb hg hat))
             go_roundg k2
             case measure => have := HK1.out; have := HK2.out; omega
             case rel => exact ⟨(y189), (wrap64 (x5_1 + 1)), (by first | rfl | (simp; done) | (simp [*]; done)), H', ⟨by have := HK1.out; have := HK2.out; omega⟩, ⟨Kd.N_V (zn_ HO191)⟩, ⟨by (with_reducible repeat (first | apply Kd.V_alloc | apply Kd.V_drewN | apply Kd.V_drew)); exact Kd.V_mono HO_1.out (fun _ hk => hk.1)⟩, ⟨by repeat (first | (with_reducible first | exact HB.out | apply below_alloc | apply pw_below_drewN | apply below_drew1) | exact HB.out)⟩⟩
            ·
             rw [if_neg c35] at H
             exact absurd H (by simp)
           ·
            rw [if_neg c34] at H
            exact absurd H (by simp)
          ·
           rw [if_neg c33] at H
           exact absurd H (by simp)
    ·
     rw [if_neg c4] at H
     exact absurd H (by simp)
   ·
    rw [if_neg c3] at H
    have c3b0 : decide (x5_1 < (l1.length : Int)) = false := decide_eq_false c3
    clear c3
    obtain rfl := Option.some.inj H
    go_wp2
    go_ret
    exact ⟨_, by first | rfl | (simp [errW_none, errW_some] <;> rfl) | (simp [*, errW_none, errW_some] <;> rfl), by (with_reducible repeat (first | apply Kd.V_alloc | apply Kd.V_drewN | apply Kd.V_drew)); exact HO_0.out, by repeat (first | (with_reducible first | exact HB.out | apply below_alloc | apply pw_below_drewN | apply below_drew1) | exact HB.out)⟩
end Go.Proofs.Ytioooiflpabngaa.PAll
end
section
namespace Go.Proofs.Ytioooiflpabngaa.PAll
open Go.RowKit Go.Proofs.YtioooiflpabngaaW.PrintWords
set_option linter.unusedVariables false
set_option linter.unusedSimpArgs false
def aheadE (x : S32) : List S32 → List S32
  | [] => [x]
  | a :: l => if cmpL x.f0 a.f0 < 0 then x :: a :: l else a :: aheadE x l
def putR (l : List S32) (x : S32) : List S32 := if (foundE l x.f0).2 = true then l else aheadE x l
def mergeR (l more : List S32) : List S32 := more.foldl putR l
theorem aheadE_length (x : S32) (l : List S32) : (aheadE x l).length = l.length + 1 := by
  induction l with
  | nil => rfl
  | cons a l ih => unfold aheadE; split <;> simp [ih]
theorem putR_length (l : List S32) (x : S32) : (putR l x).length ≤ l.length + 1 := by
  unfold putR; split
  · omega
  · rw [aheadE_length]; omega
theorem refMerge_inner (more l : List S32) (j : Nat) (hj : j < more.length) (hl : l.length + 1 < 2513169434916) (r : List S32)
    (hr : Ev (fun k => folkmootref15_Merge.l0 k (aheadE more[j] l) more ((j + 1 : Nat) : Int)) r) (hm : more.length < 9223372036854775807) :
    ∀ (d i : Nat) (out : List S32) (done : Bool), d = l.length - i → i ≤ l.length → (done = false → out.length = i) → (done = true → out.length = i + 1) →
      (out ++ if done = true then l.drop i else aheadE more[j] (l.drop i)) = aheadE more[j] l →
      Ev (fun k => folkmootref15_Merge.l1 k l more (j : Int) out done (i : Int)) r := by
  intro d
  induction d with
  | zero =>
    intro i out done hd hi ho1 ho2 hout
    have hil : i = l.length := by omega
    subst hil
    simp only [List.drop_length] at hout
    cases done with
    | true =>
      simp only [if_true, List.append_nil] at hout
      subst hout
      refine Ev.step (b := fun k => folkmootref15_Merge.l0 k (aheadE more[j] l) more ((j + 1 : Nat) : Int)) (fun k => ?_) hr
      rw [folkmootref15_Merge.l1, if_neg (by omega), if_pos rfl, wrap_nat (by omega)]
    | false =>
      simp only [Bool.false_eq_true, if_false, aheadE] at hout
      refine Ev.step (b := fun k => folkmootref15_Merge.l0 k (aheadE more[j] l) more ((j + 1 : Nat) : Int)) (fun k => ?_) hr
      have hol := ho1 rfl
      rw [folkmootref15_Merge.l1, if_neg (by omega), if_neg (by simp), if_pos (by omega), if_pos (by omega), if_pos (by omega), rdE_nat hj, wrap_nat (by omega), ← hout]
  | succ d ih =>
    intro i out done hd hi ho1 ho2 hout
    have hlt : i < l.length := by omega
    cases done with
    | true =>
      have hol := ho2 rfl
      simp only [if_true] at hout
      refine Ev.step (b := fun k => folkmootref15_Merge.l1 k l more (j : Int) (out ++ [l[i]]) true ((i + 1 : Nat) : Int)) (fun k => ?_) (ih (i + 1) (out ++ [l[i]]) true (by omega) (by omega) (by simp) (by intro _; simp; omega) ?_)
      · rw [folkmootref15_Merge.l1, if_pos (by omega), if_pos rfl, if_pos (by omega), if_pos (by omega), rdE_nat hlt, wrap_nat (by omega)]
      · simp only [if_true]
        rw [← hout, List.append_assoc, List.drop_eq_getElem_cons hlt]
        rfl
    | false =>
      have hol := ho1 rfl
      simp only [Bool.false_eq_true, if_false] at hout
      rw [List.drop_eq_getElem_cons hlt, aheadE] at hout
      refine Ev.step (b := fun k => (folkmootref05_Less.f k more[j].f0.f0.f0 more[j].f0.f0.f1 more[j].f0.f1 more[j].f0.f2 l[i].f0.f0.f0 l[i].f0.f0.f1 l[i].f0.f1 l[i].f0.f2).bind fun t => if t = true then folkmootref15_Merge.l1 k l more (j : Int) ((out ++ [more[j]]) ++ [l[i]]) true ((i + 1 : Nat) : Int) else folkmootref15_Merge.l1 k l more (j : Int) (out ++ [l[i]]) false ((i + 1 : Nat) : Int)) (fun k => ?_) (Ev.bind (refLess_ev _ _) ?_)
      · rw [folkmootref15_Merge.l1, if_pos (by omega), if_neg (by simp), if_pos (by omega), if_pos (by omega), if_pos (by omega), rdE_nat hlt, rdE_nat hj, wrap_nat (by omega)]
        congr 1
        funext t
        cases t with
        | true =>
          simp only [if_true]
          rw [if_pos (by omega), Option.bind_some, if_pos (by simp; omega)]
        | false =>
          simp only [Bool.false_eq_true, if_false]
          rw [if_pos (by omega)]
      · by_cases hc : cmpL more[j].f0 l[i].f0 < 0
        · rw [if_pos hc] at hout
          simp only [hc, decide_true, if_true]
          refine ih (i + 1) ((out ++ [more[j]]) ++ [l[i]]) true (by omega) (by omega) (by simp) (by intro _; simp; omega) ?_
          simp only [if_true]
          rw [← hout]
          simp
        · rw [if_neg hc] at hout
          simp only [hc, decide_false, Bool.false_eq_true, if_false]
          refine ih (i + 1) (out ++ [l[i]]) false (by omega) (by omega) (by intro _; simp; omega) (by simp) ?_
          simp only [Bool.false_eq_true, if_false]
          rw [← hout]
          simp
theorem refMerge_loop (more : List S32) (hm : more.length < 9223372036854775807) : ∀ (d j : Nat) (l : List S32), d = more.length - j → j ≤ more.length → l.length + d < 2513169434916 → Ev (fun k => folkmootref15_Merge.l0 k l more (j : Int)) (mergeR l (more.drop j)) := by
  intro d
  induction d with
  | zero =>
    intro j l hd hj hl
    have hjm : j = more.length := by omega
    subst hjm
    refine Ev.step (b := fun _ => some l) (fun k => ?_) (Ev.const fun _ => by simp [mergeR])
    rw [folkmootref15_Merge.l0, if_neg (by omega)]
  | succ d ih =>
    intro j l hd hj hl
    have hlt : j < more.length := by omega
    rw [List.drop_eq_getElem_cons hlt]
    show Ev _ (mergeR (putR l more[j]) (more.drop (j + 1)))
    have hpl := putR_length l more[j]
    have hn := ih (j + 1) (putR l more[j]) (by omega) (by omega) (by omega)
    refine Ev.step (b := fun k => (folkmootref15_Find.f k l more[j].f0.f0.f0 more[j].f0.f0.f1 more[j].f0.f1 more[j].f0.f2).bind fun b => if b.2 = true then folkmootref15_Merge.l0 k l more ((j + 1 : Nat) : Int) else folkmootref15_Merge.l1 k l more (j : Int) [] false 0) (fun k => ?_) (Ev.bind (refFind_ev l more[j].f0 (by omega)) ?_)
    · rw [folkmootref15_Merge.l0, if_pos (by omega), if_pos (by omega), rdE_nat hlt, wrap_nat (by omega)]
    · by_cases hf : (foundE l more[j].f0).2 = true
      · simp only [hf, if_true]
        rw [putR, if_pos hf] at hn ⊢
        exact hn
      · simp only [hf]
        rw [putR, if_neg hf] at hn ⊢
        exact refMerge_inner more l j hlt (by omega) _ hn hm l.length 0 [] false (by omega) (by omega) (by simp) (by simp) (by simp)
theorem refMerge_ev (l more : List S32) (h : l.length + more.length < 2513169434916) : Ev (fun k => folkmootref15_Merge.f k l more) (mergeR l more) := by
  have := refMerge_loop more (by omega) more.length 0 l (by omega) (by omega) (by omega)
  simpa [folkmootref15_Merge.f] using this
end Go.Proofs.Ytioooiflpabngaa.PAll
end
section
namespace Go.Proofs.Ytioooiflpabngaa.PAll
open Go.RowKit Go.Proofs.YtioooiflpabngaaW.PrintWords Go.Proofs.YtioooiflpabngaaW.PrintLast Go.Proofs.YtioooiflpabngaaW.PrintMore
attribute [local go_sem] max2_int min2_int max_two min_two max_three min_three max_four min_four   -- for this text's walks alone
set_option linter.unusedVariables false
set_option linter.unusedSimpArgs false
def content_Find_1.f (k : Nat) (a0_0 : Int) (a0_1 : Int) (a0_2 : Int) (a0_3 : Int) (l0_4 : List Int) (a1_0 : Int) (a1_1 : Int) (a1_2 : Int) (a1_3 : Int) : Option (Int) := (label_Compare.f k a0_0 a0_1 a0_2 a0_3 a1_0 a1_1 a1_2 a1_3).bind fun t212 => (some t212)
end Go.Proofs.Ytioooiflpabngaa.PAll
end
section
namespace Go.Proofs.Ytioooiflpabngaa.PAll
open Go.RowKit Go.Proofs.YtioooiflpabngaaW.PrintWords Go.Proofs.YtioooiflpabngaaW.PrintLast Go.Proofs.YtioooiflpabngaaW.PrintMore
attribute [local go_sem] max2_int min2_int max_two min_two max_three min_three max_four min_four   -- for this text's walks alone
set_option linter.unusedVariables false
set_option linter.unusedSimpArgs false
def api_Label_70.l0 : Nat → List (S32) → Int → Int → Int → Int → Int → Int → Int → Option (Int × Bool)
 | 0, _, _, _, _, _, _, _, _ => none
 | k + 1, x0, x8, x9, x10, x214000, x214001, x214002, x214003 => if x9 < x10 then (if 0 ≤ (wrap64 ((IntKind.u64.wrap (wrap64 (x9 + x10))) / 2)) then (if (wrap64 ((IntKind.u64.wrap (wrap64 (x9 + x10))) / 2)) < (x0.length : Int) then ((content_Find_1.f k ((rd_T32 x0 (wrap64 ((IntKind.u64.wrap (wrap64 (x9 + x10))) / 2))).f0.f0.f0) ((rd_T32 x0 (wrap64 ((IntKind.u64.wrap (wrap64 (x9 + x10))) / 2))).f0.f0.f1) ((rd_T32 x0 (wrap64 ((IntKind.u64.wrap (wrap64 (x9 + x10))) / 2))).f0.f1) ((rd_T32 x0 (wrap64 ((IntKind.u64.wrap (wrap64 (x9 + x10))) / 2))).f0.f2) ((rd_T32 x0 (wrap64 ((IntKind.u64.wrap (wrap64 (x9 + x10))) / 2))).f1) x214000 x214001 x214002 x214003).bind fun t215 => (if t215 < 0 then (api_Label_70.l0 k x0 x8 (wrap64 ((wrap64 ((IntKind.u64.wrap (wrap64 (x9 + x10))) / 2)) + 1)) x10 x214000 x214001 x214002 x214003) else (api_Label_70.l0 k x0 x8 x9 (wrap64 ((IntKind.u64.wrap (wrap64 (x9 + x10))) / 2)) x214000 x214001 x214002 x214003))) else (none)) else (none)) else (if x9 < x8 then (if 0 ≤ x9 then (if x9 < (x0.length : Int) then ((content_Find_1.f k ((rd_T32 x0 x9).f0.f0.f0) ((rd_T32 x0 x9).f0.f0.f1) ((rd_T32 x0 x9).f0.f1) ((rd_T32 x0 x9).f0.f2) ((rd_T32 x0 x9).f1) x214000 x214001 x214002 x214003).bind fun t217 => (some (x9, (t217 == 0)))) else (none)) else (none)) else (some (x9, false)))
def api_Label_70.f (k : Nat) (l0 : List (S32)) (a1_0 : Int) (a1_1 : Int) (a1_2 : Int) (a1_3 : Int) : Option (Int × Bool) := api_Label_70.l0 k l0 (l0.length : Int) 0 (l0.length : Int) a1_0 a1_1 a1_2 a1_3
def api_Label_70.T5 : Bool × List (List Nat × List Nat) := (true, [([], []), ([], []), ([], []), ([1, 2], [1, 2]), ([3], [3]), ([], []), ([0, 4, 5], [0, 4, 5]), ([6], [6])])
def api_Label_70.B5 : List Nat := [0, 0, 0, 6, 14, 0, 63, 127]
theorem api_Label_70.tab5 : rtab .any (opsOf Try.f70 5) = api_Label_70.T5 := by kernel_rfl
theorem api_Label_70.bits5 : waitsOk api_Label_70.T5.2 api_Label_70.B5 = true := by kernel_rfl
def api_Label_70.T8 : Bool × List (List Nat × List Nat) := (true, [([], []), ([], []), ([], []), ([1, 2], [1, 2]), ([3], [3]), ([4], [4]), ([4], [4]), ([4], [4]), ([6, 7, 4], [4, 6, 7]), ([8, 4], [4, 8]), ([4], [4]), ([5, 9, 10, 4, 4], [4, 5, 9, 10]), ([11, 4], [4, 11]), ([4, 12], [4, 12]), ([0, 11, 0], [0]), ([13, 14, 0, 1, 2, 3, 4, 5, 6, 7, 8, 9, 10, 11, 12, 13, 14], [13])])
def api_Label_70.B8 : List Nat := [0, 0, 0, 6, 14, 30, 30, 30, 222, 478, 30, 2046, 4094, 8190, 4095, 32767]
theorem api_Label_70.tab8 : rtab .any (opsOf Try.f70 8) = api_Label_70.T8 := by kernel_rfl
theorem api_Label_70.bits8 : waitsOk api_Label_70.T8.2 api_Label_70.B8 = true := by kernel_rfl
end Go.Proofs.Ytioooiflpabngaa.PAll
end
section
namespace Go.Proofs.Ytioooiflpabngaa.PAll
open Go.RowKit Go.Proofs.YtioooiflpabngaaW.PrintWords Go.Proofs.YtioooiflpabngaaW.PrintLast Go.Proofs.YtioooiflpabngaaW.PrintMore
set_option linter.unusedVariables false
set_option linter.unusedSimpArgs false
theorem C_none {α : Type} {d : Kd α} {w : World} {xs : List α} (h : Kd.C d w none xs.length xs) : xs = [] := by
  rcases Nat.eq_zero_or_pos xs.length with h0 | h0
  · exact List.eq_nil_of_length_eq_zero h0
  · obtain ⟨ad, e, _⟩ := h.2.2 h0
    cases e
theorem R_empty {α : Type} (d : Kd α) (e : Nat) (W : World) (base : Nat) (hb : base ≤ W.heap.size) : d.R e (W.alloc (.cells #[] e)) base (fun _ => True) (.slice (some ⟨W.heap.size, 0, none⟩) 0 0) [] := by
  refine ⟨fun _ _ => trivial, [], ?_, Reps.none _ _⟩
  have h2 := World.ownsRow_lit (base := base) (e := e) (size := d.sz) W #[] 0 hb (by simp [maxLen]) (by simp)
  simpa using h2
set_option maxHeartbeats 8000000 in
set_option maxRecDepth 100000 in
theorem bytes_Clone.calls (A0 : Option Addr) (c0 : Nat) (l0 : List Int) (r : List Int) (w : World) (hr0 : Kd.C (Kd.int .u8) w A0 l0.length l0) (hc0 : l0.length ≤ c0) (h : bytes_Clone.f l0 = some r) :
    Calls Try.prog 72 #[.slice A0 l0.length c0] w fun e w' => ∃ v0_ : Value, e = .returned (v0_) ∧ Kd.R (Kd.int .u8) 5 w' w.heap.size (fun _ => True) v0_ r ∧ Below w.heap.size w w' := by
  obtain ⟨hl, rfl⟩ := of_if_some h
  clear h
  have HL := Aside0.mk hl
  clear hl
  have HC0 := Aside0.mk hc0
  clear hc0
  have he := fun W : World => Lib.run_eql_slice_nil (P := Try.prog) W 30 5 A0 l0.length c0 0 0 Try.underlying30
  rcases A0 with _ | ad
  · obtain rfl := C_none hr0
    have he2 : ∀ W : World, (binOp .eql 30 (.slice none 0 c0) (.slice none 0 0)).run Try.prog W = .ok (.bool true) W := fun W => he W
    clear he hr0
    go_enter Try.func72, Try.ntmps72
    go_wp2
    go_ret
    exact ⟨_, rfl, Kd.R_nil _ _ _ _ _, Below.refl _ _⟩
  · have HR0 := Aside0.mk hr0
    clear hr0
    have he2 : ∀ W : World, (binOp .eql 30 (.slice (some ad) l0.length c0) (.slice none 0 0)).run Try.prog W = .ok (.bool false) W := fun W => he W
    clear he
    go_enter Try.func72, Try.ntmps72
    go_wp2_with ((with_reducible refine gate_builtin (b := .append) (xs := #[.tmp 5, .tmp 6]) rfl ?_); at_builtin; refine Kd.R_append_rows (Kd.int .u8) (w0 := w) w.heap.size rfl (.tmp 5) (.tmp 6) 30 5 (.int .u8 0) 1 rfl Try.underlying30 info5 rfl (by decide) (by omega) (.slice (some ⟨w.heap.size, 0, none⟩) 0 0) ([] : List Int) l0 _ _ _ (fun _ => True) (fun _ => False) rfl rfl ?aO ?aR (fun _ _ h => h) (fun _ h => h.elim) ?aF ?aB ?aS ?aL ?_; (case aR => exact Kd.C_alloc HR0.out _); (case aB => exact below_alloc (Below.refl _ _) _); (case aF => exact (fun _ _ => trivial)); (case aO => exact R_empty _ _ _ _ (Nat.le_refl _)); (case aS => simp); (case aL => have := HL.out; simp; omega); intro v481 w5 ho hb hg hat; clear hg hat)
    go_ret
    exact ⟨_, rfl, by simpa using ho, hb⟩
set_option maxHeartbeats 8000000 in
set_option maxRecDepth 100000 in
theorem slices_Clone_Label.calls (A0 : Option Addr) (c0 : Nat) (l0 : List S27) (r : List S27) (w : World) (hr0 : Kd.C k27 w A0 l0.length l0) (hc0 : l0.length ≤ c0) (h : slices_Clone_Label.f l0 = some r) :
    Calls Try.prog 78 #[.slice A0 l0.length c0] w fun e w' => ∃ v0_ : Value, e = .returned (v0_) ∧ Kd.R k27 27 w' w.heap.size (fun _ => True) v0_ r ∧ Below w.heap.size w w' := by
  obtain ⟨hl, rfl⟩ := of_if_some h
  clear h
  have HL := Aside0.mk hl
  clear hl
  have HC0 := Aside0.mk hc0
  clear hc0
  have he := fun W : World => Lib.run_eql_slice_nil (P := Try.prog) W 41 27 A0 l0.length c0 0 0 Try.underlying41
  rcases A0 with _ | ad
  · obtain rfl := C_none hr0
    have he2 : ∀ W : World, (binOp .eql 41 (.slice none 0 c0) (.slice none 0 0)).run Try.prog W = .ok (.bool true) W := fun W => he W
    clear he hr0
    go_enter Try.func78, Try.ntmps78
    go_wp2
    go_ret
    exact ⟨_, rfl, Kd.R_nil _ _ _ _ _, Below.refl _ _⟩
  · have HR0 := Aside0.mk hr0
    clear hr0
    have he2 : ∀ W : World, (binOp .eql 41 (.slice (some ad) l0.length c0) (.slice none 0 0)).run Try.prog W = .ok (.bool false) W := fun W => he W
    clear he
    go_enter Try.func78, Try.ntmps78
    go_wp2_with ((with_reducible refine gate_builtin (b := .append) (xs := #[.tmp 5, .tmp 6]) rfl ?_); at_builtin; refine Kd.R_append_rows k27 (w0 := w) w.heap.size rfl (.tmp 5) (.tmp 6) 41 27 (.agg #[(.int .u64 0), (.int .i64 0), (.int .u64 0), (.int .i64 0)]) 32 rfl Try.underlying41 info27 rfl (by decide) (by omega) (.slice (some ⟨w.heap.size, 0, none⟩) 0 0) ([] : List S27) l0 _ _ _ (fun _ => True) (fun _ => False) rfl rfl ?aO ?aR (fun _ _ h => h) (fun _ h => h.elim) ?aF ?aB ?aS ?aL ?_; (case aR => exact Kd.C_alloc HR0.out _); (case aB => exact below_alloc (Below.refl _ _) _); (case aF => exact (fun _ _ => trivial)); (case aO => exact R_empty _ _ _ _ (Nat.le_refl _)); (case aS => simp); (case aL => have := HL.out; simp; omega); intro v481 w5 ho hb hg hat; clear hg hat)
    go_ret
    exact ⟨_, rfl, by simpa using ho, hb⟩
end Go.Proofs.Ytioooiflpabngaa.PAll
end
section
namespace Go.Proofs.Ytioooiflpabngaa.PAll
open Go.RowKit Go.Proofs.YtioooiflpabngaaW.PrintWords
set_option linter.unusedVariables false
set_option linter.unusedSimpArgs false
theorem findCmp_ev (x : S32) (b : S27) : Ev (fun k => content_Find_1.f k x.f0.f0.f0 x.f0.f0.f1 x.f0.f1 x.f0.f2 x.f1 b.f0.f0 b.f0.f1 b.f1 b.f2) (cmpL x.f0 b) := by
  unfold content_Find_1.f
  exact Ev.bind (compare_ev x.f0 b) (Ev.const fun _ => rfl)
def Rise (l : List S32) : Prop := l.Pairwise fun a b => ltL a.f0 b.f0
theorem half {lo hi : Nat} (h : lo < hi) (hh : hi < 4611686018427387904) : wrap64 (IntKind.u64.wrap (wrap64 ((lo : Int) + (hi : Int))) / 2) = (((lo + hi) / 2 : Nat) : Int) := by
  have e1 : wrap64 ((lo : Int) + (hi : Int)) = ((lo + hi : Nat) : Int) := by unfold wrap64; omega
  rw [e1]
  have e2 : IntKind.u64.wrap ((lo + hi : Nat) : Int) = ((lo + hi : Nat) : Int) := by
    show ((lo + hi : Nat) : Int) % 18446744073709551616 = _
    omega
  rw [e2]
  unfold wrap64
  omega
theorem rise_lt {l : List S32} (h : Rise l) {i j : Nat} (hij : i < j) (hj : j < l.length) : ltL (l[i]'(by omega)).f0 l[j].f0 := List.pairwise_iff_getElem.1 h i j (by omega) hj hij
set_option maxHeartbeats 1000000 in
theorem search_loop (l : List S32) (b : S27) (hr : Rise l) (hl : l.length < 4611686018427387904) : ∀ (d lo hi : Nat), hi - lo ≤ d → lo ≤ hi → hi ≤ l.length →
    (∀ t (ht : t < l.length), t < lo → cmpL l[t].f0 b < 0) → (∀ t (ht : t < l.length), hi ≤ t → ¬ cmpL l[t].f0 b < 0) →
    ∃ n, n ≤ l.length ∧ (∀ t (ht : t < l.length), t < n → cmpL l[t].f0 b < 0) ∧ (∀ t (ht : t < l.length), n ≤ t → ¬ cmpL l[t].f0 b < 0) ∧
      Ev (fun k => api_Label_70.l0 k l (l.length : Int) (lo : Int) (hi : Int) b.f0.f0 b.f0.f1 b.f1 b.f2) ((n : Int), if h : n < l.length then decide (cmpL l[n].f0 b = 0) else false) := by
  intro d
  induction d with
  | zero =>
    intro lo hi hd h1 h2 hA hB
    obtain rfl : lo = hi := by omega
    refine ⟨lo, h2, hA, hB, ?_⟩
    by_cases hlt : lo < l.length
    · refine Ev.step (b := fun k => (content_Find_1.f k l[lo].f0.f0.f0 l[lo].f0.f0.f1 l[lo].f0.f1 l[lo].f0.f2 l[lo].f1 b.f0.f0 b.f0.f1 b.f1 b.f2).bind fun t => some ((lo : Int), (t == 0))) (fun k => ?_) (Ev.bind (findCmp_ev l[lo] b) (Ev.const fun _ => ?_))
      · rw [api_Label_70.l0, if_neg (by omega), if_pos (by omega), if_pos (by omega), if_pos (by omega), rdE_nat hlt]
      · rw [dif_pos hlt]
        by_cases h0 : cmpL l[lo].f0 b = 0 <;> simp [h0]
    · refine Ev.step (b := fun k => some ((lo : Int), false)) (fun k => ?_) (Ev.const fun _ => ?_)
      · rw [api_Label_70.l0, if_neg (by omega), if_neg (by omega)]
      · rw [dif_neg hlt]
  | succ d ih =>
    intro lo hi hd h1 h2 hA hB
    by_cases hlt : lo < hi
    · obtain ⟨m, hme⟩ : ∃ m, m = (lo + hi) / 2 := ⟨_, rfl⟩
      have hm1 : lo ≤ m := by omega
      have hm2 : m < hi := by omega
      have hm : m < l.length := by omega
      have hhalf := half hlt (by omega)
      rw [← hme] at hhalf
      clear hme
      have hstep : ∀ n : Nat, ∀ r, Ev (fun k => if cmpL l[m].f0 b < 0 then api_Label_70.l0 k l (l.length : Int) ((m + 1 : Nat) : Int) (hi : Int) b.f0.f0 b.f0.f1 b.f1 b.f2 else api_Label_70.l0 k l (l.length : Int) (lo : Int) ((m : Nat) : Int) b.f0.f0 b.f0.f1 b.f1 b.f2) r →
          Ev (fun k => api_Label_70.l0 k l (l.length : Int) (lo : Int) (hi : Int) b.f0.f0 b.f0.f1 b.f1 b.f2) r := by
        intro _ r hr'
        refine Ev.step (b := fun k => (content_Find_1.f k l[m].f0.f0.f0 l[m].f0.f0.f1 l[m].f0.f1 l[m].f0.f2 l[m].f1 b.f0.f0 b.f0.f1 b.f1 b.f2).bind fun t => if t < 0 then api_Label_70.l0 k l (l.length : Int) ((m + 1 : Nat) : Int) (hi : Int) b.f0.f0 b.f0.f1 b.f1 b.f2 else api_Label_70.l0 k l (l.length : Int) (lo : Int) ((m : Nat) : Int) b.f0.f0 b.f0.f1 b.f1 b.f2) (fun k => ?_) (Ev.bind (findCmp_ev l[m] b) hr')
        rw [api_Label_70.l0, if_pos (by omega), hhalf, if_pos (by omega), if_pos (by omega), rdE_nat hm, wrap_nat (by omega)]
      by_cases hc : cmpL l[m].f0 b < 0
      · obtain ⟨n, a1, a2, a3, a4⟩ := ih (m + 1) hi (by omega) (by omega) h2 (fun t ht htl => by
          rcases Nat.lt_or_ge t m with h | h
          · exact (cmpL_neg _ _).2 (ltL_trans (rise_lt hr h hm) ((cmpL_neg _ _).1 hc))
          · have e : t = m := by omega
            subst e; exact hc) hB
        refine ⟨n, a1, a2, a3, hstep n _ ?_⟩
        simp only [hc, if_true]
        exact a4
      · obtain ⟨n, a1, a2, a3, a4⟩ := ih lo m (by omega) (by omega) (by omega) hA (fun t ht htl => by
          rcases Nat.lt_or_ge m t with h | h
          · intro h4
            exact hc ((cmpL_neg _ _).2 (ltL_trans (rise_lt hr h ht) ((cmpL_neg _ _).1 h4)))
          · have e : t = m := by omega
            subst e; exact hc)
        refine ⟨n, a1, a2, a3, hstep n _ ?_⟩
        simp only [hc, if_false]
        exact a4
    · exact ih lo hi (by omega) h1 h2 hA hB
theorem search_ev (l : List S32) (b : S27) (hr : Rise l) (hl : l.length < 4611686018427387904) : ∃ n, n ≤ l.length ∧ (∀ t (ht : t < l.length), t < n → cmpL l[t].f0 b < 0) ∧ (∀ t (ht : t < l.length), n ≤ t → ¬ cmpL l[t].f0 b < 0) ∧
      Ev (fun k => api_Label_70.f k l b.f0.f0 b.f0.f1 b.f1 b.f2) ((n : Int), if h : n < l.length then decide (cmpL l[n].f0 b = 0) else false) := by
  obtain ⟨n, h1, h2, h3, h4⟩ := search_loop l b hr hl l.length 0 l.length (by omega) (by omega) (Nat.le_refl _) (fun t ht h => absurd h (by omega)) (fun t ht h => absurd ht (by omega))
  exact ⟨n, h1, h2, h3, h4⟩
theorem foundE_none {l : List S32} {b : S27} (h : ∀ x ∈ l, x.f0 ≠ b) : foundE l b = ([], false) := by
  induction l with
  | nil => rfl
  | cons a l ih =>
    rw [foundE_cons, if_neg (by rw [eqL_iff]; exact h a (List.mem_cons_self ..))]
    exact ih fun x hx => h x (List.mem_cons_of_mem _ hx)
end Go.Proofs.Ytioooiflpabngaa.PAll
end
section
namespace Go.Proofs.Ytioooiflpabngaa.PAll
open Go.RowKit Go.Deep Go.ChangeShapes Go.WideShapes Go.Proofs.YtioooiflpabngaaW.PrintWords
set_option linter.unusedVariables false
def Opens {α : Type} (P : Program) (t : TypeId) (d : Kd α) (ok : α → Prop) : Prop :=
  P.cellsOf t = d.sz ∧ ∀ (H : Type) (enc : TypeId × Value → H) (w : World) (base : Nat) (spare : Nat → Bool) (held : Bool) (fuel : Nat) (cs : List Value) (x : DataW H × List MemPlace),
    DataW.trod enc P w base spare held fuel t cs = some x → (∀ n ∈ x.1.weights P t, n ≤ reachBytes) → ∃ a : α, d.K w a cs ∧ ok a
def OpensF {α : Type} (P : Program) (fs : List Field) (start : Nat) (d : Kd α) (ok : α → Prop) : Prop :=
  ∀ (H : Type) (enc : TypeId × Value → H) (w : World) (base : Nat) (spare : Nat → Bool) (held : Bool) (n : Nat) (cs : List Value) (xs : List (DataW H × List MemPlace)), cs.length = start + d.sz → xs.length = fs.length →
    (∀ (i : Nat) (f : Field), fs[i]? = some f → DataW.trod enc P w base spare held n f.type ((cs.drop f.offset).take (P.cellsOf f.type)) = xs[i]?) →
    (∀ q ∈ DataW.weightsEach P (fs.map fun f : Field => f.type) (xs.map (·.1)), q ≤ reachBytes) → ∃ a : α, d.K w a (cs.drop start) ∧ ok a
theorem opens_int {P : Program} {t : TypeId} {k : IntKind} (ht : P.underlying t = some (.int k)) (hc : P.cellsOf t = 1) : Opens P t (Kd.int k) (fun n => (Lit.int k n).wf = true) :=
  ⟨hc, fun H enc w base spare held fuel cs x h _ => by
    obtain ⟨n, rfl, _, hw⟩ := DataW.trod_int ht h
    exact ⟨n, rfl, hw⟩⟩
theorem weights_all {H : Type} {P : Program} {e : TypeId} : ∀ {ds : List (DataW H)} {d : DataW H}, d ∈ ds → ∀ n ∈ d.weights P e, n ∈ DataW.weightsAll P e ds
  | d0 :: ds, d, hd, n, hn => by
    simp only [DataW.weightsAll, List.mem_append]
    rcases List.mem_cons.1 hd with rfl | h
    · exact .inl hn
    · exact .inr (weights_all h n hn)
theorem opens_slice {α : Type} [Inhabited α] {P : Program} {t e : TypeId} {E : Nat} {d : Kd α} {ok : α → Prop} (ht : P.underlying t = some (.slice e)) (hc : P.cellsOf t = 1) (he : Opens P e d ok) :
    Opens P t (Kd.slice E d) (fun xs => xs.length * P.bytesOf e ≤ reachBytes ∧ ∀ x ∈ xs, ok x) := by
  refine ⟨hc, fun H enc w base spare held fuel cs x h hw => ?_⟩
  rcases Go.Deep.open_slice ht h with ⟨rfl, rfl⟩ | ⟨a, len, cap, m, n, D, Pl, rfl, hb, hl, hm, hmm, rfl, hx⟩
  · exact ⟨[], ⟨none, 0, rfl, Nat.le_refl _, rfl, by simp, fun h => by simp at h⟩, by simp, by simp⟩
  · have hlm : len ≤ m := by rw [hmm]; split <;> omega
    simp only [DataW.weights, ht] at hw
    have hwl := hw _ (List.mem_cons_self ..)
    have hf : ∀ i, i < len → ∃ y : α, (∃ c : List Value, c.length = d.sz ∧ d.K w y c ∧ ∀ j u, c[j]? = some u → w.cell? (a.add (i * d.sz + j)) = some u) ∧ ok y := by
      intro i hi
      obtain ⟨cs', h1, h2⟩ := hx i (by omega)
      obtain ⟨y, hy, hok⟩ := he.2 H enc w base spare held n cs' _ h2 (fun q hq => hw q (List.mem_cons_of_mem _ (List.mem_append.2 (.inl (weights_all (List.mem_map.2 ⟨i, List.mem_range.2 hi, rfl⟩) q hq)))))
      obtain ⟨_, hlen, hcell⟩ := World.cells?_some h1
      refine ⟨y, ⟨cs', hlen.trans he.1, hy, fun j u hj => ?_⟩, hok⟩
      have hj2 : j < P.cellsOf e := by rw [← hlen]; exact (List.getElem?_eq_some_iff.1 hj).1
      have h3 := hcell j hj2
      rw [Go.Deep.add_add, he.1] at h3
      rw [h3]; exact hj
    obtain ⟨f, hf⟩ := Go.Deep.choose_lt hf
    refine ⟨(List.range len).map f, ⟨some a, cap, by simp, by simpa using hl, by simp, by simp; simp [maxLen] at hm; omega, fun _ => ⟨a, rfl, fun j p hj => ?_⟩⟩, ?_, ?_⟩
    · obtain ⟨hlt, hp⟩ := List.getElem?_eq_some_iff.1 hj
      have hjl : j < len := by simpa using hlt
      have hpe : p = f j := by simpa using hp.symm
      subst hpe
      exact (hf j hjl).1
    · simp only [List.length_map, List.length_range] at hwl ⊢
      exact Nat.le_trans (Nat.mul_le_mul_right _ (by omega)) hwl
    · intro x hx
      obtain ⟨i, hi, rfl⟩ := List.mem_map.1 hx
      exact (hf i (List.mem_range.1 hi)).2
theorem opensF_one {α : Type} {P : Program} {f : Field} {start : Nat} {d : Kd α} {ok : α → Prop} (ho : f.offset = start) (h : Opens P f.type d ok) : OpensF P [f] start d ok := by
  intro H enc w base spare held n cs xs hcs hxs hx hw
  match xs, hxs with
  | [x], _ =>
    have h0 := hx 0 f rfl
    rw [ho, h.1, List.take_of_length_le (by simp; omega)] at h0
    simp only [List.map_cons, List.map_nil, DataW.weightsEach, List.append_nil] at hw
    exact h.2 H enc w base spare held n _ x h0 hw
theorem opensF_cons {α β : Type} {P : Program} {f : Field} {fs : List Field} {start : Nat} {da : Kd α} {db : Kd β} {oka : α → Prop} {okb : β → Prop} (ho : f.offset = start) (h : Opens P f.type da oka) (hr : OpensF P fs (start + da.sz) db okb) :
    OpensF P (f :: fs) start (Kd.pair da db) (fun p => oka p.1 ∧ okb p.2) := by
  intro H enc w base spare held n cs xs hcs hxs hx hw
  match xs, hxs with
  | x :: xs, hxs =>
    have hcs2 : cs.length = start + (da.sz + db.sz) := hcs
    have h0 := hx 0 f rfl
    rw [ho, h.1] at h0
    simp only [List.map_cons, DataW.weightsEach, List.mem_append] at hw
    obtain ⟨a, ha, hoa⟩ := h.2 H enc w base spare held n _ x h0 (fun q hq => hw q (.inl hq))
    obtain ⟨b, hb, hob⟩ := hr H enc w base spare held n cs xs (by omega) (by simpa using hxs) (fun i f' hf => hx (i + 1) f' hf) (fun q hq => hw q (.inr hq))
    refine ⟨(a, b), ⟨_, _, ?_, ha, hb⟩, hoa, hob⟩
    rw [← List.drop_drop, List.take_append_drop]
theorem opens_struct {α : Type} {P : Program} {t : TypeId} {fs : Array Field} {d : Kd α} {ok : α → Prop} (ht : P.underlying t = some (.struct fs)) (hc : P.cellsOf t = d.sz) (h : OpensF P fs.toList 0 d ok) : Opens P t d ok := by
  refine ⟨hc, fun H enc w base spare held fuel cs x hx hw => ?_⟩
  obtain ⟨xs, n, rfl, rfl, hl, hxl, hf⟩ := DataW.trod_struct ht hx
  simp only [DataW.weights, ht] at hw
  have := h H enc w base spare held n cs xs (by omega) (by simpa using hxl) (fun i f hi => hf i f (by simpa using hi)) hw
  simpa using this
theorem opens_iso {α β : Type} {P : Program} {t : TypeId} {d : Kd α} {f : β → α} {ok : α → Prop} (g : α → β) (hg : ∀ a, f (g a) = a) (h : Opens P t d ok) : Opens P t (Kd.iso d f) (fun b => ok (f b)) :=
  ⟨h.1, fun H enc w base spare held fuel cs x hx hw => by
    obtain ⟨a, ha, ho⟩ := h.2 H enc w base spare held fuel cs x hx hw
    refine ⟨g a, ?_, ?_⟩
    · show d.K w (f (g a)) cs
      rw [hg]; exact ha
    · show ok (f (g a))
      rw [hg]; exact ho⟩
theorem Opens.imp {α : Type} {P : Program} {t : TypeId} {d : Kd α} {ok ok' : α → Prop} (h : Opens P t d ok) (k : ∀ a, ok a → ok' a) : Opens P t d ok' :=
  ⟨h.1, fun H enc w base spare held fuel cs x hx hw => by
    obtain ⟨a, ha, ho⟩ := h.2 H enc w base spare held fuel cs x hx hw
    exact ⟨a, ha, k _ ho⟩⟩
def rightV (v : S25) : Prop := (Lit.int .u64 v.f0).wf = true ∧ (Lit.int .i64 v.f1).wf = true
def rightL (x : S27) : Prop := rightV x.f0 ∧ (Lit.int .u64 x.f1).wf = true ∧ (Lit.int .i64 x.f2).wf = true
def rightB (b : List Int) : Prop := b.length * 1 ≤ reachBytes ∧ ∀ n ∈ b, (Lit.int .u8 n).wf = true
def rightE (x : S32) : Prop := rightL x.f0 ∧ rightB x.f1
def rightEs (l : List S32) : Prop := l.length * 56 ≤ reachBytes ∧ ∀ x ∈ l, rightE x
def rightLs (l : List S27) : Prop := l.length * 32 ≤ reachBytes ∧ ∀ x ∈ l, rightL x
def rightS (s : S53) : Prop := rightEs s.f0 ∧ rightLs s.f1 ∧ (Lit.int .i64 s.f2).wf = true ∧ rightV s.f3
theorem opensV : Opens Try.prog 25 k25 rightV :=
  opens_iso (fun p => ⟨p.1, p.2⟩) (fun _ => rfl) (opens_struct Try.underlying25 (by kernel_rfl) (opensF_cons rfl (opens_int (by kernel_rfl) (by kernel_rfl)) (opensF_one rfl (opens_int (by kernel_rfl) (by kernel_rfl)))))
theorem opensL : Opens Try.prog 27 k27 rightL :=
  opens_iso (fun p => ⟨p.1, p.2.1, p.2.2⟩) (fun _ => rfl) (opens_struct Try.underlying27 (by kernel_rfl) (opensF_cons rfl opensV (opensF_cons rfl (opens_int (by kernel_rfl) (by kernel_rfl)) (opensF_one rfl (opens_int (by kernel_rfl) (by kernel_rfl))))))
theorem opensB {E : Nat} : Opens Try.prog 30 (Kd.slice E (Kd.int .u8)) rightB :=
  (opens_slice Try.underlying30 (by kernel_rfl) (opens_int (k := .u8) (by kernel_rfl) (by kernel_rfl))).imp fun _ h => ⟨(show Try.prog.bytesOf 5 = 1 by kernel_rfl) ▸ h.1, h.2⟩
theorem opensE : Opens Try.prog 32 k32 rightE :=
  opens_iso (fun p => ⟨p.1, p.2⟩) (fun _ => rfl) (opens_struct Try.underlying32 (by kernel_rfl) (opensF_cons rfl opensL (opensF_one rfl opensB)))
theorem opensEs : Opens Try.prog 22 (Kd.slice 32 k32) rightEs :=
  (opens_slice Try.underlying22 (by kernel_rfl) opensE).imp fun _ h => ⟨(show Try.prog.bytesOf 32 = 56 by kernel_rfl) ▸ h.1, h.2⟩
theorem opensLs : Opens Try.prog 41 (Kd.slice 27 k27) rightLs :=
  (opens_slice Try.underlying41 (by kernel_rfl) opensL).imp fun _ h => ⟨(show Try.prog.bytesOf 27 = 32 by kernel_rfl) ▸ h.1, h.2⟩
theorem opensS : Opens Try.prog 53 k53 rightS :=
  opens_iso (fun p => ⟨p.1, p.2.1, p.2.2.1, p.2.2.2⟩) (fun _ => rfl) (opens_struct Try.underlying53 (by kernel_rfl) (opensF_cons rfl opensEs (opensF_cons rfl opensLs (opensF_cons rfl (opens_int (by kernel_rfl) (by kernel_rfl)) (opensF_one rfl opensV)))))
theorem opensSs : Opens Try.prog 69 (Kd.slice 53 k53) (fun l => l.length * 72 ≤ reachBytes ∧ ∀ x ∈ l, rightS x) :=
  (opens_slice Try.underlying69 (by kernel_rfl) opensS).imp fun _ h => ⟨(show Try.prog.bytesOf 53 = 72 by kernel_rfl) ▸ h.1, h.2⟩
theorem arg_trod {α : Type} {P : Program} {t : TypeId} {d : Kd α} {ok : α → Prop} (h : Opens P t d ok) {H : Type} {enc : TypeId × Value → H} {W : World} {base : Nat} {spare : Nat → Bool} {held : Bool} {v : Value} {dd : DataW H} {ps : List MemPlace}
    (ht : DataW.Trod enc P W base spare held t v dd ps) (hw : ∀ n ∈ dd.weights P t, n ≤ reachBytes) : ∃ a : α, d.K W a v.cells.toList ∧ ok a := by
  obtain ⟨fuel, hf⟩ := ht
  exact h.2 H enc W base spare held fuel _ _ hf hw
theorem arg_slice {α : Type} {d : Kd α} {E : Nat} {W : World} {xs : List α} {A : Option Addr} {len cap : Nat} (h : (Kd.slice E d).K W xs (Value.slice A len cap).cells.toList) : len = xs.length ∧ xs.length ≤ cap ∧ Kd.C d W A xs.length xs := by
  obtain ⟨A', c', he, hl, hr⟩ := h
  simp only [Value.cells, List.cons.injEq, Value.slice.injEq, and_true] at he
  obtain ⟨rfl, rfl, rfl⟩ := he
  exact ⟨rfl, hl, hr⟩
theorem agg_of {cs : Array Value} {l : List Value} (h : (Value.agg cs).cells.toList = l) : cs = l.toArray := by
  cases cs
  simpa [Value.cells] using h
theorem V_of_C {α : Type} {d : Kd α} {e : Nat} {W : World} {A : Option Addr} {c : Nat} {l : List α} (h : Kd.C d W A l.length l) (hc : l.length ≤ c)
    (hd : Kd.Heap d := by first | exact k32_heap | exact k27_heap | exact k53_heap | exact k87_heap | exact Go.Proofs.YtioooiflpabngaaW.PrintWords.Kd.heap_int _) : Kd.V d e W W.heap.size (fun k => k < W.heap.size) (.slice A l.length c) l :=
  ⟨A, c, rfl, hc, Kd.C_F hd h⟩
theorem rightLs_len {l : List S27} (h : rightLs l) : l.length < 4398046511104 := by
  have h1 := h.1
  have h2 := reachBytes_lt
  have e : (2 : Nat) ^ 47 = 140737488355328 := by decide
  rw [e] at h2
  omega
end Go.Proofs.Ytioooiflpabngaa.PAll
end
section
namespace Go.Proofs.Ytioooiflpabngaa.PAll
open Go.RowKit Go.Proofs.YtioooiflpabngaaW.PrintWords
set_option linter.unusedVariables false
set_option linter.unusedSimpArgs false
theorem foundE_false {l : List S32} {b : S27} : (foundE l b).2 = false ↔ ∀ x ∈ l, x.f0 ≠ b := by
  induction l with
  | nil => simp [foundE, findE]
  | cons a l ih =>
    rw [foundE_cons]
    by_cases h : eqL a.f0 b = true
    · rw [if_pos h]
      simp only [Bool.true_eq_false, false_iff]
      intro hx
      exact hx a (List.mem_cons_self ..) (eqL_iff.1 h)
    · rw [if_neg h, ih]
      refine ⟨fun hx x hm => ?_, fun hx x hm => hx x (List.mem_cons_of_mem _ hm)⟩
      rcases List.mem_cons.1 hm with rfl | hm
      · exact fun e => h (eqL_iff.2 e)
      · exact hx x hm
theorem foundE_mem {l : List S32} {b : S27} {m : List Int} (h : foundE l b = (m, true)) : ∃ x ∈ l, x.f0 = b ∧ x.f1 = m := by
  induction l with
  | nil => simp [foundE, findE] at h
  | cons a l ih =>
    rw [foundE_cons] at h
    by_cases hc : eqL a.f0 b = true
    · rw [if_pos hc] at h
      exact ⟨a, List.mem_cons_self .., eqL_iff.1 hc, congrArg Prod.fst h⟩
    · rw [if_neg hc] at h
      obtain ⟨x, hx, h1, h2⟩ := ih h
      exact ⟨x, List.mem_cons_of_mem _ hx, h1, h2⟩
theorem mem_aheadE {x y : S32} {l : List S32} : y ∈ aheadE x l ↔ y = x ∨ y ∈ l := by
  induction l with
  | nil => simp [aheadE]
  | cons a l ih =>
    unfold aheadE
    split
    · simp
    · simp only [List.mem_cons, ih]
      constructor
      · rintro (h | h | h)
        · exact .inr (.inl h)
        · exact .inl h
        · exact .inr (.inr h)
      · rintro (h | h | h)
        · exact .inr (.inl h)
        · exact .inl h
        · exact .inr (.inr h)
theorem aheadE_rise {x : S32} {l : List S32} (h : Rise l) (hx : ∀ y ∈ l, y.f0 ≠ x.f0) : Rise (aheadE x l) := by
  induction l with
  | nil => exact List.pairwise_singleton _ _
  | cons a l ih =>
    obtain ⟨h1, h2⟩ := List.pairwise_cons.1 h
    unfold aheadE
    split
    · rename_i hc
      rw [cmpL_neg] at hc
      refine List.pairwise_cons.2 ⟨fun y hy => ?_, h⟩
      rcases List.mem_cons.1 hy with rfl | hy
      · exact hc
      · exact ltL_trans hc (h1 y hy)
    · rename_i hc
      rw [cmpL_neg] at hc
      refine List.pairwise_cons.2 ⟨fun y hy => ?_, ih h2 fun y hy => hx y (List.mem_cons_of_mem _ hy)⟩
      rcases mem_aheadE.1 hy with rfl | hy
      · rcases ltL_total a.f0 y.f0 with h | h | h
        · exact h
        · exact absurd h (hx a (List.mem_cons_self ..))
        · exact absurd h hc
      · exact h1 y hy
theorem putR_rise {x : S32} {l : List S32} (h : Rise l) : Rise (putR l x) := by
  unfold putR
  split
  · exact h
  · rename_i hc
    exact aheadE_rise h (foundE_false.1 (by simpa using hc))
theorem mem_putR {x y : S32} {l : List S32} (h : y ∈ putR l x) : y = x ∨ y ∈ l := by
  unfold putR at h
  split at h
  · exact .inr h
  · exact mem_aheadE.1 h
theorem mergeR_rise : ∀ {more l : List S32}, Rise l → Rise (mergeR l more)
  | [], l, h => h
  | x :: more, l, h => mergeR_rise (more := more) (putR_rise h)
theorem mergeR_length : ∀ (more l : List S32), (mergeR l more).length ≤ l.length + more.length
  | [], l => by simp [mergeR]
  | x :: more, l => by
    have h1 := mergeR_length more (putR l x)
    have h2 := putR_length l x
    show (mergeR (putR l x) more).length ≤ _
    simp only [List.length_cons]
    omega
theorem mem_mergeR : ∀ {more l : List S32} {y : S32}, y ∈ mergeR l more → y ∈ l ∨ y ∈ more
  | [], l, y, h => .inl h
  | x :: more, l, y, h => by
    rcases mem_mergeR (more := more) (l := putR l x) h with h | h
    · rcases mem_putR h with rfl | h
      · exact .inr (List.mem_cons_self ..)
      · exact .inl h
    · exact .inr (List.mem_cons_of_mem _ h)
theorem rise_nil : Rise [] := List.Pairwise.nil
theorem rightB_len {b : List Int} (h : rightB b) : b.length < 140737488355328 := by
  have h1 := h.1
  have h2 := reachBytes_lt
  have e : (2 : Nat) ^ 47 = 140737488355328 := by decide
  rw [e] at h2
  omega
theorem rightEs_len {l : List S32} (h : rightEs l) : l.length < 2513169434917 := by
  have h1 := h.1
  have h2 := reachBytes_lt
  have e : (2 : Nat) ^ 47 = 140737488355328 := by decide
  rw [e] at h2
  omega
end Go.Proofs.Ytioooiflpabngaa.PAll
end
section
namespace Go.Proofs.Ytioooiflpabngaa.PAll
open Go.RowKit Go.Proofs.YtioooiflpabngaaW.PrintWords Go.Proofs.YtioooiflpabngaaW.PrintLast Go.Proofs.YtioooiflpabngaaW.PrintMore
set_option linter.unusedVariables false
set_option linter.unusedSimpArgs false
theorem run_copy_rowS {P : Program} (w : World) (dT sT ty elem : TypeId) (sz g o dLen dCap : Nat) (a : Addr) (sLen sCap : Nat) (cur : Array Value) (t : TypeId) (cs : List Value)
    (hu : P.underlying dT = some (.slice elem)) (hs : (P.info? elem).map (·.size) = some sz)
    (hg : w.heap[g]? = some (.cells cur t (0, 0))) (hn : cs.length = Nat.min sLen dLen * sz)
    (hsrc : ∀ j v, cs[j]? = some v → w.cell? (a.add j) = some v) (hfit : o + cs.length ≤ cur.size) (h1 : ∀ v ∈ cs, v.oneCell' = true) :
    (Builtin.copy_ #[dT, sT] ty #[.slice (some ⟨g, o, none⟩) dLen dCap, .slice (some a) sLen sCap]).run P w =
      .ok (goInt (Nat.min sLen dLen)) (w.setRow g (cur.toList.take o ++ cs ++ cur.toList.drop (o + cs.length)).toArray) := by
  have hl := run_loadCells_list (P := P) w a cs hsrc
  have hst := run_storeCells_at P g o t cs 0 cur w hg (by simpa using hfit) h1
  cases hq : P.info? elem with
  | none => simp [hq] at hs
  | some i =>
    have hi : i.size = sz := by simpa [hq] using hs
    rw [hn] at hl
    simp [Builtin.copy_, run_underlying hu, Builtin.lenOf, Builtin.firstCells, sizeOf, typeInfo, hq, hi, hl, hst]
theorem step_copyS {P : Program} {w : World} {ops : Array Oper} {o : Oper} {a : Act} {K : Act → World → Prop} {Q : Exit → Act → World → Prop} {E : Prop} (hgd : o.guard = none) (d s : Operand) (dT sT : TypeId)
    (ho : o.op = .call { callee := .builtin .copy, args := #[d, s], argTypes := #[dT, sT] }) (elem : TypeId) (sz : Nat) (hu : P.underlying dT = some (.slice elem)) (hsz : (P.info? elem).map (·.size) = some sz)
    (g off dLen dCap : Nat) (ad : Addr) (sLen sCap : Nat) (hd : a.eval d = .slice (some ⟨g, off, none⟩) dLen dCap) (hs : a.eval s = .slice (some ad) sLen sCap)
    (cur : Array Value) (t : TypeId) (cs : List Value) (hg : w.heap[g]? = some (.cells cur t (0, 0))) (hn : cs.length = Nat.min sLen dLen * sz)
    (hsrc : ∀ j v, cs[j]? = some v → w.cell? (ad.add j) = some v) (hfit : off + cs.length ≤ cur.size) (h1 : ∀ v ∈ cs, v.oneCell' = true)
    (h : ∀ w', Aside0 (w'.heap[g]? = some (.cells (splice cur.toList off cs).toArray t (0, 0))) → Aside0 (w.grownBy w' (some g)) → K (a.put o.dst (goInt (Nat.min sLen dLen))) w') :
    if Region.wanted o (yielded ops a.tmps) = true then Oper.wp P o a w K Q else E := by
  have hw : Region.wanted o (yielded ops a.tmps) = true := by simp [Region.wanted, hgd]
  rw [if_pos hw]
  have hrun := run_copy_rowS (P := P) w dT sT o.type elem sz g off dLen dCap ad sLen sCap cur t cs hu hsz hg hn hsrc hfit h1
  unfold Oper.wp
  simp [execOp, ho, resolve, invoke, builtin, hd, hs, hrun, Result.andThen]
  refine h _ ⟨?_⟩ ⟨?_⟩
  · rw [setRow_heap w g cur _ t _ hg, splice]
  · exact ⟨rfl, rfl, rfl, by simp [World.setRow], fun k hk hne => setRow_other w g k _ (fun e => hne (by rw [e]))⟩
theorem row_cells {w : World} {g : Nat} {cur : Array Value} {t : TypeId} (hh : w.heap[g]? = some (.cells cur t (0, 0))) {m o j : Nat} {v : Value} (h : ((cur.toList.take m).drop o)[j]? = some v) : w.cell? ((⟨g, o, none⟩ : Addr).add j) = some v := by
  rw [Addr.add_lit]
  rw [List.getElem?_drop, List.getElem?_take] at h
  split at h
  · simp only [World.cell?, hh]
    simpa using h
  · cases h
theorem vec_cells {w : World} {g : Nat} {vs : List Value} {t : TypeId} (hh : w.heap[g]? = some (.cells vs.toArray t (0, 0))) {j : Nat} {v : Value} (h : vs[j]? = some v) : w.cell? ((⟨g, 0, none⟩ : Addr).add j) = some v := by
  rw [Addr.add_lit, Nat.zero_add]
  simp only [World.cell?, hh]
  simpa using h
theorem splice_two (cur vs : List Value) (i n : Nat) (hi : i < n) (hl : (n + 1) * 5 ≤ cur.length) (hv : vs.length = 5) :
    (splice (splice cur ((i + 1) * 5) ((cur.take (n * 5)).drop (i * 5))) (i * 5) vs).take ((n + 1) * 5) = (cur.take (n * 5)).take (i * 5) ++ vs ++ (cur.take (n * 5)).drop (i * 5) := by
  have hcs : ((cur.take (n * 5)).drop (i * 5)).length = (n - i) * 5 := by simp; omega
  generalize hC : (cur.take (n * 5)).drop (i * 5) = C at hcs ⊢
  unfold splice
  have e1 : (List.take ((i + 1) * 5) cur ++ (C ++ List.drop ((i + 1) * 5 + C.length) cur)).take (i * 5) = cur.take (i * 5) := by
    rw [List.take_append_of_le_length (by simp; omega), List.take_take, Nat.min_eq_left (by omega)]
  have e2 : (List.take ((i + 1) * 5) cur ++ (C ++ List.drop ((i + 1) * 5 + C.length) cur)).drop (i * 5 + vs.length) = C ++ List.drop ((i + 1) * 5 + C.length) cur := by
    rw [hv, show i * 5 + 5 = (List.take ((i + 1) * 5) cur).length by simp; omega, List.drop_left]
  rw [e1, e2, List.take_take, Nat.min_eq_left (by omega)]
  rw [show (n + 1) * 5 = (cur.take (i * 5) ++ (vs ++ C)).length by simp [hv, hcs]; omega]
  rw [show cur.take (i * 5) ++ (vs ++ (C ++ List.drop ((i + 1) * 5 + C.length) cur)) = (cur.take (i * 5) ++ (vs ++ C)) ++ List.drop ((i + 1) * 5 + C.length) cur by simp, List.take_left]
  simp
theorem splice_new (ROW vs C X : List Value) (i n : Nat) (hi : i < n) (hR : (n + 1) * 5 ≤ ROW.length) (hv : vs.length = 5) (hC : C.length = (n - i) * 5) (hT : ROW.take (i * 5) = X) : (splice (splice ROW (i * 5) vs) ((i + 1) * 5) C).take ((n + 1) * 5) = X ++ vs ++ C := by
  subst hT
  unfold splice
  have e1 : (ROW.take (i * 5) ++ (vs ++ ROW.drop (i * 5 + vs.length))).take ((i + 1) * 5) = ROW.take (i * 5) ++ vs := by
    rw [← List.append_assoc, List.take_left']
    simp [hv]; omega
  rw [e1, ← List.append_assoc, List.take_left']
  simp [hv, hC]; omega
def zeroE : Value := .agg #[(.int .u64 0), (.int .i64 0), (.int .u64 0), (.int .i64 0), (.slice none 0 0)]
theorem infoE : ∃ i0 : TypeInfo, Try.prog.info? 32 = some i0 ∧ i0.zero = some zeroE ∧ i0.size = 5 ∧ i0.bytes = 56 := by
  obtain ⟨i0, hi, h⟩ := Option.map_eq_some_iff.1 info32
  injection h with h1 h2
  injection h2 with h2 h3
  exact ⟨i0, hi, h1, h2, h3⟩
theorem sizeE : (Try.prog.info? 32).map (·.size) = some 5 := by
  obtain ⟨i0, h, _, h2, _⟩ := infoE
  rw [h]; simp [h2]
set_option maxHeartbeats 8000000 in
set_option maxRecDepth 100000 in
theorem insert_end (v : Value) (n vb : Nat) (xs vs : List Value) (base : Nat) (w : World) (hown : w.ownsRow base 32 5 v n xs) (hbase : base ≤ w.heap.size) (hv : ∀ j u, vs[j]? = some u → w.cell? ⟨vb, j, none⟩ = some u) (hvl : vs.length = 5)
    (h1 : ∀ u ∈ vs, u.oneCell' = true) (hn : n + 1 < 2513169434916) :
    Calls Try.prog 74 #[v, .int .i64 n, .slice (some ⟨vb, 0, none⟩) 1 1] w fun e w' => ∃ v', e = .returned v' ∧ w'.ownsRow base 32 5 v' (n + 1) (xs ++ vs) ∧ Below base w w' ∧ ∀ k, k < w.heap.size → some k ≠ v.ownBlock → w'.heap[k]? = w.heap[k]? := by
  have HN := Aside0.mk hn
  clear hn
  have HV := Aside0.mk hv
  clear hv
  have H1 := Aside0.mk h1
  clear h1
  have HB := Aside0.mk hbase
  clear hbase
  obtain ⟨i0, hI⟩ := infoE
  have HI := Aside0.mk hI
  clear hI
  rcases hown.2 with ⟨rfl, rfl⟩ | ⟨g, cap, cur, rfl, hg, hh, hnc, hcm, hcs, htk⟩
  · have HO := Aside0.mk hown
    clear hown
    go_enter Try.func74, Try.ntmps74
    go_wp2_with (at_builtin; refine wpList_append_own _ rfl _ _ 22 rfl base 32 i0 zeroE 5 56 Try.underlying22 HI.out.1 HI.out.2.1 HI.out.2.2.1 HI.out.2.2.2 rfl (by decide) _ _ _ rfl HO.out ⟨vb, 0, none⟩ 1 1 vs rfl hvl ?qc2 H1.out ?qc4 ?qc5 HB.out ?_; (case qc2 => exact fun j u hj => by rw [Addr.add_lit, Nat.zero_add]; exact HV.out j u hj); (case qc4 => have := HN.out; simp [maxLen]); (case qc5 => have := HN.out; omega); intro v' w1 hown hgrow hnil; have HOW := Aside0.mk hown; have HGR := Aside0.mk hgrow; clear hown hgrow hnil)
    all_goals (go_ret; exact ⟨_, rfl, by simpa using HOW.out, (Below.refl _ w).grown HGR.out HB.out (by intro k hk; cases hk), HGR.out.block⟩)
  · have HO := Aside0.mk hown
    clear hown hh hcs htk
    have hcl : 0 ≤ (n : Int) := by omega
    have hncI : (n : Int) ≤ (cap : Int) := by omega
    go_enter Try.func74, Try.ntmps74
    go_wp2_with (at_builtin; refine wpList_append_own _ rfl _ _ 22 rfl base 32 i0 zeroE 5 56 Try.underlying22 HI.out.1 HI.out.2.1 HI.out.2.2.1 HI.out.2.2.2 rfl (by decide) _ _ _ rfl HO.out ⟨vb, 0, none⟩ 1 1 vs rfl hvl ?qc2 H1.out ?qc4 ?qc5 HB.out ?_; (case qc2 => exact fun j u hj => by rw [Addr.add_lit, Nat.zero_add]; exact HV.out j u hj); (case qc4 => have := HN.out; simp [maxLen]; omega); (case qc5 => have := HN.out; omega); intro v' w1 hown hgrow hnil; have HOW := Aside0.mk hown; have HGR := Aside0.mk hgrow; clear hown hgrow hnil)
    all_goals (go_ret; exact ⟨_, rfl, by simpa using HOW.out, (Below.refl _ w).grown HGR.out HB.out (by intro k hk; have hk2 : some g = some k := hk; injection hk2 with hk2; omega), HGR.out.block⟩)
set_option maxHeartbeats 1000000 in
set_option maxRecDepth 100000 in
theorem insert_shift (n i cap g vb : Nat) (cur : Array Value) (vs : List Value) (w : World) (hi : i < n) (hroom : n + 1 ≤ cap) (hcm : cap ≤ maxLen) (hh : w.heap[g]? = some (.cells cur 32 (0, 0))) (hcs : cur.size = cap * 5)
    (hv : w.heap[vb]? = some (.cells vs.toArray 32 (0, 0))) (hne : vb ≠ g) (hvl : vs.length = 5) (h1 : ∀ u ∈ vs, u.oneCell' = true) (h1c : ∀ u ∈ cur.toList.take (n * 5), u.oneCell' = true) (hn : n + 1 < 2513169434916) :
    Calls Try.prog 74 #[.slice (some ⟨g, 0, none⟩) n cap, .int .i64 i, .slice (some ⟨vb, 0, none⟩) 1 1] w fun e w' => e = .returned (.slice (some ⟨g, 0, none⟩) (n + 1) cap) ∧
      ∃ cur' : Array Value, w'.heap[g]? = some (.cells cur' 32 (0, 0)) ∧ cur'.size = cur.size ∧ cur'.toList.take ((n + 1) * 5) = (cur.toList.take (n * 5)).take (i * 5) ++ vs ++ (cur.toList.take (n * 5)).drop (i * 5) ∧ w.grownBy w' (some g) := by
  have hov : ∀ (W : World) lb cb, W.heap = w.heap → (callFunc 111 #[.slice (some ⟨vb, 0, none⟩) 1 1, .slice (some ⟨g, (i + 1) * 5, none⟩) lb cb]).run Try.prog W = .ok (.value (.bool false)) W := by
    intro W lb cb hW
    rw [run_callFunc_extern Try.func111 (by kernel_rfl) (by kernel_rfl) (by kernel_rfl) (e := Extern.SlicesOverlaps.overlaps #[22, 22] #[4]) (by kernel_rfl),
      Lib.run_overlaps_apart W 22 4 32 Try.underlying22 5 Try.sizeOf32 ⟨vb, 0, none⟩ ⟨g, (i + 1) * 5, none⟩ 1 1 lb cb hne 32 32 vs.length cur.size (by simp [World.shape?, hW, hv]) (by simp [World.shape?, hW, hh]) (by rw [hcs]; omega) (by simp [World.frozen?, hW, hv]) (by simp [World.frozen?, hW, hv])]
    rfl
  have mixed : Try.prog.follows Departure.mixedOrders = true := by kernel_rfl
  have hovI := fun lb cb => hov w lb cb rfl
  have hw1 : IntKind.i64.wrap ((i : Int) + 1) = (i : Int) + 1 := by rw [IntKind.wrap_i64]; omega
  have hw2 : IntKind.i64.wrap ((n : Int) + 1) = (n : Int) + 1 := by rw [IntKind.wrap_i64]; omega
  have hb1 : (0 : Int) ≤ (i : Int) + 1 := by omega
  have htn : ((i : Int) + 1).toNat = i + 1 := by omega
  have htn2 : ((n : Int) + 1).toNat = n + 1 := by omega
  have hb0 : (0 : Int) ≤ (n : Int) + 1 := by omega
  have hb2 : ¬ (cap = i + 1) := by omega
  have hb3 : (i : Int) ≤ (n : Int) + 1 := by omega
  have hb4 : ¬ (cap = i) := by omega
  have hb5 : ¬ ((i : Int) = (n : Int)) := by omega
  have hb6 : ¬ ((cap : Int) < (n : Int) + 1) := by omega
  have hb7 : (n : Int) + 1 ≤ (cap : Int) := by omega
  have hb8 : (i : Int) ≤ (n : Int) := by omega
  have hb9 : (i : Int) + 1 ≤ (n : Int) + 1 := by omega
  have hb10 : i ≤ n := by omega
  have HH := Aside0.mk hh
  have HV := Aside0.mk hv
  have H1 := Aside0.mk h1
  have H1C := Aside0.mk h1c
  have HI := Aside0.mk hi
  have HR := Aside0.mk hroom
  have HCS := Aside0.mk hcs
  clear hh hv h1 h1c hcs hov
  go_enter Try.func74, Try.ntmps74
  go_wp2_with (simp only [hovI])
  have hcl : ((cur.toList.take (n * 5)).drop (i * 5)).length = (n - i) * 5 := by rw [List.length_drop, List.length_take, Array.length_toList, HCS.out]; omega
  have HCL := Aside0.mk hcl
  clear hcl
  go_region_law_o (refine step_copyS rfl _ _ 22 22 rfl 32 5 Try.underlying22 sizeE g ((i + 1) * 5) (n + 1 - (i + 1)) (cap - (i + 1)) ⟨g, i * 5, none⟩ (n + 1 - i) (cap - i) (by simp [Act.eval, Act.put]) (by simp [Act.eval, Act.put]) cur 32 ((cur.toList.take (n * 5)).drop (i * 5)) HH.out ?hn ?hsrc ?hfit ?h1 ?_; (case hn => rw [HCL.out, show n + 1 - (i + 1) = n - i by omega, show Nat.min (n + 1 - i) (n - i) = n - i from Nat.min_eq_right (by omega)]); (case hsrc => exact fun j v hj => row_cells (w := w.drew) HH.out hj); (case hfit => rw [HCL.out, HCS.out]; omega); (case h1 => exact fun v hv => H1C.out v (List.mem_of_mem_drop hv)); intro w1 HG1 HB1)
  have hL1 : (splice cur.toList ((i + 1) * 5) ((cur.toList.take (n * 5)).drop (i * 5))).length = cap * 5 := by rw [length_splice _ _ _ (by rw [HCL.out, Array.length_toList, HCS.out]; omega), Array.length_toList, HCS.out]
  have HL1 := Aside0.mk hL1
  clear hL1
  obtain ⟨w2, hcp2, HG2, HB2⟩ : ∃ w2, (Builtin.copy_ #[22, 22] 3 #[.slice (some ⟨g, i * 5, none⟩) (n + 1 - i) (cap - i), .slice (some ⟨vb, 0, none⟩) 1 1]).run Try.prog w1 = .ok (goInt 1) w2 ∧
      Aside0 (w2.heap[g]? = some (.cells (splice (splice cur.toList ((i + 1) * 5) ((cur.toList.take (n * 5)).drop (i * 5))) (i * 5) vs).toArray 32 (0, 0))) ∧ Aside0 (w1.grownBy w2 (some g)) := by
    have hr := run_copy_rowS (P := Try.prog) w1 22 22 3 32 5 g (i * 5) (n + 1 - i) (cap - i) ⟨vb, 0, none⟩ 1 1 _ 32 vs Try.underlying22 sizeE HG1.out (by rw [hvl, show Nat.min 1 (n + 1 - i) = 1 from Nat.min_eq_left (by omega)])
      (fun j v hj => vec_cells ((HB1.out.block vb (by have := blk_lt HV.out; exact this) (fun e => hne (Option.some.inj e))).trans HV.out) hj) (by rw [List.size_toArray, HL1.out, hvl]; omega) H1.out
    rw [show Nat.min 1 (n + 1 - i) = 1 from Nat.min_eq_left (by omega)] at hr
    refine ⟨_, hr, ⟨?_⟩, ⟨rfl, rfl, rfl, by simp [World.setRow], fun k hk hne => setRow_other w1 g k _ (fun e => hne (by rw [e]))⟩⟩
    rw [setRow_heap w1 g _ _ 32 _ HG1.out]
    simp [splice]
  go_wp2
  go_ret
  refine ⟨rfl, _, HG2.out, ?_, ?_, ?_⟩
  · rw [List.size_toArray, length_splice _ _ _ (by rw [HL1.out, hvl]; omega), HL1.out, HCS.out]
  · exact splice_two _ _ _ _ HI.out (by rw [Array.length_toList, HCS.out]; have := HR.out; omega) hvl
  · exact ⟨HB2.out.os.trans HB1.out.os, HB2.out.tape.trans HB1.out.tape, HB2.out.output.trans HB1.out.output, Nat.le_trans HB1.out.size HB2.out.size, fun k hk hn => (HB2.out.block k (Nat.lt_of_lt_of_le hk HB1.out.size) hn).trans (HB1.out.block k hk hn)⟩
set_option maxHeartbeats 1000000 in
set_option maxRecDepth 100000 in
theorem insert_grow (n i cap g vb : Nat) (cur : Array Value) (vs : List Value) (w : World) (hi : i < n) (hroom : ¬ n + 1 ≤ cap) (hnc : n ≤ cap) (hh : w.heap[g]? = some (.cells cur 32 (0, 0))) (hcs : cur.size = cap * 5)
    (hv : w.heap[vb]? = some (.cells vs.toArray 32 (0, 0))) (hvl : vs.length = 5) (h1 : ∀ u ∈ vs, u.oneCell' = true) (h1c : ∀ u ∈ cur.toList.take (n * 5), u.oneCell' = true) (hn : n + 1 < 2513169434916) :
    Calls Try.prog 74 #[.slice (some ⟨g, 0, none⟩) n cap, .int .i64 i, .slice (some ⟨vb, 0, none⟩) 1 1] w fun e w' => ∃ v', e = .returned v' ∧
      w'.ownsRow w.heap.size 32 5 v' (n + 1) ((cur.toList.take (n * 5)).take (i * 5) ++ vs ++ (cur.toList.take (n * 5)).drop (i * 5)) ∧ Below w.heap.size w w' := by
  obtain rfl : cap = n := by omega
  have mixed : Try.prog.follows Departure.mixedOrders = true := by kernel_rfl
  obtain ⟨i0, hi0, hz0, hs0, hb0⟩ := infoE
  have hrz : ∃ G ROW, cap + 1 ≤ G ∧ G ≤ maxLen ∧ ROW.size = G * 5 ∧ (ROW.toList.take (i * 5) = cur.toList.take (i * 5)) ∧ ∀ ty, (Builtin.append_ #[22, 3] ty #[.slice (some ⟨g, 0, none⟩) i cap, .int .i64 ((cap : Int) + 1 - (i : Int))]).run Try.prog w =
      .ok (.slice (some ⟨w.heap.size, 0, none⟩) (cap + 1) G) (w.drew.alloc (.cells ROW 32)) := by
    have hik : i + (cap + 1 - i) = cap + 1 := by omega
    have hkk : (cap : Int) + 1 - (i : Int) = ((cap + 1 - i : Nat) : Int) := by omega
    have holdl : (cur.toList.take (i * 5)).length = i * 5 := by rw [List.length_take, Array.length_toList, hcs]; omega
    have hold : (Builtin.firstCells i0.size i (.slice (some ⟨g, 0, none⟩) i cap)).run Try.prog w.drew = .ok (cur.toList.take (i * 5)).toArray w.drew := by
      rw [hs0]
      exact run_firstCells_some w.drew 5 i ⟨g, 0, none⟩ i cap (cur.toList.take (i * 5)) holdl (fun j v hj => row_cells (w := w.drew) (m := i * 5) (o := 0) hh (by simpa using hj))
    have hG1 : cap + 1 ≤ grownCap w (cap + 1) cap 32 := grownCap_ge w _ _ _
    have hG2 : grownCap w (cap + 1) cap 32 ≤ maxLen := grownCap_le_maxLen w _ _ _ (by unfold maxLen; omega)
    refine ⟨grownCap w (cap + 1) cap 32, (cur.toList.take (i * 5)).toArray ++ Builtin.zeroCells zeroE.cells (cap + 1 - i) ++ Builtin.zeroCells zeroE.cells (grownCap w (cap + 1) cap 32 - (cap + 1)), hG1, hG2, ?_, ?_, fun ty => ?_⟩
    · simp only [Array.size_append, List.size_toArray, holdl]
      simp [Builtin.zeroCells, zeroE, Value.cells]
      omega
    · rw [Array.toList_append, Array.toList_append, List.append_assoc]
      exact List.take_left' (by simpa using holdl)
    · have h := Lib.run_append_grow_zeros (P := Try.prog) w 22 3 ty 32 i0 zeroE .i64 .i64 Try.underlying22 Try.underlying3 hi0 hz0 (some ⟨g, 0, none⟩) i cap (cur.toList.take (i * 5)) hold (cap + 1 - i) (by omega) (by omega) (by omega) (by omega) (by rw [hb0]; omega) (by rw [hb0, hik]; exact growslice_fits (by omega) (by omega))
      rw [hik] at h
      rw [hkk]
      exact h
  obtain ⟨G, ROW, hG1, hG2, hRs, hRt, hrz⟩ := hrz
  have hgN : g < w.heap.size := blk_lt hh
  have hvN : vb < w.heap.size := blk_lt hv
  obtain ⟨W1, HW1, HWN, HWB⟩ : ∃ W1, W1 = w.drew.alloc (.cells ROW 32) ∧ Aside0 (W1.heap[w.heap.size]? = some (.cells ROW 32 (0, 0))) ∧ Aside0 (Below w.heap.size w W1) := ⟨_, rfl, ⟨blk_new w.drew _⟩, ⟨(Below.refl _ w).drew.alloc (Nat.le_refl _) _⟩⟩
  rw [← HW1] at hrz
  clear HW1
  obtain ⟨N, hN⟩ : ∃ N, N = w.heap.size := ⟨_, rfl⟩
  rw [← hN] at hrz HWN HWB hgN hvN ⊢
  obtain ⟨W2, hcpA, HA2, HB2⟩ : ∃ W2, (Builtin.copy_ #[22, 22] 3 #[.slice (some ⟨N, i * 5, none⟩) (cap + 1 - i) (G - i), .slice (some ⟨vb, 0, none⟩) 1 1]).run Try.prog W1 = .ok (goInt 1) W2 ∧
      Aside0 (W2.heap[N]? = some (.cells (splice ROW.toList (i * 5) vs).toArray 32 (0, 0))) ∧ Aside0 (W1.grownBy W2 (some N)) := by
    have hr := run_copy_rowS (P := Try.prog) W1 22 22 3 32 5 N (i * 5) (cap + 1 - i) (G - i) ⟨vb, 0, none⟩ 1 1 _ 32 vs Try.underlying22 sizeE HWN.out (by rw [hvl, show Nat.min 1 (cap + 1 - i) = 1 from Nat.min_eq_left (by omega)])
      (fun j v hj => vec_cells ((HWB.out.block vb hvN).trans hv) hj) (by rw [hRs, hvl]; omega) h1
    rw [show Nat.min 1 (cap + 1 - i) = 1 from Nat.min_eq_left (by omega)] at hr
    refine ⟨_, hr, ⟨?_⟩, ⟨rfl, rfl, rfl, by simp [World.setRow], fun k hk hne => setRow_other W1 N k _ (fun e => hne (by rw [e]))⟩⟩
    rw [setRow_heap W1 N _ _ 32 _ HWN.out]
    simp [splice]
  have hL1 : (splice ROW.toList (i * 5) vs).length = G * 5 := by rw [length_splice _ _ _ (by rw [hvl, Array.length_toList, hRs]; omega), Array.length_toList, hRs]
  have hcl : ((cur.toList.take (cap * 5)).drop (i * 5)).length = (cap - i) * 5 := by rw [List.length_drop, List.length_take, Array.length_toList, hcs]; omega
  have HCL := Aside0.mk hcl
  have HL1 := Aside0.mk hL1
  have HH := Aside0.mk hh
  have HV := Aside0.mk hv
  have H1 := Aside0.mk h1
  have H1C := Aside0.mk h1c
  have HCS := Aside0.mk hcs
  have HRS := Aside0.mk hRs
  have HRT := Aside0.mk hRt
  have HNN := Aside0.mk hN
  have HG2 := Aside0.mk hG2
  clear hcl hL1 hh hv h1 h1c hcs hRs hRt hN hi0 hz0 hs0 hb0 hG2
  have hw1 : IntKind.i64.wrap ((i : Int) + 1) = (i : Int) + 1 := by rw [IntKind.wrap_i64]; omega
  have hw2 : IntKind.i64.wrap ((cap : Int) + 1) = (cap : Int) + 1 := by rw [IntKind.wrap_i64]; omega
  have hw3 : IntKind.i64.wrap ((cap : Int) + 1 - (i : Int)) = (cap : Int) + 1 - (i : Int) := by rw [IntKind.wrap_i64]; omega
  have hb1 : (0 : Int) ≤ (i : Int) + 1 := by omega
  have htn : ((i : Int) + 1).toNat = i + 1 := by omega
  have hb2 : ¬ (G = i + 1) := by omega
  have hb4 : ¬ (G = i) := by omega
  have hb5 : ¬ ((i : Int) = (cap : Int)) := by omega
  have hb6 : ((cap : Int) < (cap : Int) + 1) := by omega
  have hb8 : (i : Int) ≤ (cap : Int) := by omega
  have hb9 : (i : Int) + 1 ≤ (cap : Int) + 1 := by omega
  have hb10 : i ≤ cap := by omega
  have hb11 : ¬ (cap = i) := by omega
  have hb12 : (i : Int) ≤ (cap : Int) + 1 := by omega
  go_enter Try.func74, Try.ntmps74
  go_wp2_with (at_builtin; refine Lib.wpList_append_run _ rfl _ _ _ _ rfl _ _ rfl rfl _ _ (hrz _) ?_)
  go_region_law_o (refine step_copyS rfl _ _ 22 22 rfl 32 5 Try.underlying22 sizeE N ((i + 1) * 5) (cap + 1 - (i + 1)) (G - (i + 1)) ⟨g, i * 5, none⟩ (cap - i) (cap - i) (by simp [Act.eval, Act.put]) (by simp [Act.eval, Act.put]) (splice ROW.toList (i * 5) vs).toArray 32 ((cur.toList.take (cap * 5)).drop (i * 5)) HA2.out ?hn ?hsrc ?hfit ?h1 ?_; (case hn => rw [HCL.out, show cap + 1 - (i + 1) = cap - i by omega, show Nat.min (cap - i) (cap - i) = cap - i from Nat.min_self _]); (case hsrc => exact fun j v hj => row_cells (w := W2.drew) (((HB2.out.block g (Nat.lt_of_lt_of_le hgN (by rw [HNN.out]; exact HWB.out.size)) (fun e => by have := Option.some.inj e; omega)).trans (HWB.out.block g hgN)).trans HH.out) hj); (case hfit => rw [HCL.out, List.size_toArray, HL1.out]; omega); (case h1 => exact fun v hv => H1C.out v (List.mem_of_mem_drop hv)); intro w3 HG3 HB3)
  go_wp2
  go_ret
  have hB1 : Below N w W2 := HWB.out.grown HB2.out (by have := HWB.out.size; rw [← HNN.out] at this; exact this) (fun k hk => by injection hk with hk; omega)
  refine ⟨_, rfl, ⟨?_, .inr ⟨N, G, _, rfl, Nat.le_refl _, HG3.out, hG1, HG2.out, ?_, ?_⟩⟩, ?_⟩
  · simp only [List.length_append, HCL.out, hvl, List.length_take, Array.length_toList, HCS.out]; omega
  · rw [List.size_toArray, length_splice _ _ _ (by rw [HL1.out, HCL.out]; omega), HL1.out]
  · have ht : ROW.toList.take (i * 5) = (cur.toList.take (cap * 5)).take (i * 5) := by rw [HRT.out, List.take_take, Nat.min_eq_left (by omega)]
    rw [List.toList_toArray]
    rw [← List.append_assoc]
    exact splice_new _ _ _ _ i cap hi (by rw [Array.length_toList, HRS.out]; omega) hvl HCL.out ht
  · exact (hB1.drew).grown HB3.out (by have := hB1.size; rw [← HNN.out] at this; exact this) (fun k hk => by injection hk with hk; omega)
theorem insert_one (v : Value) (n i vb : Nat) (xs vs : List Value) (base : Nat) (w : World) (hi : i ≤ n) (hown : w.ownsRow base 32 5 v n xs) (hbase : base ≤ w.heap.size) (hv : w.heap[vb]? = some (.cells vs.toArray 32 (0, 0))) (hvl : vs.length = 5)
    (hne : v.ownBlock ≠ some vb) (h1 : ∀ u ∈ vs, u.oneCell' = true) (h1c : ∀ u ∈ xs, u.oneCell' = true) (hn : n + 1 < 2513169434916) :
    Calls Try.prog 74 #[v, .int .i64 i, .slice (some ⟨vb, 0, none⟩) 1 1] w fun e w' => ∃ v', e = .returned v' ∧ w'.ownsRow base 32 5 v' (n + 1) (xs.take (i * 5) ++ vs ++ xs.drop (i * 5)) ∧ Below base w w' ∧ ∀ k, k < w.heap.size → some k ≠ v.ownBlock → w'.heap[k]? = w.heap[k]? := by
  rcases Nat.lt_or_ge i n with hlt | hge
  · rcases hown.2 with ⟨_, rfl⟩ | ⟨g, cap, cur, rfl, hg, hh, hnc, hcm, hcs, htk⟩
    · omega
    · have hxl := hown.1
      subst htk
      by_cases hr : n + 1 ≤ cap
      · refine (insert_shift n i cap g vb cur vs w hlt hr hcm hh hcs hv (fun e => hne (by rw [e]; rfl)) hvl h1 h1c hn).mono ?_
        rintro e w' ⟨rfl, cur', hh', hs', ht', hb'⟩
        refine ⟨_, rfl, ⟨?_, .inr ⟨g, cap, cur', rfl, hg, hh', hr, hcm, by rw [hs', hcs], ht'⟩⟩, (Below.refl _ w).grown hb' hbase (fun k hk => by injection hk with hk; omega), hb'.block⟩
        rw [List.length_append, List.length_append, List.length_take, List.length_drop, hxl, hvl]; omega
      · refine (insert_grow n i cap g vb cur vs w hlt hr hnc hh hcs hv hvl h1 h1c hn).mono ?_
        rintro e w' ⟨v', rfl, hown', hb'⟩
        refine ⟨v', rfl, ⟨hown'.1, ?_⟩, hb'.mono hbase, fun k hk _ => hb'.block k hk⟩
        rcases hown'.2 with h0 | ⟨g', cap', cur', e', hg', r⟩
        · exact .inl h0
        · exact .inr ⟨g', cap', cur', e', Nat.le_trans hbase hg', r⟩
  · obtain rfl : i = n := by omega
    have hxl := hown.1
    rw [show xs.take (i * 5) = xs from List.take_of_length_le (by omega), show xs.drop (i * 5) = [] from List.drop_of_length_le (by omega), List.append_nil]
    exact insert_end v i vb xs vs base w hown hbase (fun j u hj => by have h := vec_cells hv hj; rwa [Addr.add_lit, Nat.zero_add] at h) hvl h1 hn
end Go.Proofs.Ytioooiflpabngaa.PAll
end
section
namespace Go.Proofs.Ytioooiflpabngaa.PAll
open Go.RowKit Go.Proofs.YtioooiflpabngaaW.PrintWords Go.Proofs.YtioooiflpabngaaW.PrintLast Go.Proofs.YtioooiflpabngaaW.PrintMore
set_option linter.unusedVariables false
set_option linter.unusedSimpArgs false
set_option maxHeartbeats 8000000 in
set_option maxRecDepth 100000 in
theorem clone_E (A0 : Option Addr) (n c0 : Nat) (news : List Value) (w : World) (hl : news.length = n * 5) (hA : A0 = none → n = 0) (hc : ∀ ad, A0 = some ad → ∀ j u, news[j]? = some u → w.cell? (ad.add j) = some u) (h1 : ∀ u ∈ news, u.oneCell' = true) (hn : n + 1 < 2513169434916) :
    Calls Try.prog 75 #[.slice A0 n c0] w fun e w' => ∃ v', e = .returned v' ∧ w'.ownsRow w.heap.size 32 5 v' n news ∧ Below w.heap.size w w' := by
  have HN := Aside0.mk hn
  clear hn
  have HL := Aside0.mk hl
  clear hl
  have H1 := Aside0.mk h1
  clear h1
  obtain ⟨i0, hI⟩ := infoE
  have HI := Aside0.mk hI
  clear hI
  have he := fun W : World => Lib.run_eql_slice_nil (P := Try.prog) W 22 32 A0 n c0 0 0 Try.underlying22
  rcases A0 with _ | ad
  · obtain rfl := hA rfl
    have hnil : news = [] := List.eq_nil_of_length_eq_zero (by rw [HL.out])
    have he2 : ∀ W : World, (binOp .eql 22 (.slice none 0 c0) (.slice none 0 0)).run Try.prog W = .ok (.bool true) W := fun W => he W
    clear he hA hc
    go_enter Try.func75, Try.ntmps75
    go_wp2
    go_ret
    exact ⟨_, rfl, by rw [hnil]; exact World.ownsRow_nil _ _ _ _, Below.refl _ _⟩
  · have HC := Aside0.mk (hc ad rfl)
    have he2 : ∀ W : World, (binOp .eql 22 (.slice (some ad) n c0) (.slice none 0 0)).run Try.prog W = .ok (.bool false) W := fun W => he W
    clear he hA hc
    go_enter Try.func75, Try.ntmps75
    go_wp2_with (at_builtin; refine wpList_append_own _ rfl _ _ 22 rfl w.heap.size 32 i0 zeroE 5 56 Try.underlying22 HI.out.1 HI.out.2.1 HI.out.2.2.1 HI.out.2.2.2 rfl (by decide) _ _ _ rfl (World.ownsRow_made w #[] 0 (Nat.le_refl _) (Nat.zero_le _) (by simp)) ad n c0 news rfl HL.out ?qc2 H1.out ?qc4 ?qc5 ?qc6 ?_; (case qc2 => exact fun j u hj => Lib.cell?_alloc_some _ (HC.out j u hj)); (case qc4 => have := HN.out; simp [maxLen]; omega); (case qc5 => have := HN.out; omega); (case qc6 => simp); intro v' w1 hown hgrow hnil; have HOW := Aside0.mk hown; have HGR := Aside0.mk hgrow; clear hown hgrow hnil)
    go_ret
    exact ⟨_, rfl, by simpa using HOW.out, ((Below.refl _ w).alloc (Nat.le_refl _) _).grown HGR.out (by simp) (fun k hk => by have hk2 : some w.heap.size = some k := hk; injection hk2 with hk2; omega)⟩
theorem V_of_own {α : Type} {d : Kd α} {e base n : Nat} {w : World} {v : Value} {inner : List Value} {xs : List α} {ok ok' : Nat → Prop} (hown : w.ownsRow base e d.sz v n inner) (hn : n = xs.length) (hr : Reps (fun x c => Kd.FK d w ok x c) d.sz xs inner)
    (hok : ∀ k, ok k → ok' k) (hbase : ∀ k, base ≤ k → ok' k) (hm : n ≤ 9223372036854775807) : Kd.V d e w base ok' v xs := by
  subst hn
  rcases hown.2 with ⟨rfl, h0⟩ | ⟨g, cap, cur, rfl, hg, hh, hnc, hcm, hcs, htk⟩
  · obtain rfl := List.eq_nil_of_length_eq_zero h0
    exact Kd.V_nil _ _ _ _ _
  · refine ⟨some ⟨g, 0, none⟩, cap, rfl, hnc, fun W' hW => ⟨rfl, hm, fun hp => ⟨_, rfl, fun j p hj => ?_⟩⟩⟩
    have hK := hr.2 j p hj
    have hjl : j < xs.length := (List.getElem?_eq_some_iff.1 hj).1
    have hgl : g < w.heap.size := blk_lt hh
    have hW2 := (hW g (hbase g hg) hgl).trans hh
    have hlen := hr.1
    have hmul : (j + 1) * d.sz ≤ xs.length * d.sz := Nat.mul_le_mul_right _ hjl
    rw [Nat.add_mul, Nat.one_mul] at hmul
    refine ⟨(inner.drop (j * d.sz)).take d.sz, by rw [List.length_take, List.length_drop, hlen]; omega, hK W' (fun k hk hlt => hW k (hok k hk) hlt), fun i u hu => ?_⟩
    rw [List.getElem?_take] at hu
    split at hu
    · rename_i hi
      rw [List.getElem?_drop, ← htk, List.getElem?_take] at hu
      split at hu
      · rw [Addr.add_lit, Nat.zero_add]
        simp only [World.cell?, hW2]
        simpa using hu
      · cases hu
    · cases hu
end Go.Proofs.Ytioooiflpabngaa.PAll
end
section
namespace Go.Proofs.Ytioooiflpabngaa.PAll
open Go.RowKit Go.Proofs.YtioooiflpabngaaW.PrintWords Go.Proofs.YtioooiflpabngaaW.PrintLast Go.Proofs.YtioooiflpabngaaW.PrintMore
attribute [local go_sem] max2_int min2_int max_two min_two max_three min_three max_four min_four   -- for this text's walks alone
set_option linter.unusedVariables false
set_option linter.unusedSimpArgs false
set_option maxHeartbeats 8000000 in
set_option maxRecDepth 100000 in
theorem content_Put_1.calls (k : Nat) (a0_0 : Int) (a0_1 : Int) (a0_2 : Int) (a0_3 : Int) (A0_4 : Option Addr) (c0_4 : Nat) (l0_4 : List Int) (a1_0 : Int) (a1_1 : Int) (a1_2 : Int) (a1_3 : Int) (r : Int) (w : World) (hr0_4 : Kd.C (Kd.int .u8) w A0_4 l0_4.length l0_4) (hc0_4 : l0_4.length ≤ c0_4) (h : content_Find_1.f k a0_0 a0_1 a0_2 a0_3 l0_4 a1_0 a1_1 a1_2 a1_3 = some r) :
  Calls Try.prog 73 #[.agg #[.int .u64 a0_0, .int .i64 a0_1, .int .u64 a0_2, .int .i64 a0_3, .slice A0_4 l0_4.length c0_4], .agg #[.int .u64 a1_0, .int .i64 a1_1, .int .u64 a1_2, .int .i64 a1_3]] w fun e w' => e = .returned (.int .i64 r) ∧ Below w.heap.size w w' := by
 have hu32 := Try.underlying32
 have hu27 := Try.underlying27
 have HR0_4 := Aside0.mk hr0_4
 have HC0_4 := Aside0.mk hc0_4
 clear hr0_4 hc0_4
 have HB := Aside0.mk (Below.refl w.heap.size w)
 have H : ((label_Compare.f k a0_0 a0_1 a0_2 a0_3 a1_0 a1_1 a1_2 a1_3).bind fun t212 => (some t212)) = some r := h
 clear h
 replace H := Option.bind_eq_some_iff.mp H
 obtain ⟨t212, A30, H⟩ := H
 replace H : (some t212) = some r := H
 have A3 := Aside0.mk A30
 clear A30
 obtain rfl := Option.some.inj H
 go_enter Try.func73, Try.ntmps73
 go_wp2_with (first | ((with_reducible refine gate_dst (N := 2) rfl ?_); refine box_event ?hg (N := 2) ?hd (cs := #[.int .u64 a0_0, .int .i64 a0_1, .int .u64 a0_2, .int .i64 a0_3, .slice A0_4 l0_4.length c0_4]) (t := 32) ?hr ?_; (case hd => rfl); (case hg => rfl); (case hr => first | (go_simp; done) | (go_simp; rfl)); intro gb210 hg w4 hbox hb; have n0_ := Aside0.mk (below_step zb_ hb); have n1_ := Aside0.mk (hbox); have n2_ := Aside0.mk ((by rw [hg]; exact (below_size zb_) : w.heap.size ≤ gb210)); have n3_ := Aside0.mk ((by rw [hg]; exact (below_size zb_) : w.heap.size ≤ gb210)); clear HB; have HB := n0_; have BK210 := n1_; have GW210 := n2_; have GE210 := n3_; clear n0_ n1_ n2_ n3_; clear hb hbox hg) | ((with_reducible refine gate_dst (N := 3) rfl ?_); refine box_event ?hg (N := 3) ?hd (cs := #[.int .u64 a1_0, .int .i64 a1_1, .int .u64 a1_2, .int .i64 a1_3]) (t := 27) ?hr ?_; (case hd => rfl); (case hg => rfl); (case hr => first | (go_simp; done) | (go_simp; rfl)); intro gb211 hg w5 hbox hb; have n0_ := zk_ BK210 hb; have n1_ := Aside0.mk (below_step zb_ hb); have n2_ := Aside0.mk (hbox); have n3_ := Aside0.mk ((by rw [hg]; exact (below_size zb_) : w.heap.size ≤ gb211)); have n4_ := Aside0.mk ((by rw [hg]; exact (below_size zb_) : w.heap.size ≤ gb211)); have n5_ := Aside0.mk ((by rw [hg]; exact Nat.ne_of_lt (blk_lt (g := gb210) (o := .cells #[.int .u64 a0_0, .int .i64 a0_1, .int .u64 a0_2, .int .i64 a0_3, .slice A0_4 l0_4.length c0_4] 32 (0, 0)) (by (with_reducible repeat (first | refine blk_drewN ?_ _ | refine blk_drew ?_ | refine blk_alloc ?_ _)); exact BK210.out)) : gb210 ≠ gb211)); have n6_ := Aside0.mk ((by rw [hg]; exact Nat.ne_of_gt (blk_lt (g := gb210) (o := .cells #[.int .u64 a0_0, .int .i64 a0_1, .int .u64 a0_2, .int .i64 a0_3, .slice A0_4 l0_4.length c0_4] 32 (0, 0)) (by (with_reducible repeat (first | refine blk_drewN ?_ _ | refine blk_drew ?_ | refine blk_alloc ?_ _)); exact BK210.out)) : gb211 ≠ gb210)); clear BK210; clear HB; have BK210 := n0_; have HB := n1_; have BK211 := n2_; have GW211 := n3_; have GE211 := n4_; have NB210_211 := n5_; have NB211_210 := n6_; clear n0_ n1_ n2_ n3_ n4_ n5_ n6_; clear hb hbox hg; have hnb6 := NB210_211.out; have hnc6 := NB211_210.out; have hcz7_0 : w5.cell? ⟨gb210, 0, none⟩ = some (.int .u64 a0_0) := (blk_cell BK210.out 0).trans rfl; have hcz7_1 : w5.cell? ⟨gb210, 1, none⟩ = some (.int .i64 a0_1) := (blk_cell BK210.out 1).trans rfl; have hcz7_2 : w5.cell? ⟨gb210, 2, none⟩ = some (.int .u64 a0_2) := (blk_cell BK210.out 2).trans rfl; have hcz7_3 : w5.cell? ⟨gb210, 3, none⟩ = some (.int .i64 a0_3) := (blk_cell BK210.out 3).trans rfl; have hcz7_4 : w5.cell? ⟨gb210, 4, none⟩ = some (.slice A0_4 l0_4.length c0_4) := (blk_cell BK210.out 4).trans rfl; have hfz7_0 := blk_frozen BK210.out 0; have hfz7_1 := blk_frozen BK210.out 1; have hfz7_2 := blk_frozen BK210.out 2; have hfz7_3 := blk_frozen BK210.out 3; have hfz7_4 := blk_frozen BK210.out 4; have hcz8_0 : w5.cell? ⟨gb211, 0, none⟩ = some (.int .u64 a1_0) := (blk_cell BK211.out 0).trans rfl; have hcz8_1 : w5.cell? ⟨gb211, 1, none⟩ = some (.int .i64 a1_1) := (blk_cell BK211.out 1).trans rfl; have hcz8_2 : w5.cell? ⟨gb211, 2, none⟩ = some (.int .u64 a1_2) := (blk_cell BK211.out 2).trans rfl; have hcz8_3 : w5.cell? ⟨gb211, 3, none⟩ = some (.int .i64 a1_3) := (blk_cell BK211.out 3).trans rfl; have hfz8_0 := blk_frozen BK211.out 0; have hfz8_1 := blk_frozen BK211.out 1; have hfz8_2 := blk_frozen BK211.out 2; have hfz8_3 := blk_frozen BK211.out 3) | ((with_reducible refine gate_callee (f := 42) rfl ?_); refine goesL_ (some 8) rfl rfl Try.func42 (by kernel_rfl) rfl #[.agg #[.int .u64 a0_0, .int .i64 a0_1, .int .u64 a0_2, .int .i64 a0_3], .agg #[.int .u64 a1_0, .int .i64 a1_1, .int .u64 a1_2, .int .i64 a1_3]] rfl za_ ?_; (with_reducible refine (label_Compare.calls k a0_0 a0_1 a0_2 a0_3 a1_0 a1_1 a1_2 a1_3 t212 _ A3.out).mono ?_); rintro e w9 ⟨rfl, hb⟩; refine ⟨_, rfl, ?_⟩; have n0_ := zk_ BK210 hb; have n1_ := zk_ BK211 hb; have n2_ := Aside0.mk (below_step zb_ hb); clear BK210; clear BK211; clear HB; have BK210 := n0_; have BK211 := n1_; have HB := n2_; clear n0_ n1_ n2_; (try clear hb); (try clear hb2); (try clear hk); (try clear hi)))
 go_ret
 exact ⟨by first | rfl | (simp [errW_none, errW_some] <;> rfl) | (simp [*, errW_none, errW_some] <;> rfl), by repeat (first | (with_reducible first | exact HB.out | apply below_alloc | apply pw_below_drewN | apply below_drew1 | refine below_set ?_ GE210.out | refine below_set ?_ GE211.out) | exact HB.out)⟩
set_option maxHeartbeats 8000000 in
set_option maxRecDepth 100000 in
theorem api_Label_70p.calls (k : Nat) (A0 : Option Addr) (c0 : Nat) (l0 : List (S32)) (a1_0 : Int) (a1_1 : Int) (a1_2 : Int) (a1_3 : Int) (r1 : Int) (r2 : Bool) (w : World) (hr0 : Kd.C k32 w A0 l0.length l0) (hc0 : l0.length ≤ c0) (h : api_Label_70.f k l0 a1_0 a1_1 a1_2 a1_3 = some (r1, r2)) :
  Calls Try.prog 70 #[.slice A0 l0.length c0, .agg #[.int .u64 a1_0, .int .i64 a1_1, .int .u64 a1_2, .int .i64 a1_3], .func (.func 73) #[] #[]] w fun e w' => e = .returned (.tuple #[.int .i64 r1, .bool r2]) ∧ Below w.heap.size w w' := by
 have hu27 := Try.underlying27
 have hu32 := Try.underlying32
 have HR0 := Aside0.mk hr0
 have HC0 := Aside0.mk hc0
 clear hr0 hc0
 have HB := Aside0.mk (Below.refl w.heap.size w)
 have H : (api_Label_70.l0 k l0 (l0.length : Int) 0 (l0.length : Int) a1_0 a1_1 a1_2 a1_3) = some (r1, r2) := h
 clear h
 have H' := Aside0.mk H
 clear H
 go_enter Try.func70, Try.ntmps70
 go_wp2_with (first | ((with_reducible refine gate_dst (N := 4) rfl ?_); refine box_event ?hg (N := 4) ?hd (cs := #[.int .u64 a1_0, .int .i64 a1_1, .int .u64 a1_2, .int .i64 a1_3]) (t := 27) ?hr ?_; (case hd => rfl); (case hg => rfl); (case hr => first | (go_simp; done) | (go_simp; rfl)); intro gb213 hg w3 hbox hb; have n0_ := Aside0.mk (below_step zb_ hb); have n1_ := Aside0.mk (hbox); have n2_ := Aside0.mk ((by rw [hg]; exact (below_size zb_) : w.heap.size ≤ gb213)); have n3_ := Aside0.mk ((by rw [hg]; exact (below_size zb_) : w.heap.size ≤ gb213)); clear HB; have HB := n0_; have BK213 := n1_; have GW213 := n2_; have GE213 := n3_; clear n0_ n1_ n2_ n3_; clear hb hbox hg))
 go_loopg [9, 10] k (fun kq v9 v10 w' => ∃ (x9_1 : Int) (x10_1 : Int), v9 = .int .i64 x9_1 ∧ v10 = .int .i64 x10_1 ∧ Aside0 (api_Label_70.l0 kq l0 (l0.length : Int) x9_1 x10_1 a1_0 a1_1 a1_2 a1_3 = some (r1, r2)) ∧ Aside0 (kq ≤ k) ∧ Aside0 (w'.heap[gb213]? = some (.cells #[.int .u64 a1_0, .int .i64 a1_1, .int .u64 a1_2, .int .i64 a1_3] 27 (0, 0))) ∧ Aside0 (Below w.heap.size w w'))
 case atStart => exact ⟨(0), ((l0.length : Int)), (by first | rfl | (simp; done) | (simp [*]; done)), (by first | rfl | (simp; done) | (simp [*]; done)), H', ⟨Nat.le_refl _⟩, ⟨by (with_reducible repeat (first | refine blk_drewN ?_ _ | refine blk_drew ?_ | refine blk_alloc ?_ _)); exact BK213.out⟩, ⟨by repeat (first | (with_reducible first | exact HB.out | apply below_alloc | apply pw_below_drewN | apply below_drew1 | refine below_set ?_ GE213.out) | exact HB.out)⟩⟩
 case round =>
  clear H'
  try clear p2
  obtain ⟨x9_1, x10_1, rfl, rfl, HA, HK1, BK213, HB⟩ := hrel
  cases gk with
  | zero => exact absurd HA.out (by simp [api_Label_70.l0])
  | succ k1 =>
   have H := HA.out
   clear HA
   simp only [api_Label_70.l0] at H
   by_cases c4 : x9_1 < x10_1
   ·
    rw [if_pos c4] at H
    have c4b0 : decide (x9_1 < x10_1) = true := decide_eq_true c4
    clear c4
    obtain ⟨ji5, hji5⟩ : ∃ j_ : Int, (wrap64 ((IntKind.u64.wrap (wrap64 (x9_1 + x10_1))) / 2)) = j_ := ⟨_, rfl⟩
    replace H : (if 0 ≤ (ji5) then (if (ji5) < (l0.length : Int) then ((content_Find_1.f k1 ((rd_T32 l0 (ji5)).f0.f0.f0) ((rd_T32 l0 (ji5)).f0.f0.f1) ((rd_T32 l0 (ji5)).f0.f1) ((rd_T32 l0 (ji5)).f0.f2) ((rd_T32 l0 (ji5)).f1) a1_0 a1_1 a1_2 a1_3).bind fun t215 => (if t215 < 0 then (api_Label_70.l0 k1 l0 (l0.length : Int) (wrap64 ((ji5) + 1)) x10_1 a1_0 a1_1 a1_2 a1_3) else (api_Label_70.l0 k1 l0 (l0.length : Int) x9_1 ji5 a1_0 a1_1 a1_2 a1_3))) else (none)) else (none)) = some (r1, r2) := by first | (rw [hji5] at H; exact H) | (simp only [hji5] at H ⊢; exact H)
    have hji5w : (IntKind.i64.wrap ((IntKind.u64.wrap (wrap64 (x9_1 + x10_1))) / 2)) = ji5 := (i64_w _).trans hji5
    by_cases c6 : 0 ≤ (ji5)
    ·
     rw [if_pos c6] at H
     have c6b0 : decide (0 ≤ (ji5)) = true := decide_eq_true c6
     clear c6
     by_cases c7 : (ji5) < (l0.length : Int)
     ·
      rw [if_pos c7] at H
      have c7b0 : decide ((ji5) < (l0.length : Int)) = true := decide_eq_true c7
      clear c7
      replace H := Option.bind_eq_some_iff.mp H
      obtain ⟨t215, A80, H⟩ := H
      replace H : (if t215 < 0 then (api_Label_70.l0 k1 l0 (l0.length : Int) (wrap64 ((ji5) + 1)) x10_1 a1_0 a1_1 a1_2 a1_3) else (api_Label_70.l0 k1 l0 (l0.length : Int) x9_1 ji5 a1_0 a1_1 a1_2 a1_3)) = some (r1, r2) := H
      have A8 := Aside0.mk A80
      clear A80
      by_cases c9 : t215 < 0
      ·
       rw [if_pos c9] at H
       have c9b0 : decide (t215 < 0) = true := decide_eq_true c9
       clear c9
       have H' := Aside0.mk H
       clear H
       try go_wp2
       have n0_ := Aside0.mk (blk_drew BK213.out)
       have n1_ := Aside0.mk (below_drew1 HB.out)
       clear BK213
       clear HB
       have BK213 := n0_
       have HB := n1_
       clear n0_ n1_
       have p214 : 0 ≤ ((ji5) : Int) := of_decide_eq_true zs_
       have q214 : (ji5) < (l0.length : Int) := of_decide_eq_true zs_
       obtain ⟨ad214, A214_4, c214_4, e214, hx214_0, hx214_1, hx214_2, hx214_3, hx214_4, hl214_4, hi214_4⟩ := at_T32 HR0.out (ji5) p214 q214
       have hw214_4 := hx214_4
       have hw214_3 := hx214_3
       have hw214_2 := hx214_2
       have hw214_1 := hx214_1
       have hw214_0 := hx214_0
       cases e214
       replace hx214_0 := (HB.out.cell (World.block_lt_of_cell? w _ hx214_0)).trans hx214_0
       replace hx214_1 := (HB.out.cell (World.block_lt_of_cell? w _ hx214_1)).trans hx214_1
       replace hx214_2 := (HB.out.cell (World.block_lt_of_cell? w _ hx214_2)).trans hx214_2
       replace hx214_3 := (HB.out.cell (World.block_lt_of_cell? w _ hx214_3)).trans hx214_3
       replace hx214_4 := (HB.out.cell (World.block_lt_of_cell? w _ hx214_4)).trans hx214_4
       have HR214_4 := Aside0.mk hi214_4
       have HC214_4 := Aside0.mk hl214_4
       clear hi214_4 hl214_4
       replace p214 := eq_true p214
       replace q214 := eq_true q214
       refine start_ (n := 8) (S := fun w' => w'.cell? ⟨gb213, 0, none⟩ = some (.int .u64 a1_0) ∧ w'.cell? ⟨gb213, 1, none⟩ = some (.int .i64 a1_1) ∧ w'.cell? ⟨gb213, 2, none⟩ = some (.int .u64 a1_2) ∧ w'.cell? ⟨gb213, 3, none⟩ = some (.int .i64 a1_3) ∧ w'.cell? (ad214.add (((ji5)).toNat * 5)) = some (.int .u64 ((rd_T32 l0 (ji5)).f0.f0.f0)) ∧ w'.cell? ⟨(ad214.add (((ji5)).toNat * 5)).block, (ad214.add (((ji5)).toNat * 5)).off + 1, none⟩ = some (.int .i64 ((rd_T32 l0 (ji5)).f0.f0.f1)) ∧ w'.cell? ⟨(ad214.add (((ji5)).toNat * 5)).block, (ad214.add (((ji5)).toNat * 5)).off + 2, none⟩ = some (.int .u64 ((rd_T32 l0 (ji5)).f0.f1)) ∧ w'.cell? ⟨(ad214.add (((ji5)).toNat * 5)).block, (ad214.add (((ji5)).toNat * 5)).off + 3, none⟩ = some (.int .i64 ((rd_T32 l0 (ji5)).f0.f2)) ∧ w'.cell? ⟨(ad214.add (((ji5)).toNat * 5)).block, (ad214.add (((ji5)).toNat * 5)).off + 4, none⟩ = some (.slice A214_4 ((rd_T32 l0 (ji5)).f1).length c214_4)) (ds := []) #[F_,F_,F_,F_,F_,F_,F_,F_] (by kernel_rfl) rfl rfl ⟨(blk_cell BK213.out 0).trans rfl, (blk_cell BK213.out 1).trans rfl, (blk_cell BK213.out 2).trans rfl, (blk_cell BK213.out 3).trans rfl, ((HB.out.cell (World.block_lt_of_cell? w _ hw214_0)).trans hw214_0), ((HB.out.cell (World.block_lt_of_cell? w _ hw214_1)).trans hw214_1), ((HB.out.cell (World.block_lt_of_cell? w _ hw214_2)).trans hw214_2), ((HB.out.cell (World.block_lt_of_cell? w _ hw214_3)).trans hw214_3), ((HB.out.cell (World.block_lt_of_cell? w _ hw214_4)).trans hw214_4)⟩ (fun hHeld => ?_); refine with_tabW api_Label_70.tab5 api_Label_70.bits5 (fun HT_ HW_ => ?_)
       generalize wr.drew = w10 at BK213 HB HR214_4 hx214_0 hx214_1 hx214_2 hx214_3 hx214_4 hHeld ⊢
       refine pure_ (i := 0) (N := some 24) (v := ?_) (a' := ?_) #[T_,F_,F_,F_,F_,F_,F_,F_] rfl rfl (any_of HT_.out (by kernel_rfl)) (fun _ _ _ h => h) (Or.inl ⟨by rfl, ?_⟩) ?_ ?_
       rotate_left
       ·
        intro w'; go_simp; with_reducible rfl
       rotate_left
       ·
        exact zp_
       refine pure_ (i := 1) (N := some 25) (v := ?_) (a' := ?_) #[T_,T_,F_,F_,F_,F_,F_,F_] rfl rfl (any_of HT_.out (by kernel_rfl)) (fun _ _ _ h => h) (Or.inl ⟨by rfl, ?_⟩) ?_ ?_
       rotate_left
       ·
        intro w'; go_simp; with_reducible rfl
       rotate_left
       ·
        exact zp_
       refine pure_ (i := 2) (N := some 26) (v := ?_) (a' := ?_) #[T_,T_,T_,F_,F_,F_,F_,F_] rfl rfl (any_of HT_.out (by kernel_rfl)) (fun _ _ _ h => h) (Or.inl ⟨by rfl, ?_⟩) ?_ ?_
       rotate_left
       ·
        intro w'; go_simp; with_reducible rfl
       rotate_left
       ·
        exact zp_
       refine pure_ (i := 3) (N := some 27) (v := ?_) (a' := ?_) #[T_,T_,T_,T_,F_,F_,F_,F_] rfl rfl (any_of HT_.out (by kernel_rfl)) (fun _ _ _ h => h) (Or.inl ⟨by rfl, ?_⟩) ?_ ?_
       rotate_left
       ·
        intro w'; go_simp; with_reducible rfl
       rotate_left
       ·
        exact zp_
       refine take_ (i := 4) (N := some 28) (v := ?_) (a' := ?_) #[T_,T_,T_,T_,T_,F_,F_,F_] rfl rfl (take_ofW HT_.out HW_.out (by kernel_rfl)) (fun _ _ _ h => h) (Or.inl ⟨by rfl, ?_⟩) hHeld ?_ ?_
       rotate_left
       ·
        rintro w' ⟨s0, s1, s2, s3, s4, s5, s6, s7, s8⟩
        go_simp
        with_reducible rfl
       rotate_left
       ·
        exact zp_
       refine take_ (i := 5) (N := some 29) (v := ?_) (a' := ?_) #[T_,T_,T_,T_,T_,T_,F_,F_] rfl rfl (take_ofW HT_.out HW_.out (by kernel_rfl)) (fun _ _ _ h => h) (Or.inl ⟨by rfl, ?_⟩) hHeld ?_ ?_
       rotate_left
       ·
        rintro w' ⟨s0, s1, s2, s3, s4, s5, s6, s7, s8⟩
        go_simp
        with_reducible rfl
       rotate_left
       ·
        exact zp_
       refine one_ (i := 6) (N := some 30) #[T_,T_,T_,T_,T_,T_,T_,F_] rfl rfl (one_of HT_.out (by kernel_rfl)) (by decide) (fun K hK => ?_)
       refine goesV_ Try.func73 (by kernel_rfl) rfl #[.agg #[.int .u64 ((rd_T32 l0 (ji5)).f0.f0.f0), .int .i64 ((rd_T32 l0 (ji5)).f0.f0.f1), .int .u64 ((rd_T32 l0 (ji5)).f0.f1), .int .i64 ((rd_T32 l0 (ji5)).f0.f2), .slice A214_4 ((rd_T32 l0 (ji5)).f1).length c214_4], .agg #[.int .u64 a1_0, .int .i64 a1_1, .int .u64 a1_2, .int .i64 a1_3]] (by rfl) rfl rfl rfl (by (try simp only [List.map_toArray, List.map_cons, List.map_nil]); first | done | (simp only [hji5]; rfl) | rfl | (simp only [List.length_drop, List.length_take]; rfl)) ?_
       with_reducible refine (content_Put_1.calls k1 ((rd_T32 l0 (ji5)).f0.f0.f0) ((rd_T32 l0 (ji5)).f0.f0.f1) ((rd_T32 l0 (ji5)).f0.f1) ((rd_T32 l0 (ji5)).f0.f2) _ _ ((rd_T32 l0 (ji5)).f1) a1_0 a1_1 a1_2 a1_3 t215 _ ?side1 ?side2 A8.out).mono ?_
       (case side1 => exact zc_ HR214_4 HB)
       (case side2 => exact HC214_4.out)
       rintro e w11 ⟨rfl, hb⟩
       refine ⟨_, rfl, ?_⟩
       have n0_ := zk_ BK213 hb
       have n1_ := Aside0.mk (below_step zb_ hb)
       clear BK213
       clear HB
       have BK213 := n0_
       have HB := n1_
       clear n0_ n1_
       (try clear hb)
       (try clear hb2)
       (try clear hk)
       (try clear hi)
       refine hK.out _ _ ⟨(blk_cell BK213.out 0).trans rfl, (blk_cell BK213.out 1).trans rfl, (blk_cell BK213.out 2).trans rfl, (blk_cell BK213.out 3).trans rfl, ((HB.out.cell (World.block_lt_of_cell? w _ hw214_0)).trans hw214_0), ((HB.out.cell (World.block_lt_of_cell? w _ hw214_1)).trans hw214_1), ((HB.out.cell (World.block_lt_of_cell? w _ hw214_2)).trans hw214_2), ((HB.out.cell (World.block_lt_of_cell? w _ hw214_3)).trans hw214_3), ((HB.out.cell (World.block_lt_of_cell? w _ hw214_4)).trans hw214_4)⟩ (fun hHeld => ?_)
       clear hK K
       refine norm_ (a' := ?_) ?_ ?_
       rotate_left
       ·
        show Act.put _ (some 30) _ = _
        simp only [Act.put, List.setIfInBounds_toArray, List.set_cons_zero, List.set_cons_succ, i64_w, i32_w]
        rfl
       refine pure_ (i := 7) (N := some 31) (v := ?_) (a' := ?_) #[T_,T_,T_,T_,T_,T_,T_,T_] rfl rfl (any_of HT_.out (by kernel_rfl)) (fun _ _ _ h => h) (Or.inl ⟨by rfl, ?_⟩) ?_ ?_
       rotate_left
       ·
        intro w'; go_simp; with_reducible rfl
       rotate_left
       ·
        exact zp_
       refine done_ (done_of HT_.out (by kernel_rfl)) ?_
       (try clear hHeld); (try clear HS0_)
       try go_wp2
       go_roundg k1
       case measure => have := HK1.out; omega
       case rel => exact ⟨(wrap64 ((ji5) + 1)), (x10_1), (by first | rfl | (simp; done) | (simp only [← hji5] <;> (first | rfl | simp)) | (simp [*]; done)), (by first | rfl | (simp; done) | (simp [*]; done)), H', ⟨by have := HK1.out; omega⟩, ⟨by (with_reducible repeat (first | refine blk_drewN ?_ _ | refine blk_drew ?_ | refine blk_alloc ?_ _)); exact BK213.out⟩, ⟨by repeat (first | (with_reducible first | exact HB.out | apply below_alloc | apply pw_below_drewN | apply below_drew1 | refine below_set ?_ GE213.out) | exact HB.out)⟩⟩
      ·
       rw [if_neg c9] at H
       have c9b0 : decide (t215 < 0) = false := decide_eq_false c9
       clear c9
       have H' := Aside0.mk H
       clear H
       try go_wp2
       have n0_ := Aside0.mk (blk_drew BK213.out)
       have n1_ := Aside0.mk (below_drew1 HB.out)
       clear BK213
       clear HB
       have BK213 := n0_
       have HB := n1_
       clear n0_ n1_
       have p214 : 0 ≤ ((ji5) : Int) := of_decide_eq_true zs_
       have q214 : (ji5) < (l0.length : Int) := of_decide_eq_true zs_
       obtain ⟨ad214, A214_4, c214_4, e214, hx214_0, hx214_1, hx214_2, hx214_3, hx214_4, hl214_4, hi214_4⟩ := at_T32 HR0.out (ji5) p214 q214
       have hw214_4 := hx214_4
       have hw214_3 := hx214_3
       have hw214_2 := hx214_2
       have hw214_1 := hx214_1
       have hw214_0 := hx214_0
       cases e214
       replace hx214_0 := (HB.out.cell (World.block_lt_of_cell? w _ hx214_0)).trans hx214_0
       replace hx214_1 := (HB.out.cell (World.block_lt_of_cell? w _ hx214_1)).trans hx214_1
       replace hx214_2 := (HB.out.cell (World.block_lt_of_cell? w _ hx214_2)).trans hx214_2
       replace hx214_3 := (HB.out.cell (World.block_lt_of_cell? w _ hx214_3)).trans hx214_3
       replace hx214_4 := (HB.out.cell (World.block_lt_of_cell? w _ hx214_4)).trans hx214_4
       have HR214_4 := Aside0.mk hi214_4
       have HC214_4 := Aside0.mk hl214_4
       clear hi214_4 hl214_4
       replace p214 := eq_true p214
       replace q214 := eq_true q214
       refine start_ (n := 8) (S := fun w' => w'.cell? ⟨gb213, 0, none⟩ = some (.int .u64 a1_0) ∧ w'.cell? ⟨gb213, 1, none⟩ = some (.int .i64 a1_1) ∧ w'.cell? ⟨gb213, 2, none⟩ = some (.int .u64 a1_2) ∧ w'.cell? ⟨gb213, 3, none⟩ = some (.int .i64 a1_3) ∧ w'.cell? (ad214.add (((ji5)).toNat * 5)) = some (.int .u64 ((rd_T32 l0 (ji5)).f0.f0.f0)) ∧ w'.cell? ⟨(ad214.add (((ji5)).toNat * 5)).block, (ad214.add (((ji5)).toNat * 5)).off + 1, none⟩ = some (.int .i64 ((rd_T32 l0 (ji5)).f0.f0.f1)) ∧ w'.cell? ⟨(ad214.add (((ji5)).toNat * 5)).block, (ad214.add (((ji5)).toNat * 5)).off + 2, none⟩ = some (.int .u64 ((rd_T32 l0 (ji5)).f0.f1)) ∧ w'.cell? ⟨(ad214.add (((ji5)).toNat * 5)).block, (ad214.add (((ji5)).toNat * 5)).off + 3, none⟩ = some (.int .i64 ((rd_T32 l0 (ji5)).f0.f2)) ∧ w'.cell? ⟨(ad214.add (((ji5)).toNat * 5)).block, (ad214.add (((ji5)).toNat * 5)).off + 4, none⟩ = some (.slice A214_4 ((rd_T32 l0 (ji5)).f1).length c214_4)) (ds := []) #[F_,F_,F_,F_,F_,F_,F_,F_] (by kernel_rfl) rfl rfl ⟨(blk_cell BK213.out 0).trans rfl, (blk_cell BK213.out 1).trans rfl, (blk_cell BK213.out 2).trans rfl, (blk_cell BK213.out 3).trans rfl, ((HB.out.cell (World.block_lt_of_cell? w _ hw214_0)).trans hw214_0), ((HB.out.cell (World.block_lt_of_cell? w _ hw214_1)).trans hw214_1), ((HB.out.cell (World.block_lt_of_cell? w _ hw214_2)).trans hw214_2), ((HB.out.cell (World.block_lt_of_cell? w _ hw214_3)).trans hw214_3), ((HB.out.cell (World.block_lt_of_cell? w _ hw214_4)).trans hw214_4)⟩ (fun hHeld => ?_); refine with_tabW api_Label_70.tab5 api_Label_70.bits5 (fun HT_ HW_ => ?_)
       generalize wr.drew = w12 at BK213 HB HR214_4 hx214_0 hx214_1 hx214_2 hx214_3 hx214_4 hHeld ⊢
       refine pure_ (i := 0) (N := some 24) (v := ?_) (a' := ?_) #[T_,F_,F_,F_,F_,F_,F_,F_] rfl rfl (any_of HT_.out (by kernel_rfl)) (fun _ _ _ h => h) (Or.inl ⟨by rfl, ?_⟩) ?_ ?_
       rotate_left
       ·
        intro w'; go_simp; with_reducible rfl
       rotate_left
       ·
        exact zp_
       refine pure_ (i := 1) (N := some 25) (v := ?_) (a' := ?_) #[T_,T_,F_,F_,F_,F_,F_,F_] rfl rfl (any_of HT_.out (by kernel_rfl)) (fun _ _ _ h => h) (Or.inl ⟨by rfl, ?_⟩) ?_ ?_
       rotate_left
       ·
        intro w'; go_simp; with_reducible rfl
       rotate_left
       ·
        exact zp_
       refine pure_ (i := 2) (N := some 26) (v := ?_) (a' := ?_) #[T_,T_,T_,F_,F_,F_,F_,F_] rfl rfl (any_of HT_.out (by kernel_rfl)) (fun _ _ _ h => h) (Or.inl ⟨by rfl, ?_⟩) ?_ ?_
       rotate_left
       ·
        intro w'; go_simp; with_reducible rfl
       rotate_left
       ·
        exact zp_
       refine pure_ (i := 3) (N := some 27) (v := ?_) (a' := ?_) #[T_,T_,T_,T_,F_,F_,F_,F_] rfl rfl (any_of HT_.out (by kernel_rfl)) (fun _ _ _ h => h) (Or.inl ⟨by rfl, ?_⟩) ?_ ?_
       rotate_left
       ·
        intro w'; go_simp; with_reducible rfl
       rotate_left
       ·
        exact zp_
       refine take_ (i := 4) (N := some 28) (v := ?_) (a' := ?_) #[T_,T_,T_,T_,T_,F_,F_,F_] rfl rfl (take_ofW HT_.out HW_.out (by kernel_rfl)) (fun _ _ _ h => h) (Or.inl ⟨by rfl, ?_⟩) hHeld ?_ ?_
       rotate_left
       ·
        rintro w' ⟨s0, s1, s2, s3, s4, s5, s6, s7, s8⟩
        go_simp
        with_reducible rfl
       rotate_left
       ·
        exact zp_
       refine take_ (i := 5) (N := some 29) (v := ?_) (a' := ?_) #[T_,T_,T_,T_,T_,T_,F_,F_] rfl rfl (take_ofW HT_.out HW_.out (by kernel_rfl)) (fun _ _ _ h => h) (Or.inl ⟨by rfl, ?_⟩) hHeld ?_ ?_
       rotate_left
       ·
        rintro w' ⟨s0, s1, s2, s3, s4, s5, s6, s7, s8⟩
        go_simp
        with_reducible rfl
       rotate_left
       ·
        exact zp_
       refine one_ (i := 6) (N := some 30) #[T_,T_,T_,T_,T_,T_,T_,F_] rfl rfl (one_of HT_.out (by kernel_rfl)) (by decide) (fun K hK => ?_)
       refine goesV_ Try.func73 (by kernel_rfl) rfl #[.agg #[.int .u64 ((rd_T32 l0 (ji5)).f0.f0.f0), .int .i64 ((rd_T32 l0 (ji5)).f0.f0.f1), .int .u64 ((rd_T32 l0 (ji5)).f0.f1), .int .i64 ((rd_T32 l0 (ji5)).f0.f2), .slice A214_4 ((rd_T32 l0 (ji5)).f1).length c214_4], .agg #[.int .u64 a1_0, .int .i64 a1_1, .int .u64 a1_2, .int .i64 a1_3]] (by rfl) rfl rfl rfl (by (try simp only [List.map_toArray, List.map_cons, List.map_nil]); first | done | (simp only [hji5]; rfl) | rfl | (simp only [List.length_drop, List.length_take]; rfl)) ?_
       with_reducible refine (content_Put_1.calls k1 ((rd_T32 l0 (ji5)).f0.f0.f0) ((rd_T32 l0 (ji5)).f0.f0.f1) ((rd_T32 l0 (ji5)).f0.f1) ((rd_T32 l0 (ji5)).f0.f2) _ _ ((rd_T32 l0 (ji5)).f1) a1_0 a1_1 a1_2 a1_3 t215 _ ?side1 ?side2 A8.out).mono ?_
       (case side1 => exact zc_ HR214_4 HB)
       (case side2 => exact HC214_4.out)
       rintro e w13 ⟨rfl, hb⟩
       refine ⟨_, rfl, ?_⟩
       have n0_ := zk_ BK213 hb
       have n1_ := Aside0.mk (below_step zb_ hb)
       clear BK213
       clear HB
       have BK213 := n0_
       have HB := n1_
       clear n0_ n1_
       (try clear hb)
       (try clear hb2)
       (try clear hk)
       (try clear hi)
       refine hK.out _ _ ⟨(blk_cell BK213.out 0).trans rfl, (blk_cell BK213.out 1).trans rfl, (blk_cell BK213.out 2).trans rfl, (blk_cell BK213.out 3).trans rfl, ((HB.out.cell (World.block_lt_of_cell? w _ hw214_0)).trans hw214_0), ((HB.out.cell (World.block_lt_of_cell? w _ hw214_1)).trans hw214_1), ((HB.out.cell (World.block_lt_of_cell? w _ hw214_2)).trans hw214_2), ((HB.out.cell (World.block_lt_of_cell? w _ hw214_3)).trans hw214_3), ((HB.out.cell (World.block_lt_of_cell? w _ hw214_4)).trans hw214_4)⟩ (fun hHeld => ?_)
       clear hK K
       refine norm_ (a' := ?_) ?_ ?_
       rotate_left
       ·
        show Act.put _ (some 30) _ = _
        simp only [Act.put, List.setIfInBounds_toArray, List.set_cons_zero, List.set_cons_succ, i64_w, i32_w]
        rfl
       refine pure_ (i := 7) (N := some 31) (v := ?_) (a' := ?_) #[T_,T_,T_,T_,T_,T_,T_,T_] rfl rfl (any_of HT_.out (by kernel_rfl)) (fun _ _ _ h => h) (Or.inl ⟨by rfl, ?_⟩) ?_ ?_
       rotate_left
       ·
        intro w'; go_simp; with_reducible rfl
       rotate_left
       ·
        exact zp_
       refine done_ (done_of HT_.out (by kernel_rfl)) ?_
       (try clear hHeld); (try clear HS0_)
       try go_wp2
       go_roundg k1
       case measure => have := HK1.out; omega
       case rel => exact ⟨(x9_1), (ji5), (by first | rfl | (simp; done) | (simp [*]; done)), (by first | rfl | (simp; done) | (simp only [← hji5] <;> (first | rfl | simp)) | (simp [*]; done)), H', ⟨by have := HK1.out; omega⟩, ⟨by (with_reducible repeat (first | refine blk_drewN ?_ _ | refine blk_drew ?_ | refine blk_alloc ?_ _)); exact BK213.out⟩, ⟨by repeat (first | (with_reducible first | exact HB.out | apply below_alloc | apply pw_below_drewN | apply below_drew1 | refine below_set ?_ GE213.out) | exact HB.out)⟩⟩
     ·
      rw [if_neg c7] at H
      exact absurd H (by simp)
    ·
     rw [if_neg c6] at H
     exact absurd H (by simp)
   ·
    rw [if_neg c4] at H
    have c4b0 : decide (x9_1 < x10_1) = false := decide_eq_false c4
    clear c4
    by_cases c14 : x9_1 < (l0.length : Int)
    ·
     rw [if_pos c14] at H
     have c14b0 : decide (x9_1 < (l0.length : Int)) = true := decide_eq_true c14
     clear c14
     by_cases c15 : 0 ≤ x9_1
     ·
      rw [if_pos c15] at H
      have c15b0 : decide (0 ≤ x9_1) = true := decide_eq_true c15
      clear c15
      by_cases c16 : x9_1 < (l0.length : Int)
      ·
       rw [if_pos c16] at H
       have c16b0 : decide (x9_1 < (l0.length : Int)) = true := decide_eq_true c16
       clear c16
       replace H := Option.bind_eq_some_iff.mp H
       obtain ⟨t217, A170, H⟩ := H
       replace H : (some (x9_1, (t217 == 0))) = some (r1, r2) := H
       have A17 := Aside0.mk A170
       clear A170
       simp only [Option.some.injEq, Prod.mk.injEq] at H
       obtain ⟨rfl, rfl⟩ := H
       try go_wp2
       have n0_ := Aside0.mk (blk_drew BK213.out)
       have n1_ := Aside0.mk (below_drew1 HB.out)
       clear BK213
       clear HB
       have BK213 := n0_
       have HB := n1_
       clear n0_ n1_
       have p216 : 0 ≤ (x9_1 : Int) := of_decide_eq_true zs_
       have q216 : x9_1 < (l0.length : Int) := of_decide_eq_true zs_
       obtain ⟨ad216, A216_4, c216_4, e216, hx216_0, hx216_1, hx216_2, hx216_3, hx216_4, hl216_4, hi216_4⟩ := at_T32 HR0.out x9_1 p216 q216
       have hw216_4 := hx216_4
       have hw216_3 := hx216_3
       have hw216_2 := hx216_2
       have hw216_1 := hx216_1
       have hw216_0 := hx216_0
       cases e216
       replace hx216_0 := (HB.out.cell (World.block_lt_of_cell? w _ hx216_0)).trans hx216_0
       replace hx216_1 := (HB.out.cell (World.block_lt_of_cell? w _ hx216_1)).trans hx216_1
       replace hx216_2 := (HB.out.cell (World.block_lt_of_cell? w _ hx216_2)).trans hx216_2
       replace hx216_3 := (HB.out.cell (World.block_lt_of_cell? w _ hx216_3)).trans hx216_3
       replace hx216_4 := (HB.out.cell (World.block_lt_of_cell? w _ hx216_4)).trans hx216_4
       have HR216_4 := Aside0.mk hi216_4
       have HC216_4 := Aside0.mk hl216_4
       clear hi216_4 hl216_4
       replace p216 := eq_true p216
       replace q216 := eq_true q216
       refine start_ (n := 16) (S := fun w' => w'.cell? ⟨gb213, 0, none⟩ = some (.int .u64 a1_0) ∧ w'.cell? ⟨gb213, 1, none⟩ = some (.int .i64 a1_1) ∧ w'.cell? ⟨gb213, 2, none⟩ = some (.int .u64 a1_2) ∧ w'.cell? ⟨gb213, 3, none⟩ = some (.int .i64 a1_3) ∧ w'.cell? (ad216.add ((x9_1).toNat * 5)) = some (.int .u64 ((rd_T32 l0 x9_1).f0.f0.f0)) ∧ w'.cell? ⟨(ad216.add ((x9_1).toNat * 5)).block, (ad216.add ((x9_1).toNat * 5)).off + 1, none⟩ = some (.int .i64 ((rd_T32 l0 x9_1).f0.f0.f1)) ∧ w'.cell? ⟨(ad216.add ((x9_1).toNat * 5)).block, (ad216.add ((x9_1).toNat * 5)).off + 2, none⟩ = some (.int .u64 ((rd_T32 l0 x9_1).f0.f1)) ∧ w'.cell? ⟨(ad216.add ((x9_1).toNat * 5)).block, (ad216.add ((x9_1).toNat * 5)).off + 3, none⟩ = some (.int .i64 ((rd_T32 l0 x9_1).f0.f2)) ∧ w'.cell? ⟨(ad216.add ((x9_1).toNat * 5)).block, (ad216.add ((x9_1).toNat * 5)).off + 4, none⟩ = some (.slice A216_4 ((rd_T32 l0 x9_1).f1).length c216_4)) (ds := []) #[F_,F_,F_,F_,F_,F_,F_,F_,F_,F_,F_,F_,F_,F_,F_,F_] (by kernel_rfl) rfl rfl ⟨(blk_cell BK213.out 0).trans rfl, (blk_cell BK213.out 1).trans rfl, (blk_cell BK213.out 2).trans rfl, (blk_cell BK213.out 3).trans rfl, ((HB.out.cell (World.block_lt_of_cell? w _ hw216_0)).trans hw216_0), ((HB.out.cell (World.block_lt_of_cell? w _ hw216_1)).trans hw216_1), ((HB.out.cell (World.block_lt_of_cell? w _ hw216_2)).trans hw216_2), ((HB.out.cell (World.block_lt_of_cell? w _ hw216_3)).trans hw216_3), ((HB.out.cell (World.block_lt_of_cell? w _ hw216_4)).trans hw216_4)⟩ (fun hHeld => ?_); refine with_tabW api_Label_70.tab8 api_Label_70.bits8 (fun HT_ HW_ => ?_)
       generalize wr.drew = w18 at BK213 HB HR216_4 hx216_0 hx216_1 hx216_2 hx216_3 hx216_4 hHeld ⊢
       refine pure_ (i := 0) (N := some 35) (v := ?_) (a' := ?_) #[T_,F_,F_,F_,F_,F_,F_,F_,F_,F_,F_,F_,F_,F_,F_,F_] rfl rfl (any_of HT_.out (by kernel_rfl)) (fun _ _ _ h => h) (Or.inl ⟨by rfl, ?_⟩) ?_ ?_
       rotate_left
       ·
        intro w'; go_simp; with_reducible rfl
       rotate_left
       ·
        exact zp_
       refine pure_ (i := 1) (N := some 36) (v := ?_) (a' := ?_) #[T_,T_,F_,F_,F_,F_,F_,F_,F_,F_,F_,F_,F_,F_,F_,F_] rfl rfl (any_of HT_.out (by kernel_rfl)) (fun _ _ _ h => h) (Or.inl ⟨by rfl, ?_⟩) ?_ ?_
       rotate_left
       ·
        intro w'; go_simp; with_reducible rfl
       rotate_left
       ·
        exact zp_
       refine pure_ (i := 2) (N := some 37) (v := ?_) (a' := ?_) #[T_,T_,T_,F_,F_,F_,F_,F_,F_,F_,F_,F_,F_,F_,F_,F_] rfl rfl (any_of HT_.out (by kernel_rfl)) (fun _ _ _ h => h) (Or.inl ⟨by rfl, ?_⟩) ?_ ?_
       rotate_left
       ·
        intro w'; go_simp; with_reducible rfl
       rotate_left
       ·
        exact zp_
       refine pure_ (i := 3) (N := some 38) (v := ?_) (a' := ?_) #[T_,T_,T_,T_,F_,F_,F_,F_,F_,F_,F_,F_,F_,F_,F_,F_] rfl rfl (any_of HT_.out (by kernel_rfl)) (fun _ _ _ h => h) (Or.inl ⟨by rfl, ?_⟩) ?_ ?_
       rotate_left
       ·
        intro w'; go_simp; with_reducible rfl
       rotate_left
       ·
        exact zp_
       refine pure_ (i := 4) (N := some 39) (v := ?_) (a' := ?_) #[T_,T_,T_,T_,T_,F_,F_,F_,F_,F_,F_,F_,F_,F_,F_,F_] rfl rfl (any_of HT_.out (by kernel_rfl)) (fun _ _ _ h => h) (Or.inl ⟨by rfl, ?_⟩) ?_ ?_
       rotate_left
       ·
        intro w'; go_simp; with_reducible rfl
       rotate_left
       ·
        exact zp_
       refine pure_ (i := 5) (N := some 40) (v := ?_) (a' := ?_) #[T_,T_,T_,T_,T_,T_,F_,F_,F_,F_,F_,F_,F_,F_,F_,F_] rfl rfl (any_of HT_.out (by kernel_rfl)) (fun _ _ _ h => h) (Or.inl ⟨by rfl, ?_⟩) ?_ ?_
       rotate_left
       ·
        intro w'; go_simp; with_reducible rfl
       rotate_left
       ·
        exact zp_
       refine pure_ (i := 6) (N := some 41) (v := ?_) (a' := ?_) #[T_,T_,T_,T_,T_,T_,T_,F_,F_,F_,F_,F_,F_,F_,F_,F_] rfl rfl (any_of HT_.out (by kernel_rfl)) (fun _ _ _ h => h) (Or.inl ⟨by rfl, ?_⟩) ?_ ?_
       rotate_left
       ·
        intro w'; go_simp; with_reducible rfl
       rotate_left
       ·
        exact zp_
       refine pure_ (i := 7) (N := some 42) (v := ?_) (a' := ?_) #[T_,T_,T_,T_,T_,T_,T_,T_,F_,F_,F_,F_,F_,F_,F_,F_] rfl rfl (any_of HT_.out (by kernel_rfl)) (fun _ _ _ h => h) (Or.inl ⟨by rfl, ?_⟩) ?_ ?_
       rotate_left
       ·
        intro w'; go_simp; with_reducible rfl
       rotate_left
       ·
        exact zp_
       refine pure_ (i := 8) (N := some 43) (v := ?_) (a' := ?_) #[T_,T_,T_,T_,T_,T_,T_,T_,T_,F_,F_,F_,F_,F_,F_,F_] rfl rfl (any_of HT_.out (by kernel_rfl)) (fun _ _ _ h => h) (Or.inl ⟨by rfl, ?_⟩) ?_ ?_
       rotate_left
       ·
        intro w'; go_simp; with_reducible rfl
       rotate_left
       ·
        exact zp_
       refine take_ (i := 9) (N := some 44) (v := ?_) (a' := ?_) #[T_,T_,T_,T_,T_,T_,T_,T_,T_,T_,F_,F_,F_,F_,F_,F_] rfl rfl (take_ofW HT_.out HW_.out (by kernel_rfl)) (fun _ _ _ h => h) (Or.inl ⟨by rfl, ?_⟩) hHeld ?_ ?_
       rotate_left
       ·
        rintro w' ⟨s0, s1, s2, s3, s4, s5, s6, s7, s8⟩
        go_simp
        with_reducible rfl
       rotate_left
       ·
        exact zp_
       refine take_ (i := 10) (N := some 45) (v := ?_) (a' := ?_) #[T_,T_,T_,T_,T_,T_,T_,T_,T_,T_,T_,F_,F_,F_,F_,F_] rfl rfl (take_ofW HT_.out HW_.out (by kernel_rfl)) (fun _ _ _ h => h) (Or.inl ⟨by rfl, ?_⟩) hHeld ?_ ?_
       rotate_left
       ·
        rintro w' ⟨s0, s1, s2, s3, s4, s5, s6, s7, s8⟩
        go_simp
        with_reducible rfl
       rotate_left
       ·
        exact zp_
       refine one_ (i := 11) (N := some 46) #[T_,T_,T_,T_,T_,T_,T_,T_,T_,T_,T_,T_,F_,F_,F_,F_] rfl rfl (one_of HT_.out (by kernel_rfl)) (by decide) (fun K hK => ?_)
       refine goesV_ Try.func73 (by kernel_rfl) rfl #[.agg #[.int .u64 ((rd_T32 l0 x9_1).f0.f0.f0), .int .i64 ((rd_T32 l0 x9_1).f0.f0.f1), .int .u64 ((rd_T32 l0 x9_1).f0.f1), .int .i64 ((rd_T32 l0 x9_1).f0.f2), .slice A216_4 ((rd_T32 l0 x9_1).f1).length c216_4], .agg #[.int .u64 a1_0, .int .i64 a1_1, .int .u64 a1_2, .int .i64 a1_3]] (by rfl) rfl rfl rfl za_ ?_
       with_reducible refine (content_Put_1.calls k1 ((rd_T32 l0 x9_1).f0.f0.f0) ((rd_T32 l0 x9_1).f0.f0.f1) ((rd_T32 l0 x9_1).f0.f1) ((rd_T32 l0 x9_1).f0.f2) _ _ ((rd_T32 l0 x9_1).f1) a1_0 a1_1 a1_2 a1_3 t217 _ ?side1 ?side2 A17.out).mono ?_
       (case side1 => exact zc_ HR216_4 HB)
       (case side2 => exact HC216_4.out)
       rintro e w19 ⟨rfl, hb⟩
       refine ⟨_, rfl, ?_⟩
       have n0_ := zk_ BK213 hb
       have n1_ := Aside0.mk (below_step zb_ hb)
       clear BK213
       clear HB
       have BK213 := n0_
       have HB := n1_
       clear n0_ n1_
       (try clear hb)
       (try clear hb2)
       (try clear hk)
       (try clear hi)
       refine hK.out _ _ ⟨(blk_cell BK213.out 0).trans rfl, (blk_cell BK213.out 1).trans rfl, (blk_cell BK213.out 2).trans rfl, (blk_cell BK213.out 3).trans rfl, ((HB.out.cell (World.block_lt_of_cell? w _ hw216_0)).trans hw216_0), ((HB.out.cell (World.block_lt_of_cell? w _ hw216_1)).trans hw216_1), ((HB.out.cell (World.block_lt_of_cell? w _ hw216_2)).trans hw216_2), ((HB.out.cell (World.block_lt_of_cell? w _ hw216_3)).trans hw216_3), ((HB.out.cell (World.block_lt_of_cell? w _ hw216_4)).trans hw216_4)⟩ (fun hHeld => ?_)
       clear hK K
       refine norm_ (a' := ?_) ?_ ?_
       rotate_left
       ·
        show Act.put _ (some 46) _ = _
        simp only [Act.put, List.setIfInBounds_toArray, List.set_cons_zero, List.set_cons_succ, i64_w, i32_w]
        rfl
       refine pure_ (i := 12) (N := some 47) (v := ?_) (a' := ?_) #[T_,T_,T_,T_,T_,T_,T_,T_,T_,T_,T_,T_,T_,F_,F_,F_] rfl rfl (any_of HT_.out (by kernel_rfl)) (fun _ _ _ h => h) (Or.inl ⟨by rfl, ?_⟩) ?_ ?_
       rotate_left
       ·
        intro w'; go_simp; with_reducible rfl
       rotate_left
       ·
        exact zp_
       refine pure_ (i := 13) (N := some 48) (v := ?_) (a' := ?_) #[T_,T_,T_,T_,T_,T_,T_,T_,T_,T_,T_,T_,T_,T_,F_,F_] rfl rfl (any_of HT_.out (by kernel_rfl)) (fun _ _ _ h => h) (Or.inl ⟨by rfl, ?_⟩) ?_ ?_
       rotate_left
       ·
        intro w'; go_simp; with_reducible rfl
       rotate_left
       ·
        exact zp_
       refine pure_ (i := 14) (N := some 6) (v := ?_) (a' := ?_) #[T_,T_,T_,T_,T_,T_,T_,T_,T_,T_,T_,T_,T_,T_,T_,F_] rfl rfl (any_of HT_.out (by kernel_rfl)) (fun _ _ _ h => h) (Or.inl ⟨by rfl, ?_⟩) ?_ ?_
       rotate_left
       ·
        intro w'; go_simp; with_reducible rfl
       rotate_left
       ·
        exact zp_
       refine pure_ (i := 15) (N := some 7) (v := ?_) (a' := ?_) #[T_,T_,T_,T_,T_,T_,T_,T_,T_,T_,T_,T_,T_,T_,T_,T_] rfl rfl (any_of HT_.out (by kernel_rfl)) (fun _ _ _ h => h) (Or.inl ⟨by rfl, ?_⟩) ?_ ?_
       rotate_left
       ·
        intro w'; go_simp; with_reducible rfl
       rotate_left
       ·
        exact zp_
       refine done_ (done_of HT_.out (by kernel_rfl)) ?_
       (try clear hHeld); (try clear HS0_)
       try go_wp2
       go_ret2
       exact ⟨by first | rfl | (simp [errW_none, errW_some] <;> rfl) | (simp [*, errW_none, errW_some] <;> rfl), by repeat (first | (with_reducible first | exact HB.out | apply below_alloc | apply pw_below_drewN | apply below_drew1 | refine below_set ?_ GE213.out) | exact HB.out)⟩
      ·
       rw [if_neg c16] at H
       exact absurd H (by simp)
     ·
      rw [if_neg c15] at H
      exact absurd H (by simp)
    ·
     rw [if_neg c14] at H
     have c14b0 : decide (x9_1 < (l0.length : Int)) = false := decide_eq_false c14
     clear c14
     simp only [Option.some.injEq, Prod.mk.injEq] at H
     obtain ⟨rfl, rfl⟩ := H
     try go_wp2
     have n0_ := Aside0.mk (blk_drew BK213.out)
     have n1_ := Aside0.mk (below_drew1 HB.out)
     clear BK213
     clear HB
     have BK213 := n0_
     have HB := n1_
     clear n0_ n1_
     refine start_ (n := 16) (S := fun w' => True) (ds := []) #[F_,F_,F_,F_,F_,F_,F_,F_,F_,F_,F_,F_,F_,F_,F_,F_] (by kernel_rfl) rfl rfl trivial (fun hHeld => ?_); refine with_tabW api_Label_70.tab8 api_Label_70.bits8 (fun HT_ HW_ => ?_)
     generalize wr.drew = w20 at BK213 HB hHeld ⊢
     refine pure_ (i := 0) (N := some 35) (v := ?_) (a' := ?_) #[T_,F_,F_,F_,F_,F_,F_,F_,F_,F_,F_,F_,F_,F_,F_,F_] rfl rfl (any_of HT_.out (by kernel_rfl)) (fun _ _ _ h => h) (Or.inl ⟨by rfl, ?_⟩) ?_ ?_
     rotate_left
     ·
      intro w'; go_simp; with_reducible rfl
     rotate_left
     ·
      exact zp_
     refine pure_ (i := 1) (N := some 36) (v := ?_) (a' := ?_) #[T_,T_,F_,F_,F_,F_,F_,F_,F_,F_,F_,F_,F_,F_,F_,F_] rfl rfl (any_of HT_.out (by kernel_rfl)) (fun _ _ _ h => h) (Or.inl ⟨by rfl, ?_⟩) ?_ ?_
     rotate_left
     ·
      intro w'; go_simp; with_reducible rfl
     rotate_left
     ·
      exact zp_
     refine pure_ (i := 2) (N := some 37) (v := ?_) (a' := ?_) #[T_,T_,T_,F_,F_,F_,F_,F_,F_,F_,F_,F_,F_,F_,F_,F_] rfl rfl (any_of HT_.out (by kernel_rfl)) (fun _ _ _ h => h) (Or.inl ⟨by rfl, ?_⟩) ?_ ?_
     rotate_left
     ·
      intro w'; go_simp; with_reducible rfl
     rotate_left
     ·
      exact zp_
     refine pure_ (i := 3) (N := some 38) (v := ?_) (a' := ?_) #[T_,T_,T_,T_,F_,F_,F_,F_,F_,F_,F_,F_,F_,F_,F_,F_] rfl rfl (any_of HT_.out (by kernel_rfl)) (fun _ _ _ h => h) (Or.inl ⟨by rfl, ?_⟩) ?_ ?_
     rotate_left
     ·
      intro w'; go_simp; with_reducible rfl
     rotate_left
     ·
      exact zp_
     refine pure_ (i := 4) (N := some 39) (v := ?_) (a' := ?_) #[T_,T_,T_,T_,T_,F_,F_,F_,F_,F_,F_,F_,F_,F_,F_,F_] rfl rfl (any_of HT_.out (by kernel_rfl)) (fun _ _ _ h => h) (Or.inl ⟨by rfl, ?_⟩) ?_ ?_
     rotate_left
     ·
      intro w'; go_simp; with_reducible rfl
     rotate_left
     ·
      exact zp_
     refine pure_ (i := 5) (N := some 40) (v := undef) (a' := ?_) #[T_,T_,T_,T_,T_,T_,F_,F_,F_,F_,F_,F_,F_,F_,F_,F_] rfl rfl (any_of HT_.out (by kernel_rfl)) (fun _ _ _ h => h) (Or.inr ⟨by rfl, rfl⟩) ?_ ?_
     rotate_left
     ·
      exact zp_
     refine pure_ (i := 6) (N := some 41) (v := undef) (a' := ?_) #[T_,T_,T_,T_,T_,T_,T_,F_,F_,F_,F_,F_,F_,F_,F_,F_] rfl rfl (any_of HT_.out (by kernel_rfl)) (fun _ _ _ h => h) (Or.inr ⟨by rfl, rfl⟩) ?_ ?_
     rotate_left
     ·
      exact zp_
     refine pure_ (i := 7) (N := some 42) (v := undef) (a' := ?_) #[T_,T_,T_,T_,T_,T_,T_,T_,F_,F_,F_,F_,F_,F_,F_,F_] rfl rfl (any_of HT_.out (by kernel_rfl)) (fun _ _ _ h => h) (Or.inr ⟨by rfl, rfl⟩) ?_ ?_
     rotate_left
     ·
      exact zp_
     refine pure_ (i := 8) (N := some 43) (v := undef) (a' := ?_) #[T_,T_,T_,T_,T_,T_,T_,T_,T_,F_,F_,F_,F_,F_,F_,F_] rfl rfl (any_of HT_.out (by kernel_rfl)) (fun _ _ _ h => h) (Or.inr ⟨by rfl, rfl⟩) ?_ ?_
     rotate_left
     ·
      exact zp_
     refine pure_ (i := 9) (N := some 44) (v := undef) (a' := ?_) #[T_,T_,T_,T_,T_,T_,T_,T_,T_,T_,F_,F_,F_,F_,F_,F_] rfl rfl (any_of HT_.out (by kernel_rfl)) (fun _ _ _ h => h) (Or.inr ⟨by rfl, rfl⟩) ?_ ?_
     rotate_left
     ·
      exact zp_
     refine pure_ (i := 10) (N := some 45) (v := undef) (a' := ?_) #[T_,T_,T_,T_,T_,T_,T_,T_,T_,T_,T_,F_,F_,F_,F_,F_] rfl rfl (any_of HT_.out (by kernel_rfl)) (fun _ _ _ h => h) (Or.inr ⟨by rfl, rfl⟩) ?_ ?_
     rotate_left
     ·
      exact zp_
     refine pure_ (i := 11) (N := some 46) (v := undef) (a' := ?_) #[T_,T_,T_,T_,T_,T_,T_,T_,T_,T_,T_,T_,F_,F_,F_,F_] rfl rfl (any_of HT_.out (by kernel_rfl)) (fun _ _ _ h => h) (Or.inr ⟨by rfl, rfl⟩) ?_ ?_
     rotate_left
     ·
      exact zp_
     refine pure_ (i := 12) (N := some 47) (v := undef) (a' := ?_) #[T_,T_,T_,T_,T_,T_,T_,T_,T_,T_,T_,T_,T_,F_,F_,F_] rfl rfl (any_of HT_.out (by kernel_rfl)) (fun _ _ _ h => h) (Or.inr ⟨by rfl, rfl⟩) ?_ ?_
     rotate_left
     ·
      exact zp_
     refine pure_ (i := 13) (N := some 48) (v := ?_) (a' := ?_) #[T_,T_,T_,T_,T_,T_,T_,T_,T_,T_,T_,T_,T_,T_,F_,F_] rfl rfl (any_of HT_.out (by kernel_rfl)) (fun _ _ _ h => h) (Or.inl ⟨by rfl, ?_⟩) ?_ ?_
     rotate_left
     ·
      intro w'; go_simp; with_reducible rfl
     rotate_left
     ·
      exact zp_
     refine pure_ (i := 14) (N := some 6) (v := ?_) (a' := ?_) #[T_,T_,T_,T_,T_,T_,T_,T_,T_,T_,T_,T_,T_,T_,T_,F_] rfl rfl (any_of HT_.out (by kernel_rfl)) (fun _ _ _ h => h) (Or.inl ⟨by rfl, ?_⟩) ?_ ?_
     rotate_left
     ·
      intro w'; go_simp; with_reducible rfl
     rotate_left
     ·
      exact zp_
     refine pure_ (i := 15) (N := some 7) (v := ?_) (a' := ?_) #[T_,T_,T_,T_,T_,T_,T_,T_,T_,T_,T_,T_,T_,T_,T_,T_] rfl rfl (any_of HT_.out (by kernel_rfl)) (fun _ _ _ h => h) (Or.inl ⟨by rfl, ?_⟩) ?_ ?_
     rotate_left
     ·
      intro w'; go_simp; with_reducible rfl
     rotate_left
     ·
      exact zp_
     refine done_ (done_of HT_.out (by kernel_rfl)) ?_
     (try clear hHeld); (try clear HS0_)
     try go_wp2
     go_ret2
     exact ⟨by first | rfl | (simp [errW_none, errW_some] <;> rfl) | (simp [*, errW_none, errW_some] <;> rfl), by repeat (first | (with_reducible first | exact HB.out | apply below_alloc | apply pw_below_drewN | apply below_drew1 | refine below_set ?_ GE213.out) | exact HB.out)⟩
end Go.Proofs.Ytioooiflpabngaa.PAll
end
section
namespace Go.Proofs.Ytioooiflpabngaa.PAll
open Go.RowKit Go.Proofs.YtioooiflpabngaaW.PrintWords Go.Proofs.YtioooiflpabngaaW.PrintLast Go.Proofs.YtioooiflpabngaaW.PrintMore
set_option linter.unusedVariables false
set_option linter.unusedSimpArgs false
theorem rise_of_risingE : ∀ {l : List S32}, risingE l = true → Rise l
  | [], _ => List.Pairwise.nil
  | [a], _ => List.pairwise_singleton _ _
  | a :: b :: l, h => by
    unfold risingE at h
    simp only [Bool.and_eq_true, decide_eq_true_eq] at h
    have ih := rise_of_risingE h.2
    refine List.pairwise_cons.2 ⟨fun y hy => ?_, ih⟩
    have hab := (cmpL_neg _ _).1 h.1
    rcases List.mem_cons.1 hy with rfl | hy
    · exact hab
    · exact ltL_trans hab ((List.pairwise_cons.1 ih).1 y hy)
theorem putE_split (x : S32) : ∀ (l : List S32) (n : Nat), n ≤ l.length → (∀ t (ht : t < l.length), t < n → cmpL l[t].f0 x.f0 < 0) → (∀ t (ht : t < l.length), n ≤ t → ¬ cmpL l[t].f0 x.f0 < 0) →
    putE l x = if (if h : n < l.length then decide (cmpL l[n].f0 x.f0 = 0) else false) = true then l else l.take n ++ [x] ++ l.drop n := by
  intro l
  induction l with
  | nil => intro n h1 h2 h3; simp at h1; subst h1; simp [putE]
  | cons a l ih =>
    intro n h1 h2 h3
    cases n with
    | zero =>
      have h0 := h3 0 (by simp) (Nat.le_refl _)
      simp only [List.getElem_cons_zero] at h0
      rw [putE, if_neg h0]
      by_cases hc : cmpL a.f0 x.f0 = 0 <;> simp [hc]
    | succ n =>
      have h0 := h2 0 (by simp) (Nat.succ_pos _)
      simp only [List.getElem_cons_zero] at h0
      rw [putE, if_pos h0, ih n (by simpa using h1) (fun t ht htn => by have h4 := h2 (t + 1) (by simpa using ht) (by omega); rwa [List.getElem_cons_succ] at h4) (fun t ht htn => by have h4 := h3 (t + 1) (by simpa using ht) (by omega); rwa [List.getElem_cons_succ] at h4)]
      by_cases hlt : n < l.length
      · by_cases hc : cmpL l[n].f0 x.f0 = 0 <;> simp [hlt, hc]
      · simp [hlt]
theorem reps_all {α : Type} {R : α → List Value → Prop} {sz : Nat} {ps : List α} {cs : List Value} {C : Value → Prop} (hsz : 0 < sz) (h : Reps R sz ps cs) (h1 : ∀ p c, R p c → ∀ u ∈ c, C u) : ∀ u ∈ cs, C u := by
  intro u hu
  obtain ⟨t, ht, rfl⟩ := List.getElem_of_mem hu
  have hl := h.1
  have hj : t / sz < ps.length := Nat.div_lt_of_lt_mul (by rw [Nat.mul_comm]; omega)
  refine h1 _ _ (h.2 (t / sz) _ (List.getElem?_eq_getElem hj)) _ (List.mem_iff_getElem?.2 ⟨t % sz, ?_⟩)
  have e : t / sz * sz + t % sz = t := by rw [Nat.mul_comm]; exact Nat.div_add_mod t sz
  rw [List.getElem?_take, if_pos (Nat.mod_lt _ hsz), List.getElem?_drop, e, List.getElem?_eq_getElem ht]
theorem step_callS {P : Program} {w : World} {ops : Array Oper} {o : Oper} {a : Act} {K : Act → World → Prop} {Q : Exit → Act → World → Prop} {E : Prop} (hgd : o.guard = none) {f : FuncId} {fn : Func} {as_ : Array Operand} {ts : Array TypeId} (hf : P.funcs[f]? = some fn) (hname : (fn.name == "runtime.NumGoroutine") = false) (hb : fn.body.isSome = true) (args : Array Value)
    (hop : o.op = .call { callee := .value (.func f), args := as_, argTypes := ts }) (hargs : as_.map a.eval = args)
    (h : Calls P f args w fun e w' => ∃ v, e = .returned v ∧ K (a.put o.dst v) w') : if Region.wanted o (yielded ops a.tmps) = true then Oper.wp P o a w K Q else E := by
  have hw : Region.wanted o (yielded ops a.tmps) = true := by simp [Region.wanted, hgd]
  have h2 := goes_ (ops := ops) (Q := Q) (K := K) (N := o.dst) hf hname hb args hw rfl hop hargs h
  rw [if_pos hw] at h2 ⊢
  exact h2
theorem size_alloc_ (W : World) (o : Obj) : (W.alloc o).heap.size = W.heap.size + 1 := Array.size_push ..
theorem size_drew_ (W : World) : W.drew.heap.size = W.heap.size := rfl
theorem own_below {w w1 : World} {base n sz : Nat} {e : TypeId} {v : Value} {xs : List Value} (h : w.ownsRow base e sz v n xs) (hb : Below w.heap.size w w1) : w1.ownsRow base e sz v n xs :=
  own_move h fun k hk => hb.block k (h.lt k hk).2
theorem own_ne_new {w : World} {base n sz : Nat} {e : TypeId} {v : Value} {xs : List Value} (h : w.ownsRow base e sz v n xs) : v.ownBlock ≠ some w.heap.size := fun he => by have := (h.lt _ he).2; omega
theorem own_ne_old {w : World} {base n sz vb : Nat} {e : TypeId} {v : Value} {xs : List Value} (h : w.ownsRow base e sz v n xs) (hv : vb < base) : v.ownBlock ≠ some vb := fun he => by have := (h.lt _ he).1; omega
theorem ne_of_R {wb wc : World} {e e2 base base2 n sz : Nat} {ok : Nat → Prop} {v1 v2 : Value} {xs : List Int} {ys : List Value} (hB : Kd.R (Kd.int .u8) e2 wb base2 ok v2 xs) (hC : wc.ownsRow base e sz v1 n ys) (h : wc.heap.size ≤ base2 ∨ wb.heap.size ≤ base) : ∀ k, some k = v2.ownBlock → some k ≠ v1.ownBlock := by
  intro k h1 h2
  obtain ⟨_, inn, ho, _⟩ := hB
  have a := ho.lt k h1.symm
  have b := hC.lt k h2.symm
  omega
theorem put_end {P0 : Nat → Prop} {w wb wc wf : World} {l0 : List S32} {inner : List Value} {n base base2 : Nat} {v1 v3 : Value} {A2 : Option Addr} {c2 : Nat} (hrep : Reps (fun x c => Kd.FK k32 w P0 x c) 5 l0 inner) (hn : n ≤ l0.length) (x : S32)
    (hB : Kd.R (Kd.int .u8) 5 wb base2 (fun _ => True) (.slice A2 x.f1.length c2) x.f1) (hwb : w.heap.size ≤ wb.heap.size) (hbc : Below wb.heap.size wb wc) (hfr : ∀ k, k < wc.heap.size → some k ≠ v1.ownBlock → wf.heap[k]? = wc.heap[k]?)
    (hwc : Below w.heap.size w wc) (hf : Below w.heap.size wc wf) (hown : wf.ownsRow base 32 5 v3 (l0.length + 1) (inner.take (n * 5) ++ [.int .u64 x.f0.f0.f0, .int .i64 x.f0.f0.f1, .int .u64 x.f0.f1, .int .i64 x.f0.f2, .slice A2 x.f1.length c2] ++ inner.drop (n * 5)))
    (hm : l0.length + 1 ≤ 9223372036854775807) (hne : ∀ k, some k = (Value.slice A2 x.f1.length c2).ownBlock → some k ≠ v1.ownBlock) (hbs : w.heap.size ≤ base) (hb2 : w.heap.size ≤ base2) :
    Kd.V k32 32 wf w.heap.size (fun k_ => (P0 k_ ∨ w.heap.size ≤ k_)) v3 (l0.take n ++ [x] ++ l0.drop n) ∧ Below w.heap.size w wf := by
  have hall : Below w.heap.size w wf := hwc.trans hf
  refine ⟨?_, hall⟩
  have hold : Reps (fun x c => Kd.FK k32 wf (fun k_ => P0 k_ ∨ w.heap.size ≤ k_) x c) 5 l0 inner :=
    hrep.imp_ (fun _ _ hp => Kd.FK_mono (Kd.FK_below hp hall) (fun k hk => .inl hk))
  obtain ⟨_, inn, ho, _⟩ := id hB
  have hbl : ∀ k, some k = (Value.slice A2 x.f1.length c2).ownBlock → w.heap.size ≤ k ∧ k < wb.heap.size := fun k hk => by
    have := ho.lt k hk.symm
    omega
  have hcap : x.f1.length ≤ c2 := by
    rcases ho.2 with ⟨he, h0⟩ | ⟨g, cap, cur, he, _, _, hnc, _⟩
    · injection he with _ h1 h2
      omega
    · injection he with _ h1 h2
      omega
  have hF0 : Kd.F (Kd.int .u8) wb (fun k => some k = (Value.slice A2 x.f1.length c2).ownBlock) A2 x.f1.length x.f1 := Kd.R_F (Kd.R_tight rfl hB)
  have hF1 : Kd.F (Kd.int .u8) wc (fun k => some k = (Value.slice A2 x.f1.length c2).ownBlock) A2 x.f1.length x.f1 := Kd.F_below hF0 hbc
  have hF2 : Kd.F (Kd.int .u8) wf (fun k => some k = (Value.slice A2 x.f1.length c2).ownBlock) A2 x.f1.length x.f1 :=
    Kd.F_step hF1 (fun k hk hlt => hfr k hlt (hne k hk))
  have hx : Kd.FK k32 wf (fun k_ => P0 k_ ∨ w.heap.size ≤ k_) x [.int .u64 x.f0.f0.f0, .int .i64 x.f0.f0.f1, .int .u64 x.f0.f1, .int .i64 x.f0.f2, .slice A2 x.f1.length c2] :=
    k32_mkF wf _ x hcap (Kd.F_mono hF2 (fun k hk => .inr (hbl k hk).1))
  have hone : Reps (fun x c => Kd.FK k32 wf (fun k_ => P0 k_ ∨ w.heap.size ≤ k_) x c) 5 [x] [.int .u64 x.f0.f0.f0, .int .i64 x.f0.f0.f1, .int .u64 x.f0.f1, .int .i64 x.f0.f2, .slice A2 x.f1.length c2] := by
    refine ⟨rfl, fun j p hj => ?_⟩
    rcases j with _ | j
    · injection hj with hj
      subst hj
      exact hx
    · cases hj
  have hr := Kd.reps_append (Kd.reps_append (Kd.reps_take hold hn) hone) (Kd.reps_drop (m := n) hold)
  exact (V_of_own (d := k32) (ok := fun k_ => P0 k_ ∨ w.heap.size ≤ k_) (ok' := fun k_ => P0 k_ ∨ w.heap.size ≤ k_) hown (by simp; omega) hr (fun k hk => hk) (fun k hk => .inr (by omega)) hm : Kd.V k32 32 wf base (fun k_ => P0 k_ ∨ w.heap.size ≤ k_) v3 (l0.take n ++ [x] ++ l0.drop n))
set_option maxHeartbeats 2000000 in
set_option maxRecDepth 100000 in
theorem content_Put.calls (P0_ : Nat → Prop) (A0 : Option Addr) (c0 : Nat) (l0 : List S32) (a1_0 a1_1 a1_2 a1_3 : Int) (A1_4 : Option Addr) (c1_4 : Nat) (l1_4 : List Int) (r : List S32) (w : World) (hs0 : Kd.V k32 32 w w.heap.size (fun k_ => P0_ k_) (.slice A0 l0.length c0) l0) (hr1_4 : Kd.C (Kd.int .u8) w A1_4 l1_4.length l1_4) (hc1_4 : l1_4.length ≤ c1_4) (h : content_Put.f l0 a1_0 a1_1 a1_2 a1_3 l1_4 = some r) :
    Calls Try.prog 26 #[.slice A0 l0.length c0, .agg #[.int .u64 a1_0, .int .i64 a1_1, .int .u64 a1_2, .int .i64 a1_3, .slice A1_4 l1_4.length c1_4]] w fun e w' => ∃ v0_ : Value, e = .returned (v0_) ∧ Kd.V k32 32 w' w.heap.size (fun k_ => (P0_ k_ ∨ w.heap.size ≤ k_)) v0_ r ∧ Below w.heap.size w w' := by
  obtain ⟨⟨hrise, hlen, hml⟩, rfl⟩ := of_if_some h
  clear h
  have hR := rise_of_risingE hrise
  obtain ⟨n, hn1, hA, hB', hev⟩ := search_ev l0 ⟨⟨a1_0, a1_1⟩, a1_2, a1_3⟩ hR (by omega)
  rw [putE_split ⟨⟨⟨a1_0, a1_1⟩, a1_2, a1_3⟩, l1_4⟩ l0 n hn1 hA hB']
  obtain ⟨k, hk⟩ := hev.get
  clear hev hA hB' hrise
  have hu32 := Try.underlying32
  have HS0 := Aside0.mk hs0
  have HR0 := Aside0.mk (Kd.V_reads' hs0).2.2
  have HC0 := Aside0.mk (Kd.V_reads' hs0).2.1
  have HR4 := Aside0.mk hr1_4
  have HC4 := Aside0.mk hc1_4
  have HRise := Aside0.mk hR
  have HLen := Aside0.mk hlen
  have HML := Aside0.mk hml
  have HN1 := Aside0.mk hn1
  clear hs0 hr1_4 hc1_4 hR hlen hml hn1
  have HB := Aside0.mk (Below.refl w.heap.size w)
  by_cases hf : (if h : n < l0.length then decide (cmpL l0[n].f0 ⟨⟨a1_0, a1_1⟩, a1_2, a1_3⟩ = 0) else false) = true
  · rw [if_pos hf]
    rw [hf] at hk
    have HK := Aside0.mk (show api_Label_70.f k l0 a1_0 a1_1 a1_2 a1_3 = some ((n : Int), true) from hk)
    clear hk hf
    go_enter Try.func26, Try.ntmps26
    go_wp2_with (first | ((with_reducible refine gate_dst (N := 3) rfl ?_); refine box_event ?hg (N := 3) ?hd (cs := #[.int .u64 a1_0, .int .i64 a1_1, .int .u64 a1_2, .int .i64 a1_3, .slice A1_4 l1_4.length c1_4]) (t := 32) ?hr ?_; (case hd => rfl); (case hg => rfl); (case hr => first | (go_simp; done) | (go_simp; rfl)); intro gb hg w3 hbox hb; have BK := Aside0.mk hbox; have HB3 := Aside0.mk hb; have HG := Aside0.mk hg; have hcz0 : w3.cell? ⟨gb, 0, none⟩ = some (.int .u64 a1_0) := (blk_cell BK.out 0).trans rfl; have hcz1 : w3.cell? ⟨gb, 1, none⟩ = some (.int .i64 a1_1) := (blk_cell BK.out 1).trans rfl; have hcz2 : w3.cell? ⟨gb, 2, none⟩ = some (.int .u64 a1_2) := (blk_cell BK.out 2).trans rfl; have hcz3 : w3.cell? ⟨gb, 3, none⟩ = some (.int .i64 a1_3) := (blk_cell BK.out 3).trans rfl; have hfz0 := blk_frozen BK.out 0; have hfz1 := blk_frozen BK.out 1; have hfz2 := blk_frozen BK.out 2; have hfz3 := blk_frozen BK.out 3; clear hbox hb hg) | ((with_reducible refine gate_callee (f := 70) rfl ?_); refine goesL_ (some 11) rfl rfl Try.func70 (by kernel_rfl) rfl #[.slice A0 l0.length c0, .agg #[.int .u64 a1_0, .int .i64 a1_1, .int .u64 a1_2, .int .i64 a1_3], .func (.func 73) #[] #[]] rfl (by (try simp only [List.map_toArray, List.map_cons, List.map_nil]); first | done | rfl) ?_; (with_reducible refine (api_Label_70p.calls k _ _ l0 a1_0 a1_1 a1_2 a1_3 _ _ _ ?side1 ?side2 HK.out).mono ?_); (case side1 => exact Kd.C_below HR0.out HB3.out); (case side2 => exact HC0.out); rintro e w10 ⟨rfl, hb⟩; refine ⟨_, rfl, ?_⟩; have HB4 := Aside0.mk (below_step HB3.out hb); clear hb))
    go_ret
    exact ⟨_, rfl, Kd.V_mono (Kd.V_below HS0.out HB4.out) (fun k_ hk => .inl hk), HB4.out⟩
  · rw [if_neg hf]
    rw [Bool.not_eq_true] at hf
    rw [hf] at hk
    have HK := Aside0.mk (show api_Label_70.f k l0 a1_0 a1_1 a1_2 a1_3 = some ((n : Int), false) from hk)
    clear hk hf
    have mixed : Try.prog.follows Departure.mixedOrders = true := by kernel_rfl
    obtain ⟨inner, hrep, hcell⟩ : ∃ inner, Reps (fun x c => Kd.FK k32 w (fun k_ => P0_ k_) x c) 5 l0 inner ∧ ∀ ad, A0 = some ad → ∀ j u, inner[j]? = some u → w.cell? (ad.add j) = some u := by
      have hrows := Kd.F_rows (Kd.V_F HS0.out)
      rcases A0 with _ | ad
      · have hnil := C_none HR0.out
        subst hnil
        exact ⟨[], Reps.none _ _, fun ad h => by cases h⟩
      · obtain ⟨inner, h1, h2⟩ := hrows.inner_
        exact ⟨inner, h1, fun ad' h => by injection h with h; subst h; exact h2⟩
    have HREP := Aside0.mk hrep
    have HCELL := Aside0.mk hcell
    have HIL := Aside0.mk hrep.1
    have HI1 := Aside0.mk (reps_all (C := fun u => u.oneCell' = true) (by decide) hrep (fun p c hp => k32.K_one (Kd.FK_now hp)))
    have HA0 := Aside0.mk (show A0 = none → l0.length = 0 from fun h => by subst h; rw [C_none HR0.out]; rfl)
    clear hrep hcell
    go_enter Try.func26, Try.ntmps26
    go_wp2_with (first | ((with_reducible refine gate_dst (N := 3) rfl ?_); refine box_event ?hg (N := 3) ?hd (cs := #[.int .u64 a1_0, .int .i64 a1_1, .int .u64 a1_2, .int .i64 a1_3, .slice A1_4 l1_4.length c1_4]) (t := 32) ?hr ?_; (case hd => rfl); (case hg => rfl); (case hr => first | (go_simp; done) | (go_simp; rfl)); intro gb hg w3 hbox hb; have BK := Aside0.mk hbox; have HB3 := Aside0.mk hb; have HG := Aside0.mk hg; have hcz0 : w3.cell? ⟨gb, 0, none⟩ = some (.int .u64 a1_0) := (blk_cell BK.out 0).trans rfl; have hcz1 : w3.cell? ⟨gb, 1, none⟩ = some (.int .i64 a1_1) := (blk_cell BK.out 1).trans rfl; have hcz2 : w3.cell? ⟨gb, 2, none⟩ = some (.int .u64 a1_2) := (blk_cell BK.out 2).trans rfl; have hcz3 : w3.cell? ⟨gb, 3, none⟩ = some (.int .i64 a1_3) := (blk_cell BK.out 3).trans rfl; have hfz0 := blk_frozen BK.out 0; have hfz1 := blk_frozen BK.out 1; have hfz2 := blk_frozen BK.out 2; have hfz3 := blk_frozen BK.out 3; clear hbox hb hg) | ((with_reducible refine gate_callee (f := 70) rfl ?_); refine goesL_ (some 11) rfl rfl Try.func70 (by kernel_rfl) rfl #[.slice A0 l0.length c0, .agg #[.int .u64 a1_0, .int .i64 a1_1, .int .u64 a1_2, .int .i64 a1_3], .func (.func 73) #[] #[]] rfl (by (try simp only [List.map_toArray, List.map_cons, List.map_nil]); first | done | rfl) ?_; (with_reducible refine (api_Label_70p.calls k _ _ l0 a1_0 a1_1 a1_2 a1_3 _ _ _ ?side1 ?side2 HK.out).mono ?_); (case side1 => exact Kd.C_below HR0.out HB3.out); (case side2 => exact HC0.out); rintro e w10 ⟨rfl, hb⟩; refine ⟨_, rfl, ?_⟩; have HB4 := Aside0.mk (below_step HB3.out hb); have BK4 := Aside0.mk (blk_below BK.out hb); clear hb; have hcy0 : w10.cell? ⟨gb, 0, none⟩ = some (.int .u64 a1_0) := (blk_cell BK4.out 0).trans rfl; have hcy1 : w10.cell? ⟨gb, 1, none⟩ = some (.int .i64 a1_1) := (blk_cell BK4.out 1).trans rfl; have hcy2 : w10.cell? ⟨gb, 2, none⟩ = some (.int .u64 a1_2) := (blk_cell BK4.out 2).trans rfl; have hcy3 : w10.cell? ⟨gb, 3, none⟩ = some (.int .i64 a1_3) := (blk_cell BK4.out 3).trans rfl; have hcy4 : w10.cell? ⟨gb, 4, none⟩ = some (.slice A1_4 l1_4.length c1_4) := (blk_cell BK4.out 4).trans rfl; have hfy0 := blk_frozen BK4.out 0; have hfy1 := blk_frozen BK4.out 1; have hfy2 := blk_frozen BK4.out 2; have hfy3 := blk_frozen BK4.out 3; have hfy4 := blk_frozen BK4.out 4))
    go_region_law_o (first
      | (refine step_callS rfl (f := 75) Try.func75 (by kernel_rfl) rfl #[.slice A0 l0.length c0] rfl (by simp [Act.eval, Act.put]) ?_; refine (clone_E A0 l0.length c0 inner _ HIL.out HA0.out (fun ad e_ j u hu => pw_cell_below (by repeat (first | exact HB4.out | exact HBB.out | exact HBC.out | apply below_drew1 | apply pw_below_drewN | apply below_alloc)) (HCELL.out ad e_ j u hu)) HI1.out HLen.out).mono ?_; rintro e wc ⟨v1, rfl, hown, hb⟩; refine ⟨_, rfl, ?_⟩; have HOC := Aside0.mk hown; have HBC0 := Aside0.mk hb; have HBC := Aside0.mk (below_step (by repeat (first | exact HB4.out | exact HBB.out | exact HBC.out | apply below_drew1 | apply pw_below_drewN | apply below_alloc)) hb); have BKC := Aside0.mk (blk_below (g := gb) (o := .cells #[.int .u64 a1_0, .int .i64 a1_1, .int .u64 a1_2, .int .i64 a1_3, .slice A1_4 l1_4.length c1_4] 32 (0, 0)) (by (repeat (first | exact BK4.out | exact BKB.out | exact BKC.out | refine blk_drewN ?_ _ | refine blk_drew ?_ | refine blk_alloc ?_ _))) hb); have hwc0 : wc.cell? ⟨gb, 0, none⟩ = some (.int .u64 a1_0) := (blk_cell BKC.out 0).trans rfl; have hwc1 : wc.cell? ⟨gb, 1, none⟩ = some (.int .i64 a1_1) := (blk_cell BKC.out 1).trans rfl; have hwc2 : wc.cell? ⟨gb, 2, none⟩ = some (.int .u64 a1_2) := (blk_cell BKC.out 2).trans rfl; have hwc3 : wc.cell? ⟨gb, 3, none⟩ = some (.int .i64 a1_3) := (blk_cell BKC.out 3).trans rfl; have hwc4 : wc.cell? ⟨gb, 4, none⟩ = some (.slice A1_4 l1_4.length c1_4) := (blk_cell BKC.out 4).trans rfl; have fwc0 := blk_frozen BKC.out 0; have fwc1 := blk_frozen BKC.out 1; have fwc2 := blk_frozen BKC.out 2; have fwc3 := blk_frozen BKC.out 3; have fwc4 := blk_frozen BKC.out 4; clear hown hb)
      | (refine step_callS rfl (f := 72) Try.func72 (by kernel_rfl) rfl #[.slice A1_4 l1_4.length c1_4] rfl (by simp [Act.eval, Act.put]) ?_; refine (bytes_Clone.calls A1_4 c1_4 l1_4 l1_4 _ (Kd.C_below HR4.out (by repeat (first | exact HB4.out | exact HBB.out | exact HBC.out | apply below_drew1 | apply pw_below_drewN | apply below_alloc))) HC4.out (by unfold bytes_Clone.f; rw [if_pos HML.out])).mono ?_; rintro e wb ⟨v2, rfl, ho, hb⟩; obtain ⟨A2, c2, rfl⟩ := Kd.R_slice ho; refine ⟨_, rfl, ?_⟩; have HOB := Aside0.mk ho; have HBB0 := Aside0.mk hb; have HBB := Aside0.mk (below_step (by repeat (first | exact HB4.out | exact HBB.out | exact HBC.out | apply below_drew1 | apply pw_below_drewN | apply below_alloc)) hb); have BKB := Aside0.mk (blk_below (g := gb) (o := .cells #[.int .u64 a1_0, .int .i64 a1_1, .int .u64 a1_2, .int .i64 a1_3, .slice A1_4 l1_4.length c1_4] 32 (0, 0)) (by (repeat (first | exact BK4.out | exact BKB.out | exact BKC.out | refine blk_drewN ?_ _ | refine blk_drew ?_ | refine blk_alloc ?_ _))) hb); have hwb0 : wb.cell? ⟨gb, 0, none⟩ = some (.int .u64 a1_0) := (blk_cell BKB.out 0).trans rfl; have hwb1 : wb.cell? ⟨gb, 1, none⟩ = some (.int .i64 a1_1) := (blk_cell BKB.out 1).trans rfl; have hwb2 : wb.cell? ⟨gb, 2, none⟩ = some (.int .u64 a1_2) := (blk_cell BKB.out 2).trans rfl; have hwb3 : wb.cell? ⟨gb, 3, none⟩ = some (.int .i64 a1_3) := (blk_cell BKB.out 3).trans rfl; have hwb4 : wb.cell? ⟨gb, 4, none⟩ = some (.slice A1_4 l1_4.length c1_4) := (blk_cell BKB.out 4).trans rfl; have fwb0 := blk_frozen BKB.out 0; have fwb1 := blk_frozen BKB.out 1; have fwb2 := blk_frozen BKB.out 2; have fwb3 := blk_frozen BKB.out 3; have fwb4 := blk_frozen BKB.out 4; clear ho hb)
      | (refine step_callS rfl (f := 74) Try.func74 (by kernel_rfl) rfl #[v1, .int .i64 (n : Int), .slice (some ⟨wb.heap.size, 0, none⟩) 1 1] rfl (by simp [Act.eval, Act.put]) ?_; refine (insert_one v1 l0.length n wb.heap.size inner [.int .u64 a1_0, .int .i64 a1_1, .int .u64 a1_2, .int .i64 a1_3, .slice A2 l1_4.length c2] _ _ HN1.out (by first | exact HOC.out | exact World.ownsRow.alloc HOC.out _ | exact World.ownsRow.alloc (own_below HOC.out HBB0.out) _ | exact own_below HOC.out HBB0.out) (by have s0_ := HB4.out.size; have s1_ := HBC0.out.size; have s2_ := HBB0.out.size; (try simp only [size_alloc_, size_drew_] at s0_ s1_ s2_ ⊢); omega) (by first | exact blk_new _ _ | exact blk_below (blk_new _ _) HBC0.out) rfl (by first | exact own_ne_new HOC.out | exact own_ne_new (own_below HOC.out HBB0.out) | exact own_ne_old HOC.out (by simp only [size_alloc_, size_drew_]; omega)) (by intro u hu; simp only [List.mem_cons, List.not_mem_nil, or_false] at hu; rcases hu with rfl | rfl | rfl | rfl | rfl <;> rfl) HI1.out HLen.out).mono ?_; rintro e wf ⟨v3, rfl, hown3, hb3, hfr3⟩; refine ⟨_, rfl, ?_⟩; have HO3 := Aside0.mk hown3; have HB3' := Aside0.mk hb3; have HFR := Aside0.mk hfr3; clear hown3 hb3 hfr3)
      | (refine step_callS rfl (f := 74) Try.func74 (by kernel_rfl) rfl #[v1, .int .i64 (n : Int), .slice (some ⟨wc.heap.size, 0, none⟩) 1 1] rfl (by simp [Act.eval, Act.put]) ?_; refine (insert_one v1 l0.length n wc.heap.size inner [.int .u64 a1_0, .int .i64 a1_1, .int .u64 a1_2, .int .i64 a1_3, .slice A2 l1_4.length c2] _ _ HN1.out (by first | exact HOC.out | exact World.ownsRow.alloc HOC.out _ | exact World.ownsRow.alloc (own_below HOC.out HBB0.out) _ | exact own_below HOC.out HBB0.out) (by have s0_ := HB4.out.size; have s1_ := HBC0.out.size; have s2_ := HBB0.out.size; (try simp only [size_alloc_, size_drew_] at s0_ s1_ s2_ ⊢); omega) (by first | exact blk_new _ _ | exact blk_below (blk_new _ _) HBC0.out) rfl (by first | exact own_ne_new HOC.out | exact own_ne_new (own_below HOC.out HBB0.out) | exact own_ne_old HOC.out (by simp only [size_alloc_, size_drew_]; omega)) (by intro u hu; simp only [List.mem_cons, List.not_mem_nil, or_false] at hu; rcases hu with rfl | rfl | rfl | rfl | rfl <;> rfl) HI1.out HLen.out).mono ?_; rintro e wf ⟨v3, rfl, hown3, hb3, hfr3⟩; refine ⟨_, rfl, ?_⟩; have HO3 := Aside0.mk hown3; have HB3' := Aside0.mk hb3; have HFR := Aside0.mk hfr3; clear hown3 hb3 hfr3))
    all_goals go_wp2
    all_goals go_ret
    all_goals exact ⟨v3, rfl, put_end (c2 := c2) HREP.out HN1.out (⟨⟨⟨a1_0, a1_1⟩, a1_2, a1_3⟩, l1_4⟩ : S32) HOB.out HBB.out.size (by repeat (first | exact Below.refl _ _ | exact below_step (by repeat (first | exact Below.refl _ _ | apply below_alloc | apply below_drew1)) HBC0.out | apply below_alloc | apply below_drew1)) HFR.out (by repeat (first | exact HB4.out | exact HBB.out | exact HBC.out | apply below_drew1 | apply pw_below_drewN | apply below_alloc)) (HB3'.out.mono (by have s0_ := HB4.out.size; have s1_ := HBC0.out.size; have s2_ := HBB0.out.size; (try simp only [size_alloc_, size_drew_] at s0_ s1_ s2_ ⊢); omega)) HO3.out (by have := HLen.out; omega) (ne_of_R HOB.out HOC.out (by first | exact .inl (by have s0_ := HB4.out.size; have s1_ := HBC0.out.size; have s2_ := HBB0.out.size; (try simp only [size_alloc_, size_drew_] at s0_ s1_ s2_ ⊢); omega) | exact .inr (by have s0_ := HB4.out.size; have s1_ := HBC0.out.size; have s2_ := HBB0.out.size; (try simp only [size_alloc_, size_drew_] at s0_ s1_ s2_ ⊢); omega))) (by have s0_ := HB4.out.size; have s1_ := HBC0.out.size; have s2_ := HBB0.out.size; (try simp only [size_alloc_, size_drew_] at s0_ s1_ s2_ ⊢); omega) (by have s0_ := HB4.out.size; have s1_ := HBC0.out.size; have s2_ := HBB0.out.size; (try simp only [size_alloc_, size_drew_] at s0_ s1_ s2_ ⊢); omega)⟩
end Go.Proofs.Ytioooiflpabngaa.PAll
end
section
namespace Go.Proofs.Ytioooiflpabngaa.PAll
open Go.RowKit Go.Proofs.YtioooiflpabngaaW.PrintWords Go.Proofs.YtioooiflpabngaaW.PrintLast Go.Proofs.YtioooiflpabngaaW.PrintMore
attribute [local go_sem] max2_int min2_int max_two min_two max_three min_three max_four min_four   -- for this text's walks alone
set_option linter.unusedVariables false
set_option linter.unusedSimpArgs false
def content_Merge.l0 : Nat → List (S32) → List (S32) → Int → Int → Option ((List (S32)))
 | 0, _, _, _, _ => none
 | k + 1, x0, x7, x8, x9 => if x9 < x8 then (if 0 ≤ x9 then (if x9 < (x7.length : Int) then ((content_Put.f x0 ((rd_T32 x7 x9).f0.f0.f0) ((rd_T32 x7 x9).f0.f0.f1) ((rd_T32 x7 x9).f0.f1) ((rd_T32 x7 x9).f0.f2) ((rd_T32 x7 x9).f1)).bind fun t280 => (content_Merge.l0 k t280 x7 x8 (wrap64 (x9 + 1)))) else (none)) else (none)) else (some x0)
def content_Merge.f (k : Nat) (l0 : List (S32)) (l1 : List (S32)) : Option ((List (S32))) := content_Merge.l0 k l0 l1 (l1.length : Int) 0
set_option maxHeartbeats 8000000 in
set_option maxRecDepth 100000 in
theorem content_Merge.calls (k : Nat) (P0_ : Nat → Prop) (A0 : Option Addr) (c0 : Nat) (l0 : List (S32)) (A1 : Option Addr) (c1 : Nat) (l1 : List (S32)) (r : List (S32)) (w : World) (hs0 : Kd.V k32 32 w w.heap.size (fun k_ => P0_ k_) (.slice A0 l0.length c0) l0) (hr1 : Kd.C k32 w A1 l1.length l1) (hc1 : l1.length ≤ c1) (h : content_Merge.f k l0 l1 = some r) :
  Calls Try.prog 28 #[.slice A0 l0.length c0, .slice A1 l1.length c1] w fun e w' => ∃ v0_ : Value, e = .returned (v0_) ∧ Kd.V k32 32 w' w.heap.size (fun k_ => (P0_ k_ ∨ w.heap.size ≤ k_)) v0_ r ∧ Below w.heap.size w w' := by
 have hu32 := Try.underlying32
 have HO0 := Aside0.mk (show Kd.V k32 32 w w.heap.size (fun k_ => (P0_ k_ ∨ w.heap.size ≤ k_)) (.slice A0 l0.length c0) l0 from Kd.V_mono hs0 (fun k_ hk => .inl hk))
 have HR1 := Aside0.mk hr1
 have HC1 := Aside0.mk hc1
 clear hr1 hc1
 have HB := Aside0.mk (Below.refl w.heap.size w)
 have H : (content_Merge.l0 k l0 l1 (l1.length : Int) 0) = some r := h
 clear h
 have H' := Aside0.mk H
 clear H
 go_enter Try.func28, Try.ntmps28
 go_wp2
 go_loopg [0, 9] k (fun kq v0 v9 w' => ∃ (x0_1 : List (S32)) (x9_1 : Int), v9 = .int .i64 x9_1 ∧ Aside0 (content_Merge.l0 kq x0_1 l1 (l1.length : Int) x9_1 = some r) ∧ Aside0 (kq ≤ k) ∧ Aside0 (Kd.V k32 32 w' w.heap.size (fun k_ => (P0_ k_ ∨ w.heap.size ≤ k_)) v0 x0_1) ∧ Aside0 (Below w.heap.size w w'))
 case atStart => exact ⟨(l0), (0), (by first | rfl | (simp; done) | (simp [*]; done)), H', ⟨Nat.le_refl _⟩, ⟨by (with_reducible repeat (first | apply Kd.V_alloc | apply Kd.V_drewN | apply Kd.V_drew)); exact HO0.out⟩, ⟨by repeat (first | (with_reducible first | exact HB.out | apply below_alloc | apply pw_below_drewN | apply below_drew1) | exact HB.out)⟩⟩
 case round =>
  clear H'
  try clear c1
  try clear c2
  try clear p2
  obtain ⟨x0_1, x9_1, rfl, HA, HK1, HO_0, HB⟩ := hrel
  cases gk with
  | zero => exact absurd HA.out (by simp [content_Merge.l0])
  | succ k1 =>
   have H := HA.out
   clear HA
   simp only [content_Merge.l0] at H
   by_cases c3 : x9_1 < (l1.length : Int)
   ·
    rw [if_pos c3] at H
    have c3b0 : decide (x9_1 < (l1.length : Int)) = true := decide_eq_true c3
    clear c3
    by_cases c4 : 0 ≤ x9_1
    ·
     rw [if_pos c4] at H
     have c4b0 : decide (0 ≤ x9_1) = true := decide_eq_true c4
     clear c4
     by_cases c5 : x9_1 < (l1.length : Int)
     ·
      rw [if_pos c5] at H
      have c5b0 : decide (x9_1 < (l1.length : Int)) = true := decide_eq_true c5
      clear c5
      replace H := Option.bind_eq_some_iff.mp H
      obtain ⟨t280, A60, H⟩ := H
      replace H : (content_Merge.l0 k1 t280 l1 (l1.length : Int) (wrap64 (x9_1 + 1))) = some r := H
      have A6 := Aside0.mk A60
      clear A60
      have H' := Aside0.mk H
      clear H
      have p278 : 0 ≤ (x9_1 : Int) := of_decide_eq_true zs_
      have q278 : x9_1 < (l1.length : Int) := of_decide_eq_true zs_
      obtain ⟨ad278, A278_4, c278_4, e278, hx278_0, hx278_1, hx278_2, hx278_3, hx278_4, hl278_4, hi278_4⟩ := at_T32 HR1.out x9_1 p278 q278
      cases e278
      replace hx278_0 := (HB.out.cell (World.block_lt_of_cell? w _ hx278_0)).trans hx278_0
      replace hx278_1 := (HB.out.cell (World.block_lt_of_cell? w _ hx278_1)).trans hx278_1
      replace hx278_2 := (HB.out.cell (World.block_lt_of_cell? w _ hx278_2)).trans hx278_2
      replace hx278_3 := (HB.out.cell (World.block_lt_of_cell? w _ hx278_3)).trans hx278_3
      replace hx278_4 := (HB.out.cell (World.block_lt_of_cell? w _ hx278_4)).trans hx278_4
      have HR278_4 := Aside0.mk hi278_4
      have HC278_4 := Aside0.mk hl278_4
      clear hi278_4 hl278_4
      replace p278 := eq_true p278
      replace q278 := eq_true q278
      go_wp2_with (first | ((with_reducible refine gate_dst (N := 6) rfl ?_); refine box_event ?hg (N := 6) ?hd (cs := #[.int .u64 0, .int .i64 0, .int .u64 0, .int .i64 0, .slice none 0 0]) (t := 32) ?hr ?_; (case hd => rfl); (case hg => rfl); (case hr => first | (go_simp; done) | (go_simp; rfl)); intro gb279 hg w7 hbox hb; have n0_ := Aside0.mk (Kd.V_below (Kd.V_elderB (zv_ HO_0) gb279 (Nat.le_of_eq hg.symm)) hb); have n1_ := Aside0.mk (below_step zb_ hb); have n2_ := Aside0.mk (hbox); have n3_ := Aside0.mk ((by rw [hg]; exact (below_size zb_) : w.heap.size ≤ gb279)); have n4_ := Aside0.mk ((by rw [hg]; exact (below_size zb_) : w.heap.size ≤ gb279)); clear HO_0; clear HB; have HO_0 := n0_; have HB := n1_; have BK279 := n2_; have GW279 := n3_; have GE279 := n4_; clear n0_ n1_ n2_ n3_ n4_; clear hb hbox hg; have hcz8_0 : w7.cell? ⟨gb279, 0, none⟩ = some (.int .u64 0) := (blk_cell BK279.out 0).trans rfl; have hcz8_1 : w7.cell? ⟨gb279, 1, none⟩ = some (.int .i64 0) := (blk_cell BK279.out 1).trans rfl; have hcz8_2 : w7.cell? ⟨gb279, 2, none⟩ = some (.int .u64 0) := (blk_cell BK279.out 2).trans rfl; have hcz8_3 : w7.cell? ⟨gb279, 3, none⟩ = some (.int .i64 0) := (blk_cell BK279.out 3).trans rfl; have hcz8_4 : w7.cell? ⟨gb279, 4, none⟩ = some (.slice none 0 0) := (blk_cell BK279.out 4).trans rfl; have hfz8_0 := blk_frozen BK279.out 0; have hfz8_1 := blk_frozen BK279.out 1; have hfz8_2 := blk_frozen BK279.out 2; have hfz8_3 := blk_frozen BK279.out 3; have hfz8_4 := blk_frozen BK279.out 4) | ((with_reducible refine gate_store (t := 32) (p := 6) rfl ?_); refine store_event (t := 32) (p := 6) (v := ?vo_w9) (w1 := (((((w7.setCell ⟨gb279, 0, none⟩ (.int .u64 ((rd_T32 l1 x9_1).f0.f0.f0))).setCell ⟨gb279, 1, none⟩ (.int .i64 ((rd_T32 l1 x9_1).f0.f0.f1))).setCell ⟨gb279, 2, none⟩ (.int .u64 ((rd_T32 l1 x9_1).f0.f1))).setCell ⟨gb279, 3, none⟩ (.int .i64 ((rd_T32 l1 x9_1).f0.f2))).setCell ⟨gb279, 4, none⟩ (.slice A278_4 ((rd_T32 l1 x9_1).f1).length c278_4))) ?hg ?ho ?hn ?hr ?_; (case ho => rfl); (case hg => rfl); (case hn => rfl); (case hr => first | (go_simp; done) | (go_simp; rfl)); intro w9 hw; have n0_ : Aside0 (Kd.V k32 32 w9 w.heap.size (fun k_ => (P0_ k_ ∨ w.heap.size ≤ k_) ∧ k_ ≠ gb279) u0 x0_1) := ⟨(by rw [hw]; exact (by (with_reducible repeat (first | apply Kd.V_alloc | apply Kd.V_drewN | apply Kd.V_drew)); exact Kd.V_mono (Kd.V_far (p := ⟨gb279, 4, none⟩) (Kd.V_far (p := ⟨gb279, 3, none⟩) (Kd.V_far (p := ⟨gb279, 2, none⟩) (Kd.V_far (p := ⟨gb279, 1, none⟩) (Kd.V_far (p := ⟨gb279, 0, none⟩) (Kd.V_mono HO_0.out (fun k_ hk => (⟨hk, hk.2⟩ : _ ∧ k_ ≠ gb279))) (fun _ hk => hk.2) (.int .u64 ((rd_T32 l1 x9_1).f0.f0.f0))) (fun _ hk => hk.2) (.int .i64 ((rd_T32 l1 x9_1).f0.f0.f1))) (fun _ hk => hk.2) (.int .u64 ((rd_T32 l1 x9_1).f0.f1))) (fun _ hk => hk.2) (.int .i64 ((rd_T32 l1 x9_1).f0.f2))) (fun _ hk => hk.2) (.slice A278_4 ((rd_T32 l1 x9_1).f1).length c278_4)) (fun _ hk => ⟨hk.1.1, hk.1.2⟩)))⟩; have n1_ : Aside0 (w9.heap[gb279]? = some (.cells #[.int .u64 ((rd_T32 l1 x9_1).f0.f0.f0), .int .i64 ((rd_T32 l1 x9_1).f0.f0.f1), .int .u64 ((rd_T32 l1 x9_1).f0.f1), .int .i64 ((rd_T32 l1 x9_1).f0.f2), .slice A278_4 ((rd_T32 l1 x9_1).f1).length c278_4] 32 (0, 0))) := ⟨(by rw [hw]; exact (by (with_reducible repeat (first | refine blk_drewN ?_ _ | refine blk_drew ?_ | refine blk_alloc ?_ _)); refine blk_put (cs := #[.int .u64 ((rd_T32 l1 x9_1).f0.f0.f0), .int .i64 ((rd_T32 l1 x9_1).f0.f0.f1), .int .u64 ((rd_T32 l1 x9_1).f0.f1), .int .i64 ((rd_T32 l1 x9_1).f0.f2), .slice none 0 0]) ?_ 4 _ rfl; (with_reducible repeat (first | refine blk_drewN ?_ _ | refine blk_drew ?_ | refine blk_alloc ?_ _)); refine blk_put (cs := #[.int .u64 ((rd_T32 l1 x9_1).f0.f0.f0), .int .i64 ((rd_T32 l1 x9_1).f0.f0.f1), .int .u64 ((rd_T32 l1 x9_1).f0.f1), .int .i64 0, .slice none 0 0]) ?_ 3 _ rfl; (with_reducible repeat (first | refine blk_drewN ?_ _ | refine blk_drew ?_ | refine blk_alloc ?_ _)); refine blk_put (cs := #[.int .u64 ((rd_T32 l1 x9_1).f0.f0.f0), .int .i64 ((rd_T32 l1 x9_1).f0.f0.f1), .int .u64 0, .int .i64 0, .slice none 0 0]) ?_ 2 _ rfl; (with_reducible repeat (first | refine blk_drewN ?_ _ | refine blk_drew ?_ | refine blk_alloc ?_ _)); refine blk_put (cs := #[.int .u64 ((rd_T32 l1 x9_1).f0.f0.f0), .int .i64 0, .int .u64 0, .int .i64 0, .slice none 0 0]) ?_ 1 _ rfl; (with_reducible repeat (first | refine blk_drewN ?_ _ | refine blk_drew ?_ | refine blk_alloc ?_ _)); refine blk_put (cs := #[.int .u64 0, .int .i64 0, .int .u64 0, .int .i64 0, .slice none 0 0]) ?_ 0 _ rfl; (with_reducible repeat (first | refine blk_drewN ?_ _ | refine blk_drew ?_ | refine blk_alloc ?_ _)); exact BK279.out))⟩; have n2_ : Aside0 (Below w.heap.size w w9) := ⟨(by rw [hw]; exact zb_)⟩; clear hw; clear HO_0; clear BK279; clear HB; have HO_0 := n0_; have BK279 := n1_; have HB := n2_; clear n0_ n1_ n2_; have hcz10_0 : w9.cell? ⟨gb279, 0, none⟩ = some (.int .u64 ((rd_T32 l1 x9_1).f0.f0.f0)) := (blk_cell BK279.out 0).trans rfl; have hcz10_1 : w9.cell? ⟨gb279, 1, none⟩ = some (.int .i64 ((rd_T32 l1 x9_1).f0.f0.f1)) := (blk_cell BK279.out 1).trans rfl; have hcz10_2 : w9.cell? ⟨gb279, 2, none⟩ = some (.int .u64 ((rd_T32 l1 x9_1).f0.f1)) := (blk_cell BK279.out 2).trans rfl; have hcz10_3 : w9.cell? ⟨gb279, 3, none⟩ = some (.int .i64 ((rd_T32 l1 x9_1).f0.f2)) := (blk_cell BK279.out 3).trans rfl; have hcz10_4 : w9.cell? ⟨gb279, 4, none⟩ = some (.slice A278_4 ((rd_T32 l1 x9_1).f1).length c278_4) := (blk_cell BK279.out 4).trans rfl; have hfz10_0 := blk_frozen BK279.out 0; have hfz10_1 := blk_frozen BK279.out 1; have hfz10_2 := blk_frozen BK279.out 2; have hfz10_3 := blk_frozen BK279.out 3; have hfz10_4 := blk_frozen BK279.out 4; obtain ⟨Ao11, co11, eo11⟩ := Kd.V_slice HO_0.out; subst eo11) | ((with_reducible refine gate_callee (f := 26) rfl ?_); refine goesL_ (some 15) rfl rfl Try.func26 (by kernel_rfl) rfl #[.slice Ao11 x0_1.length co11, .agg #[.int .u64 ((rd_T32 l1 x9_1).f0.f0.f0), .int .i64 ((rd_T32 l1 x9_1).f0.f0.f1), .int .u64 ((rd_T32 l1 x9_1).f0.f1), .int .i64 ((rd_T32 l1 x9_1).f0.f2), .slice A278_4 ((rd_T32 l1 x9_1).f1).length c278_4]] rfl za_ ?_; (with_reducible refine (content_Put.calls (fun k_ => ((P0_ k_ ∨ w.heap.size ≤ k_) ∧ k_ ≠ gb279)) _ _ x0_1 ((rd_T32 l1 x9_1).f0.f0.f0) ((rd_T32 l1 x9_1).f0.f0.f1) ((rd_T32 l1 x9_1).f0.f1) ((rd_T32 l1 x9_1).f0.f2) _ _ ((rd_T32 l1 x9_1).f1) t280 _ ?side1 ?side2 ?side3 A6.out).mono ?_); (case side1 => exact HO_0.out); (case side2 => exact zc_ HR278_4 HB); (case side3 => exact HC278_4.out); rintro e w12 ⟨v281, rfl, ho0, hb⟩; refine ⟨_, rfl, ?_⟩; have n0_ := Aside0.mk (Kd.V_below (zv_ HO_0) hb); have n1_ := Aside0.mk (Kd.V_lower (Kd.V_mono (ok' := fun k_ => (P0_ k_ ∨ w.heap.size ≤ k_) ∧ k_ ≠ gb279) ho0 (fun k_ hk_ => ⟨Or.elim hk_ (fun hs_ => hs_.1) (fun hn_ => (.inr (Nat.le_trans (below_size zb_) hn_))), Or.elim hk_ (fun hs_ => hs_.2) (fun hn_ => (Kd.freshB (g := gb279) (o := .cells #[.int .u64 ((rd_T32 l1 x9_1).f0.f0.f0), .int .i64 ((rd_T32 l1 x9_1).f0.f0.f1), .int .u64 ((rd_T32 l1 x9_1).f0.f1), .int .i64 ((rd_T32 l1 x9_1).f0.f2), .slice A278_4 ((rd_T32 l1 x9_1).f1).length c278_4] 32 (0, 0)) (by (with_reducible repeat (first | refine blk_drewN ?_ _ | refine blk_drew ?_ | refine blk_alloc ?_ _)); exact BK279.out) k_ hn_))⟩)) (below_size zb_)); have n2_ := zk_ BK279 hb; have n3_ := Aside0.mk (below_step zb_ hb); clear HO_0; clear BK279; clear HB; have HO_0 := n0_; have HO282 := n1_; have BK279 := n2_; have HB := n3_; clear n0_ n1_ n2_ n3_; (try clear hb); (try clear hb2); (try clear hk); (try clear hi); (try clear ho0)))
      go_roundg k1
      case measure => have := HK1.out; omega
      case rel => exact ⟨(t280), (wrap64 (x9_1 + 1)), (by first | rfl | (simp; done) | (simp [*]; done)), H', ⟨by have := HK1.out; omega⟩, ⟨by (with_reducible repeat (first | apply Kd.V_alloc | apply Kd.V_drewN | apply Kd.V_drew)); exact Kd.V_mono HO282.out (fun _ hk => hk.1)⟩, ⟨by repeat (first | (with_reducible first | exact HB.out | apply below_alloc | apply pw_below_drewN | apply below_drew1 | refine below_set ?_ GE279.out) | exact HB.out)⟩⟩
     ·
      rw [if_neg c5] at H
      exact absurd H (by simp)
    ·
     rw [if_neg c4] at H
     exact absurd H (by simp)
   ·
    rw [if_neg c3] at H
    have c3b0 : decide (x9_1 < (l1.length : Int)) = false := decide_eq_false c3
    clear c3
    obtain rfl := Option.some.inj H
    go_wp2
    go_ret
    exact ⟨_, by first | rfl | (simp [errW_none, errW_some] <;> rfl) | (simp [*, errW_none, errW_some] <;> rfl), by (with_reducible repeat (first | apply Kd.V_alloc | apply Kd.V_drewN | apply Kd.V_drew)); exact HO_0.out, by repeat (first | (with_reducible first | exact HB.out | apply below_alloc | apply pw_below_drewN | apply below_drew1) | exact HB.out)⟩
end Go.Proofs.Ytioooiflpabngaa.PAll
end
section
namespace Go.Proofs.Ytioooiflpabngaa.PAll
open Go.RowKit Go.Proofs.YtioooiflpabngaaW.PrintWords
set_option linter.unusedVariables false
set_option linter.unusedSimpArgs false
theorem risingE_of_rise : ∀ {l : List S32}, Rise l → risingE l = true
  | [], _ => rfl
  | [a], _ => rfl
  | a :: b :: l, h => by
    obtain ⟨h1, h2⟩ := List.pairwise_cons.1 h
    unfold risingE
    simp only [Bool.and_eq_true, decide_eq_true_eq]
    exact ⟨(cmpL_neg _ _).2 (h1 b (List.mem_cons_self ..)), risingE_of_rise h2⟩
theorem putE_eq {x : S32} : ∀ {l : List S32}, Rise l → putE l x = putR l x := by
  intro l
  induction l with
  | nil => intro _; rfl
  | cons a l ih =>
    intro h
    obtain ⟨h1, h2⟩ := List.pairwise_cons.1 h
    have hi := ih h2
    unfold putR at hi ⊢
    rw [foundE_cons]
    unfold putE
    by_cases hlt : cmpL a.f0 x.f0 < 0
    · have hne : ¬ eqL a.f0 x.f0 = true := fun e => (by rw [cmpL_neg, eqL_iff.1 e] at hlt; exact ltL_irrefl _ hlt)
      have hnl : ¬ cmpL x.f0 a.f0 < 0 := fun e => ltL_irrefl _ (ltL_trans ((cmpL_neg _ _).1 hlt) ((cmpL_neg _ _).1 e))
      rw [if_pos hlt, if_neg hne, hi, aheadE, if_neg hnl]
      split <;> rfl
    · rw [if_neg hlt]
      by_cases he : cmpL a.f0 x.f0 = 0
      · rw [if_pos he, if_pos (eqL_iff.2 (cmpL_eq.1 he)), if_pos rfl]
      · have hne : ¬ eqL a.f0 x.f0 = true := fun e => he (cmpL_eq.2 (eqL_iff.1 e))
        have hgt : ltL x.f0 a.f0 := by
          rcases ltL_total x.f0 a.f0 with h | h | h
          · exact h
          · exact absurd (cmpL_eq.2 h.symm) he
          · exact absurd ((cmpL_neg _ _).2 h) hlt
        have hnone : foundE l x.f0 = ([], false) := foundE_none fun y hy e => by
          have h3 := h1 y hy
          rw [e] at h3
          exact ltL_irrefl _ (ltL_trans hgt h3)
        rw [if_neg he, if_neg hne, hnone, if_neg (by simp), aheadE, if_pos ((cmpL_neg _ _).2 hgt)]
theorem put_eq {l : List S32} (x : S32) (hr : Rise l) (hl : l.length + 1 < 2513169434916) (hx : x.f1.length < 140737488355328) : content_Put.f l x.f0.f0.f0 x.f0.f0.f1 x.f0.f1 x.f0.f2 x.f1 = some (putR l x) := by
  unfold content_Put.f
  rw [if_pos ⟨risingE_of_rise hr, hl, hx⟩, ← putE_eq hr]
theorem merge_loop (more : List S32) (hm : more.length < 9223372036854775807) (hx : ∀ x ∈ more, x.f1.length < 140737488355328) : ∀ (d i : Nat) (l : List S32), d = more.length - i → i ≤ more.length → Rise l → l.length + d < 2513169434916 →
    Ev (fun k => content_Merge.l0 k l more (more.length : Int) (i : Int)) (mergeR l (more.drop i)) := by
  intro d
  induction d with
  | zero =>
    intro i l hd hi hr hl
    have : i = more.length := by omega
    subst this
    refine Ev.step (b := fun _ => some l) (fun k => ?_) (Ev.const fun _ => by simp [mergeR])
    rw [content_Merge.l0, if_neg (by omega)]
  | succ d ih =>
    intro i l hd hi hr hl
    have hlt : i < more.length := by omega
    rw [List.drop_eq_getElem_cons hlt]
    show Ev _ (mergeR (putR l more[i]) (more.drop (i + 1)))
    have h2 := putR_length l more[i]
    have hp := put_eq more[i] hr (by omega) (hx _ (List.getElem_mem _))
    refine Ev.step (b := fun k => content_Merge.l0 k (putR l more[i]) more (more.length : Int) ((i + 1 : Nat) : Int)) (fun k => ?_) (ih (i + 1) (putR l more[i]) (by omega) (by omega) (putR_rise hr) (by omega))
    rw [content_Merge.l0, if_pos (by omega), if_pos (by omega), if_pos (by omega), rdE_nat hlt, hp, Option.bind_some, wrap_nat (by omega)]
theorem merge_ev (l more : List S32) (hr : Rise l) (h : l.length + more.length < 2513169434916) (hx : ∀ x ∈ more, x.f1.length < 140737488355328) : Ev (fun k => content_Merge.f k l more) (mergeR l more) := by
  have := merge_loop more (by omega) hx more.length 0 l (by omega) (by omega) hr (by omega)
  simpa [content_Merge.f] using this
theorem labels_eq {l : List S32} (hl : l.length < 4398046511104) : content_Labels.f l = some (l.map (·.f0)) := by
  unfold content_Labels.f
  rw [if_pos hl]
end Go.Proofs.Ytioooiflpabngaa.PAll
end
section
namespace Go.Proofs.Ytioooiflpabngaa.PAll
open Go.RowKit Go.Proofs.YtioooiflpabngaaW.PrintWords Go.Proofs.YtioooiflpabngaaW.PrintLast Go.Proofs.YtioooiflpabngaaW.PrintMore
attribute [local go_sem] max2_int min2_int max_two min_two max_three min_three max_four min_four   -- for this text's walks alone
set_option linter.unusedVariables false
set_option linter.unusedSimpArgs false
def exchange_Short.l0 : Nat → List (S87) → List (S87) → Int → Int → Option ((List (S27)))
 | 0, _, _, _, _ => none
 | k + 1, x0, x5, x6, x7 => if x7 < x6 then (if 0 ≤ x7 then (if x7 < (x5.length : Int) then ((exchange_Chosen.f k x0).bind fun t749 => (if ((rd_T87 x5 x7).f0) = t749 then ((slices_Clone_Label.f ((rd_T87 x5 x7).f1.f1)).bind fun t750 => (some t750)) else (exchange_Short.l0 k x0 x5 x6 (wrap64 (x7 + 1))))) else (none)) else (none)) else (some ([] : List (S27)))
def exchange_Short.f (k : Nat) (l0 : List (S87)) : Option ((List (S27))) := exchange_Short.l0 k l0 l0 (l0.length : Int) 0
theorem exchange_Short.mono_l : ∀ k, (∀ y0 y1 y2 y3, LeO (exchange_Short.l0 k y0 y1 y2 y3) (exchange_Short.l0 (k + 1) y0 y1 y2 y3))
 | 0 => fun _ _ _ _ r h => by simp [exchange_Short.l0] at h
 | k + 1 => by
  have ih0 := exchange_Short.mono_l k
  ·
   intro y0 y1 y2 y3
   unfold exchange_Short.l0
   repeat' first
   | (with_reducible exact ih0 _ _ _ _)
   | (with_reducible exact exchange_Chosen.mono _ _)
   | (with_reducible exact LeO.refl _)
   | (with_reducible exact LeO.none _)
   | (with_reducible refine LeO.ite ?_ ?_)
   | (with_reducible refine LeO.bind ?_ (fun _ => ?_))
   | exact ih0 _ _ _ _
   | exact exchange_Chosen.mono _ _
   | exact LeO.none _
   | refine LeO.ite ?_ ?_
   | refine LeO.bind ?_ (fun _ => ?_)
theorem exchange_Short.mono : ∀ a0 k, LeO (exchange_Short.f k a0) (exchange_Short.f (k + 1) a0) := by
 intro a0 k
 have ih0 := exchange_Short.mono_l k
 unfold exchange_Short.f
 repeat' first
   | (with_reducible exact ih0 _ _ _ _)
   | (with_reducible exact exchange_Chosen.mono _ _)
   | (with_reducible exact LeO.refl _)
   | (with_reducible exact LeO.none _)
   | (with_reducible refine LeO.ite ?_ ?_)
   | (with_reducible refine LeO.bind ?_ (fun _ => ?_))
   | exact ih0 _ _ _ _
   | exact exchange_Chosen.mono _ _
   | exact LeO.none _
   | refine LeO.ite ?_ ?_
   | refine LeO.bind ?_ (fun _ => ?_)
set_option maxHeartbeats 8000000 in
set_option maxRecDepth 100000 in
theorem exchange_Short.calls (k : Nat) (A0 : Option Addr) (c0 : Nat) (l0 : List (S87)) (r : List (S27)) (w : World) (hr0 : Kd.C k87 w A0 l0.length l0) (hc0 : l0.length ≤ c0) (h : exchange_Short.f k l0 = some r) :
  Calls Try.prog 62 #[.slice A0 l0.length c0] w fun e w' => ∃ v0_ : Value, e = .returned (v0_) ∧ Kd.R k27 27 w' w.heap.size (fun _ => True) v0_ r ∧ Below w.heap.size w w' := by
 have hu87 := Try.underlying87
 have HR0 := Aside0.mk hr0
 have HC0 := Aside0.mk hc0
 clear hr0 hc0
 have HB := Aside0.mk (Below.refl w.heap.size w)
 have H : (exchange_Short.l0 k l0 l0 (l0.length : Int) 0) = some r := h
 clear h
 have H' := Aside0.mk H
 clear H
 go_enter Try.func62, Try.ntmps62
 go_wp2
 go_loopg [7] k (fun kq v7 w' => ∃ (x7_1 : Int), v7 = .int .i64 x7_1 ∧ Aside0 (exchange_Short.l0 kq l0 l0 (l0.length : Int) x7_1 = some r) ∧ Aside0 (kq ≤ k) ∧ Aside0 (Below w.heap.size w w'))
 case atStart => exact ⟨(0), (by first | rfl | (simp; done) | (simp [*]; done)), H', ⟨Nat.le_refl _⟩, ⟨by repeat (first | (with_reducible first | exact HB.out | apply below_alloc | apply pw_below_drewN | apply below_drew1) | exact HB.out)⟩⟩
 case round =>
  clear H'
  obtain ⟨x7_1, rfl, HA, HK1, HB⟩ := hrel
  cases gk with
  | zero => exact absurd HA.out (by simp [exchange_Short.l0])
  | succ k1 =>
   have H := HA.out
   clear HA
   simp only [exchange_Short.l0] at H
   by_cases c2 : x7_1 < (l0.length : Int)
   ·
    rw [if_pos c2] at H
    have c2b0 : decide (x7_1 < (l0.length : Int)) = true := decide_eq_true c2
    clear c2
    by_cases c3 : 0 ≤ x7_1
    ·
     rw [if_pos c3] at H
     have c3b0 : decide (0 ≤ x7_1) = true := decide_eq_true c3
     clear c3
     by_cases c4 : x7_1 < (l0.length : Int)
     ·
      rw [if_pos c4] at H
      have c4b0 : decide (x7_1 < (l0.length : Int)) = true := decide_eq_true c4
      clear c4
      replace H := Option.bind_eq_some_iff.mp H
      obtain ⟨t749, A50, H⟩ := H
      replace H : (if ((rd_T87 l0 x7_1).f0) = t749 then ((slices_Clone_Label.f ((rd_T87 l0 x7_1).f1.f1)).bind fun t750 => (some t750)) else (exchange_Short.l0 k1 l0 l0 (l0.length : Int) (wrap64 (x7_1 + 1)))) = some r := H
      have A5 := Aside0.mk A50
      clear A50
      by_cases c6 : ((rd_T87 l0 x7_1).f0) = t749
      ·
       rw [if_pos c6] at H
       have c6b0 : (((rd_T87 l0 x7_1).f0) == t749) = true := beq_iff_eq.mpr c6
       have c6b1 : (((rd_T87 l0 x7_1).f0) != t749) = false := bne_eq_false_iff_eq.mpr c6
       clear c6
       replace H := Option.bind_eq_some_iff.mp H
       obtain ⟨t750, A70, H⟩ := H
       replace H : (some t750) = some r := H
       have A7 := Aside0.mk A70
       clear A70
       obtain rfl := Option.some.inj H
       have p747 : 0 ≤ (x7_1 : Int) := of_decide_eq_true zs_
       have q747 : x7_1 < (l0.length : Int) := of_decide_eq_true zs_
       obtain ⟨ad747, A747_1, c747_1, A747_2, c747_2, e747, hx747_0, hx747_1, hx747_2, hx747_3, hx747_4, hx747_5, hl747_1, hi747_1, hl747_2, hi747_2⟩ := at_T87 HR0.out x7_1 p747 q747
       cases e747
       replace hx747_0 := (HB.out.cell (World.block_lt_of_cell? w _ hx747_0)).trans hx747_0
       replace hx747_1 := (HB.out.cell (World.block_lt_of_cell? w _ hx747_1)).trans hx747_1
       replace hx747_2 := (HB.out.cell (World.block_lt_of_cell? w _ hx747_2)).trans hx747_2
       replace hx747_3 := (HB.out.cell (World.block_lt_of_cell? w _ hx747_3)).trans hx747_3
       replace hx747_4 := (HB.out.cell (World.block_lt_of_cell? w _ hx747_4)).trans hx747_4
       replace hx747_5 := (HB.out.cell (World.block_lt_of_cell? w _ hx747_5)).trans hx747_5
       have HR747_1 := Aside0.mk hi747_1
       have HC747_1 := Aside0.mk hl747_1
       clear hi747_1 hl747_1
       have HR747_2 := Aside0.mk hi747_2
       have HC747_2 := Aside0.mk hl747_2
       clear hi747_2 hl747_2
       replace p747 := eq_true p747
       replace q747 := eq_true q747
       try go_wp2_with (first | ((with_reducible refine gate_dst (N := 4) rfl ?_); refine box_event ?hg (N := 4) ?hd (cs := #[.int .i64 0, .slice none 0 0, .slice none 0 0, .int .i64 0, .int .u64 0, .int .i64 0]) (t := 87) ?hr ?_; (case hd => rfl); (case hg => rfl); (case hr => first | (go_simp; done) | (go_simp; rfl)); intro gb748 hg w8 hbox hb; have n0_ := Aside0.mk (below_step zb_ hb); have n1_ := Aside0.mk (hbox); have n2_ := Aside0.mk ((by rw [hg]; exact (below_size zb_) : w.heap.size ≤ gb748)); have n3_ := Aside0.mk ((by rw [hg]; exact (below_size zb_) : w.heap.size ≤ gb748)); clear HB; have HB := n0_; have BK748 := n1_; have GW748 := n2_; have GE748 := n3_; clear n0_ n1_ n2_ n3_; clear hb hbox hg; have hcz9_0 : w8.cell? ⟨gb748, 0, none⟩ = some (.int .i64 0) := (blk_cell BK748.out 0).trans rfl; have hcz9_1 : w8.cell? ⟨gb748, 1, none⟩ = some (.slice none 0 0) := (blk_cell BK748.out 1).trans rfl; have hcz9_2 : w8.cell? ⟨gb748, 2, none⟩ = some (.slice none 0 0) := (blk_cell BK748.out 2).trans rfl; have hcz9_3 : w8.cell? ⟨gb748, 3, none⟩ = some (.int .i64 0) := (blk_cell BK748.out 3).trans rfl; have hcz9_4 : w8.cell? ⟨gb748, 4, none⟩ = some (.int .u64 0) := (blk_cell BK748.out 4).trans rfl; have hcz9_5 : w8.cell? ⟨gb748, 5, none⟩ = some (.int .i64 0) := (blk_cell BK748.out 5).trans rfl; have hfz9_0 := blk_frozen BK748.out 0; have hfz9_1 := blk_frozen BK748.out 1; have hfz9_2 := blk_frozen BK748.out 2; have hfz9_3 := blk_frozen BK748.out 3; have hfz9_4 := blk_frozen BK748.out 4; have hfz9_5 := blk_frozen BK748.out 5))
       have n0_ : Aside0 (((((((w8.setCell ⟨gb748, 0, none⟩ (.int .i64 ((rd_T87 l0 x7_1).f0))).setCell ⟨gb748, 1, none⟩ (.slice A747_1 ((rd_T87 l0 x7_1).f1.f0).length c747_1)).setCell ⟨gb748, 2, none⟩ (.slice A747_2 ((rd_T87 l0 x7_1).f1.f1).length c747_2)).setCell ⟨gb748, 3, none⟩ (.int .i64 ((rd_T87 l0 x7_1).f1.f2))).setCell ⟨gb748, 4, none⟩ (.int .u64 ((rd_T87 l0 x7_1).f1.f3.f0))).setCell ⟨gb748, 5, none⟩ (.int .i64 ((rd_T87 l0 x7_1).f1.f3.f1))).heap[gb748]? = some (.cells #[.int .i64 ((rd_T87 l0 x7_1).f0), .slice A747_1 ((rd_T87 l0 x7_1).f1.f0).length c747_1, .slice A747_2 ((rd_T87 l0 x7_1).f1.f1).length c747_2, .int .i64 ((rd_T87 l0 x7_1).f1.f2), .int .u64 ((rd_T87 l0 x7_1).f1.f3.f0), .int .i64 ((rd_T87 l0 x7_1).f1.f3.f1)] 87 (0, 0))) := ⟨by (with_reducible repeat (first | refine blk_drewN ?_ _ | refine blk_drew ?_ | refine blk_alloc ?_ _)); refine blk_put (cs := #[.int .i64 ((rd_T87 l0 x7_1).f0), .slice A747_1 ((rd_T87 l0 x7_1).f1.f0).length c747_1, .slice A747_2 ((rd_T87 l0 x7_1).f1.f1).length c747_2, .int .i64 ((rd_T87 l0 x7_1).f1.f2), .int .u64 ((rd_T87 l0 x7_1).f1.f3.f0), .int .i64 0]) ?_ 5 _ rfl; (with_reducible repeat (first | refine blk_drewN ?_ _ | refine blk_drew ?_ | refine blk_alloc ?_ _)); refine blk_put (cs := #[.int .i64 ((rd_T87 l0 x7_1).f0), .slice A747_1 ((rd_T87 l0 x7_1).f1.f0).length c747_1, .slice A747_2 ((rd_T87 l0 x7_1).f1.f1).length c747_2, .int .i64 ((rd_T87 l0 x7_1).f1.f2), .int .u64 0, .int .i64 0]) ?_ 4 _ rfl; (with_reducible repeat (first | refine blk_drewN ?_ _ | refine blk_drew ?_ | refine blk_alloc ?_ _)); refine blk_put (cs := #[.int .i64 ((rd_T87 l0 x7_1).f0), .slice A747_1 ((rd_T87 l0 x7_1).f1.f0).length c747_1, .slice A747_2 ((rd_T87 l0 x7_1).f1.f1).length c747_2, .int .i64 0, .int .u64 0, .int .i64 0]) ?_ 3 _ rfl; (with_reducible repeat (first | refine blk_drewN ?_ _ | refine blk_drew ?_ | refine blk_alloc ?_ _)); refine blk_put (cs := #[.int .i64 ((rd_T87 l0 x7_1).f0), .slice A747_1 ((rd_T87 l0 x7_1).f1.f0).length c747_1, .slice none 0 0, .int .i64 0, .int .u64 0, .int .i64 0]) ?_ 2 _ rfl; (with_reducible repeat (first | refine blk_drewN ?_ _ | refine blk_drew ?_ | refine blk_alloc ?_ _)); refine blk_put (cs := #[.int .i64 ((rd_T87 l0 x7_1).f0), .slice none 0 0, .slice none 0 0, .int .i64 0, .int .u64 0, .int .i64 0]) ?_ 1 _ rfl; (with_reducible repeat (first | refine blk_drewN ?_ _ | refine blk_drew ?_ | refine blk_alloc ?_ _)); refine blk_put (cs := #[.int .i64 0, .slice none 0 0, .slice none 0 0, .int .i64 0, .int .u64 0, .int .i64 0]) ?_ 0 _ rfl; (with_reducible repeat (first | refine blk_drewN ?_ _ | refine blk_drew ?_ | refine blk_alloc ?_ _)); exact BK748.out⟩
       have n1_ : Aside0 (Below w.heap.size w ((((((w8.setCell ⟨gb748, 0, none⟩ (.int .i64 ((rd_T87 l0 x7_1).f0))).setCell ⟨gb748, 1, none⟩ (.slice A747_1 ((rd_T87 l0 x7_1).f1.f0).length c747_1)).setCell ⟨gb748, 2, none⟩ (.slice A747_2 ((rd_T87 l0 x7_1).f1.f1).length c747_2)).setCell ⟨gb748, 3, none⟩ (.int .i64 ((rd_T87 l0 x7_1).f1.f2))).setCell ⟨gb748, 4, none⟩ (.int .u64 ((rd_T87 l0 x7_1).f1.f3.f0))).setCell ⟨gb748, 5, none⟩ (.int .i64 ((rd_T87 l0 x7_1).f1.f3.f1)))) := ⟨by repeat (first | (with_reducible first | exact HB.out | apply below_alloc | apply pw_below_drewN | apply below_drew1 | refine below_set ?_ GE748.out) | exact HB.out)⟩
       (try clear BK748)
       (try clear HB)
       generalize ((((((w8.setCell ⟨gb748, 0, none⟩ (.int .i64 ((rd_T87 l0 x7_1).f0))).setCell ⟨gb748, 1, none⟩ (.slice A747_1 ((rd_T87 l0 x7_1).f1.f0).length c747_1)).setCell ⟨gb748, 2, none⟩ (.slice A747_2 ((rd_T87 l0 x7_1).f1.f1).length c747_2)).setCell ⟨gb748, 3, none⟩ (.int .i64 ((rd_T87 l0 x7_1).f1.f2))).setCell ⟨gb748, 4, none⟩ (.int .u64 ((rd_T87 l0 x7_1).f1.f3.f0))).setCell ⟨gb748, 5, none⟩ (.int .i64 ((rd_T87 l0 x7_1).f1.f3.f1))) = w10 at n0_ n1_ ⊢
       have BK748 := n0_
       have HB := n1_
       clear n0_ n1_
       have n0_ := Aside0.mk (blk_drew BK748.out)
       have n1_ := Aside0.mk (below_drew1 HB.out)
       clear BK748
       clear HB
       have BK748 := n0_
       have HB := n1_
       clear n0_ n1_
       refine start_ (n := 5) (S := fun w' => w'.cell? ⟨gb748, 0, none⟩ = some (.int .i64 ((rd_T87 l0 x7_1).f0)) ∧ w'.cell? ⟨gb748, 1, none⟩ = some (.slice A747_1 ((rd_T87 l0 x7_1).f1.f0).length c747_1) ∧ w'.cell? ⟨gb748, 2, none⟩ = some (.slice A747_2 ((rd_T87 l0 x7_1).f1.f1).length c747_2) ∧ w'.cell? ⟨gb748, 3, none⟩ = some (.int .i64 ((rd_T87 l0 x7_1).f1.f2)) ∧ w'.cell? ⟨gb748, 4, none⟩ = some (.int .u64 ((rd_T87 l0 x7_1).f1.f3.f0)) ∧ w'.cell? ⟨gb748, 5, none⟩ = some (.int .i64 ((rd_T87 l0 x7_1).f1.f3.f1))) (ds := []) #[F_,F_,F_,F_,F_] (by kernel_rfl) rfl rfl ⟨(blk_cell BK748.out 0).trans rfl, (blk_cell BK748.out 1).trans rfl, (blk_cell BK748.out 2).trans rfl, (blk_cell BK748.out 3).trans rfl, (blk_cell BK748.out 4).trans rfl, (blk_cell BK748.out 5).trans rfl⟩ (fun hHeld => ?_)
       generalize w10.drew = w11 at BK748 HB hHeld ⊢
       refine pure_ (i := 0) (N := some 11) (v := ?_) (a' := ?_) #[T_,F_,F_,F_,F_] rfl rfl (by kernel_rfl) (fun _ _ _ h => h) (Or.inl ⟨by rfl, ?_⟩) ?_ ?_
       rotate_left
       ·
        intro w'; go_simp; with_reducible rfl
       rotate_left
       ·
        exact zp_
       refine pure_ (i := 2) (N := some 13) (v := ?_) (a' := ?_) #[T_,F_,T_,F_,F_] rfl rfl (by kernel_rfl) (fun _ _ _ h => h) (Or.inl ⟨by rfl, ?_⟩) ?_ ?_
       rotate_left
       ·
        intro w'; go_simp; with_reducible rfl
       rotate_left
       ·
        exact zp_
       refine take_ (i := 1) (N := some 12) (v := ?_) (a' := ?_) #[T_,T_,T_,F_,F_] rfl rfl (by kernel_rfl) (fun _ _ _ h => h) (Or.inl ⟨by rfl, ?_⟩) hHeld ?_ ?_
       rotate_left
       ·
        rintro w' ⟨s0, s1, s2, s3, s4, s5⟩
        go_simp
        with_reducible rfl
       rotate_left
       ·
        exact zp_
       refine one_ (i := 3) (N := some 14) #[T_,T_,T_,T_,F_] rfl rfl (by kernel_rfl) (by decide) (fun K hK => ?_)
       refine goes_ Try.func61 (by kernel_rfl) rfl #[.slice (some ad747) l0.length c0] (by rfl) rfl rfl za_ ?_
       with_reducible refine (exchange_Chosen.calls k1 _ _ l0 t749 _ ?side1 ?side2 A5.out).mono ?_
       (case side1 => exact zc_ HR0 HB)
       (case side2 => exact HC0.out)
       rintro e w12 ⟨rfl, hb⟩
       refine ⟨_, rfl, ?_⟩
       have n0_ := zk_ BK748 hb
       have n1_ := Aside0.mk (below_step zb_ hb)
       clear BK748
       clear HB
       have BK748 := n0_
       have HB := n1_
       clear n0_ n1_
       (try clear hb)
       (try clear hb2)
       (try clear hk)
       (try clear hi)
       refine hK.out _ _ ⟨(blk_cell BK748.out 0).trans rfl, (blk_cell BK748.out 1).trans rfl, (blk_cell BK748.out 2).trans rfl, (blk_cell BK748.out 3).trans rfl, (blk_cell BK748.out 4).trans rfl, (blk_cell BK748.out 5).trans rfl⟩ (fun hHeld => ?_)
       clear hK K
       refine norm_ (a' := ?_) ?_ ?_
       rotate_left
       ·
        show Act.put _ (some 14) _ = _
        simp only [Act.put, List.setIfInBounds_toArray, List.set_cons_zero, List.set_cons_succ, i64_w, i32_w]
        rfl
       refine pure_ (i := 4) (N := some 15) (v := ?_) (a' := ?_) #[T_,T_,T_,T_,T_] rfl rfl (by kernel_rfl) (fun _ _ _ h => h) (Or.inl ⟨by rfl, ?_⟩) ?_ ?_
       rotate_left
       ·
        intro w'; go_simp; with_reducible rfl
       rotate_left
       ·
        exact zp_
       refine done_ (by kernel_rfl) ?_
       have hcz13_0 : w12.cell? ⟨gb748, 0, none⟩ = some (.int .i64 ((rd_T87 l0 x7_1).f0)) := (blk_cell BK748.out 0).trans rfl
       have hcz13_1 : w12.cell? ⟨gb748, 1, none⟩ = some (.slice A747_1 ((rd_T87 l0 x7_1).f1.f0).length c747_1) := (blk_cell BK748.out 1).trans rfl
       have hcz13_2 : w12.cell? ⟨gb748, 2, none⟩ = some (.slice A747_2 ((rd_T87 l0 x7_1).f1.f1).length c747_2) := (blk_cell BK748.out 2).trans rfl
       have hcz13_3 : w12.cell? ⟨gb748, 3, none⟩ = some (.int .i64 ((rd_T87 l0 x7_1).f1.f2)) := (blk_cell BK748.out 3).trans rfl
       have hcz13_4 : w12.cell? ⟨gb748, 4, none⟩ = some (.int .u64 ((rd_T87 l0 x7_1).f1.f3.f0)) := (blk_cell BK748.out 4).trans rfl
       have hcz13_5 : w12.cell? ⟨gb748, 5, none⟩ = some (.int .i64 ((rd_T87 l0 x7_1).f1.f3.f1)) := (blk_cell BK748.out 5).trans rfl
       have hfz13_0 := blk_frozen BK748.out 0
       have hfz13_1 := blk_frozen BK748.out 1
       have hfz13_2 := blk_frozen BK748.out 2
       have hfz13_3 := blk_frozen BK748.out 3
       have hfz13_4 := blk_frozen BK748.out 4
       have hfz13_5 := blk_frozen BK748.out 5
       try go_wp2_with (first | ((with_reducible refine gate_callee (f := 78) rfl ?_); refine goesL_ (some 19) rfl rfl Try.func78 (by kernel_rfl) rfl #[.slice A747_2 ((rd_T87 l0 x7_1).f1.f1).length c747_2] rfl za_ ?_; (with_reducible refine (slices_Clone_Label.calls _ _ ((rd_T87 l0 x7_1).f1.f1) t750 _ ?side1 ?side2 A7.out).mono ?_); (case side1 => exact zc_ HR747_2 HB); (case side2 => exact HC747_2.out); rintro e w14 ⟨v751, rfl, ho0, hb⟩; refine ⟨_, rfl, ?_⟩; have n0_ := Aside0.mk (Kd.R_lower ho0 (below_size zb_)); have n1_ := zk_ BK748 hb; have n2_ := Aside0.mk (below_step zb_ hb); clear BK748; clear HB; have HO752 := n0_; have BK748 := n1_; have HB := n2_; clear n0_ n1_ n2_; (try clear hb); (try clear hb2); (try clear hk); (try clear hi); (try clear ho0)))
       go_ret
       exact ⟨_, by first | rfl | (simp [errW_none, errW_some] <;> rfl) | (simp [*, errW_none, errW_some] <;> rfl), by (with_reducible repeat (first | apply Kd.R_alloc | apply Kd.R_drewN | apply Kd.R_drew)); exact HO752.out, by repeat (first | (with_reducible first | exact HB.out | apply below_alloc | apply pw_below_drewN | apply below_drew1 | refine below_set ?_ GE748.out) | exact HB.out)⟩
      ·
       rw [if_neg c6] at H
       have c6b0 : (((rd_T87 l0 x7_1).f0) == t749) = false := beq_eq_false_iff_ne.mpr c6
       have c6b1 : (((rd_T87 l0 x7_1).f0) != t749) = true := bne_iff_ne.mpr c6
       have H' := Aside0.mk H
       clear H
       have p747 : 0 ≤ (x7_1 : Int) := of_decide_eq_true zs_
       have q747 : x7_1 < (l0.length : Int) := of_decide_eq_true zs_
       obtain ⟨ad747, A747_1, c747_1, A747_2, c747_2, e747, hx747_0, hx747_1, hx747_2, hx747_3, hx747_4, hx747_5, hl747_1, hi747_1, hl747_2, hi747_2⟩ := at_T87 HR0.out x7_1 p747 q747
       cases e747
       replace hx747_0 := (HB.out.cell (World.block_lt_of_cell? w _ hx747_0)).trans hx747_0
       replace hx747_1 := (HB.out.cell (World.block_lt_of_cell? w _ hx747_1)).trans hx747_1
       replace hx747_2 := (HB.out.cell (World.block_lt_of_cell? w _ hx747_2)).trans hx747_2
       replace hx747_3 := (HB.out.cell (World.block_lt_of_cell? w _ hx747_3)).trans hx747_3
       replace hx747_4 := (HB.out.cell (World.block_lt_of_cell? w _ hx747_4)).trans hx747_4
       replace hx747_5 := (HB.out.cell (World.block_lt_of_cell? w _ hx747_5)).trans hx747_5
       have HR747_1 := Aside0.mk hi747_1
       have HC747_1 := Aside0.mk hl747_1
       clear hi747_1 hl747_1
       have HR747_2 := Aside0.mk hi747_2
       have HC747_2 := Aside0.mk hl747_2
       clear hi747_2 hl747_2
       replace p747 := eq_true p747
       replace q747 := eq_true q747
       try go_wp2_with (first | ((with_reducible refine gate_dst (N := 4) rfl ?_); refine box_event ?hg (N := 4) ?hd (cs := #[.int .i64 0, .slice none 0 0, .slice none 0 0, .int .i64 0, .int .u64 0, .int .i64 0]) (t := 87) ?hr ?_; (case hd => rfl); (case hg => rfl); (case hr => first | (go_simp; done) | (go_simp; rfl)); intro gb748 hg w15 hbox hb; have n0_ := Aside0.mk (below_step zb_ hb); have n1_ := Aside0.mk (hbox); have n2_ := Aside0.mk ((by rw [hg]; exact (below_size zb_) : w.heap.size ≤ gb748)); have n3_ := Aside0.mk ((by rw [hg]; exact (below_size zb_) : w.heap.size ≤ gb748)); clear HB; have HB := n0_; have BK748 := n1_; have GW748 := n2_; have GE748 := n3_; clear n0_ n1_ n2_ n3_; clear hb hbox hg; have hcz16_0 : w15.cell? ⟨gb748, 0, none⟩ = some (.int .i64 0) := (blk_cell BK748.out 0).trans rfl; have hcz16_1 : w15.cell? ⟨gb748, 1, none⟩ = some (.slice none 0 0) := (blk_cell BK748.out 1).trans rfl; have hcz16_2 : w15.cell? ⟨gb748, 2, none⟩ = some (.slice none 0 0) := (blk_cell BK748.out 2).trans rfl; have hcz16_3 : w15.cell? ⟨gb748, 3, none⟩ = some (.int .i64 0) := (blk_cell BK748.out 3).trans rfl; have hcz16_4 : w15.cell? ⟨gb748, 4, none⟩ = some (.int .u64 0) := (blk_cell BK748.out 4).trans rfl; have hcz16_5 : w15.cell? ⟨gb748, 5, none⟩ = some (.int .i64 0) := (blk_cell BK748.out 5).trans rfl; have hfz16_0 := blk_frozen BK748.out 0; have hfz16_1 := blk_frozen BK748.out 1; have hfz16_2 := blk_frozen BK748.out 2; have hfz16_3 := blk_frozen BK748.out 3; have hfz16_4 := blk_frozen BK748.out 4; have hfz16_5 := blk_frozen BK748.out 5))
       have n0_ : Aside0 (((((((w15.setCell ⟨gb748, 0, none⟩ (.int .i64 ((rd_T87 l0 x7_1).f0))).setCell ⟨gb748, 1, none⟩ (.slice A747_1 ((rd_T87 l0 x7_1).f1.f0).length c747_1)).setCell ⟨gb748, 2, none⟩ (.slice A747_2 ((rd_T87 l0 x7_1).f1.f1).length c747_2)).setCell ⟨gb748, 3, none⟩ (.int .i64 ((rd_T87 l0 x7_1).f1.f2))).setCell ⟨gb748, 4, none⟩ (.int .u64 ((rd_T87 l0 x7_1).f1.f3.f0))).setCell ⟨gb748, 5, none⟩ (.int .i64 ((rd_T87 l0 x7_1).f1.f3.f1))).heap[gb748]? = some (.cells #[.int .i64 ((rd_T87 l0 x7_1).f0), .slice A747_1 ((rd_T87 l0 x7_1).f1.f0).length c747_1, .slice A747_2 ((rd_T87 l0 x7_1).f1.f1).length c747_2, .int .i64 ((rd_T87 l0 x7_1).f1.f2), .int .u64 ((rd_T87 l0 x7_1).f1.f3.f0), .int .i64 ((rd_T87 l0 x7_1).f1.f3.f1)] 87 (0, 0))) := ⟨by (with_reducible repeat (first | refine blk_drewN ?_ _ | refine blk_drew ?_ | refine blk_alloc ?_ _)); refine blk_put (cs := #[.int .i64 ((rd_T87 l0 x7_1).f0), .slice A747_1 ((rd_T87 l0 x7_1).f1.f0).length c747_1, .slice A747_2 ((rd_T87 l0 x7_1).f1.f1).length c747_2, .int .i64 ((rd_T87 l0 x7_1).f1.f2), .int .u64 ((rd_T87 l0 x7_1).f1.f3.f0), .int .i64 0]) ?_ 5 _ rfl; (with_reducible repeat (first | refine blk_drewN ?_ _ | refine blk_drew ?_ | refine blk_alloc ?_ _)); refine blk_put (cs := #[.int .i64 ((rd_T87 l0 x7_1).f0), .slice A747_1 ((rd_T87 l0 x7_1).f1.f0).length c747_1, .slice A747_2 ((rd_T87 l0 x7_1).f1.f1).length c747_2, .int .i64 ((rd_T87 l0 x7_1).f1.f2), .int .u64 0, .int .i64 0]) ?_ 4 _ rfl; (with_reducible repeat (first | refine blk_drewN ?_ _ | refine blk_drew ?_ | refine blk_alloc ?_ _)); refine blk_put (cs := #[.int .i64 ((rd_T87 l0 x7_1).f0), .slice A747_1 ((rd_T87 l0 x7_1).f1.f0).length c747_1, .slice A747_2 ((rd_T87 l0 x7_1).f1.f1).length c747_2, .int .i64 0, .int .u64 0, .int .i64 0]) ?_ 3 _ rfl; (with_reducible repeat (first | refine blk_drewN ?_ _ | refine blk_drew ?_ | refine blk_alloc ?_ _)); refine blk_put (cs := #[.int .i64 ((rd_T87 l0 x7_1).f0), .slice A747_1 ((rd_T87 l0 x7_1).f1.f0).length c747_1, .slice none 0 0, .int .i64 0, .int .u64 0, .int .i64 0]) ?_ 2 _ rfl; (with_reducible repeat (first | refine blk_drewN ?_ _ | refine blk_drew ?_ | refine blk_alloc ?_ _)); refine blk_put (cs := #[.int .i64 ((rd_T87 l0 x7_1).f0), .slice none 0 0, .slice none 0 0, .int .i64 0, .int .u64 0, .int .i64 0]) ?_ 1 _ rfl; (with_reducible repeat (first | refine blk_drewN ?_ _ | refine blk_drew ?_ | refine blk_alloc ?_ _)); refine blk_put (cs := #[.int .i64 0, .slice none 0 0, .slice none 0 0, .int .i64 0, .int .u64 0, .int .i64 0]) ?_ 0 _ rfl; (with_reducible repeat (first | refine blk_drewN ?_ _ | refine blk_drew ?_ | refine blk_alloc ?_ _)); exact BK748.out⟩
       have n1_ : Aside0 (Below w.heap.size w ((((((w15.setCell ⟨gb748, 0, none⟩ (.int .i64 ((rd_T87 l0 x7_1).f0))).setCell ⟨gb748, 1, none⟩ (.slice A747_1 ((rd_T87 l0 x7_1).f1.f0).length c747_1)).setCell ⟨gb748, 2, none⟩ (.slice A747_2 ((rd_T87 l0 x7_1).f1.f1).length c747_2)).setCell ⟨gb748, 3, none⟩ (.int .i64 ((rd_T87 l0 x7_1).f1.f2))).setCell ⟨gb748, 4, none⟩ (.int .u64 ((rd_T87 l0 x7_1).f1.f3.f0))).setCell ⟨gb748, 5, none⟩ (.int .i64 ((rd_T87 l0 x7_1).f1.f3.f1)))) := ⟨by repeat (first | (with_reducible first | exact HB.out | apply below_alloc | apply pw_below_drewN | apply below_drew1 | refine below_set ?_ GE748.out) | exact HB.out)⟩
       (try clear BK748)
       (try clear HB)
       generalize ((((((w15.setCell ⟨gb748, 0, none⟩ (.int .i64 ((rd_T87 l0 x7_1).f0))).setCell ⟨gb748, 1, none⟩ (.slice A747_1 ((rd_T87 l0 x7_1).f1.f0).length c747_1)).setCell ⟨gb748, 2, none⟩ (.slice A747_2 ((rd_T87 l0 x7_1).f1.f1).length c747_2)).setCell ⟨gb748, 3, none⟩ (.int .i64 ((rd_T87 l0 x7_1).f1.f2))).setCell ⟨gb748, 4, none⟩ (.int .u64 ((rd_T87 l0 x7_1).f1.f3.f0))).setCell ⟨gb748, 5, none⟩ (.int .i64 ((rd_T87 l0 x7_1).f1.f3.f1))) = w17 at n0_ n1_ ⊢
       have BK748 := n0_
       have HB := n1_
       clear n0_ n1_
       have n0_ := Aside0.mk (blk_drew BK748.out)
       have n1_ := Aside0.mk (below_drew1 HB.out)
       clear BK748
       clear HB
       have BK748 := n0_
       have HB := n1_
       clear n0_ n1_
       refine start_ (n := 5) (S := fun w' => w'.cell? ⟨gb748, 0, none⟩ = some (.int .i64 ((rd_T87 l0 x7_1).f0)) ∧ w'.cell? ⟨gb748, 1, none⟩ = some (.slice A747_1 ((rd_T87 l0 x7_1).f1.f0).length c747_1) ∧ w'.cell? ⟨gb748, 2, none⟩ = some (.slice A747_2 ((rd_T87 l0 x7_1).f1.f1).length c747_2) ∧ w'.cell? ⟨gb748, 3, none⟩ = some (.int .i64 ((rd_T87 l0 x7_1).f1.f2)) ∧ w'.cell? ⟨gb748, 4, none⟩ = some (.int .u64 ((rd_T87 l0 x7_1).f1.f3.f0)) ∧ w'.cell? ⟨gb748, 5, none⟩ = some (.int .i64 ((rd_T87 l0 x7_1).f1.f3.f1))) (ds := []) #[F_,F_,F_,F_,F_] (by kernel_rfl) rfl rfl ⟨(blk_cell BK748.out 0).trans rfl, (blk_cell BK748.out 1).trans rfl, (blk_cell BK748.out 2).trans rfl, (blk_cell BK748.out 3).trans rfl, (blk_cell BK748.out 4).trans rfl, (blk_cell BK748.out 5).trans rfl⟩ (fun hHeld => ?_)
       generalize w17.drew = w18 at BK748 HB hHeld ⊢
       refine pure_ (i := 0) (N := some 11) (v := ?_) (a' := ?_) #[T_,F_,F_,F_,F_] rfl rfl (by kernel_rfl) (fun _ _ _ h => h) (Or.inl ⟨by rfl, ?_⟩) ?_ ?_
       rotate_left
       ·
        intro w'; go_simp; with_reducible rfl
       rotate_left
       ·
        exact zp_
       refine pure_ (i := 2) (N := some 13) (v := ?_) (a' := ?_) #[T_,F_,T_,F_,F_] rfl rfl (by kernel_rfl) (fun _ _ _ h => h) (Or.inl ⟨by rfl, ?_⟩) ?_ ?_
       rotate_left
       ·
        intro w'; go_simp; with_reducible rfl
       rotate_left
       ·
        exact zp_
       refine take_ (i := 1) (N := some 12) (v := ?_) (a' := ?_) #[T_,T_,T_,F_,F_] rfl rfl (by kernel_rfl) (fun _ _ _ h => h) (Or.inl ⟨by rfl, ?_⟩) hHeld ?_ ?_
       rotate_left
       ·
        rintro w' ⟨s0, s1, s2, s3, s4, s5⟩
        go_simp
        with_reducible rfl
       rotate_left
       ·
        exact zp_
       refine one_ (i := 3) (N := some 14) #[T_,T_,T_,T_,F_] rfl rfl (by kernel_rfl) (by decide) (fun K hK => ?_)
       refine goes_ Try.func61 (by kernel_rfl) rfl #[.slice (some ad747) l0.length c0] (by rfl) rfl rfl za_ ?_
       with_reducible refine (exchange_Chosen.calls k1 _ _ l0 t749 _ ?side1 ?side2 A5.out).mono ?_
       (case side1 => exact zc_ HR0 HB)
       (case side2 => exact HC0.out)
       rintro e w19 ⟨rfl, hb⟩
       refine ⟨_, rfl, ?_⟩
       have n0_ := zk_ BK748 hb
       have n1_ := Aside0.mk (below_step zb_ hb)
       clear BK748
       clear HB
       have BK748 := n0_
       have HB := n1_
       clear n0_ n1_
       (try clear hb)
       (try clear hb2)
       (try clear hk)
       (try clear hi)
       refine hK.out _ _ ⟨(blk_cell BK748.out 0).trans rfl, (blk_cell BK748.out 1).trans rfl, (blk_cell BK748.out 2).trans rfl, (blk_cell BK748.out 3).trans rfl, (blk_cell BK748.out 4).trans rfl, (blk_cell BK748.out 5).trans rfl⟩ (fun hHeld => ?_)
       clear hK K
       refine norm_ (a' := ?_) ?_ ?_
       rotate_left
       ·
        show Act.put _ (some 14) _ = _
        simp only [Act.put, List.setIfInBounds_toArray, List.set_cons_zero, List.set_cons_succ, i64_w, i32_w]
        rfl
       refine pure_ (i := 4) (N := some 15) (v := ?_) (a' := ?_) #[T_,T_,T_,T_,T_] rfl rfl (by kernel_rfl) (fun _ _ _ h => h) (Or.inl ⟨by rfl, ?_⟩) ?_ ?_
       rotate_left
       ·
        intro w'; go_simp; with_reducible rfl
       rotate_left
       ·
        exact zp_
       refine done_ (by kernel_rfl) ?_
       try go_wp2
       go_roundg k1
       case measure => have := HK1.out; omega
       case rel => exact ⟨(wrap64 (x7_1 + 1)), (by first | rfl | (simp; done) | (simp [*]; done)), H', ⟨by have := HK1.out; omega⟩, ⟨by repeat (first | (with_reducible first | exact HB.out | apply below_alloc | apply pw_below_drewN | apply below_drew1 | refine below_set ?_ GE748.out) | exact HB.out)⟩⟩
     ·
      rw [if_neg c4] at H
      exact absurd H (by simp)
    ·
     rw [if_neg c3] at H
     exact absurd H (by simp)
   ·
    rw [if_neg c2] at H
    have c2b0 : decide (x7_1 < (l0.length : Int)) = false := decide_eq_false c2
    clear c2
    obtain rfl := Option.some.inj H
    go_wp2
    go_ret
    exact ⟨_, by first | rfl | (simp [errW_none, errW_some] <;> rfl) | (simp [*, errW_none, errW_some] <;> rfl), by first | exact Kd.R_nil _ _ _ _ _ | exact Kd.N_nil _ _ _ _ _ | exact Kd.V_nil _ _ _ _ _ | exact Kd.Q_nil _ _ _ _ _ | exact Kd.S_nil _ _ _ _ _, by repeat (first | (with_reducible first | exact HB.out | apply below_alloc | apply pw_below_drewN | apply below_drew1) | exact HB.out)⟩
end Go.Proofs.Ytioooiflpabngaa.PAll
end
section
namespace Go.Proofs.Ytioooiflpabngaa.PAll
open Go.RowKit Go.Proofs.YtioooiflpabngaaW.PrintWords Go.Proofs.YtioooiflpabngaaW.PrintLast Go.Proofs.YtioooiflpabngaaW.PrintMore
attribute [local go_sem] max2_int min2_int max_two min_two max_three min_three max_four min_four   -- for this text's walks alone
set_option linter.unusedVariables false
set_option linter.unusedSimpArgs false
def exchange_Known.l0 : Nat → List (S32) → List (S87) → Int → Int → Option ((List (S32)))
 | 0, _, _, _, _ => none
 | k + 1, x3, x6, x7, x8 => if x8 < x7 then (if 0 ≤ x8 then (if x8 < (x6.length : Int) then ((content_Merge.f k x3 ((rd_T87 x6 x8).f1.f0)).bind fun t802 => (exchange_Known.l0 k t802 x6 x7 (wrap64 (x8 + 1)))) else (none)) else (none)) else (some x3)
def exchange_Known.f (k : Nat) (l0 : List (S87)) : Option ((List (S32))) := exchange_Known.l0 k ([] : List (S32)) l0 (l0.length : Int) 0
set_option maxHeartbeats 8000000 in
set_option maxRecDepth 100000 in
theorem exchange_Known.calls (k : Nat) (A0 : Option Addr) (c0 : Nat) (l0 : List (S87)) (r : List (S32)) (w : World) (hr0 : Kd.C k87 w A0 l0.length l0) (hc0 : l0.length ≤ c0) (h : exchange_Known.f k l0 = some r) :
  Calls Try.prog 64 #[.slice A0 l0.length c0] w fun e w' => ∃ v0_ : Value, e = .returned (v0_) ∧ Kd.V k32 32 w' w.heap.size (fun k_ => (w.heap.size ≤ k_)) v0_ r ∧ Below w.heap.size w w' := by
 have hu87 := Try.underlying87
 have HR0 := Aside0.mk hr0
 have HC0 := Aside0.mk hc0
 clear hr0 hc0
 have HB := Aside0.mk (Below.refl w.heap.size w)
 have H : (exchange_Known.l0 k ([] : List (S32)) l0 (l0.length : Int) 0) = some r := h
 clear h
 have H' := Aside0.mk H
 clear H
 go_enter Try.func64, Try.ntmps64
 go_wp2
 go_loopg [3, 8] k (fun kq v3 v8 w' => ∃ (x3_1 : List (S32)) (x8_1 : Int), v8 = .int .i64 x8_1 ∧ Aside0 (exchange_Known.l0 kq x3_1 l0 (l0.length : Int) x8_1 = some r) ∧ Aside0 (kq ≤ k) ∧ Aside0 (Kd.V k32 32 w' w.heap.size (fun k_ => (w.heap.size ≤ k_)) v3 x3_1) ∧ Aside0 (Below w.heap.size w w'))
 case atStart => exact ⟨(([] : List (S32))), (0), (by first | rfl | (simp; done) | (simp [*]; done)), H', ⟨Nat.le_refl _⟩, ⟨Kd.S_V (base := 0) (ok := fun k_ => w.heap.size ≤ k_) (Kd.S_nil _ _ _ _ _)⟩, ⟨by repeat (first | (with_reducible first | exact HB.out | apply below_alloc | apply pw_below_drewN | apply below_drew1) | exact HB.out)⟩⟩
 case round =>
  clear H'
  obtain ⟨x3_1, x8_1, rfl, HA, HK1, HO_3, HB⟩ := hrel
  cases gk with
  | zero => exact absurd HA.out (by simp [exchange_Known.l0])
  | succ k1 =>
   have H := HA.out
   clear HA
   simp only [exchange_Known.l0] at H
   by_cases c2 : x8_1 < (l0.length : Int)
   ·
    rw [if_pos c2] at H
    have c2b0 : decide (x8_1 < (l0.length : Int)) = true := decide_eq_true c2
    clear c2
    by_cases c3 : 0 ≤ x8_1
    ·
     rw [if_pos c3] at H
     have c3b0 : decide (0 ≤ x8_1) = true := decide_eq_true c3
     clear c3
     by_cases c4 : x8_1 < (l0.length : Int)
     ·
      rw [if_pos c4] at H
      have c4b0 : decide (x8_1 < (l0.length : Int)) = true := decide_eq_true c4
      clear c4
      replace H := Option.bind_eq_some_iff.mp H
      obtain ⟨t802, A50, H⟩ := H
      replace H : (exchange_Known.l0 k1 t802 l0 (l0.length : Int) (wrap64 (x8_1 + 1))) = some r := H
      have A5 := Aside0.mk A50
      clear A50
      have H' := Aside0.mk H
      clear H
      have p800 : 0 ≤ (x8_1 : Int) := of_decide_eq_true zs_
      have q800 : x8_1 < (l0.length : Int) := of_decide_eq_true zs_
      obtain ⟨ad800, A800_1, c800_1, A800_2, c800_2, e800, hx800_0, hx800_1, hx800_2, hx800_3, hx800_4, hx800_5, hl800_1, hi800_1, hl800_2, hi800_2⟩ := at_T87 HR0.out x8_1 p800 q800
      cases e800
      replace hx800_0 := (HB.out.cell (World.block_lt_of_cell? w _ hx800_0)).trans hx800_0
      replace hx800_1 := (HB.out.cell (World.block_lt_of_cell? w _ hx800_1)).trans hx800_1
      replace hx800_2 := (HB.out.cell (World.block_lt_of_cell? w _ hx800_2)).trans hx800_2
      replace hx800_3 := (HB.out.cell (World.block_lt_of_cell? w _ hx800_3)).trans hx800_3
      replace hx800_4 := (HB.out.cell (World.block_lt_of_cell? w _ hx800_4)).trans hx800_4
      replace hx800_5 := (HB.out.cell (World.block_lt_of_cell? w _ hx800_5)).trans hx800_5
      have HR800_1 := Aside0.mk hi800_1
      have HC800_1 := Aside0.mk hl800_1
      clear hi800_1 hl800_1
      have HR800_2 := Aside0.mk hi800_2
      have HC800_2 := Aside0.mk hl800_2
      clear hi800_2 hl800_2
      replace p800 := eq_true p800
      replace q800 := eq_true q800
      go_wp2_with (first | ((with_reducible refine gate_dst (N := 5) rfl ?_); refine box_event ?hg (N := 5) ?hd (cs := #[.int .i64 0, .slice none 0 0, .slice none 0 0, .int .i64 0, .int .u64 0, .int .i64 0]) (t := 87) ?hr ?_; (case hd => rfl); (case hg => rfl); (case hr => first | (go_simp; done) | (go_simp; rfl)); intro gb801 hg w6 hbox hb; have n0_ := Aside0.mk (Kd.V_below (Kd.V_elderB (zv_ HO_3) gb801 (Nat.le_of_eq hg.symm)) hb); have n1_ := Aside0.mk (below_step zb_ hb); have n2_ := Aside0.mk (hbox); have n3_ := Aside0.mk ((by rw [hg]; exact (below_size zb_) : w.heap.size ≤ gb801)); have n4_ := Aside0.mk ((by rw [hg]; exact (below_size zb_) : w.heap.size ≤ gb801)); clear HO_3; clear HB; have HO_3 := n0_; have HB := n1_; have BK801 := n2_; have GW801 := n3_; have GE801 := n4_; clear n0_ n1_ n2_ n3_ n4_; clear hb hbox hg; have hcz7_0 : w6.cell? ⟨gb801, 0, none⟩ = some (.int .i64 0) := (blk_cell BK801.out 0).trans rfl; have hcz7_1 : w6.cell? ⟨gb801, 1, none⟩ = some (.slice none 0 0) := (blk_cell BK801.out 1).trans rfl; have hcz7_2 : w6.cell? ⟨gb801, 2, none⟩ = some (.slice none 0 0) := (blk_cell BK801.out 2).trans rfl; have hcz7_3 : w6.cell? ⟨gb801, 3, none⟩ = some (.int .i64 0) := (blk_cell BK801.out 3).trans rfl; have hcz7_4 : w6.cell? ⟨gb801, 4, none⟩ = some (.int .u64 0) := (blk_cell BK801.out 4).trans rfl; have hcz7_5 : w6.cell? ⟨gb801, 5, none⟩ = some (.int .i64 0) := (blk_cell BK801.out 5).trans rfl; have hfz7_0 := blk_frozen BK801.out 0; have hfz7_1 := blk_frozen BK801.out 1; have hfz7_2 := blk_frozen BK801.out 2; have hfz7_3 := blk_frozen BK801.out 3; have hfz7_4 := blk_frozen BK801.out 4; have hfz7_5 := blk_frozen BK801.out 5) | ((with_reducible refine gate_store (t := 87) (p := 5) rfl ?_); refine store_event (t := 87) (p := 5) (v := ?vo_w8) (w1 := ((((((w6.setCell ⟨gb801, 0, none⟩ (.int .i64 ((rd_T87 l0 x8_1).f0))).setCell ⟨gb801, 1, none⟩ (.slice A800_1 ((rd_T87 l0 x8_1).f1.f0).length c800_1)).setCell ⟨gb801, 2, none⟩ (.slice A800_2 ((rd_T87 l0 x8_1).f1.f1).length c800_2)).setCell ⟨gb801, 3, none⟩ (.int .i64 ((rd_T87 l0 x8_1).f1.f2))).setCell ⟨gb801, 4, none⟩ (.int .u64 ((rd_T87 l0 x8_1).f1.f3.f0))).setCell ⟨gb801, 5, none⟩ (.int .i64 ((rd_T87 l0 x8_1).f1.f3.f1)))) ?hg ?ho ?hn ?hr ?_; (case ho => rfl); (case hg => rfl); (case hn => rfl); (case hr => first | (go_simp; done) | (go_simp; rfl)); intro w8 hw; have n0_ : Aside0 (Kd.V k32 32 w8 w.heap.size (fun k_ => (w.heap.size ≤ k_) ∧ k_ ≠ gb801) u3 x3_1) := ⟨(by rw [hw]; exact (by (with_reducible repeat (first | apply Kd.V_alloc | apply Kd.V_drewN | apply Kd.V_drew)); exact Kd.V_mono (Kd.V_far (p := ⟨gb801, 5, none⟩) (Kd.V_far (p := ⟨gb801, 4, none⟩) (Kd.V_far (p := ⟨gb801, 3, none⟩) (Kd.V_far (p := ⟨gb801, 2, none⟩) (Kd.V_far (p := ⟨gb801, 1, none⟩) (Kd.V_far (p := ⟨gb801, 0, none⟩) (Kd.V_mono HO_3.out (fun k_ hk => (⟨hk, hk.2⟩ : _ ∧ k_ ≠ gb801))) (fun _ hk => hk.2) (.int .i64 ((rd_T87 l0 x8_1).f0))) (fun _ hk => hk.2) (.slice A800_1 ((rd_T87 l0 x8_1).f1.f0).length c800_1)) (fun _ hk => hk.2) (.slice A800_2 ((rd_T87 l0 x8_1).f1.f1).length c800_2)) (fun _ hk => hk.2) (.int .i64 ((rd_T87 l0 x8_1).f1.f2))) (fun _ hk => hk.2) (.int .u64 ((rd_T87 l0 x8_1).f1.f3.f0))) (fun _ hk => hk.2) (.int .i64 ((rd_T87 l0 x8_1).f1.f3.f1))) (fun _ hk => ⟨hk.1.1, hk.1.2⟩)))⟩; have n1_ : Aside0 (w8.heap[gb801]? = some (.cells #[.int .i64 ((rd_T87 l0 x8_1).f0), .slice A800_1 ((rd_T87 l0 x8_1).f1.f0).length c800_1, .slice A800_2 ((rd_T87 l0 x8_1).f1.f1).length c800_2, .int .i64 ((rd_T87 l0 x8_1).f1.f2), .int .u64 ((rd_T87 l0 x8_1).f1.f3.f0), .int .i64 ((rd_T87 l0 x8_1).f1.f3.f1)] 87 (0, 0))) := ⟨(by rw [hw]; exact (by (with_reducible repeat (first | refine blk_drewN ?_ _ | refine blk_drew ?_ | refine blk_alloc ?_ _)); refine blk_put (cs := #[.int .i64 ((rd_T87 l0 x8_1).f0), .slice A800_1 ((rd_T87 l0 x8_1).f1.f0).length c800_1, .slice A800_2 ((rd_T87 l0 x8_1).f1.f1).length c800_2, .int .i64 ((rd_T87 l0 x8_1).f1.f2), .int .u64 ((rd_T87 l0 x8_1).f1.f3.f0), .int .i64 0]) ?_ 5 _ rfl; (with_reducible repeat (first | refine blk_drewN ?_ _ | refine blk_drew ?_ | refine blk_alloc ?_ _)); refine blk_put (cs := #[.int .i64 ((rd_T87 l0 x8_1).f0), .slice A800_1 ((rd_T87 l0 x8_1).f1.f0).length c800_1, .slice A800_2 ((rd_T87 l0 x8_1).f1.f1).length c800_2, .int .i64 ((rd_T87 l0 x8_1).f1.f2), .int .u64 0, .int .i64 0]) ?_ 4 _ rfl; (with_reducible repeat (first | refine blk_drewN ?_ _ | refine blk_drew ?_ | refine blk_alloc ?_ _)); refine blk_put (cs := #[.int .i64 ((rd_T87 l0 x8_1).f0), .slice A800_1 ((rd_T87 l0 x8_1).f1.f0).length c800_1, .slice A800_2 ((rd_T87 l0 x8_1).f1.f1).length c800_2, .int .i64 0, .int .u64 0, .int .i64 0]) ?_ 3 _ rfl; (with_reducible repeat (first | refine blk_drewN ?_ _ | refine blk_drew ?_ | refine blk_alloc ?_ _)); refine blk_put (cs := #[.int .i64 ((rd_T87 l0 x8_1).f0), .slice A800_1 ((rd_T87 l0 x8_1).f1.f0).length c800_1, .slice none 0 0, .int .i64 0, .int .u64 0, .int .i64 0]) ?_ 2 _ rfl; (with_reducible repeat (first | refine blk_drewN ?_ _ | refine blk_drew ?_ | refine blk_alloc ?_ _)); refine blk_put (cs := #[.int .i64 ((rd_T87 l0 x8_1).f0), .slice none 0 0, .slice none 0 0, .int .i64 0, .int .u64 0, .int .i64 0]) ?_ 1 _ rfl; (with_reducible repeat (first | refine blk_drewN ?_ _ | refine blk_drew ?_ | refine blk_alloc ?_ _)); refine blk_put (cs := #[.int .i64 0, .slice none 0 0, .slice none 0 0, .int .i64 0, .int .u64 0, .int .i64 0]) ?_ 0 _ rfl; (with_reducible repeat (first | refine blk_drewN ?_ _ | refine blk_drew ?_ | refine blk_alloc ?_ _)); exact BK801.out))⟩; have n2_ : Aside0 (Below w.heap.size w w8) := ⟨(by rw [hw]; exact zb_)⟩; clear hw; clear HO_3; clear BK801; clear HB; have HO_3 := n0_; have BK801 := n1_; have HB := n2_; clear n0_ n1_ n2_; have hcz9_0 : w8.cell? ⟨gb801, 0, none⟩ = some (.int .i64 ((rd_T87 l0 x8_1).f0)) := (blk_cell BK801.out 0).trans rfl; have hcz9_1 : w8.cell? ⟨gb801, 1, none⟩ = some (.slice A800_1 ((rd_T87 l0 x8_1).f1.f0).length c800_1) := (blk_cell BK801.out 1).trans rfl; have hcz9_2 : w8.cell? ⟨gb801, 2, none⟩ = some (.slice A800_2 ((rd_T87 l0 x8_1).f1.f1).length c800_2) := (blk_cell BK801.out 2).trans rfl; have hcz9_3 : w8.cell? ⟨gb801, 3, none⟩ = some (.int .i64 ((rd_T87 l0 x8_1).f1.f2)) := (blk_cell BK801.out 3).trans rfl; have hcz9_4 : w8.cell? ⟨gb801, 4, none⟩ = some (.int .u64 ((rd_T87 l0 x8_1).f1.f3.f0)) := (blk_cell BK801.out 4).trans rfl; have hcz9_5 : w8.cell? ⟨gb801, 5, none⟩ = some (.int .i64 ((rd_T87 l0 x8_1).f1.f3.f1)) := (blk_cell BK801.out 5).trans rfl; have hfz9_0 := blk_frozen BK801.out 0; have hfz9_1 := blk_frozen BK801.out 1; have hfz9_2 := blk_frozen BK801.out 2; have hfz9_3 := blk_frozen BK801.out 3; have hfz9_4 := blk_frozen BK801.out 4; have hfz9_5 := blk_frozen BK801.out 5; obtain ⟨Ao10, co10, eo10⟩ := Kd.V_slice HO_3.out; subst eo10) | ((with_reducible refine gate_callee (f := 28) rfl ?_); refine goesL_ (some 16) rfl rfl Try.func28 (by kernel_rfl) rfl #[.slice Ao10 x3_1.length co10, .slice A800_1 ((rd_T87 l0 x8_1).f1.f0).length c800_1] rfl za_ ?_; (with_reducible refine (content_Merge.calls k1 (fun k_ => ((w.heap.size ≤ k_) ∧ k_ ≠ gb801)) _ _ x3_1 _ _ ((rd_T87 l0 x8_1).f1.f0) t802 _ ?side1 ?side2 ?side3 A5.out).mono ?_); (case side1 => exact HO_3.out); (case side2 => exact zc_ HR800_1 HB); (case side3 => exact HC800_1.out); rintro e w11 ⟨v803, rfl, ho0, hb⟩; refine ⟨_, rfl, ?_⟩; have n0_ := Aside0.mk (Kd.V_below (zv_ HO_3) hb); have n1_ := Aside0.mk (Kd.V_lower (Kd.V_mono (ok' := fun k_ => (w.heap.size ≤ k_) ∧ k_ ≠ gb801) ho0 (fun k_ hk_ => ⟨Or.elim hk_ (fun hs_ => hs_.1) (fun hn_ => (Nat.le_trans (below_size zb_) hn_)), Or.elim hk_ (fun hs_ => hs_.2) (fun hn_ => (Kd.freshB (g := gb801) (o := .cells #[.int .i64 ((rd_T87 l0 x8_1).f0), .slice A800_1 ((rd_T87 l0 x8_1).f1.f0).length c800_1, .slice A800_2 ((rd_T87 l0 x8_1).f1.f1).length c800_2, .int .i64 ((rd_T87 l0 x8_1).f1.f2), .int .u64 ((rd_T87 l0 x8_1).f1.f3.f0), .int .i64 ((rd_T87 l0 x8_1).f1.f3.f1)] 87 (0, 0)) (by (with_reducible repeat (first | refine blk_drewN ?_ _ | refine blk_drew ?_ | refine blk_alloc ?_ _)); exact BK801.out) k_ hn_))⟩)) (below_size zb_)); have n2_ := zk_ BK801 hb; have n3_ := Aside0.mk (below_step zb_ hb); clear HO_3; clear BK801; clear HB; have HO_3 := n0_; have HO804 := n1_; have BK801 := n2_; have HB := n3_; clear n0_ n1_ n2_ n3_; (try clear hb); (try clear hb2); (try clear hk); (try clear hi); (try clear ho0)))
      go_roundg k1
      case measure => have := HK1.out; omega
      case rel => exact ⟨(t802), (wrap64 (x8_1 + 1)), (by first | rfl | (simp; done) | (simp [*]; done)), H', ⟨by have := HK1.out; omega⟩, ⟨by (with_reducible repeat (first | apply Kd.V_alloc | apply Kd.V_drewN | apply Kd.V_drew)); exact Kd.V_mono HO804.out (fun _ hk => hk.1)⟩, ⟨by repeat (first | (with_reducible first | exact HB.out | apply below_alloc | apply pw_below_drewN | apply below_drew1 | refine below_set ?_ GE801.out) | exact HB.out)⟩⟩
     ·
      rw [if_neg c4] at H
      exact absurd H (by simp)
    ·
     rw [if_neg c3] at H
     exact absurd H (by simp)
   ·
    rw [if_neg c2] at H
    have c2b0 : decide (x8_1 < (l0.length : Int)) = false := decide_eq_false c2
    clear c2
    obtain rfl := Option.some.inj H
    go_wp2
    go_ret
    exact ⟨_, by first | rfl | (simp [errW_none, errW_some] <;> rfl) | (simp [*, errW_none, errW_some] <;> rfl), by (with_reducible repeat (first | apply Kd.V_alloc | apply Kd.V_drewN | apply Kd.V_drew)); exact HO_3.out, by repeat (first | (with_reducible first | exact HB.out | apply below_alloc | apply pw_below_drewN | apply below_drew1) | exact HB.out)⟩
end Go.Proofs.Ytioooiflpabngaa.PAll
end
