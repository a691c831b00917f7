/- Parts: PAllx52, PAllx29, PAllx46, PAllx47, EAll, ERise, PAllx26, ERight, HRead, HReadU, HReadB, HReadC, EDec, HDecA, HDecB, HDecC, HDecD. -/
import Derived.Test.YtioooiflpabngaaContentAllB
import Derived.Test.YtioooiflpabngaaContentAllC
import Derived.WalkSpells
import Derived.Lib.Overlaps
import Derived.Lib.AppendZerosOnto
import Derived.Laws.CopyOwn
import Derived.Shelf.RegionOpenPlain
import Derived.Lib.Walk
import Derived.Lib.JoinLaws
import Derived.Laws.NewBlocks
import Derived.Deep.RegionHeld3
import Derived.Deep.DeepCutAuto
import Derived.Deep.CutBlock
set_option linter.unusedVariables false
set_option linter.unusedSimpArgs false
section
namespace Go.Proofs.Ytioooiflpabngaa.PAll
open Go.RowKit Go.Proofs.YtioooiflpabngaaW.PrintWords Go.Proofs.YtioooiflpabngaaW.PrintLast Go.Proofs.YtioooiflpabngaaW.PrintMore
attribute [local go_sem] max2_int min2_int max_two min_two max_three min_three max_four min_four   -- for this text's walks alone
set_option linter.unusedVariables false
set_option linter.unusedSimpArgs false
mutual
def content_EncodeAll.l0 : Nat → List Int → List (S32) → Int → Int → List (S32) → List (S27) → Int → Int → Int → Option (List Int × Int)
 | 0, _, _, _, _, _, _, _, _, _ => none
 | k + 1, x4, x19, x20, x21, x532000, x532001, x532002, x532003, x532004 => if x21 < x20 then (if 0 ≤ x21 then (if x21 < (x19.length : Int) then ((label_Encode.f k x4 ((rd_T32 x19 x21).f0.f0.f0) ((rd_T32 x19 x21).f0.f0.f1) ((rd_T32 x19 x21).f0.f1) ((rd_T32 x19 x21).f0.f2)).bind fun bt541 => ((code_Bytes.f k bt541.1 ((rd_T32 x19 x21).f1)).bind fun t545 => (content_EncodeAll.l0 k t545 x19 x20 (wrap64 (x21 + 1)) x532000 x532001 x532002 x532003 x532004))) else (none)) else (none)) else ((code_Uint.f k x4 (IntKind.u64.wrap ((x532001.length : Int)))).bind fun t548 => (content_EncodeAll.l1 k t548 x532001 (x532001.length : Int) 0 x532000 x532001 x532002 x532003 x532004))
def content_EncodeAll.l1 : Nat → List Int → List (S27) → Int → Int → List (S32) → List (S27) → Int → Int → Int → Option (List Int × Int)
 | 0, _, _, _, _, _, _, _, _, _ => none
 | k + 1, x4, x44, x45, x46, x532000, x532001, x532002, x532003, x532004 => if x46 < x45 then (if 0 ≤ x46 then (if x46 < (x44.length : Int) then ((label_Encode.f k x4 ((rd_T27 x44 x46).f0.f0) ((rd_T27 x44 x46).f0.f1) ((rd_T27 x44 x46).f1) ((rd_T27 x44 x46).f2)).bind fun bt553 => (content_EncodeAll.l1 k bt553.1 x44 x45 (wrap64 (x46 + 1)) x532000 x532001 x532002 x532003 x532004)) else (none)) else (none)) else ((code_Uint.f k x4 (IntKind.u64.wrap (x532002))).bind fun t557 => ((ident_Encode.f k t557 x532003 x532004).bind fun bt560 => (some (bt560.1, 0))))
end
def content_EncodeAll.f (k : Nat) (l0_0 : List (S32)) (l0_1 : List (S27)) (a0_2 : Int) (a0_3 : Int) (a0_4 : Int) : Option (List Int × Int) := (content_Right.f k l0_0 l0_1 a0_2 a0_3 a0_4).bind fun t532 => (if t532 = true then ((code_Uint.f k (([2] : List Int)) (IntKind.u64.wrap ((l0_0.length : Int)))).bind fun t536 => (content_EncodeAll.l0 k t536 l0_0 (l0_0.length : Int) 0 l0_0 l0_1 a0_2 a0_3 a0_4)) else (some (([] : List Int), 3)))
set_option maxHeartbeats 8000000 in
set_option maxRecDepth 100000 in
theorem content_EncodeAll.calls (k : Nat) (A0_0 : Option Addr) (c0_0 : Nat) (l0_0 : List (S32)) (A0_1 : Option Addr) (c0_1 : Nat) (l0_1 : List (S27)) (a0_2 : Int) (a0_3 : Int) (a0_4 : Int) (r1 : List Int) (r2 : Int) (w : World) (hr0_0 : Kd.C k32 w A0_0 l0_0.length l0_0) (hc0_0 : l0_0.length ≤ c0_0) (hr0_1 : Kd.C k27 w A0_1 l0_1.length l0_1) (hc0_1 : l0_1.length ≤ c0_1) (h : content_EncodeAll.f k l0_0 l0_1 a0_2 a0_3 a0_4 = some (r1, r2)) :
  Calls Try.prog 47 #[.agg #[.slice A0_0 l0_0.length c0_0, .slice A0_1 l0_1.length c0_1, .int .i64 a0_2, .int .u64 a0_3, .int .i64 a0_4]] w fun e w' => ∃ v0_ : Value, e = .returned (.tuple #[v0_, .int .i64 r2]) ∧ Kd.R (Kd.int .u8) 5 w' w.heap.size (fun _ => True) v0_ r1 ∧ Below w.heap.size w w' := by
 have hu53 := Try.underlying53
 have hu32 := Try.underlying32
 have hu27 := Try.underlying27
 have hu25 := Try.underlying25
 have HR0_0 := Aside0.mk hr0_0
 have HC0_0 := Aside0.mk hc0_0
 clear hr0_0 hc0_0
 have HR0_1 := Aside0.mk hr0_1
 have HC0_1 := Aside0.mk hc0_1
 clear hr0_1 hc0_1
 have HB := Aside0.mk (Below.refl w.heap.size w)
 have H : ((content_Right.f k l0_0 l0_1 a0_2 a0_3 a0_4).bind fun t532 => (if t532 = true then ((code_Uint.f k (([2] : List Int)) (IntKind.u64.wrap ((l0_0.length : Int)))).bind fun t536 => (content_EncodeAll.l0 k t536 l0_0 (l0_0.length : Int) 0 l0_0 l0_1 a0_2 a0_3 a0_4)) else (some (([] : List Int), 3)))) = some (r1, r2) := h
 clear h
 replace H := Option.bind_eq_some_iff.mp H
 obtain ⟨t532, A20, H⟩ := H
 replace H : (if t532 = true then ((code_Uint.f k (([2] : List Int)) (IntKind.u64.wrap ((l0_0.length : Int)))).bind fun t536 => (content_EncodeAll.l0 k t536 l0_0 (l0_0.length : Int) 0 l0_0 l0_1 a0_2 a0_3 a0_4)) else (some (([] : List Int), 3))) = some (r1, r2) := H
 have A2 := Aside0.mk A20
 clear A20
 by_cases c3 : t532 = true
 ·
  subst c3
  have H1 : ((code_Uint.f k (([2] : List Int)) (IntKind.u64.wrap ((l0_0.length : Int)))).bind fun t536 => (content_EncodeAll.l0 k t536 l0_0 (l0_0.length : Int) 0 l0_0 l0_1 a0_2 a0_3 a0_4)) = some (r1, r2) := by rw [if_pos rfl] at H; exact H
  clear H
  have H := H1
  clear H1
  obtain ⟨y533, hy533⟩ : ∃ y_ : List Int, y_ = (([2] : List Int)) := ⟨_, rfl⟩
  replace H : ((code_Uint.f k y533 (IntKind.u64.wrap ((l0_0.length : Int)))).bind fun t536 => (content_EncodeAll.l0 k t536 l0_0 (l0_0.length : Int) 0 l0_0 l0_1 a0_2 a0_3 a0_4)) = some (r1, r2) := by first | (rw [hy533]; with_reducible exact H) | (have H2_ := (Option.bind_some _ _).symm.trans H; rw [hy533]; with_reducible exact H2_) | (have H2_ := (Option.bind_some _ _).symm.trans H; with_reducible exact H2_) | with_reducible exact H | (rw [hy533]; exact H) | exact H
  have Ny533 := Aside0.mk hy533
  clear hy533
  replace H := Option.bind_eq_some_iff.mp H
  obtain ⟨t536, A40, H⟩ := H
  replace H : (content_EncodeAll.l0 k t536 l0_0 (l0_0.length : Int) 0 l0_0 l0_1 a0_2 a0_3 a0_4) = some (r1, r2) := H
  have A4 := Aside0.mk A40
  clear A40
  have H' := Aside0.mk H
  clear H
  go_enter Try.func47, Try.ntmps47
  go_wp2_with (first | ((with_reducible refine gate_dst (N := 1) rfl ?_); refine box_event ?hg (N := 1) ?hd (cs := #[.slice A0_0 l0_0.length c0_0, .slice A0_1 l0_1.length c0_1, .int .i64 a0_2, .int .u64 a0_3, .int .i64 a0_4]) (t := 53) ?hr ?_; (case hd => rfl); (case hg => rfl); (case hr => first | (go_simp; done) | (go_simp; rfl)); intro gb531 hg w5 hbox hb; have n0_ := Aside0.mk (below_step zb_ hb); have n1_ := Aside0.mk (hbox); have n2_ := Aside0.mk ((by rw [hg]; exact (below_size zb_) : w.heap.size ≤ gb531)); have n3_ := Aside0.mk ((by rw [hg]; exact (below_size zb_) : w.heap.size ≤ gb531)); clear HB; have HB := n0_; have BK531 := n1_; have GW531 := n2_; have GE531 := n3_; clear n0_ n1_ n2_ n3_; clear hb hbox hg; have hcz6_0 : w5.cell? ⟨gb531, 0, none⟩ = some (.slice A0_0 l0_0.length c0_0) := (blk_cell BK531.out 0).trans rfl; have hcz6_1 : w5.cell? ⟨gb531, 1, none⟩ = some (.slice A0_1 l0_1.length c0_1) := (blk_cell BK531.out 1).trans rfl; have hcz6_2 : w5.cell? ⟨gb531, 2, none⟩ = some (.int .i64 a0_2) := (blk_cell BK531.out 2).trans rfl; have hcz6_3 : w5.cell? ⟨gb531, 3, none⟩ = some (.int .u64 a0_3) := (blk_cell BK531.out 3).trans rfl; have hcz6_4 : w5.cell? ⟨gb531, 4, none⟩ = some (.int .i64 a0_4) := (blk_cell BK531.out 4).trans rfl; have hfz6_0 := blk_frozen BK531.out 0; have hfz6_1 := blk_frozen BK531.out 1; have hfz6_2 := blk_frozen BK531.out 2; have hfz6_3 := blk_frozen BK531.out 3; have hfz6_4 := blk_frozen BK531.out 4) | ((with_reducible refine gate_callee (f := 53) rfl ?_); refine goesL_ (some 10) rfl rfl Try.func53 (by kernel_rfl) rfl #[.agg #[.slice A0_0 l0_0.length c0_0, .slice A0_1 l0_1.length c0_1, .int .i64 a0_2, .int .u64 a0_3, .int .i64 a0_4]] rfl za_ ?_; (with_reducible refine (content_Right.calls k _ _ l0_0 _ _ l0_1 a0_2 a0_3 a0_4 true _ ?side1 ?side2 ?side3 ?side4 A2.out).mono ?_); (case side1 => exact zc_ HR0_0 HB); (case side2 => exact HC0_0.out); (case side3 => exact zc_ HR0_1 HB); (case side4 => exact HC0_1.out); rintro e w7 ⟨rfl, hb⟩; refine ⟨_, rfl, ?_⟩; have n0_ := zk_ BK531 hb; have n1_ := Aside0.mk (below_step zb_ hb); clear BK531; clear HB; have BK531 := n0_; have HB := n1_; clear n0_ n1_; (try clear hb); (try clear hb2); (try clear hk); (try clear hi)) | ((with_reducible refine gate_dst (N := 12) rfl ?_); refine Kd.R_lit (Kd.int .u8) _ 5 ?hg (N := 12) ?hd (xs := ([2] : List Int)) (inner := [.int .u8 2]) (ok := fun _ => True) (okp := fun _ => True) ?hr ?hp (fun _ hk => hk) trivial (Below.refl _ _) (Nat.le_refl _) (by simp) ?_; (case hd => rfl); (case hg => rfl); (case hr => first | (go_simp; done) | (go_simp; rfl)); (case hp => exact (Reps.one (show Kd.M (Kd.int .u8) _ _ _ 2 [.int .u8 2] from rfl) (Reps.none _ _))); intro v534 w8 ho9 hb hg_ hnew_; clear hg_ hnew_; (first | rw [← Ny533.out] at ho9 | (simp only [Int.reduceToNat] at ho9; rw [← Ny533.out] at ho9)); have n0_ := Aside0.mk (Kd.R_lower ho9 (below_size zb_)); have n1_ := zk_ BK531 hb; have n2_ := Aside0.mk (below_step zb_ hb); clear BK531; clear HB; have HO535 := n0_; have BK531 := n1_; have HB := n2_; clear n0_ n1_ n2_; clear hb ho9; have hcz10_0 : w8.cell? ⟨gb531, 0, none⟩ = some (.slice A0_0 l0_0.length c0_0) := (blk_cell BK531.out 0).trans rfl; have hcz10_1 : w8.cell? ⟨gb531, 1, none⟩ = some (.slice A0_1 l0_1.length c0_1) := (blk_cell BK531.out 1).trans rfl; have hcz10_2 : w8.cell? ⟨gb531, 2, none⟩ = some (.int .i64 a0_2) := (blk_cell BK531.out 2).trans rfl; have hcz10_3 : w8.cell? ⟨gb531, 3, none⟩ = some (.int .u64 a0_3) := (blk_cell BK531.out 3).trans rfl; have hcz10_4 : w8.cell? ⟨gb531, 4, none⟩ = some (.int .i64 a0_4) := (blk_cell BK531.out 4).trans rfl; have hfz10_0 := blk_frozen BK531.out 0; have hfz10_1 := blk_frozen BK531.out 1; have hfz10_2 := blk_frozen BK531.out 2; have hfz10_3 := blk_frozen BK531.out 3; have hfz10_4 := blk_frozen BK531.out 4; obtain ⟨Ao11, co11, eo11⟩ := Kd.R_slice HO535.out; subst eo11) | ((with_reducible refine gate_callee (f := 92) rfl ?_); refine goesL_ (some 17) rfl rfl Try.func92 (by kernel_rfl) rfl #[.slice Ao11 y533.length co11, .int .u64 (IntKind.u64.wrap ((l0_0.length : Int)))] rfl za_ ?_; (with_reducible refine (code_Uint.calls k (fun k_ => some k_ = (.slice Ao11 y533.length co11 : Value).ownBlock) (.slice Ao11 y533.length co11) y533 (IntKind.u64.wrap ((l0_0.length : Int))) t536 w _ ?side1 ?side2 A4.out).mono ?_); (case side1 => repeat (first | (with_reducible first | exact HB.out | apply below_alloc | apply pw_below_drewN | apply below_drew1 | refine below_set ?_ GE531.out) | exact HB.out)); (case side2 => exact Kd.R_tight rfl HO535.out); rintro e w12 ⟨v537, rfl, ho0, hb, hkp⟩; refine ⟨_, rfl, ?_⟩; have n0_ := Aside0.mk (blk_kept (by (with_reducible repeat (first | refine blk_drewN ?_ _ | refine blk_drew ?_ | refine blk_alloc ?_ _)); exact BK531.out) hkp (fun hs_ => (fun e_ => (Kd.R_ne HO535.out BK531.out (by decide)) e_) hs_)); have n1_ := Aside0.mk (Kd.R_mono (ok' := fun k_ => True) ho0 (fun k_ hk_ => trivial)); have n2_ := Aside0.mk (hb); clear BK531; clear HB; clear HO535; have BK531 := n0_; have HO538 := n1_; have HB := n2_; clear n0_ n1_ n2_; (try clear hb); (try clear hkp); (try clear ho0); have hcz13_0 : w12.cell? ⟨gb531, 0, none⟩ = some (.slice A0_0 l0_0.length c0_0) := (blk_cell BK531.out 0).trans rfl; have hcz13_1 : w12.cell? ⟨gb531, 1, none⟩ = some (.slice A0_1 l0_1.length c0_1) := (blk_cell BK531.out 1).trans rfl; have hcz13_2 : w12.cell? ⟨gb531, 2, none⟩ = some (.int .i64 a0_2) := (blk_cell BK531.out 2).trans rfl; have hcz13_3 : w12.cell? ⟨gb531, 3, none⟩ = some (.int .u64 a0_3) := (blk_cell BK531.out 3).trans rfl; have hcz13_4 : w12.cell? ⟨gb531, 4, none⟩ = some (.int .i64 a0_4) := (blk_cell BK531.out 4).trans rfl; have hfz13_0 := blk_frozen BK531.out 0; have hfz13_1 := blk_frozen BK531.out 1; have hfz13_2 := blk_frozen BK531.out 2; have hfz13_3 := blk_frozen BK531.out 3; have hfz13_4 := blk_frozen BK531.out 4))
  go_loopg [4, 21] k (fun kq v4 v21 w' => ∃ (x4_1 : List Int) (x21_1 : Int), v21 = .int .i64 x21_1 ∧ Aside0 (content_EncodeAll.l0 kq x4_1 l0_0 (l0_0.length : Int) x21_1 l0_0 l0_1 a0_2 a0_3 a0_4 = some (r1, r2)) ∧ Aside0 (kq ≤ k) ∧ Aside0 (Kd.R (Kd.int .u8) 5 w' w.heap.size (fun _ => True) v4 x4_1) ∧ Aside0 (w'.heap[gb531]? = some (.cells #[(.slice A0_0 l0_0.length c0_0), (.slice A0_1 l0_1.length c0_1), .int .i64 a0_2, .int .u64 a0_3, .int .i64 a0_4] 53 (0, 0))) ∧ Aside0 (Below w.heap.size w w'))
  case atStart => exact ⟨(t536), (0), (by first | rfl | (simp; done) | (simp [*]; done)), H', ⟨Nat.le_refl _⟩, ⟨by (with_reducible repeat (first | apply Kd.R_alloc | apply Kd.R_drewN | apply Kd.R_drew)); exact HO538.out⟩, ⟨by (with_reducible repeat (first | refine blk_drewN ?_ _ | refine blk_drew ?_ | refine blk_alloc ?_ _)); exact BK531.out⟩, ⟨by repeat (first | (with_reducible first | exact HB.out | apply below_alloc | apply pw_below_drewN | apply below_drew1 | refine below_set ?_ GE531.out) | exact HB.out)⟩⟩
  case round =>
   clear H'
   try clear p2
   try clear c3
   try clear c4
   try clear c5
   try clear c9
   try clear hcz10_0
   try clear hcz10_1
   try clear hcz10_2
   try clear hcz10_3
   try clear hcz10_4
   try clear hcz13_0
   try clear hcz13_1
   try clear hcz13_2
   try clear hcz13_3
   try clear hcz13_4
   try clear hcz6_0
   try clear hcz6_1
   try clear hcz6_2
   try clear hcz6_3
   try clear hcz6_4
   try clear hfz10_0
   try clear hfz10_1
   try clear hfz10_2
   try clear hfz10_3
   try clear hfz10_4
   try clear hfz13_0
   try clear hfz13_1
   try clear hfz13_2
   try clear hfz13_3
   try clear hfz13_4
   try clear hfz6_0
   try clear hfz6_1
   try clear hfz6_2
   try clear hfz6_3
   try clear hfz6_4
   obtain ⟨x4_1, x21_1, rfl, HA, HK1, HO_4, BK531, HB⟩ := hrel
   cases gk with
   | zero => exact absurd HA.out (by simp [content_EncodeAll.l0])
   | succ k1 =>
    have H := HA.out
    clear HA
    simp only [content_EncodeAll.l0] at H
    by_cases c14 : x21_1 < (l0_0.length : Int)
    ·
     rw [if_pos c14] at H
     have c14b0 : decide (x21_1 < (l0_0.length : Int)) = true := decide_eq_true c14
     clear c14
     by_cases c15 : 0 ≤ x21_1
     ·
      rw [if_pos c15] at H
      have c15b0 : decide (0 ≤ x21_1) = true := decide_eq_true c15
      clear c15
      by_cases c16 : x21_1 < (l0_0.length : Int)
      ·
       rw [if_pos c16] at H
       have c16b0 : decide (x21_1 < (l0_0.length : Int)) = true := decide_eq_true c16
       clear c16
       replace H := Option.bind_eq_some_iff.mp H
       obtain ⟨⟨t541, t544⟩, A170, H⟩ := H
       replace H : ((code_Bytes.f k1 t541 ((rd_T32 l0_0 x21_1).f1)).bind fun t545 => (content_EncodeAll.l0 k1 t545 l0_0 (l0_0.length : Int) (wrap64 (x21_1 + 1)) l0_0 l0_1 a0_2 a0_3 a0_4)) = some (r1, r2) := H
       have A17 := Aside0.mk A170
       clear A170
       replace H := Option.bind_eq_some_iff.mp H
       obtain ⟨t545, A180, H⟩ := H
       replace H : (content_EncodeAll.l0 k1 t545 l0_0 (l0_0.length : Int) (wrap64 (x21_1 + 1)) l0_0 l0_1 a0_2 a0_3 a0_4) = some (r1, r2) := H
       have A18 := Aside0.mk A180
       clear A180
       have H' := Aside0.mk H
       clear H
       have p539 : 0 ≤ (x21_1 : Int) := of_decide_eq_true zs_
       have q539 : x21_1 < (l0_0.length : Int) := of_decide_eq_true zs_
       obtain ⟨ad539, A539_4, c539_4, e539, hx539_0, hx539_1, hx539_2, hx539_3, hx539_4, hl539_4, hi539_4⟩ := at_T32 HR0_0.out x21_1 p539 q539
       cases e539
       replace hx539_0 := (HB.out.cell (World.block_lt_of_cell? w _ hx539_0)).trans hx539_0
       replace hx539_1 := (HB.out.cell (World.block_lt_of_cell? w _ hx539_1)).trans hx539_1
       replace hx539_2 := (HB.out.cell (World.block_lt_of_cell? w _ hx539_2)).trans hx539_2
       replace hx539_3 := (HB.out.cell (World.block_lt_of_cell? w _ hx539_3)).trans hx539_3
       replace hx539_4 := (HB.out.cell (World.block_lt_of_cell? w _ hx539_4)).trans hx539_4
       have HR539_4 := Aside0.mk hi539_4
       have HC539_4 := Aside0.mk hl539_4
       clear hi539_4 hl539_4
       replace p539 := eq_true p539
       replace q539 := eq_true q539
       go_wp2_with (first | ((with_reducible refine gate_dst (N := 6) rfl ?_); refine box_event ?hg (N := 6) ?hd (cs := #[.int .u64 0, .int .i64 0, .int .u64 0, .int .i64 0, .slice none 0 0]) (t := 32) ?hr ?_; (case hd => rfl); (case hg => rfl); (case hr => first | (go_simp; done) | (go_simp; rfl)); intro gb540 hg w19 hbox hb; have n0_ := Aside0.mk (Kd.R_below (zr_ HO_4) hb); have n1_ := zk_ BK531 hb; have n2_ := Aside0.mk (below_step zb_ hb); have n3_ := Aside0.mk (hbox); have n4_ := Aside0.mk ((by rw [hg]; exact (below_size zb_) : w.heap.size ≤ gb540)); have n5_ := Aside0.mk ((by rw [hg]; exact (below_size zb_) : w.heap.size ≤ gb540)); have n6_ := Aside0.mk ((by rw [hg]; exact Nat.ne_of_lt (blk_lt (g := gb531) (o := .cells #[.slice (some ad539) l0_0.length c0_0, .slice A0_1 l0_1.length c0_1, .int .i64 a0_2, .int .u64 a0_3, .int .i64 a0_4] 53 (0, 0)) (by (with_reducible repeat (first | refine blk_drewN ?_ _ | refine blk_drew ?_ | refine blk_alloc ?_ _)); exact BK531.out)) : gb531 ≠ gb540)); have n7_ := Aside0.mk ((by rw [hg]; exact Nat.ne_of_gt (blk_lt (g := gb531) (o := .cells #[.slice (some ad539) l0_0.length c0_0, .slice A0_1 l0_1.length c0_1, .int .i64 a0_2, .int .u64 a0_3, .int .i64 a0_4] 53 (0, 0)) (by (with_reducible repeat (first | refine blk_drewN ?_ _ | refine blk_drew ?_ | refine blk_alloc ?_ _)); exact BK531.out)) : gb540 ≠ gb531)); clear HO_4; clear BK531; clear HB; have HO_4 := n0_; have BK531 := n1_; have HB := n2_; have BK540 := n3_; have GW540 := n4_; have GE540 := n5_; have NB531_540 := n6_; have NB540_531 := n7_; clear n0_ n1_ n2_ n3_ n4_ n5_ n6_ n7_; clear hb hbox hg; have hnb20 := NB540_531.out; have hnc20 := NB531_540.out; have hcz21_0 : w19.cell? ⟨gb540, 0, none⟩ = some (.int .u64 0) := (blk_cell BK540.out 0).trans rfl; have hcz21_1 : w19.cell? ⟨gb540, 1, none⟩ = some (.int .i64 0) := (blk_cell BK540.out 1).trans rfl; have hcz21_2 : w19.cell? ⟨gb540, 2, none⟩ = some (.int .u64 0) := (blk_cell BK540.out 2).trans rfl; have hcz21_3 : w19.cell? ⟨gb540, 3, none⟩ = some (.int .i64 0) := (blk_cell BK540.out 3).trans rfl; have hcz21_4 : w19.cell? ⟨gb540, 4, none⟩ = some (.slice none 0 0) := (blk_cell BK540.out 4).trans rfl; have hfz21_0 := blk_frozen BK540.out 0; have hfz21_1 := blk_frozen BK540.out 1; have hfz21_2 := blk_frozen BK540.out 2; have hfz21_3 := blk_frozen BK540.out 3; have hfz21_4 := blk_frozen BK540.out 4) | ((with_reducible refine gate_store (t := 32) (p := 6) rfl ?_); refine store_event (t := 32) (p := 6) (v := ?vo_w22) (w1 := (((((w19.setCell ⟨gb540, 0, none⟩ (.int .u64 ((rd_T32 l0_0 x21_1).f0.f0.f0))).setCell ⟨gb540, 1, none⟩ (.int .i64 ((rd_T32 l0_0 x21_1).f0.f0.f1))).setCell ⟨gb540, 2, none⟩ (.int .u64 ((rd_T32 l0_0 x21_1).f0.f1))).setCell ⟨gb540, 3, none⟩ (.int .i64 ((rd_T32 l0_0 x21_1).f0.f2))).setCell ⟨gb540, 4, none⟩ (.slice A539_4 ((rd_T32 l0_0 x21_1).f1).length c539_4))) ?hg ?ho ?hn ?hr ?_; (case ho => rfl); (case hg => rfl); (case hn => rfl); (case hr => first | (go_simp; done) | (go_simp; rfl)); intro w22 hw; have n0_ : Aside0 (Kd.R (Kd.int .u8) 5 w22 w.heap.size (fun _ => True) u4 x4_1) := ⟨(by rw [hw]; exact (by (with_reducible repeat (first | apply Kd.R_alloc | apply Kd.R_drewN | apply Kd.R_drew)); exact Kd.R_mono (Kd.R_far (p := ⟨gb540, 4, none⟩) (Kd.R_far (p := ⟨gb540, 3, none⟩) (Kd.R_far (p := ⟨gb540, 2, none⟩) (Kd.R_far (p := ⟨gb540, 1, none⟩) (Kd.R_far (p := ⟨gb540, 0, none⟩) (Kd.R_types HO_4.out BK540.out (by decide)) (fun _ hk => hk.2) (.int .u64 ((rd_T32 l0_0 x21_1).f0.f0.f0))) (fun _ hk => hk.2) (.int .i64 ((rd_T32 l0_0 x21_1).f0.f0.f1))) (fun _ hk => hk.2) (.int .u64 ((rd_T32 l0_0 x21_1).f0.f1))) (fun _ hk => hk.2) (.int .i64 ((rd_T32 l0_0 x21_1).f0.f2))) (fun _ hk => hk.2) (.slice A539_4 ((rd_T32 l0_0 x21_1).f1).length c539_4)) (fun _ hk => trivial)))⟩; have n1_ : Aside0 (w22.heap[gb531]? = some (.cells #[.slice (some ad539) l0_0.length c0_0, .slice A0_1 l0_1.length c0_1, .int .i64 a0_2, .int .u64 a0_3, .int .i64 a0_4] 53 (0, 0))) := ⟨(by rw [hw]; exact (by (with_reducible repeat (first | refine blk_drewN ?_ _ | refine blk_drew ?_ | refine blk_alloc ?_ _)); refine blk_far ?_ NB531_540.out _; (with_reducible repeat (first | refine blk_drewN ?_ _ | refine blk_drew ?_ | refine blk_alloc ?_ _)); refine blk_far ?_ NB531_540.out _; (with_reducible repeat (first | refine blk_drewN ?_ _ | refine blk_drew ?_ | refine blk_alloc ?_ _)); refine blk_far ?_ NB531_540.out _; (with_reducible repeat (first | refine blk_drewN ?_ _ | refine blk_drew ?_ | refine blk_alloc ?_ _)); refine blk_far ?_ NB531_540.out _; (with_reducible repeat (first | refine blk_drewN ?_ _ | refine blk_drew ?_ | refine blk_alloc ?_ _)); refine blk_far ?_ NB531_540.out _; (with_reducible repeat (first | refine blk_drewN ?_ _ | refine blk_drew ?_ | refine blk_alloc ?_ _)); exact BK531.out))⟩; have n2_ : Aside0 (w22.heap[gb540]? = some (.cells #[.int .u64 ((rd_T32 l0_0 x21_1).f0.f0.f0), .int .i64 ((rd_T32 l0_0 x21_1).f0.f0.f1), .int .u64 ((rd_T32 l0_0 x21_1).f0.f1), .int .i64 ((rd_T32 l0_0 x21_1).f0.f2), .slice A539_4 ((rd_T32 l0_0 x21_1).f1).length c539_4] 32 (0, 0))) := ⟨(by rw [hw]; exact (by (with_reducible repeat (first | refine blk_drewN ?_ _ | refine blk_drew ?_ | refine blk_alloc ?_ _)); refine blk_put (cs := #[.int .u64 ((rd_T32 l0_0 x21_1).f0.f0.f0), .int .i64 ((rd_T32 l0_0 x21_1).f0.f0.f1), .int .u64 ((rd_T32 l0_0 x21_1).f0.f1), .int .i64 ((rd_T32 l0_0 x21_1).f0.f2), .slice none 0 0]) ?_ 4 _ rfl; (with_reducible repeat (first | refine blk_drewN ?_ _ | refine blk_drew ?_ | refine blk_alloc ?_ _)); refine blk_put (cs := #[.int .u64 ((rd_T32 l0_0 x21_1).f0.f0.f0), .int .i64 ((rd_T32 l0_0 x21_1).f0.f0.f1), .int .u64 ((rd_T32 l0_0 x21_1).f0.f1), .int .i64 0, .slice none 0 0]) ?_ 3 _ rfl; (with_reducible repeat (first | refine blk_drewN ?_ _ | refine blk_drew ?_ | refine blk_alloc ?_ _)); refine blk_put (cs := #[.int .u64 ((rd_T32 l0_0 x21_1).f0.f0.f0), .int .i64 ((rd_T32 l0_0 x21_1).f0.f0.f1), .int .u64 0, .int .i64 0, .slice none 0 0]) ?_ 2 _ rfl; (with_reducible repeat (first | refine blk_drewN ?_ _ | refine blk_drew ?_ | refine blk_alloc ?_ _)); refine blk_put (cs := #[.int .u64 ((rd_T32 l0_0 x21_1).f0.f0.f0), .int .i64 0, .int .u64 0, .int .i64 0, .slice none 0 0]) ?_ 1 _ rfl; (with_reducible repeat (first | refine blk_drewN ?_ _ | refine blk_drew ?_ | refine blk_alloc ?_ _)); refine blk_put (cs := #[.int .u64 0, .int .i64 0, .int .u64 0, .int .i64 0, .slice none 0 0]) ?_ 0 _ rfl; (with_reducible repeat (first | refine blk_drewN ?_ _ | refine blk_drew ?_ | refine blk_alloc ?_ _)); exact BK540.out))⟩; have n3_ : Aside0 (Below w.heap.size w w22) := ⟨(by rw [hw]; exact zb_)⟩; clear hw; clear HO_4; clear BK531; clear BK540; clear HB; have HO_4 := n0_; have BK531 := n1_; have BK540 := n2_; have HB := n3_; clear n0_ n1_ n2_ n3_; have hcz23_0 : w22.cell? ⟨gb540, 0, none⟩ = some (.int .u64 ((rd_T32 l0_0 x21_1).f0.f0.f0)) := (blk_cell BK540.out 0).trans rfl; have hcz23_1 : w22.cell? ⟨gb540, 1, none⟩ = some (.int .i64 ((rd_T32 l0_0 x21_1).f0.f0.f1)) := (blk_cell BK540.out 1).trans rfl; have hcz23_2 : w22.cell? ⟨gb540, 2, none⟩ = some (.int .u64 ((rd_T32 l0_0 x21_1).f0.f1)) := (blk_cell BK540.out 2).trans rfl; have hcz23_3 : w22.cell? ⟨gb540, 3, none⟩ = some (.int .i64 ((rd_T32 l0_0 x21_1).f0.f2)) := (blk_cell BK540.out 3).trans rfl; have hcz23_4 : w22.cell? ⟨gb540, 4, none⟩ = some (.slice A539_4 ((rd_T32 l0_0 x21_1).f1).length c539_4) := (blk_cell BK540.out 4).trans rfl; have hfz23_0 := blk_frozen BK540.out 0; have hfz23_1 := blk_frozen BK540.out 1; have hfz23_2 := blk_frozen BK540.out 2; have hfz23_3 := blk_frozen BK540.out 3; have hfz23_4 := blk_frozen BK540.out 4; obtain ⟨Ao24, co24, eo24⟩ := Kd.R_slice HO_4.out; subst eo24) | ((with_reducible refine gate_callee (f := 90) rfl ?_); refine goesL_ (some 29) rfl rfl Try.func90 (by kernel_rfl) rfl #[.slice Ao24 x4_1.length co24, .agg #[.int .u64 ((rd_T32 l0_0 x21_1).f0.f0.f0), .int .i64 ((rd_T32 l0_0 x21_1).f0.f0.f1), .int .u64 ((rd_T32 l0_0 x21_1).f0.f1), .int .i64 ((rd_T32 l0_0 x21_1).f0.f2)]] rfl za_ ?_; (with_reducible refine (label_Encode.calls k1 (fun k_ => some k_ = (.slice Ao24 x4_1.length co24 : Value).ownBlock) (.slice Ao24 x4_1.length co24) x4_1 ((rd_T32 l0_0 x21_1).f0.f0.f0) ((rd_T32 l0_0 x21_1).f0.f0.f1) ((rd_T32 l0_0 x21_1).f0.f1) ((rd_T32 l0_0 x21_1).f0.f2) t541 t544 w _ ?side1 ?side2 A17.out).mono ?_); (case side1 => repeat (first | (with_reducible first | exact HB.out | apply below_alloc | apply pw_below_drewN | apply below_drew1 | refine below_set ?_ GE531.out | refine below_set ?_ GE540.out) | exact HB.out)); (case side2 => exact Kd.R_tight rfl HO_4.out); rintro e w25 ⟨v542, rfl, ho0, hb, hkp⟩; refine ⟨_, rfl, ?_⟩; have n0_ := Aside0.mk (blk_kept (by (with_reducible repeat (first | refine blk_drewN ?_ _ | refine blk_drew ?_ | refine blk_alloc ?_ _)); exact BK531.out) hkp (fun hs_ => (fun e_ => (Kd.R_ne HO_4.out BK531.out (by decide)) e_) hs_)); have n1_ := Aside0.mk (blk_kept (by (with_reducible repeat (first | refine blk_drewN ?_ _ | refine blk_drew ?_ | refine blk_alloc ?_ _)); exact BK540.out) hkp (fun hs_ => (fun e_ => (Kd.R_ne HO_4.out BK540.out (by decide)) e_) hs_)); have n2_ := Aside0.mk (Kd.R_mono (ok' := fun k_ => True) ho0 (fun k_ hk_ => trivial)); have n3_ := Aside0.mk (hb); clear BK531; clear BK540; clear HB; clear HO_4; have BK531 := n0_; have BK540 := n1_; have HO543 := n2_; have HB := n3_; clear n0_ n1_ n2_ n3_; (try clear hb); (try clear hkp); (try clear ho0); have hcz26_0 : w25.cell? ⟨gb540, 0, none⟩ = some (.int .u64 ((rd_T32 l0_0 x21_1).f0.f0.f0)) := (blk_cell BK540.out 0).trans rfl; have hcz26_1 : w25.cell? ⟨gb540, 1, none⟩ = some (.int .i64 ((rd_T32 l0_0 x21_1).f0.f0.f1)) := (blk_cell BK540.out 1).trans rfl; have hcz26_2 : w25.cell? ⟨gb540, 2, none⟩ = some (.int .u64 ((rd_T32 l0_0 x21_1).f0.f1)) := (blk_cell BK540.out 2).trans rfl; have hcz26_3 : w25.cell? ⟨gb540, 3, none⟩ = some (.int .i64 ((rd_T32 l0_0 x21_1).f0.f2)) := (blk_cell BK540.out 3).trans rfl; have hcz26_4 : w25.cell? ⟨gb540, 4, none⟩ = some (.slice A539_4 ((rd_T32 l0_0 x21_1).f1).length c539_4) := (blk_cell BK540.out 4).trans rfl; have hfz26_0 := blk_frozen BK540.out 0; have hfz26_1 := blk_frozen BK540.out 1; have hfz26_2 := blk_frozen BK540.out 2; have hfz26_3 := blk_frozen BK540.out 3; have hfz26_4 := blk_frozen BK540.out 4; obtain ⟨Ao27, co27, eo27⟩ := Kd.R_slice HO543.out; subst eo27) | ((with_reducible refine gate_callee (f := 91) rfl ?_); refine goesL_ (some 35) rfl rfl Try.func91 (by kernel_rfl) rfl #[.slice Ao27 t541.length co27, .slice A539_4 ((rd_T32 l0_0 x21_1).f1).length c539_4] rfl za_ ?_; (with_reducible refine (code_Bytes.calls k1 (fun k_ => some k_ = (.slice Ao27 t541.length co27 : Value).ownBlock) (.slice Ao27 t541.length co27) t541 _ _ ((rd_T32 l0_0 x21_1).f1) t545 w _ ?side1 ?side2 ?side3 ?side4 A18.out).mono ?_); (case side1 => repeat (first | (with_reducible first | exact HB.out | apply below_alloc | apply pw_below_drewN | apply below_drew1 | refine below_set ?_ GE531.out | refine below_set ?_ GE540.out) | exact HB.out)); (case side2 => exact Kd.R_tight rfl HO543.out); (case side3 => exact Kd.C_kept_came (Kd.heap_int .u8) HR539_4.out zb_ (fun k_ hs_ => (fun e_ => Kd.R_base HO543.out k_ e_.symm) hs_)); (case side4 => exact HC539_4.out); rintro e w28 ⟨v546, rfl, ho0, hb, hkp⟩; refine ⟨_, rfl, ?_⟩; have n0_ := Aside0.mk (blk_kept (by (with_reducible repeat (first | refine blk_drewN ?_ _ | refine blk_drew ?_ | refine blk_alloc ?_ _)); exact BK531.out) hkp (fun hs_ => (fun e_ => (Kd.R_ne HO543.out BK531.out (by decide)) e_) hs_)); have n1_ := Aside0.mk (blk_kept (by (with_reducible repeat (first | refine blk_drewN ?_ _ | refine blk_drew ?_ | refine blk_alloc ?_ _)); exact BK540.out) hkp (fun hs_ => (fun e_ => (Kd.R_ne HO543.out BK540.out (by decide)) e_) hs_)); have n2_ := Aside0.mk (Kd.R_mono (ok' := fun k_ => True) ho0 (fun k_ hk_ => trivial)); have n3_ := Aside0.mk (hb); clear BK531; clear BK540; clear HB; clear HO543; have BK531 := n0_; have BK540 := n1_; have HO547 := n2_; have HB := n3_; clear n0_ n1_ n2_ n3_; (try clear hb); (try clear hkp); (try clear ho0)))
       go_roundg k1
       case measure => have := HK1.out; omega
       case rel => exact ⟨(t545), (wrap64 (x21_1 + 1)), (by first | rfl | (simp; done) | (simp [*]; done)), H', ⟨by have := HK1.out; omega⟩, ⟨by (with_reducible repeat (first | apply Kd.R_alloc | apply Kd.R_drewN | apply Kd.R_drew)); exact HO547.out⟩, ⟨by (with_reducible repeat (first | refine blk_drewN ?_ _ | refine blk_drew ?_ | refine blk_alloc ?_ _)); exact BK531.out⟩, ⟨by repeat (first | (with_reducible first | exact HB.out | apply below_alloc | apply pw_below_drewN | apply below_drew1 | refine below_set ?_ GE531.out | refine below_set ?_ GE540.out) | exact HB.out)⟩⟩
      ·
       rw [if_neg c16] at H
       exact absurd H (by simp)
     ·
      rw [if_neg c15] at H
      exact absurd H (by simp)
    ·
     rw [if_neg c14] at H
     have c14b0 : decide (x21_1 < (l0_0.length : Int)) = false := decide_eq_false c14
     clear c14
     replace H := Option.bind_eq_some_iff.mp H
     obtain ⟨t548, A290, H⟩ := H
     replace H : (content_EncodeAll.l1 k1 t548 l0_1 (l0_1.length : Int) 0 l0_0 l0_1 a0_2 a0_3 a0_4) = some (r1, r2) := H
     have A29 := Aside0.mk A290
     clear A290
     have H' := Aside0.mk H
     clear H
     have hcz30_0 : wr.cell? ⟨gb531, 0, none⟩ = some (.slice A0_0 l0_0.length c0_0) := (blk_cell BK531.out 0).trans rfl
     have hcz30_1 : wr.cell? ⟨gb531, 1, none⟩ = some (.slice A0_1 l0_1.length c0_1) := (blk_cell BK531.out 1).trans rfl
     have hcz30_2 : wr.cell? ⟨gb531, 2, none⟩ = some (.int .i64 a0_2) := (blk_cell BK531.out 2).trans rfl
     have hcz30_3 : wr.cell? ⟨gb531, 3, none⟩ = some (.int .u64 a0_3) := (blk_cell BK531.out 3).trans rfl
     have hcz30_4 : wr.cell? ⟨gb531, 4, none⟩ = some (.int .i64 a0_4) := (blk_cell BK531.out 4).trans rfl
     have hfz30_0 := blk_frozen BK531.out 0
     have hfz30_1 := blk_frozen BK531.out 1
     have hfz30_2 := blk_frozen BK531.out 2
     have hfz30_3 := blk_frozen BK531.out 3
     have hfz30_4 := blk_frozen BK531.out 4
     obtain ⟨Ao31, co31, eo31⟩ := Kd.R_slice HO_4.out
     subst eo31
     go_wp2_with (first | ((with_reducible refine gate_callee (f := 92) rfl ?_); refine goesL_ (some 42) rfl rfl Try.func92 (by kernel_rfl) rfl #[.slice Ao31 x4_1.length co31, .int .u64 (IntKind.u64.wrap ((l0_1.length : Int)))] rfl za_ ?_; (with_reducible refine (code_Uint.calls k1 (fun k_ => some k_ = (.slice Ao31 x4_1.length co31 : Value).ownBlock) (.slice Ao31 x4_1.length co31) x4_1 (IntKind.u64.wrap ((l0_1.length : Int))) t548 w _ ?side1 ?side2 A29.out).mono ?_); (case side1 => repeat (first | (with_reducible first | exact HB.out | apply below_alloc | apply pw_below_drewN | apply below_drew1 | refine below_set ?_ GE531.out) | exact HB.out)); (case side2 => exact Kd.R_tight rfl HO_4.out); rintro e w32 ⟨v549, rfl, ho0, hb, hkp⟩; refine ⟨_, rfl, ?_⟩; have n0_ := Aside0.mk (blk_kept (by (with_reducible repeat (first | refine blk_drewN ?_ _ | refine blk_drew ?_ | refine blk_alloc ?_ _)); exact BK531.out) hkp (fun hs_ => (fun e_ => (Kd.R_ne HO_4.out BK531.out (by decide)) e_) hs_)); have n1_ := Aside0.mk (Kd.R_mono (ok' := fun k_ => True) ho0 (fun k_ hk_ => trivial)); have n2_ := Aside0.mk (hb); clear BK531; clear HB; clear HO_4; have BK531 := n0_; have HO550 := n1_; have HB := n2_; clear n0_ n1_ n2_; (try clear hb); (try clear hkp); (try clear ho0); have hcz33_0 : w32.cell? ⟨gb531, 0, none⟩ = some (.slice A0_0 l0_0.length c0_0) := (blk_cell BK531.out 0).trans rfl; have hcz33_1 : w32.cell? ⟨gb531, 1, none⟩ = some (.slice A0_1 l0_1.length c0_1) := (blk_cell BK531.out 1).trans rfl; have hcz33_2 : w32.cell? ⟨gb531, 2, none⟩ = some (.int .i64 a0_2) := (blk_cell BK531.out 2).trans rfl; have hcz33_3 : w32.cell? ⟨gb531, 3, none⟩ = some (.int .u64 a0_3) := (blk_cell BK531.out 3).trans rfl; have hcz33_4 : w32.cell? ⟨gb531, 4, none⟩ = some (.int .i64 a0_4) := (blk_cell BK531.out 4).trans rfl; have hfz33_0 := blk_frozen BK531.out 0; have hfz33_1 := blk_frozen BK531.out 1; have hfz33_2 := blk_frozen BK531.out 2; have hfz33_3 := blk_frozen BK531.out 3; have hfz33_4 := blk_frozen BK531.out 4))
     go_loopg [4, 46] k1 (fun kq v4 v46 w' => ∃ (x4_2 : List Int) (x46_2 : Int), v46 = .int .i64 x46_2 ∧ Aside0 (content_EncodeAll.l1 kq x4_2 l0_1 (l0_1.length : Int) x46_2 l0_0 l0_1 a0_2 a0_3 a0_4 = some (r1, r2)) ∧ Aside0 (kq ≤ k1) ∧ Aside0 (Kd.R (Kd.int .u8) 5 w' w.heap.size (fun _ => True) v4 x4_2) ∧ Aside0 (w'.heap[gb531]? = some (.cells #[(.slice A0_0 l0_0.length c0_0), (.slice A0_1 l0_1.length c0_1), .int .i64 a0_2, .int .u64 a0_3, .int .i64 a0_4] 53 (0, 0))) ∧ Aside0 (Below w.heap.size w w'))
     case atStart => exact ⟨(t548), (0), (by first | rfl | (simp; done) | (simp [*]; done)), H', ⟨Nat.le_refl _⟩, ⟨by (with_reducible repeat (first | apply Kd.R_alloc | apply Kd.R_drewN | apply Kd.R_drew)); exact HO550.out⟩, ⟨by (with_reducible repeat (first | refine blk_drewN ?_ _ | refine blk_drew ?_ | refine blk_alloc ?_ _)); exact BK531.out⟩, ⟨by repeat (first | (with_reducible first | exact HB.out | apply below_alloc | apply pw_below_drewN | apply below_drew1 | refine below_set ?_ GE531.out) | exact HB.out)⟩⟩
     case round =>
      clear H'
      try clear c1
      try clear c2
      try clear p2
      try clear c3
      try clear c4
      try clear c5
      try clear p5
      try clear q5
      try clear hx5
      try clear p6
      try clear c9
      try clear c14
      try clear c14b0
      try clear c15
      try clear c15b0
      try clear c16
      try clear c16b0
      try clear c20
      try clear hcz10_0
      try clear hcz10_1
      try clear hcz10_2
      try clear hcz10_3
      try clear hcz10_4
      try clear hcz13_0
      try clear hcz13_1
      try clear hcz13_2
      try clear hcz13_3
      try clear hcz13_4
      try clear hcz21_0
      try clear hcz21_1
      try clear hcz21_2
      try clear hcz21_3
      try clear hcz21_4
      try clear hcz23_0
      try clear hcz23_1
      try clear hcz23_2
      try clear hcz23_3
      try clear hcz23_4
      try clear hcz26_0
      try clear hcz26_1
      try clear hcz26_2
      try clear hcz26_3
      try clear hcz26_4
      try clear hcz30_0
      try clear hcz30_1
      try clear hcz30_2
      try clear hcz30_3
      try clear hcz30_4
      try clear hcz33_0
      try clear hcz33_1
      try clear hcz33_2
      try clear hcz33_3
      try clear hcz33_4
      try clear hcz6_0
      try clear hcz6_1
      try clear hcz6_2
      try clear hcz6_3
      try clear hcz6_4
      try clear hfz10_0
      try clear hfz10_1
      try clear hfz10_2
      try clear hfz10_3
      try clear hfz10_4
      try clear hfz13_0
      try clear hfz13_1
      try clear hfz13_2
      try clear hfz13_3
      try clear hfz13_4
      try clear hfz21_0
      try clear hfz21_1
      try clear hfz21_2
      try clear hfz21_3
      try clear hfz21_4
      try clear hfz23_0
      try clear hfz23_1
      try clear hfz23_2
      try clear hfz23_3
      try clear hfz23_4
      try clear hfz26_0
      try clear hfz26_1
      try clear hfz26_2
      try clear hfz26_3
      try clear hfz26_4
      try clear hfz30_0
      try clear hfz30_1
      try clear hfz30_2
      try clear hfz30_3
      try clear hfz30_4
      try clear hfz33_0
      try clear hfz33_1
      try clear hfz33_2
      try clear hfz33_3
      try clear hfz33_4
      try clear hfz6_0
      try clear hfz6_1
      try clear hfz6_2
      try clear hfz6_3
      try clear hfz6_4
      try clear hx539_0
      try clear hx539_1
      try clear hx539_2
      try clear hx539_3
      try clear hx539_4
      try clear p2
      try clear p539
      try clear q539
      obtain ⟨x4_2, x46_2, rfl, HA, HK2, HO_4, BK531, HB⟩ := hrel
      cases gk with
      | zero => exact absurd HA.out (by simp [content_EncodeAll.l1])
      | succ k2 =>
       have H := HA.out
       clear HA
       simp only [content_EncodeAll.l1] at H
       by_cases c34 : x46_2 < (l0_1.length : Int)
       ·
        rw [if_pos c34] at H
        have c34b0 : decide (x46_2 < (l0_1.length : Int)) = true := decide_eq_true c34
        clear c34
        by_cases c35 : 0 ≤ x46_2
        ·
         rw [if_pos c35] at H
         have c35b0 : decide (0 ≤ x46_2) = true := decide_eq_true c35
         clear c35
         by_cases c36 : x46_2 < (l0_1.length : Int)
         ·
          rw [if_pos c36] at H
          have c36b0 : decide (x46_2 < (l0_1.length : Int)) = true := decide_eq_true c36
          clear c36
          replace H := Option.bind_eq_some_iff.mp H
          obtain ⟨⟨t553, t556⟩, A370, H⟩ := H
          replace H : (content_EncodeAll.l1 k2 t553 l0_1 (l0_1.length : Int) (wrap64 (x46_2 + 1)) l0_0 l0_1 a0_2 a0_3 a0_4) = some (r1, r2) := H
          have A37 := Aside0.mk A370
          clear A370
          have H' := Aside0.mk H
          clear H
          have p551 : 0 ≤ (x46_2 : Int) := of_decide_eq_true zs_
          have q551 : x46_2 < (l0_1.length : Int) := of_decide_eq_true zs_
          obtain ⟨ad551, e551, hx551_0, hx551_1, hx551_2, hx551_3⟩ := at_T27 HR0_1.out x46_2 p551 q551
          cases e551
          replace hx551_0 := (HB.out.cell (World.block_lt_of_cell? w _ hx551_0)).trans hx551_0
          replace hx551_1 := (HB.out.cell (World.block_lt_of_cell? w _ hx551_1)).trans hx551_1
          replace hx551_2 := (HB.out.cell (World.block_lt_of_cell? w _ hx551_2)).trans hx551_2
          replace hx551_3 := (HB.out.cell (World.block_lt_of_cell? w _ hx551_3)).trans hx551_3
          replace p551 := eq_true p551
          replace q551 := eq_true q551
          go_wp2_with (first | ((with_reducible refine gate_dst (N := 8) rfl ?_); refine box_event ?hg (N := 8) ?hd (cs := #[.int .u64 0, .int .i64 0, .int .u64 0, .int .i64 0]) (t := 27) ?hr ?_; (case hd => rfl); (case hg => rfl); (case hr => first | (go_simp; done) | (go_simp; rfl)); intro gb552 hg w38 hbox hb; have n0_ := Aside0.mk (Kd.R_below (zr_ HO_4) hb); have n1_ := zk_ BK531 hb; have n2_ := Aside0.mk (below_step zb_ hb); have n3_ := Aside0.mk (hbox); have n4_ := Aside0.mk ((by rw [hg]; exact (below_size zb_) : w.heap.size ≤ gb552)); have n5_ := Aside0.mk ((by rw [hg]; exact (below_size zb_) : w.heap.size ≤ gb552)); have n6_ := Aside0.mk ((by rw [hg]; exact Nat.ne_of_lt (blk_lt (g := gb531) (o := .cells #[.slice A0_0 l0_0.length c0_0, .slice (some ad551) l0_1.length c0_1, .int .i64 a0_2, .int .u64 a0_3, .int .i64 a0_4] 53 (0, 0)) (by (with_reducible repeat (first | refine blk_drewN ?_ _ | refine blk_drew ?_ | refine blk_alloc ?_ _)); exact BK531.out)) : gb531 ≠ gb552)); have n7_ := Aside0.mk ((by rw [hg]; exact Nat.ne_of_gt (blk_lt (g := gb531) (o := .cells #[.slice A0_0 l0_0.length c0_0, .slice (some ad551) l0_1.length c0_1, .int .i64 a0_2, .int .u64 a0_3, .int .i64 a0_4] 53 (0, 0)) (by (with_reducible repeat (first | refine blk_drewN ?_ _ | refine blk_drew ?_ | refine blk_alloc ?_ _)); exact BK531.out)) : gb552 ≠ gb531)); clear HO_4; clear BK531; clear HB; have HO_4 := n0_; have BK531 := n1_; have HB := n2_; have BK552 := n3_; have GW552 := n4_; have GE552 := n5_; have NB531_552 := n6_; have NB552_531 := n7_; clear n0_ n1_ n2_ n3_ n4_ n5_ n6_ n7_; clear hb hbox hg; have hnb39 := NB552_531.out; have hnc39 := NB531_552.out; have hcz40_0 : w38.cell? ⟨gb552, 0, none⟩ = some (.int .u64 0) := (blk_cell BK552.out 0).trans rfl; have hcz40_1 : w38.cell? ⟨gb552, 1, none⟩ = some (.int .i64 0) := (blk_cell BK552.out 1).trans rfl; have hcz40_2 : w38.cell? ⟨gb552, 2, none⟩ = some (.int .u64 0) := (blk_cell BK552.out 2).trans rfl; have hcz40_3 : w38.cell? ⟨gb552, 3, none⟩ = some (.int .i64 0) := (blk_cell BK552.out 3).trans rfl; have hfz40_0 := blk_frozen BK552.out 0; have hfz40_1 := blk_frozen BK552.out 1; have hfz40_2 := blk_frozen BK552.out 2; have hfz40_3 := blk_frozen BK552.out 3) | ((with_reducible refine gate_store (t := 27) (p := 8) rfl ?_); refine store_event (t := 27) (p := 8) (v := ?vo_w41) (w1 := ((((w38.setCell ⟨gb552, 0, none⟩ (.int .u64 ((rd_T27 l0_1 x46_2).f0.f0))).setCell ⟨gb552, 1, none⟩ (.int .i64 ((rd_T27 l0_1 x46_2).f0.f1))).setCell ⟨gb552, 2, none⟩ (.int .u64 ((rd_T27 l0_1 x46_2).f1))).setCell ⟨gb552, 3, none⟩ (.int .i64 ((rd_T27 l0_1 x46_2).f2)))) ?hg ?ho ?hn ?hr ?_; (case ho => rfl); (case hg => rfl); (case hn => rfl); (case hr => first | (go_simp; done) | (go_simp; rfl)); intro w41 hw; have n0_ : Aside0 (Kd.R (Kd.int .u8) 5 w41 w.heap.size (fun _ => True) u4 x4_2) := ⟨(by rw [hw]; exact (by (with_reducible repeat (first | apply Kd.R_alloc | apply Kd.R_drewN | apply Kd.R_drew)); exact Kd.R_mono (Kd.R_far (p := ⟨gb552, 3, none⟩) (Kd.R_far (p := ⟨gb552, 2, none⟩) (Kd.R_far (p := ⟨gb552, 1, none⟩) (Kd.R_far (p := ⟨gb552, 0, none⟩) (Kd.R_types HO_4.out BK552.out (by decide)) (fun _ hk => hk.2) (.int .u64 ((rd_T27 l0_1 x46_2).f0.f0))) (fun _ hk => hk.2) (.int .i64 ((rd_T27 l0_1 x46_2).f0.f1))) (fun _ hk => hk.2) (.int .u64 ((rd_T27 l0_1 x46_2).f1))) (fun _ hk => hk.2) (.int .i64 ((rd_T27 l0_1 x46_2).f2))) (fun _ hk => trivial)))⟩; have n1_ : Aside0 (w41.heap[gb531]? = some (.cells #[.slice A0_0 l0_0.length c0_0, .slice (some ad551) l0_1.length c0_1, .int .i64 a0_2, .int .u64 a0_3, .int .i64 a0_4] 53 (0, 0))) := ⟨(by rw [hw]; exact (by (with_reducible repeat (first | refine blk_drewN ?_ _ | refine blk_drew ?_ | refine blk_alloc ?_ _)); refine blk_far ?_ NB531_552.out _; (with_reducible repeat (first | refine blk_drewN ?_ _ | refine blk_drew ?_ | refine blk_alloc ?_ _)); refine blk_far ?_ NB531_552.out _; (with_reducible repeat (first | refine blk_drewN ?_ _ | refine blk_drew ?_ | refine blk_alloc ?_ _)); refine blk_far ?_ NB531_552.out _; (with_reducible repeat (first | refine blk_drewN ?_ _ | refine blk_drew ?_ | refine blk_alloc ?_ _)); refine blk_far ?_ NB531_552.out _; (with_reducible repeat (first | refine blk_drewN ?_ _ | refine blk_drew ?_ | refine blk_alloc ?_ _)); exact BK531.out))⟩; have n2_ : Aside0 (w41.heap[gb552]? = some (.cells #[.int .u64 ((rd_T27 l0_1 x46_2).f0.f0), .int .i64 ((rd_T27 l0_1 x46_2).f0.f1), .int .u64 ((rd_T27 l0_1 x46_2).f1), .int .i64 ((rd_T27 l0_1 x46_2).f2)] 27 (0, 0))) := ⟨(by rw [hw]; exact (by (with_reducible repeat (first | refine blk_drewN ?_ _ | refine blk_drew ?_ | refine blk_alloc ?_ _)); refine blk_put (cs := #[.int .u64 ((rd_T27 l0_1 x46_2).f0.f0), .int .i64 ((rd_T27 l0_1 x46_2).f0.f1), .int .u64 ((rd_T27 l0_1 x46_2).f1), .int .i64 0]) ?_ 3 _ rfl; (with_reducible repeat (first | refine blk_drewN ?_ _ | refine blk_drew ?_ | refine blk_alloc ?_ _)); refine blk_put (cs := #[.int .u64 ((rd_T27 l0_1 x46_2).f0.f0), .int .i64 ((rd_T27 l0_1 x46_2).f0.f1), .int .u64 0, .int .i64 0]) ?_ 2 _ rfl; (with_reducible repeat (first | refine blk_drewN ?_ _ | refine blk_drew ?_ | refine blk_alloc ?_ _)); refine blk_put (cs := #[.int .u64 ((rd_T27 l0_1 x46_2).f0.f0), .int .i64 0, .int .u64 0, .int .i64 0]) ?_ 1 _ rfl; (with_reducible repeat (first | refine blk_drewN ?_ _ | refine blk_drew ?_ | refine blk_alloc ?_ _)); refine blk_put (cs := #[.int .u64 0, .int .i64 0, .int .u64 0, .int .i64 0]) ?_ 0 _ rfl; (with_reducible repeat (first | refine blk_drewN ?_ _ | refine blk_drew ?_ | refine blk_alloc ?_ _)); exact BK552.out))⟩; have n3_ : Aside0 (Below w.heap.size w w41) := ⟨(by rw [hw]; exact zb_)⟩; clear hw; clear HO_4; clear BK531; clear BK552; clear HB; have HO_4 := n0_; have BK531 := n1_; have BK552 := n2_; have HB := n3_; clear n0_ n1_ n2_ n3_; have hcz42_0 : w41.cell? ⟨gb552, 0, none⟩ = some (.int .u64 ((rd_T27 l0_1 x46_2).f0.f0)) := (blk_cell BK552.out 0).trans rfl; have hcz42_1 : w41.cell? ⟨gb552, 1, none⟩ = some (.int .i64 ((rd_T27 l0_1 x46_2).f0.f1)) := (blk_cell BK552.out 1).trans rfl; have hcz42_2 : w41.cell? ⟨gb552, 2, none⟩ = some (.int .u64 ((rd_T27 l0_1 x46_2).f1)) := (blk_cell BK552.out 2).trans rfl; have hcz42_3 : w41.cell? ⟨gb552, 3, none⟩ = some (.int .i64 ((rd_T27 l0_1 x46_2).f2)) := (blk_cell BK552.out 3).trans rfl; have hfz42_0 := blk_frozen BK552.out 0; have hfz42_1 := blk_frozen BK552.out 1; have hfz42_2 := blk_frozen BK552.out 2; have hfz42_3 := blk_frozen BK552.out 3; obtain ⟨Ao43, co43, eo43⟩ := Kd.R_slice HO_4.out; subst eo43) | ((with_reducible refine gate_callee (f := 90) rfl ?_); refine goesL_ (some 53) rfl rfl Try.func90 (by kernel_rfl) rfl #[.slice Ao43 x4_2.length co43, .agg #[.int .u64 ((rd_T27 l0_1 x46_2).f0.f0), .int .i64 ((rd_T27 l0_1 x46_2).f0.f1), .int .u64 ((rd_T27 l0_1 x46_2).f1), .int .i64 ((rd_T27 l0_1 x46_2).f2)]] rfl za_ ?_; (with_reducible refine (label_Encode.calls k2 (fun k_ => some k_ = (.slice Ao43 x4_2.length co43 : Value).ownBlock) (.slice Ao43 x4_2.length co43) x4_2 ((rd_T27 l0_1 x46_2).f0.f0) ((rd_T27 l0_1 x46_2).f0.f1) ((rd_T27 l0_1 x46_2).f1) ((rd_T27 l0_1 x46_2).f2) t553 t556 w _ ?side1 ?side2 A37.out).mono ?_); (case side1 => repeat (first | (with_reducible first | exact HB.out | apply below_alloc | apply pw_below_drewN | apply below_drew1 | refine below_set ?_ GE531.out | refine below_set ?_ GE552.out) | exact HB.out)); (case side2 => exact Kd.R_tight rfl HO_4.out); rintro e w44 ⟨v554, rfl, ho0, hb, hkp⟩; refine ⟨_, rfl, ?_⟩; have n0_ := Aside0.mk (blk_kept (by (with_reducible repeat (first | refine blk_drewN ?_ _ | refine blk_drew ?_ | refine blk_alloc ?_ _)); exact BK531.out) hkp (fun hs_ => (fun e_ => (Kd.R_ne HO_4.out BK531.out (by decide)) e_) hs_)); have n1_ := Aside0.mk (blk_kept (by (with_reducible repeat (first | refine blk_drewN ?_ _ | refine blk_drew ?_ | refine blk_alloc ?_ _)); exact BK552.out) hkp (fun hs_ => (fun e_ => (Kd.R_ne HO_4.out BK552.out (by decide)) e_) hs_)); have n2_ := Aside0.mk (Kd.R_mono (ok' := fun k_ => True) ho0 (fun k_ hk_ => trivial)); have n3_ := Aside0.mk (hb); clear BK531; clear BK552; clear HB; clear HO_4; have BK531 := n0_; have BK552 := n1_; have HO555 := n2_; have HB := n3_; clear n0_ n1_ n2_ n3_; (try clear hb); (try clear hkp); (try clear ho0)))
          go_roundg k2
          case measure => have := HK1.out; have := HK2.out; omega
          case rel => exact ⟨(t553), (wrap64 (x46_2 + 1)), (by first | rfl | (simp; done) | (simp [*]; done)), H', ⟨by have := HK1.out; have := HK2.out; omega⟩, ⟨by (with_reducible repeat (first | apply Kd.R_alloc | apply Kd.R_drewN | apply Kd.R_drew)); exact HO555.out⟩, ⟨by (with_reducible repeat (first | refine blk_drewN ?_ _ | refine blk_drew ?_ | refine blk_alloc ?_ _)); exact BK531.out⟩, ⟨by repeat (first | (with_reducible first | exact HB.out | apply below_alloc | apply pw_below_drewN | apply below_drew1 | refine below_set ?_ GE531.out | refine below_set ?_ GE552.out) | exact HB.out)⟩⟩
         ·
          rw [if_neg c36] at H
          exact absurd H (by simp)
        ·
         rw [if_neg c35] at H
         exact absurd H (by simp)
       ·
        rw [if_neg c34] at H
        have c34b0 : decide (x46_2 < (l0_1.length : Int)) = false := decide_eq_false c34
        clear c34
        replace H := Option.bind_eq_some_iff.mp H
        obtain ⟨t557, A450, H⟩ := H
        replace H : ((ident_Encode.f k2 t557 a0_3 a0_4).bind fun bt560 => (some (bt560.1, 0))) = some (r1, r2) := H
        have A45 := Aside0.mk A450
        clear A450
        replace H := Option.bind_eq_some_iff.mp H
        obtain ⟨⟨t560, t563⟩, A460, H⟩ := H
        replace H : (some (t560, 0)) = some (r1, r2) := H
        have A46 := Aside0.mk A460
        clear A460
        simp only [Option.some.injEq, Prod.mk.injEq] at H
        obtain ⟨rfl, rfl⟩ := H
        have hcz47_0 : wr.cell? ⟨gb531, 0, none⟩ = some (.slice A0_0 l0_0.length c0_0) := (blk_cell BK531.out 0).trans rfl
        have hcz47_1 : wr.cell? ⟨gb531, 1, none⟩ = some (.slice A0_1 l0_1.length c0_1) := (blk_cell BK531.out 1).trans rfl
        have hcz47_2 : wr.cell? ⟨gb531, 2, none⟩ = some (.int .i64 a0_2) := (blk_cell BK531.out 2).trans rfl
        have hcz47_3 : wr.cell? ⟨gb531, 3, none⟩ = some (.int .u64 a0_3) := (blk_cell BK531.out 3).trans rfl
        have hcz47_4 : wr.cell? ⟨gb531, 4, none⟩ = some (.int .i64 a0_4) := (blk_cell BK531.out 4).trans rfl
        have hfz47_0 := blk_frozen BK531.out 0
        have hfz47_1 := blk_frozen BK531.out 1
        have hfz47_2 := blk_frozen BK531.out 2
        have hfz47_3 := blk_frozen BK531.out 3
        have hfz47_4 := blk_frozen BK531.out 4
        obtain ⟨Ao48, co48, eo48⟩ := Kd.R_slice HO_4.out
        subst eo48
        go_wp2_with (first | ((with_reducible refine gate_callee (f := 92) rfl ?_); refine goesL_ (some 61) rfl rfl Try.func92 (by kernel_rfl) rfl #[.slice Ao48 x4_2.length co48, .int .u64 (IntKind.u64.wrap (a0_2))] rfl za_ ?_; (with_reducible refine (code_Uint.calls k2 (fun k_ => some k_ = (.slice Ao48 x4_2.length co48 : Value).ownBlock) (.slice Ao48 x4_2.length co48) x4_2 (IntKind.u64.wrap (a0_2)) t557 w _ ?side1 ?side2 A45.out).mono ?_); (case side1 => repeat (first | (with_reducible first | exact HB.out | apply below_alloc | apply pw_below_drewN | apply below_drew1 | refine below_set ?_ GE531.out) | exact HB.out)); (case side2 => exact Kd.R_tight rfl HO_4.out); rintro e w49 ⟨v558, rfl, ho0, hb, hkp⟩; refine ⟨_, rfl, ?_⟩; have n0_ := Aside0.mk (blk_kept (by (with_reducible repeat (first | refine blk_drewN ?_ _ | refine blk_drew ?_ | refine blk_alloc ?_ _)); exact BK531.out) hkp (fun hs_ => (fun e_ => (Kd.R_ne HO_4.out BK531.out (by decide)) e_) hs_)); have n1_ := Aside0.mk (Kd.R_mono (ok' := fun k_ => True) ho0 (fun k_ hk_ => trivial)); have n2_ := Aside0.mk (hb); clear BK531; clear HB; clear HO_4; have BK531 := n0_; have HO559 := n1_; have HB := n2_; clear n0_ n1_ n2_; (try clear hb); (try clear hkp); (try clear ho0); have hcz50_0 : w49.cell? ⟨gb531, 0, none⟩ = some (.slice A0_0 l0_0.length c0_0) := (blk_cell BK531.out 0).trans rfl; have hcz50_1 : w49.cell? ⟨gb531, 1, none⟩ = some (.slice A0_1 l0_1.length c0_1) := (blk_cell BK531.out 1).trans rfl; have hcz50_2 : w49.cell? ⟨gb531, 2, none⟩ = some (.int .i64 a0_2) := (blk_cell BK531.out 2).trans rfl; have hcz50_3 : w49.cell? ⟨gb531, 3, none⟩ = some (.int .u64 a0_3) := (blk_cell BK531.out 3).trans rfl; have hcz50_4 : w49.cell? ⟨gb531, 4, none⟩ = some (.int .i64 a0_4) := (blk_cell BK531.out 4).trans rfl; have hfz50_0 := blk_frozen BK531.out 0; have hfz50_1 := blk_frozen BK531.out 1; have hfz50_2 := blk_frozen BK531.out 2; have hfz50_3 := blk_frozen BK531.out 3; have hfz50_4 := blk_frozen BK531.out 4; obtain ⟨Ao51, co51, eo51⟩ := Kd.R_slice HO559.out; subst eo51) | ((with_reducible refine gate_callee (f := 93) rfl ?_); refine goesL_ (some 66) rfl rfl Try.func93 (by kernel_rfl) rfl #[.slice Ao51 t557.length co51, .agg #[.int .u64 a0_3, .int .i64 a0_4]] rfl za_ ?_; (with_reducible refine (ident_Encode.calls k2 (fun k_ => some k_ = (.slice Ao51 t557.length co51 : Value).ownBlock) (.slice Ao51 t557.length co51) t557 a0_3 a0_4 t560 t563 w _ ?side1 ?side2 A46.out).mono ?_); (case side1 => repeat (first | (with_reducible first | exact HB.out | apply below_alloc | apply pw_below_drewN | apply below_drew1 | refine below_set ?_ GE531.out) | exact HB.out)); (case side2 => exact Kd.R_tight rfl HO559.out); rintro e w52 ⟨v561, rfl, ho0, hb, hkp⟩; refine ⟨_, rfl, ?_⟩; have n0_ := Aside0.mk (blk_kept (by (with_reducible repeat (first | refine blk_drewN ?_ _ | refine blk_drew ?_ | refine blk_alloc ?_ _)); exact BK531.out) hkp (fun hs_ => (fun e_ => (Kd.R_ne HO559.out BK531.out (by decide)) e_) hs_)); have n1_ := Aside0.mk (Kd.R_mono (ok' := fun k_ => True) ho0 (fun k_ hk_ => trivial)); have n2_ := Aside0.mk (hb); clear BK531; clear HB; clear HO559; have BK531 := n0_; have HO562 := n1_; have HB := n2_; clear n0_ n1_ n2_; (try clear hb); (try clear hkp); (try clear ho0)))
        go_ret2
        exact ⟨_, by first | rfl | (simp [errW_none, errW_some] <;> rfl) | (simp [*, errW_none, errW_some] <;> rfl), by (with_reducible repeat (first | apply Kd.R_alloc | apply Kd.R_drewN | apply Kd.R_drew)); exact HO562.out, by repeat (first | (with_reducible first | exact HB.out | apply below_alloc | apply pw_below_drewN | apply below_drew1 | refine below_set ?_ GE531.out) | exact HB.out)⟩
 ·
  replace c3 := Bool.eq_false_iff.mpr c3
  subst c3
  have H1 : (some (([] : List Int), 3)) = some (r1, r2) := by rw [if_neg (show ¬ (false = true) by decide)] at H; exact H
  clear H
  have H := H1
  clear H1
  simp only [Option.some.injEq, Prod.mk.injEq] at H
  obtain ⟨rfl, rfl⟩ := H
  go_enter Try.func47, Try.ntmps47
  go_wp2_with (first | ((with_reducible refine gate_dst (N := 1) rfl ?_); refine box_event ?hg (N := 1) ?hd (cs := #[.slice A0_0 l0_0.length c0_0, .slice A0_1 l0_1.length c0_1, .int .i64 a0_2, .int .u64 a0_3, .int .i64 a0_4]) (t := 53) ?hr ?_; (case hd => rfl); (case hg => rfl); (case hr => first | (go_simp; done) | (go_simp; rfl)); intro gb531 hg w53 hbox hb; have n0_ := Aside0.mk (below_step zb_ hb); have n1_ := Aside0.mk (hbox); have n2_ := Aside0.mk ((by rw [hg]; exact (below_size zb_) : w.heap.size ≤ gb531)); have n3_ := Aside0.mk ((by rw [hg]; exact (below_size zb_) : w.heap.size ≤ gb531)); clear HB; have HB := n0_; have BK531 := n1_; have GW531 := n2_; have GE531 := n3_; clear n0_ n1_ n2_ n3_; clear hb hbox hg; have hcz54_0 : w53.cell? ⟨gb531, 0, none⟩ = some (.slice A0_0 l0_0.length c0_0) := (blk_cell BK531.out 0).trans rfl; have hcz54_1 : w53.cell? ⟨gb531, 1, none⟩ = some (.slice A0_1 l0_1.length c0_1) := (blk_cell BK531.out 1).trans rfl; have hcz54_2 : w53.cell? ⟨gb531, 2, none⟩ = some (.int .i64 a0_2) := (blk_cell BK531.out 2).trans rfl; have hcz54_3 : w53.cell? ⟨gb531, 3, none⟩ = some (.int .u64 a0_3) := (blk_cell BK531.out 3).trans rfl; have hcz54_4 : w53.cell? ⟨gb531, 4, none⟩ = some (.int .i64 a0_4) := (blk_cell BK531.out 4).trans rfl; have hfz54_0 := blk_frozen BK531.out 0; have hfz54_1 := blk_frozen BK531.out 1; have hfz54_2 := blk_frozen BK531.out 2; have hfz54_3 := blk_frozen BK531.out 3; have hfz54_4 := blk_frozen BK531.out 4) | ((with_reducible refine gate_callee (f := 53) rfl ?_); refine goesL_ (some 10) rfl rfl Try.func53 (by kernel_rfl) rfl #[.agg #[.slice A0_0 l0_0.length c0_0, .slice A0_1 l0_1.length c0_1, .int .i64 a0_2, .int .u64 a0_3, .int .i64 a0_4]] rfl za_ ?_; (with_reducible refine (content_Right.calls k _ _ l0_0 _ _ l0_1 a0_2 a0_3 a0_4 false _ ?side1 ?side2 ?side3 ?side4 A2.out).mono ?_); (case side1 => exact zc_ HR0_0 HB); (case side2 => exact HC0_0.out); (case side3 => exact zc_ HR0_1 HB); (case side4 => exact HC0_1.out); rintro e w55 ⟨rfl, hb⟩; refine ⟨_, rfl, ?_⟩; have n0_ := zk_ BK531 hb; have n1_ := Aside0.mk (below_step zb_ hb); clear BK531; clear HB; have BK531 := n0_; have HB := n1_; clear n0_ n1_; (try clear hb); (try clear hb2); (try clear hk); (try clear hi)))
  go_ret2
  exact ⟨_, by first | rfl | (simp [errW_none, errW_some] <;> rfl) | (simp [*, errW_none, errW_some] <;> rfl), by first | exact Kd.R_nil _ _ _ _ _ | exact Kd.N_nil _ _ _ _ _ | exact Kd.V_nil _ _ _ _ _ | exact Kd.Q_nil _ _ _ _ _ | exact Kd.S_nil _ _ _ _ _, by repeat (first | (with_reducible first | exact HB.out | apply below_alloc | apply pw_below_drewN | apply below_drew1 | refine below_set ?_ GE531.out) | exact HB.out)⟩
end Go.Proofs.Ytioooiflpabngaa.PAll
end
section
namespace Go.Proofs.Ytioooiflpabngaa.PAll
open Go.RowKit Go.Proofs.YtioooiflpabngaaW.PrintWords Go.Proofs.YtioooiflpabngaaW.PrintLast Go.Proofs.YtioooiflpabngaaW.PrintMore
attribute [local go_sem] max2_int min2_int max_two min_two max_three min_three max_four min_four   -- for this text's walks alone
set_option linter.unusedVariables false
set_option linter.unusedSimpArgs false
def folkmootref15_Rising.l0 : Nat → List (S32) → Int → Option (Bool)
 | 0, _, _ => none
 | k + 1, x0, x3 => if x3 < (x0.length : Int) then (if 0 ≤ (wrap64 (x3 - 1)) then (if (wrap64 (x3 - 1)) < (x0.length : Int) then (if 0 ≤ x3 then ((folkmootref05_Less.f k ((rd_T32 x0 (wrap64 (x3 - 1))).f0.f0.f0) ((rd_T32 x0 (wrap64 (x3 - 1))).f0.f0.f1) ((rd_T32 x0 (wrap64 (x3 - 1))).f0.f1) ((rd_T32 x0 (wrap64 (x3 - 1))).f0.f2) ((rd_T32 x0 x3).f0.f0.f0) ((rd_T32 x0 x3).f0.f0.f1) ((rd_T32 x0 x3).f0.f1) ((rd_T32 x0 x3).f0.f2)).bind fun t285 => (if t285 = true then (folkmootref15_Rising.l0 k x0 (wrap64 (x3 + 1))) else (some false))) else (none)) else (none)) else (none)) else (some true)
def folkmootref15_Rising.f (k : Nat) (l0 : List (S32)) : Option (Bool) := folkmootref15_Rising.l0 k l0 1
def folkmootref15_Rising.T4 : Bool × List (List Nat × List Nat) := (true, [([], []), ([], []), ([1], [1]), ([0, 2], [0, 2]), ([3], [3]), ([4], [4]), ([], []), ([], []), ([6, 7], [6, 7]), ([8], [8]), ([9], [9]), ([5, 10], [5, 10]), ([11], [11])])
def folkmootref15_Rising.B4 : List Nat := [0, 0, 2, 7, 15, 31, 0, 0, 192, 448, 960, 2047, 4095]
theorem folkmootref15_Rising.tab4 : rtab .any (opsOf Try.f29 4) = folkmootref15_Rising.T4 := by kernel_rfl
theorem folkmootref15_Rising.bits4 : waitsOk folkmootref15_Rising.T4.2 folkmootref15_Rising.B4 = true := by kernel_rfl
set_option maxHeartbeats 8000000 in
set_option maxRecDepth 100000 in
theorem folkmootref15_Rising.calls (k : Nat) (A0 : Option Addr) (c0 : Nat) (l0 : List (S32)) (r : Bool) (w : World) (hr0 : Kd.C k32 w A0 l0.length l0) (hc0 : l0.length ≤ c0) (h : folkmootref15_Rising.f k l0 = some r) :
  Calls Try.prog 29 #[.slice A0 l0.length c0] w fun e w' => e = .returned (.bool r) ∧ Below w.heap.size w w' := by
 have hu27 := Try.underlying27
 have HR0 := Aside0.mk hr0
 have HC0 := Aside0.mk hc0
 clear hr0 hc0
 have HB := Aside0.mk (Below.refl w.heap.size w)
 have H : (folkmootref15_Rising.l0 k l0 1) = some r := h
 clear h
 have H' := Aside0.mk H
 clear H
 go_enter Try.func29, Try.ntmps29
 go_wp2
 go_loopg [3] k (fun kq v3 w' => ∃ (x3_1 : Int), v3 = .int .i64 x3_1 ∧ Aside0 (folkmootref15_Rising.l0 kq l0 x3_1 = some r) ∧ Aside0 (kq ≤ k) ∧ Aside0 (Below w.heap.size w w'))
 case atStart => exact ⟨(1), (by first | rfl | (simp; done) | (simp [*]; done)), H', ⟨Nat.le_refl _⟩, ⟨by repeat (first | (with_reducible first | exact HB.out | apply below_alloc | apply pw_below_drewN | apply below_drew1) | exact HB.out)⟩⟩
 case round =>
  clear H'
  obtain ⟨x3_1, rfl, HA, HK1, HB⟩ := hrel
  cases gk with
  | zero => exact absurd HA.out (by simp [folkmootref15_Rising.l0])
  | succ k1 =>
   have H := HA.out
   clear HA
   simp only [folkmootref15_Rising.l0] at H
   by_cases c2 : x3_1 < (l0.length : Int)
   ·
    rw [if_pos c2] at H
    have c2b0 : decide (x3_1 < (l0.length : Int)) = true := decide_eq_true c2
    clear c2
    obtain ⟨ji3, hji3⟩ : ∃ j_ : Int, (wrap64 (x3_1 - 1)) = j_ := ⟨_, rfl⟩
    replace H : (if 0 ≤ (ji3) then (if (ji3) < (l0.length : Int) then (if 0 ≤ x3_1 then ((folkmootref05_Less.f k1 ((rd_T32 l0 (ji3)).f0.f0.f0) ((rd_T32 l0 (ji3)).f0.f0.f1) ((rd_T32 l0 (ji3)).f0.f1) ((rd_T32 l0 (ji3)).f0.f2) ((rd_T32 l0 x3_1).f0.f0.f0) ((rd_T32 l0 x3_1).f0.f0.f1) ((rd_T32 l0 x3_1).f0.f1) ((rd_T32 l0 x3_1).f0.f2)).bind fun t285 => (if t285 = true then (folkmootref15_Rising.l0 k1 l0 (wrap64 (x3_1 + 1))) else (some false))) else (none)) else (none)) else (none)) = some r := by first | (rw [hji3] at H; exact H) | (simp only [hji3] at H ⊢; exact H)
    have hji3w : (IntKind.i64.wrap (x3_1 - 1)) = ji3 := (i64_w _).trans hji3
    by_cases c4 : 0 ≤ (ji3)
    ·
     rw [if_pos c4] at H
     have c4b0 : decide (0 ≤ (ji3)) = true := decide_eq_true c4
     clear c4
     by_cases c5 : (ji3) < (l0.length : Int)
     ·
      rw [if_pos c5] at H
      have c5b0 : decide ((ji3) < (l0.length : Int)) = true := decide_eq_true c5
      clear c5
      by_cases c6 : 0 ≤ x3_1
      ·
       rw [if_pos c6] at H
       have c6b0 : decide (0 ≤ x3_1) = true := decide_eq_true c6
       clear c6
       replace H := Option.bind_eq_some_iff.mp H
       obtain ⟨t285, A70, H⟩ := H
       replace H : (if t285 = true then (folkmootref15_Rising.l0 k1 l0 (wrap64 (x3_1 + 1))) else (some false)) = some r := H
       have A7 := Aside0.mk A70
       clear A70
       by_cases c8 : t285 = true
       ·
        subst c8
        have H1 : (folkmootref15_Rising.l0 k1 l0 (wrap64 (x3_1 + 1))) = some r := by rw [if_pos rfl] at H; exact H
        clear H
        have H := H1
        clear H1
        have H' := Aside0.mk H
        clear H
        try go_wp2
        have n0_ := Aside0.mk (below_drew1 HB.out)
        clear HB
        have HB := n0_
        clear n0_
        have p283 : 0 ≤ ((ji3) : Int) := of_decide_eq_true zs_
        have q283 : (ji3) < (l0.length : Int) := of_decide_eq_true zs_
        obtain ⟨ad283, A283_4, c283_4, e283, hx283_0, hx283_1, hx283_2, hx283_3, hx283_4, hl283_4, hi283_4⟩ := at_T32 HR0.out (ji3) p283 q283
        have hw283_4 := hx283_4
        have hw283_3 := hx283_3
        have hw283_2 := hx283_2
        have hw283_1 := hx283_1
        have hw283_0 := hx283_0
        cases e283
        replace hx283_0 := (HB.out.cell (World.block_lt_of_cell? w _ hx283_0)).trans hx283_0
        replace hx283_1 := (HB.out.cell (World.block_lt_of_cell? w _ hx283_1)).trans hx283_1
        replace hx283_2 := (HB.out.cell (World.block_lt_of_cell? w _ hx283_2)).trans hx283_2
        replace hx283_3 := (HB.out.cell (World.block_lt_of_cell? w _ hx283_3)).trans hx283_3
        replace hx283_4 := (HB.out.cell (World.block_lt_of_cell? w _ hx283_4)).trans hx283_4
        have HR283_4 := Aside0.mk hi283_4
        have HC283_4 := Aside0.mk hl283_4
        clear hi283_4 hl283_4
        replace p283 := eq_true p283
        replace q283 := eq_true q283
        have p284 : 0 ≤ (x3_1 : Int) := of_decide_eq_true zs_
        have q284 : x3_1 < (l0.length : Int) := of_decide_eq_true zs_
        obtain ⟨ad284, A284_4, c284_4, e284, hx284_0, hx284_1, hx284_2, hx284_3, hx284_4, hl284_4, hi284_4⟩ := at_T32 HR0.out x3_1 p284 q284
        have hw284_4 := hx284_4
        have hw284_3 := hx284_3
        have hw284_2 := hx284_2
        have hw284_1 := hx284_1
        have hw284_0 := hx284_0
        obtain rfl : ad283 = ad284 := (by injection e284)
        replace hx284_0 := (HB.out.cell (World.block_lt_of_cell? w _ hx284_0)).trans hx284_0
        replace hx284_1 := (HB.out.cell (World.block_lt_of_cell? w _ hx284_1)).trans hx284_1
        replace hx284_2 := (HB.out.cell (World.block_lt_of_cell? w _ hx284_2)).trans hx284_2
        replace hx284_3 := (HB.out.cell (World.block_lt_of_cell? w _ hx284_3)).trans hx284_3
        replace hx284_4 := (HB.out.cell (World.block_lt_of_cell? w _ hx284_4)).trans hx284_4
        have HR284_4 := Aside0.mk hi284_4
        have HC284_4 := Aside0.mk hl284_4
        clear hi284_4 hl284_4
        replace p284 := eq_true p284
        replace q284 := eq_true q284
        refine start_ (n := 13) (S := fun w' => w'.cell? (ad283.add (((ji3)).toNat * 5)) = some (.int .u64 ((rd_T32 l0 (ji3)).f0.f0.f0)) ∧ w'.cell? ⟨(ad283.add (((ji3)).toNat * 5)).block, (ad283.add (((ji3)).toNat * 5)).off + 1, none⟩ = some (.int .i64 ((rd_T32 l0 (ji3)).f0.f0.f1)) ∧ w'.cell? ⟨(ad283.add (((ji3)).toNat * 5)).block, (ad283.add (((ji3)).toNat * 5)).off + 2, none⟩ = some (.int .u64 ((rd_T32 l0 (ji3)).f0.f1)) ∧ w'.cell? ⟨(ad283.add (((ji3)).toNat * 5)).block, (ad283.add (((ji3)).toNat * 5)).off + 3, none⟩ = some (.int .i64 ((rd_T32 l0 (ji3)).f0.f2)) ∧ w'.cell? ⟨(ad283.add (((ji3)).toNat * 5)).block, (ad283.add (((ji3)).toNat * 5)).off + 4, none⟩ = some (.slice A283_4 ((rd_T32 l0 (ji3)).f1).length c283_4) ∧ w'.cell? (ad283.add ((x3_1).toNat * 5)) = some (.int .u64 ((rd_T32 l0 x3_1).f0.f0.f0)) ∧ w'.cell? ⟨(ad283.add ((x3_1).toNat * 5)).block, (ad283.add ((x3_1).toNat * 5)).off + 1, none⟩ = some (.int .i64 ((rd_T32 l0 x3_1).f0.f0.f1)) ∧ w'.cell? ⟨(ad283.add ((x3_1).toNat * 5)).block, (ad283.add ((x3_1).toNat * 5)).off + 2, none⟩ = some (.int .u64 ((rd_T32 l0 x3_1).f0.f1)) ∧ w'.cell? ⟨(ad283.add ((x3_1).toNat * 5)).block, (ad283.add ((x3_1).toNat * 5)).off + 3, none⟩ = some (.int .i64 ((rd_T32 l0 x3_1).f0.f2)) ∧ w'.cell? ⟨(ad283.add ((x3_1).toNat * 5)).block, (ad283.add ((x3_1).toNat * 5)).off + 4, none⟩ = some (.slice A284_4 ((rd_T32 l0 x3_1).f1).length c284_4)) (ds := []) #[F_,F_,F_,F_,F_,F_,F_,F_,F_,F_,F_,F_,F_] (by kernel_rfl) rfl rfl ⟨((HB.out.cell (World.block_lt_of_cell? w _ hw283_0)).trans hw283_0), ((HB.out.cell (World.block_lt_of_cell? w _ hw283_1)).trans hw283_1), ((HB.out.cell (World.block_lt_of_cell? w _ hw283_2)).trans hw283_2), ((HB.out.cell (World.block_lt_of_cell? w _ hw283_3)).trans hw283_3), ((HB.out.cell (World.block_lt_of_cell? w _ hw283_4)).trans hw283_4), ((HB.out.cell (World.block_lt_of_cell? w _ hw284_0)).trans hw284_0), ((HB.out.cell (World.block_lt_of_cell? w _ hw284_1)).trans hw284_1), ((HB.out.cell (World.block_lt_of_cell? w _ hw284_2)).trans hw284_2), ((HB.out.cell (World.block_lt_of_cell? w _ hw284_3)).trans hw284_3), ((HB.out.cell (World.block_lt_of_cell? w _ hw284_4)).trans hw284_4)⟩ (fun hHeld => ?_); refine with_tabW folkmootref15_Rising.tab4 folkmootref15_Rising.bits4 (fun HT_ HW_ => ?_)
        generalize wr.drew = w9 at HB HR283_4 HR284_4 hx283_0 hx283_1 hx283_2 hx283_3 hx283_4 hx284_0 hx284_1 hx284_2 hx284_3 hx284_4 hHeld ⊢
        refine pure_ (i := 0) (N := some 10) (v := ?_) (a' := ?_) #[T_,F_,F_,F_,F_,F_,F_,F_,F_,F_,F_,F_,F_] rfl rfl (any_of HT_.out (by kernel_rfl)) (fun _ _ _ h => h) (Or.inl ⟨by rfl, ?_⟩) ?_ ?_
        rotate_left
        ·
         intro w'; go_simp; with_reducible rfl
        rotate_left
        ·
         exact zp_
        refine pure_ (i := 1) (N := some 11) (v := ?_) (a' := ?_) #[T_,T_,F_,F_,F_,F_,F_,F_,F_,F_,F_,F_,F_] rfl rfl (any_of HT_.out (by kernel_rfl)) (fun _ _ _ h => h) (Or.inl ⟨by rfl, ?_⟩) ?_ ?_
        rotate_left
        ·
         intro w'; go_simp; with_reducible rfl
        rotate_left
        ·
         exact zp_
        refine pure_ (i := 2) (N := some 12) (v := ?_) (a' := ?_) #[T_,T_,T_,F_,F_,F_,F_,F_,F_,F_,F_,F_,F_] rfl rfl (any_of HT_.out (by kernel_rfl)) (fun _ _ _ h => h) (Or.inl ⟨by rfl, ?_⟩) ?_ ?_
        rotate_left
        ·
         intro w'; go_simp; with_reducible rfl
        rotate_left
        ·
         exact zp_
        refine pure_ (i := 3) (N := some 13) (v := ?_) (a' := ?_) #[T_,T_,T_,T_,F_,F_,F_,F_,F_,F_,F_,F_,F_] rfl rfl (any_of HT_.out (by kernel_rfl)) (fun _ _ _ h => h) (Or.inl ⟨by rfl, ?_⟩) ?_ ?_
        rotate_left
        ·
         intro w'; go_simp; with_reducible rfl
        rotate_left
        ·
         exact zp_
        refine pure_ (i := 4) (N := some 14) (v := ?_) (a' := ?_) #[T_,T_,T_,T_,T_,F_,F_,F_,F_,F_,F_,F_,F_] rfl rfl (any_of HT_.out (by kernel_rfl)) (fun _ _ _ h => h) (Or.inl ⟨by rfl, ?_⟩) ?_ ?_
        rotate_left
        ·
         intro w'; go_simp; with_reducible rfl
        rotate_left
        ·
         exact zp_
        refine pure_ (i := 6) (N := some 16) (v := ?_) (a' := ?_) #[T_,T_,T_,T_,T_,F_,T_,F_,F_,F_,F_,F_,F_] rfl rfl (any_of HT_.out (by kernel_rfl)) (fun _ _ _ h => h) (Or.inl ⟨by rfl, ?_⟩) ?_ ?_
        rotate_left
        ·
         intro w'; go_simp; with_reducible rfl
        rotate_left
        ·
         exact zp_
        refine pure_ (i := 7) (N := some 17) (v := ?_) (a' := ?_) #[T_,T_,T_,T_,T_,F_,T_,T_,F_,F_,F_,F_,F_] rfl rfl (any_of HT_.out (by kernel_rfl)) (fun _ _ _ h => h) (Or.inl ⟨by rfl, ?_⟩) ?_ ?_
        rotate_left
        ·
         intro w'; go_simp; with_reducible rfl
        rotate_left
        ·
         exact zp_
        refine pure_ (i := 8) (N := some 18) (v := ?_) (a' := ?_) #[T_,T_,T_,T_,T_,F_,T_,T_,T_,F_,F_,F_,F_] rfl rfl (any_of HT_.out (by kernel_rfl)) (fun _ _ _ h => h) (Or.inl ⟨by rfl, ?_⟩) ?_ ?_
        rotate_left
        ·
         intro w'; go_simp; with_reducible rfl
        rotate_left
        ·
         exact zp_
        refine pure_ (i := 9) (N := some 19) (v := ?_) (a' := ?_) #[T_,T_,T_,T_,T_,F_,T_,T_,T_,T_,F_,F_,F_] rfl rfl (any_of HT_.out (by kernel_rfl)) (fun _ _ _ h => h) (Or.inl ⟨by rfl, ?_⟩) ?_ ?_
        rotate_left
        ·
         intro w'; go_simp; with_reducible rfl
        rotate_left
        ·
         exact zp_
        refine take_ (i := 5) (N := some 15) (v := ?_) (a' := ?_) #[T_,T_,T_,T_,T_,T_,T_,T_,T_,T_,F_,F_,F_] rfl rfl (take_ofW HT_.out HW_.out (by kernel_rfl)) (fun _ _ _ h => h) (Or.inl ⟨by rfl, ?_⟩) hHeld ?_ ?_
        rotate_left
        ·
         rintro w' ⟨s0, s1, s2, s3, s4, s5, s6, s7, s8, s9⟩
         go_simp
         with_reducible rfl
        rotate_left
        ·
         exact zp_
        refine take_ (i := 10) (N := some 20) (v := ?_) (a' := ?_) #[T_,T_,T_,T_,T_,T_,T_,T_,T_,T_,T_,F_,F_] rfl rfl (take_ofW HT_.out HW_.out (by kernel_rfl)) (fun _ _ _ h => h) (Or.inl ⟨by rfl, ?_⟩) hHeld ?_ ?_
        rotate_left
        ·
         rintro w' ⟨s0, s1, s2, s3, s4, s5, s6, s7, s8, s9⟩
         go_simp
         with_reducible rfl
        rotate_left
        ·
         exact zp_
        refine one_ (i := 11) (N := some 21) #[T_,T_,T_,T_,T_,T_,T_,T_,T_,T_,T_,T_,F_] rfl rfl (one_of HT_.out (by kernel_rfl)) (by decide) (fun K hK => ?_)
        refine goes_ Try.func43 (by kernel_rfl) rfl #[.agg #[.int .u64 ((rd_T32 l0 (ji3)).f0.f0.f0), .int .i64 ((rd_T32 l0 (ji3)).f0.f0.f1), .int .u64 ((rd_T32 l0 (ji3)).f0.f1), .int .i64 ((rd_T32 l0 (ji3)).f0.f2)], .agg #[.int .u64 ((rd_T32 l0 x3_1).f0.f0.f0), .int .i64 ((rd_T32 l0 x3_1).f0.f0.f1), .int .u64 ((rd_T32 l0 x3_1).f0.f1), .int .i64 ((rd_T32 l0 x3_1).f0.f2)]] (by rfl) rfl rfl (by (try simp only [List.map_toArray, List.map_cons, List.map_nil]); first | done | (simp only [hji3]; rfl) | rfl | (simp only [List.length_drop, List.length_take]; rfl)) ?_
        with_reducible refine (folkmootref05_Less.calls k1 ((rd_T32 l0 (ji3)).f0.f0.f0) ((rd_T32 l0 (ji3)).f0.f0.f1) ((rd_T32 l0 (ji3)).f0.f1) ((rd_T32 l0 (ji3)).f0.f2) ((rd_T32 l0 x3_1).f0.f0.f0) ((rd_T32 l0 x3_1).f0.f0.f1) ((rd_T32 l0 x3_1).f0.f1) ((rd_T32 l0 x3_1).f0.f2) true _ A7.out).mono ?_
        rintro e w10 ⟨rfl, hb⟩
        refine ⟨_, rfl, ?_⟩
        have n0_ := Aside0.mk (below_step zb_ hb)
        clear HB
        have HB := n0_
        clear n0_
        (try clear hb)
        (try clear hb2)
        (try clear hk)
        (try clear hi)
        refine hK.out _ _ ⟨((HB.out.cell (World.block_lt_of_cell? w _ hw283_0)).trans hw283_0), ((HB.out.cell (World.block_lt_of_cell? w _ hw283_1)).trans hw283_1), ((HB.out.cell (World.block_lt_of_cell? w _ hw283_2)).trans hw283_2), ((HB.out.cell (World.block_lt_of_cell? w _ hw283_3)).trans hw283_3), ((HB.out.cell (World.block_lt_of_cell? w _ hw283_4)).trans hw283_4), ((HB.out.cell (World.block_lt_of_cell? w _ hw284_0)).trans hw284_0), ((HB.out.cell (World.block_lt_of_cell? w _ hw284_1)).trans hw284_1), ((HB.out.cell (World.block_lt_of_cell? w _ hw284_2)).trans hw284_2), ((HB.out.cell (World.block_lt_of_cell? w _ hw284_3)).trans hw284_3), ((HB.out.cell (World.block_lt_of_cell? w _ hw284_4)).trans hw284_4)⟩ (fun hHeld => ?_)
        clear hK K
        refine norm_ (a' := ?_) ?_ ?_
        rotate_left
        ·
         show Act.put _ (some 21) _ = _
         simp only [Act.put, List.setIfInBounds_toArray, List.set_cons_zero, List.set_cons_succ, i64_w, i32_w]
         rfl
        refine pure_ (i := 12) (N := some 22) (v := ?_) (a' := ?_) #[T_,T_,T_,T_,T_,T_,T_,T_,T_,T_,T_,T_,T_] rfl rfl (any_of HT_.out (by kernel_rfl)) (fun _ _ _ h => h) (Or.inl ⟨by rfl, ?_⟩) ?_ ?_
        rotate_left
        ·
         intro w'; go_simp; with_reducible rfl
        rotate_left
        ·
         exact zp_
        refine done_ (done_of HT_.out (by kernel_rfl)) ?_
        (try clear hHeld); (try clear HS0_)
        try go_wp2
        go_roundg k1
        case measure => have := HK1.out; omega
        case rel => exact ⟨(wrap64 (x3_1 + 1)), (by first | rfl | (simp; done) | (simp [*]; done)), H', ⟨by have := HK1.out; omega⟩, ⟨by repeat (first | (with_reducible first | exact HB.out | apply below_alloc | apply pw_below_drewN | apply below_drew1) | exact HB.out)⟩⟩
       ·
        replace c8 := Bool.eq_false_iff.mpr c8
        subst c8
        have H1 : (some false) = some r := by rw [if_neg (show ¬ (false = true) by decide)] at H; exact H
        clear H
        have H := H1
        clear H1
        obtain rfl := Option.some.inj H
        try go_wp2
        have n0_ := Aside0.mk (below_drew1 HB.out)
        clear HB
        have HB := n0_
        clear n0_
        have p283 : 0 ≤ ((ji3) : Int) := of_decide_eq_true zs_
        have q283 : (ji3) < (l0.length : Int) := of_decide_eq_true zs_
        obtain ⟨ad283, A283_4, c283_4, e283, hx283_0, hx283_1, hx283_2, hx283_3, hx283_4, hl283_4, hi283_4⟩ := at_T32 HR0.out (ji3) p283 q283
        have hw283_4 := hx283_4
        have hw283_3 := hx283_3
        have hw283_2 := hx283_2
        have hw283_1 := hx283_1
        have hw283_0 := hx283_0
        cases e283
        replace hx283_0 := (HB.out.cell (World.block_lt_of_cell? w _ hx283_0)).trans hx283_0
        replace hx283_1 := (HB.out.cell (World.block_lt_of_cell? w _ hx283_1)).trans hx283_1
        replace hx283_2 := (HB.out.cell (World.block_lt_of_cell? w _ hx283_2)).trans hx283_2
        replace hx283_3 := (HB.out.cell (World.block_lt_of_cell? w _ hx283_3)).trans hx283_3
        replace hx283_4 := (HB.out.cell (World.block_lt_of_cell? w _ hx283_4)).trans hx283_4
        have HR283_4 := Aside0.mk hi283_4
        have HC283_4 := Aside0.mk hl283_4
        clear hi283_4 hl283_4
        replace p283 := eq_true p283
        replace q283 := eq_true q283
        have p284 : 0 ≤ (x3_1 : Int) := of_decide_eq_true zs_
        have q284 : x3_1 < (l0.length : Int) := of_decide_eq_true zs_
        obtain ⟨ad284, A284_4, c284_4, e284, hx284_0, hx284_1, hx284_2, hx284_3, hx284_4, hl284_4, hi284_4⟩ := at_T32 HR0.out x3_1 p284 q284
        have hw284_4 := hx284_4
        have hw284_3 := hx284_3
        have hw284_2 := hx284_2
        have hw284_1 := hx284_1
        have hw284_0 := hx284_0
        obtain rfl : ad283 = ad284 := (by injection e284)
        replace hx284_0 := (HB.out.cell (World.block_lt_of_cell? w _ hx284_0)).trans hx284_0
        replace hx284_1 := (HB.out.cell (World.block_lt_of_cell? w _ hx284_1)).trans hx284_1
        replace hx284_2 := (HB.out.cell (World.block_lt_of_cell? w _ hx284_2)).trans hx284_2
        replace hx284_3 := (HB.out.cell (World.block_lt_of_cell? w _ hx284_3)).trans hx284_3
        replace hx284_4 := (HB.out.cell (World.block_lt_of_cell? w _ hx284_4)).trans hx284_4
        have HR284_4 := Aside0.mk hi284_4
        have HC284_4 := Aside0.mk hl284_4
        clear hi284_4 hl284_4
        replace p284 := eq_true p284
        replace q284 := eq_true q284
        refine start_ (n := 13) (S := fun w' => w'.cell? (ad283.add (((ji3)).toNat * 5)) = some (.int .u64 ((rd_T32 l0 (ji3)).f0.f0.f0)) ∧ w'.cell? ⟨(ad283.add (((ji3)).toNat * 5)).block, (ad283.add (((ji3)).toNat * 5)).off + 1, none⟩ = some (.int .i64 ((rd_T32 l0 (ji3)).f0.f0.f1)) ∧ w'.cell? ⟨(ad283.add (((ji3)).toNat * 5)).block, (ad283.add (((ji3)).toNat * 5)).off + 2, none⟩ = some (.int .u64 ((rd_T32 l0 (ji3)).f0.f1)) ∧ w'.cell? ⟨(ad283.add (((ji3)).toNat * 5)).block, (ad283.add (((ji3)).toNat * 5)).off + 3, none⟩ = some (.int .i64 ((rd_T32 l0 (ji3)).f0.f2)) ∧ w'.cell? ⟨(ad283.add (((ji3)).toNat * 5)).block, (ad283.add (((ji3)).toNat * 5)).off + 4, none⟩ = some (.slice A283_4 ((rd_T32 l0 (ji3)).f1).length c283_4) ∧ w'.cell? (ad283.add ((x3_1).toNat * 5)) = some (.int .u64 ((rd_T32 l0 x3_1).f0.f0.f0)) ∧ w'.cell? ⟨(ad283.add ((x3_1).toNat * 5)).block, (ad283.add ((x3_1).toNat * 5)).off + 1, none⟩ = some (.int .i64 ((rd_T32 l0 x3_1).f0.f0.f1)) ∧ w'.cell? ⟨(ad283.add ((x3_1).toNat * 5)).block, (ad283.add ((x3_1).toNat * 5)).off + 2, none⟩ = some (.int .u64 ((rd_T32 l0 x3_1).f0.f1)) ∧ w'.cell? ⟨(ad283.add ((x3_1).toNat * 5)).block, (ad283.add ((x3_1).toNat * 5)).off + 3, none⟩ = some (.int .i64 ((rd_T32 l0 x3_1).f0.f2)) ∧ w'.cell? ⟨(ad283.add ((x3_1).toNat * 5)).block, (ad283.add ((x3_1).toNat * 5)).off + 4, none⟩ = some (.slice A284_4 ((rd_T32 l0 x3_1).f1).length c284_4)) (ds := []) #[F_,F_,F_,F_,F_,F_,F_,F_,F_,F_,F_,F_,F_] (by kernel_rfl) rfl rfl ⟨((HB.out.cell (World.block_lt_of_cell? w _ hw283_0)).trans hw283_0), ((HB.out.cell (World.block_lt_of_cell? w _ hw283_1)).trans hw283_1), ((HB.out.cell (World.block_lt_of_cell? w _ hw283_2)).trans hw283_2), ((HB.out.cell (World.block_lt_of_cell? w _ hw283_3)).trans hw283_3), ((HB.out.cell (World.block_lt_of_cell? w _ hw283_4)).trans hw283_4), ((HB.out.cell (World.block_lt_of_cell? w _ hw284_0)).trans hw284_0), ((HB.out.cell (World.block_lt_of_cell? w _ hw284_1)).trans hw284_1), ((HB.out.cell (World.block_lt_of_cell? w _ hw284_2)).trans hw284_2), ((HB.out.cell (World.block_lt_of_cell? w _ hw284_3)).trans hw284_3), ((HB.out.cell (World.block_lt_of_cell? w _ hw284_4)).trans hw284_4)⟩ (fun hHeld => ?_); refine with_tabW folkmootref15_Rising.tab4 folkmootref15_Rising.bits4 (fun HT_ HW_ => ?_)
        generalize wr.drew = w11 at HB HR283_4 HR284_4 hx283_0 hx283_1 hx283_2 hx283_3 hx283_4 hx284_0 hx284_1 hx284_2 hx284_3 hx284_4 hHeld ⊢
        refine pure_ (i := 0) (N := some 10) (v := ?_) (a' := ?_) #[T_,F_,F_,F_,F_,F_,F_,F_,F_,F_,F_,F_,F_] rfl rfl (any_of HT_.out (by kernel_rfl)) (fun _ _ _ h => h) (Or.inl ⟨by rfl, ?_⟩) ?_ ?_
        rotate_left
        ·
         intro w'; go_simp; with_reducible rfl
        rotate_left
        ·
         exact zp_
        refine pure_ (i := 1) (N := some 11) (v := ?_) (a' := ?_) #[T_,T_,F_,F_,F_,F_,F_,F_,F_,F_,F_,F_,F_] rfl rfl (any_of HT_.out (by kernel_rfl)) (fun _ _ _ h => h) (Or.inl ⟨by rfl, ?_⟩) ?_ ?_
        rotate_left
        ·
         intro w'; go_simp; with_reducible rfl
        rotate_left
        ·
         exact zp_
        refine pure_ (i := 2) (N := some 12) (v := ?_) (a' := ?_) #[T_,T_,T_,F_,F_,F_,F_,F_,F_,F_,F_,F_,F_] rfl rfl (any_of HT_.out (by kernel_rfl)) (fun _ _ _ h => h) (Or.inl ⟨by rfl, ?_⟩) ?_ ?_
        rotate_left
        ·
         intro w'; go_simp; with_reducible rfl
        rotate_left
        ·
         exact zp_
        refine pure_ (i := 3) (N := some 13) (v := ?_) (a' := ?_) #[T_,T_,T_,T_,F_,F_,F_,F_,F_,F_,F_,F_,F_] rfl rfl (any_of HT_.out (by kernel_rfl)) (fun _ _ _ h => h) (Or.inl ⟨by rfl, ?_⟩) ?_ ?_
        rotate_left
        ·
         intro w'; go_simp; with_reducible rfl
        rotate_left
        ·
         exact zp_
        refine pure_ (i := 4) (N := some 14) (v := ?_) (a' := ?_) #[T_,T_,T_,T_,T_,F_,F_,F_,F_,F_,F_,F_,F_] rfl rfl (any_of HT_.out (by kernel_rfl)) (fun _ _ _ h => h) (Or.inl ⟨by rfl, ?_⟩) ?_ ?_
        rotate_left
        ·
         intro w'; go_simp; with_reducible rfl
        rotate_left
        ·
         exact zp_
        refine pure_ (i := 6) (N := some 16) (v := ?_) (a' := ?_) #[T_,T_,T_,T_,T_,F_,T_,F_,F_,F_,F_,F_,F_] rfl rfl (any_of HT_.out (by kernel_rfl)) (fun _ _ _ h => h) (Or.inl ⟨by rfl, ?_⟩) ?_ ?_
        rotate_left
        ·
         intro w'; go_simp; with_reducible rfl
        rotate_left
        ·
         exact zp_
        refine pure_ (i := 7) (N := some 17) (v := ?_) (a' := ?_) #[T_,T_,T_,T_,T_,F_,T_,T_,F_,F_,F_,F_,F_] rfl rfl (any_of HT_.out (by kernel_rfl)) (fun _ _ _ h => h) (Or.inl ⟨by rfl, ?_⟩) ?_ ?_
        rotate_left
        ·
         intro w'; go_simp; with_reducible rfl
        rotate_left
        ·
         exact zp_
        refine pure_ (i := 8) (N := some 18) (v := ?_) (a' := ?_) #[T_,T_,T_,T_,T_,F_,T_,T_,T_,F_,F_,F_,F_] rfl rfl (any_of HT_.out (by kernel_rfl)) (fun _ _ _ h => h) (Or.inl ⟨by rfl, ?_⟩) ?_ ?_
        rotate_left
        ·
         intro w'; go_simp; with_reducible rfl
        rotate_left
        ·
         exact zp_
        refine pure_ (i := 9) (N := some 19) (v := ?_) (a' := ?_) #[T_,T_,T_,T_,T_,F_,T_,T_,T_,T_,F_,F_,F_] rfl rfl (any_of HT_.out (by kernel_rfl)) (fun _ _ _ h => h) (Or.inl ⟨by rfl, ?_⟩) ?_ ?_
        rotate_left
        ·
         intro w'; go_simp; with_reducible rfl
        rotate_left
        ·
         exact zp_
        refine take_ (i := 5) (N := some 15) (v := ?_) (a' := ?_) #[T_,T_,T_,T_,T_,T_,T_,T_,T_,T_,F_,F_,F_] rfl rfl (take_ofW HT_.out HW_.out (by kernel_rfl)) (fun _ _ _ h => h) (Or.inl ⟨by rfl, ?_⟩) hHeld ?_ ?_
        rotate_left
        ·
         rintro w' ⟨s0, s1, s2, s3, s4, s5, s6, s7, s8, s9⟩
         go_simp
         with_reducible rfl
        rotate_left
        ·
         exact zp_
        refine take_ (i := 10) (N := some 20) (v := ?_) (a' := ?_) #[T_,T_,T_,T_,T_,T_,T_,T_,T_,T_,T_,F_,F_] rfl rfl (take_ofW HT_.out HW_.out (by kernel_rfl)) (fun _ _ _ h => h) (Or.inl ⟨by rfl, ?_⟩) hHeld ?_ ?_
        rotate_left
        ·
         rintro w' ⟨s0, s1, s2, s3, s4, s5, s6, s7, s8, s9⟩
         go_simp
         with_reducible rfl
        rotate_left
        ·
         exact zp_
        refine one_ (i := 11) (N := some 21) #[T_,T_,T_,T_,T_,T_,T_,T_,T_,T_,T_,T_,F_] rfl rfl (one_of HT_.out (by kernel_rfl)) (by decide) (fun K hK => ?_)
        refine goes_ Try.func43 (by kernel_rfl) rfl #[.agg #[.int .u64 ((rd_T32 l0 (ji3)).f0.f0.f0), .int .i64 ((rd_T32 l0 (ji3)).f0.f0.f1), .int .u64 ((rd_T32 l0 (ji3)).f0.f1), .int .i64 ((rd_T32 l0 (ji3)).f0.f2)], .agg #[.int .u64 ((rd_T32 l0 x3_1).f0.f0.f0), .int .i64 ((rd_T32 l0 x3_1).f0.f0.f1), .int .u64 ((rd_T32 l0 x3_1).f0.f1), .int .i64 ((rd_T32 l0 x3_1).f0.f2)]] (by rfl) rfl rfl (by (try simp only [List.map_toArray, List.map_cons, List.map_nil]); first | done | (simp only [hji3]; rfl) | rfl | (simp only [List.length_drop, List.length_take]; rfl)) ?_
        with_reducible refine (folkmootref05_Less.calls k1 ((rd_T32 l0 (ji3)).f0.f0.f0) ((rd_T32 l0 (ji3)).f0.f0.f1) ((rd_T32 l0 (ji3)).f0.f1) ((rd_T32 l0 (ji3)).f0.f2) ((rd_T32 l0 x3_1).f0.f0.f0) ((rd_T32 l0 x3_1).f0.f0.f1) ((rd_T32 l0 x3_1).f0.f1) ((rd_T32 l0 x3_1).f0.f2) false _ A7.out).mono ?_
        rintro e w12 ⟨rfl, hb⟩
        refine ⟨_, rfl, ?_⟩
        have n0_ := Aside0.mk (below_step zb_ hb)
        clear HB
        have HB := n0_
        clear n0_
        (try clear hb)
        (try clear hb2)
        (try clear hk)
        (try clear hi)
        refine hK.out _ _ ⟨((HB.out.cell (World.block_lt_of_cell? w _ hw283_0)).trans hw283_0), ((HB.out.cell (World.block_lt_of_cell? w _ hw283_1)).trans hw283_1), ((HB.out.cell (World.block_lt_of_cell? w _ hw283_2)).trans hw283_2), ((HB.out.cell (World.block_lt_of_cell? w _ hw283_3)).trans hw283_3), ((HB.out.cell (World.block_lt_of_cell? w _ hw283_4)).trans hw283_4), ((HB.out.cell (World.block_lt_of_cell? w _ hw284_0)).trans hw284_0), ((HB.out.cell (World.block_lt_of_cell? w _ hw284_1)).trans hw284_1), ((HB.out.cell (World.block_lt_of_cell? w _ hw284_2)).trans hw284_2), ((HB.out.cell (World.block_lt_of_cell? w _ hw284_3)).trans hw284_3), ((HB.out.cell (World.block_lt_of_cell? w _ hw284_4)).trans hw284_4)⟩ (fun hHeld => ?_)
        clear hK K
        refine norm_ (a' := ?_) ?_ ?_
        rotate_left
        ·
         show Act.put _ (some 21) _ = _
         simp only [Act.put, List.setIfInBounds_toArray, List.set_cons_zero, List.set_cons_succ, i64_w, i32_w]
         rfl
        refine pure_ (i := 12) (N := some 22) (v := ?_) (a' := ?_) #[T_,T_,T_,T_,T_,T_,T_,T_,T_,T_,T_,T_,T_] rfl rfl (any_of HT_.out (by kernel_rfl)) (fun _ _ _ h => h) (Or.inl ⟨by rfl, ?_⟩) ?_ ?_
        rotate_left
        ·
         intro w'; go_simp; with_reducible rfl
        rotate_left
        ·
         exact zp_
        refine done_ (done_of HT_.out (by kernel_rfl)) ?_
        (try clear hHeld); (try clear HS0_)
        try go_wp2
        go_ret
        exact ⟨by first | rfl | (simp [errW_none, errW_some] <;> rfl) | (simp only [← hji3]; first | rfl | (simp [errW_none, errW_some] <;> rfl)) | (simp [*, errW_none, errW_some] <;> rfl), by repeat (first | (with_reducible first | exact HB.out | apply below_alloc | apply pw_below_drewN | apply below_drew1) | exact HB.out)⟩
      ·
       rw [if_neg c6] at H
       exact absurd H (by simp)
     ·
      rw [if_neg c5] at H
      exact absurd H (by simp)
    ·
     rw [if_neg c4] at H
     exact absurd H (by simp)
   ·
    rw [if_neg c2] at H
    have c2b0 : decide (x3_1 < (l0.length : Int)) = false := decide_eq_false c2
    clear c2
    obtain rfl := Option.some.inj H
    go_wp2
    go_ret
    exact ⟨by first | rfl | (simp [errW_none, errW_some] <;> rfl) | (simp [*, errW_none, errW_some] <;> rfl), by repeat (first | (with_reducible first | exact HB.out | apply below_alloc | apply pw_below_drewN | apply below_drew1) | exact HB.out)⟩
end Go.Proofs.Ytioooiflpabngaa.PAll
end
section
namespace Go.Proofs.Ytioooiflpabngaa.PAll
open Go.RowKit Go.Proofs.YtioooiflpabngaaW.PrintWords Go.Proofs.YtioooiflpabngaaW.PrintLast Go.Proofs.YtioooiflpabngaaW.PrintMore
attribute [local go_sem] max2_int min2_int max_two min_two max_three min_three max_four min_four   -- for this text's walks alone
set_option linter.unusedVariables false
set_option linter.unusedSimpArgs false
def folkmootref15_Form.f (a0_0 : Int) (a0_1 : Int) (a0_2 : Int) (a0_3 : Int) (l0_4 : List Int) : Option (Bool) := (folkmootref05_Form.f a0_0 a0_1 a0_2 a0_3).bind fun t503 => (if t503 = true then (some (decide ((l0_4.length : Int) ≤ 64))) else (some false))
set_option maxHeartbeats 8000000 in
set_option maxRecDepth 100000 in
theorem folkmootref15_Form.calls (a0_0 : Int) (a0_1 : Int) (a0_2 : Int) (a0_3 : Int) (A0_4 : Option Addr) (c0_4 : Nat) (l0_4 : List Int) (r : Bool) (w : World) (hr0_4 : Kd.C (Kd.int .u8) w A0_4 l0_4.length l0_4) (hc0_4 : l0_4.length ≤ c0_4) (h : folkmootref15_Form.f a0_0 a0_1 a0_2 a0_3 l0_4 = some r) :
  Calls Try.prog 44 #[.agg #[.int .u64 a0_0, .int .i64 a0_1, .int .u64 a0_2, .int .i64 a0_3, .slice A0_4 l0_4.length c0_4]] w fun e w' => e = .returned (.bool r) ∧ Below w.heap.size w w' := by
 have hu32 := Try.underlying32
 have hu27 := Try.underlying27
 have HR0_4 := Aside0.mk hr0_4
 have HC0_4 := Aside0.mk hc0_4
 clear hr0_4 hc0_4
 have HB := Aside0.mk (Below.refl w.heap.size w)
 have H : ((folkmootref05_Form.f a0_0 a0_1 a0_2 a0_3).bind fun t503 => (if t503 = true then (some (decide ((l0_4.length : Int) ≤ 64))) else (some false))) = some r := h
 clear h
 replace H := Option.bind_eq_some_iff.mp H
 obtain ⟨t503, A20, H⟩ := H
 replace H : (if t503 = true then (some (decide ((l0_4.length : Int) ≤ 64))) else (some false)) = some r := H
 have A2 := Aside0.mk A20
 clear A20
 by_cases c3 : t503 = true
 ·
  subst c3
  have H1 : (some (decide ((l0_4.length : Int) ≤ 64))) = some r := by rw [if_pos rfl] at H; exact H
  clear H
  have H := H1
  clear H1
  obtain rfl := Option.some.inj H
  go_enter Try.func44, Try.ntmps44
  go_wp2_with (first | ((with_reducible refine gate_dst (N := 1) rfl ?_); (try (refine gate_guard (by rfl) ?_; dsimp only)); refine box_event ?hg (N := 1) ?hd (cs := #[.int .u64 a0_0, .int .i64 a0_1, .int .u64 a0_2, .int .i64 a0_3, .slice A0_4 l0_4.length c0_4]) (t := 32) ?hr ?_; (case hd => rfl); (case hg => rfl); (case hr => first | (go_simp; done) | (go_simp; rfl)); intro gb502 hg w4 hbox hb; have n0_ := Aside0.mk (below_step zb_ hb); have n1_ := Aside0.mk (hbox); have n2_ := Aside0.mk ((by rw [hg]; exact (below_size zb_) : w.heap.size ≤ gb502)); have n3_ := Aside0.mk ((by rw [hg]; exact (below_size zb_) : w.heap.size ≤ gb502)); clear HB; have HB := n0_; have BK502 := n1_; have GW502 := n2_; have GE502 := n3_; clear n0_ n1_ n2_ n3_; clear hb hbox hg; have hcz5_0 : w4.cell? ⟨gb502, 0, none⟩ = some (.int .u64 a0_0) := (blk_cell BK502.out 0).trans rfl; have hcz5_1 : w4.cell? ⟨gb502, 1, none⟩ = some (.int .i64 a0_1) := (blk_cell BK502.out 1).trans rfl; have hcz5_2 : w4.cell? ⟨gb502, 2, none⟩ = some (.int .u64 a0_2) := (blk_cell BK502.out 2).trans rfl; have hcz5_3 : w4.cell? ⟨gb502, 3, none⟩ = some (.int .i64 a0_3) := (blk_cell BK502.out 3).trans rfl; have hcz5_4 : w4.cell? ⟨gb502, 4, none⟩ = some (.slice A0_4 l0_4.length c0_4) := (blk_cell BK502.out 4).trans rfl; have hfz5_0 := blk_frozen BK502.out 0; have hfz5_1 := blk_frozen BK502.out 1; have hfz5_2 := blk_frozen BK502.out 2; have hfz5_3 := blk_frozen BK502.out 3; have hfz5_4 := blk_frozen BK502.out 4) | ((with_reducible refine gate_callee (f := 41) rfl ?_); refine goesL_ (some 5) rfl rfl Try.func41 (by kernel_rfl) rfl #[.agg #[.int .u64 a0_0, .int .i64 a0_1, .int .u64 a0_2, .int .i64 a0_3]] rfl za_ ?_; (with_reducible refine (folkmootref05_Form.calls a0_0 a0_1 a0_2 a0_3 true _ A2.out).mono ?_); rintro e w6 ⟨rfl, hb⟩; refine ⟨_, rfl, ?_⟩; have n0_ := zk_ BK502 hb; have n1_ := Aside0.mk (below_step zb_ hb); clear BK502; clear HB; have BK502 := n0_; have HB := n1_; clear n0_ n1_; (try clear hb); (try clear hb2); (try clear hk); (try clear hi); have hcz7_0 : w6.cell? ⟨gb502, 0, none⟩ = some (.int .u64 a0_0) := (blk_cell BK502.out 0).trans rfl; have hcz7_1 : w6.cell? ⟨gb502, 1, none⟩ = some (.int .i64 a0_1) := (blk_cell BK502.out 1).trans rfl; have hcz7_2 : w6.cell? ⟨gb502, 2, none⟩ = some (.int .u64 a0_2) := (blk_cell BK502.out 2).trans rfl; have hcz7_3 : w6.cell? ⟨gb502, 3, none⟩ = some (.int .i64 a0_3) := (blk_cell BK502.out 3).trans rfl; have hcz7_4 : w6.cell? ⟨gb502, 4, none⟩ = some (.slice A0_4 l0_4.length c0_4) := (blk_cell BK502.out 4).trans rfl; have hfz7_0 := blk_frozen BK502.out 0; have hfz7_1 := blk_frozen BK502.out 1; have hfz7_2 := blk_frozen BK502.out 2; have hfz7_3 := blk_frozen BK502.out 3; have hfz7_4 := blk_frozen BK502.out 4))
  go_ret
  exact ⟨by first | rfl | (simp [errW_none, errW_some] <;> rfl) | (simp [*, errW_none, errW_some] <;> rfl), by repeat (first | (with_reducible first | exact HB.out | apply below_alloc | apply pw_below_drewN | apply below_drew1 | refine below_set ?_ GE502.out) | exact HB.out)⟩
 ·
  replace c3 := Bool.eq_false_iff.mpr c3
  subst c3
  have H1 : (some false) = some r := by rw [if_neg (show ¬ (false = true) by decide)] at H; exact H
  clear H
  have H := H1
  clear H1
  obtain rfl := Option.some.inj H
  go_enter Try.func44, Try.ntmps44
  go_wp2_with (first | ((with_reducible refine gate_dst (N := 1) rfl ?_); (try (refine gate_guard (by rfl) ?_; dsimp only)); refine box_event ?hg (N := 1) ?hd (cs := #[.int .u64 a0_0, .int .i64 a0_1, .int .u64 a0_2, .int .i64 a0_3, .slice A0_4 l0_4.length c0_4]) (t := 32) ?hr ?_; (case hd => rfl); (case hg => rfl); (case hr => first | (go_simp; done) | (go_simp; rfl)); intro gb502 hg w8 hbox hb; have n0_ := Aside0.mk (below_step zb_ hb); have n1_ := Aside0.mk (hbox); have n2_ := Aside0.mk ((by rw [hg]; exact (below_size zb_) : w.heap.size ≤ gb502)); have n3_ := Aside0.mk ((by rw [hg]; exact (below_size zb_) : w.heap.size ≤ gb502)); clear HB; have HB := n0_; have BK502 := n1_; have GW502 := n2_; have GE502 := n3_; clear n0_ n1_ n2_ n3_; clear hb hbox hg; have hcz9_0 : w8.cell? ⟨gb502, 0, none⟩ = some (.int .u64 a0_0) := (blk_cell BK502.out 0).trans rfl; have hcz9_1 : w8.cell? ⟨gb502, 1, none⟩ = some (.int .i64 a0_1) := (blk_cell BK502.out 1).trans rfl; have hcz9_2 : w8.cell? ⟨gb502, 2, none⟩ = some (.int .u64 a0_2) := (blk_cell BK502.out 2).trans rfl; have hcz9_3 : w8.cell? ⟨gb502, 3, none⟩ = some (.int .i64 a0_3) := (blk_cell BK502.out 3).trans rfl; have hcz9_4 : w8.cell? ⟨gb502, 4, none⟩ = some (.slice A0_4 l0_4.length c0_4) := (blk_cell BK502.out 4).trans rfl; have hfz9_0 := blk_frozen BK502.out 0; have hfz9_1 := blk_frozen BK502.out 1; have hfz9_2 := blk_frozen BK502.out 2; have hfz9_3 := blk_frozen BK502.out 3; have hfz9_4 := blk_frozen BK502.out 4) | ((with_reducible refine gate_callee (f := 41) rfl ?_); refine goesL_ (some 5) rfl rfl Try.func41 (by kernel_rfl) rfl #[.agg #[.int .u64 a0_0, .int .i64 a0_1, .int .u64 a0_2, .int .i64 a0_3]] rfl za_ ?_; (with_reducible refine (folkmootref05_Form.calls a0_0 a0_1 a0_2 a0_3 false _ A2.out).mono ?_); rintro e w10 ⟨rfl, hb⟩; refine ⟨_, rfl, ?_⟩; have n0_ := zk_ BK502 hb; have n1_ := Aside0.mk (below_step zb_ hb); clear BK502; clear HB; have BK502 := n0_; have HB := n1_; clear n0_ n1_; (try clear hb); (try clear hb2); (try clear hk); (try clear hi)))
  go_ret
  exact ⟨by first | rfl | (simp [errW_none, errW_some] <;> rfl) | (simp [*, errW_none, errW_some] <;> rfl), by repeat (first | (with_reducible first | exact HB.out | apply below_alloc | apply pw_below_drewN | apply below_drew1 | refine below_set ?_ GE502.out) | exact HB.out)⟩
end Go.Proofs.Ytioooiflpabngaa.PAll
end
section
namespace Go.Proofs.Ytioooiflpabngaa.PAll
open Go.RowKit Go.Proofs.YtioooiflpabngaaW.PrintWords Go.Proofs.YtioooiflpabngaaW.PrintLast Go.Proofs.YtioooiflpabngaaW.PrintMore
attribute [local go_sem] max2_int min2_int max_two min_two max_three min_three max_four min_four   -- for this text's walks alone
set_option linter.unusedVariables false
set_option linter.unusedSimpArgs false
mutual
def folkmootref15_Right.l0 : Nat → Int → List (S32) → List (S27) → Int → Int → Int → Option (Bool)
 | 0, _, _, _, _, _, _ => none
 | k + 1, x3, x505000, x505001, x505002, x505003, x505004 => if x3 < (x505000.length : Int) then (if 0 ≤ x3 then ((folkmootref15_Form.f ((rd_T32 x505000 x3).f0.f0.f0) ((rd_T32 x505000 x3).f0.f0.f1) ((rd_T32 x505000 x3).f0.f1) ((rd_T32 x505000 x3).f0.f2) ((rd_T32 x505000 x3).f1)).bind fun t506 => (if t506 = true then (folkmootref15_Right.l0 k (wrap64 (x3 + 1)) x505000 x505001 x505002 x505003 x505004) else (some false))) else (none)) else (folkmootref15_Right.l1 k 0 x505000 x505001 x505002 x505003 x505004)
def folkmootref15_Right.l1 : Nat → Int → List (S32) → List (S27) → Int → Int → Int → Option (Bool)
 | 0, _, _, _, _, _, _ => none
 | k + 1, x4, x505000, x505001, x505002, x505003, x505004 => if x4 < (x505001.length : Int) then (if 0 ≤ x4 then ((folkmootref05_Form.f ((rd_T27 x505001 x4).f0.f0) ((rd_T27 x505001 x4).f0.f1) ((rd_T27 x505001 x4).f1) ((rd_T27 x505001 x4).f2)).bind fun t510 => (if t510 = true then (if x4 ≤ (x505001.length : Int) then ((folkmootref05_In.f k (x505001.take (x4 : Int).toNat) ((rd_T27 x505001 x4).f0.f0) ((rd_T27 x505001 x4).f0.f1) ((rd_T27 x505001 x4).f1) ((rd_T27 x505001 x4).f2)).bind fun t516 => (if t516 = true then (some false) else (folkmootref15_Right.l1 k (wrap64 (x4 + 1)) x505000 x505001 x505002 x505003 x505004))) else (none)) else (some false))) else (none)) else ((folkmootref15_Rising.f k x505000).bind fun t507 => (if t507 = true then (if x505002 ≥ 1 then (if x505002 ≤ (wrap64 ((x505001.length : Int) + 1)) then ((folkmootref04_Form.f x505003 x505004).bind fun t508 => (some t508)) else (some false)) else (some false)) else (some false)))
end
def folkmootref15_Right.f (k : Nat) (l0_0 : List (S32)) (l0_1 : List (S27)) (a0_2 : Int) (a0_3 : Int) (a0_4 : Int) : Option (Bool) := folkmootref15_Right.l0 k 0 l0_0 l0_1 a0_2 a0_3 a0_4
def folkmootref15_Right.T9 : Bool × List (List Nat × List Nat) := (true, [([], []), ([0], [0]), ([], []), ([1, 2], [1, 2]), ([3], [3]), ([4], [4]), ([5], [5]), ([6, 5], [6]), ([7], [7]), ([8, 7], [7, 8]), ([7], [7]), ([9, 10, 7], [7, 9, 10]), ([7], [7]), ([12, 7], [7, 12]), ([7], [7]), ([13, 14, 7], [7, 13, 14]), ([15, 7], [7, 15]), ([11, 16, 7, 7], [7, 11, 16]), ([7, 17], [7, 17])])
def folkmootref15_Right.B9 : List Nat := [0, 1, 0, 7, 15, 31, 63, 127, 255, 511, 255, 2047, 255, 4351, 255, 28927, 61695, 131071, 262143]
theorem folkmootref15_Right.tab9 : rtab .any (opsOf Try.f45 9) = folkmootref15_Right.T9 := by kernel_rfl
theorem folkmootref15_Right.bits9 : waitsOk folkmootref15_Right.T9.2 folkmootref15_Right.B9 = true := by kernel_rfl
set_option maxHeartbeats 8000000 in
set_option maxRecDepth 100000 in
theorem folkmootref15_Right.calls (k : Nat) (A0_0 : Option Addr) (c0_0 : Nat) (l0_0 : List (S32)) (A0_1 : Option Addr) (c0_1 : Nat) (l0_1 : List (S27)) (a0_2 : Int) (a0_3 : Int) (a0_4 : Int) (r : Bool) (w : World) (hr0_0 : Kd.C k32 w A0_0 l0_0.length l0_0) (hc0_0 : l0_0.length ≤ c0_0) (hr0_1 : Kd.C k27 w A0_1 l0_1.length l0_1) (hc0_1 : l0_1.length ≤ c0_1) (h : folkmootref15_Right.f k l0_0 l0_1 a0_2 a0_3 a0_4 = some r) :
  Calls Try.prog 45 #[.agg #[.slice A0_0 l0_0.length c0_0, .slice A0_1 l0_1.length c0_1, .int .i64 a0_2, .int .u64 a0_3, .int .i64 a0_4]] w fun e w' => e = .returned (.bool r) ∧ Below w.heap.size w w' := by
 have hu53 := Try.underlying53
 have hu32 := Try.underlying32
 have hu27 := Try.underlying27
 have hu25 := Try.underlying25
 have HR0_0 := Aside0.mk hr0_0
 have HC0_0 := Aside0.mk hc0_0
 clear hr0_0 hc0_0
 have HR0_1 := Aside0.mk hr0_1
 have HC0_1 := Aside0.mk hc0_1
 clear hr0_1 hc0_1
 have HB := Aside0.mk (Below.refl w.heap.size w)
 have H : (folkmootref15_Right.l0 k 0 l0_0 l0_1 a0_2 a0_3 a0_4) = some r := h
 clear h
 have H' := Aside0.mk H
 clear H
 go_enter Try.func45, Try.ntmps45
 go_wp2_with (first | ((with_reducible refine gate_dst (N := 1) rfl ?_); (try (refine gate_guard (by rfl) ?_; dsimp only)); refine box_event ?hg (N := 1) ?hd (cs := #[.slice A0_0 l0_0.length c0_0, .slice A0_1 l0_1.length c0_1, .int .i64 a0_2, .int .u64 a0_3, .int .i64 a0_4]) (t := 53) ?hr ?_; (case hd => rfl); (case hg => rfl); (case hr => first | (go_simp; done) | (go_simp; rfl)); intro gb504 hg w2 hbox hb; have n0_ := Aside0.mk (below_step zb_ hb); have n1_ := Aside0.mk (hbox); have n2_ := Aside0.mk ((by rw [hg]; exact (below_size zb_) : w.heap.size ≤ gb504)); have n3_ := Aside0.mk ((by rw [hg]; exact (below_size zb_) : w.heap.size ≤ gb504)); clear HB; have HB := n0_; have BK504 := n1_; have GW504 := n2_; have GE504 := n3_; clear n0_ n1_ n2_ n3_; clear hb hbox hg))
 go_loopg [3] k (fun kq v3 w' => ∃ (x3_1 : Int), v3 = .int .i64 x3_1 ∧ Aside0 (folkmootref15_Right.l0 kq x3_1 l0_0 l0_1 a0_2 a0_3 a0_4 = some r) ∧ Aside0 (kq ≤ k) ∧ Aside0 (w'.heap[gb504]? = some (.cells #[(.slice A0_0 l0_0.length c0_0), (.slice A0_1 l0_1.length c0_1), .int .i64 a0_2, .int .u64 a0_3, .int .i64 a0_4] 53 (0, 0))) ∧ Aside0 (Below w.heap.size w w'))
 case atStart => exact ⟨(0), (by first | rfl | (simp; done) | (simp [*]; done)), H', ⟨Nat.le_refl _⟩, ⟨by (with_reducible repeat (first | refine blk_drewN ?_ _ | refine blk_drew ?_ | refine blk_alloc ?_ _)); exact BK504.out⟩, ⟨by repeat (first | (with_reducible first | exact HB.out | apply below_alloc | apply pw_below_drewN | apply below_drew1 | refine below_set ?_ GE504.out) | exact HB.out)⟩⟩
 case round =>
  clear H'
  try clear p2
  obtain ⟨x3_1, rfl, HA, HK1, BK504, HB⟩ := hrel
  cases gk with
  | zero => exact absurd HA.out (by simp [folkmootref15_Right.l0])
  | succ k1 =>
   have H := HA.out
   clear HA
   simp only [folkmootref15_Right.l0] at H
   by_cases c3 : x3_1 < (l0_0.length : Int)
   ·
    rw [if_pos c3] at H
    have c3b0 : decide (x3_1 < (l0_0.length : Int)) = true := decide_eq_true c3
    clear c3
    by_cases c4 : 0 ≤ x3_1
    ·
     rw [if_pos c4] at H
     have c4b0 : decide (0 ≤ x3_1) = true := decide_eq_true c4
     clear c4
     replace H := Option.bind_eq_some_iff.mp H
     obtain ⟨t506, A50, H⟩ := H
     replace H : (if t506 = true then (folkmootref15_Right.l0 k1 (wrap64 (x3_1 + 1)) l0_0 l0_1 a0_2 a0_3 a0_4) else (some false)) = some r := H
     have A5 := Aside0.mk A50
     clear A50
     by_cases c6 : t506 = true
     ·
      subst c6
      have H1 : (folkmootref15_Right.l0 k1 (wrap64 (x3_1 + 1)) l0_0 l0_1 a0_2 a0_3 a0_4) = some r := by rw [if_pos rfl] at H; exact H
      clear H
      have H := H1
      clear H1
      have H' := Aside0.mk H
      clear H
      have hcz7_0 : wr.cell? ⟨gb504, 0, none⟩ = some (.slice A0_0 l0_0.length c0_0) := (blk_cell BK504.out 0).trans rfl
      have hcz7_1 : wr.cell? ⟨gb504, 1, none⟩ = some (.slice A0_1 l0_1.length c0_1) := (blk_cell BK504.out 1).trans rfl
      have hcz7_2 : wr.cell? ⟨gb504, 2, none⟩ = some (.int .i64 a0_2) := (blk_cell BK504.out 2).trans rfl
      have hcz7_3 : wr.cell? ⟨gb504, 3, none⟩ = some (.int .u64 a0_3) := (blk_cell BK504.out 3).trans rfl
      have hcz7_4 : wr.cell? ⟨gb504, 4, none⟩ = some (.int .i64 a0_4) := (blk_cell BK504.out 4).trans rfl
      have hfz7_0 := blk_frozen BK504.out 0
      have hfz7_1 := blk_frozen BK504.out 1
      have hfz7_2 := blk_frozen BK504.out 2
      have hfz7_3 := blk_frozen BK504.out 3
      have hfz7_4 := blk_frozen BK504.out 4
      have p505 : 0 ≤ (x3_1 : Int) := of_decide_eq_true zs_
      have q505 : x3_1 < (l0_0.length : Int) := of_decide_eq_true zs_
      obtain ⟨ad505, A505_4, c505_4, e505, hx505_0, hx505_1, hx505_2, hx505_3, hx505_4, hl505_4, hi505_4⟩ := at_T32 HR0_0.out x3_1 p505 q505
      cases e505
      replace hx505_0 := (HB.out.cell (World.block_lt_of_cell? w _ hx505_0)).trans hx505_0
      replace hx505_1 := (HB.out.cell (World.block_lt_of_cell? w _ hx505_1)).trans hx505_1
      replace hx505_2 := (HB.out.cell (World.block_lt_of_cell? w _ hx505_2)).trans hx505_2
      replace hx505_3 := (HB.out.cell (World.block_lt_of_cell? w _ hx505_3)).trans hx505_3
      replace hx505_4 := (HB.out.cell (World.block_lt_of_cell? w _ hx505_4)).trans hx505_4
      have HR505_4 := Aside0.mk hi505_4
      have HC505_4 := Aside0.mk hl505_4
      clear hi505_4 hl505_4
      replace p505 := eq_true p505
      replace q505 := eq_true q505
      go_wp2_with (first | ((with_reducible refine gate_callee (f := 44) rfl ?_); refine goesL_ (some 17) rfl rfl Try.func44 (by kernel_rfl) rfl #[.agg #[.int .u64 ((rd_T32 l0_0 x3_1).f0.f0.f0), .int .i64 ((rd_T32 l0_0 x3_1).f0.f0.f1), .int .u64 ((rd_T32 l0_0 x3_1).f0.f1), .int .i64 ((rd_T32 l0_0 x3_1).f0.f2), .slice A505_4 ((rd_T32 l0_0 x3_1).f1).length c505_4]] rfl za_ ?_; (with_reducible refine (folkmootref15_Form.calls ((rd_T32 l0_0 x3_1).f0.f0.f0) ((rd_T32 l0_0 x3_1).f0.f0.f1) ((rd_T32 l0_0 x3_1).f0.f1) ((rd_T32 l0_0 x3_1).f0.f2) _ _ ((rd_T32 l0_0 x3_1).f1) true _ ?side1 ?side2 A5.out).mono ?_); (case side1 => exact zc_ HR505_4 HB); (case side2 => exact HC505_4.out); rintro e w8 ⟨rfl, hb⟩; refine ⟨_, rfl, ?_⟩; have n0_ := zk_ BK504 hb; have n1_ := Aside0.mk (below_step zb_ hb); clear BK504; clear HB; have BK504 := n0_; have HB := n1_; clear n0_ n1_; (try clear hb); (try clear hb2); (try clear hk); (try clear hi)))
      go_roundg k1
      case measure => have := HK1.out; omega
      case rel => exact ⟨(wrap64 (x3_1 + 1)), (by first | rfl | (simp; done) | (simp [*]; done)), H', ⟨by have := HK1.out; omega⟩, ⟨by (with_reducible repeat (first | refine blk_drewN ?_ _ | refine blk_drew ?_ | refine blk_alloc ?_ _)); exact BK504.out⟩, ⟨by repeat (first | (with_reducible first | exact HB.out | apply below_alloc | apply pw_below_drewN | apply below_drew1 | refine below_set ?_ GE504.out) | exact HB.out)⟩⟩
     ·
      replace c6 := Bool.eq_false_iff.mpr c6
      subst c6
      have H1 : (some false) = some r := by rw [if_neg (show ¬ (false = true) by decide)] at H; exact H
      clear H
      have H := H1
      clear H1
      obtain rfl := Option.some.inj H
      have hcz9_0 : wr.cell? ⟨gb504, 0, none⟩ = some (.slice A0_0 l0_0.length c0_0) := (blk_cell BK504.out 0).trans rfl
      have hcz9_1 : wr.cell? ⟨gb504, 1, none⟩ = some (.slice A0_1 l0_1.length c0_1) := (blk_cell BK504.out 1).trans rfl
      have hcz9_2 : wr.cell? ⟨gb504, 2, none⟩ = some (.int .i64 a0_2) := (blk_cell BK504.out 2).trans rfl
      have hcz9_3 : wr.cell? ⟨gb504, 3, none⟩ = some (.int .u64 a0_3) := (blk_cell BK504.out 3).trans rfl
      have hcz9_4 : wr.cell? ⟨gb504, 4, none⟩ = some (.int .i64 a0_4) := (blk_cell BK504.out 4).trans rfl
      have hfz9_0 := blk_frozen BK504.out 0
      have hfz9_1 := blk_frozen BK504.out 1
      have hfz9_2 := blk_frozen BK504.out 2
      have hfz9_3 := blk_frozen BK504.out 3
      have hfz9_4 := blk_frozen BK504.out 4
      have p505 : 0 ≤ (x3_1 : Int) := of_decide_eq_true zs_
      have q505 : x3_1 < (l0_0.length : Int) := of_decide_eq_true zs_
      obtain ⟨ad505, A505_4, c505_4, e505, hx505_0, hx505_1, hx505_2, hx505_3, hx505_4, hl505_4, hi505_4⟩ := at_T32 HR0_0.out x3_1 p505 q505
      cases e505
      replace hx505_0 := (HB.out.cell (World.block_lt_of_cell? w _ hx505_0)).trans hx505_0
      replace hx505_1 := (HB.out.cell (World.block_lt_of_cell? w _ hx505_1)).trans hx505_1
      replace hx505_2 := (HB.out.cell (World.block_lt_of_cell? w _ hx505_2)).trans hx505_2
      replace hx505_3 := (HB.out.cell (World.block_lt_of_cell? w _ hx505_3)).trans hx505_3
      replace hx505_4 := (HB.out.cell (World.block_lt_of_cell? w _ hx505_4)).trans hx505_4
      have HR505_4 := Aside0.mk hi505_4
      have HC505_4 := Aside0.mk hl505_4
      clear hi505_4 hl505_4
      replace p505 := eq_true p505
      replace q505 := eq_true q505
      go_wp2_with (first | ((with_reducible refine gate_callee (f := 44) rfl ?_); refine goesL_ (some 17) rfl rfl Try.func44 (by kernel_rfl) rfl #[.agg #[.int .u64 ((rd_T32 l0_0 x3_1).f0.f0.f0), .int .i64 ((rd_T32 l0_0 x3_1).f0.f0.f1), .int .u64 ((rd_T32 l0_0 x3_1).f0.f1), .int .i64 ((rd_T32 l0_0 x3_1).f0.f2), .slice A505_4 ((rd_T32 l0_0 x3_1).f1).length c505_4]] rfl za_ ?_; (with_reducible refine (folkmootref15_Form.calls ((rd_T32 l0_0 x3_1).f0.f0.f0) ((rd_T32 l0_0 x3_1).f0.f0.f1) ((rd_T32 l0_0 x3_1).f0.f1) ((rd_T32 l0_0 x3_1).f0.f2) _ _ ((rd_T32 l0_0 x3_1).f1) false _ ?side1 ?side2 A5.out).mono ?_); (case side1 => exact zc_ HR505_4 HB); (case side2 => exact HC505_4.out); rintro e w10 ⟨rfl, hb⟩; refine ⟨_, rfl, ?_⟩; have n0_ := zk_ BK504 hb; have n1_ := Aside0.mk (below_step zb_ hb); clear BK504; clear HB; have BK504 := n0_; have HB := n1_; clear n0_ n1_; (try clear hb); (try clear hb2); (try clear hk); (try clear hi)))
      go_ret
      exact ⟨by first | rfl | (simp [errW_none, errW_some] <;> rfl) | (simp [*, errW_none, errW_some] <;> rfl), by repeat (first | (with_reducible first | exact HB.out | apply below_alloc | apply pw_below_drewN | apply below_drew1 | refine below_set ?_ GE504.out) | exact HB.out)⟩
    ·
     rw [if_neg c4] at H
     exact absurd H (by simp)
   ·
    rw [if_neg c3] at H
    have c3b0 : decide (x3_1 < (l0_0.length : Int)) = false := decide_eq_false c3
    clear c3
    have H' := Aside0.mk H
    clear H
    have hcz11_0 : wr.cell? ⟨gb504, 0, none⟩ = some (.slice A0_0 l0_0.length c0_0) := (blk_cell BK504.out 0).trans rfl
    have hcz11_1 : wr.cell? ⟨gb504, 1, none⟩ = some (.slice A0_1 l0_1.length c0_1) := (blk_cell BK504.out 1).trans rfl
    have hcz11_2 : wr.cell? ⟨gb504, 2, none⟩ = some (.int .i64 a0_2) := (blk_cell BK504.out 2).trans rfl
    have hcz11_3 : wr.cell? ⟨gb504, 3, none⟩ = some (.int .u64 a0_3) := (blk_cell BK504.out 3).trans rfl
    have hcz11_4 : wr.cell? ⟨gb504, 4, none⟩ = some (.int .i64 a0_4) := (blk_cell BK504.out 4).trans rfl
    have hfz11_0 := blk_frozen BK504.out 0
    have hfz11_1 := blk_frozen BK504.out 1
    have hfz11_2 := blk_frozen BK504.out 2
    have hfz11_3 := blk_frozen BK504.out 3
    have hfz11_4 := blk_frozen BK504.out 4
    go_wp2
    go_loopg [4] k1 (fun kq v4 w' => ∃ (x4_2 : Int), v4 = .int .i64 x4_2 ∧ Aside0 (folkmootref15_Right.l1 kq x4_2 l0_0 l0_1 a0_2 a0_3 a0_4 = some r) ∧ Aside0 (kq ≤ k1) ∧ Aside0 (w'.heap[gb504]? = some (.cells #[(.slice A0_0 l0_0.length c0_0), (.slice A0_1 l0_1.length c0_1), .int .i64 a0_2, .int .u64 a0_3, .int .i64 a0_4] 53 (0, 0))) ∧ Aside0 (Below w.heap.size w w'))
    case atStart => exact ⟨(0), (by first | rfl | (simp; done) | (simp [*]; done)), H', ⟨Nat.le_refl _⟩, ⟨by (with_reducible repeat (first | refine blk_drewN ?_ _ | refine blk_drew ?_ | refine blk_alloc ?_ _)); exact BK504.out⟩, ⟨by repeat (first | (with_reducible first | exact HB.out | apply below_alloc | apply pw_below_drewN | apply below_drew1 | refine below_set ?_ GE504.out) | exact HB.out)⟩⟩
    case round =>
     clear H'
     try clear p2
     try clear c3
     try clear c3b0
     try clear c4
     try clear c4b0
     try clear c5
     try clear p5
     try clear q5
     try clear hx5
     try clear c6
     try clear p6
     try clear hcz11_0
     try clear hcz11_1
     try clear hcz11_2
     try clear hcz11_3
     try clear hcz11_4
     try clear hcz7_0
     try clear hcz7_1
     try clear hcz7_2
     try clear hcz7_3
     try clear hcz7_4
     try clear hcz9_0
     try clear hcz9_1
     try clear hcz9_2
     try clear hcz9_3
     try clear hcz9_4
     try clear hfz11_0
     try clear hfz11_1
     try clear hfz11_2
     try clear hfz11_3
     try clear hfz11_4
     try clear hfz7_0
     try clear hfz7_1
     try clear hfz7_2
     try clear hfz7_3
     try clear hfz7_4
     try clear hfz9_0
     try clear hfz9_1
     try clear hfz9_2
     try clear hfz9_3
     try clear hfz9_4
     try clear hx505_0
     try clear hx505_1
     try clear hx505_2
     try clear hx505_3
     try clear hx505_4
     try clear p2
     try clear p505
     try clear q505
     obtain ⟨x4_2, rfl, HA, HK2, BK504, HB⟩ := hrel
     cases gk with
     | zero => exact absurd HA.out (by simp [folkmootref15_Right.l1])
     | succ k2 =>
      have H := HA.out
      clear HA
      simp only [folkmootref15_Right.l1] at H
      by_cases c12 : x4_2 < (l0_1.length : Int)
      ·
       rw [if_pos c12] at H
       have c12b0 : decide (x4_2 < (l0_1.length : Int)) = true := decide_eq_true c12
       clear c12
       by_cases c13 : 0 ≤ x4_2
       ·
        rw [if_pos c13] at H
        have c13b0 : decide (0 ≤ x4_2) = true := decide_eq_true c13
        clear c13
        replace H := Option.bind_eq_some_iff.mp H
        obtain ⟨t510, A140, H⟩ := H
        replace H : (if t510 = true then (if x4_2 ≤ (l0_1.length : Int) then ((folkmootref05_In.f k2 (l0_1.take (x4_2 : Int).toNat) ((rd_T27 l0_1 x4_2).f0.f0) ((rd_T27 l0_1 x4_2).f0.f1) ((rd_T27 l0_1 x4_2).f1) ((rd_T27 l0_1 x4_2).f2)).bind fun t516 => (if t516 = true then (some false) else (folkmootref15_Right.l1 k2 (wrap64 (x4_2 + 1)) l0_0 l0_1 a0_2 a0_3 a0_4))) else (none)) else (some false)) = some r := H
        have A14 := Aside0.mk A140
        clear A140
        by_cases c15 : t510 = true
        ·
         subst c15
         have H1 : (if x4_2 ≤ (l0_1.length : Int) then ((folkmootref05_In.f k2 (l0_1.take (x4_2 : Int).toNat) ((rd_T27 l0_1 x4_2).f0.f0) ((rd_T27 l0_1 x4_2).f0.f1) ((rd_T27 l0_1 x4_2).f1) ((rd_T27 l0_1 x4_2).f2)).bind fun t516 => (if t516 = true then (some false) else (folkmootref15_Right.l1 k2 (wrap64 (x4_2 + 1)) l0_0 l0_1 a0_2 a0_3 a0_4))) else (none)) = some r := by rw [if_pos rfl] at H; exact H
         clear H
         have H := H1
         clear H1
         have c16b0 := eq_true (of_decide_eq_true zs_ : 0 ≤ x4_2)
         by_cases c17 : x4_2 ≤ (l0_1.length : Int)
         ·
          rw [if_pos c17] at H
          have c17b0 := eq_true c17
          have c17b1 : decide (x4_2 ≤ (l0_1.length : Int)) = true := decide_eq_true c17
          clear c17
          obtain ⟨y511, hy511⟩ : ∃ y_ : List (S27), y_ = (l0_1.take (x4_2 : Int).toNat) := ⟨_, rfl⟩
          replace H : ((folkmootref05_In.f k2 y511 ((rd_T27 l0_1 x4_2).f0.f0) ((rd_T27 l0_1 x4_2).f0.f1) ((rd_T27 l0_1 x4_2).f1) ((rd_T27 l0_1 x4_2).f2)).bind fun t516 => (if t516 = true then (some false) else (folkmootref15_Right.l1 k2 (wrap64 (x4_2 + 1)) l0_0 l0_1 a0_2 a0_3 a0_4))) = some r := by first | (rw [hy511]; with_reducible exact H) | (have H2_ := (Option.bind_some _ _).symm.trans H; rw [hy511]; with_reducible exact H2_) | (have H2_ := (Option.bind_some _ _).symm.trans H; with_reducible exact H2_) | with_reducible exact H | (rw [hy511]; exact H) | exact H
          have Ny511 := Aside0.mk hy511
          clear hy511
          replace H := Option.bind_eq_some_iff.mp H
          obtain ⟨t516, A180, H⟩ := H
          replace H : (if t516 = true then (some false) else (folkmootref15_Right.l1 k2 (wrap64 (x4_2 + 1)) l0_0 l0_1 a0_2 a0_3 a0_4)) = some r := H
          have A18 := Aside0.mk A180
          clear A180
          by_cases c19 : t516 = true
          ·
           subst c19
           have H1 : (some false) = some r := by rw [if_pos rfl] at H; exact H
           clear H
           have H := H1
           clear H1
           obtain rfl := Option.some.inj H
           have hcz20_0 : wr.cell? ⟨gb504, 0, none⟩ = some (.slice A0_0 l0_0.length c0_0) := (blk_cell BK504.out 0).trans rfl
           have hcz20_1 : wr.cell? ⟨gb504, 1, none⟩ = some (.slice A0_1 l0_1.length c0_1) := (blk_cell BK504.out 1).trans rfl
           have hcz20_2 : wr.cell? ⟨gb504, 2, none⟩ = some (.int .i64 a0_2) := (blk_cell BK504.out 2).trans rfl
           have hcz20_3 : wr.cell? ⟨gb504, 3, none⟩ = some (.int .u64 a0_3) := (blk_cell BK504.out 3).trans rfl
           have hcz20_4 : wr.cell? ⟨gb504, 4, none⟩ = some (.int .i64 a0_4) := (blk_cell BK504.out 4).trans rfl
           have hfz20_0 := blk_frozen BK504.out 0
           have hfz20_1 := blk_frozen BK504.out 1
           have hfz20_2 := blk_frozen BK504.out 2
           have hfz20_3 := blk_frozen BK504.out 3
           have hfz20_4 := blk_frozen BK504.out 4
           try go_wp2
           have n0_ := Aside0.mk (blk_drew BK504.out)
           have n1_ := Aside0.mk (below_drew1 HB.out)
           clear BK504
           clear HB
           have BK504 := n0_
           have HB := n1_
           clear n0_ n1_
           have p509 : 0 ≤ (x4_2 : Int) := of_decide_eq_true zs_
           have q509 : x4_2 < (l0_1.length : Int) := of_decide_eq_true zs_
           obtain ⟨ad509, e509, hx509_0, hx509_1, hx509_2, hx509_3⟩ := at_T27 HR0_1.out x4_2 p509 q509
           have hw509_3 := hx509_3
           have hw509_2 := hx509_2
           have hw509_1 := hx509_1
           have hw509_0 := hx509_0
           cases e509
           replace hx509_0 := (HB.out.cell (World.block_lt_of_cell? w _ hx509_0)).trans hx509_0
           replace hx509_1 := (HB.out.cell (World.block_lt_of_cell? w _ hx509_1)).trans hx509_1
           replace hx509_2 := (HB.out.cell (World.block_lt_of_cell? w _ hx509_2)).trans hx509_2
           replace hx509_3 := (HB.out.cell (World.block_lt_of_cell? w _ hx509_3)).trans hx509_3
           replace p509 := eq_true p509
           replace q509 := eq_true q509
           have p515 : 0 ≤ (x4_2 : Int) := of_decide_eq_true zs_
           have q515 : x4_2 < (l0_1.length : Int) := of_decide_eq_true zs_
           obtain ⟨ad515, e515, hx515_0, hx515_1, hx515_2, hx515_3⟩ := at_T27 HR0_1.out x4_2 p515 q515
           have hw515_3 := hx515_3
           have hw515_2 := hx515_2
           have hw515_1 := hx515_1
           have hw515_0 := hx515_0
           obtain rfl : ad509 = ad515 := (by injection e515)
           replace hx515_0 := (HB.out.cell (World.block_lt_of_cell? w _ hx515_0)).trans hx515_0
           replace hx515_1 := (HB.out.cell (World.block_lt_of_cell? w _ hx515_1)).trans hx515_1
           replace hx515_2 := (HB.out.cell (World.block_lt_of_cell? w _ hx515_2)).trans hx515_2
           replace hx515_3 := (HB.out.cell (World.block_lt_of_cell? w _ hx515_3)).trans hx515_3
           replace p515 := eq_true p515
           replace q515 := eq_true q515
           refine start_ (n := 19) (S := fun w' => w'.cell? ⟨gb504, 0, none⟩ = some (.slice A0_0 l0_0.length c0_0) ∧ w'.cell? ⟨gb504, 1, none⟩ = some (.slice (some ad509) l0_1.length c0_1) ∧ w'.cell? ⟨gb504, 2, none⟩ = some (.int .i64 a0_2) ∧ w'.cell? ⟨gb504, 3, none⟩ = some (.int .u64 a0_3) ∧ w'.cell? ⟨gb504, 4, none⟩ = some (.int .i64 a0_4) ∧ w'.cell? (ad509.add ((x4_2).toNat * 4)) = some (.int .u64 ((rd_T27 l0_1 x4_2).f0.f0)) ∧ w'.cell? ⟨(ad509.add ((x4_2).toNat * 4)).block, (ad509.add ((x4_2).toNat * 4)).off + 1, none⟩ = some (.int .i64 ((rd_T27 l0_1 x4_2).f0.f1)) ∧ w'.cell? ⟨(ad509.add ((x4_2).toNat * 4)).block, (ad509.add ((x4_2).toNat * 4)).off + 2, none⟩ = some (.int .u64 ((rd_T27 l0_1 x4_2).f1)) ∧ w'.cell? ⟨(ad509.add ((x4_2).toNat * 4)).block, (ad509.add ((x4_2).toNat * 4)).off + 3, none⟩ = some (.int .i64 ((rd_T27 l0_1 x4_2).f2)) ∧ w'.cell? (ad509.add ((x4_2).toNat * 4)) = some (.int .u64 ((rd_T27 l0_1 x4_2).f0.f0)) ∧ w'.cell? ⟨(ad509.add ((x4_2).toNat * 4)).block, (ad509.add ((x4_2).toNat * 4)).off + 1, none⟩ = some (.int .i64 ((rd_T27 l0_1 x4_2).f0.f1)) ∧ w'.cell? ⟨(ad509.add ((x4_2).toNat * 4)).block, (ad509.add ((x4_2).toNat * 4)).off + 2, none⟩ = some (.int .u64 ((rd_T27 l0_1 x4_2).f1)) ∧ w'.cell? ⟨(ad509.add ((x4_2).toNat * 4)).block, (ad509.add ((x4_2).toNat * 4)).off + 3, none⟩ = some (.int .i64 ((rd_T27 l0_1 x4_2).f2))) (ds := []) #[F_,F_,F_,F_,F_,F_,F_,F_,F_,F_,F_,F_,F_,F_,F_,F_,F_,F_,F_] (by kernel_rfl) rfl rfl ⟨(blk_cell BK504.out 0).trans rfl, (blk_cell BK504.out 1).trans rfl, (blk_cell BK504.out 2).trans rfl, (blk_cell BK504.out 3).trans rfl, (blk_cell BK504.out 4).trans rfl, ((HB.out.cell (World.block_lt_of_cell? w _ hw509_0)).trans hw509_0), ((HB.out.cell (World.block_lt_of_cell? w _ hw509_1)).trans hw509_1), ((HB.out.cell (World.block_lt_of_cell? w _ hw509_2)).trans hw509_2), ((HB.out.cell (World.block_lt_of_cell? w _ hw509_3)).trans hw509_3), ((HB.out.cell (World.block_lt_of_cell? w _ hw515_0)).trans hw515_0), ((HB.out.cell (World.block_lt_of_cell? w _ hw515_1)).trans hw515_1), ((HB.out.cell (World.block_lt_of_cell? w _ hw515_2)).trans hw515_2), ((HB.out.cell (World.block_lt_of_cell? w _ hw515_3)).trans hw515_3)⟩ (fun hHeld => ?_); refine with_tabW folkmootref15_Right.tab9 folkmootref15_Right.bits9 (fun HT_ HW_ => ?_)
           generalize wr.drew = w21 at BK504 HB hx509_0 hx509_1 hx509_2 hx509_3 hx515_0 hx515_1 hx515_2 hx515_3 hHeld ⊢
           refine pure_ (i := 0) (N := some 26) (v := ?_) (a' := ?_) #[T_,F_,F_,F_,F_,F_,F_,F_,F_,F_,F_,F_,F_,F_,F_,F_,F_,F_,F_] rfl rfl (any_of HT_.out (by kernel_rfl)) (fun _ _ _ h => h) (Or.inl ⟨by rfl, ?_⟩) ?_ ?_
           rotate_left
           ·
            intro w'; go_simp; with_reducible rfl
           rotate_left
           ·
            exact zp_
           refine pure_ (i := 2) (N := some 28) (v := ?_) (a' := ?_) #[T_,F_,T_,F_,F_,F_,F_,F_,F_,F_,F_,F_,F_,F_,F_,F_,F_,F_,F_] rfl rfl (any_of HT_.out (by kernel_rfl)) (fun _ _ _ h => h) (Or.inl ⟨by rfl, ?_⟩) ?_ ?_
           rotate_left
           ·
            intro w'; go_simp; with_reducible rfl
           rotate_left
           ·
            exact zp_
           refine take_ (i := 1) (N := some 27) (v := ?_) (a' := ?_) #[T_,T_,T_,F_,F_,F_,F_,F_,F_,F_,F_,F_,F_,F_,F_,F_,F_,F_,F_] rfl rfl (take_ofW HT_.out HW_.out (by kernel_rfl)) (fun _ _ _ h => h) (Or.inl ⟨by rfl, ?_⟩) hHeld ?_ ?_
           rotate_left
           ·
            rintro w' ⟨s0, s1, s2, s3, s4, s5, s6, s7, s8, s9, s10, s11, s12⟩
            go_simp
            with_reducible rfl
           rotate_left
           ·
            exact zp_
           refine pure_ (i := 3) (N := some 29) (v := ?_) (a' := ?_) #[T_,T_,T_,T_,F_,F_,F_,F_,F_,F_,F_,F_,F_,F_,F_,F_,F_,F_,F_] rfl rfl (any_of HT_.out (by kernel_rfl)) (fun _ _ _ h => h) (Or.inl ⟨by rfl, ?_⟩) ?_ ?_
           rotate_left
           ·
            intro w'; go_simp; with_reducible rfl
           rotate_left
           ·
            exact zp_
           refine take_ (i := 4) (N := some 30) (v := ?_) (a' := ?_) #[T_,T_,T_,T_,T_,F_,F_,F_,F_,F_,F_,F_,F_,F_,F_,F_,F_,F_,F_] rfl rfl (take_ofW HT_.out HW_.out (by kernel_rfl)) (fun _ _ _ h => h) (Or.inl ⟨by rfl, ?_⟩) hHeld ?_ ?_
           rotate_left
           ·
            rintro w' ⟨s0, s1, s2, s3, s4, s5, s6, s7, s8, s9, s10, s11, s12⟩
            go_simp
            with_reducible rfl
           rotate_left
           ·
            exact zp_
           refine one_ (i := 5) (N := some 31) #[T_,T_,T_,T_,T_,T_,F_,F_,F_,F_,F_,F_,F_,F_,F_,F_,F_,F_,F_] rfl rfl (one_of HT_.out (by kernel_rfl)) (by decide) (fun K hK => ?_)
           refine goes_ Try.func41 (by kernel_rfl) rfl #[.agg #[.int .u64 ((rd_T27 l0_1 x4_2).f0.f0), .int .i64 ((rd_T27 l0_1 x4_2).f0.f1), .int .u64 ((rd_T27 l0_1 x4_2).f1), .int .i64 ((rd_T27 l0_1 x4_2).f2)]] (by rfl) rfl rfl za_ ?_
           with_reducible refine (folkmootref05_Form.calls ((rd_T27 l0_1 x4_2).f0.f0) ((rd_T27 l0_1 x4_2).f0.f1) ((rd_T27 l0_1 x4_2).f1) ((rd_T27 l0_1 x4_2).f2) true _ A14.out).mono ?_
           rintro e w22 ⟨rfl, hb⟩
           refine ⟨_, rfl, ?_⟩
           have n0_ := zk_ BK504 hb
           have n1_ := Aside0.mk (below_step zb_ hb)
           clear BK504
           clear HB
           have BK504 := n0_
           have HB := n1_
           clear n0_ n1_
           (try clear hb)
           (try clear hb2)
           (try clear hk)
           (try clear hi)
           have q23 : (x4_2 : Int) ≤ ((l0_1.length : Int) : Int) := of_decide_eq_true zs_
           obtain ⟨i023, hi023, _, hsz23, _⟩ := info_parts info27
           have hroom23 : l0_1.length ≤ c0_1 := HC0_1.out
           have hC23 : Kd.C k27 _ (some ad509) l0_1.length l0_1 := HR0_1.out
           have hcut23 := cut_to (P := Try.prog) 41 27 .i64 Try.underlying41 hi023 (some ad509) l0_1.length c0_1 x4_2 (of_decide_eq_true zs_) q23 hroom23
           have hr23 := Kd.C_take (m := (x4_2 : Int).toNat) hC23 (by omega)
           have hy23 : y511.length = (x4_2 : Int).toNat := (by rw [Ny511.out, List.length_take]; omega)
           rw [← Ny511.out] at hr23
           rw [← hy23] at hcut23
           have HR514 := Aside0.mk hr23
           have HC514 := Aside0.mk (show y511.length ≤ c0_1 from by omega)
           clear hr23 hC23 hroom23 hi023 hsz23
           have KY23 := Aside0.mk hy23
           clear hy23
           replace q23 := eq_true q23
           refine hK.out _ _ ⟨(blk_cell BK504.out 0).trans rfl, (blk_cell BK504.out 1).trans rfl, (blk_cell BK504.out 2).trans rfl, (blk_cell BK504.out 3).trans rfl, (blk_cell BK504.out 4).trans rfl, ((HB.out.cell (World.block_lt_of_cell? w _ hw509_0)).trans hw509_0), ((HB.out.cell (World.block_lt_of_cell? w _ hw509_1)).trans hw509_1), ((HB.out.cell (World.block_lt_of_cell? w _ hw509_2)).trans hw509_2), ((HB.out.cell (World.block_lt_of_cell? w _ hw509_3)).trans hw509_3), ((HB.out.cell (World.block_lt_of_cell? w _ hw515_0)).trans hw515_0), ((HB.out.cell (World.block_lt_of_cell? w _ hw515_1)).trans hw515_1), ((HB.out.cell (World.block_lt_of_cell? w _ hw515_2)).trans hw515_2), ((HB.out.cell (World.block_lt_of_cell? w _ hw515_3)).trans hw515_3)⟩ (fun hHeld => ?_)
           clear hK K
           refine norm_ (a' := ?_) ?_ ?_
           rotate_left
           ·
            show Act.put _ (some 31) _ = _
            simp only [Act.put, List.setIfInBounds_toArray, List.set_cons_zero, List.set_cons_succ, i64_w, i32_w]
            rfl
           refine pure_ (i := 6) (N := some 32) (v := ?_) (a' := ?_) #[T_,T_,T_,T_,T_,T_,T_,F_,F_,F_,F_,F_,F_,F_,F_,F_,F_,F_,F_] rfl rfl (any_of HT_.out (by kernel_rfl)) (fun _ _ _ h => h) (Or.inl ⟨by rfl, ?_⟩) ?_ ?_
           rotate_left
           ·
            intro w'; go_simp; with_reducible rfl
           rotate_left
           ·
            exact zp_
           refine pure_ (i := 7) (N := some 33) (v := ?_) (a' := ?_) #[T_,T_,T_,T_,T_,T_,T_,T_,F_,F_,F_,F_,F_,F_,F_,F_,F_,F_,F_] rfl rfl (any_of HT_.out (by kernel_rfl)) (fun _ _ _ h => h) (Or.inl ⟨by rfl, ?_⟩) ?_ ?_
           rotate_left
           ·
            intro w'; go_simp; with_reducible rfl
           rotate_left
           ·
            exact zp_
           refine pure_ (i := 8) (N := some 34) (v := ?_) (a' := ?_) #[T_,T_,T_,T_,T_,T_,T_,T_,T_,F_,F_,F_,F_,F_,F_,F_,F_,F_,F_] rfl rfl (any_of HT_.out (by kernel_rfl)) (fun _ _ _ h => h) (Or.inl ⟨by rfl, ?_⟩) ?_ ?_
           rotate_left
           ·
            intro w'; go_simp; with_reducible rfl
           rotate_left
           ·
            exact zp_
           refine pure_ (i := 10) (N := some 36) (v := ?_) (a' := ?_) #[T_,T_,T_,T_,T_,T_,T_,T_,T_,F_,T_,F_,F_,F_,F_,F_,F_,F_,F_] rfl rfl (any_of HT_.out (by kernel_rfl)) (fun _ _ _ h => h) (Or.inl ⟨by rfl, ?_⟩) ?_ ?_
           rotate_left
           ·
            intro w'; go_simp; with_reducible rfl
           rotate_left
           ·
            exact zp_
           refine pure_ (i := 12) (N := some 38) (v := ?_) (a' := ?_) #[T_,T_,T_,T_,T_,T_,T_,T_,T_,F_,T_,F_,T_,F_,F_,F_,F_,F_,F_] rfl rfl (any_of HT_.out (by kernel_rfl)) (fun _ _ _ h => h) (Or.inl ⟨by rfl, ?_⟩) ?_ ?_
           rotate_left
           ·
            intro w'; go_simp; with_reducible rfl
           rotate_left
           ·
            exact zp_
           refine pure_ (i := 14) (N := some 40) (v := ?_) (a' := ?_) #[T_,T_,T_,T_,T_,T_,T_,T_,T_,F_,T_,F_,T_,F_,T_,F_,F_,F_,F_] rfl rfl (any_of HT_.out (by kernel_rfl)) (fun _ _ _ h => h) (Or.inl ⟨by rfl, ?_⟩) ?_ ?_
           rotate_left
           ·
            intro w'; go_simp; with_reducible rfl
           rotate_left
           ·
            exact zp_
           refine take_ (i := 9) (N := some 35) (v := ?_) (a' := ?_) #[T_,T_,T_,T_,T_,T_,T_,T_,T_,T_,T_,F_,T_,F_,T_,F_,F_,F_,F_] rfl rfl (take_ofW HT_.out HW_.out (by kernel_rfl)) (fun _ _ _ h => h) (Or.inl ⟨by rfl, ?_⟩) hHeld ?_ ?_
           rotate_left
           ·
            rintro w' ⟨s0, s1, s2, s3, s4, s5, s6, s7, s8, s9, s10, s11, s12⟩
            go_simp
            with_reducible rfl
           rotate_left
           ·
            exact zp_
           refine pure_ (i := 11) (N := some 37) (v := ?_) (a' := ?_) #[T_,T_,T_,T_,T_,T_,T_,T_,T_,T_,T_,T_,T_,F_,T_,F_,F_,F_,F_] rfl rfl (any_of HT_.out (by kernel_rfl)) (fun _ _ _ h => h) (Or.inl ⟨by rfl, ?_⟩) ?_ ?_
           rotate_left
           ·
            intro w'; go_simp; with_reducible rfl
           rotate_left
           ·
            exact zp_
           refine take_ (i := 13) (N := some 39) (v := ?_) (a' := ?_) #[T_,T_,T_,T_,T_,T_,T_,T_,T_,T_,T_,T_,T_,T_,T_,F_,F_,F_,F_] rfl rfl (take_ofW HT_.out HW_.out (by kernel_rfl)) (fun _ _ _ h => h) (Or.inl ⟨by rfl, ?_⟩) hHeld ?_ ?_
           rotate_left
           ·
            rintro w' ⟨s0, s1, s2, s3, s4, s5, s6, s7, s8, s9, s10, s11, s12⟩
            go_simp
            with_reducible rfl
           rotate_left
           ·
            exact zp_
           refine pure_ (i := 15) (N := some 41) (v := ?_) (a' := ?_) #[T_,T_,T_,T_,T_,T_,T_,T_,T_,T_,T_,T_,T_,T_,T_,T_,F_,F_,F_] rfl rfl (any_of HT_.out (by kernel_rfl)) (fun _ _ _ h => h) (Or.inl ⟨by rfl, ?_⟩) ?_ ?_
           rotate_left
           ·
            intro w'; go_simp; with_reducible rfl
           rotate_left
           ·
            exact zp_
           refine take_ (i := 16) (N := some 42) (v := ?_) (a' := ?_) #[T_,T_,T_,T_,T_,T_,T_,T_,T_,T_,T_,T_,T_,T_,T_,T_,T_,F_,F_] rfl rfl (take_ofW HT_.out HW_.out (by kernel_rfl)) (fun _ _ _ h => h) (Or.inl ⟨by rfl, ?_⟩) hHeld ?_ ?_
           rotate_left
           ·
            rintro w' ⟨s0, s1, s2, s3, s4, s5, s6, s7, s8, s9, s10, s11, s12⟩
            go_simp
            with_reducible rfl
           rotate_left
           ·
            exact zp_
           refine one_ (i := 17) (N := some 43) #[T_,T_,T_,T_,T_,T_,T_,T_,T_,T_,T_,T_,T_,T_,T_,T_,T_,T_,F_] rfl rfl (one_of HT_.out (by kernel_rfl)) (by decide) (fun K hK => ?_)
           refine goes_ Try.func36 (by kernel_rfl) rfl #[.slice (some ad509) y511.length c0_1, .agg #[.int .u64 ((rd_T27 l0_1 x4_2).f0.f0), .int .i64 ((rd_T27 l0_1 x4_2).f0.f1), .int .u64 ((rd_T27 l0_1 x4_2).f1), .int .i64 ((rd_T27 l0_1 x4_2).f2)]] (by rfl) rfl rfl za_ ?_
           with_reducible refine (folkmootref05_In.calls k2 _ _ y511 ((rd_T27 l0_1 x4_2).f0.f0) ((rd_T27 l0_1 x4_2).f0.f1) ((rd_T27 l0_1 x4_2).f1) ((rd_T27 l0_1 x4_2).f2) true _ ?side1 ?side2 A18.out).mono ?_
           (case side1 => exact zc_ HR514 HB)
           (case side2 => exact HC514.out)
           rintro e w24 ⟨rfl, hb⟩
           refine ⟨_, rfl, ?_⟩
           have n0_ := zk_ BK504 hb
           have n1_ := Aside0.mk (below_step zb_ hb)
           clear BK504
           clear HB
           have BK504 := n0_
           have HB := n1_
           clear n0_ n1_
           (try clear hb)
           (try clear hb2)
           (try clear hk)
           (try clear hi)
           refine hK.out _ _ ⟨(blk_cell BK504.out 0).trans rfl, (blk_cell BK504.out 1).trans rfl, (blk_cell BK504.out 2).trans rfl, (blk_cell BK504.out 3).trans rfl, (blk_cell BK504.out 4).trans rfl, ((HB.out.cell (World.block_lt_of_cell? w _ hw509_0)).trans hw509_0), ((HB.out.cell (World.block_lt_of_cell? w _ hw509_1)).trans hw509_1), ((HB.out.cell (World.block_lt_of_cell? w _ hw509_2)).trans hw509_2), ((HB.out.cell (World.block_lt_of_cell? w _ hw509_3)).trans hw509_3), ((HB.out.cell (World.block_lt_of_cell? w _ hw515_0)).trans hw515_0), ((HB.out.cell (World.block_lt_of_cell? w _ hw515_1)).trans hw515_1), ((HB.out.cell (World.block_lt_of_cell? w _ hw515_2)).trans hw515_2), ((HB.out.cell (World.block_lt_of_cell? w _ hw515_3)).trans hw515_3)⟩ (fun hHeld => ?_)
           clear hK K
           refine norm_ (a' := ?_) ?_ ?_
           rotate_left
           ·
            show Act.put _ (some 43) _ = _
            simp only [Act.put, List.setIfInBounds_toArray, List.set_cons_zero, List.set_cons_succ, i64_w, i32_w]
            rfl
           refine pure_ (i := 18) (N := some 44) (v := ?_) (a' := ?_) #[T_,T_,T_,T_,T_,T_,T_,T_,T_,T_,T_,T_,T_,T_,T_,T_,T_,T_,T_] rfl rfl (any_of HT_.out (by kernel_rfl)) (fun _ _ _ h => h) (Or.inl ⟨by rfl, ?_⟩) ?_ ?_
           rotate_left
           ·
            intro w'; go_simp; with_reducible rfl
           rotate_left
           ·
            exact zp_
           refine done_ (done_of HT_.out (by kernel_rfl)) ?_
           (try clear hHeld); (try clear HS0_)
           try go_wp2
           go_ret
           exact ⟨by first | rfl | (simp [errW_none, errW_some] <;> rfl) | (simp [*, errW_none, errW_some] <;> rfl), by repeat (first | (with_reducible first | exact HB.out | apply below_alloc | apply pw_below_drewN | apply below_drew1 | refine below_set ?_ GE504.out) | exact HB.out)⟩
          ·
           replace c19 := Bool.eq_false_iff.mpr c19
           subst c19
           have H1 : (folkmootref15_Right.l1 k2 (wrap64 (x4_2 + 1)) l0_0 l0_1 a0_2 a0_3 a0_4) = some r := by rw [if_neg (show ¬ (false = true) by decide)] at H; exact H
           clear H
           have H := H1
           clear H1
           have H' := Aside0.mk H
           clear H
           have hcz25_0 : wr.cell? ⟨gb504, 0, none⟩ = some (.slice A0_0 l0_0.length c0_0) := (blk_cell BK504.out 0).trans rfl
           have hcz25_1 : wr.cell? ⟨gb504, 1, none⟩ = some (.slice A0_1 l0_1.length c0_1) := (blk_cell BK504.out 1).trans rfl
           have hcz25_2 : wr.cell? ⟨gb504, 2, none⟩ = some (.int .i64 a0_2) := (blk_cell BK504.out 2).trans rfl
           have hcz25_3 : wr.cell? ⟨gb504, 3, none⟩ = some (.int .u64 a0_3) := (blk_cell BK504.out 3).trans rfl
           have hcz25_4 : wr.cell? ⟨gb504, 4, none⟩ = some (.int .i64 a0_4) := (blk_cell BK504.out 4).trans rfl
           have hfz25_0 := blk_frozen BK504.out 0
           have hfz25_1 := blk_frozen BK504.out 1
           have hfz25_2 := blk_frozen BK504.out 2
           have hfz25_3 := blk_frozen BK504.out 3
           have hfz25_4 := blk_frozen BK504.out 4
           try go_wp2
           have n0_ := Aside0.mk (blk_drew BK504.out)
           have n1_ := Aside0.mk (below_drew1 HB.out)
           clear BK504
           clear HB
           have BK504 := n0_
           have HB := n1_
           clear n0_ n1_
           have p509 : 0 ≤ (x4_2 : Int) := of_decide_eq_true zs_
           have q509 : x4_2 < (l0_1.length : Int) := of_decide_eq_true zs_
           obtain ⟨ad509, e509, hx509_0, hx509_1, hx509_2, hx509_3⟩ := at_T27 HR0_1.out x4_2 p509 q509
           have hw509_3 := hx509_3
           have hw509_2 := hx509_2
           have hw509_1 := hx509_1
           have hw509_0 := hx509_0
           cases e509
           replace hx509_0 := (HB.out.cell (World.block_lt_of_cell? w _ hx509_0)).trans hx509_0
           replace hx509_1 := (HB.out.cell (World.block_lt_of_cell? w _ hx509_1)).trans hx509_1
           replace hx509_2 := (HB.out.cell (World.block_lt_of_cell? w _ hx509_2)).trans hx509_2
           replace hx509_3 := (HB.out.cell (World.block_lt_of_cell? w _ hx509_3)).trans hx509_3
           replace p509 := eq_true p509
           replace q509 := eq_true q509
           have p515 : 0 ≤ (x4_2 : Int) := of_decide_eq_true zs_
           have q515 : x4_2 < (l0_1.length : Int) := of_decide_eq_true zs_
           obtain ⟨ad515, e515, hx515_0, hx515_1, hx515_2, hx515_3⟩ := at_T27 HR0_1.out x4_2 p515 q515
           have hw515_3 := hx515_3
           have hw515_2 := hx515_2
           have hw515_1 := hx515_1
           have hw515_0 := hx515_0
           obtain rfl : ad509 = ad515 := (by injection e515)
           replace hx515_0 := (HB.out.cell (World.block_lt_of_cell? w _ hx515_0)).trans hx515_0
           replace hx515_1 := (HB.out.cell (World.block_lt_of_cell? w _ hx515_1)).trans hx515_1
           replace hx515_2 := (HB.out.cell (World.block_lt_of_cell? w _ hx515_2)).trans hx515_2
           replace hx515_3 := (HB.out.cell (World.block_lt_of_cell? w _ hx515_3)).trans hx515_3
           replace p515 := eq_true p515
           replace q515 := eq_true q515
           refine start_ (n := 19) (S := fun w' => w'.cell? ⟨gb504, 0, none⟩ = some (.slice A0_0 l0_0.length c0_0) ∧ w'.cell? ⟨gb504, 1, none⟩ = some (.slice (some ad509) l0_1.length c0_1) ∧ w'.cell? ⟨gb504, 2, none⟩ = some (.int .i64 a0_2) ∧ w'.cell? ⟨gb504, 3, none⟩ = some (.int .u64 a0_3) ∧ w'.cell? ⟨gb504, 4, none⟩ = some (.int .i64 a0_4) ∧ w'.cell? (ad509.add ((x4_2).toNat * 4)) = some (.int .u64 ((rd_T27 l0_1 x4_2).f0.f0)) ∧ w'.cell? ⟨(ad509.add ((x4_2).toNat * 4)).block, (ad509.add ((x4_2).toNat * 4)).off + 1, none⟩ = some (.int .i64 ((rd_T27 l0_1 x4_2).f0.f1)) ∧ w'.cell? ⟨(ad509.add ((x4_2).toNat * 4)).block, (ad509.add ((x4_2).toNat * 4)).off + 2, none⟩ = some (.int .u64 ((rd_T27 l0_1 x4_2).f1)) ∧ w'.cell? ⟨(ad509.add ((x4_2).toNat * 4)).block, (ad509.add ((x4_2).toNat * 4)).off + 3, none⟩ = some (.int .i64 ((rd_T27 l0_1 x4_2).f2)) ∧ w'.cell? (ad509.add ((x4_2).toNat * 4)) = some (.int .u64 ((rd_T27 l0_1 x4_2).f0.f0)) ∧ w'.cell? ⟨(ad509.add ((x4_2).toNat * 4)).block, (ad509.add ((x4_2).toNat * 4)).off + 1, none⟩ = some (.int .i64 ((rd_T27 l0_1 x4_2).f0.f1)) ∧ w'.cell? ⟨(ad509.add ((x4_2).toNat * 4)).block, (ad509.add ((x4_2).toNat * 4)).off + 2, none⟩ = some (.int .u64 ((rd_T27 l0_1 x4_2).f1)) ∧ w'.cell? ⟨(ad509.add ((x4_2).toNat * 4)).block, (ad509.add ((x4_2).toNat * 4)).off + 3, none⟩ = some (.int .i64 ((rd_T27 l0_1 x4_2).f2))) (ds := []) #[F_,F_,F_,F_,F_,F_,F_,F_,F_,F_,F_,F_,F_,F_,F_,F_,F_,F_,F_] (by kernel_rfl) rfl rfl ⟨(blk_cell BK504.out 0).trans rfl, (blk_cell BK504.out 1).trans rfl, (blk_cell BK504.out 2).trans rfl, (blk_cell BK504.out 3).trans rfl, (blk_cell BK504.out 4).trans rfl, ((HB.out.cell (World.block_lt_of_cell? w _ hw509_0)).trans hw509_0), ((HB.out.cell (World.block_lt_of_cell? w _ hw509_1)).trans hw509_1), ((HB.out.cell (World.block_lt_of_cell? w _ hw509_2)).trans hw509_2), ((HB.out.cell (World.block_lt_of_cell? w _ hw509_3)).trans hw509_3), ((HB.out.cell (World.block_lt_of_cell? w _ hw515_0)).trans hw515_0), ((HB.out.cell (World.block_lt_of_cell? w _ hw515_1)).trans hw515_1), ((HB.out.cell (World.block_lt_of_cell? w _ hw515_2)).trans hw515_2), ((HB.out.cell (World.block_lt_of_cell? w _ hw515_3)).trans hw515_3)⟩ (fun hHeld => ?_); refine with_tabW folkmootref15_Right.tab9 folkmootref15_Right.bits9 (fun HT_ HW_ => ?_)
           generalize wr.drew = w26 at BK504 HB hx509_0 hx509_1 hx509_2 hx509_3 hx515_0 hx515_1 hx515_2 hx515_3 hHeld ⊢
           refine pure_ (i := 0) (N := some 26) (v := ?_) (a' := ?_) #[T_,F_,F_,F_,F_,F_,F_,F_,F_,F_,F_,F_,F_,F_,F_,F_,F_,F_,F_] rfl rfl (any_of HT_.out (by kernel_rfl)) (fun _ _ _ h => h) (Or.inl ⟨by rfl, ?_⟩) ?_ ?_
           rotate_left
           ·
            intro w'; go_simp; with_reducible rfl
           rotate_left
           ·
            exact zp_
           refine pure_ (i := 2) (N := some 28) (v := ?_) (a' := ?_) #[T_,F_,T_,F_,F_,F_,F_,F_,F_,F_,F_,F_,F_,F_,F_,F_,F_,F_,F_] rfl rfl (any_of HT_.out (by kernel_rfl)) (fun _ _ _ h => h) (Or.inl ⟨by rfl, ?_⟩) ?_ ?_
           rotate_left
           ·
            intro w'; go_simp; with_reducible rfl
           rotate_left
           ·
            exact zp_
           refine take_ (i := 1) (N := some 27) (v := ?_) (a' := ?_) #[T_,T_,T_,F_,F_,F_,F_,F_,F_,F_,F_,F_,F_,F_,F_,F_,F_,F_,F_] rfl rfl (take_ofW HT_.out HW_.out (by kernel_rfl)) (fun _ _ _ h => h) (Or.inl ⟨by rfl, ?_⟩) hHeld ?_ ?_
           rotate_left
           ·
            rintro w' ⟨s0, s1, s2, s3, s4, s5, s6, s7, s8, s9, s10, s11, s12⟩
            go_simp
            with_reducible rfl
           rotate_left
           ·
            exact zp_
           refine pure_ (i := 3) (N := some 29) (v := ?_) (a' := ?_) #[T_,T_,T_,T_,F_,F_,F_,F_,F_,F_,F_,F_,F_,F_,F_,F_,F_,F_,F_] rfl rfl (any_of HT_.out (by kernel_rfl)) (fun _ _ _ h => h) (Or.inl ⟨by rfl, ?_⟩) ?_ ?_
           rotate_left
           ·
            intro w'; go_simp; with_reducible rfl
           rotate_left
           ·
            exact zp_
           refine take_ (i := 4) (N := some 30) (v := ?_) (a' := ?_) #[T_,T_,T_,T_,T_,F_,F_,F_,F_,F_,F_,F_,F_,F_,F_,F_,F_,F_,F_] rfl rfl (take_ofW HT_.out HW_.out (by kernel_rfl)) (fun _ _ _ h => h) (Or.inl ⟨by rfl, ?_⟩) hHeld ?_ ?_
           rotate_left
           ·
            rintro w' ⟨s0, s1, s2, s3, s4, s5, s6, s7, s8, s9, s10, s11, s12⟩
            go_simp
            with_reducible rfl
           rotate_left
           ·
            exact zp_
           refine one_ (i := 5) (N := some 31) #[T_,T_,T_,T_,T_,T_,F_,F_,F_,F_,F_,F_,F_,F_,F_,F_,F_,F_,F_] rfl rfl (one_of HT_.out (by kernel_rfl)) (by decide) (fun K hK => ?_)
           refine goes_ Try.func41 (by kernel_rfl) rfl #[.agg #[.int .u64 ((rd_T27 l0_1 x4_2).f0.f0), .int .i64 ((rd_T27 l0_1 x4_2).f0.f1), .int .u64 ((rd_T27 l0_1 x4_2).f1), .int .i64 ((rd_T27 l0_1 x4_2).f2)]] (by rfl) rfl rfl za_ ?_
           with_reducible refine (folkmootref05_Form.calls ((rd_T27 l0_1 x4_2).f0.f0) ((rd_T27 l0_1 x4_2).f0.f1) ((rd_T27 l0_1 x4_2).f1) ((rd_T27 l0_1 x4_2).f2) true _ A14.out).mono ?_
           rintro e w27 ⟨rfl, hb⟩
           refine ⟨_, rfl, ?_⟩
           have n0_ := zk_ BK504 hb
           have n1_ := Aside0.mk (below_step zb_ hb)
           clear BK504
           clear HB
           have BK504 := n0_
           have HB := n1_
           clear n0_ n1_
           (try clear hb)
           (try clear hb2)
           (try clear hk)
           (try clear hi)
           have q28 : (x4_2 : Int) ≤ ((l0_1.length : Int) : Int) := of_decide_eq_true zs_
           obtain ⟨i028, hi028, _, hsz28, _⟩ := info_parts info27
           have hroom28 : l0_1.length ≤ c0_1 := HC0_1.out
           have hC28 : Kd.C k27 _ (some ad509) l0_1.length l0_1 := HR0_1.out
           have hcut28 := cut_to (P := Try.prog) 41 27 .i64 Try.underlying41 hi028 (some ad509) l0_1.length c0_1 x4_2 (of_decide_eq_true zs_) q28 hroom28
           have hr28 := Kd.C_take (m := (x4_2 : Int).toNat) hC28 (by omega)
           have hy28 : y511.length = (x4_2 : Int).toNat := (by rw [Ny511.out, List.length_take]; omega)
           rw [← Ny511.out] at hr28
           rw [← hy28] at hcut28
           have HR514 := Aside0.mk hr28
           have HC514 := Aside0.mk (show y511.length ≤ c0_1 from by omega)
           clear hr28 hC28 hroom28 hi028 hsz28
           have KY28 := Aside0.mk hy28
           clear hy28
           replace q28 := eq_true q28
           refine hK.out _ _ ⟨(blk_cell BK504.out 0).trans rfl, (blk_cell BK504.out 1).trans rfl, (blk_cell BK504.out 2).trans rfl, (blk_cell BK504.out 3).trans rfl, (blk_cell BK504.out 4).trans rfl, ((HB.out.cell (World.block_lt_of_cell? w _ hw509_0)).trans hw509_0), ((HB.out.cell (World.block_lt_of_cell? w _ hw509_1)).trans hw509_1), ((HB.out.cell (World.block_lt_of_cell? w _ hw509_2)).trans hw509_2), ((HB.out.cell (World.block_lt_of_cell? w _ hw509_3)).trans hw509_3), ((HB.out.cell (World.block_lt_of_cell? w _ hw515_0)).trans hw515_0), ((HB.out.cell (World.block_lt_of_cell? w _ hw515_1)).trans hw515_1), ((HB.out.cell (World.block_lt_of_cell? w _ hw515_2)).trans hw515_2), ((HB.out.cell (World.block_lt_of_cell? w _ hw515_3)).trans hw515_3)⟩ (fun hHeld => ?_)
           clear hK K
           refine norm_ (a' := ?_) ?_ ?_
           rotate_left
           ·
            show Act.put _ (some 31) _ = _
            simp only [Act.put, List.setIfInBounds_toArray, List.set_cons_zero, List.set_cons_succ, i64_w, i32_w]
            rfl
           refine pure_ (i := 6) (N := some 32) (v := ?_) (a' := ?_) #[T_,T_,T_,T_,T_,T_,T_,F_,F_,F_,F_,F_,F_,F_,F_,F_,F_,F_,F_] rfl rfl (any_of HT_.out (by kernel_rfl)) (fun _ _ _ h => h) (Or.inl ⟨by rfl, ?_⟩) ?_ ?_
           rotate_left
           ·
            intro w'; go_simp; with_reducible rfl
           rotate_left
           ·
            exact zp_
           refine pure_ (i := 7) (N := some 33) (v := ?_) (a' := ?_) #[T_,T_,T_,T_,T_,T_,T_,T_,F_,F_,F_,F_,F_,F_,F_,F_,F_,F_,F_] rfl rfl (any_of HT_.out (by kernel_rfl)) (fun _ _ _ h => h) (Or.inl ⟨by rfl, ?_⟩) ?_ ?_
           rotate_left
           ·
            intro w'; go_simp; with_reducible rfl
           rotate_left
           ·
            exact zp_
           refine pure_ (i := 8) (N := some 34) (v := ?_) (a' := ?_) #[T_,T_,T_,T_,T_,T_,T_,T_,T_,F_,F_,F_,F_,F_,F_,F_,F_,F_,F_] rfl rfl (any_of HT_.out (by kernel_rfl)) (fun _ _ _ h => h) (Or.inl ⟨by rfl, ?_⟩) ?_ ?_
           rotate_left
           ·
            intro w'; go_simp; with_reducible rfl
           rotate_left
           ·
            exact zp_
           refine pure_ (i := 10) (N := some 36) (v := ?_) (a' := ?_) #[T_,T_,T_,T_,T_,T_,T_,T_,T_,F_,T_,F_,F_,F_,F_,F_,F_,F_,F_] rfl rfl (any_of HT_.out (by kernel_rfl)) (fun _ _ _ h => h) (Or.inl ⟨by rfl, ?_⟩) ?_ ?_
           rotate_left
           ·
            intro w'; go_simp; with_reducible rfl
           rotate_left
           ·
            exact zp_
           refine pure_ (i := 12) (N := some 38) (v := ?_) (a' := ?_) #[T_,T_,T_,T_,T_,T_,T_,T_,T_,F_,T_,F_,T_,F_,F_,F_,F_,F_,F_] rfl rfl (any_of HT_.out (by kernel_rfl)) (fun _ _ _ h => h) (Or.inl ⟨by rfl, ?_⟩) ?_ ?_
           rotate_left
           ·
            intro w'; go_simp; with_reducible rfl
           rotate_left
           ·
            exact zp_
           refine pure_ (i := 14) (N := some 40) (v := ?_) (a' := ?_) #[T_,T_,T_,T_,T_,T_,T_,T_,T_,F_,T_,F_,T_,F_,T_,F_,F_,F_,F_] rfl rfl (any_of HT_.out (by kernel_rfl)) (fun _ _ _ h => h) (Or.inl ⟨by rfl, ?_⟩) ?_ ?_
           rotate_left
           ·
            intro w'; go_simp; with_reducible rfl
           rotate_left
           ·
            exact zp_
           refine take_ (i := 9) (N := some 35) (v := ?_) (a' := ?_) #[T_,T_,T_,T_,T_,T_,T_,T_,T_,T_,T_,F_,T_,F_,T_,F_,F_,F_,F_] rfl rfl (take_ofW HT_.out HW_.out (by kernel_rfl)) (fun _ _ _ h => h) (Or.inl ⟨by rfl, ?_⟩) hHeld ?_ ?_
           rotate_left
           ·
            rintro w' ⟨s0, s1, s2, s3, s4, s5, s6, s7, s8, s9, s10, s11, s12⟩
            go_simp
            with_reducible rfl
           rotate_left
           ·
            exact zp_
           refine pure_ (i := 11) (N := some 37) (v := ?_) (a' := ?_) #[T_,T_,T_,T_,T_,T_,T_,T_,T_,T_,T_,T_,T_,F_,T_,F_,F_,F_,F_] rfl rfl (any_of HT_.out (by kernel_rfl)) (fun _ _ _ h => h) (Or.inl ⟨by rfl, ?_⟩) ?_ ?_
           rotate_left
           ·
            intro w'; go_simp; with_reducible rfl
           rotate_left
           ·
            exact zp_
           refine take_ (i := 13) (N := some 39) (v := ?_) (a' := ?_) #[T_,T_,T_,T_,T_,T_,T_,T_,T_,T_,T_,T_,T_,T_,T_,F_,F_,F_,F_] rfl rfl (take_ofW HT_.out HW_.out (by kernel_rfl)) (fun _ _ _ h => h) (Or.inl ⟨by rfl, ?_⟩) hHeld ?_ ?_
           rotate_left
           ·
            rintro w' ⟨s0, s1, s2, s3, s4, s5, s6, s7, s8, s9, s10, s11, s12⟩
            go_simp
            with_reducible rfl
           rotate_left
           ·
            exact zp_
           refine pure_ (i := 15) (N := some 41) (v := ?_) (a' := ?_) #[T_,T_,T_,T_,T_,T_,T_,T_,T_,T_,T_,T_,T_,T_,T_,T_,F_,F_,F_] rfl rfl (any_of HT_.out (by kernel_rfl)) (fun _ _ _ h => h) (Or.inl ⟨by rfl, ?_⟩) ?_ ?_
           rotate_left
           ·
            intro w'; go_simp; with_reducible rfl
           rotate_left
           ·
            exact zp_
           refine take_ (i := 16) (N := some 42) (v := ?_) (a' := ?_) #[T_,T_,T_,T_,T_,T_,T_,T_,T_,T_,T_,T_,T_,T_,T_,T_,T_,F_,F_] rfl rfl (take_ofW HT_.out HW_.out (by kernel_rfl)) (fun _ _ _ h => h) (Or.inl ⟨by rfl, ?_⟩) hHeld ?_ ?_
           rotate_left
           ·
            rintro w' ⟨s0, s1, s2, s3, s4, s5, s6, s7, s8, s9, s10, s11, s12⟩
            go_simp
            with_reducible rfl
           rotate_left
           ·
            exact zp_
           refine one_ (i := 17) (N := some 43) #[T_,T_,T_,T_,T_,T_,T_,T_,T_,T_,T_,T_,T_,T_,T_,T_,T_,T_,F_] rfl rfl (one_of HT_.out (by kernel_rfl)) (by decide) (fun K hK => ?_)
           refine goes_ Try.func36 (by kernel_rfl) rfl #[.slice (some ad509) y511.length c0_1, .agg #[.int .u64 ((rd_T27 l0_1 x4_2).f0.f0), .int .i64 ((rd_T27 l0_1 x4_2).f0.f1), .int .u64 ((rd_T27 l0_1 x4_2).f1), .int .i64 ((rd_T27 l0_1 x4_2).f2)]] (by rfl) rfl rfl za_ ?_
           with_reducible refine (folkmootref05_In.calls k2 _ _ y511 ((rd_T27 l0_1 x4_2).f0.f0) ((rd_T27 l0_1 x4_2).f0.f1) ((rd_T27 l0_1 x4_2).f1) ((rd_T27 l0_1 x4_2).f2) false _ ?side1 ?side2 A18.out).mono ?_
           (case side1 => exact zc_ HR514 HB)
           (case side2 => exact HC514.out)
           rintro e w29 ⟨rfl, hb⟩
           refine ⟨_, rfl, ?_⟩
           have n0_ := zk_ BK504 hb
           have n1_ := Aside0.mk (below_step zb_ hb)
           clear BK504
           clear HB
           have BK504 := n0_
           have HB := n1_
           clear n0_ n1_
           (try clear hb)
           (try clear hb2)
           (try clear hk)
           (try clear hi)
           refine hK.out _ _ ⟨(blk_cell BK504.out 0).trans rfl, (blk_cell BK504.out 1).trans rfl, (blk_cell BK504.out 2).trans rfl, (blk_cell BK504.out 3).trans rfl, (blk_cell BK504.out 4).trans rfl, ((HB.out.cell (World.block_lt_of_cell? w _ hw509_0)).trans hw509_0), ((HB.out.cell (World.block_lt_of_cell? w _ hw509_1)).trans hw509_1), ((HB.out.cell (World.block_lt_of_cell? w _ hw509_2)).trans hw509_2), ((HB.out.cell (World.block_lt_of_cell? w _ hw509_3)).trans hw509_3), ((HB.out.cell (World.block_lt_of_cell? w _ hw515_0)).trans hw515_0), ((HB.out.cell (World.block_lt_of_cell? w _ hw515_1)).trans hw515_1), ((HB.out.cell (World.block_lt_of_cell? w _ hw515_2)).trans hw515_2), ((HB.out.cell (World.block_lt_of_cell? w _ hw515_3)).trans hw515_3)⟩ (fun hHeld => ?_)
           clear hK K
           refine norm_ (a' := ?_) ?_ ?_
           rotate_left
           ·
            show Act.put _ (some 43) _ = _
            simp only [Act.put, List.setIfInBounds_toArray, List.set_cons_zero, List.set_cons_succ, i64_w, i32_w]
            rfl
           refine pure_ (i := 18) (N := some 44) (v := ?_) (a' := ?_) #[T_,T_,T_,T_,T_,T_,T_,T_,T_,T_,T_,T_,T_,T_,T_,T_,T_,T_,T_] rfl rfl (any_of HT_.out (by kernel_rfl)) (fun _ _ _ h => h) (Or.inl ⟨by rfl, ?_⟩) ?_ ?_
           rotate_left
           ·
            intro w'; go_simp; with_reducible rfl
           rotate_left
           ·
            exact zp_
           refine done_ (done_of HT_.out (by kernel_rfl)) ?_
           (try clear hHeld); (try clear HS0_)
           try go_wp2
           go_roundg k2
           case measure => have := HK1.out; have := HK2.out; omega
           case rel => exact ⟨(wrap64 (x4_2 + 1)), (by first | rfl | (simp; done) | (simp [*]; done)), H', ⟨by have := HK1.out; have := HK2.out; omega⟩, ⟨by (with_reducible repeat (first | refine blk_drewN ?_ _ | refine blk_drew ?_ | refine blk_alloc ?_ _)); exact BK504.out⟩, ⟨by repeat (first | (with_reducible first | exact HB.out | apply below_alloc | apply pw_below_drewN | apply below_drew1 | refine below_set ?_ GE504.out) | exact HB.out)⟩⟩
         ·
          rw [if_neg c17] at H
          exact absurd H (by simp)
        ·
         replace c15 := Bool.eq_false_iff.mpr c15
         subst c15
         have H1 : (some false) = some r := by rw [if_neg (show ¬ (false = true) by decide)] at H; exact H
         clear H
         have H := H1
         clear H1
         obtain rfl := Option.some.inj H
         have hcz30_0 : wr.cell? ⟨gb504, 0, none⟩ = some (.slice A0_0 l0_0.length c0_0) := (blk_cell BK504.out 0).trans rfl
         have hcz30_1 : wr.cell? ⟨gb504, 1, none⟩ = some (.slice A0_1 l0_1.length c0_1) := (blk_cell BK504.out 1).trans rfl
         have hcz30_2 : wr.cell? ⟨gb504, 2, none⟩ = some (.int .i64 a0_2) := (blk_cell BK504.out 2).trans rfl
         have hcz30_3 : wr.cell? ⟨gb504, 3, none⟩ = some (.int .u64 a0_3) := (blk_cell BK504.out 3).trans rfl
         have hcz30_4 : wr.cell? ⟨gb504, 4, none⟩ = some (.int .i64 a0_4) := (blk_cell BK504.out 4).trans rfl
         have hfz30_0 := blk_frozen BK504.out 0
         have hfz30_1 := blk_frozen BK504.out 1
         have hfz30_2 := blk_frozen BK504.out 2
         have hfz30_3 := blk_frozen BK504.out 3
         have hfz30_4 := blk_frozen BK504.out 4
         try go_wp2
         have n0_ := Aside0.mk (blk_drew BK504.out)
         have n1_ := Aside0.mk (below_drew1 HB.out)
         clear BK504
         clear HB
         have BK504 := n0_
         have HB := n1_
         clear n0_ n1_
         have p509 : 0 ≤ (x4_2 : Int) := of_decide_eq_true zs_
         have q509 : x4_2 < (l0_1.length : Int) := of_decide_eq_true zs_
         obtain ⟨ad509, e509, hx509_0, hx509_1, hx509_2, hx509_3⟩ := at_T27 HR0_1.out x4_2 p509 q509
         have hw509_3 := hx509_3
         have hw509_2 := hx509_2
         have hw509_1 := hx509_1
         have hw509_0 := hx509_0
         cases e509
         replace hx509_0 := (HB.out.cell (World.block_lt_of_cell? w _ hx509_0)).trans hx509_0
         replace hx509_1 := (HB.out.cell (World.block_lt_of_cell? w _ hx509_1)).trans hx509_1
         replace hx509_2 := (HB.out.cell (World.block_lt_of_cell? w _ hx509_2)).trans hx509_2
         replace hx509_3 := (HB.out.cell (World.block_lt_of_cell? w _ hx509_3)).trans hx509_3
         replace p509 := eq_true p509
         replace q509 := eq_true q509
         refine start_ (n := 19) (S := fun w' => w'.cell? ⟨gb504, 0, none⟩ = some (.slice A0_0 l0_0.length c0_0) ∧ w'.cell? ⟨gb504, 1, none⟩ = some (.slice (some ad509) l0_1.length c0_1) ∧ w'.cell? ⟨gb504, 2, none⟩ = some (.int .i64 a0_2) ∧ w'.cell? ⟨gb504, 3, none⟩ = some (.int .u64 a0_3) ∧ w'.cell? ⟨gb504, 4, none⟩ = some (.int .i64 a0_4) ∧ w'.cell? (ad509.add ((x4_2).toNat * 4)) = some (.int .u64 ((rd_T27 l0_1 x4_2).f0.f0)) ∧ w'.cell? ⟨(ad509.add ((x4_2).toNat * 4)).block, (ad509.add ((x4_2).toNat * 4)).off + 1, none⟩ = some (.int .i64 ((rd_T27 l0_1 x4_2).f0.f1)) ∧ w'.cell? ⟨(ad509.add ((x4_2).toNat * 4)).block, (ad509.add ((x4_2).toNat * 4)).off + 2, none⟩ = some (.int .u64 ((rd_T27 l0_1 x4_2).f1)) ∧ w'.cell? ⟨(ad509.add ((x4_2).toNat * 4)).block, (ad509.add ((x4_2).toNat * 4)).off + 3, none⟩ = some (.int .i64 ((rd_T27 l0_1 x4_2).f2))) (ds := []) #[F_,F_,F_,F_,F_,F_,F_,F_,F_,F_,F_,F_,F_,F_,F_,F_,F_,F_,F_] (by kernel_rfl) rfl rfl ⟨(blk_cell BK504.out 0).trans rfl, (blk_cell BK504.out 1).trans rfl, (blk_cell BK504.out 2).trans rfl, (blk_cell BK504.out 3).trans rfl, (blk_cell BK504.out 4).trans rfl, ((HB.out.cell (World.block_lt_of_cell? w _ hw509_0)).trans hw509_0), ((HB.out.cell (World.block_lt_of_cell? w _ hw509_1)).trans hw509_1), ((HB.out.cell (World.block_lt_of_cell? w _ hw509_2)).trans hw509_2), ((HB.out.cell (World.block_lt_of_cell? w _ hw509_3)).trans hw509_3)⟩ (fun hHeld => ?_); refine with_tabW folkmootref15_Right.tab9 folkmootref15_Right.bits9 (fun HT_ HW_ => ?_)
         generalize wr.drew = w31 at BK504 HB hx509_0 hx509_1 hx509_2 hx509_3 hHeld ⊢
         refine pure_ (i := 0) (N := some 26) (v := ?_) (a' := ?_) #[T_,F_,F_,F_,F_,F_,F_,F_,F_,F_,F_,F_,F_,F_,F_,F_,F_,F_,F_] rfl rfl (any_of HT_.out (by kernel_rfl)) (fun _ _ _ h => h) (Or.inl ⟨by rfl, ?_⟩) ?_ ?_
         rotate_left
         ·
          intro w'; go_simp; with_reducible rfl
         rotate_left
         ·
          exact zp_
         refine pure_ (i := 2) (N := some 28) (v := ?_) (a' := ?_) #[T_,F_,T_,F_,F_,F_,F_,F_,F_,F_,F_,F_,F_,F_,F_,F_,F_,F_,F_] rfl rfl (any_of HT_.out (by kernel_rfl)) (fun _ _ _ h => h) (Or.inl ⟨by rfl, ?_⟩) ?_ ?_
         rotate_left
         ·
          intro w'; go_simp; with_reducible rfl
         rotate_left
         ·
          exact zp_
         refine take_ (i := 1) (N := some 27) (v := ?_) (a' := ?_) #[T_,T_,T_,F_,F_,F_,F_,F_,F_,F_,F_,F_,F_,F_,F_,F_,F_,F_,F_] rfl rfl (take_ofW HT_.out HW_.out (by kernel_rfl)) (fun _ _ _ h => h) (Or.inl ⟨by rfl, ?_⟩) hHeld ?_ ?_
         rotate_left
         ·
          rintro w' ⟨s0, s1, s2, s3, s4, s5, s6, s7, s8⟩
          go_simp
          with_reducible rfl
         rotate_left
         ·
          exact zp_
         refine pure_ (i := 3) (N := some 29) (v := ?_) (a' := ?_) #[T_,T_,T_,T_,F_,F_,F_,F_,F_,F_,F_,F_,F_,F_,F_,F_,F_,F_,F_] rfl rfl (any_of HT_.out (by kernel_rfl)) (fun _ _ _ h => h) (Or.inl ⟨by rfl, ?_⟩) ?_ ?_
         rotate_left
         ·
          intro w'; go_simp; with_reducible rfl
         rotate_left
         ·
          exact zp_
         refine take_ (i := 4) (N := some 30) (v := ?_) (a' := ?_) #[T_,T_,T_,T_,T_,F_,F_,F_,F_,F_,F_,F_,F_,F_,F_,F_,F_,F_,F_] rfl rfl (take_ofW HT_.out HW_.out (by kernel_rfl)) (fun _ _ _ h => h) (Or.inl ⟨by rfl, ?_⟩) hHeld ?_ ?_
         rotate_left
         ·
          rintro w' ⟨s0, s1, s2, s3, s4, s5, s6, s7, s8⟩
          go_simp
          with_reducible rfl
         rotate_left
         ·
          exact zp_
         refine one_ (i := 5) (N := some 31) #[T_,T_,T_,T_,T_,T_,F_,F_,F_,F_,F_,F_,F_,F_,F_,F_,F_,F_,F_] rfl rfl (one_of HT_.out (by kernel_rfl)) (by decide) (fun K hK => ?_)
         refine goes_ Try.func41 (by kernel_rfl) rfl #[.agg #[.int .u64 ((rd_T27 l0_1 x4_2).f0.f0), .int .i64 ((rd_T27 l0_1 x4_2).f0.f1), .int .u64 ((rd_T27 l0_1 x4_2).f1), .int .i64 ((rd_T27 l0_1 x4_2).f2)]] (by rfl) rfl rfl za_ ?_
         with_reducible refine (folkmootref05_Form.calls ((rd_T27 l0_1 x4_2).f0.f0) ((rd_T27 l0_1 x4_2).f0.f1) ((rd_T27 l0_1 x4_2).f1) ((rd_T27 l0_1 x4_2).f2) false _ A14.out).mono ?_
         rintro e w32 ⟨rfl, hb⟩
         refine ⟨_, rfl, ?_⟩
         have n0_ := zk_ BK504 hb
         have n1_ := Aside0.mk (below_step zb_ hb)
         clear BK504
         clear HB
         have BK504 := n0_
         have HB := n1_
         clear n0_ n1_
         (try clear hb)
         (try clear hb2)
         (try clear hk)
         (try clear hi)
         refine hK.out _ _ ⟨(blk_cell BK504.out 0).trans rfl, (blk_cell BK504.out 1).trans rfl, (blk_cell BK504.out 2).trans rfl, (blk_cell BK504.out 3).trans rfl, (blk_cell BK504.out 4).trans rfl, ((HB.out.cell (World.block_lt_of_cell? w _ hw509_0)).trans hw509_0), ((HB.out.cell (World.block_lt_of_cell? w _ hw509_1)).trans hw509_1), ((HB.out.cell (World.block_lt_of_cell? w _ hw509_2)).trans hw509_2), ((HB.out.cell (World.block_lt_of_cell? w _ hw509_3)).trans hw509_3)⟩ (fun hHeld => ?_)
         clear hK K
         refine norm_ (a' := ?_) ?_ ?_
         rotate_left
         ·
          show Act.put _ (some 31) _ = _
          simp only [Act.put, List.setIfInBounds_toArray, List.set_cons_zero, List.set_cons_succ, i64_w, i32_w]
          rfl
         refine pure_ (i := 6) (N := some 32) (v := ?_) (a' := ?_) #[T_,T_,T_,T_,T_,T_,T_,F_,F_,F_,F_,F_,F_,F_,F_,F_,F_,F_,F_] rfl rfl (any_of HT_.out (by kernel_rfl)) (fun _ _ _ h => h) (Or.inl ⟨by rfl, ?_⟩) ?_ ?_
         rotate_left
         ·
          intro w'; go_simp; with_reducible rfl
         rotate_left
         ·
          exact zp_
         refine pure_ (i := 7) (N := some 33) (v := ?_) (a' := ?_) #[T_,T_,T_,T_,T_,T_,T_,T_,F_,F_,F_,F_,F_,F_,F_,F_,F_,F_,F_] rfl rfl (any_of HT_.out (by kernel_rfl)) (fun _ _ _ h => h) (Or.inl ⟨by rfl, ?_⟩) ?_ ?_
         rotate_left
         ·
          intro w'; go_simp; with_reducible rfl
         rotate_left
         ·
          exact zp_
         refine pure_ (i := 8) (N := some 34) (v := undef) (a' := ?_) #[T_,T_,T_,T_,T_,T_,T_,T_,T_,F_,F_,F_,F_,F_,F_,F_,F_,F_,F_] rfl rfl (any_of HT_.out (by kernel_rfl)) (fun _ _ _ h => h) (Or.inr ⟨by rfl, rfl⟩) ?_ ?_
         rotate_left
         ·
          exact zp_
         refine pure_ (i := 9) (N := some 35) (v := undef) (a' := ?_) #[T_,T_,T_,T_,T_,T_,T_,T_,T_,T_,F_,F_,F_,F_,F_,F_,F_,F_,F_] rfl rfl (any_of HT_.out (by kernel_rfl)) (fun _ _ _ h => h) (Or.inr ⟨by rfl, rfl⟩) ?_ ?_
         rotate_left
         ·
          exact zp_
         refine pure_ (i := 10) (N := some 36) (v := undef) (a' := ?_) #[T_,T_,T_,T_,T_,T_,T_,T_,T_,T_,T_,F_,F_,F_,F_,F_,F_,F_,F_] rfl rfl (any_of HT_.out (by kernel_rfl)) (fun _ _ _ h => h) (Or.inr ⟨by rfl, rfl⟩) ?_ ?_
         rotate_left
         ·
          exact zp_
         refine pure_ (i := 11) (N := some 37) (v := undef) (a' := ?_) #[T_,T_,T_,T_,T_,T_,T_,T_,T_,T_,T_,T_,F_,F_,F_,F_,F_,F_,F_] rfl rfl (any_of HT_.out (by kernel_rfl)) (fun _ _ _ h => h) (Or.inr ⟨by rfl, rfl⟩) ?_ ?_
         rotate_left
         ·
          exact zp_
         refine pure_ (i := 12) (N := some 38) (v := undef) (a' := ?_) #[T_,T_,T_,T_,T_,T_,T_,T_,T_,T_,T_,T_,T_,F_,F_,F_,F_,F_,F_] rfl rfl (any_of HT_.out (by kernel_rfl)) (fun _ _ _ h => h) (Or.inr ⟨by rfl, rfl⟩) ?_ ?_
         rotate_left
         ·
          exact zp_
         refine pure_ (i := 13) (N := some 39) (v := undef) (a' := ?_) #[T_,T_,T_,T_,T_,T_,T_,T_,T_,T_,T_,T_,T_,T_,F_,F_,F_,F_,F_] rfl rfl (any_of HT_.out (by kernel_rfl)) (fun _ _ _ h => h) (Or.inr ⟨by rfl, rfl⟩) ?_ ?_
         rotate_left
         ·
          exact zp_
         refine pure_ (i := 14) (N := some 40) (v := undef) (a' := ?_) #[T_,T_,T_,T_,T_,T_,T_,T_,T_,T_,T_,T_,T_,T_,T_,F_,F_,F_,F_] rfl rfl (any_of HT_.out (by kernel_rfl)) (fun _ _ _ h => h) (Or.inr ⟨by rfl, rfl⟩) ?_ ?_
         rotate_left
         ·
          exact zp_
         refine pure_ (i := 15) (N := some 41) (v := undef) (a' := ?_) #[T_,T_,T_,T_,T_,T_,T_,T_,T_,T_,T_,T_,T_,T_,T_,T_,F_,F_,F_] rfl rfl (any_of HT_.out (by kernel_rfl)) (fun _ _ _ h => h) (Or.inr ⟨by rfl, rfl⟩) ?_ ?_
         rotate_left
         ·
          exact zp_
         refine pure_ (i := 16) (N := some 42) (v := undef) (a' := ?_) #[T_,T_,T_,T_,T_,T_,T_,T_,T_,T_,T_,T_,T_,T_,T_,T_,T_,F_,F_] rfl rfl (any_of HT_.out (by kernel_rfl)) (fun _ _ _ h => h) (Or.inr ⟨by rfl, rfl⟩) ?_ ?_
         rotate_left
         ·
          exact zp_
         refine pure_ (i := 17) (N := some 43) (v := undef) (a' := ?_) #[T_,T_,T_,T_,T_,T_,T_,T_,T_,T_,T_,T_,T_,T_,T_,T_,T_,T_,F_] rfl rfl (any_of HT_.out (by kernel_rfl)) (fun _ _ _ h => h) (Or.inr ⟨by rfl, rfl⟩) ?_ ?_
         rotate_left
         ·
          exact zp_
         refine pure_ (i := 18) (N := some 44) (v := ?_) (a' := ?_) #[T_,T_,T_,T_,T_,T_,T_,T_,T_,T_,T_,T_,T_,T_,T_,T_,T_,T_,T_] rfl rfl (any_of HT_.out (by kernel_rfl)) (fun _ _ _ h => h) (Or.inl ⟨by rfl, ?_⟩) ?_ ?_
         rotate_left
         ·
          intro w'; go_simp; with_reducible rfl
         rotate_left
         ·
          exact zp_
         refine done_ (done_of HT_.out (by kernel_rfl)) ?_
         (try clear hHeld); (try clear HS0_)
         try go_wp2
         go_ret
         exact ⟨by first | rfl | (simp [errW_none, errW_some] <;> rfl) | (simp [*, errW_none, errW_some] <;> rfl), by repeat (first | (with_reducible first | exact HB.out | apply below_alloc | apply pw_below_drewN | apply below_drew1 | refine below_set ?_ GE504.out) | exact HB.out)⟩
       ·
        rw [if_neg c13] at H
        exact absurd H (by simp)
      ·
       rw [if_neg c12] at H
       have c12b0 : decide (x4_2 < (l0_1.length : Int)) = false := decide_eq_false c12
       clear c12
       replace H := Option.bind_eq_some_iff.mp H
       obtain ⟨t507, A330, H⟩ := H
       replace H : (if t507 = true then (if a0_2 ≥ 1 then (if a0_2 ≤ (wrap64 ((l0_1.length : Int) + 1)) then ((folkmootref04_Form.f a0_3 a0_4).bind fun t508 => (some t508)) else (some false)) else (some false)) else (some false)) = some r := H
       have A33 := Aside0.mk A330
       clear A330
       by_cases c34 : t507 = true
       ·
        subst c34
        have H1 : (if a0_2 ≥ 1 then (if a0_2 ≤ (wrap64 ((l0_1.length : Int) + 1)) then ((folkmootref04_Form.f a0_3 a0_4).bind fun t508 => (some t508)) else (some false)) else (some false)) = some r := by rw [if_pos rfl] at H; exact H
        clear H
        have H := H1
        clear H1
        by_cases c35 : a0_2 ≥ 1
        ·
         rw [if_pos c35] at H
         have c35b0 : decide (1 ≤ a0_2) = true := decide_eq_true c35
         clear c35
         by_cases c36 : a0_2 ≤ (wrap64 ((l0_1.length : Int) + 1))
         ·
          rw [if_pos c36] at H
          have c36b0 : decide (a0_2 ≤ (wrap64 ((l0_1.length : Int) + 1))) = true := decide_eq_true c36
          clear c36
          replace H := Option.bind_eq_some_iff.mp H
          obtain ⟨t508, A370, H⟩ := H
          replace H : (some t508) = some r := H
          have A37 := Aside0.mk A370
          clear A370
          obtain rfl := Option.some.inj H
          have hcz38_0 : wr.cell? ⟨gb504, 0, none⟩ = some (.slice A0_0 l0_0.length c0_0) := (blk_cell BK504.out 0).trans rfl
          have hcz38_1 : wr.cell? ⟨gb504, 1, none⟩ = some (.slice A0_1 l0_1.length c0_1) := (blk_cell BK504.out 1).trans rfl
          have hcz38_2 : wr.cell? ⟨gb504, 2, none⟩ = some (.int .i64 a0_2) := (blk_cell BK504.out 2).trans rfl
          have hcz38_3 : wr.cell? ⟨gb504, 3, none⟩ = some (.int .u64 a0_3) := (blk_cell BK504.out 3).trans rfl
          have hcz38_4 : wr.cell? ⟨gb504, 4, none⟩ = some (.int .i64 a0_4) := (blk_cell BK504.out 4).trans rfl
          have hfz38_0 := blk_frozen BK504.out 0
          have hfz38_1 := blk_frozen BK504.out 1
          have hfz38_2 := blk_frozen BK504.out 2
          have hfz38_3 := blk_frozen BK504.out 3
          have hfz38_4 := blk_frozen BK504.out 4
          go_wp2_with (first | ((with_reducible refine gate_callee (f := 29) rfl ?_); refine goesL_ (some 47) rfl rfl Try.func29 (by kernel_rfl) rfl #[.slice A0_0 l0_0.length c0_0] rfl za_ ?_; (with_reducible refine (folkmootref15_Rising.calls k2 _ _ l0_0 true _ ?side1 ?side2 A33.out).mono ?_); (case side1 => exact zc_ HR0_0 HB); (case side2 => exact HC0_0.out); rintro e w39 ⟨rfl, hb⟩; refine ⟨_, rfl, ?_⟩; have n0_ := zk_ BK504 hb; have n1_ := Aside0.mk (below_step zb_ hb); clear BK504; clear HB; have BK504 := n0_; have HB := n1_; clear n0_ n1_; (try clear hb); (try clear hb2); (try clear hk); (try clear hi); have hcz40_0 : w39.cell? ⟨gb504, 0, none⟩ = some (.slice A0_0 l0_0.length c0_0) := (blk_cell BK504.out 0).trans rfl; have hcz40_1 : w39.cell? ⟨gb504, 1, none⟩ = some (.slice A0_1 l0_1.length c0_1) := (blk_cell BK504.out 1).trans rfl; have hcz40_2 : w39.cell? ⟨gb504, 2, none⟩ = some (.int .i64 a0_2) := (blk_cell BK504.out 2).trans rfl; have hcz40_3 : w39.cell? ⟨gb504, 3, none⟩ = some (.int .u64 a0_3) := (blk_cell BK504.out 3).trans rfl; have hcz40_4 : w39.cell? ⟨gb504, 4, none⟩ = some (.int .i64 a0_4) := (blk_cell BK504.out 4).trans rfl; have hfz40_0 := blk_frozen BK504.out 0; have hfz40_1 := blk_frozen BK504.out 1; have hfz40_2 := blk_frozen BK504.out 2; have hfz40_3 := blk_frozen BK504.out 3; have hfz40_4 := blk_frozen BK504.out 4) | (go_at_call 84; (with_reducible refine (folkmootref04_Form.calls a0_3 a0_4 t508 _ A37.out).mono ?_); rintro e w41 ⟨rfl, hb⟩; have n0_ := zk_ BK504 hb; have n1_ := Aside0.mk (below_step zb_ hb); clear BK504; clear HB; have BK504 := n0_; have HB := n1_; clear n0_ n1_; (try clear hb); (try clear hb2); (try clear hk); (try clear hi)))
          go_ret
          exact ⟨by first | rfl | (simp [errW_none, errW_some] <;> rfl) | (simp [*, errW_none, errW_some] <;> rfl), by repeat (first | (with_reducible first | exact HB.out | apply below_alloc | apply pw_below_drewN | apply below_drew1 | refine below_set ?_ GE504.out) | exact HB.out)⟩
         ·
          rw [if_neg c36] at H
          have c36b0 : decide (a0_2 ≤ (wrap64 ((l0_1.length : Int) + 1))) = false := decide_eq_false c36
          clear c36
          obtain rfl := Option.some.inj H
          have hcz42_0 : wr.cell? ⟨gb504, 0, none⟩ = some (.slice A0_0 l0_0.length c0_0) := (blk_cell BK504.out 0).trans rfl
          have hcz42_1 : wr.cell? ⟨gb504, 1, none⟩ = some (.slice A0_1 l0_1.length c0_1) := (blk_cell BK504.out 1).trans rfl
          have hcz42_2 : wr.cell? ⟨gb504, 2, none⟩ = some (.int .i64 a0_2) := (blk_cell BK504.out 2).trans rfl
          have hcz42_3 : wr.cell? ⟨gb504, 3, none⟩ = some (.int .u64 a0_3) := (blk_cell BK504.out 3).trans rfl
          have hcz42_4 : wr.cell? ⟨gb504, 4, none⟩ = some (.int .i64 a0_4) := (blk_cell BK504.out 4).trans rfl
          have hfz42_0 := blk_frozen BK504.out 0
          have hfz42_1 := blk_frozen BK504.out 1
          have hfz42_2 := blk_frozen BK504.out 2
          have hfz42_3 := blk_frozen BK504.out 3
          have hfz42_4 := blk_frozen BK504.out 4
          go_wp2_with (first | ((with_reducible refine gate_callee (f := 29) rfl ?_); refine goesL_ (some 47) rfl rfl Try.func29 (by kernel_rfl) rfl #[.slice A0_0 l0_0.length c0_0] rfl za_ ?_; (with_reducible refine (folkmootref15_Rising.calls k2 _ _ l0_0 true _ ?side1 ?side2 A33.out).mono ?_); (case side1 => exact zc_ HR0_0 HB); (case side2 => exact HC0_0.out); rintro e w43 ⟨rfl, hb⟩; refine ⟨_, rfl, ?_⟩; have n0_ := zk_ BK504 hb; have n1_ := Aside0.mk (below_step zb_ hb); clear BK504; clear HB; have BK504 := n0_; have HB := n1_; clear n0_ n1_; (try clear hb); (try clear hb2); (try clear hk); (try clear hi); have hcz44_0 : w43.cell? ⟨gb504, 0, none⟩ = some (.slice A0_0 l0_0.length c0_0) := (blk_cell BK504.out 0).trans rfl; have hcz44_1 : w43.cell? ⟨gb504, 1, none⟩ = some (.slice A0_1 l0_1.length c0_1) := (blk_cell BK504.out 1).trans rfl; have hcz44_2 : w43.cell? ⟨gb504, 2, none⟩ = some (.int .i64 a0_2) := (blk_cell BK504.out 2).trans rfl; have hcz44_3 : w43.cell? ⟨gb504, 3, none⟩ = some (.int .u64 a0_3) := (blk_cell BK504.out 3).trans rfl; have hcz44_4 : w43.cell? ⟨gb504, 4, none⟩ = some (.int .i64 a0_4) := (blk_cell BK504.out 4).trans rfl; have hfz44_0 := blk_frozen BK504.out 0; have hfz44_1 := blk_frozen BK504.out 1; have hfz44_2 := blk_frozen BK504.out 2; have hfz44_3 := blk_frozen BK504.out 3; have hfz44_4 := blk_frozen BK504.out 4))
          go_ret
          exact ⟨by first | rfl | (simp [errW_none, errW_some] <;> rfl) | (simp [*, errW_none, errW_some] <;> rfl), by repeat (first | (with_reducible first | exact HB.out | apply below_alloc | apply pw_below_drewN | apply below_drew1 | refine below_set ?_ GE504.out) | exact HB.out)⟩
        ·
         rw [if_neg c35] at H
         have c35b0 : decide (1 ≤ a0_2) = false := decide_eq_false c35
         clear c35
         obtain rfl := Option.some.inj H
         have hcz45_0 : wr.cell? ⟨gb504, 0, none⟩ = some (.slice A0_0 l0_0.length c0_0) := (blk_cell BK504.out 0).trans rfl
         have hcz45_1 : wr.cell? ⟨gb504, 1, none⟩ = some (.slice A0_1 l0_1.length c0_1) := (blk_cell BK504.out 1).trans rfl
         have hcz45_2 : wr.cell? ⟨gb504, 2, none⟩ = some (.int .i64 a0_2) := (blk_cell BK504.out 2).trans rfl
         have hcz45_3 : wr.cell? ⟨gb504, 3, none⟩ = some (.int .u64 a0_3) := (blk_cell BK504.out 3).trans rfl
         have hcz45_4 : wr.cell? ⟨gb504, 4, none⟩ = some (.int .i64 a0_4) := (blk_cell BK504.out 4).trans rfl
         have hfz45_0 := blk_frozen BK504.out 0
         have hfz45_1 := blk_frozen BK504.out 1
         have hfz45_2 := blk_frozen BK504.out 2
         have hfz45_3 := blk_frozen BK504.out 3
         have hfz45_4 := blk_frozen BK504.out 4
         go_wp2_with (first | ((with_reducible refine gate_callee (f := 29) rfl ?_); refine goesL_ (some 47) rfl rfl Try.func29 (by kernel_rfl) rfl #[.slice A0_0 l0_0.length c0_0] rfl za_ ?_; (with_reducible refine (folkmootref15_Rising.calls k2 _ _ l0_0 true _ ?side1 ?side2 A33.out).mono ?_); (case side1 => exact zc_ HR0_0 HB); (case side2 => exact HC0_0.out); rintro e w46 ⟨rfl, hb⟩; refine ⟨_, rfl, ?_⟩; have n0_ := zk_ BK504 hb; have n1_ := Aside0.mk (below_step zb_ hb); clear BK504; clear HB; have BK504 := n0_; have HB := n1_; clear n0_ n1_; (try clear hb); (try clear hb2); (try clear hk); (try clear hi); have hcz47_0 : w46.cell? ⟨gb504, 0, none⟩ = some (.slice A0_0 l0_0.length c0_0) := (blk_cell BK504.out 0).trans rfl; have hcz47_1 : w46.cell? ⟨gb504, 1, none⟩ = some (.slice A0_1 l0_1.length c0_1) := (blk_cell BK504.out 1).trans rfl; have hcz47_2 : w46.cell? ⟨gb504, 2, none⟩ = some (.int .i64 a0_2) := (blk_cell BK504.out 2).trans rfl; have hcz47_3 : w46.cell? ⟨gb504, 3, none⟩ = some (.int .u64 a0_3) := (blk_cell BK504.out 3).trans rfl; have hcz47_4 : w46.cell? ⟨gb504, 4, none⟩ = some (.int .i64 a0_4) := (blk_cell BK504.out 4).trans rfl; have hfz47_0 := blk_frozen BK504.out 0; have hfz47_1 := blk_frozen BK504.out 1; have hfz47_2 := blk_frozen BK504.out 2; have hfz47_3 := blk_frozen BK504.out 3; have hfz47_4 := blk_frozen BK504.out 4))
         go_ret
         exact ⟨by first | rfl | (simp [errW_none, errW_some] <;> rfl) | (simp [*, errW_none, errW_some] <;> rfl), by repeat (first | (with_reducible first | exact HB.out | apply below_alloc | apply pw_below_drewN | apply below_drew1 | refine below_set ?_ GE504.out) | exact HB.out)⟩
       ·
        replace c34 := Bool.eq_false_iff.mpr c34
        subst c34
        have H1 : (some false) = some r := by rw [if_neg (show ¬ (false = true) by decide)] at H; exact H
        clear H
        have H := H1
        clear H1
        obtain rfl := Option.some.inj H
        have hcz48_0 : wr.cell? ⟨gb504, 0, none⟩ = some (.slice A0_0 l0_0.length c0_0) := (blk_cell BK504.out 0).trans rfl
        have hcz48_1 : wr.cell? ⟨gb504, 1, none⟩ = some (.slice A0_1 l0_1.length c0_1) := (blk_cell BK504.out 1).trans rfl
        have hcz48_2 : wr.cell? ⟨gb504, 2, none⟩ = some (.int .i64 a0_2) := (blk_cell BK504.out 2).trans rfl
        have hcz48_3 : wr.cell? ⟨gb504, 3, none⟩ = some (.int .u64 a0_3) := (blk_cell BK504.out 3).trans rfl
        have hcz48_4 : wr.cell? ⟨gb504, 4, none⟩ = some (.int .i64 a0_4) := (blk_cell BK504.out 4).trans rfl
        have hfz48_0 := blk_frozen BK504.out 0
        have hfz48_1 := blk_frozen BK504.out 1
        have hfz48_2 := blk_frozen BK504.out 2
        have hfz48_3 := blk_frozen BK504.out 3
        have hfz48_4 := blk_frozen BK504.out 4
        go_wp2_with (first | ((with_reducible refine gate_callee (f := 29) rfl ?_); refine goesL_ (some 47) rfl rfl Try.func29 (by kernel_rfl) rfl #[.slice A0_0 l0_0.length c0_0] rfl za_ ?_; (with_reducible refine (folkmootref15_Rising.calls k2 _ _ l0_0 false _ ?side1 ?side2 A33.out).mono ?_); (case side1 => exact zc_ HR0_0 HB); (case side2 => exact HC0_0.out); rintro e w49 ⟨rfl, hb⟩; refine ⟨_, rfl, ?_⟩; have n0_ := zk_ BK504 hb; have n1_ := Aside0.mk (below_step zb_ hb); clear BK504; clear HB; have BK504 := n0_; have HB := n1_; clear n0_ n1_; (try clear hb); (try clear hb2); (try clear hk); (try clear hi)))
        go_ret
        exact ⟨by first | rfl | (simp [errW_none, errW_some] <;> rfl) | (simp [*, errW_none, errW_some] <;> rfl), by repeat (first | (with_reducible first | exact HB.out | apply below_alloc | apply pw_below_drewN | apply below_drew1 | refine below_set ?_ GE504.out) | exact HB.out)⟩
end Go.Proofs.Ytioooiflpabngaa.PAll
end
section
namespace Go.Proofs.Ytioooiflpabngaa.PAll
open Go.RowKit Go.Proofs.YtioooiflpabngaaW.PrintWords
set_option linter.unusedVariables false
set_option linter.unusedSimpArgs false
structure RightS (s : S53) : Prop where
  con : ∀ e ∈ s.f0, FormL e.f0 ∧ e.f1.length ≤ 64
  rise : Rise s.f0
  ord : ∀ l ∈ s.f1, FormL l
  once : dup [] s.f1 = false
  next : 1 ≤ s.f2 ∧ s.f2 ≤ (s.f1.length : Int) + 1
  high : ident_Form.f s.f3.f0 s.f3.f1 = some true
  hn : 0 ≤ s.f3.f0 ∧ s.f3.f0 < 18446744073709551616
  hp : 0 ≤ s.f3.f1 ∧ s.f3.f1 < 16
theorem index_loop (l : List S27) (h : ∀ x ∈ l, FormL x) (hl : l.length < 9223372036854775807) : ∀ (d i : Nat), d = l.length - i → i ≤ l.length → Ev (fun k => api_Label_126.l0 k l (l.length : Int) (i : Int)) (-1) := by
  intro d
  induction d with
  | zero =>
    intro i hd hi
    exact Ev.step (fun k => by rw [api_Label_126.l0, if_neg (by omega)]) (Ev.const fun _ => rfl)
  | succ d ih =>
    intro i hd hi
    have hlt : i < l.length := by omega
    refine Ev.step (b := fun k => api_Label_126.l0 k l (l.length : Int) ((i + 1 : Nat) : Int)) (fun k => ?_) (ih (i + 1) (by omega) (by omega))
    have h1 : content_Right_1.f l[i].f0.f0 l[i].f0.f1 l[i].f1 l[i].f2 = some false := by
      unfold content_Right_1.f
      rw [(h _ (List.getElem_mem hlt)).label]
      rfl
    rw [api_Label_126.l0, if_pos (by omega), if_pos (by omega), if_pos (by omega), rdL_nat hlt, h1, Option.bind_some, if_neg (by simp), wrap_nat (by omega)]
theorem right_loop (s : S53) (h : RightS s) (hc : s.f0.length ≤ 1000) (ho : s.f1.length ≤ 1000) : ∀ (d i : Nat), d = s.f0.length - i → i ≤ s.f0.length → Ev (fun k => content_Right.l0 k s.f0 (s.f0.length : Int) (i : Int) s.f0 s.f1 s.f2 s.f3.f0 s.f3.f1) true := by
  intro d
  induction d with
  | zero =>
    intro i hd hi
    have hix : Ev (fun k => api_Label_105.f k s.f1) false := by
      unfold api_Label_105.f api_Label_126.f
      exact Ev.bind (index_loop s.f1 h.ord (by omega) s.f1.length 0 rfl (Nat.zero_le _)) (Ev.const fun _ => by simp)
    refine Ev.step (fun k => by rw [content_Right.l0, if_neg (by omega)]) (Ev.bind hix ?_)
    have c1 : s.f2 ≥ 1 := h.next.1
    have c2 : s.f2 ≤ wrap64 ((s.f1.length : Int) + 1) := by
      rw [wrap_nat (by omega)]
      have := h.next.2
      omega
    simp only [Bool.false_eq_true, if_false, twice_eq (show s.f1.length < 4398046511104 by omega), h.once, Option.bind_some, c1, c2, if_true, h.high]
    exact Ev.const fun _ => rfl
  | succ d ih =>
    intro i hd hi
    have hlt : i < s.f0.length := by omega
    have hf := h.con _ (List.getElem_mem hlt)
    have e1 : content_Form.f s.f0[i].f0.f0.f0 s.f0[i].f0.f0.f1 s.f0[i].f0.f1 s.f0[i].f0.f2 s.f0[i].f1 = some true := by
      unfold content_Form.f
      rw [hf.1.label, Option.bind_some, if_pos rfl, decide_eq_true (by omega)]
    refine Ev.step (fun k => by rw [content_Right.l0, if_pos (by omega), if_pos (by omega), if_pos (by omega), rdE_nat hlt, e1, Option.bind_some, if_pos rfl]) ?_
    by_cases hz : (i : Int) > 0
    · have e2 : wrap64 ((i : Int) - 1) = ((i - 1 : Nat) : Int) := by unfold wrap64; omega
      have hl1 : i - 1 < s.f0.length := by omega
      have c1 : (0 : Int) ≤ ((i - 1 : Nat) : Int) := by omega
      have c2 : ((i - 1 : Nat) : Int) < (s.f0.length : Int) := by omega
      have hlt2 := (cmpL_neg _ _).2 (rise_lt h.rise (show i - 1 < i by omega) hlt)
      simp only [hz, if_true, e2, c1, c2, rdE_nat hl1]
      refine Ev.bind (compare_ev s.f0[i - 1].f0 s.f0[i].f0) ?_
      have c3 : ¬ cmpL s.f0[i - 1].f0 s.f0[i].f0 ≥ 0 := by omega
      simp only [c3, if_false, wrap_nat (show i < 9223372036854775807 by omega)]
      exact ih (i + 1) (by omega) (by omega)
    · simp only [hz, if_false, wrap_nat (show i < 9223372036854775807 by omega)]
      exact ih (i + 1) (by omega) (by omega)
def restB (s : S53) : List Int := uintB s.f2.toNat ++ viewB s.f3
def allB (s : S53) : List Int := 2 :: (uintB s.f0.length ++ (s.f0.flatMap entB ++ (uintB s.f1.length ++ (s.f1.flatMap labB ++ restB s))))
theorem ord_loop (s : S53) (h : RightS s) (ho : s.f1.length ≤ 1000) : ∀ (d i : Nat) (p : List Int), d = s.f1.length - i → i ≤ s.f1.length → p.length + d * 22 ≤ 10000000 → Ev (fun k => content_EncodeAll.l1 k p s.f1 (s.f1.length : Int) (i : Int) s.f0 s.f1 s.f2 s.f3.f0 s.f3.f1) (p ++ ((s.f1.drop i).flatMap labB ++ restB s), 0) := by
  intro d
  induction d with
  | zero =>
    intro i p hd hi hp
    have : i = s.f1.length := by omega
    subst this
    rw [List.drop_length]
    have hn := h.next
    have e1 : IntKind.u64.wrap s.f2 = ((s.f2.toNat : Nat) : Int) := by rw [IntKind.wrap_u64]; omega
    have hu := uintB_length s.f2.toNat (by omega)
    refine Ev.step (fun k => by rw [content_EncodeAll.l1, if_neg (by omega), e1]) (Ev.bind (uint_ev s.f2.toNat p (by omega) (by omega)) (Ev.bind (view_ev h.hn h.hp h.high (p ++ uintB s.f2.toNat) (by rw [List.length_append]; omega)) (Ev.const fun _ => ?_)))
    simp [restB]
  | succ d ih =>
    intro i p hd hi hp
    have hlt : i < s.f1.length := by omega
    have hf := h.ord _ (List.getElem_mem hlt)
    have hl := labB_length hf
    rw [List.drop_eq_getElem_cons hlt, List.flatMap_cons, show p ++ (labB s.f1[i] ++ (s.f1.drop (i + 1)).flatMap labB ++ restB s) = (p ++ labB s.f1[i]) ++ ((s.f1.drop (i + 1)).flatMap labB ++ restB s) by simp]
    refine Ev.step (fun k => by rw [content_EncodeAll.l1, if_pos (by omega), if_pos (by omega), if_pos (by omega), rdL_nat hlt, wrap_nat (by omega)]) (Ev.bind (label_ev hf p (by omega)) (ih (i + 1) (p ++ labB s.f1[i]) (by omega) (by omega) (by simp; omega)))
theorem con_loop (s : S53) (h : RightS s) (hc : s.f0.length ≤ 1000) (ho : s.f1.length ≤ 1000) : ∀ (d i : Nat) (p : List Int), d = s.f0.length - i → i ≤ s.f0.length → p.length + d * 96 ≤ 1000000 → Ev (fun k => content_EncodeAll.l0 k p s.f0 (s.f0.length : Int) (i : Int) s.f0 s.f1 s.f2 s.f3.f0 s.f3.f1) (p ++ ((s.f0.drop i).flatMap entB ++ (uintB s.f1.length ++ (s.f1.flatMap labB ++ restB s))), 0) := by
  intro d
  induction d with
  | zero =>
    intro i p hd hi hp
    have : i = s.f0.length := by omega
    subst this
    rw [List.drop_length]
    have e1 : IntKind.u64.wrap ((s.f1.length : Int)) = (s.f1.length : Int) := by rw [IntKind.wrap_u64]; omega
    have hu := uintB_length s.f1.length (by omega)
    refine Ev.step (fun k => by rw [content_EncodeAll.l0, if_neg (by omega), e1]) (Ev.bind (uint_ev s.f1.length p (by omega) (by omega)) ?_)
    have := ord_loop s h ho s.f1.length 0 (p ++ uintB s.f1.length) rfl (Nat.zero_le _) (by simp; omega)
    simpa using this
  | succ d ih =>
    intro i p hd hi hp
    have hlt : i < s.f0.length := by omega
    have hf := h.con _ (List.getElem_mem hlt)
    have hl := entB_length hf.1 hf.2
    have hb := labB_length hf.1
    rw [List.drop_eq_getElem_cons hlt, List.flatMap_cons, show p ++ (entB s.f0[i] ++ (s.f0.drop (i + 1)).flatMap entB ++ (uintB s.f1.length ++ (s.f1.flatMap labB ++ restB s))) = (p ++ entB s.f0[i]) ++ ((s.f0.drop (i + 1)).flatMap entB ++ (uintB s.f1.length ++ (s.f1.flatMap labB ++ restB s))) by simp]
    refine Ev.step (fun k => by rw [content_EncodeAll.l0, if_pos (by omega), if_pos (by omega), if_pos (by omega), rdE_nat hlt, wrap_nat (by omega)]) (Ev.bind (label_ev hf.1 p (by omega)) (Ev.bind (bytes_ev s.f0[i].f1 (p ++ labB s.f0[i].f0) hf.2 (by simp; omega)) ?_))
    rw [List.append_assoc]
    exact ih (i + 1) (p ++ entB s.f0[i]) (by omega) (by omega) (by simp; omega)
theorem all_ev (s : S53) (h : RightS s) (hc : s.f0.length ≤ 1000) (ho : s.f1.length ≤ 1000) : Ev (fun k => content_EncodeAll.f k s.f0 s.f1 s.f2 s.f3.f0 s.f3.f1) (allB s, 0) := by
  unfold content_EncodeAll.f content_Right.f
  refine Ev.bind (right_loop s h hc ho s.f0.length 0 rfl (Nat.zero_le _)) ?_
  have e1 : IntKind.u64.wrap ((s.f0.length : Int)) = (s.f0.length : Int) := by rw [IntKind.wrap_u64]; omega
  have hu := uintB_length s.f0.length (by omega)
  simp only [if_true, e1]
  refine Ev.bind (uint_ev s.f0.length [2] (by omega) (by simp)) ?_
  have := con_loop s h hc ho s.f0.length 0 ([2] ++ uintB s.f0.length) rfl (Nat.zero_le _) (by simp; omega)
  simpa [allB] using this
end Go.Proofs.Ytioooiflpabngaa.PAll
end
section
namespace Go.Proofs.Ytioooiflpabngaa.PAll
open Go.RowKit Go.Proofs.YtioooiflpabngaaW.PrintWords
set_option linter.unusedVariables false
set_option linter.unusedSimpArgs false
theorem rightEs_len {l : List S32} (h : rightEs l) : l.length < 2513169434917 := by
  have h1 := h.1
  have h2 := reachBytes_lt
  have e : (2 : Nat) ^ 47 = 140737488355328 := by decide
  rw [e] at h2
  omega
end Go.Proofs.Ytioooiflpabngaa.PAll
end
section
namespace Go.Proofs.Ytioooiflpabngaa.PAll
open Go.RowKit Go.Proofs.YtioooiflpabngaaW.PrintWords Go.Proofs.YtioooiflpabngaaW.PrintLast Go.Proofs.YtioooiflpabngaaW.PrintMore
attribute [local go_sem] max2_int min2_int max_two min_two max_three min_three max_four min_four   -- for this text's walks alone
set_option linter.unusedVariables false
set_option linter.unusedSimpArgs false
attribute [local go_sem high] eqA27
def folkmootref15_Same.l0 : Nat → List (S32) → List (S32) → Int → Option (Bool)
 | 0, _, _, _ => none
 | k + 1, x0, x1, x5 => if x5 < (x0.length : Int) then (if 0 ≤ x5 then (if x5 < (x1.length : Int) then (if ((!(((rd_T32 x0 x5).f0.f0.f0) == ((rd_T32 x1 x5).f0.f0.f0)) || (!(((rd_T32 x0 x5).f0.f0.f1) == ((rd_T32 x1 x5).f0.f0.f1)))) || (!(((rd_T32 x0 x5).f0.f1) == ((rd_T32 x1 x5).f0.f1)) || (!(((rd_T32 x0 x5).f0.f2) == ((rd_T32 x1 x5).f0.f2))))) = true then (some false) else (if (strOfNums ((rd_T32 x0 x5).f1)).toList = (strOfNums ((rd_T32 x1 x5).f1)).toList then (folkmootref15_Same.l0 k x0 x1 (wrap64 (x5 + 1))) else (some false))) else (none)) else (none)) else (some true)
def folkmootref15_Same.f (k : Nat) (l0 : List (S32)) (l1 : List (S32)) : Option (Bool) := if (l0.length : Int) = (l1.length : Int) then (folkmootref15_Same.l0 k l0 l1 0) else (some false)
set_option maxHeartbeats 8000000 in
set_option maxRecDepth 100000 in
theorem folkmootref15_Same.calls (k : Nat) (A0 : Option Addr) (c0 : Nat) (l0 : List (S32)) (A1 : Option Addr) (c1 : Nat) (l1 : List (S32)) (r : Bool) (w : World) (hr0 : Kd.C k32 w A0 l0.length l0) (hc0 : l0.length ≤ c0) (hr1 : Kd.C k32 w A1 l1.length l1) (hc1 : l1.length ≤ c1) (h : folkmootref15_Same.f k l0 l1 = some r) :
  Calls Try.prog 27 #[.slice A0 l0.length c0, .slice A1 l1.length c1] w fun e w' => e = .returned (.bool r) ∧ Drawn0 w w' := by
 have hu27 := Try.underlying27
 have HR0 := Aside0.mk hr0
 have HC0 := Aside0.mk hc0
 clear hr0 hc0
 have HR1 := Aside0.mk hr1
 have HC1 := Aside0.mk hc1
 clear hr1 hc1
 have H : (if (l0.length : Int) = (l1.length : Int) then (folkmootref15_Same.l0 k l0 l1 0) else (some false)) = some r := h
 clear h
 by_cases c3 : (l0.length : Int) = (l1.length : Int)
 ·
  rw [if_pos c3] at H
  have c3b0 : ((l0.length : Int) == (l1.length : Int)) = true := beq_iff_eq.mpr c3
  have c3b1 : ((l0.length : Int) != (l1.length : Int)) = false := bne_eq_false_iff_eq.mpr c3
  have c3b2 : (l0.length == l1.length) = true := by first | simpa using c3 | (simp at c3 ⊢; omega)
  clear c3
  have H' := Aside0.mk H
  clear H
  go_enter Try.func27, Try.ntmps27
  go_wp2
  repeat (go_quiet (fail); try go_wp2)
  go_loopg [5] k (fun kq v5 w' => ∃ (x5_1 : Int), v5 = .int .i64 x5_1 ∧ Aside0 (folkmootref15_Same.l0 kq l0 l1 x5_1 = some r) ∧ Aside0 (kq ≤ k) ∧ Drawn0 w w')
  case atStart => exact ⟨(0), (by first | rfl | (simp; done) | (simp [*]; done)), H', ⟨Nat.le_refl _⟩, by repeat (first | exact Drawn0.refl _ | apply Drawn0.step)⟩
  case round =>
   clear H'
   try clear c1
   try clear c2
   try clear p2
   try clear c3
   try clear c3b0
   try clear c3b1
   try clear c3b2
   obtain ⟨x5_1, rfl, HA, HK1, ⟨m1, rfl⟩⟩ := hrel
   cases gk with
   | zero => exact absurd HA.out (by simp [folkmootref15_Same.l0])
   | succ k1 =>
    have H := HA.out
    clear HA
    simp only [folkmootref15_Same.l0] at H
    by_cases c4 : x5_1 < (l0.length : Int)
    ·
     rw [if_pos c4] at H
     have c4b0 : decide (x5_1 < (l0.length : Int)) = true := decide_eq_true c4
     clear c4
     by_cases c5 : 0 ≤ x5_1
     ·
      rw [if_pos c5] at H
      have c5b0 : decide (0 ≤ x5_1) = true := decide_eq_true c5
      clear c5
      by_cases c6 : x5_1 < (l1.length : Int)
      ·
       rw [if_pos c6] at H
       have c6b0 : decide (x5_1 < (l1.length : Int)) = true := decide_eq_true c6
       clear c6
       by_cases c7 : ((!(((rd_T32 l0 x5_1).f0.f0.f0) == ((rd_T32 l1 x5_1).f0.f0.f0)) || (!(((rd_T32 l0 x5_1).f0.f0.f1) == ((rd_T32 l1 x5_1).f0.f0.f1)))) || (!(((rd_T32 l0 x5_1).f0.f1) == ((rd_T32 l1 x5_1).f0.f1)) || (!(((rd_T32 l0 x5_1).f0.f2) == ((rd_T32 l1 x5_1).f0.f2))))) = true
       ·
        rw [if_pos c7] at H
        have c7b0 : ((!(((rd_T32 l0 x5_1).f0.f0.f0) == ((rd_T32 l1 x5_1).f0.f0.f0)) || (!(((rd_T32 l0 x5_1).f0.f0.f1) == ((rd_T32 l1 x5_1).f0.f0.f1)))) || (!(((rd_T32 l0 x5_1).f0.f1) == ((rd_T32 l1 x5_1).f0.f1)) || (!(((rd_T32 l0 x5_1).f0.f2) == ((rd_T32 l1 x5_1).f0.f2))))) = true := c7
        clear c7
        obtain rfl := Option.some.inj H
        have p248 : 0 ≤ (x5_1 : Int) := of_decide_eq_true zs_
        have q248 : x5_1 < (l0.length : Int) := of_decide_eq_true zs_
        obtain ⟨ad248, A248_4, c248_4, e248, hx248_0, hx248_1, hx248_2, hx248_3, hx248_4, hl248_4, hi248_4⟩ := at_T32 HR0.out x5_1 p248 q248
        cases e248
        have HR248_4 := Aside0.mk hi248_4
        have HC248_4 := Aside0.mk hl248_4
        clear hi248_4 hl248_4
        replace p248 := eq_true p248
        replace q248 := eq_true q248
        have p249 : 0 ≤ (x5_1 : Int) := of_decide_eq_true zs_
        have q249 : x5_1 < (l1.length : Int) := of_decide_eq_true zs_
        obtain ⟨ad249, A249_4, c249_4, e249, hx249_0, hx249_1, hx249_2, hx249_3, hx249_4, hl249_4, hi249_4⟩ := at_T32 HR1.out x5_1 p249 q249
        cases e249
        have HR249_4 := Aside0.mk hi249_4
        have HC249_4 := Aside0.mk hl249_4
        clear hi249_4 hl249_4
        replace p249 := eq_true p249
        replace q249 := eq_true q249
        go_wp2
        repeat (go_quiet (fail); try go_wp2)
        go_ret
        exact ⟨by first | rfl | (simp; done) | (simp [*]; done), by repeat (first | exact Drawn0.refl _ | apply Drawn0.step)⟩
       ·
        rw [if_neg c7] at H
        have c7b0 : ((!(((rd_T32 l0 x5_1).f0.f0.f0) == ((rd_T32 l1 x5_1).f0.f0.f0)) || (!(((rd_T32 l0 x5_1).f0.f0.f1) == ((rd_T32 l1 x5_1).f0.f0.f1)))) || (!(((rd_T32 l0 x5_1).f0.f1) == ((rd_T32 l1 x5_1).f0.f1)) || (!(((rd_T32 l0 x5_1).f0.f2) == ((rd_T32 l1 x5_1).f0.f2))))) = false := by simpa using c7
        clear c7
        by_cases c8 : (strOfNums ((rd_T32 l0 x5_1).f1)).toList = (strOfNums ((rd_T32 l1 x5_1).f1)).toList
        ·
         rw [if_pos c8] at H
         have c8b0 : ((strOfNums ((rd_T32 l0 x5_1).f1)).toList == (strOfNums ((rd_T32 l1 x5_1).f1)).toList) = true := beq_iff_eq.mpr c8
         have c8b1 : ((strOfNums ((rd_T32 l0 x5_1).f1)).toList != (strOfNums ((rd_T32 l1 x5_1).f1)).toList) = false := bne_eq_false_iff_eq.mpr c8
         clear c8
         have H' := Aside0.mk H
         clear H
         have p248 : 0 ≤ (x5_1 : Int) := of_decide_eq_true zs_
         have q248 : x5_1 < (l0.length : Int) := of_decide_eq_true zs_
         obtain ⟨ad248, A248_4, c248_4, e248, hx248_0, hx248_1, hx248_2, hx248_3, hx248_4, hl248_4, hi248_4⟩ := at_T32 HR0.out x5_1 p248 q248
         cases e248
         have HR248_4 := Aside0.mk hi248_4
         have HC248_4 := Aside0.mk hl248_4
         clear hi248_4 hl248_4
         replace p248 := eq_true p248
         replace q248 := eq_true q248
         have p249 : 0 ≤ (x5_1 : Int) := of_decide_eq_true zs_
         have q249 : x5_1 < (l1.length : Int) := of_decide_eq_true zs_
         obtain ⟨ad249, A249_4, c249_4, e249, hx249_0, hx249_1, hx249_2, hx249_3, hx249_4, hl249_4, hi249_4⟩ := at_T32 HR1.out x5_1 p249 q249
         cases e249
         have HR249_4 := Aside0.mk hi249_4
         have HC249_4 := Aside0.mk hl249_4
         clear hi249_4 hl249_4
         replace p249 := eq_true p249
         replace q249 := eq_true q249
         have p250 : 0 ≤ (x5_1 : Int) := of_decide_eq_true zs_
         have q250 : x5_1 < (l0.length : Int) := of_decide_eq_true zs_
         obtain ⟨ad250, A250_4, c250_4, e250, hx250_0, hx250_1, hx250_2, hx250_3, hx250_4, hl250_4, hi250_4⟩ := at_T32 HR0.out x5_1 p250 q250
         obtain rfl : ad248 = ad250 := (by injection e250)
         have HR250_4 := Aside0.mk hi250_4
         have HC250_4 := Aside0.mk hl250_4
         clear hi250_4 hl250_4
         replace p250 := eq_true p250
         replace q250 := eq_true q250
         have ea_ := Option.some.inj (hx248_4.symm.trans hx250_4)
         injection ea_ with ea_ en_ ec_
         subst ea_
         subst ec_
         clear en_
         have hcv9 := Kd.C_string (P := Try.prog) (A := A248_4) (c := c248_4) Try.underlying30 Try.underlying5 Try.underlying9 HR250_4.out
         have hcv9d := fun n_ : Nat => Kd.C_string (P := Try.prog) (A := A248_4) (c := c248_4) Try.underlying30 Try.underlying5 Try.underlying9 (Kd.C_drewN (HR250_4.out) n_)
         have p251 : 0 ≤ (x5_1 : Int) := of_decide_eq_true zs_
         have q251 : x5_1 < (l1.length : Int) := of_decide_eq_true zs_
         obtain ⟨ad251, A251_4, c251_4, e251, hx251_0, hx251_1, hx251_2, hx251_3, hx251_4, hl251_4, hi251_4⟩ := at_T32 HR1.out x5_1 p251 q251
         obtain rfl : ad249 = ad251 := (by injection e251)
         have HR251_4 := Aside0.mk hi251_4
         have HC251_4 := Aside0.mk hl251_4
         clear hi251_4 hl251_4
         replace p251 := eq_true p251
         replace q251 := eq_true q251
         have ea_ := Option.some.inj (hx249_4.symm.trans hx251_4)
         injection ea_ with ea_ en_ ec_
         subst ea_
         subst ec_
         clear en_
         have hcv10 := Kd.C_string (P := Try.prog) (A := A249_4) (c := c249_4) Try.underlying30 Try.underlying5 Try.underlying9 HR251_4.out
         have hcv10d := fun n_ : Nat => Kd.C_string (P := Try.prog) (A := A249_4) (c := c249_4) Try.underlying30 Try.underlying5 Try.underlying9 (Kd.C_drewN (HR251_4.out) n_)
         go_wp2
         repeat (go_quiet (fail); try go_wp2)
         go_roundg k1
         case measure => have := HK1.out; omega
         case rel => exact ⟨(wrap64 (x5_1 + 1)), (by first | rfl | (simp; done) | (simp [*]; done)), H', ⟨by have := HK1.out; omega⟩, by repeat (first | exact Drawn0.refl _ | apply Drawn0.step)⟩
        ·
         rw [if_neg c8] at H
         have c8b0 : ((strOfNums ((rd_T32 l0 x5_1).f1)).toList == (strOfNums ((rd_T32 l1 x5_1).f1)).toList) = false := beq_eq_false_iff_ne.mpr c8
         have c8b1 : ((strOfNums ((rd_T32 l0 x5_1).f1)).toList != (strOfNums ((rd_T32 l1 x5_1).f1)).toList) = true := bne_iff_ne.mpr c8
         obtain rfl := Option.some.inj H
         have p248 : 0 ≤ (x5_1 : Int) := of_decide_eq_true zs_
         have q248 : x5_1 < (l0.length : Int) := of_decide_eq_true zs_
         obtain ⟨ad248, A248_4, c248_4, e248, hx248_0, hx248_1, hx248_2, hx248_3, hx248_4, hl248_4, hi248_4⟩ := at_T32 HR0.out x5_1 p248 q248
         cases e248
         have HR248_4 := Aside0.mk hi248_4
         have HC248_4 := Aside0.mk hl248_4
         clear hi248_4 hl248_4
         replace p248 := eq_true p248
         replace q248 := eq_true q248
         have p249 : 0 ≤ (x5_1 : Int) := of_decide_eq_true zs_
         have q249 : x5_1 < (l1.length : Int) := of_decide_eq_true zs_
         obtain ⟨ad249, A249_4, c249_4, e249, hx249_0, hx249_1, hx249_2, hx249_3, hx249_4, hl249_4, hi249_4⟩ := at_T32 HR1.out x5_1 p249 q249
         cases e249
         have HR249_4 := Aside0.mk hi249_4
         have HC249_4 := Aside0.mk hl249_4
         clear hi249_4 hl249_4
         replace p249 := eq_true p249
         replace q249 := eq_true q249
         have p250 : 0 ≤ (x5_1 : Int) := of_decide_eq_true zs_
         have q250 : x5_1 < (l0.length : Int) := of_decide_eq_true zs_
         obtain ⟨ad250, A250_4, c250_4, e250, hx250_0, hx250_1, hx250_2, hx250_3, hx250_4, hl250_4, hi250_4⟩ := at_T32 HR0.out x5_1 p250 q250
         obtain rfl : ad248 = ad250 := (by injection e250)
         have HR250_4 := Aside0.mk hi250_4
         have HC250_4 := Aside0.mk hl250_4
         clear hi250_4 hl250_4
         replace p250 := eq_true p250
         replace q250 := eq_true q250
         have ea_ := Option.some.inj (hx248_4.symm.trans hx250_4)
         injection ea_ with ea_ en_ ec_
         subst ea_
         subst ec_
         clear en_
         have hcv11 := Kd.C_string (P := Try.prog) (A := A248_4) (c := c248_4) Try.underlying30 Try.underlying5 Try.underlying9 HR250_4.out
         have hcv11d := fun n_ : Nat => Kd.C_string (P := Try.prog) (A := A248_4) (c := c248_4) Try.underlying30 Try.underlying5 Try.underlying9 (Kd.C_drewN (HR250_4.out) n_)
         have p251 : 0 ≤ (x5_1 : Int) := of_decide_eq_true zs_
         have q251 : x5_1 < (l1.length : Int) := of_decide_eq_true zs_
         obtain ⟨ad251, A251_4, c251_4, e251, hx251_0, hx251_1, hx251_2, hx251_3, hx251_4, hl251_4, hi251_4⟩ := at_T32 HR1.out x5_1 p251 q251
         obtain rfl : ad249 = ad251 := (by injection e251)
         have HR251_4 := Aside0.mk hi251_4
         have HC251_4 := Aside0.mk hl251_4
         clear hi251_4 hl251_4
         replace p251 := eq_true p251
         replace q251 := eq_true q251
         have ea_ := Option.some.inj (hx249_4.symm.trans hx251_4)
         injection ea_ with ea_ en_ ec_
         subst ea_
         subst ec_
         clear en_
         have hcv12 := Kd.C_string (P := Try.prog) (A := A249_4) (c := c249_4) Try.underlying30 Try.underlying5 Try.underlying9 HR251_4.out
         have hcv12d := fun n_ : Nat => Kd.C_string (P := Try.prog) (A := A249_4) (c := c249_4) Try.underlying30 Try.underlying5 Try.underlying9 (Kd.C_drewN (HR251_4.out) n_)
         go_wp2
         repeat (go_quiet (fail); try go_wp2)
         go_ret
         exact ⟨by first | rfl | (simp; done) | (simp [*]; done), by repeat (first | exact Drawn0.refl _ | apply Drawn0.step)⟩
      ·
       rw [if_neg c6] at H
       exact absurd H (by simp)
     ·
      rw [if_neg c5] at H
      exact absurd H (by simp)
    ·
     rw [if_neg c4] at H
     have c4b0 : decide (x5_1 < (l0.length : Int)) = false := decide_eq_false c4
     clear c4
     obtain rfl := Option.some.inj H
     go_wp2
     repeat (go_quiet (fail); try go_wp2)
     go_ret
     exact ⟨by first | rfl | (simp; done) | (simp [*]; done), by repeat (first | exact Drawn0.refl _ | apply Drawn0.step)⟩
 ·
  rw [if_neg c3] at H
  have c3b0 : ((l0.length : Int) == (l1.length : Int)) = false := beq_eq_false_iff_ne.mpr c3
  have c3b1 : ((l0.length : Int) != (l1.length : Int)) = true := bne_iff_ne.mpr c3
  have c3b2 : (l0.length == l1.length) = false := by first | simpa using c3 | (simp at c3 ⊢; omega)
  obtain rfl := Option.some.inj H
  go_enter Try.func27, Try.ntmps27
  go_wp2
  repeat (go_quiet (fail); try go_wp2)
  go_ret
  exact ⟨by first | rfl | (simp; done) | (simp [*]; done), by repeat (first | exact Drawn0.refl _ | apply Drawn0.step)⟩
end Go.Proofs.Ytioooiflpabngaa.PAll
end
section
namespace Go.Proofs.Ytioooiflpabngaa.PAll
open Go.RowKit Go.Proofs.YtioooiflpabngaaW.PrintWords
set_option linter.unusedVariables false
set_option linter.unusedSimpArgs false
theorem form_any (x : S32) (h : rightE x) : ∃ b, folkmootref15_Form.f x.f0.f0.f0 x.f0.f0.f1 x.f0.f1 x.f0.f2 x.f1 = some b ∧ (b = true → FormL x.f0 ∧ x.f1.length ≤ 64) := by
  obtain ⟨f, h1, h2⟩ := forms_alike x.f0 h.1
  unfold folkmootref15_Form.f
  rw [h2, Option.bind_some]
  cases f with
  | false => exact ⟨false, by simp, by simp⟩
  | true =>
    rw [if_pos rfl]
    exact ⟨_, rfl, fun hb => ⟨form_of h.1 h1, by have := of_decide_eq_true hb; omega⟩⟩
theorem view_any (v : S25) (h : rightV v) : ∃ b, folkmootref04_Form.f v.f0 v.f1 = some b ∧ (b = true → ident_Form.f v.f0 v.f1 = some true ∧ (0 ≤ v.f1 ∧ v.f1 < 16)) := by
  have h0 := u64_range h.1
  unfold folkmootref04_Form.f ident_Form.f
  by_cases c0 : v.f0 = 0
  · rw [if_pos c0]
    refine ⟨_, rfl, fun hb => ?_⟩
    have hz : v.f1 = 0 := by simpa using hb
    rw [hz, c0]
    exact ⟨rfl, by omega, by omega⟩
  · rw [if_neg c0]
    by_cases c1 : v.f1 ≥ 0
    · rw [if_pos c1, if_pos c1]
      refine ⟨_, rfl, fun hb => ?_⟩
      have hz := of_decide_eq_true hb
      rw [if_pos (show v.f1 < 16 by omega), if_pos (show v.f0 > 0 by omega)]
      exact ⟨rfl, by omega, by omega⟩
    · rw [if_neg c1]
      exact ⟨false, rfl, fun hb => by cases hb⟩
theorem rising_any (l : List S32) (hl : l.length < 9223372036854775807) : ∀ (d i : Nat), d = l.length - i → 1 ≤ i → ∃ b, Ev (fun k => folkmootref15_Rising.l0 k l (i : Int)) b ∧ (b = true → ∀ j (hj : j < l.length), i ≤ j → ltL (l[j - 1]'(by omega)).f0 l[j].f0) := by
  intro d
  induction d with
  | zero =>
    intro i hd hi
    exact ⟨true, Ev.step (fun k => by rw [folkmootref15_Rising.l0, if_neg (by omega)]) (Ev.const fun _ => rfl), fun _ j hj hij => by omega⟩
  | succ d ih =>
    intro i hd hi
    obtain ⟨i, rfl⟩ : ∃ j, i = j + 1 := ⟨i - 1, by omega⟩
    have e1 : wrap64 (((i + 1 : Nat) : Int) - 1) = (i : Int) := by unfold wrap64; omega
    have h1 : i < l.length := by omega
    have h2 : i + 1 < l.length := by omega
    obtain ⟨b, hb, hc⟩ := ih (i + 1 + 1) (by omega) (by omega)
    have hs : ∀ (b2 : Bool), (if decide (cmpL l[i].f0 l[i + 1].f0 < 0) = true then b else false) = b2 → Ev (fun k => folkmootref15_Rising.l0 k l ((i + 1 : Nat) : Int)) b2 := by
      rintro b2 rfl
      refine Ev.step (b := fun k => (folkmootref05_Less.f k l[i].f0.f0.f0 l[i].f0.f0.f1 l[i].f0.f1 l[i].f0.f2 l[i + 1].f0.f0.f0 l[i + 1].f0.f0.f1 l[i + 1].f0.f1 l[i + 1].f0.f2).bind fun t => if t = true then folkmootref15_Rising.l0 k l ((i + 1 + 1 : Nat) : Int) else some false) (fun k => ?_) (Ev.bind (refLess_ev l[i].f0 l[i + 1].f0) ?_)
      · rw [folkmootref15_Rising.l0, if_pos (by omega), e1, if_pos (by omega), if_pos (by omega), if_pos (by omega), rdE_nat h1, rdE_nat h2, wrap_nat (by omega)]
      · by_cases hlt : cmpL l[i].f0 l[i + 1].f0 < 0
        · simp only [hlt, decide_true, if_true]
          exact hb
        · simp only [hlt, decide_false, Bool.false_eq_true, if_false]
          exact Ev.const fun _ => rfl
    refine ⟨_, hs _ rfl, fun ht j hj hij => ?_⟩
    by_cases hlt : cmpL l[i].f0 l[i + 1].f0 < 0
    · rw [if_pos (decide_eq_true hlt)] at ht
      rcases Nat.lt_or_ge (i + 1) j with h | h
      · exact hc ht j hj h
      · have : j = i + 1 := by omega
        subst this
        exact (cmpL_neg _ _).1 hlt
    · rw [if_neg (by simpa using hlt)] at ht
      cases ht
theorem rise_adj {l : List S32} (h : ∀ j (hj : j < l.length), 1 ≤ j → ltL (l[j - 1]'(by omega)).f0 l[j].f0) : Rise l := by
  refine List.pairwise_iff_getElem.2 fun i j hi hj hij => ?_
  obtain ⟨d, rfl⟩ : ∃ d, j = i + 1 + d := ⟨j - (i + 1), by omega⟩
  clear hij
  induction d with
  | zero => exact h (i + 1) hj (by omega)
  | succ d ih => exact ltL_trans (ih (by omega)) (h (i + 1 + (d + 1)) hj (by omega))
theorem dup_each {l : List S27} (h : ∀ i (hi : i < l.length), memL l[i] (l.take i) = false) : dup [] l = false := by
  have : ∀ (d i : Nat), d = l.length - i → i ≤ l.length → dup (l.take i) (l.drop i) = false := by
    intro d
    induction d with
    | zero =>
      intro i hd hi
      rw [List.drop_eq_nil_of_le (by omega)]
      rfl
    | succ d ih =>
      intro i hd hi
      have hlt : i < l.length := by omega
      rw [List.drop_eq_getElem_cons hlt, dup, h i hlt, Bool.false_or, show l.take i ++ [l[i]] = l.take (i + 1) from (List.take_succ_eq_append_getElem hlt).symm]
      exact ih (i + 1) (by omega) (by omega)
  simpa using this l.length 0 rfl (Nat.zero_le _)
theorem refRight_ord (s : S53) (h : rightS s) (hc : s.f0.length < 9223372036854775807) (ho : s.f1.length < 9223372036854775806) : ∀ (d i : Nat), d = s.f1.length - i → i ≤ s.f1.length → ∃ b, Ev (fun k => folkmootref15_Right.l1 k (i : Int) s.f0 s.f1 s.f2 s.f3.f0 s.f3.f1) b ∧
    (b = true → (∀ j (hj : j < s.f1.length), i ≤ j → FormL s.f1[j] ∧ memL s.f1[j] (s.f1.take j) = false) ∧ Rise s.f0 ∧ (1 ≤ s.f2 ∧ s.f2 ≤ (s.f1.length : Int) + 1) ∧ ident_Form.f s.f3.f0 s.f3.f1 = some true ∧ (0 ≤ s.f3.f1 ∧ s.f3.f1 < 16)) := by
  intro d
  induction d with
  | zero =>
    intro i hd hi
    obtain ⟨b, hb, hr⟩ := rising_any s.f0 hc (s.f0.length - 1) 1 rfl (Nat.le_refl _)
    have e2 : wrap64 ((s.f1.length : Int) + 1) = (s.f1.length : Int) + 1 := by rw [wrap_nat (by omega)]; omega
    obtain ⟨v, hv, hw⟩ := view_any s.f3 h.2.2.2
    have start : ∀ r, Ev (fun k => if b = true then (if s.f2 ≥ 1 then (if s.f2 ≤ (s.f1.length : Int) + 1 then ((folkmootref04_Form.f s.f3.f0 s.f3.f1).bind fun t508 => (some t508)) else (some false)) else (some false)) else (some false)) r → Ev (fun k => folkmootref15_Right.l1 k (i : Int) s.f0 s.f1 s.f2 s.f3.f0 s.f3.f1) r := fun r hr2 => by
      refine Ev.step (fun k => by rw [folkmootref15_Right.l1, if_neg (by omega), e2]) (Ev.bind (show Ev (fun k => folkmootref15_Rising.f k s.f0) b from hb) hr2)
    cases b with
    | false => exact ⟨false, start _ (Ev.const fun _ => by simp), fun hx => by cases hx⟩
    | true =>
      by_cases c1 : s.f2 ≥ 1
      · by_cases c2 : s.f2 ≤ (s.f1.length : Int) + 1
        · refine ⟨v, start _ (Ev.const fun _ => by rw [if_pos rfl, if_pos c1, if_pos c2, hv]; rfl), fun hx => ⟨fun j hj hij => by omega, rise_adj fun j hj h1 => hr rfl j hj h1, ⟨c1, c2⟩, hw hx⟩⟩
        · exact ⟨false, start _ (Ev.const fun _ => by rw [if_pos rfl, if_pos c1, if_neg c2]), fun hx => by cases hx⟩
      · exact ⟨false, start _ (Ev.const fun _ => by rw [if_pos rfl, if_neg c1]), fun hx => by cases hx⟩
  | succ d ih =>
    intro i hd hi
    have hlt : i < s.f1.length := by omega
    have hrl := h.2.1.2 _ (List.getElem_mem hlt)
    obtain ⟨f, h1, h2⟩ := forms_alike s.f1[i] hrl
    obtain ⟨b, hb, hc2⟩ := ih (i + 1) (by omega) (by omega)
    have hin := refIn_ev (s.f1.take i) s.f1[i] (by rw [List.length_take]; omega)
    have start : ∀ r, Ev (fun k => if f = true then ((folkmootref05_In.f k (s.f1.take i) s.f1[i].f0.f0 s.f1[i].f0.f1 s.f1[i].f1 s.f1[i].f2).bind fun t516 => (if t516 = true then (some false) else (folkmootref15_Right.l1 k ((i + 1 : Nat) : Int) s.f0 s.f1 s.f2 s.f3.f0 s.f3.f1))) else (some false)) r → Ev (fun k => folkmootref15_Right.l1 k (i : Int) s.f0 s.f1 s.f2 s.f3.f0 s.f3.f1) r := fun r hr2 => by
      refine Ev.step (fun k => ?_) hr2
      rw [folkmootref15_Right.l1, if_pos (by omega), if_pos (by omega), rdL_nat hlt, h2, Option.bind_some, if_pos (show (i : Int) ≤ (s.f1.length : Int) by omega), Int.toNat_natCast, wrap_nat (by omega)]
    cases f with
    | false => exact ⟨false, start _ (Ev.const fun _ => by simp), fun hx => by cases hx⟩
    | true =>
      cases hm : memL s.f1[i] (s.f1.take i) with
      | true =>
        rw [hm] at hin
        refine ⟨false, start _ ?_, fun hx => by cases hx⟩
        simp only [if_true]
        refine Ev.bind hin ?_
        simp only [if_true]
        exact Ev.const fun _ => rfl
      | false =>
        rw [hm] at hin
        refine ⟨b, start _ ?_, fun hx => ?_⟩
        · simp only [if_true]
          refine Ev.bind hin ?_
          simp only [Bool.false_eq_true, if_false]
          exact hb
        · obtain ⟨g1, g2⟩ := hc2 hx
          refine ⟨fun j hj hij => ?_, g2⟩
          rcases Nat.lt_or_ge i j with hlt2 | hge
          · exact g1 j hj hlt2
          · have : j = i := by omega
            subst this
            exact ⟨form_of hrl h1, hm⟩
theorem refRight_con (s : S53) (h : rightS s) (hc : s.f0.length < 9223372036854775807) (ho : s.f1.length < 9223372036854775806) : ∀ (d i : Nat), d = s.f0.length - i → i ≤ s.f0.length → ∃ b, Ev (fun k => folkmootref15_Right.l0 k (i : Int) s.f0 s.f1 s.f2 s.f3.f0 s.f3.f1) b ∧
    (b = true → (∀ j (hj : j < s.f0.length), i ≤ j → FormL s.f0[j].f0 ∧ s.f0[j].f1.length ≤ 64) ∧ (∀ j (hj : j < s.f1.length), 0 ≤ j → FormL s.f1[j] ∧ memL s.f1[j] (s.f1.take j) = false) ∧ Rise s.f0 ∧ (1 ≤ s.f2 ∧ s.f2 ≤ (s.f1.length : Int) + 1) ∧ ident_Form.f s.f3.f0 s.f3.f1 = some true ∧ (0 ≤ s.f3.f1 ∧ s.f3.f1 < 16)) := by
  intro d
  induction d with
  | zero =>
    intro i hd hi
    obtain ⟨b, hb, hr⟩ := refRight_ord s h hc ho s.f1.length 0 rfl (Nat.zero_le _)
    exact ⟨b, Ev.step (fun k => by rw [folkmootref15_Right.l0, if_neg (by omega)]; rfl) hb, fun hx => ⟨fun j hj hij => by omega, hr hx⟩⟩
  | succ d ih =>
    intro i hd hi
    have hlt : i < s.f0.length := by omega
    have hre := h.1.2 _ (List.getElem_mem hlt)
    obtain ⟨f, h1, h2⟩ := form_any s.f0[i] hre
    obtain ⟨b, hb, hc2⟩ := ih (i + 1) (by omega) (by omega)
    have start : ∀ r, Ev (fun k => if f = true then (folkmootref15_Right.l0 k ((i + 1 : Nat) : Int) s.f0 s.f1 s.f2 s.f3.f0 s.f3.f1) else (some false)) r → Ev (fun k => folkmootref15_Right.l0 k (i : Int) s.f0 s.f1 s.f2 s.f3.f0 s.f3.f1) r := fun r hr2 => by
      refine Ev.step (fun k => ?_) hr2
      rw [folkmootref15_Right.l0, if_pos (by omega), if_pos (by omega), rdE_nat hlt, h1, Option.bind_some, wrap_nat (by omega)]
    cases f with
    | false => exact ⟨false, start _ (Ev.const fun _ => by simp), fun hx => by cases hx⟩
    | true =>
      refine ⟨b, start _ (by simp only [if_true]; exact hb), fun hx => ?_⟩
      obtain ⟨g1, g2⟩ := hc2 hx
      refine ⟨fun j hj hij => ?_, g2⟩
      rcases Nat.lt_or_ge i j with hlt2 | hge
      · exact g1 j hj hlt2
      · have : j = i := by omega
        subst this
        exact h2 rfl
theorem refRight_any (s : S53) (h : rightS s) : ∃ b, Ev (fun k => folkmootref15_Right.f k s.f0 s.f1 s.f2 s.f3.f0 s.f3.f1) b ∧ (b = true → RightS s) := by
  have z0 := rightEs_len h.1
  have z1 := rightLs_len h.2.1
  obtain ⟨b, hb, hr⟩ := refRight_con s h (by omega) (by omega) s.f0.length 0 rfl (Nat.zero_le _)
  refine ⟨b, hb, fun hx => ?_⟩
  obtain ⟨g1, g2, g3, g4, g5, g6⟩ := hr hx
  refine ⟨fun e he => ?_, g3, fun l hl => ?_, dup_each fun i hi => (g2 i hi (Nat.zero_le _)).2, g4, g5, u64_range h.2.2.2.1, g6⟩
  · obtain ⟨j, hj, rfl⟩ := List.getElem_of_mem he
    exact g1 j hj (Nat.zero_le _)
  · obtain ⟨j, hj, rfl⟩ := List.getElem_of_mem hl
    exact (g2 j hj (Nat.zero_le _)).1
end Go.Proofs.Ytioooiflpabngaa.PAll
end
section
namespace Go.Proofs.Ytioooiflpabngaa.PAll
open Go.RowKit Go.Proofs.YtioooiflpabngaaW.PrintWords Go.Proofs.YtioooiflpabngaaW.PrintLast Go.Proofs.YtioooiflpabngaaW.PrintMore
set_option linter.unusedVariables false
set_option linter.unusedSimpArgs false
def Rd (w : World) (g : Nat) (l : List Int) (bad : Bool) : Prop := ∃ A c, w.heap[g]? = some (.cells #[.slice A l.length c, .bool bad] 143 (0, 0)) ∧ Kd.C (Kd.int .u8) w A l.length l ∧ l.length ≤ c ∧ ∀ ad, A = some ad → 0 < l.length → ad.block < g
theorem C_ne {w : World} {g : Nat} {cs : Array Value} {t : TypeId} {A : Option Addr} {n : Nat} {xs : List Int} (h : Kd.C (Kd.int .u8) w A n xs) (hb : w.heap[g]? = some (.cells cs t (0, 0))) (hc : ∀ (i : Nat) (x : Int), cs[i]? ≠ some (.int .u8 x)) : ∀ ad, A = some ad → 0 < n → ad.block ≠ g := by
  intro ad e hn eb
  obtain ⟨ad', e', hx⟩ := Kd.at_int h 0 (by omega) (by omega)
  rw [e] at e'
  cases e'
  simp only [Int.toNat_zero, Addr.add_zero'] at hx
  obtain ⟨b, o, p⟩ := ad
  simp only at eb
  subst eb
  have hx2 := hx
  cases p with
  | none => rw [blk_cell hb o] at hx2; exact hc _ _ hx2
  | some p => simp [World.cell?, hb] at hx2
theorem C_put {w w' : World} {g : Nat} {cs : Array Value} {t : TypeId} {A : Option Addr} {n : Nat} {xs : List Int} (h : Kd.C (Kd.int .u8) w A n xs) (hb : w.heap[g]? = some (.cells cs t (0, 0))) (hc : ∀ (i : Nat) (x : Int), cs[i]? ≠ some (.int .u8 x)) (hg : w.grownBy w' (some g)) : Kd.C (Kd.int .u8) w' A n xs :=
  Kd.C_keep (0 : Int) (h1 := fun _ => rfl) h (g := g) ⟨hg.size, fun i hi hne _ => hg.block i hi (fun e => hne (by cases e; rfl))⟩ (C_ne h hb hc)
theorem grown_set (w : World) (g i : Nat) (u : Value) : w.grownBy (w.setCell ⟨g, i, none⟩ u) (some g) :=
  ⟨rfl, rfl, rfl, by simp [World.setCell], fun j hj hne => Below.heap_setCell w _ u j (fun e => hne (by rw [e]))⟩
theorem grown_trans {a w w' : World} {row : Option Nat} (h : a.grownBy w row) (k : w.grownBy w' row) : a.grownBy w' row :=
  ⟨k.os.trans h.os, k.tape.trans h.tape, k.output.trans h.output, Nat.le_trans h.size k.size, fun i hi hr => (k.block i (Nat.lt_of_lt_of_le hi h.size) hr).trans (h.block i hi hr)⟩
theorem rd_cells (A : Option Addr) (n c : Nat) (v : Value) (hv : ∀ x, v ≠ .int .u8 x) (i : Nat) (x : Int) : (#[Value.slice A n c, v] : Array Value)[i]? ≠ some (.int .u8 x) := by
  rcases i with _ | _ | i
  · simp
  · simpa using hv x
  · simp
theorem Rd.cut {w : World} {g : Nat} {l : List Int} {A : Option Addr} {c : Nat} {bad : Bool} (hb : w.heap[g]? = some (.cells #[.slice A l.length c, .bool bad] 143 (0, 0))) (hC : Kd.C (Kd.int .u8) w A l.length l) (hc : l.length ≤ c) (hlo : ∀ ad, A = some ad → 0 < l.length → ad.block < g) (m : Nat) (hm : m ≤ l.length) :
    Rd (w.setCell ⟨g, 0, none⟩ (.slice (if c = m then A else A.map (·.add m)) (l.length - m) (c - m))) g (l.drop m) bad ∧ w.grownBy (w.setCell ⟨g, 0, none⟩ (.slice (if c = m then A else A.map (·.add m)) (l.length - m) (c - m))) (some g) := by
  refine ⟨⟨(if c = m then A else A.map (·.add m)), c - m, ?_, ?_, by rw [List.length_drop]; omega, ?_⟩, grown_set _ _ _ _⟩
  · rw [List.length_drop]
    exact (blk_set hb 0 _).trans rfl
  · have h1 := C_put hC hb (rd_cells A _ c _ (fun _ h => by cases h)) (grown_set w g 0 (.slice (if c = m then A else A.map (·.add m)) (l.length - m) (c - m)))
    have h2 := Kd.C_drop (m := m) (c := c) h1 hm hc
    have e : m * (Kd.int .u8).sz = m := Nat.mul_one m
    rw [e] at h2
    exact h2
  · intro ad e hp
    rw [List.length_drop] at hp
    split at e
    · exact hlo ad e (by omega)
    · cases A with
      | none => cases e
      | some a0 =>
        cases e
        have := hlo a0 rfl (by omega)
        unfold Addr.add
        split <;> exact this
theorem Rd.fail {w : World} {g : Nat} {l : List Int} {bad : Bool} (h : Rd w g l bad) : Rd (w.setCell ⟨g, 1, none⟩ (.bool true)) g l true ∧ w.grownBy (w.setCell ⟨g, 1, none⟩ (.bool true)) (some g) := by
  obtain ⟨A, c, hb, hC, hc, hlo⟩ := h
  exact ⟨⟨A, c, (blk_set hb 1 _).trans rfl, C_put hC hb (rd_cells A _ c _ (fun _ h => by cases h)) (grown_set _ _ _ _), hc, hlo⟩, grown_set _ _ _ _⟩
theorem C_low {w w' : World} {A : Option Addr} {n : Nat} {xs : List Int} {B : Nat} (h : Kd.C (Kd.int .u8) w A n xs) (hlo : ∀ ad, A = some ad → 0 < n → ad.block < B) (hb : ∀ k, k < B → w'.heap[k]? = w.heap[k]?) : Kd.C (Kd.int .u8) w' A n xs := by
  refine Kd.C_of_reads (enc := Value.int .u8) (d := (0 : Int)) (h1 := fun _ => rfl) ?_
  have h2 := Kd.reads_of_C (enc := Value.int .u8) (d := (0 : Int)) (h1 := fun _ => rfl) h
  refine ⟨h2.1, h2.2.1, fun hp => ?_⟩
  obtain ⟨ad, e, hx⟩ := h2.2.2 hp
  refine ⟨ad, e, fun j hj => ?_⟩
  have hl := hlo ad e hp
  rw [← hx j hj]
  refine World.cell?_of_block (hb _ ?_)
  unfold Addr.add
  split <;> exact hl
theorem Rd.keep {w w' : World} {g : Nat} {l : List Int} {bad : Bool} (h : Rd w g l bad) (hb : Below (g + 1) w w') : Rd w' g l bad := by
  obtain ⟨A, c, hb0, hC, hc, hlo⟩ := h
  exact ⟨A, c, (hb.block g (Nat.lt_succ_self _)).trans hb0, C_low hC hlo (fun k hk => hb.block k (by omega)), hc, hlo⟩
theorem Rd.lt {w : World} {g : Nat} {l : List Int} {bad : Bool} (h : Rd w g l bad) : g < w.heap.size := by
  obtain ⟨A, c, hb0, _⟩ := h
  exact blk_lt hb0
theorem grown_alloc {a w : World} {g : Nat} (h : a.grownBy w (some g)) (o : Obj) : a.grownBy (w.alloc o) (some g) :=
  grown_trans h (World.grownBy_alloc w o _)
theorem grown_drew {a w : World} {r : Option Nat} (h : a.grownBy w r) : a.grownBy w.drew r := ⟨h.os, h.tape, h.output, h.size, h.block⟩
theorem un_drew {a w : World} {r : Option Nat} (h : a.drew.grownBy w r) : a.grownBy w r := ⟨h.os, h.tape, h.output, h.size, h.block⟩
theorem cell_alloc {w : World} {a : Addr} {v : Value} (h : w.cell? a = some v) (o : Obj) : (w.alloc o).cell? a = some v :=
  (World.cell?_of_block (Below.heap_alloc w o _ (World.block_lt_of_cell? w a h))).trans h
theorem cell_drew {w : World} {a : Addr} {v : Value} (h : w.cell? a = some v) : w.drew.cell? a = some v := h
theorem cell_far {w : World} {a : Addr} {v : Value} (h : w.cell? a = some v) {p : Addr} (hp : a.block ≠ p.block) (u : Value) : (w.setCell p u).cell? a = some v :=
  (World.cell?_of_block (Below.heap_setCell w p u _ hp)).trans h
theorem grown_new {a w : World} {g : Nat} (h : a.grownBy w (some g)) {p : Addr} (hp : a.heap.size ≤ p.block) (u : Value) : a.grownBy (w.setCell p u) (some g) :=
  ⟨h.os, h.tape, h.output, Nat.le_trans h.size (by simp [World.setCell]), fun k hk hn => (Below.heap_setCell w p u k (by omega)).trans (h.block k hk hn)⟩
theorem grown_below {a w w' : World} {g : Nat} (h : a.grownBy w (some g)) (hb : Below w.heap.size w w') : a.grownBy w' (some g) :=
  grown_trans h ⟨hb.os, hb.tape, hb.output, hb.size, fun k hk _ => hb.block k hk⟩
theorem drop_rd (l : List Int) (k : Nat) (h : k < l.length) : l.drop k = rd l (k : Int) :: l.drop (k + 1) := by
  rw [List.drop_eq_getElem_cons h]
  simp [rd, h]
set_option maxHeartbeats 4000000 in
set_option maxRecDepth 100000 in
theorem read_Bad (g : Nat) (l : List Int) (bad : Bool) (w : World) (h : Rd w g l bad) :
    Calls Try.prog 120 #[.pointer (some ⟨g, 0, none⟩)] w fun e w' => e = .returned (.bool bad) ∧ w' = w := by
  obtain ⟨A, c, hb, hC, hc, hlo⟩ := h
  have h1 : w.cell? ⟨g, 1, none⟩ = some (.bool bad) := (blk_cell hb 1).trans rfl
  clear hC hb
  go_enter Try.func120, Try.ntmps120
  go_wp2
  go_ret
  exact ⟨rfl, rfl⟩
set_option maxHeartbeats 4000000 in
set_option maxRecDepth 100000 in
theorem read_Left (g : Nat) (l : List Int) (bad : Bool) (w : World) (h : Rd w g l bad) :
    Calls Try.prog 96 #[.pointer (some ⟨g, 0, none⟩)] w fun e w' => e = .returned (.int .i64 (if bad then 0 else l.length)) ∧ w' = w := by
  obtain ⟨A, c, hb, hC, hc, hlo⟩ := h
  have h0 : w.cell? ⟨g, 0, none⟩ = some (.slice A l.length c) := (blk_cell hb 0).trans rfl
  have h1 : w.cell? ⟨g, 1, none⟩ = some (.bool bad) := (blk_cell hb 1).trans rfl
  clear hC hb
  cases bad
  · go_enter Try.func96, Try.ntmps96
    go_wp2
    go_ret
    exact ⟨rfl, rfl⟩
  · go_enter Try.func96, Try.ntmps96
    go_wp2
    go_ret
    exact ⟨rfl, rfl⟩
set_option maxHeartbeats 4000000 in
set_option maxRecDepth 100000 in
theorem read_fail (g : Nat) (l : List Int) (bad : Bool) (w : World) (h : Rd w g l bad) :
    Calls Try.prog 122 #[.pointer (some ⟨g, 0, none⟩)] w fun e w' => e = .returned (.tuple #[]) ∧ w' = w.setCell ⟨g, 1, none⟩ (.bool true) := by
  obtain ⟨A, c, hb, hC, hc, hlo⟩ := h
  have h1 : w.cell? ⟨g, 1, none⟩ = some (.bool bad) := (blk_cell hb 1).trans rfl
  have hf := blk_frozen hb 1
  clear hC hb
  go_enter Try.func122, Try.ntmps122
  go_wp2
  go_end0
  exact ⟨rfl, rfl⟩
set_option maxHeartbeats 4000000 in
set_option maxRecDepth 100000 in
theorem read_New (A : Option Addr) (l : List Int) (c : Nat) (w : World) :
    Calls Try.prog 94 #[.slice A l.length c] w fun e w' => e = .returned (.pointer (some ⟨w.heap.size, 0, none⟩)) ∧ w' = w.alloc (.cells #[.slice A l.length c, .bool false] 143) := by
  go_enter Try.func94, Try.ntmps94
  go_wp2
  go_ret
  exact ⟨rfl, rfl⟩
end Go.Proofs.Ytioooiflpabngaa.PAll
end
section
namespace Go.Proofs.Ytioooiflpabngaa.PAll
open Go.RowKit Go.Proofs.YtioooiflpabngaaW.PrintWords Go.Proofs.YtioooiflpabngaaW.PrintLast Go.Proofs.YtioooiflpabngaaW.PrintMore
set_option linter.unusedVariables false
set_option linter.unusedSimpArgs false
def uAcc (i : Nat) (n b : Int) : Int := bits .or .u64 n (IntKind.u64.wrap (IntKind.u64.wrap (bits .and .u8 b 127) * 2 ^ (7 * i)))
def uGo : Nat → Int → List Int → Option (Int × List Int)
  | _, _, [] => none
  | i, n, b :: t => if (i = 9 ∧ b > 1) ∨ (i > 0 ∧ b = 0) then none else if b < 128 then some (uAcc i n b, t) else uGo (i + 1) (uAcc i n b) t
def uRd (l : List Int) (bad : Bool) : Int × List Int × Bool := if bad then (0, l, true) else match uGo 0 0 l with | none => (0, l, true) | some (n, t) => (n, t, false)
set_option maxHeartbeats 4000000 in
set_option maxRecDepth 100000 in
theorem read_Uint (g : Nat) (l : List Int) (bad : Bool) (w : World) (h : Rd w g l bad) (hl : l.length < 4398046511104) :
    Calls Try.prog 121 #[.pointer (some ⟨g, 0, none⟩)] w fun e w' => e = .returned (.int .u64 (uRd l bad).1) ∧ Rd w' g (uRd l bad).2.1 (uRd l bad).2.2 ∧ w.grownBy w' (some g) := by
  have HR := Aside0.mk h
  obtain ⟨A, c, hb, hC, hc, hlo⟩ := h
  have h0 : w.cell? ⟨g, 0, none⟩ = some (.slice A l.length c) := (blk_cell hb 0).trans rfl
  have h1 : w.cell? ⟨g, 1, none⟩ = some (.bool bad) := (blk_cell hb 1).trans rfl
  have hf0 := blk_frozen hb 0
  have hf1 := blk_frozen hb 1
  have HC := Aside0.mk hC
  have HB := Aside0.mk hb
  have HCC := Aside0.mk hc
  have HLO := Aside0.mk hlo
  have HL := Aside0.mk hl
  clear hC hb hc hl hlo
  cases bad
  · go_enter Try.func121, Try.ntmps121
    go_wp2
    go_loopw [3, 19] (fun nv i wr => ∃ (k : Nat) (n : Int), k ≤ l.length ∧ k ≤ 9 ∧ i = .int .i64 k ∧ nv = .int .u64 n ∧ wr = w ∧ Aside0 (uGo 0 0 l = uGo k n (l.drop k)))
      (fun _ i _ => l.length - (intOf i).toNat)
    case atStart => exact ⟨0, 0, Nat.zero_le _, by omega, rfl, rfl, rfl, ⟨rfl⟩⟩
    case round =>
      obtain ⟨k, n, hk, hk9, rfl, rfl, rfl, HU⟩ := hrel
      by_cases hlt : k < l.length
      · have hlt' : (k : Int) < (l.length : Int) := by omega
        have hz2 := HL.out
        obtain ⟨ad, e, hx⟩ := Kd.at_int HC.out (k : Int) (by omega) (by omega)
        subst e
        rw [Int.toNat_natCast] at hx
        have hd := drop_rd l k hlt
        generalize rd l (k : Int) = b at hx hd
        have hu := HU.out
        rw [hd] at hu
        have HBRK := Aside0.mk (show (k = 9 ∧ b > 1 ∨ k > 0 ∧ b = 0) → uRd l false = (0, l, true) from fun h => by simp only [uRd, hu, uGo, if_pos h]; rfl)
        have HRET := Aside0.mk (show ¬(k = 9 ∧ b > 1 ∨ k > 0 ∧ b = 0) → b < 128 → uRd l false = (uAcc k n b, l.drop (k + 1), false) from fun h h2 => by simp only [uRd, hu, uGo, if_neg h, if_pos h2]; rfl)
        have HNXT := Aside0.mk (show ¬(k = 9 ∧ b > 1 ∨ k > 0 ∧ b = 0) → ¬ b < 128 → uGo 0 0 l = uGo (k + 1) (uAcc k n b) (l.drop (k + 1)) from fun h h2 => by rw [hu]; simp only [uGo, if_neg h, if_neg h2])
        clear hu hd HU
        have HCUT := Aside0.mk (Rd.cut HB.out HC.out HCC.out HLO.out (k + 1) (by omega))
        by_cases hb0 : b = 0
        · subst hb0
          go_wp2
          all_goals try (exfalso; omega)
          all_goals try (go_ret; rw [HBRK.out (by first | omega | (simp; omega))]; exact ⟨rfl, HR.out.fail⟩)
          all_goals try (go_ret; rw [HRET.out (by first | omega | (simp; omega)) (by omega)]; have h7 := HCUT.out; refine ⟨rfl, ?_⟩; first | (rw [if_pos (by omega)] at h7; first | exact h7 | simpa [*] using h7) | (rw [if_neg (by omega)] at h7; first | exact h7 | simpa [Addr.add, *] using h7))
        · have hbq : (b == 0) = false := by simpa using hb0
          go_wp2
          all_goals try (exfalso; omega)
          all_goals try (go_ret; rw [HBRK.out (by first | omega | (simp; omega))]; exact ⟨rfl, HR.out.fail⟩)
          all_goals try (go_ret; rw [HRET.out (by first | omega | (simp; omega)) (by omega)]; have h7 := HCUT.out; refine ⟨rfl, ?_⟩; first | (rw [if_pos (by omega)] at h7; first | exact h7 | simpa [*] using h7) | (rw [if_neg (by omega)] at h7; first | exact h7 | simpa [Addr.add, *] using h7))
          all_goals try exact ⟨⟨k + 1, uAcc k n b, by omega, by omega, by simp, rfl, trivial, ⟨HNXT.out (by omega) (by omega)⟩⟩, by simp [intOf]; omega⟩
          all_goals go_ret
          all_goals rw [HRET.out (by omega) (by omega)]
          all_goals have h7 := HCUT.out
          all_goals obtain rfl : k = 9 := by omega
          all_goals refine ⟨rfl, ?_⟩
          · subst c
            rw [if_pos (by omega)] at h7
            exact h7
          · rw [if_neg (by omega)] at h7
            exact h7
      · obtain rfl : k = l.length := by omega
        have HBRK := Aside0.mk (show uRd l false = (0, l, true) from by simp only [uRd, HU.out, List.drop_length, uGo]; rfl)
        clear HU
        go_wp2
        go_ret
        rw [HBRK.out]
        exact ⟨rfl, HR.out.fail⟩
  · go_enter Try.func121, Try.ntmps121
    go_wp2
    go_ret
    exact ⟨rfl, HR.out, World.grownBy.refl _ _⟩
end Go.Proofs.Ytioooiflpabngaa.PAll
end
section
namespace Go.Proofs.Ytioooiflpabngaa.PAll
open Go.RowKit Go.Proofs.YtioooiflpabngaaW.PrintWords Go.Proofs.YtioooiflpabngaaW.PrintLast Go.Proofs.YtioooiflpabngaaW.PrintMore
set_option linter.unusedVariables false
set_option linter.unusedSimpArgs false
def iRd (l : List Int) (bad : Bool) (most : Int) : Int × List Int × Bool := if (uRd l bad).2.2 = true ∨ most < (uRd l bad).1 then (0, (uRd l bad).2.1, true) else (wrap64 (uRd l bad).1, (uRd l bad).2.1, false)
theorem uRd_len (l : List Int) (bad : Bool) : (uRd l bad).2.1.length ≤ l.length := by
  have h : ∀ (l : List Int) (i : Nat) (n : Int) (m : Int) (t : List Int), uGo i n l = some (m, t) → t.length ≤ l.length := by
    intro l
    induction l with
    | nil => intro i n m t h; cases h
    | cons b l ih =>
      intro i n m t h
      simp only [uGo] at h
      split at h
      · cases h
      · split at h
        · cases h
          simp
        · have := ih _ _ _ _ h
          simp
          omega
  unfold uRd
  split
  · exact Nat.le_refl _
  · split
    · exact Nat.le_refl _
    · next h2 => exact h _ _ _ _ _ h2
set_option maxHeartbeats 4000000 in
set_option maxRecDepth 100000 in
theorem read_Int (g : Nat) (l : List Int) (bad : Bool) (most : Int) (w : World) (h : Rd w g l bad) (hl : l.length < 4398046511104) (h0m : 0 ≤ most) (hm : most < 4398046511104) :
    Calls Try.prog 97 #[.pointer (some ⟨g, 0, none⟩), .int .i64 most] w fun e w' => e = .returned (.int .i64 (iRd l bad most).1) ∧ Rd w' g (iRd l bad most).2.1 (iRd l bad most).2.2 ∧ w.grownBy w' (some g) := by
  have HR := Aside0.mk h
  have HL := Aside0.mk hl
  clear h hl
  have hcall := read_Uint g l bad w HR.out HL.out
  obtain ⟨⟨n, t, b⟩, hu⟩ : ∃ u, uRd l bad = u := ⟨_, rfl⟩
  rw [hu] at hcall
  simp only at hcall
  have HU := Aside0.mk hu
  clear hu
  have HF := Aside0.mk (fun (w2 w3 : World) (h : Rd w2 g t b) (hg : w.grownBy w2 (some g)) (e : w3 = w2.setCell ⟨g, 1, none⟩ (.bool true)) => (show Rd w3 g t true ∧ w.grownBy w3 (some g) from by
    subst e
    have hf := Rd.fail h
    exact ⟨hf.1, grown_trans hg hf.2⟩))
  cases b
  · by_cases hn : most < n
    · go_enter Try.func97, Try.ntmps97
      go_wp2_with (first
        | (go_at_call 121; refine hcall.mono ?_; rintro e w2 ⟨rfl, hR, hg⟩; have HR2 := Aside0.mk hR; have HG2 := Aside0.mk hg; obtain ⟨A, c, hb, -, -, -⟩ := hR; have h1 : w2.cell? ⟨g, 1, none⟩ = some (.bool false) := (blk_cell hb 1).trans rfl; clear hb hg hcall)
        | (go_at_call 122; refine (read_fail g t false w2 HR2.out).mono ?_; rintro e w3 ⟨rfl, rfl⟩))
      go_ret
      simp only [iRd, HU.out, hn]
      exact ⟨by simp, by simpa using HF.out _ _ HR2.out HG2.out rfl⟩
    · go_enter Try.func97, Try.ntmps97
      go_wp2_with (first
        | (go_at_call 121; refine hcall.mono ?_; rintro e w2 ⟨rfl, hR, hg⟩; have HR2 := Aside0.mk hR; have HG2 := Aside0.mk hg; obtain ⟨A, c, hb, -, -, -⟩ := hR; have h1 : w2.cell? ⟨g, 1, none⟩ = some (.bool false) := (blk_cell hb 1).trans rfl; clear hb hg hcall))
      go_ret
      have e : iRd l bad most = (wrap64 n, t, false) := by simp [iRd, HU.out, hn]
      rw [e]
      exact ⟨rfl, HR2.out, HG2.out⟩
  · go_enter Try.func97, Try.ntmps97
    go_wp2_with (first
      | (go_at_call 121; refine hcall.mono ?_; rintro e w2 ⟨rfl, hR, hg⟩; have HR2 := Aside0.mk hR; have HG2 := Aside0.mk hg; obtain ⟨A, c, hb, -, -, -⟩ := hR; have h1 : w2.cell? ⟨g, 1, none⟩ = some (.bool true) := (blk_cell hb 1).trans rfl; clear hb hg hcall)
      | (go_at_call 122; refine (read_fail g t true w2 HR2.out).mono ?_; rintro e w3 ⟨rfl, rfl⟩))
    go_ret
    simp only [iRd, HU.out]
    exact ⟨by simp, by simpa using HF.out _ _ HR2.out HG2.out rfl⟩
end Go.Proofs.Ytioooiflpabngaa.PAll
end
section
namespace Go.Proofs.Ytioooiflpabngaa.PAll
open Go.RowKit Go.Proofs.YtioooiflpabngaaW.PrintWords Go.Proofs.YtioooiflpabngaaW.PrintLast Go.Proofs.YtioooiflpabngaaW.PrintMore
set_option linter.unusedVariables false
set_option linter.unusedSimpArgs false
theorem uRd_range (l : List Int) (bad : Bool) : 0 ≤ (uRd l bad).1 ∧ (uRd l bad).1 ≤ 18446744073709551615 := by
  have h : ∀ (l : List Int) (i : Nat) (n : Int) (m : Int) (t : List Int), uGo i n l = some (m, t) → 0 ≤ m ∧ m ≤ 18446744073709551615 := by
    intro l
    induction l with
    | nil => intro i n m t h; cases h
    | cons b l ih =>
      intro i n m t h
      simp only [uGo] at h
      split at h
      · cases h
      · split at h
        · cases h
          exact bits_within .or .u64 _ _
        · exact ih _ _ _ _ h
  unfold uRd
  split
  · exact ⟨Int.le_refl _, show (0 : Int) ≤ _ by decide⟩
  · split
    · exact ⟨Int.le_refl _, show (0 : Int) ≤ _ by decide⟩
    · next h2 => exact h _ _ _ _ _ h2
theorem iRd_range (l : List Int) (bad : Bool) (most : Int) (h0 : 0 ≤ most) (hm : most < 4398046511104) : 0 ≤ (iRd l bad most).1 ∧ (iRd l bad most).1 ≤ most := by
  have := uRd_range l bad
  unfold iRd
  split
  · exact ⟨Int.le_refl _, h0⟩
  · next h =>
    simp only [not_or, Int.not_lt] at h
    have e : wrap64 (uRd l bad).1 = (uRd l bad).1 := by unfold wrap64; omega
    simp only [e]
    omega
theorem iRd_len (l : List Int) (bad : Bool) (most : Int) : (iRd l bad most).2.1.length ≤ l.length := by
  unfold iRd
  split <;> exact uRd_len l bad
def bRd (l : List Int) (bad : Bool) (most : Int) : List Int × List Int × Bool := if (iRd l bad most).2.2 = true ∨ (iRd l bad most).2.1.length < (iRd l bad most).1 then ([], (iRd l bad most).2.1, true) else ((iRd l bad most).2.1.take (iRd l bad most).1.toNat, (iRd l bad most).2.1.drop (iRd l bad most).1.toNat, false)
set_option maxHeartbeats 4000000 in
set_option maxRecDepth 100000 in
theorem read_Bytes (g : Nat) (l : List Int) (bad : Bool) (most : Int) (w : World) (h : Rd w g l bad) (hl : l.length < 4398046511104) (h0m : 0 ≤ most) (hm : most < 4398046511104) :
    Calls Try.prog 119 #[.pointer (some ⟨g, 0, none⟩), .int .i64 most] w fun e w' => ∃ v, e = .returned v ∧ Kd.R (Kd.int .u8) 5 w' w.heap.size (fun _ => True) v (bRd l bad most).1 ∧ Rd w' g (bRd l bad most).2.1 (bRd l bad most).2.2 ∧ w.grownBy w' (some g) := by
  have hgl : g < w.heap.size := by
    obtain ⟨A, c, hb, -, -, -⟩ := h
    exact blk_lt hb
  have hcall := read_Int g l bad most w h hl h0m hm
  have hrg := iRd_range l bad most h0m hm
  have hln := iRd_len l bad most
  obtain ⟨⟨n, t, b⟩, hu⟩ : ∃ u, iRd l bad most = u := ⟨_, rfl⟩
  rw [hu] at hcall hrg hln
  simp only at hcall hrg hln
  have HU := Aside0.mk hu
  have HL := Aside0.mk hl
  have HGL := Aside0.mk hgl
  clear hu h hl hgl
  have HF := Aside0.mk (fun (w2 w3 : World) (h : Rd w2 g t b) (hg : w.grownBy w2 (some g)) (e : w3 = w2.setCell ⟨g, 1, none⟩ (.bool true)) => (show Rd w3 g t true ∧ w.grownBy w3 (some g) from by
    subst e
    have hf := Rd.fail h
    exact ⟨hf.1, grown_trans hg hf.2⟩))
  cases b
  · have hz := HL.out
    by_cases hn : (t.length : Int) < n
    · go_enter Try.func119, Try.ntmps119
      go_wp2_with (go_at_call 97; refine hcall.mono ?_; rintro e w2 ⟨rfl, hR, hg⟩; have HR2 := Aside0.mk hR; have HG2 := Aside0.mk hg; obtain ⟨A, c, hb, -, -, -⟩ := hR; have h0 : w2.cell? ⟨g, 0, none⟩ = some (.slice A t.length c) := (blk_cell hb 0).trans rfl; have h1 : w2.cell? ⟨g, 1, none⟩ = some (.bool false) := (blk_cell hb 1).trans rfl; have hf1 := blk_frozen hb 1; clear hb hg hcall)
      go_ret
      have e : bRd l bad most = ([], t, true) := by simp [bRd, HU.out, hn]
      rw [e]
      exact ⟨_, rfl, Kd.R_nil _ _ _ _ _, HF.out _ _ HR2.out HG2.out rfl⟩
    · go_enter Try.func119, Try.ntmps119
      go_wp2_with (first
        | (go_at_call 97; refine hcall.mono ?_; rintro e w2 ⟨rfl, hR, hg⟩; have HR2 := Aside0.mk hR; have HG2 := Aside0.mk hg; obtain ⟨A, c, hb, hC, hcc, hlo⟩ := hR; have h0 : w2.cell? ⟨g, 0, none⟩ = some (.slice A t.length c) := (blk_cell hb 0).trans rfl; have h1 : w2.cell? ⟨g, 1, none⟩ = some (.bool false) := (blk_cell hb 1).trans rfl; have hf0 := blk_frozen hb 0; have HC2 := Aside0.mk hC; have HB2 := Aside0.mk hb; have HLO := Aside0.mk hlo; clear hb hg hcall hC hlo)
        | ((with_reducible refine gate_builtin (b := .append) (xs := #[.const (.slice none 0 0), .tmp 34]) rfl ?_); at_builtin; refine Kd.R_append_rows (Kd.int .u8) (w0 := w2) w2.heap.size rfl (.const (.slice none 0 0)) (.tmp 34) 30 5 (.int .u8 0) 1 rfl Try.underlying30 info5 rfl (by decide) (by omega) (.slice none 0 0) ([] : List Int) (t.take n.toNat) A n.toNat n.toNat (fun _ => True) (fun _ => False) rfl rfl ?aO ?aR (fun _ _ h => h) (fun _ h => h.elim) ?aF ?aB ?aS ?aL ?_; (case aR => have h7 := Kd.C_take (m := n.toNat) HC2.out (by omega); rw [List.length_take, Nat.min_eq_left (by omega)] at h7; exact h7); (case aB => exact Below.refl _ _); (case aF => exact (fun _ _ => trivial)); (case aO => exact Kd.R_nil _ _ _ _ _); (case aS => exact Nat.le_refl _); (case aL => simp; omega); intro v5 w5 ho hb hg hat; have hb5 := blk_below HB2.out hb; have h05 : w5.cell? ⟨g, 0, none⟩ = some (.slice A t.length c) := (blk_cell hb5 0).trans rfl; have hf05 := blk_frozen hb5 0; have HO5 := Aside0.mk ho; have HB5 := Aside0.mk hb; have HG5 := Aside0.mk hb5; clear hg hat ho hb hb5))
      all_goals go_ret
      all_goals have e : bRd l bad most = (t.take n.toNat, t.drop n.toNat, false) := by simp [bRd, HU.out, hn]
      all_goals rw [e]
      all_goals have h7 := Rd.cut HG5.out (Kd.C_below HC2.out HB5.out) hcc HLO.out n.toNat (by omega)
      all_goals have hs := HG2.out.size
      all_goals have hgl := HGL.out
      all_goals have h8 : w.grownBy w5 (some g) := grown_trans HG2.out ⟨HB5.out.os, HB5.out.tape, HB5.out.output, HB5.out.size, fun k hk _ => HB5.out.block k hk⟩
      all_goals refine ⟨_, rfl, Kd.R_lower (Kd.R_mono (Kd.R_far (Kd.R_mono (Kd.R_bound HO5.out) (fun k hk => (show k ≠ g from by have := hk.2.1; omega))) (fun k hk => hk) _) (fun _ _ => trivial)) hs, ?_⟩
      all_goals first
        | (rw [if_pos (by assumption)] at h7; exact ⟨by first | exact h7.1 | (have h9 := h7.1; rw [show c - n.toNat = 0 by omega] at h9; exact h9) | simp [*], grown_trans h8 (grown_set _ _ _ _)⟩)
        | (rw [if_neg (by assumption)] at h7; exact ⟨by first | exact h7.1 | (have h9 := h7.1; rw [show c - n.toNat = 0 by omega] at h9; exact h9) | simp [*], grown_trans h8 (grown_set _ _ _ _)⟩)
  · go_enter Try.func119, Try.ntmps119
    go_wp2_with (go_at_call 97; refine hcall.mono ?_; rintro e w2 ⟨rfl, hR, hg⟩; have HR2 := Aside0.mk hR; have HG2 := Aside0.mk hg; obtain ⟨A, c, hb, -, -, -⟩ := hR; have h1 : w2.cell? ⟨g, 1, none⟩ = some (.bool true) := (blk_cell hb 1).trans rfl; clear hb hg hcall)
    go_ret
    have e : bRd l bad most = ([], t, true) := by simp [bRd, HU.out]
    rw [e]
    exact ⟨_, rfl, Kd.R_nil _ _ _ _ _, HR2.out, HG2.out⟩
end Go.Proofs.Ytioooiflpabngaa.PAll
end
section
namespace Go.Proofs.Ytioooiflpabngaa.PAll
open Go.RowKit Go.Proofs.YtioooiflpabngaaW.PrintWords
set_option linter.unusedVariables false
set_option linter.unusedSimpArgs false
theorem or64 (n y : Nat) (hn : n < 18446744073709551616) (hy : y < 18446744073709551616) : bits .or .u64 (n : Int) (y : Int) = ((n ||| y : Nat) : Int) := by
  have e : ∀ m : Nat, BitVec.ofInt 64 (m : Int) = BitVec.ofNat 64 m := fun m => by simp
  have hor : n ||| y < 18446744073709551616 := Nat.or_lt_two_pow (n := 64) hn hy
  show IntKind.u64.wrap ((BitVec.ofInt 64 (n : Int) ||| BitVec.ofInt 64 (y : Int)).toNat : Int) = _
  rw [e, e, BitVec.toNat_or, BitVec.toNat_ofNat, BitVec.toNat_ofNat, Nat.mod_eq_of_lt (show n < 2 ^ 64 from hn), Nat.mod_eq_of_lt (show y < 2 ^ 64 from hy)]
  have : IntKind.u64.wrap ((n ||| y : Nat) : Int) = ((n ||| y : Nat) : Int) % 18446744073709551616 := rfl
  rw [this]
  omega
theorem and127 : ∀ a : Fin 256, bits .and .u8 ((a.val : Nat) : Int) 127 = ((a.val % 128 : Nat) : Int) := by decide +kernel
theorem u64_wrap (n : Nat) : IntKind.u64.wrap (n : Int) = ((n % 18446744073709551616 : Nat) : Int) := by
  have : IntKind.u64.wrap (n : Int) = (n : Int) % 18446744073709551616 := rfl
  rw [this]
  omega
theorem pow7 (i : Nat) : (2 : Nat) ^ (7 * i) = 128 ^ i := by rw [Nat.pow_mul]
theorem pow7i (i : Nat) : (2 : Int) ^ (7 * i) = ((128 ^ i : Nat) : Int) := by
  rw [← pow7]
  simp
theorem uAcc_nat (i n b : Nat) (hb : b < 256) (hn : n < 128 ^ i) (hi : i ≤ 9) (h9 : i = 9 → b % 128 ≤ 1) : uAcc i (n : Int) (b : Int) = ((n + b % 128 * 128 ^ i : Nat) : Int) ∧ n + b % 128 * 128 ^ i < 18446744073709551616 := by
  have h1 : n + b % 128 * 128 ^ i < 18446744073709551616 := by
    have hlt : b % 128 < 128 := Nat.mod_lt _ (by decide)
    by_cases e : i = 9
    · have := h9 e
      subst e
      have e9 : 128 ^ 9 = 9223372036854775808 := by decide
      rw [e9] at hn ⊢
      omega
    · have h8 : 128 ^ i ≤ 128 ^ 8 := Nat.pow_le_pow_right (by decide) (by omega)
      have e8 : 128 ^ 8 = 72057594037927936 := by decide
      rw [e8] at h8
      have : b % 128 * 128 ^ i ≤ 127 * 128 ^ i := Nat.mul_le_mul_right _ (by omega)
      omega
  refine ⟨?_, h1⟩
  have ha := and127 ⟨b, hb⟩
  simp only at ha
  unfold uAcc
  rw [ha, u64_wrap, pow7i, Nat.mod_eq_of_lt (show b % 128 < 18446744073709551616 by omega), ← Int.natCast_mul, u64_wrap, Nat.mod_eq_of_lt (by omega), or64 _ _ (by omega) (by omega)]
  congr 1
  rw [← pow7] at hn ⊢
  rw [Nat.or_comm, Nat.mul_comm, ← Nat.two_pow_add_eq_or_of_lt hn]
  omega
def dec : List Int → Nat
  | [] => 0
  | x :: t => x.toNat % 128 + 128 * dec t
theorem dec_append (p q : List Int) : dec (p ++ q) = dec p + 128 ^ p.length * dec q := by
  induction p with
  | nil => simp [dec]
  | cons x p ih =>
    simp only [List.cons_append, dec, ih, List.length_cons, Nat.pow_succ]
    rw [Nat.mul_add, ← Nat.mul_assoc, Nat.mul_comm 128 (128 ^ _)]
    omega
theorem dec_lt : ∀ p : List Int, dec p < 128 ^ p.length
  | [] => by simp [dec]
  | x :: t => by
    have := dec_lt t
    simp only [dec, List.length_cons, Nat.pow_succ]
    omega
theorem dec_uintB (n : Nat) : dec (uintB n) = n := by
  induction n using Nat.strongRecOn with
  | _ n ih =>
    rw [uintB]
    split
    · rw [dec, ih (n / 128) (by omega)]
      omega
    · simp only [dec]
      omega
def More (p : List Int) : Prop := ∀ x ∈ p, 128 ≤ x ∧ x < 256
theorem uintB_shape (n : Nat) : ∃ q c, uintB n = q ++ [c] ∧ More q ∧ 0 ≤ c ∧ c < 128 ∧ (q ≠ [] → c ≠ 0) := by
  induction n using Nat.strongRecOn with
  | _ n ih =>
    rw [uintB]
    split
    · next h =>
      obtain ⟨q, c, e, hq, h0, h1, h2⟩ := ih (n / 128) (by omega)
      refine ⟨((128 + n % 128 : Nat) : Int) :: q, c, by rw [e]; rfl, fun x hx => ?_, h0, h1, fun _ => ?_⟩
      · rcases List.mem_cons.1 hx with rfl | hx
        · omega
        · exact hq x hx
      · cases q with
        | cons y q => exact h2 (by simp)
        | nil =>
          intro hc
          have hd := dec_uintB (n / 128)
          rw [e] at hd
          simp only [List.nil_append, dec] at hd
          omega
    · exact ⟨[], (n : Int), rfl, (fun x hx => nomatch hx), by omega, by omega, fun h => absurd rfl h⟩
theorem more_inj : ∀ {p q : List Int} {b c : Int} {s t : List Int}, More p → More q → b < 128 → c < 128 → p ++ b :: s = q ++ c :: t → p = q ∧ b = c ∧ s = t
  | [], [], b, c, s, t, _, _, _, _, h => by simp only [List.nil_append, List.cons.injEq] at h; exact ⟨rfl, h.1, h.2⟩
  | [], y :: q, b, c, s, t, _, hq, hb, _, h => by
    simp only [List.nil_append, List.cons_append, List.cons.injEq] at h
    have := hq y List.mem_cons_self
    omega
  | x :: p, [], b, c, s, t, hp, _, _, hc, h => by
    simp only [List.nil_append, List.cons_append, List.cons.injEq] at h
    have := hp x List.mem_cons_self
    omega
  | x :: p, y :: q, b, c, s, t, hp, hq, hb, hc, h => by
    simp only [List.cons_append, List.cons.injEq] at h
    obtain ⟨e1, e2, e3⟩ := more_inj (fun z hz => hp z (List.mem_cons_of_mem _ hz)) (fun z hz => hq z (List.mem_cons_of_mem _ hz)) hb hc h.2
    exact ⟨by rw [h.1, e1], e2, e3⟩
theorem dec_bound (p : List Int) (b : Int) (h0 : 0 ≤ b) (h1 : b < 128) : dec (p ++ [b]) = dec p + b.toNat * 128 ^ p.length := by
  rw [dec_append]
  simp only [dec]
  rw [Nat.mul_comm]
  congr 2
  omega
theorem uGo_of : ∀ (l p : List Int) (n : Nat) (t : List Int), More p → Byt l → n < 18446744073709551616 → p ++ l = uintB n ++ t → p.length ≤ 9 → uGo p.length (dec p : Int) l = some ((n : Int), t) := by
  intro l
  induction l with
  | nil =>
    intro p n t hp _ _ h _
    obtain ⟨q, c, e, hq, h0, h1, h2⟩ := uintB_shape n
    exfalso
    rw [e] at h
    have hc : c ∈ p ++ [] := by rw [h]; simp
    rw [List.append_nil] at hc
    have := hp c hc
    omega
  | cons b l ih =>
    intro p n t hp hl hn h h9
    have hb := hl b List.mem_cons_self
    obtain ⟨q, c, e, hq, h0, h1, h2⟩ := uintB_shape n
    have hd := dec_uintB n
    obtain ⟨bn, rfl⟩ : ∃ bn : Nat, b = (bn : Int) := ⟨b.toNat, by omega⟩
    have h' : p ++ (bn : Int) :: l = q ++ c :: t := by rw [h, e]; simp
    by_cases hlt : (bn : Int) < 128
    · obtain ⟨rfl, rfl, rfl⟩ := more_inj hp hq hlt h1 h'
      rw [e, dec_bound p bn (by omega) hlt, Int.toNat_natCast] at hd
      have h10 : p.length = 9 → bn ≤ 1 := fun e9 => by
        rw [e9, show 128 ^ 9 = 9223372036854775808 by decide] at hd
        omega
      have ha := uAcc_nat p.length (dec p) bn (by omega) (dec_lt p) h9 (fun e9 => by have := h10 e9; omega)
      have hno : ¬ ((p.length = 9 ∧ (bn : Int) > 1) ∨ (p.length > 0 ∧ (bn : Int) = 0)) := by
        rintro (⟨a, b⟩ | ⟨a, b⟩)
        · have := h10 a
          omega
        · exact h2 (by cases p; simp at a; simp) b
      simp only [uGo, if_neg hno, if_pos hlt, ha.1, Option.some.injEq, Prod.mk.injEq, and_true]
      have : bn % 128 = bn := by omega
      rw [this, hd]
    · have hno : ¬ ((p.length = 9 ∧ (bn : Int) > 1) ∨ (p.length > 0 ∧ (bn : Int) = 0)) := by
        rintro (⟨a, b⟩ | ⟨a, b⟩)
        · have hle := uintB_length n hn
          have hpq : p.length < q.length := by
            apply Nat.lt_of_not_le
            intro hqp
            have h3 := congrArg (fun l => l[q.length]?) h'
            simp only [List.getElem?_append_right (Nat.le_refl _), Nat.sub_self, List.getElem?_cons_zero] at h3
            by_cases h4 : q.length < p.length
            · rw [List.getElem?_append_left h4] at h3
              have := hp c (List.mem_of_getElem? h3)
              omega
            · have : q.length = p.length := by omega
              rw [this, List.getElem?_append_right (Nat.le_refl _), Nat.sub_self, List.getElem?_cons_zero] at h3
              injection h3 with h3
              omega
          rw [e, List.length_append, List.length_singleton] at hle
          omega
        · omega
      have h9' : p.length ≠ 9 := by
        intro e9
        apply hno
        left
        exact ⟨e9, by omega⟩
      have ha := uAcc_nat p.length (dec p) bn (by omega) (dec_lt p) h9 (fun e9 => absurd e9 h9')
      have e2 : dec (p ++ [(bn : Int)]) = dec p + bn % 128 * 128 ^ p.length := by
        rw [dec_append]
        simp only [dec, Int.toNat_natCast]
        rw [Nat.mul_comm]
        simp
      simp only [uGo, if_neg hno, if_neg hlt, ha.1]
      rw [← e2]
      have h5 := ih (p ++ [(bn : Int)]) n t (fun x hx => by rcases List.mem_append.1 hx with hx | hx; exact hp x hx; rw [List.mem_singleton] at hx; subst hx; omega) (fun x hx => hl x (List.mem_cons_of_mem _ hx)) hn (by rw [← h]; simp) (by simp; omega)
      simpa using h5
theorem uRd_of {n : Nat} {t : List Int} (ht : Byt t) (hn : n < 18446744073709551616) : uRd (uintB n ++ t) false = ((n : Int), t, false) := by
  have h := uGo_of (uintB n ++ t) [] n t (fun x hx => by cases hx) ((uintB_byt n).append ht) hn rfl (by simp)
  have h' : uGo 0 0 (uintB n ++ t) = some ((n : Int), t) := h
  unfold uRd
  simp only [Bool.false_eq_true, if_false, h']
end Go.Proofs.Ytioooiflpabngaa.PAll
end
section
namespace Go.Proofs.Ytioooiflpabngaa.PAll
open Go.RowKit Go.Proofs.YtioooiflpabngaaW.PrintWords Go.Proofs.YtioooiflpabngaaW.PrintLast Go.Proofs.YtioooiflpabngaaW.PrintMore
set_option linter.unusedVariables false
set_option linter.unusedSimpArgs false
def fV (n p : Int) : Bool := (ident_Form.f n p).getD false
theorem fV_eq (n p : Int) : ident_Form.f n p = some (fV n p) := by
  unfold fV ident_Form.f
  repeat' split
  all_goals rfl
def fL (n p q s : Int) : Bool := (label_Form.f n p q s).getD false
theorem fL_eq (n p q s : Int) : label_Form.f n p q s = some (fL n p q s) := by
  unfold fL label_Form.f
  rw [fV_eq, Option.bind_some]
  repeat' split
  all_goals rfl
def vRd (l : List Int) (bad : Bool) : S25 × Bool × List Int × Bool :=
  if (iRd (uRd l bad).2.1 (uRd l bad).2.2 15).2.2 = true ∨ fV (uRd l bad).1 (iRd (uRd l bad).2.1 (uRd l bad).2.2 15).1 = false then (⟨0, 0⟩, false, (iRd (uRd l bad).2.1 (uRd l bad).2.2 15).2)
  else (⟨(uRd l bad).1, (iRd (uRd l bad).2.1 (uRd l bad).2.2 15).1⟩, true, (iRd (uRd l bad).2.1 (uRd l bad).2.2 15).2)
theorem vRd_len (l : List Int) (bad : Bool) : (vRd l bad).2.2.1.length ≤ l.length := by
  have h1 := uRd_len l bad
  have h2 := iRd_len (uRd l bad).2.1 (uRd l bad).2.2 15
  unfold vRd
  split <;> exact Nat.le_trans h2 h1
theorem blk2 {w : World} {g : Nat} {a b : Value} {t : TypeId} (h : w.heap[g]? = some (.cells #[a, b] t (0, 0))) : w.cell? ⟨g, 0, none⟩ = some a ∧ w.cell? ⟨g, 1, none⟩ = some b ∧ w.frozen? ⟨g, 0, none⟩ = false ∧ w.frozen? ⟨g, 1, none⟩ = false ∧ g < w.heap.size :=
  ⟨(blk_cell h 0).trans rfl, (blk_cell h 1).trans rfl, blk_frozen h 0, blk_frozen h 1, blk_lt h⟩
theorem blk4 {w : World} {g : Nat} {a b c d : Value} {t : TypeId} (h : w.heap[g]? = some (.cells #[a, b, c, d] t (0, 0))) : w.cell? ⟨g, 0, none⟩ = some a ∧ w.cell? ⟨g, 1, none⟩ = some b ∧ w.cell? ⟨g, 2, none⟩ = some c ∧ w.cell? ⟨g, 3, none⟩ = some d ∧ w.frozen? ⟨g, 0, none⟩ = false ∧ w.frozen? ⟨g, 1, none⟩ = false ∧ w.frozen? ⟨g, 2, none⟩ = false ∧ w.frozen? ⟨g, 3, none⟩ = false ∧ g < w.heap.size :=
  ⟨(blk_cell h 0).trans rfl, (blk_cell h 1).trans rfl, (blk_cell h 2).trans rfl, (blk_cell h 3).trans rfl, blk_frozen h 0, blk_frozen h 1, blk_frozen h 2, blk_frozen h 3, blk_lt h⟩
theorem blk5 {w : World} {g : Nat} {a b c d f : Value} {t : TypeId} (h : w.heap[g]? = some (.cells #[a, b, c, d, f] t (0, 0))) : w.cell? ⟨g, 0, none⟩ = some a ∧ w.cell? ⟨g, 1, none⟩ = some b ∧ w.cell? ⟨g, 2, none⟩ = some c ∧ w.cell? ⟨g, 3, none⟩ = some d ∧ w.cell? ⟨g, 4, none⟩ = some f ∧ w.frozen? ⟨g, 0, none⟩ = false ∧ w.frozen? ⟨g, 1, none⟩ = false ∧ w.frozen? ⟨g, 2, none⟩ = false ∧ w.frozen? ⟨g, 3, none⟩ = false ∧ w.frozen? ⟨g, 4, none⟩ = false ∧ g < w.heap.size :=
  ⟨(blk_cell h 0).trans rfl, (blk_cell h 1).trans rfl, (blk_cell h 2).trans rfl, (blk_cell h 3).trans rfl, (blk_cell h 4).trans rfl, blk_frozen h 0, blk_frozen h 1, blk_frozen h 2, blk_frozen h 3, blk_frozen h 4, blk_lt h⟩
set_option maxHeartbeats 4000000 in
set_option maxRecDepth 100000 in
theorem read_View (g : Nat) (l : List Int) (bad : Bool) (w : World) (h : Rd w g l bad) (hl : l.length < 4398046511104) :
    Calls Try.prog 99 #[.pointer (some ⟨g, 0, none⟩)] w fun e w' => e = .returned (.tuple #[.agg #[.int .u64 (vRd l bad).1.f0, .int .i64 (vRd l bad).1.f1], .bool (vRd l bad).2.1]) ∧ Rd w' g (vRd l bad).2.2.1 (vRd l bad).2.2.2 ∧ w.grownBy w' (some g) := by
  have hcall := fun W hW => read_Uint g l bad W hW hl
  have hln := uRd_len l bad
  have hgl := h.lt
  have hne : some w.heap.size ≠ some g := by simp; omega
  unfold vRd
  obtain ⟨⟨n, t, b⟩, hu⟩ : ∃ u, uRd l bad = u := ⟨_, rfl⟩
  rw [hu] at hcall hln ⊢
  simp only at hcall hln ⊢
  have hcall2 := fun W hW => read_Int g t b 15 W hW (by omega) (by decide) (by decide)
  obtain ⟨⟨p, s, b2⟩, hi⟩ : ∃ u, iRd t b 15 = u := ⟨_, rfl⟩
  rw [hi] at hcall2 ⊢
  simp only at hcall2 ⊢
  have HL := Aside0.mk hl
  have HR := Aside0.mk h
  clear h hl hu hi
  have hcall3 := fun W => ident_Form.calls n p _ W (fV_eq n p)
  cases b2
  · cases hf : fV n p
    · rw [hf] at hcall3
      simp only [Bool.false_eq_true, false_or, if_true]
      go_enter Try.func99, Try.ntmps99
      go_wp2_with (first
        | (go_at_call 121; refine (hcall _ (HR.out.keep (by with_reducible (repeat (first | exact Aside0.out HR | exact Below.refl _ _ | refine Below.drew ?_ | refine Below.alloc ?_ (by first | omega | (simp; done) | (simp; omega)) _ | refine Below.setCell ?_ (show _ ≤ _ by first | omega | (simp; omega)) _))))).mono ?_; rintro e w2 ⟨rfl, hR, hg⟩; have HR2 := Aside0.mk hR; have HG2 := Aside0.mk (grown_trans (grown_alloc (World.grownBy.refl _ _) _) hg); have HB2 := Aside0.mk (blk_grown (blk_new w _) hg hne); clear hR hg)
        | (go_at_call 97; refine (hcall2 _ HR2.out).mono ?_; rintro e w3 ⟨rfl, hR, hg⟩; have HR3 := Aside0.mk hR; have HG3 := Aside0.mk (grown_trans HG2.out hg); have hB3 := blk_grown HB2.out hg hne; have HB3 := Aside0.mk hB3; obtain ⟨hc30, hc31, hf30, hf31, hlt3⟩ := blk2 hB3; clear hR hg HR2 HG2 hB3)
        | (go_at_call 120; refine (read_Bad _ _ _ _ (HR3.out.keep (by with_reducible (repeat (first | exact Aside0.out HR3 | exact Below.refl _ _ | refine Below.drew ?_ | refine Below.alloc ?_ (by first | omega | (simp; done) | (simp; omega)) _ | refine Below.setCell ?_ (show _ ≤ _ by first | omega | (simp; omega)) _))))).mono ?_; rintro e w4 ⟨rfl, rfl⟩)
        | (go_at_call 83; refine (hcall3 _).mono ?_; rintro e w5 ⟨rfl, hb5⟩; obtain ⟨hc50, hc51, hf50, hf51, hlt5⟩ := blk2 (blk_below (blk_alloc HB3.out _) hb5); have HBR5 := Aside0.mk (blk_below (blk_alloc HB3.out _) hb5); obtain ⟨hv50, hv51, hw50, hw51, hlv5⟩ := blk2 (blk_below (blk_new w3 _) hb5); have HK5 := Aside0.mk (show Below (g + 1) w3 w5 from (Below.alloc (Below.refl _ _) (by omega) _).trans (hb5.mono (by simp; omega))); have HG5 := Aside0.mk (grown_below (grown_alloc HG3.out _) hb5); clear hb5))
      refine bodyPost_ret (results_ct rfl _ _ w.heap.size 25 #[.int .u64 0, .int .i64 0] (0, 0) _ rfl (blk_put (cs := #[.int .u64 0, .int .i64 0]) (blk_put HBR5.out 0 _ rfl) 1 _ rfl) Try.underlying25 rfl (by kernel_rfl)) rfl ?_
      exact ⟨rfl, HR3.out.keep (by with_reducible (repeat (first | exact Aside0.out HK5 | exact Below.refl _ _ | refine Below.drew ?_ | refine Below.alloc ?_ (by first | omega | (simp; done) | (simp; omega)) _ | refine Below.setCell ?_ (show _ ≤ _ by first | omega | (simp; omega)) _))), by with_reducible (repeat (first | exact Aside0.out HG5 | exact World.grownBy.refl _ _ | refine grown_drew ?_ | refine grown_alloc ?_ _ | refine grown_new ?_ (by first | exact Nat.le_refl _ | omega | (simp; omega)) _))⟩
    · rw [hf] at hcall3
      simp only [Bool.false_eq_true, Bool.true_eq_false, or_self, if_false]
      go_enter Try.func99, Try.ntmps99
      go_wp2_with (first
        | (go_at_call 121; refine (hcall _ (HR.out.keep (by with_reducible (repeat (first | exact Aside0.out HR | exact Below.refl _ _ | refine Below.drew ?_ | refine Below.alloc ?_ (by first | omega | (simp; done) | (simp; omega)) _ | refine Below.setCell ?_ (show _ ≤ _ by first | omega | (simp; omega)) _))))).mono ?_; rintro e w2 ⟨rfl, hR, hg⟩; have HR2 := Aside0.mk hR; have HG2 := Aside0.mk (grown_trans (grown_alloc (World.grownBy.refl _ _) _) hg); have HB2 := Aside0.mk (blk_grown (blk_new w _) hg hne); clear hR hg)
        | (go_at_call 97; refine (hcall2 _ HR2.out).mono ?_; rintro e w3 ⟨rfl, hR, hg⟩; have HR3 := Aside0.mk hR; have HG3 := Aside0.mk (grown_trans HG2.out hg); have hB3 := blk_grown HB2.out hg hne; have HB3 := Aside0.mk hB3; obtain ⟨hc30, hc31, hf30, hf31, hlt3⟩ := blk2 hB3; clear hR hg HR2 HG2 hB3)
        | (go_at_call 120; refine (read_Bad _ _ _ _ (HR3.out.keep (by with_reducible (repeat (first | exact Aside0.out HR3 | exact Below.refl _ _ | refine Below.drew ?_ | refine Below.alloc ?_ (by first | omega | (simp; done) | (simp; omega)) _ | refine Below.setCell ?_ (show _ ≤ _ by first | omega | (simp; omega)) _))))).mono ?_; rintro e w4 ⟨rfl, rfl⟩)
        | (go_at_call 83; refine (hcall3 _).mono ?_; rintro e w5 ⟨rfl, hb5⟩; obtain ⟨hc50, hc51, hf50, hf51, hlt5⟩ := blk2 (blk_below (blk_alloc HB3.out _) hb5); have HBR5 := Aside0.mk (blk_below (blk_alloc HB3.out _) hb5); obtain ⟨hv50, hv51, hw50, hw51, hlv5⟩ := blk2 (blk_below (blk_new w3 _) hb5); have HK5 := Aside0.mk (show Below (g + 1) w3 w5 from (Below.alloc (Below.refl _ _) (by omega) _).trans (hb5.mono (by simp; omega))); have HG5 := Aside0.mk (grown_below (grown_alloc HG3.out _) hb5); clear hb5))
      refine bodyPost_ret (results_ct rfl _ _ w.heap.size 25 #[.int .u64 n, .int .i64 p] (0, 0) _ rfl (blk_put (cs := #[.int .u64 n, .int .i64 0]) (blk_put HBR5.out 0 _ rfl) 1 _ rfl) Try.underlying25 rfl (by kernel_rfl)) rfl ?_
      exact ⟨rfl, HR3.out.keep (by with_reducible (repeat (first | exact Aside0.out HK5 | exact Below.refl _ _ | refine Below.drew ?_ | refine Below.alloc ?_ (by first | omega | (simp; done) | (simp; omega)) _ | refine Below.setCell ?_ (show _ ≤ _ by first | omega | (simp; omega)) _))), by with_reducible (repeat (first | exact Aside0.out HG5 | exact World.grownBy.refl _ _ | refine grown_drew ?_ | refine grown_alloc ?_ _ | refine grown_new ?_ (by first | exact Nat.le_refl _ | omega | (simp; omega)) _))⟩
  · simp only [true_or, if_true]
    go_enter Try.func99, Try.ntmps99
    go_wp2_with (first
      | (go_at_call 121; refine (hcall _ (HR.out.keep (by with_reducible (repeat (first | exact Aside0.out HR | exact Below.refl _ _ | refine Below.drew ?_ | refine Below.alloc ?_ (by first | omega | (simp; done) | (simp; omega)) _ | refine Below.setCell ?_ (show _ ≤ _ by first | omega | (simp; omega)) _))))).mono ?_; rintro e w2 ⟨rfl, hR, hg⟩; have HR2 := Aside0.mk hR; have HG2 := Aside0.mk (grown_trans (grown_alloc (World.grownBy.refl _ _) _) hg); have HB2 := Aside0.mk (blk_grown (blk_new w _) hg hne); clear hR hg)
      | (go_at_call 97; refine (hcall2 _ HR2.out).mono ?_; rintro e w3 ⟨rfl, hR, hg⟩; have HR3 := Aside0.mk hR; have HG3 := Aside0.mk (grown_trans HG2.out hg); have hB3 := blk_grown HB2.out hg hne; have HB3 := Aside0.mk hB3; obtain ⟨hc30, hc31, hf30, hf31, hlt3⟩ := blk2 hB3; clear hR hg HR2 HG2 hB3)
      | (go_at_call 120; refine (read_Bad _ _ _ _ (HR3.out.keep (by with_reducible (repeat (first | exact Aside0.out HR3 | exact Below.refl _ _ | refine Below.drew ?_ | refine Below.alloc ?_ (by first | omega | (simp; done) | (simp; omega)) _ | refine Below.setCell ?_ (show _ ≤ _ by first | omega | (simp; omega)) _))))).mono ?_; rintro e w4 ⟨rfl, rfl⟩))
    refine bodyPost_ret (results_ct rfl _ _ w.heap.size 25 #[.int .u64 0, .int .i64 0] (0, 0) _ rfl (blk_alloc (blk_put (cs := #[.int .u64 0, .int .i64 0]) (blk_put HB3.out 0 _ rfl) 1 _ rfl) _) Try.underlying25 rfl (by kernel_rfl)) rfl ?_
    exact ⟨rfl, HR3.out.keep (by with_reducible (repeat (first | exact Aside0.out HR3 | exact Below.refl _ _ | refine Below.drew ?_ | refine Below.alloc ?_ (by first | omega | (simp; done) | (simp; omega)) _ | refine Below.setCell ?_ (show _ ≤ _ by first | omega | (simp; omega)) _))), by with_reducible (repeat (first | exact Aside0.out HG3 | exact World.grownBy.refl _ _ | refine grown_drew ?_ | refine grown_alloc ?_ _ | refine grown_new ?_ (by first | exact Nat.le_refl _ | omega | (simp; omega)) _))⟩
end Go.Proofs.Ytioooiflpabngaa.PAll
end
section
namespace Go.Proofs.Ytioooiflpabngaa.PAll
open Go.RowKit Go.Proofs.YtioooiflpabngaaW.PrintWords Go.Proofs.YtioooiflpabngaaW.PrintLast Go.Proofs.YtioooiflpabngaaW.PrintMore
set_option linter.unusedVariables false
set_option linter.unusedSimpArgs false
def lPre (l : List Int) (bad : Bool) : S25 × Bool × Int × Int × List Int × Bool :=
  ((vRd l bad).1, (vRd l bad).2.1, (uRd (vRd l bad).2.2.1 (vRd l bad).2.2.2).1, iRd (uRd (vRd l bad).2.2.1 (vRd l bad).2.2.2).2.1 (uRd (vRd l bad).2.2.1 (vRd l bad).2.2.2).2.2 15)
def lRd (l : List Int) (bad : Bool) : S27 × Bool × List Int × Bool :=
  if (lPre l bad).2.1 = false ∨ (lPre l bad).2.2.2.2.2 = true ∨ fL (lPre l bad).1.f0 (lPre l bad).1.f1 (lPre l bad).2.2.1 (lPre l bad).2.2.2.1 = false then (⟨⟨0, 0⟩, 0, 0⟩, false, (lPre l bad).2.2.2.2)
  else (⟨(lPre l bad).1, (lPre l bad).2.2.1, (lPre l bad).2.2.2.1⟩, true, (lPre l bad).2.2.2.2)
theorem lRd_len (l : List Int) (bad : Bool) : (lRd l bad).2.2.1.length ≤ l.length := by
  have h0 := vRd_len l bad
  have h1 := uRd_len (vRd l bad).2.2.1 (vRd l bad).2.2.2
  have h2 := iRd_len (uRd (vRd l bad).2.2.1 (vRd l bad).2.2.2).2.1 (uRd (vRd l bad).2.2.1 (vRd l bad).2.2.2).2.2 15
  unfold lRd lPre
  split <;> exact Nat.le_trans h2 (Nat.le_trans h1 h0)
theorem blk_put4 {w : World} {g : Nat} {a b c d : Value} {t : TypeId} (h : w.heap[g]? = some (.cells #[a, b, c, d] t (0, 0))) (a' b' c' d' : Value) : ((((w.setCell ⟨g, 0, none⟩ a').setCell ⟨g, 1, none⟩ b').setCell ⟨g, 2, none⟩ c').setCell ⟨g, 3, none⟩ d').heap[g]? = some (.cells #[a', b', c', d'] t (0, 0)) :=
  blk_put (cs := #[a', b', c', d]) (blk_put (cs := #[a', b', c, d]) (blk_put (cs := #[a', b, c, d]) (blk_put h 0 a' rfl) 1 b' rfl) 2 c' rfl) 3 d' rfl
set_option maxHeartbeats 4000000 in
set_option maxRecDepth 100000 in
theorem read_Label (g : Nat) (l : List Int) (bad : Bool) (w : World) (h : Rd w g l bad) (hl : l.length < 4398046511104) :
    Calls Try.prog 98 #[.pointer (some ⟨g, 0, none⟩)] w fun e w' => e = .returned (.tuple #[.agg #[.int .u64 (lRd l bad).1.f0.f0, .int .i64 (lRd l bad).1.f0.f1, .int .u64 (lRd l bad).1.f1, .int .i64 (lRd l bad).1.f2], .bool (lRd l bad).2.1]) ∧ Rd w' g (lRd l bad).2.2.1 (lRd l bad).2.2.2 ∧ w.grownBy w' (some g) := by
  have hcall := fun W hW => read_View g l bad W hW hl
  have hln := vRd_len l bad
  have hgl := h.lt
  have hne : some w.heap.size ≠ some g := by simp; omega
  unfold lRd lPre
  obtain ⟨⟨⟨n, p⟩, ok, t, b⟩, hv⟩ : ∃ u, vRd l bad = u := ⟨_, rfl⟩
  rw [hv] at hcall hln ⊢
  simp only at hcall hln ⊢
  have hcall2 := fun W hW => read_Uint g t b W hW (by omega)
  have hln2 := uRd_len t b
  obtain ⟨⟨q, t2, b2⟩, hu⟩ : ∃ u, uRd t b = u := ⟨_, rfl⟩
  rw [hu] at hcall2 hln2 ⊢
  simp only at hcall2 hln2 ⊢
  have hcall3 := fun W hW => read_Int g t2 b2 15 W hW (by omega) (by decide) (by decide)
  obtain ⟨⟨s, t3, b3⟩, hi⟩ : ∃ u, iRd t2 b2 15 = u := ⟨_, rfl⟩
  rw [hi] at hcall3 ⊢
  simp only at hcall3 ⊢
  have HL := Aside0.mk hl
  have HR := Aside0.mk h
  clear h hl hv hu hi
  have hcall4 := fun W => label_Form.calls n p q s _ W (fL_eq n p q s)
  obtain ⟨⟨⟨⟨rn, rp⟩, rq, rs⟩, rok, rt, rb⟩, hr⟩ : ∃ u : S27 × Bool × List Int × Bool, (if ok = false ∨ b3 = true ∨ fL n p q s = false then (⟨⟨0, 0⟩, 0, 0⟩, false, t3, b3) else (⟨⟨n, p⟩, q, s⟩, true, t3, b3)) = u := ⟨_, rfl⟩
  rw [hr]
  simp only
  have HRR := Aside0.mk hr
  clear hr
  go_enter Try.func98, Try.ntmps98
  go_upto_region 2 with (go_at_call 99; refine (hcall _ (HR.out.keep (by with_reducible (repeat (first | exact Aside0.out HR | exact Below.refl _ _ | refine Below.drew ?_ | refine Below.alloc ?_ (by first | omega | (simp; done) | (simp; omega)) _ | refine Below.setCell ?_ (show _ ≤ _ by first | omega | (simp; omega)) _))))).mono ?_; rintro e w2 ⟨rfl, hR, hg⟩; have HR2 := Aside0.mk hR; have HG2 := Aside0.mk (grown_trans (grown_alloc (World.grownBy.refl _ _) _) hg); have HB2 := Aside0.mk (blk_grown (blk_new w _) hg hne); have hlt2 := HG2.out.size; have hlr2 := blk_lt HB2.out; clear hR hg)
  obtain ⟨hw20, hw21, -, -, -⟩ := blk2 (blk_new w2 (.cells #[.int .u64 n, .int .i64 p] 25))
  have HV2 := Aside0.mk (blk_new w2 (.cells #[.int .u64 n, .int .i64 p] 25))
  go_cut [6] (fun s6 wx => ∃ bl : Nat, s6 = .pointer (some ⟨bl, 0, none⟩) ∧ w.heap.size < bl ∧ Aside0 (wx.heap[bl]? = some (.cells #[.int .u64 n, .int .i64 p, .int .u64 q, .int .i64 s] 27 (0, 0))) ∧ Aside0 (wx.heap[w.heap.size]? = some (.cells #[.int .u64 0, .int .i64 0, .int .u64 0, .int .i64 0] 27 (0, 0))) ∧ Aside0 (Rd wx g t3 b3) ∧ Aside0 (w.grownBy wx (some g)))
  case first =>
    go_region_held3 (fun w' => w'.cell? ⟨w2.heap.size, 0, none⟩ = some (.int .u64 n) ∧ w'.cell? ⟨w2.heap.size, 1, none⟩ = some (.int .i64 p)) (constructor <;> (with_reducible repeat (first | exact hw20 | exact hw21 | exact hw30 | exact hw31 | exact hw40 | exact hw41 | refine cell_drew ?_ | refine cell_alloc ?_ _ | refine cell_far ?_ (by first | omega | (simp; done) | (simp; omega)) _)))
      (first
        | (go_at_call 121; refine (hcall2 ((w2.alloc (.cells #[.int .u64 n, .int .i64 p] 25 (0, 0))).alloc (.cells #[.int .u64 0, .int .i64 0, .int .u64 0, .int .i64 0] 27 (0, 0))).drew (HR2.out.keep (by with_reducible (repeat (first | exact Aside0.out HR2 | exact Below.refl _ _ | refine Below.drew ?_ | refine Below.alloc ?_ (by first | omega | (simp; done) | (simp; omega)) _ | refine Below.setCell ?_ (show _ ≤ _ by first | omega | (simp; omega)) _))))).mono ?_; rintro e w3 ⟨rfl, hR, hg0⟩; have hg := un_drew hg0; have HR3 := Aside0.mk hR; have HG3 := Aside0.mk (grown_trans (show w.grownBy _ (some g) from by with_reducible (repeat (first | exact Aside0.out HG2 | exact World.grownBy.refl _ _ | refine grown_drew ?_ | refine grown_alloc ?_ _ | refine grown_new ?_ (by first | exact Nat.le_refl _ | omega | (simp; omega)) _))) hg0); have HB3 := Aside0.mk (blk_grown (show _ = some (.cells #[.int .u64 0, .int .i64 0, .int .u64 0, .int .i64 0] 27 (0, 0)) from by with_reducible (repeat (first | exact Aside0.out HB2 | refine blk_drew ?_ | refine blk_alloc ?_ _ | refine blk_far ?_ (by first | omega | (simp; done) | (simp; omega)) _))) hg0 hne); have HV3 := Aside0.mk (blk_grown (g := w2.heap.size) (show _ = some (Obj.cells #[.int .u64 n, .int .i64 p] 25 (0, 0)) from by with_reducible (repeat (first | exact Aside0.out HV2 | refine blk_drew ?_ | refine blk_alloc ?_ _ | refine blk_far ?_ (by first | omega | (simp; done) | (simp; omega)) _))) hg0 (by simp; omega)); have HL3 := Aside0.mk (show w3.heap[w2.heap.size + 1]? = some (.cells #[.int .u64 0, .int .i64 0, .int .u64 0, .int .i64 0] 27 (0, 0)) from by have h7 := blk_grown (blk_new (w2.alloc (.cells #[.int .u64 n, .int .i64 p] 25 (0, 0))) (.cells #[.int .u64 0, .int .i64 0, .int .u64 0, .int .i64 0] 27 (0, 0))) hg (by simp; omega); rw [World.size_alloc] at h7; exact h7); obtain ⟨hw30, hw31, -, -, -⟩ := blk2 HV3.out; have hlt3 := hg0.size; have hlr3 := blk_lt HB3.out; have hlv3 := blk_lt HV3.out; clear hR hg hg0)
        | (go_at_call 121; refine (hcall2 (w2.alloc (.cells #[.int .u64 n, .int .i64 p] 25 (0, 0))).drew (HR2.out.keep (by with_reducible (repeat (first | exact Aside0.out HR2 | exact Below.refl _ _ | refine Below.drew ?_ | refine Below.alloc ?_ (by first | omega | (simp; done) | (simp; omega)) _ | refine Below.setCell ?_ (show _ ≤ _ by first | omega | (simp; omega)) _))))).mono ?_; rintro e w3 ⟨rfl, hR, hg0⟩; have hg := un_drew hg0; have HR3 := Aside0.mk hR; have HG3 := Aside0.mk (grown_trans (show w.grownBy _ (some g) from by with_reducible (repeat (first | exact Aside0.out HG2 | exact World.grownBy.refl _ _ | refine grown_drew ?_ | refine grown_alloc ?_ _ | refine grown_new ?_ (by first | exact Nat.le_refl _ | omega | (simp; omega)) _))) hg0); have HB3 := Aside0.mk (blk_grown (show _ = some (.cells #[.int .u64 0, .int .i64 0, .int .u64 0, .int .i64 0] 27 (0, 0)) from by with_reducible (repeat (first | exact Aside0.out HB2 | refine blk_drew ?_ | refine blk_alloc ?_ _ | refine blk_far ?_ (by first | omega | (simp; done) | (simp; omega)) _))) hg0 hne); have HV3 := Aside0.mk (blk_grown (g := w2.heap.size) (show _ = some (Obj.cells #[.int .u64 n, .int .i64 p] 25 (0, 0)) from by with_reducible (repeat (first | exact Aside0.out HV2 | refine blk_drew ?_ | refine blk_alloc ?_ _ | refine blk_far ?_ (by first | omega | (simp; done) | (simp; omega)) _))) hg0 (by simp; omega)); obtain ⟨hw30, hw31, -, -, -⟩ := blk2 HV3.out; have hlt3 := hg0.size; have hlr3 := blk_lt HB3.out; have hlv3 := blk_lt HV3.out; clear hR hg hg0)
        | (go_at_call 97; revert HL3; intro HL3; refine (hcall3 w3 (HR3.out.keep (by with_reducible (repeat (first | exact Aside0.out HR3 | exact Below.refl _ _ | refine Below.drew ?_ | refine Below.alloc ?_ (by first | omega | (simp; done) | (simp; omega)) _ | refine Below.setCell ?_ (show _ ≤ _ by first | omega | (simp; omega)) _))))).mono ?_; rintro e w4 ⟨rfl, hR, hg⟩; have HR4 := Aside0.mk hR; have HG4 := Aside0.mk (grown_trans (show w.grownBy _ (some g) from by with_reducible (repeat (first | exact Aside0.out HG3 | exact World.grownBy.refl _ _ | refine grown_drew ?_ | refine grown_alloc ?_ _ | refine grown_new ?_ (by first | exact Nat.le_refl _ | omega | (simp; omega)) _))) hg); have HB4 := Aside0.mk (blk_grown (show _ = some (.cells #[.int .u64 0, .int .i64 0, .int .u64 0, .int .i64 0] 27 (0, 0)) from by with_reducible (repeat (first | exact Aside0.out HB3 | refine blk_drew ?_ | refine blk_alloc ?_ _ | refine blk_far ?_ (by first | omega | (simp; done) | (simp; omega)) _))) hg hne); have HV4 := Aside0.mk (blk_grown (g := w2.heap.size) (show _ = some (Obj.cells #[.int .u64 n, .int .i64 p] 25 (0, 0)) from by with_reducible (repeat (first | exact Aside0.out HV3 | refine blk_drew ?_ | refine blk_alloc ?_ _ | refine blk_far ?_ (by first | omega | (simp; done) | (simp; omega)) _))) hg (by simp; omega)); have HL4 := Aside0.mk (blk_grown HL3.out hg (by simp; omega)); obtain ⟨hw40, hw41, -, -, -⟩ := blk2 HV4.out; have hlt4 := hg.size; have hlr4 := blk_lt HB4.out; have hlv4 := blk_lt HV4.out; obtain ⟨hL0, hL1, hL2, hL3, hf0, hf1, hf2, hf3, hLl⟩ := blk4 HL4.out; clear hR hg)
        | (go_at_call 97; refine (hcall3 (w3.alloc (.cells #[.int .u64 0, .int .i64 0, .int .u64 0, .int .i64 0] 27 (0, 0))) (HR3.out.keep (by with_reducible (repeat (first | exact Aside0.out HR3 | exact Below.refl _ _ | refine Below.drew ?_ | refine Below.alloc ?_ (by first | omega | (simp; done) | (simp; omega)) _ | refine Below.setCell ?_ (show _ ≤ _ by first | omega | (simp; omega)) _))))).mono ?_; rintro e w4 ⟨rfl, hR, hg⟩; have HR4 := Aside0.mk hR; have HG4 := Aside0.mk (grown_trans (show w.grownBy _ (some g) from by with_reducible (repeat (first | exact Aside0.out HG3 | exact World.grownBy.refl _ _ | refine grown_drew ?_ | refine grown_alloc ?_ _ | refine grown_new ?_ (by first | exact Nat.le_refl _ | omega | (simp; omega)) _))) hg); have HB4 := Aside0.mk (blk_grown (show _ = some (.cells #[.int .u64 0, .int .i64 0, .int .u64 0, .int .i64 0] 27 (0, 0)) from by with_reducible (repeat (first | exact Aside0.out HB3 | refine blk_drew ?_ | refine blk_alloc ?_ _ | refine blk_far ?_ (by first | omega | (simp; done) | (simp; omega)) _))) hg hne); have HV4 := Aside0.mk (blk_grown (g := w2.heap.size) (show _ = some (Obj.cells #[.int .u64 n, .int .i64 p] 25 (0, 0)) from by with_reducible (repeat (first | exact Aside0.out HV3 | refine blk_drew ?_ | refine blk_alloc ?_ _ | refine blk_far ?_ (by first | omega | (simp; done) | (simp; omega)) _))) hg (by simp; omega)); have HL4 := Aside0.mk (blk_grown (blk_new w3 (.cells #[.int .u64 0, .int .i64 0, .int .u64 0, .int .i64 0] 27 (0, 0))) hg (by simp; omega)); obtain ⟨hw40, hw41, -, -, -⟩ := blk2 HV4.out; have hlt4 := hg.size; have hlr4 := blk_lt HB4.out; have hlv4 := blk_lt HV4.out; obtain ⟨hL0, hL1, hL2, hL3, hf0, hf1, hf2, hf3, hLl⟩ := blk4 HL4.out; clear hR hg)
        | (go_at_call 97; refine (hcall3 w3 (HR3.out.keep (by with_reducible (repeat (first | exact Aside0.out HR3 | exact Below.refl _ _ | refine Below.drew ?_ | refine Below.alloc ?_ (by first | omega | (simp; done) | (simp; omega)) _ | refine Below.setCell ?_ (show _ ≤ _ by first | omega | (simp; omega)) _))))).mono ?_; rintro e w4 ⟨rfl, hR, hg⟩; have HR4 := Aside0.mk hR; have HG4 := Aside0.mk (grown_trans (show w.grownBy _ (some g) from by with_reducible (repeat (first | exact Aside0.out HG3 | exact World.grownBy.refl _ _ | refine grown_drew ?_ | refine grown_alloc ?_ _ | refine grown_new ?_ (by first | exact Nat.le_refl _ | omega | (simp; omega)) _))) hg); have HB4 := Aside0.mk (blk_grown (show _ = some (.cells #[.int .u64 0, .int .i64 0, .int .u64 0, .int .i64 0] 27 (0, 0)) from by with_reducible (repeat (first | exact Aside0.out HB3 | refine blk_drew ?_ | refine blk_alloc ?_ _ | refine blk_far ?_ (by first | omega | (simp; done) | (simp; omega)) _))) hg hne); have HV4 := Aside0.mk (blk_grown (g := w2.heap.size) (show _ = some (Obj.cells #[.int .u64 n, .int .i64 p] 25 (0, 0)) from by with_reducible (repeat (first | exact Aside0.out HV3 | refine blk_drew ?_ | refine blk_alloc ?_ _ | refine blk_far ?_ (by first | omega | (simp; done) | (simp; omega)) _))) hg (by simp; omega)); obtain ⟨hw40, hw41, -, -, -⟩ := blk2 HV4.out; have hlt4 := hg.size; have hlr4 := blk_lt HB4.out; have hlv4 := blk_lt HV4.out; clear hR hg))
    all_goals go_wp2_with fail
    all_goals go_meet
    all_goals exact ⟨_, rfl, by omega, ⟨by first | exact blk_new w4 _ | exact blk_put4 HL4.out _ _ _ _⟩, ⟨by with_reducible (repeat (first | exact Aside0.out HB4 | refine blk_drew ?_ | refine blk_alloc ?_ _ | refine blk_far ?_ (by first | omega | (simp; done) | (simp; omega)) _))⟩, ⟨HR4.out.keep (by with_reducible (repeat (first | exact Aside0.out HR4 | exact Below.refl _ _ | refine Below.drew ?_ | refine Below.alloc ?_ (by first | omega | (simp; done) | (simp; omega)) _ | refine Below.setCell ?_ (show _ ≤ _ by first | omega | (simp; omega)) _)))⟩, ⟨by with_reducible (repeat (first | exact Aside0.out HG4 | exact World.grownBy.refl _ _ | refine grown_drew ?_ | refine grown_alloc ?_ _ | refine grown_new ?_ (by first | exact Nat.le_refl _ | omega | (simp; omega)) _))⟩⟩
  case rest =>
    obtain ⟨bl, rfl, hlt, HL5, HB5, HR5, HG5⟩ := hcut
    obtain ⟨ha0, ha1, ha2, ha3, hb0, hb1, hb2, hb3, hal⟩ := blk4 HB5.out
    obtain ⟨hm0', hm1', hm2', hm3', hn0', hn1', hn2', hn3', hml'⟩ := blk4 HL5.out
    clear hcall hcall2 hcall3
    cases ok
    · have hr := HRR.out
      rw [if_pos (Or.inl rfl)] at hr
      cases hr
      go_wp2_with fail
      refine bodyPost_ret (results_ct rfl _ _ w.heap.size 27 #[.int .u64 0, .int .i64 0, .int .u64 0, .int .i64 0] (0, 0) _ rfl (blk_put4 HB5.out _ _ _ _) Try.underlying27 rfl (by kernel_rfl)) rfl ?_
      exact ⟨rfl, HR5.out.keep (by with_reducible (repeat (first | exact Aside0.out HR5 | exact Below.refl _ _ | refine Below.drew ?_ | refine Below.alloc ?_ (by first | omega | (simp; done) | (simp; omega)) _ | refine Below.setCell ?_ (show _ ≤ _ by first | omega | (simp; omega)) _))), by with_reducible (repeat (first | exact Aside0.out HG5 | exact World.grownBy.refl _ _ | refine grown_drew ?_ | refine grown_alloc ?_ _ | refine grown_new ?_ (by first | exact Nat.le_refl _ | omega | (simp; omega)) _))⟩
    cases b3
    · cases hf : fL n p q s
      · rw [hf] at hcall4
        have hr := HRR.out
        rw [if_pos (Or.inr (Or.inr hf))] at hr
        cases hr
        go_wp2_with (first | (go_at_call 120; refine (read_Bad _ _ _ _ HR5.out).mono ?_; rintro e w5 ⟨rfl, rfl⟩) | (go_at_call 40; refine (hcall4 _).mono ?_; rintro e w6 ⟨rfl, hb6⟩; have HB6 := Aside0.mk (blk_below HB5.out hb6); obtain ⟨hr0, hr1, hr2, hr3, hs0, hs1, hs2, hs3, hrl⟩ := blk4 HB6.out; obtain ⟨hm0, hm1, hm2, hm3, hn0, hn1, hn2, hn3, hml⟩ := blk4 (blk_below HL5.out hb6); have HR6 := Aside0.mk (HR5.out.keep (hb6.mono (by have := HR5.out.lt; omega))); have HG6 := Aside0.mk (grown_below HG5.out hb6); clear hb6))
        refine bodyPost_ret (results_ct rfl _ _ w.heap.size 27 #[.int .u64 0, .int .i64 0, .int .u64 0, .int .i64 0] (0, 0) _ rfl (blk_put4 HB6.out _ _ _ _) Try.underlying27 rfl (by kernel_rfl)) rfl ?_
        exact ⟨rfl, HR6.out.keep (by with_reducible (repeat (first | exact Aside0.out HR6 | exact Below.refl _ _ | refine Below.drew ?_ | refine Below.alloc ?_ (by first | omega | (simp; done) | (simp; omega)) _ | refine Below.setCell ?_ (show _ ≤ _ by first | omega | (simp; omega)) _))), by with_reducible (repeat (first | exact Aside0.out HG6 | exact World.grownBy.refl _ _ | refine grown_drew ?_ | refine grown_alloc ?_ _ | refine grown_new ?_ (by first | exact Nat.le_refl _ | omega | (simp; omega)) _))⟩
      · rw [hf] at hcall4
        have hr := HRR.out
        rw [if_neg (by simp [hf])] at hr
        cases hr
        go_wp2_with (first | (go_at_call 120; refine (read_Bad _ _ _ _ HR5.out).mono ?_; rintro e w5 ⟨rfl, rfl⟩) | (go_at_call 40; refine (hcall4 _).mono ?_; rintro e w6 ⟨rfl, hb6⟩; have HB6 := Aside0.mk (blk_below HB5.out hb6); obtain ⟨hr0, hr1, hr2, hr3, hs0, hs1, hs2, hs3, hrl⟩ := blk4 HB6.out; obtain ⟨hm0, hm1, hm2, hm3, hn0, hn1, hn2, hn3, hml⟩ := blk4 (blk_below HL5.out hb6); have HR6 := Aside0.mk (HR5.out.keep (hb6.mono (by have := HR5.out.lt; omega))); have HG6 := Aside0.mk (grown_below HG5.out hb6); clear hb6))
        refine bodyPost_ret (results_ct rfl _ _ w.heap.size 27 #[.int .u64 n, .int .i64 p, .int .u64 q, .int .i64 s] (0, 0) _ rfl (blk_put4 HB6.out _ _ _ _) Try.underlying27 rfl (by kernel_rfl)) rfl ?_
        exact ⟨rfl, HR6.out.keep (by with_reducible (repeat (first | exact Aside0.out HR6 | exact Below.refl _ _ | refine Below.drew ?_ | refine Below.alloc ?_ (by first | omega | (simp; done) | (simp; omega)) _ | refine Below.setCell ?_ (show _ ≤ _ by first | omega | (simp; omega)) _))), by with_reducible (repeat (first | exact Aside0.out HG6 | exact World.grownBy.refl _ _ | refine grown_drew ?_ | refine grown_alloc ?_ _ | refine grown_new ?_ (by first | exact Nat.le_refl _ | omega | (simp; omega)) _))⟩
    · have hr := HRR.out
      rw [if_pos (Or.inr (Or.inl rfl))] at hr
      cases hr
      go_wp2_with (go_at_call 120; refine (read_Bad _ _ _ _ HR5.out).mono ?_; rintro e w5 ⟨rfl, rfl⟩)
      refine bodyPost_ret (results_ct rfl _ _ w.heap.size 27 #[.int .u64 0, .int .i64 0, .int .u64 0, .int .i64 0] (0, 0) _ rfl (blk_put4 HB5.out _ _ _ _) Try.underlying27 rfl (by kernel_rfl)) rfl ?_
      exact ⟨rfl, HR5.out.keep (by with_reducible (repeat (first | exact Aside0.out HR5 | exact Below.refl _ _ | refine Below.drew ?_ | refine Below.alloc ?_ (by first | omega | (simp; done) | (simp; omega)) _ | refine Below.setCell ?_ (show _ ≤ _ by first | omega | (simp; omega)) _))), by with_reducible (repeat (first | exact Aside0.out HG5 | exact World.grownBy.refl _ _ | refine grown_drew ?_ | refine grown_alloc ?_ _ | refine grown_new ?_ (by first | exact Nat.le_refl _ | omega | (simp; omega)) _))⟩
end Go.Proofs.Ytioooiflpabngaa.PAll
end
section
namespace Go.Proofs.Ytioooiflpabngaa.PAll
open Go.RowKit Go.Proofs.YtioooiflpabngaaW.PrintWords Go.Proofs.YtioooiflpabngaaW.PrintLast Go.Proofs.YtioooiflpabngaaW.PrintMore
set_option linter.unusedVariables false
set_option linter.unusedSimpArgs false
theorem bRd_len (l : List Int) (bad : Bool) (most : Int) : (bRd l bad most).2.1.length ≤ l.length := by
  have h := iRd_len l bad most
  unfold bRd
  split
  · exact h
  · simp only [List.length_drop]
    omega
def eRd (l : List Int) (bad : Bool) : S32 × Bool × List Int × Bool :=
  (⟨(lRd l bad).1, (bRd (lRd l bad).2.2.1 (lRd l bad).2.2.2 64).1⟩, (lRd l bad).2.1 && !(bRd (lRd l bad).2.2.1 (lRd l bad).2.2.2 64).2.2, (bRd (lRd l bad).2.2.1 (lRd l bad).2.2.2 64).2)
theorem eRd_len (l : List Int) (bad : Bool) : (eRd l bad).2.2.1.length ≤ l.length :=
  Nat.le_trans (bRd_len _ _ _) (lRd_len l bad)
theorem step_callG {P : Program} {w : World} {ops : Array Oper} {o : Oper} {a : Act} {K : Act → World → Prop} {Q : Exit → Act → World → Prop} {E : Prop} (hw : Region.wanted o (yielded ops a.tmps) = true) {f : FuncId} {fn : Func} {as_ : Array Operand} {ts : Array TypeId} (hf : P.funcs[f]? = some fn) (hname : (fn.name == "runtime.NumGoroutine") = false) (hb : fn.body.isSome = true) (args : Array Value)
    (hop : o.op = .call { callee := .value (.func f), args := as_, argTypes := ts }) (hargs : as_.map a.eval = args)
    (h : Calls P f args w fun e w' => ∃ v, e = .returned v ∧ K (a.put o.dst v) w') : if Region.wanted o (yielded ops a.tmps) = true then Oper.wp P o a w K Q else E := by
  have h2 := goes_ (ops := ops) (Q := Q) (K := K) (N := o.dst) hf hname hb args hw rfl hop hargs h
  rw [if_pos hw] at h2 ⊢
  exact h2
theorem blk_put5 {w : World} {g : Nat} {a b c d f : Value} {t : TypeId} (h : w.heap[g]? = some (.cells #[a, b, c, d, f] t (0, 0))) (a' b' c' d' f' : Value) : (((((w.setCell ⟨g, 0, none⟩ a').setCell ⟨g, 1, none⟩ b').setCell ⟨g, 2, none⟩ c').setCell ⟨g, 3, none⟩ d').setCell ⟨g, 4, none⟩ f').heap[g]? = some (.cells #[a', b', c', d', f'] t (0, 0)) :=
  blk_put (cs := #[a', b', c', d', f]) (blk_put (cs := #[a', b', c', d, f]) (blk_put (cs := #[a', b', c, d, f]) (blk_put (cs := #[a', b, c, d, f]) (blk_put (cs := #[a, b, c, d, f]) h 0 a' rfl) 1 b' rfl) 2 c' rfl) 3 d' rfl) 4 f' rfl
set_option maxHeartbeats 4000000 in
set_option maxRecDepth 100000 in
theorem read_Entry (g : Nat) (l : List Int) (bad : Bool) (w : World) (h : Rd w g l bad) (hl : l.length < 4398046511104) :
    Calls Try.prog 95 #[.pointer (some ⟨g, 0, none⟩)] w fun e w' => ∃ v, e = .returned (.tuple #[.agg #[.int .u64 (eRd l bad).1.f0.f0.f0, .int .i64 (eRd l bad).1.f0.f0.f1, .int .u64 (eRd l bad).1.f0.f1, .int .i64 (eRd l bad).1.f0.f2, v], .bool (eRd l bad).2.1]) ∧ Kd.R (Kd.int .u8) 5 w' w.heap.size (fun k => w.heap.size < k) v (eRd l bad).1.f1 ∧ Rd w' g (eRd l bad).2.2.1 (eRd l bad).2.2.2 ∧ w.grownBy w' (some g) := by
  have hcall := fun W hW => read_Label g l bad W hW hl
  have hln := lRd_len l bad
  have hgl := h.lt
  have hne : some w.heap.size ≠ some g := by simp; omega
  unfold eRd
  obtain ⟨⟨⟨⟨n, p⟩, q, s⟩, ok, t, b⟩, hv⟩ : ∃ u, lRd l bad = u := ⟨_, rfl⟩
  rw [hv] at hcall hln ⊢
  simp only at hcall hln ⊢
  have hcall2 := fun W hW => read_Bytes g t b 64 W hW (by omega) (by decide) (by decide)
  obtain ⟨⟨m, t2, b2⟩, hu⟩ : ∃ u, bRd t b 64 = u := ⟨_, rfl⟩
  rw [hu] at hcall2 ⊢
  simp only at hcall2 ⊢
  have HL := Aside0.mk hl
  have HR := Aside0.mk h
  clear h hl hv hu
  have hmo : Try.prog.follows .mixedOrders = true := by kernel_rfl
  go_enter Try.func95, Try.ntmps95
  go_upto_region 3 with (first
    | (go_at_call 98; refine (hcall _ (HR.out.keep (by with_reducible (repeat (first | exact Aside0.out HR | exact Below.refl _ _ | refine Below.drew ?_ | refine Below.alloc ?_ (by first | omega | (simp; done) | (simp; omega)) _ | refine Below.setCell ?_ (show _ ≤ _ by first | omega | (simp; omega)) _))))).mono ?_; rintro e w2 ⟨rfl, hR, hg⟩; have HR2 := Aside0.mk hR; have HG2 := Aside0.mk (grown_trans (grown_alloc (World.grownBy.refl _ _) _) hg); have HB2 := Aside0.mk (blk_grown (blk_new w _) hg hne); have hlt2 := HG2.out.size; have hlr2 := blk_lt HB2.out; clear hR hg)
    | (go_at_call 119; refine (hcall2 _ (HR2.out.keep (by with_reducible (repeat (first | exact Aside0.out HR2 | exact Below.refl _ _ | refine Below.drew ?_ | refine Below.alloc ?_ (by first | omega | (simp; done) | (simp; omega)) _ | refine Below.setCell ?_ (show _ ≤ _ by first | omega | (simp; omega)) _))))).mono ?_; rintro e w3 ⟨v, rfl, hm, hR, hg⟩; obtain ⟨Am, cm, rfl⟩ := Kd.R_slice hm; have HM3 := Aside0.mk (show Kd.R (Kd.int .u8) 5 w3 w.heap.size (fun k => w.heap.size < k) (.slice Am m.length cm) m from Kd.R_lower (Kd.R_mono (Kd.R_bound hm) (fun k hk => by have := hk.2.1; simp only [World.size_alloc] at this; omega)) (by simp only [World.size_alloc]; omega)); have HR3 := Aside0.mk hR; have HG3 := Aside0.mk (grown_trans (grown_alloc HG2.out _) hg); have HB3 := Aside0.mk (blk_grown (blk_alloc HB2.out _) hg hne); have HL3 := Aside0.mk (blk_grown (blk_new w2 _) hg (by simp; omega)); clear hm hR hg))
  obtain ⟨ha0, ha1, ha2, ha3, ha4, hb0, hb1, hb2, hb3, hb4, hal⟩ := blk5 HB3.out
  obtain ⟨hm0, hm1, hm2, hm3, hn0, hn1, hn2, hn3, hml⟩ := blk4 HL3.out
  clear hcall hcall2
  cases ok
  · go_region
    all_goals go_wp2_with fail
    all_goals refine bodyPost_ret (results_ct rfl _ _ w.heap.size 32 #[.int .u64 n, .int .i64 p, .int .u64 q, .int .i64 s, .slice Am m.length cm] (0, 0) _ rfl (by first | exact blk_put5 (blk_drew HB3.out) _ _ _ _ _ | exact blk_put5 HB3.out _ _ _ _ _) Try.underlying32 rfl (by kernel_rfl)) rfl ?_
    all_goals refine ⟨_, by first | rfl | simp [Act.put], ?_, HR3.out.keep (by with_reducible (repeat (first | exact Aside0.out HR3 | exact Below.refl _ _ | refine Below.drew ?_ | refine Below.alloc ?_ (by first | omega | (simp; done) | (simp; omega)) _ | refine Below.setCell ?_ (show _ ≤ _ by first | omega | (simp; omega)) _))), by with_reducible (repeat (first | exact Aside0.out HG3 | exact World.grownBy.refl _ _ | refine grown_drew ?_ | refine grown_alloc ?_ _ | refine grown_new ?_ (by first | exact Nat.le_refl _ | omega | (simp; omega)) _))⟩
    all_goals (with_reducible repeat (first | exact HM3.out | refine Kd.R_drew ?_ | refine Kd.R_far ?_ (fun k hk => Nat.ne_of_gt hk) _ | refine Kd.R_alloc ?_ _))
  · go_region_law_o (first | (refine step_callG (by rfl) (f := 120) Try.func120 (by kernel_rfl) rfl #[.pointer (some ⟨g, 0, none⟩)] rfl (by simp [Act.eval, Act.put]) ?_; refine (read_Bad _ _ _ _ (HR3.out.keep (by with_reducible (repeat (first | exact Aside0.out HR3 | exact Below.refl _ _ | refine Below.drew ?_ | refine Below.alloc ?_ (by first | omega | (simp; done) | (simp; omega)) _ | refine Below.setCell ?_ (show _ ≤ _ by first | omega | (simp; omega)) _))))).mono ?_; rintro e w5 ⟨rfl, rfl⟩; refine ⟨_, rfl, ?_⟩))
    all_goals go_wp2_with fail
    all_goals refine bodyPost_ret (results_ct rfl _ _ w.heap.size 32 #[.int .u64 n, .int .i64 p, .int .u64 q, .int .i64 s, .slice Am m.length cm] (0, 0) _ rfl (by first | exact blk_put5 (blk_drew HB3.out) _ _ _ _ _ | exact blk_put5 HB3.out _ _ _ _ _) Try.underlying32 rfl (by kernel_rfl)) rfl ?_
    all_goals refine ⟨_, by first | rfl | simp [Act.put], ?_, HR3.out.keep (by with_reducible (repeat (first | exact Aside0.out HR3 | exact Below.refl _ _ | refine Below.drew ?_ | refine Below.alloc ?_ (by first | omega | (simp; done) | (simp; omega)) _ | refine Below.setCell ?_ (show _ ≤ _ by first | omega | (simp; omega)) _))), by with_reducible (repeat (first | exact Aside0.out HG3 | exact World.grownBy.refl _ _ | refine grown_drew ?_ | refine grown_alloc ?_ _ | refine grown_new ?_ (by first | exact Nat.le_refl _ | omega | (simp; omega)) _))⟩
    all_goals (with_reducible repeat (first | exact HM3.out | refine Kd.R_drew ?_ | refine Kd.R_far ?_ (fun k hk => Nat.ne_of_gt hk) _ | refine Kd.R_alloc ?_ _))
end Go.Proofs.Ytioooiflpabngaa.PAll
end
section
namespace Go.Proofs.Ytioooiflpabngaa.PAll
open Go.RowKit Go.Proofs.YtioooiflpabngaaW.PrintWords Go.Proofs.YtioooiflpabngaaW.PrintLast Go.Proofs.YtioooiflpabngaaW.PrintMore
set_option linter.unusedVariables false
set_option linter.unusedSimpArgs false
def eLoop : Nat → Bool → List S32 → List Int → Bool → List S32 × Bool × List Int × Bool
  | 0, ok, acc, l, bad => (acc, ok, l, bad)
  | n + 1, ok, acc, l, bad => if ok = true then eLoop n (eRd l bad).2.1 (acc ++ [(eRd l bad).1]) (eRd l bad).2.2.1 (eRd l bad).2.2.2 else (acc, ok, l, bad)
def lLoop : Nat → Bool → List S27 → List Int → Bool → List S27 × Bool × List Int × Bool
  | 0, ok, acc, l, bad => (acc, ok, l, bad)
  | n + 1, ok, acc, l, bad => if ok = true then lLoop n (lRd l bad).2.1 (acc ++ [(lRd l bad).1]) (lRd l bad).2.2.1 (lRd l bad).2.2.2 else (acc, ok, l, bad)
theorem eLoop_len : ∀ (n : Nat) (ok : Bool) (acc : List S32) (l : List Int) (bad : Bool), (eLoop n ok acc l bad).2.2.1.length ≤ l.length ∧ (eLoop n ok acc l bad).1.length ≤ acc.length + n := by
  intro n
  induction n with
  | zero => intro ok acc l bad; exact ⟨Nat.le_refl _, Nat.le_refl _⟩
  | succ n ih =>
    intro ok acc l bad
    simp only [eLoop]
    split
    · have h := ih (eRd l bad).2.1 (acc ++ [(eRd l bad).1]) (eRd l bad).2.2.1 (eRd l bad).2.2.2
      have h2 := eRd_len l bad
      simp only [List.length_append, List.length_singleton] at h
      omega
    · exact ⟨Nat.le_refl _, by simp only; omega⟩
theorem lLoop_len : ∀ (n : Nat) (ok : Bool) (acc : List S27) (l : List Int) (bad : Bool), (lLoop n ok acc l bad).2.2.1.length ≤ l.length ∧ (lLoop n ok acc l bad).1.length ≤ acc.length + n := by
  intro n
  induction n with
  | zero => intro ok acc l bad; exact ⟨Nat.le_refl _, Nat.le_refl _⟩
  | succ n ih =>
    intro ok acc l bad
    simp only [lLoop]
    split
    · have h := ih (lRd l bad).2.1 (acc ++ [(lRd l bad).1]) (lRd l bad).2.2.1 (lRd l bad).2.2.2
      have h2 := lRd_len l bad
      simp only [List.length_append, List.length_singleton] at h
      omega
    · exact ⟨Nat.le_refl _, by simp only; omega⟩
def sRd (l : List Int) (N : Int) : S53 × Bool :=
  let a := iRd l false N
  let c := eLoop a.1.toNat true [] a.2.1 a.2.2
  let d := iRd c.2.2.1 c.2.2.2 N
  let e := lLoop d.1.toNat c.2.1 [] d.2.1 d.2.2
  let f := iRd e.2.2.1 e.2.2.2 N
  let v := vRd f.2.1 f.2.2
  (⟨c.1, e.1, f.1, v.1⟩, e.2.1 && v.2.1 && decide ((if v.2.2.2 = true then 0 else v.2.2.1.length) = 0))
def noE : S32 := ⟨⟨⟨0, 0⟩, 0, 0⟩, []⟩
def noS : S53 := ⟨[], [], 0, ⟨0, 0⟩⟩
def content_Decode.g (k : Nat) : List Int → Option (Int × S32 × S53 × Int)
  | [] => some (0, noE, noS, 3)
  | b :: t =>
    if b = 1 then if (eRd t false).2.1 = true ∧ (if (eRd t false).2.2.2 = true then 0 else (eRd t false).2.2.1.length) = 0 then some (1, (eRd t false).1, noS, 0) else some (0, noE, noS, 3)
    else if b = 2 then
      if (sRd t ((t.length : Int) + 1)).2 = true then
        (content_Right.f k (sRd t ((t.length : Int) + 1)).1.f0 (sRd t ((t.length : Int) + 1)).1.f1 (sRd t ((t.length : Int) + 1)).1.f2 (sRd t ((t.length : Int) + 1)).1.f3.f0 (sRd t ((t.length : Int) + 1)).1.f3.f1).bind fun r =>
          if r = true then some (2, noE, (sRd t ((t.length : Int) + 1)).1, 0) else some (0, noE, noS, 3)
      else some (0, noE, noS, 3)
    else some (0, noE, noS, 3)
theorem results_tcct {P : Program} {fn : Func} {p q u v : Tmp} {ty ty2 : TypeId} (h : fn.results = #[.tmp u, .cell p ty, .cell q ty2, .tmp v]) (tmps : Array Value) (w : World) (g g2 : Nat) (t t2 : TypeId) (cs cs2 : Array Value) (fr fr2 : Nat × Nat) (d d2 : TypeDesc)
    (hp : tmps.getD p undef = .pointer (some ⟨g, 0, none⟩)) (hg : w.heap[g]? = some (.cells cs t fr)) (hq : tmps.getD q undef = .pointer (some ⟨g2, 0, none⟩)) (hg2 : w.heap[g2]? = some (.cells cs2 t2 fr2))
    (hu : P.underlying ty = some d) (hd : (match d with | .struct _ | .array _ _ => true | _ => false) = true) (hi : (P.info? ty).map (·.size) = some cs.size)
    (hu2 : P.underlying ty2 = some d2) (hd2 : (match d2 with | .struct _ | .array _ _ => true | _ => false) = true) (hi2 : (P.info? ty2).map (·.size) = some cs2.size) :
    (results fn tmps).run P w = .ok (.tuple #[tmps.getD u undef, .agg cs, .agg cs2, tmps.getD v undef]) w := by
  have hp' : tmps[p]?.getD undef = .pointer (some ⟨g, 0, none⟩) := by simpa using hp
  have hq' : tmps[q]?.getD undef = .pointer (some ⟨g2, 0, none⟩) := by simpa using hq
  simp [results, h, hp', hq', asAddr, run_loadVar_row w g t ty cs fr d hg hu hd hi, run_loadVar_row w g2 t2 ty2 cs2 fr2 d2 hg2 hu2 hd2 hi2]
abbrev zE : Array Value := #[.int .u64 0, .int .i64 0, .int .u64 0, .int .i64 0, .slice none 0 0]
abbrev zS : Array Value := #[.slice none 0 0, .slice none 0 0, .int .i64 0, .int .u64 0, .int .i64 0]
structure SumSt (w wr : World) (v u : Value) (con : List S32) (ord : List S27) (nx hn hp : Int) (l : List Int) (bad : Bool) : Prop where
  rd : Rd wr (w.heap.size + 2) l bad
  b0 : wr.heap[w.heap.size]? = some (.cells zE 32 (0, 0))
  b1 : wr.heap[w.heap.size + 1]? = some (.cells zS 53 (0, 0))
  b3 : wr.heap[w.heap.size + 3]? = some (.cells #[v, u, .int .i64 nx, .int .u64 hn, .int .i64 hp] 53 (0, 0))
  rv : Kd.R k32 32 wr w.heap.size (fun k => w.heap.size + 3 < k) v con
  ru : Kd.R k27 27 wr w.heap.size (fun k => w.heap.size + 3 < k) u ord
  bel : Below w.heap.size w wr
section
variable {w wr w2 W w1 : World} {v u : Value} {con : List S32} {ord : List S27} {nx hn hp : Int} {l l' : List Int} {bad bad' : Bool}
theorem SumSt.lt (h : SumSt w wr v u con ord nx hn hp l bad) : w.heap.size + 3 < wr.heap.size := blk_lt h.b3
theorem SumSt.grown (h : SumSt w wr v u con ord nx hn hp l bad) (hR : Rd w2 (w.heap.size + 2) l' bad') (hg : wr.grownBy w2 (some (w.heap.size + 2))) : SumSt w w2 v u con ord nx hn hp l' bad' := by
  have h3 := h.lt
  refine ⟨hR, blk_grown h.b0 hg (by simp), blk_grown h.b1 hg (by simp), blk_grown h.b3 hg (by simp), Kd.R_grown h.rv hg (fun k hk e => by simp at e; omega), Kd.R_grown h.ru hg (fun k hk e => by simp at e; omega), h.bel.trans ⟨hg.os, hg.tape, hg.output, hg.size, fun k hk => hg.block k (by omega) (fun e => by simp at e; omega)⟩⟩
theorem SumSt.below (h : SumSt w wr v u con ord nx hn hp l bad) (hb : Below wr.heap.size wr w2) : SumSt w w2 v u con ord nx hn hp l bad :=
  ⟨h.rd.keep (hb.mono h.rd.lt), blk_below h.b0 hb, blk_below h.b1 hb, blk_below h.b3 hb, Kd.R_below h.rv hb, Kd.R_below h.ru hb, h.bel.trans (hb.mono (by have := h.bel.size; omega))⟩
theorem rd_far (h : Rd wr (w.heap.size + 2) l bad) {p : Addr} (hp : w.heap.size + 2 < p.block) (x : Value) : Rd (wr.setCell p x) (w.heap.size + 2) l bad :=
  h.keep ((Below.refl _ _).setCell hp x)
theorem SumSt.set3 (h : SumSt w wr v u con ord nx hn hp l bad) (i : Nat) (x : Value) {v' u' : Value} {nx' hn' hp' : Int} (e : (#[v, u, .int .i64 nx, .int .u64 hn, .int .i64 hp] : Array Value).setIfInBounds i x = #[v', u', .int .i64 nx', .int .u64 hn', .int .i64 hp']) (ev : v' = v) (eu : u' = u) : SumSt w (wr.setCell ⟨w.heap.size + 3, i, none⟩ x) v' u' con ord nx' hn' hp' l bad := by
  subst ev
  subst eu
  refine ⟨rd_far h.rd (by simp) x, blk_far h.b0 (by simp) x, blk_far h.b1 (by simp) x, blk_put h.b3 i x e, Kd.R_far h.rv (fun k hk => Nat.ne_of_gt hk) x, Kd.R_far h.ru (fun k hk => Nat.ne_of_gt hk) x, h.bel.setCell (by simp) x⟩
theorem SumSt.pushV (h : SumSt w wr v u con ord nx hn hp l bad) (hb : Below wr.heap.size wr W) {v1 : Value} {con1 : List S32} (hg : W.grownBy w1 v.ownBlock) (hR : Kd.R k32 32 w1 w.heap.size (fun k => w.heap.size + 3 < k) v1 con1) (hB : Below w.heap.size w w1) :
    SumSt w (w1.setCell ⟨w.heap.size + 3, 0, none⟩ v1) v1 u con1 ord nx hn hp l bad ∧ w1.heap[w.heap.size + 3]? = some (.cells #[v, u, .int .i64 nx, .int .u64 hn, .int .i64 hp] 53 (0, 0)) := by
  have h2 := h.below hb
  have hlt := h2.lt
  have ho : ∀ k, v.ownBlock = some k → w.heap.size + 3 < k := h2.rv.1
  have blk : ∀ k, k ≤ w.heap.size + 3 → w1.heap[k]? = W.heap[k]? := fun k hk => hg.block k (by omega) (fun e => by have := ho k e.symm; omega)
  have b3 := (blk _ (Nat.le_refl _)).trans h2.b3
  have ru : Kd.R k27 27 w1 w.heap.size (fun k => w.heap.size + 3 < k) u ord := Kd.R_over h2.ru h2.rv (by decide) hg
  refine ⟨⟨?_, ?_, ?_, ?_, Kd.R_far hR (fun k hk => Nat.ne_of_gt hk) _, Kd.R_far ru (fun k hk => Nat.ne_of_gt hk) _, hB.setCell (by simp) _⟩, b3⟩
  · exact rd_far (h2.rd.keep ⟨hg.os, hg.tape, hg.output, hg.size, fun k hk => blk k (by omega)⟩) (by simp) _
  · exact blk_far ((blk _ (by omega)).trans h2.b0) (by simp) _
  · exact blk_far ((blk _ (by omega)).trans h2.b1) (by simp) _
  · exact blk_put b3 0 _ rfl
theorem SumSt.pushU (h : SumSt w wr v u con ord nx hn hp l bad) (hb : Below wr.heap.size wr W) {u1 : Value} {ord1 : List S27} (hg : W.grownBy w1 u.ownBlock) (hR : Kd.R k27 27 w1 w.heap.size (fun k => w.heap.size + 3 < k) u1 ord1) (hB : Below w.heap.size w w1) :
    SumSt w (w1.setCell ⟨w.heap.size + 3, 1, none⟩ u1) v u1 con ord1 nx hn hp l bad ∧ w1.heap[w.heap.size + 3]? = some (.cells #[v, u, .int .i64 nx, .int .u64 hn, .int .i64 hp] 53 (0, 0)) := by
  have h2 := h.below hb
  have hlt := h2.lt
  have ho : ∀ k, u.ownBlock = some k → w.heap.size + 3 < k := h2.ru.1
  have blk : ∀ k, k ≤ w.heap.size + 3 → w1.heap[k]? = W.heap[k]? := fun k hk => hg.block k (by omega) (fun e => by have := ho k e.symm; omega)
  have b3 := (blk _ (Nat.le_refl _)).trans h2.b3
  have rv : Kd.R k32 32 w1 w.heap.size (fun k => w.heap.size + 3 < k) v con := Kd.R_over h2.rv h2.ru (by decide) hg
  refine ⟨⟨?_, ?_, ?_, ?_, Kd.R_far rv (fun k hk => Nat.ne_of_gt hk) _, Kd.R_far hR (fun k hk => Nat.ne_of_gt hk) _, hB.setCell (by simp) _⟩, b3⟩
  · exact rd_far (h2.rd.keep ⟨hg.os, hg.tape, hg.output, hg.size, fun k hk => blk k (by omega)⟩) (by simp) _
  · exact blk_far ((blk _ (by omega)).trans h2.b0) (by simp) _
  · exact blk_far ((blk _ (by omega)).trans h2.b1) (by simp) _
  · exact blk_put b3 1 _ rfl
end
end Go.Proofs.Ytioooiflpabngaa.PAll
end
